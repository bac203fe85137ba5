/- Regions that draw their order. -/
import Derived.Test.YtapflcgnihdmoaaGreatDoorA4
/- A float's step: one outcome, whatever the continuation. -/
namespace X
open Go Go.RowKit
set_option linter.unusedVariables false
set_option linter.unusedSimpArgs false
set_option linter.unusedSectionVars false
variable [Luck]
/-- the step G goes on with one value, or with none -/
def Det {α : Type} (G : (α → Bool) → Bool) : Prop := (∃ v, ∀ k, G k = k v) ∨ ∀ k, G k = false
theorem det_k {α : Type} (v : α) : Det (fun k : α → Bool => k v) := .inl ⟨v, fun _ => rfl⟩
theorem det_no {α : Type} : Det (fun _ : α → Bool => false) := .inr fun _ => rfl
theorem det_brec {α : Type} {c : Bool} {G : (α → Bool) → Bool} (h : Det G) : Det (fun k => (Bool.rec false (G k) c : Bool)) := by
  cases c with
  | false => exact det_no
  | true => exact h
theorem det_brec2 {α : Type} {c : Bool} {G H : (α → Bool) → Bool} (h : Det G) (h' : Det H) : Det (fun k => (Bool.rec (H k) (G k) c : Bool)) := by
  cases c with
  | false => exact h'
  | true => exact h
theorem det_nrec {α : Type} {o : Nat} {G : (α → Bool) → Bool} (h : Det G) : Det (fun k => (Nat.rec (G k) (fun _ _ => false) o : Bool)) := by
  cases o with
  | zero => exact h
  | succ o => exact det_no
theorem det_wI {α : Type} {v : AV} {G : IntKind → Int → (α → Bool) → Bool} (h : ∀ t n, Det (G t n)) : Det (fun k => wI v fun t n => G t n k) := by
  cases v <;> first | exact h _ _ | exact det_no
theorem det_wS {α : Type} {v : AV} {G : List Nat → (α → Bool) → Bool} (h : ∀ s, Det (G s)) : Det (fun k => wS v fun s => G s k) := by
  cases v <;> first | exact h _ | exact det_no
theorem det_wBo {α : Type} {v : AV} {G : Bool → (α → Bool) → Bool} (h : ∀ s, Det (G s)) : Det (fun k => wBo v fun s => G s k) := by
  cases v <;> first | exact h _ | exact det_no
theorem det_wB {α : Type} {v : AV} {G H : (α → Bool) → Bool} (h : Det G) (h' : Det H) : Det (fun k => wB v (G k) (H k)) := by
  cases v with
  | bool c => cases c with
    | false => exact h'
    | true => exact h
  | _ => exact det_no
theorem det_wP {α : Type} {v : AV} {G : Id → Nat → Nat → (α → Bool) → Bool} (h : ∀ b i o, Det (G b i o)) : Det (fun k => wP v fun b i o => G b i o k) := by
  cases v <;> first | exact h _ _ _ | exact det_no
theorem det_wSl {α : Type} {v : AV} {H : (α → Bool) → Bool} {G : Id → Nat → Nat → Nat → Nat → Bool → (α → Bool) → Bool} (h' : Det H) (h : ∀ b i l r z e, Det (G b i l r z e)) : Det (fun k => wSl v (H k) fun b i l r z e => G b i l r z e k) := by
  cases v <;> first | exact h _ _ _ _ _ _ | exact h' | exact det_no
theorem det_wAg {α : Type} {v : AV} {G : List AV → (α → Bool) → Bool} (h : ∀ l, Det (G l)) : Det (fun k => wAg v fun l => G l k) := by
  cases v <;> first | exact h _ | exact det_no
theorem det_wTu {α : Type} {v : AV} {G : List AV → (α → Bool) → Bool} (h : ∀ l, Det (G l)) : Det (fun k => wTu v fun l => G l k) := by
  cases v <;> first | exact h _ | exact det_no
theorem det_wIf {α : Type} {v : AV} {G : Nat → AV → (α → Bool) → Bool} (h : ∀ t x, Det (G t x)) : Det (fun k => wIf v fun t x => G t x k) := by
  cases v <;> first | exact h _ _ | exact det_no
theorem det_pt {α : Type} {v : AV} {G : List AV → (α → Bool) → Bool} (h : ∀ l, Det (G l)) : Det (fun k => pt v fun l => G l k) := by
  cases v <;> first | exact h _ | exact det_no
theorem det_vX {α : Type} {v : AV} {G : AV → (α → Bool) → Bool} (h : ∀ l, Det (G l)) : Det (fun k => vX v fun l => G l k) := by
  have : (fun k => vX v fun l => G l k) = G v := by funext k; exact vX_eq v _
  rw [this]; exact h v
theorem det_wN {α : Type} {n : Int} {G : Nat → (α → Bool) → Bool} (h : ∀ m, Det (G m)) : Det (fun k => wN n fun m => G m k) := by
  cases n with
  | ofNat m => exact h m
  | negSucc m => exact det_no
theorem det_wNat {α : Type} {v : AV} {G : Nat → (α → Bool) → Bool} (h : ∀ m, Det (G m)) : Det (fun k => wNat v fun m => G m k) := det_wI fun _ _ => det_wN h
theorem det_nthL {α β : Type} : ∀ {l : List β} {i : Nat} {G : β → (α → Bool) → Bool}, (∀ x, Det (G x)) → Det (fun k => nthL l i fun x => G x k)
  | [], i, G, h => det_no
  | x :: l, 0, G, h => h x
  | x :: l, i + 1, G, h => det_nthL (l := l) (i := i) h
theorem det_wCe {α : Type} {s : St} {b : Id} {G : Nat → List (List AV) → (α → Bool) → Bool} (h : ∀ z l, Det (G z l)) : Det (fun k => wCe s b fun z l => G z l k) := by
  obtain ⟨hh, n⟩ := s
  show Det (fun k => wOb (hget b hh) fun z l => G z l k)
  cases hget b hh with
  | e => exact det_no
  | nd => exact det_no
  | ob o => cases o with
    | cells z l => exact h z l
    | glob z l => exact h z l
    | map _ => exact det_no
    | iter _ _ _ => exact det_no
theorem det_optN {α : Type} {x : Option AV} {d : Nat} {G : Nat → (α → Bool) → Bool} (h : ∀ m, Det (G m)) : Det (fun k => optN x d fun m => G m k) := by
  cases x with
  | none => exact h d
  | some v => exact det_wNat (v := v) h
theorem det_eO {α : Type} {e : Env} {x : Operand} {G : AV → (α → Bool) → Bool} (h : ∀ v, Det (G v)) : Det (fun k => eO e x fun v => G v k) := by
  cases x with
  | tmp t =>
    show Det (fun k => match lk e t with | some v => G v k | none => false)
    cases lk e t with
    | none => exact det_no
    | some v => exact h v
  | const v =>
    show Det (fun k => match ofVal v with
      | some a => G a k
      | none => match v with
        | .agg cs => match ofCells cs.toList with
          | some l => G (.agg l) k
          | none => false
        | _ => false)
    cases ofVal v with
    | some a => exact h a
    | none =>
      cases v with
      | agg cs =>
        show Det (fun k => match ofCells cs.toList with | some l => G (.agg l) k | none => false)
        cases ofCells cs.toList with
        | none => exact det_no
        | some l => exact h _
      | _ => exact det_no
  | global g =>
    match g with
    | 0 => exact h _
    | 1 => exact det_no
    | 2 => exact h _
    | n + 3 => exact det_no
  | func f => exact h _
theorem det_eL {α : Type} {e : Env} : ∀ {l : List Operand} {G : List AV → (α → Bool) → Bool}, (∀ v, Det (G v)) → Det (fun k => eL e l fun v => G v k)
  | [], G, h => h []
  | x :: l, G, h => det_eO (e := e) (x := x) fun v => det_eL (e := e) (l := l) (G := fun vs k => G (v :: vs) k) fun vs => h _
theorem det_eOo {α : Type} {e : Env} {x : Option Operand} {G : Option AV → (α → Bool) → Bool} (h : ∀ v, Det (G v)) : Det (fun k => eOo e x fun v => G v k) := by
  cases x with
  | none => exact h none
  | some x => exact det_eO (e := e) (x := x) fun v => h _
theorem det_rowsOf {α : Type} {z : Nat} {x : AV} {s : St} {G : Nat → List (List AV) → (α → Bool) → Bool} (h : ∀ n l, Det (G n l)) : Det (fun k => rowsOf z x s fun n l => G n l k) :=
  det_wSl (h 0 []) fun _ _ _ _ _ _ => det_wCe fun _ _ => det_brec (det_brec (h _ _))
theorem det_wII {α : Type} {x y : AV} {G : IntKind → Int → Int → (α → Bool) → Bool} (h : ∀ t m n, Det (G t m n)) : Det (fun k => wII x y fun t m n => G t m n k) := det_wI fun _ _ => det_wI fun _ _ => det_brec (h _ _ _)
theorem det_wEqK {α : Type} {c : Nat} {x y : AV} {G : Bool → (α → Bool) → Bool} (h : ∀ e, Det (G e)) : Det (fun k => wEqK c x y fun e => G e k) := by
  match c with
  | 0 => exact det_wI (v := x) fun _ _ => det_wI (v := y) fun _ _ => det_brec (det_brec (h _))
  | 1 => exact det_wS (v := x) fun _ => det_wS (v := y) fun _ => h _
  | n + 2 => exact det_wBo (v := x) fun _ => det_wBo (v := y) fun _ => h _
theorem det_feq {α : Type} : ∀ {g : List Nat} {a b : List AV} {G : Bool → (α → Bool) → Bool}, (∀ e, Det (G e)) → Det (fun k => feq g a b fun e => G e k)
  | [], [], [], G, h => h true
  | [], [], _ :: _, G, h => det_no
  | [], _ :: _, _, G, h => det_no
  | _ :: _, [], _, G, h => det_no
  | _ :: _, _ :: _, [], G, h => det_no
  | c :: g, x :: a, y :: b, G, h => by
    have ih := det_feq (g := g) (a := a) (b := b) h
    have hb : ∀ e : Bool, Det (fun k => (Bool.rec (G false k) (feq g a b fun e => G e k) e : Bool)) := fun e => det_brec2 ih (h false)
    exact det_wEqK (c := c) (x := x) (y := y) hb
/-- with the state -/
theorem det_s {G : (AV → Bool) → Bool} (h : Det G) (s : St) : (∃ v, ∀ k : K, G (fun v => k v s) = k v s) ∨ ∀ k : K, G (fun v => k v s) = false := by
  rcases h with ⟨v, h⟩ | h
  · exact .inl ⟨v, fun k => h _⟩
  · exact .inr fun k => h _
section
variable {x y : AV} {s : St}
theorem det_addX : Det (addX x y) := det_wII fun _ _ _ => det_k _
theorem det_subX : Det (subX x y) := det_wII fun _ _ _ => det_k _
theorem det_mulX : Det (mulX x y) := det_wII fun _ _ _ => det_k _
theorem det_quoX : Det (quoX x y) := det_wII fun _ _ _ => det_brec2 det_no (det_k _)
theorem det_remX : Det (remX x y) := det_wII fun _ _ _ => det_brec2 det_no (det_k _)
theorem det_lssX : Det (lssX x y) := det_wII fun _ _ _ => det_k _
theorem det_leqX : Det (leqX x y) := det_wII fun _ _ _ => det_k _
theorem det_gtrX : Det (gtrX x y) := det_wII fun _ _ _ => det_k _
theorem det_geqX : Det (geqX x y) := det_wII fun _ _ _ => det_k _
theorem det_eqiX : Det (eqiX x y) := det_wII fun _ _ _ => det_k _
theorem det_neiX : Det (neiX x y) := det_wII fun _ _ _ => det_k _
theorem det_eqsX : Det (eqsX x y) := det_wS fun _ => det_wS fun _ => det_k _
theorem det_nesX : Det (nesX x y) := det_wS fun _ => det_wS fun _ => det_k _
theorem det_ltsX : Det (ltsX x y) := det_wS fun _ => det_wS fun _ => det_k _
theorem det_nlsX : Det (nlsX x y) := det_wS fun _ => det_wS fun _ => det_k _
theorem det_shlX : Det (shlX x y) := det_wI fun _ _ => det_wI fun _ _ => det_wN fun _ => det_k _
theorem det_shrX : Det (shrX x y) := det_wI fun _ _ => det_wI fun _ _ => det_wN fun _ => det_wN fun _ => det_k _
theorem det_bitX {op : BinOp} : Det (bitX op x y) := det_wII fun _ _ _ => det_k _
theorem det_eqbX : Det (eqbX x y) := det_wBo fun _ => det_wBo fun _ => det_k _
theorem det_nebX : Det (nebX x y) := det_wBo fun _ => det_wBo fun _ => det_k _
theorem det_binX {d : TypeDesc} {op : BinOp} : Det (binX d op x y) := by
  unfold binX
  split <;> first
    | exact det_addX | exact det_subX | exact det_mulX | exact det_quoX | exact det_remX | exact det_lssX | exact det_leqX | exact det_gtrX | exact det_geqX | exact det_eqiX | exact det_neiX
    | exact det_eqsX | exact det_nesX | exact det_ltsX | exact det_nlsX | exact det_eqbX | exact det_nebX | exact det_shlX | exact det_shrX | exact det_bitX | exact det_no
theorem det_eqcX {g : List Nat} : Det (eqcX g x y) := det_wAg fun _ => det_wAg fun _ => det_feq fun _ => det_k _
theorem det_necX {g : List Nat} : Det (necX g x y) := det_wAg fun _ => det_wAg fun _ => det_feq fun _ => det_k _
theorem det_notX : Det (notX x) := det_wB (det_k _) (det_k _)
theorem det_negX : Det (negX x) := det_wI fun _ _ => det_k _
theorem det_ciX {t : IntKind} : Det (ciX t x) := det_wI fun _ _ => det_k _
theorem det_pkX {c : AV} : Det (pkX c x y) := det_wB (det_k _) (det_k _)
theorem det_ncX : Det (ncX x) := by cases x <;> first | exact det_k _ | exact det_no
theorem det_ldX : Det (ldX x s) := det_wP fun _ _ _ => det_wCe fun _ _ => det_nthL fun _ => det_nthL fun _ => det_k _
theorem det_lgX {n : Nat} : Det (lgX n x s) := det_wP fun _ _ o => det_wCe fun _ _ => det_nthL fun _ => det_brec2 (det_nrec (det_k _)) (det_brec (det_k _))
theorem det_faX {o : Nat} : Det (faX o x) := det_wP fun _ _ _ => det_k _
theorem det_flX {o : Nat} : Det (flX o x) := det_wAg fun _ => det_nthL fun _ => det_k _
theorem det_fgX {o n : Nat} : Det (fgX o n x) := det_wAg fun _ => det_brec (det_k _)
theorem det_iaX {z : Nat} : Det (iaX z x y) := det_wSl det_no fun _ _ _ _ _ _ => det_wNat fun _ => det_brec (det_brec (det_k _))
theorem det_iarX {n z : Nat} : Det (iarX n z x y) := det_wP fun _ _ _ => det_wNat fun _ => det_brec (det_k _)
theorem det_ixX {n : Nat} : Det (ixX n x y) := det_wAg fun _ => det_wNat fun _ => det_brec (det_nthL fun _ => det_k _)
theorem det_isX : Det (isX x y) := det_wS fun _ => det_wNat fun _ => det_nthL fun _ => det_k _
theorem det_exX {i : Nat} : Det (exX i x) := det_wTu fun _ => det_nthL fun _ => det_k _
theorem det_taX {t : Nat} : Det (taX t x) := det_wIf fun _ _ => det_brec (det_k _)
theorem det_lenX : Det (lenX x) := by cases x <;> first | exact det_k _ | exact det_no
theorem det_lnsX : Det (lnsX x) := det_wS fun _ => det_k _
theorem det_capX : Det (capX x) := det_wSl (det_k _) fun _ _ _ _ _ _ => det_brec (det_k _)
theorem det_slX {z : Nat} {lo hi mx : Option AV} : Det (slX z x lo hi mx) :=
  det_wSl (det_optN fun _ => det_optN fun _ => det_optN fun _ => det_brec (det_k _)) fun _ _ _ _ _ _ => det_optN fun _ => det_optN fun _ => det_optN fun _ => det_brec (det_brec (det_brec (det_brec (det_k _))))
theorem det_mx2 : Det (mx2 x y) := det_wII fun _ _ _ => det_brec2 (det_k _) (det_k _)
theorem det_mn2 : Det (mn2 x y) := det_wII fun _ _ _ => det_brec2 (det_k _) (det_k _)
theorem det_wBy {α : Type} {G : Nat → (α → Bool) → Bool} (h : ∀ m, Det (G m)) : Det (fun k => wBy x fun m => G m k) := det_wI fun _ _ => det_brec (det_wN fun _ => det_brec (h _))
theorem det_byt {α : Type} : ∀ {l : List (List AV)} {G : List Nat → (α → Bool) → Bool}, (∀ m, Det (G m)) → Det (fun k => byt l fun m => G m k)
  | [], G, h => h []
  | r :: l, G, h => det_nthL (l := r) (i := 0) fun v => det_wBy (x := v) fun n => det_byt (l := l) (G := fun m k => G (n :: m) k) fun m => h _
theorem det_bstrX : Det (bstrX x s) := det_rowsOf fun _ _ => det_byt fun _ => det_k _
theorem det_eqnX {n : Nat} : Det (eqnX n x) := by
  unfold eqnX
  split <;> first
    | exact det_no
    | (cases x <;> first | exact det_k _ | exact det_no)
theorem det_nenX {n : Nat} : Det (nenX n x) := by
  unfold nenX
  split <;> first
    | exact det_no
    | (cases x <;> first | exact det_k _ | exact det_no)
end
end X
/- Two values found the same are the same. -/
namespace X
open Go Go.RowKit
set_option linter.unusedVariables false
set_option linter.unusedSimpArgs false
set_option linter.unusedSectionVars false
variable [Luck]
theorem wM_true {v : AV} {n : Bool} {k : Id → Bool} (h : wM v n k = true) : (v = .nilm ∧ n = true) ∨ ∃ b, v = .map b ∧ k b = true := by
  cases v <;> first | exact .inl ⟨rfl, h⟩ | exact .inr ⟨_, rfl, h⟩ | cases h
theorem dN_inj {a b : D} (h : Nat.beq (dN a) (dN b) = true) : a = b := by cases a <;> cases b <;> first | rfl | cases h
theorem idEq_true {a b : Id} {k : Bool} (h : idEq a b k = true) : a = b ∧ k = true := by
  obtain ⟨a1, a2, a3, a4, a5, a6⟩ := a
  obtain ⟨b1, b2, b3, b4, b5, b6⟩ := b
  obtain ⟨h1, h⟩ := brec_true h
  obtain ⟨h2, h⟩ := brec_true h
  obtain ⟨h3, h⟩ := brec_true h
  obtain ⟨h4, h⟩ := brec_true h
  obtain ⟨h5, h⟩ := brec_true h
  obtain ⟨h6, h⟩ := brec_true h
  rw [dN_inj h1, dN_inj h2, dN_inj h3, dN_inj h4, dN_inj h5, dN_inj h6]
  exact ⟨rfl, h⟩
theorem bq_true {a b : Bool} (h : bq a b = true) : a = b := by rw [bq_eq] at h; simpa using h
theorem eqVL_cons (x : AV) (l : List AV) (m : List AV) (k : Bool) : eqVL (x :: l) m k = (List.rec false (fun y m _ => eqV x y (eqVL l m k)) m : Bool) := rfl
theorem eqV_true (a : AV) : ∀ (b : AV) (k : Bool), eqV a b k = true → a = b ∧ k = true := by
  refine AV.rec (motive_1 := fun a => ∀ (b : AV) (k : Bool), eqV a b k = true → a = b ∧ k = true) (motive_2 := fun l => ∀ (m : List AV) (k : Bool), eqVL l m k = true → l = m ∧ k = true) ?_ ?_ ?_ ?_ ?_ ?_ ?_ ?_ ?_ ?_ ?_ ?_ ?_ ?_ ?_ ?_ ?_ ?_ a
  · intro p b k h
    obtain ⟨c, rfl, h1⟩ := wBo_true (v := b) h
    obtain ⟨h2, h3⟩ := brec_true h1
    exact ⟨by rw [bq_true h2], h3⟩
  · intro t n b k h
    obtain ⟨u, m, rfl, h1⟩ := wI_true (v := b) h
    obtain ⟨h2, h3⟩ := brec_true h1
    obtain ⟨h4, h5⟩ := brec_true h3
    rw [ieq_eq] at h4
    exact ⟨by rw [kq_true h2, of_decide_eq_true h4], h5⟩
  · intro s b k h
    obtain ⟨r, rfl, h1⟩ := wS_true (v := b) h
    obtain ⟨h2, h3⟩ := brec_true h1
    rw [lbeq_eq] at h2
    exact ⟨by rw [of_decide_eq_true h2], h3⟩
  · intro b k h
    rcases isNilP_true (x := b) h with ⟨rfl, h1⟩ | ⟨_, _, _, rfl, h1⟩
    · exact ⟨rfl, h1⟩
    · cases h1
  · intro c i o b k h
    obtain ⟨d, j, p, rfl, h1⟩ := wP_true (v := b) h
    obtain ⟨h2, h3⟩ := idEq_true h1
    obtain ⟨h4, h5⟩ := brec_true h3
    obtain ⟨h6, h7⟩ := brec_true h5
    exact ⟨by rw [h2, neq_true h4, neq_true h6], h7⟩
  · intro b k h
    rcases isNilS_true (x := b) h with ⟨rfl, h1⟩ | ⟨_, _, _, _, _, _, rfl, h1⟩
    · exact ⟨rfl, h1⟩
    · cases h1
  · intro c i l r z ex b k h
    rcases wSl_true (v := b) h with ⟨_, h1⟩ | ⟨d, j, m, q, u, ey, rfl, h1⟩
    · cases h1
    · obtain ⟨h2, h3⟩ := idEq_true h1
      obtain ⟨h4, h5⟩ := brec_true h3
      obtain ⟨h6, h7⟩ := brec_true h5
      obtain ⟨h8, h9⟩ := brec_true h7
      obtain ⟨g1, g2⟩ := brec_true h9
      obtain ⟨g3, g4⟩ := brec_true g2
      exact ⟨by rw [h2, neq_true h4, neq_true h6, neq_true h8, neq_true g1, bq_true g3], g4⟩
  · intro f x y ih1 ih2 b k h
    obtain ⟨g, p, q, rfl, h1⟩ := wFn_true (v := b) h
    obtain ⟨h2, h3⟩ := brec_true h1
    obtain ⟨h4, h5⟩ := ih1 p _ h3
    obtain ⟨h6, h7⟩ := ih2 q _ h5
    exact ⟨by rw [neq_true h2, h4, h6], h7⟩
  · intro b k h
    rcases isNilF_true (x := b) h with ⟨rfl, h1⟩ | ⟨_, _, _, rfl, h1⟩
    · exact ⟨rfl, h1⟩
    · cases h1
  · intro t v ih b k h
    obtain ⟨u, y, rfl, h1⟩ := wIf_true (v := b) h
    obtain ⟨h2, h3⟩ := brec_true h1
    obtain ⟨h4, h5⟩ := ih y _ h3
    exact ⟨by rw [neq_true h2, h4], h5⟩
  · intro b k h
    rcases isNilI_true (x := b) h with ⟨rfl, h1⟩ | ⟨_, _, rfl, h1⟩
    · exact ⟨rfl, h1⟩
    · cases h1
  · intro b k h
    rcases isNilM_true (x := b) h with ⟨rfl, h1⟩ | ⟨_, rfl, h1⟩
    · exact ⟨rfl, h1⟩
    · cases h1
  · intro c b k h
    rcases wM_true (v := b) h with ⟨_, h1⟩ | ⟨d, rfl, h1⟩
    · cases h1
    · obtain ⟨h2, h3⟩ := idEq_true h1
      exact ⟨by rw [h2], h3⟩
  · intro l ih b k h
    obtain ⟨m, rfl, h1⟩ := wAg_true (v := b) h
    obtain ⟨h2, h3⟩ := ih m _ h1
    exact ⟨by rw [h2], h3⟩
  · intro l ih b k h
    obtain ⟨m, rfl, h1⟩ := wTu_true (v := b) h
    obtain ⟨h2, h3⟩ := ih m _ h1
    exact ⟨by rw [h2], h3⟩
  · intro b k h
    have h : isSym b k = true := h
    cases b <;> first | exact ⟨rfl, h⟩ | cases h
  · intro m k h
    cases m with
    | nil => exact ⟨rfl, h⟩
    | cons y m => cases h
  · intro x l ih1 ih2 m k h
    cases m with
    | nil => cases h
    | cons y m =>
      obtain ⟨h1, h2⟩ := ih1 y _ (show eqV x y (eqVL l m k) = true from h)
      obtain ⟨h3, h4⟩ := ih2 m _ h2
      exact ⟨by rw [h1, h3], h4⟩
theorem eqR_true : ∀ {l m : List AV} {k : Bool}, eqR l m k = true → l = m ∧ k = true
  | [], [], k, h => ⟨rfl, h⟩
  | [], _ :: _, k, h => by cases h
  | _ :: _, [], k, h => by cases h
  | x :: l, y :: m, k, h => by
    obtain ⟨h1, h2⟩ := eqV_true x y _ (show eqV x y (eqR l m k) = true from h)
    obtain ⟨h3, h4⟩ := eqR_true h2
    exact ⟨by rw [h1, h3], h4⟩
theorem eqRs_true : ∀ {l m : List (List AV)} {k : Bool}, eqRs l m k = true → l = m ∧ k = true
  | [], [], k, h => ⟨rfl, h⟩
  | [], _ :: _, k, h => by cases h
  | _ :: _, [], k, h => by cases h
  | x :: l, y :: m, k, h => by
    obtain ⟨h1, h2⟩ := eqR_true (show eqR x y (eqRs l m k) = true from h)
    obtain ⟨h3, h4⟩ := eqRs_true h2
    exact ⟨by rw [h1, h3], h4⟩
theorem sameO_true {b c : Id} {s : St} {k : Bool} (h : sameO b c s k = true) : ∃ z l, hget b (hp s) = .ob (.cells z l) ∧ hget c (hp s) = .ob (.cells z l) ∧ k = true := by
  obtain ⟨z, l, h1, h2⟩ := wCw_true h
  obtain ⟨u, m, h3, h4⟩ := wCw_true h2
  obtain ⟨h5, h6⟩ := brec_true h4
  obtain ⟨h7, h8⟩ := eqRs_true h6
  exact ⟨z, l, h1, by rw [h3, ← neq_true h5, h7], h8⟩
end X
/- A float that makes nothing: one outcome, the state as it was; the same in a state that has more blocks. -/
namespace X
open Go Go.RowKit
set_option linter.unusedVariables false
set_option linter.unusedSimpArgs false
set_option linter.unusedSectionVars false
variable [Luck]
/-- the same value in two states -/
def DD (s s' : St) (F : St → K → Bool) : Prop := (∃ v, (∀ k : K, F s k = k v s) ∧ ∀ k : K, F s' k = k v s') ∨ ∀ k : K, F s k = false
/-- all blocks of the one are blocks of the other -/
def SLe (s s' : St) : Prop := ∀ b o, hget b (hp s) = .ob o → hget b (hp s') = .ob o
theorem dd_of {s s' : St} {G : (AV → Bool) → Bool} (h : Det G) : DD s s' (fun s k => G fun v => k v s) := by
  rcases h with ⟨v, h⟩ | h
  · exact .inl ⟨v, fun k => h _, fun k => h _⟩
  · exact .inr fun k => h _
theorem dd_no {s s' : St} : DD s s' (fun _ _ => false) := .inr fun _ => rfl
variable {P : Program} {call : Nat → Fn} {inv : Env → Operand → String → List Operand → St → K → Bool} {eqs : List (Nat × List Nat)} {c : Clo} {e : Env} {s s' : St}
theorem det_eP {α : Type} {place : Nat → Option (Nat × Nat)} : ∀ {l : List (Nat × Operand)} {G : List (Nat × Nat × AV) → (α → Bool) → Bool}, (∀ v, Det (G v)) → Det (fun k => eP e place l fun v => G v k)
  | [], G, h => h []
  | (i, x) :: l, G, h => by
    show Det (fun k => match place i with
      | some (off, sz) => eO e x fun v => eP e place l fun l => G ((off, sz, v) :: l) k
      | none => false)
    cases place i with
    | none => exact det_no
    | some q => exact det_eO (e := e) (x := x) fun v => det_eP (l := l) (G := fun vs k => G ((q.1, q.2, v) :: vs) k) fun vs => h _
theorem det_fillX {α : Type} {n : Nat} : ∀ {ps : List (Nat × Nat × AV)} {z : List AV} {G : List AV → (α → Bool) → Bool}, (∀ v, Det (G v)) → Det (fun k => fillX n z ps fun v => G v k)
  | [], z, G, h => h z
  | (o, m, x) :: ps, z, G, h => by
    show Det (fun k => pt x fun l => Bool.rec false (Bool.rec false (fillX n (overAt z o l) ps fun v => G v k) (Nat.beq (len l) m)) (Nat.ble (Nat.add o m) n))
    exact det_pt fun l => det_brec (det_brec (det_fillX (ps := ps) (z := overAt z o l) h))
theorem dd_eO {x : Operand} {G : AV → St → K → Bool} (h : ∀ v, DD s s' (G v)) : DD s s' (fun s k => eO e x fun v => G v s k) := by
  cases x with
  | tmp t =>
    show DD s s' (fun s k => match lk e t with | some v => G v s k | none => false)
    cases lk e t with
    | none => exact dd_no
    | some v => exact h v
  | const v =>
    show DD s s' (fun s k => match ofVal v with
      | some a => G a s k
      | none => match v with
        | .agg cs => match ofCells cs.toList with
          | some l => G (.agg l) s k
          | none => false
        | _ => false)
    cases ofVal v with
    | some a => exact h a
    | none =>
      cases v with
      | agg cs =>
        show DD s s' (fun s k => match ofCells cs.toList with | some l => G (.agg l) s k | none => false)
        cases ofCells cs.toList with
        | none => exact dd_no
        | some l => exact h _
      | _ => exact dd_no
  | global g =>
    match g with
    | 0 => exact h _
    | 1 => exact dd_no
    | 2 => exact h _
    | n + 3 => exact dd_no
  | func f => exact h _
theorem dd_wCe {b : Id} {G : Nat → List (List AV) → (AV → Bool) → Bool} (hle : SLe s s') (h : ∀ z l, Det (G z l)) : DD s s' (fun s k => wCe s b fun z l => G z l fun v => k v s) := by
  obtain ⟨h1, n1⟩ := s
  obtain ⟨h2, n2⟩ := s'
  have hle : ∀ o, hget b h1 = .ob o → hget b h2 = .ob o := fun o ho => hle b o ho
  have key : ∀ o, hget b h1 = .ob o → DD (.mk h1 n1) (.mk h2 n2) (fun s k => wCe s b fun z l => G z l fun v => k v s) := fun o ho => by
    have e1 : ∀ k : K, (wCe (.mk h1 n1) b fun z l => G z l fun v => k v (.mk h1 n1)) = wOb (.ob o) fun z l => G z l fun v => k v (.mk h1 n1) := fun k => by
      show wOb (hget b h1) _ = _
      rw [ho]
    have e2 : ∀ k : K, (wCe (.mk h2 n2) b fun z l => G z l fun v => k v (.mk h2 n2)) = wOb (.ob o) fun z l => G z l fun v => k v (.mk h2 n2) := fun k => by
      show wOb (hget b h2) _ = _
      rw [hle o ho]
    have fin : ∀ z l, (∀ k : (AV → Bool), (wOb (.ob o) fun z l => G z l k) = G z l k) → DD (.mk h1 n1) (.mk h2 n2) (fun s k => wCe s b fun z l => G z l fun v => k v s) := fun z l hg => by
      rcases h z l with ⟨v, hv⟩ | hv
      · exact .inl ⟨v, fun k => (e1 k).trans ((hg _).trans (hv _)), fun k => (e2 k).trans ((hg _).trans (hv _))⟩
      · exact .inr fun k => (e1 k).trans ((hg _).trans (hv _))
    cases o with
    | cells z l => exact fin z l fun _ => rfl
    | glob z l => exact fin z l fun _ => rfl
    | map _ => exact .inr fun k => e1 k
    | iter _ _ _ => exact .inr fun k => e1 k
  cases hb : hget b h1 with
  | ob o => exact key o hb
  | e =>
    refine .inr fun k => ?_
    show wOb (hget b h1) _ = _
    rw [hb]; rfl
  | nd =>
    refine .inr fun k => ?_
    show wOb (hget b h1) _ = _
    rw [hb]; rfl
theorem dd_ldX {x : AV} (hle : SLe s s') : DD s s' (fun s k => ldX x s fun v => k v s) := by
  cases x <;> first | exact dd_wCe (G := fun z l k => nthL l _ fun r => nthL r _ k) hle (fun _ _ => det_nthL fun _ => det_nthL fun _ => det_k _) | exact dd_no
theorem dd_lgX {x : AV} {n : Nat} (hle : SLe s s') : DD s s' (fun s k => lgX n x s fun v => k v s) := by
  cases x with
  | ptr b i o => exact dd_wCe (G := fun z l k => nthL l i fun r => Bool.rec (lgS n o r k) (Nat.rec (k (.agg r)) (fun _ _ => false) o) (Nat.beq n z)) hle (fun _ _ => det_nthL fun _ => det_brec2 (det_nrec (det_k _)) (det_brec (det_k _)))
  | _ => exact dd_no
theorem dd_bstrX {x : AV} (hle : SLe s s') : DD s s' (fun s k => bstrX x s fun v => k v s) := by
  cases x with
  | nils => exact dd_of (G := fun k => byt [] fun m => k (.str m)) (det_byt fun _ => det_k _)
  | sl b i n r y ex => exact dd_wCe (G := fun _ l k => Bool.rec false (Bool.rec false (byt (tk n (drp l i)) fun m => k (.str m)) (has n (drp l i))) (Nat.beq y 1)) hle (fun _ _ => det_brec (det_brec (det_byt fun _ => det_k _)))
  | _ => exact dd_no
theorem callB_det {b : Builtin} {as : List Operand} {ts : List TypeId} (hb : (b = .len ∧ lenK ts ≠ 3) ∨ b = .cap ∨ b = .min ∨ b = .max) : DD s s' (fun s k => callB P e b as ts s k) := by
  rcases hb with ⟨rfl, hl⟩ | rfl | rfl | rfl
  · match as, ts, hl with
    | [x], [t], hl =>
      have hne : Nat.beq t 250 = false := by
        cases h : Nat.beq t 250 with
        | false => rfl
        | true => exact absurd (show (match Nat.beq t 250 with | true => 3 | false => 0) = 3 by rw [h]) hl
      show DD s s' (fun s k => match P.underlying t with
        | some (.array n _) => k (goI n) s
        | some (.pointer u) => match P.underlying u with
          | some (.array n _) => k (goI n) s
          | _ => false
        | some .string => eO e x fun v => lnsX v fun v => k v s
        | some (.slice _) => eO e x fun v => lenX v fun v => k v s
        | some (.map _ _) => match Nat.beq t 250 with
          | true => eO e x fun v => lnmX v s fun v => k v s
          | false => false
        | _ => false)
      rw [hne]
      cases P.underlying t with
      | none => exact dd_no
      | some d => cases d with
        | array n _ => exact dd_of (G := fun k => k (goI n)) (det_k _)
        | pointer u =>
          show DD s s' (fun s k => match P.underlying u with
            | some (.array n _) => k (goI n) s
            | _ => false)
          cases P.underlying u with
          | none => exact dd_no
          | some d => cases d with
            | array n _ => exact dd_of (G := fun k => k (goI n)) (det_k _)
            | _ => exact dd_no
        | string => exact dd_of (G := fun k => eO e x fun v => lnsX v k) (det_eO fun _ => det_lnsX)
        | slice _ => exact dd_of (G := fun k => eO e x fun v => lenX v k) (det_eO fun _ => det_lenX)
        | _ => exact dd_no
    | [], _, _ => exact dd_no
    | [_], [], _ => exact dd_no
    | [_], _ :: _ :: _, _ => exact dd_no
    | _ :: _ :: _, _, _ => exact dd_no
  · match as, ts with
    | [x], [t] =>
      show DD s s' (fun s k => match P.underlying t with
        | some (.slice _) => eO e x fun v => capX v fun v => k v s
        | _ => false)
      cases P.underlying t with
      | none => exact dd_no
      | some d => cases d with
        | slice _ => exact dd_of (G := fun k => eO e x fun v => capX v k) (det_eO fun _ => det_capX)
        | _ => exact dd_no
    | [], _ => exact dd_no
    | [_], [] => exact dd_no
    | [_], _ :: _ :: _ => exact dd_no
    | _ :: _ :: _, _ => exact dd_no
  · match as with
    | [x, y] => exact dd_of (G := fun k => eO e x fun x => eO e y fun y => mn2 x y k) (det_eO fun _ => det_eO fun _ => det_mn2)
    | [] => exact dd_no
    | [_] => exact dd_no
    | _ :: _ :: _ :: _ => exact dd_no
  · match as with
    | [x, y] => exact dd_of (G := fun k => eO e x fun x => eO e y fun y => mx2 x y k) (det_eO fun _ => det_eO fun _ => det_mx2)
    | [] => exact dd_no
    | [_] => exact dd_no
    | _ :: _ :: _ :: _ => exact dd_no
theorem cmpOp_dd {o : Oper} (hk : fk o = 0 ∨ (fk o = 1 ∧ SLe s s')) : DD s s' (fun s k => cmpOp P call inv eqs c e o s k) := by
  obtain ⟨dst, op, ty, pos, after, guard⟩ := o
  cases op with
  | move x => exact dd_of (G := fun k => eO e x k) (det_eO fun v => det_k v)
  | assign x => exact dd_of (G := fun k => eO e x k) (det_eO fun v => det_k v)
  | pick c a b => exact dd_of (G := fun k => eO e c fun c => eO e a fun a => eO e b fun b => pkX c a b k) (det_eO fun _ => det_eO fun _ => det_eO fun _ => det_pkX)
  | nilCheck x => exact dd_of (G := fun k => eO e x fun x => ncX x k) (det_eO fun _ => det_ncX)
  | extract x i => exact dd_of (G := fun k => eO e x fun x => exX i x k) (det_eO fun _ => det_exX)
  | load t a =>
    have hle : SLe s s' := hk.elim (fun h => by cases h) (fun h => h.2)
    show DD s s' (fun s k => match aggT P t, szT P t with
      | some true, some n => eO e a fun x => lgX n x s fun v => k v s
      | some false, _ => eO e a fun x => ldX x s fun v => k v s
      | _, _ => false)
    cases aggT P t with
    | none => exact dd_no
    | some b => cases b with
      | false => exact dd_eO (fun x => dd_ldX hle)
      | true => cases szT P t with
        | none => exact dd_no
        | some n => exact dd_eO (fun x => dd_lgX hle)
  | unOp op t x => cases op with
    | not => exact dd_of (G := fun k => eO e x fun x => notX x k) (det_eO fun _ => det_notX)
    | neg => exact dd_of (G := fun k => eO e x fun x => negX x k) (det_eO fun _ => det_negX)
    | _ => exact dd_no
  | makeInterface t x =>
    show DD s s' (fun s k => match P.underlying t with
      | some (.interface _) => false
      | some _ => eO e x fun x => k (.ifc t x) s
      | none => false)
    cases P.underlying t with
    | none => exact dd_no
    | some d => cases d with
      | interface _ => exact dd_no
      | _ => exact dd_of (G := fun k => eO e x fun x => k (.ifc t x)) (det_eO fun _ => det_k _)
  | makeFunc fn a cc => cases fn with
    | func f => exact dd_of (G := fun k => eL e a.toList fun a => eL e cc.toList fun c => k (.fn f a c)) (det_eL fun _ => det_eL fun _ => det_k _)
    | _ => exact dd_no
  | fieldAddr t x i =>
    show DD s s' (fun s k => match P.underlying t with
      | some (.struct fs) => match fs[i]? with
        | some f => match szT P f.type with
          | some (_ + 1) => eO e x fun x => faX f.offset x fun v => k v s
          | _ => false
        | none => false
      | _ => false)
    cases P.underlying t with
    | none => exact dd_no
    | some d => cases d with
      | struct fs =>
        show DD s s' (fun s k => match fs[i]? with
          | some f => match szT P f.type with
            | some (_ + 1) => eO e x fun x => faX f.offset x fun v => k v s
            | _ => false
          | none => false)
        cases fs[i]? with
        | none => exact dd_no
        | some f =>
          show DD s s' (fun s k => match szT P f.type with
            | some (_ + 1) => eO e x fun x => faX f.offset x fun v => k v s
            | _ => false)
          cases szT P f.type with
          | none => exact dd_no
          | some n => cases n with
            | zero => exact dd_no
            | succ n => exact dd_of (G := fun k => eO e x fun x => faX f.offset x k) (det_eO fun _ => det_faX)
      | _ => exact dd_no
  | field t x i =>
    show DD s s' (fun s k => match P.underlying t with
      | some (.struct fs) => match fs[i]? with
        | some f => match aggT P f.type, szT P f.type with
          | some true, some n => eO e x fun x => fgX f.offset n x fun v => k v s
          | some false, _ => eO e x fun x => flX f.offset x fun v => k v s
          | _, _ => false
        | none => false
      | _ => false)
    cases P.underlying t with
    | none => exact dd_no
    | some d => cases d with
      | struct fs =>
        show DD s s' (fun s k => match fs[i]? with
          | some f => match aggT P f.type, szT P f.type with
            | some true, some n => eO e x fun x => fgX f.offset n x fun v => k v s
            | some false, _ => eO e x fun x => flX f.offset x fun v => k v s
            | _, _ => false
          | none => false)
        cases fs[i]? with
        | none => exact dd_no
        | some f =>
          show DD s s' (fun s k => match aggT P f.type, szT P f.type with
            | some true, some n => eO e x fun x => fgX f.offset n x fun v => k v s
            | some false, _ => eO e x fun x => flX f.offset x fun v => k v s
            | _, _ => false)
          cases aggT P f.type with
          | none => exact dd_no
          | some b => cases b with
            | false => exact dd_of (G := fun k => eO e x fun x => flX f.offset x k) (det_eO fun _ => det_flX)
            | true => cases szT P f.type with
              | none => exact dd_no
              | some n => exact dd_of (G := fun k => eO e x fun x => fgX f.offset n x k) (det_eO fun _ => det_fgX)
      | _ => exact dd_no
  | indexAddr t x i =>
    show DD s s' (fun s k => match P.underlying t with
      | some (.array n el) => match szT P el with
        | some z => eO e x fun x => eO e i fun i => iarX n z x i fun v => k v s
        | none => false
      | some (.slice el) => match szT P el with
        | some z => eO e x fun x => eO e i fun i => iaX z x i fun v => k v s
        | none => false
      | _ => false)
    cases P.underlying t with
    | none => exact dd_no
    | some d => cases d with
      | array n el =>
        show DD s s' (fun s k => match szT P el with
          | some z => eO e x fun x => eO e i fun i => iarX n z x i fun v => k v s
          | none => false)
        cases szT P el with
        | none => exact dd_no
        | some z => exact dd_of (G := fun k => eO e x fun x => eO e i fun i => iarX n z x i k) (det_eO fun _ => det_eO fun _ => det_iarX)
      | slice el =>
        show DD s s' (fun s k => match szT P el with
          | some z => eO e x fun x => eO e i fun i => iaX z x i fun v => k v s
          | none => false)
        cases szT P el with
        | none => exact dd_no
        | some z => exact dd_of (G := fun k => eO e x fun x => eO e i fun i => iaX z x i k) (det_eO fun _ => det_eO fun _ => det_iaX)
      | _ => exact dd_no
  | index t x i =>
    show DD s s' (fun s k => match P.underlying t with
      | some (.array n el) => match aggT P el, szT P el with
        | some false, some 1 => eO e x fun x => eO e i fun i => ixX n x i fun v => k v s
        | _, _ => false
      | some .string => eO e x fun x => eO e i fun i => isX x i fun v => k v s
      | _ => false)
    cases P.underlying t with
    | none => exact dd_no
    | some d => cases d with
      | array n el =>
        show DD s s' (fun s k => match aggT P el, szT P el with
          | some false, some 1 => eO e x fun x => eO e i fun i => ixX n x i fun v => k v s
          | _, _ => false)
        split
        · exact dd_of (G := fun k => eO e x fun x => eO e i fun i => ixX n x i k) (det_eO fun _ => det_eO fun _ => det_ixX)
        · exact dd_no
      | string => exact dd_of (G := fun k => eO e x fun x => eO e i fun i => isX x i k) (det_eO fun _ => det_eO fun _ => det_isX)
      | _ => exact dd_no
  | alloc t => rcases hk with h | ⟨h, _⟩ <;> cases h
  | box t x => rcases hk with h | ⟨h, _⟩ <;> cases h
  | buildSlice t n ps => rcases hk with h | ⟨h, _⟩ <;> cases h
  | makeSlice t l c => rcases hk with h | ⟨h, _⟩ <;> cases h
  | store t a v => rcases hk with h | ⟨h, _⟩ <;> cases h
  | range t m => rcases hk with h | ⟨h, _⟩ <;> cases h
  | next i b => cases b <;> (rcases hk with h | ⟨h, _⟩ <;> cases h)
  | entry i => rcases hk with h | ⟨h, _⟩ <;> cases h
  | makeMap t r => rcases hk with h | ⟨h, _⟩ <;> cases h
  | lookup t m x ok => rcases hk with h | ⟨h, _⟩ <;> cases h
  | mapUpdate t m x y => rcases hk with h | ⟨h, _⟩ <;> cases h
  | build t ps =>
    show DD s s' (fun s k => match szT P t, zeroC P t with
      | some n, some z => match P.underlying t with
        | some (.struct fs) => match plc P fs.toList with
          | some pl => eP e (fun i => pl[i]?) ps.toList fun ps => fillX n z ps fun l => vX (.agg l) fun v => k v s
          | none => false
        | some (.array _ el) => match szT P el with
          | some m => eP e (fun i => some (i * m, m)) ps.toList fun ps => fillX n z ps fun l => vX (.agg l) fun v => k v s
          | none => false
        | _ => false
      | _, _ => false)
    cases szT P t with
    | none => exact dd_no
    | some n => cases zeroC P t with
      | none => exact dd_no
      | some z =>
        show DD s s' (fun s k => match P.underlying t with
          | some (.struct fs) => match plc P fs.toList with
            | some pl => eP e (fun i => pl[i]?) ps.toList fun ps => fillX n z ps fun l => vX (.agg l) fun v => k v s
            | none => false
          | some (.array _ el) => match szT P el with
            | some m => eP e (fun i => some (i * m, m)) ps.toList fun ps => fillX n z ps fun l => vX (.agg l) fun v => k v s
            | none => false
          | _ => false)
        cases P.underlying t with
        | none => exact dd_no
        | some d => cases d with
          | struct fs =>
            show DD s s' (fun s k => match plc P fs.toList with
              | some pl => eP e (fun i => pl[i]?) ps.toList fun ps => fillX n z ps fun l => vX (.agg l) fun v => k v s
              | none => false)
            cases plc P fs.toList with
            | none => exact dd_no
            | some pl => exact dd_of (G := fun k => eP e (fun i => pl[i]?) ps.toList fun ps => fillX n z ps fun l => vX (.agg l) k) (det_eP fun _ => det_fillX fun _ => det_vX fun _ => det_k _)
          | array m el =>
            show DD s s' (fun s k => match szT P el with
              | some m => eP e (fun i => some (i * m, m)) ps.toList fun ps => fillX n z ps fun l => vX (.agg l) fun v => k v s
              | none => false)
            cases szT P el with
            | none => exact dd_no
            | some m => exact dd_of (G := fun k => eP e (fun i => some (i * m, m)) ps.toList fun ps => fillX n z ps fun l => vX (.agg l) k) (det_eP fun _ => det_fillX fun _ => det_vX fun _ => det_k _)
          | _ => exact dd_no
  | typeAssert x xt t ok => cases ok with
    | true => exact dd_no
    | false =>
      show DD s s' (fun s k => match P.underlying t with
        | some (.interface _) => false
        | some _ => eO e x fun x => taX t x fun v => k v s
        | none => false)
      cases P.underlying t with
      | none => exact dd_no
      | some d => cases d with
        | interface _ => exact dd_no
        | _ => exact dd_of (G := fun k => eO e x fun x => taX t x k) (det_eO fun _ => det_taX)
  | slice t x lo hi mx =>
    clear hk
    show DD s s' (fun s k => match P.underlying t with
      | some (.slice el) => match szT P el with
        | some z => match mx, hi with
          | some _, none => false
          | _, _ => eO e x fun x => eOo e lo fun lo => eOo e hi fun hi => eOo e mx fun mx => slX z x lo hi mx fun v => k v s
        | none => false
      | _ => false)
    cases P.underlying t with
    | none => exact dd_no
    | some d => cases d with
      | slice el =>
        show DD s s' (fun s k => match szT P el with
          | some z => match mx, hi with
            | some _, none => false
            | _, _ => eO e x fun x => eOo e lo fun lo => eOo e hi fun hi => eOo e mx fun mx => slX z x lo hi mx fun v => k v s
          | none => false)
        cases szT P el with
        | none => exact dd_no
        | some z =>
          have hh : DD s s' (fun s k => eO e x fun x => eOo e lo fun lo => eOo e hi fun hi => eOo e mx fun mx => slX z x lo hi mx fun v => k v s) := dd_of (G := fun k => eO e x fun x => eOo e lo fun lo => eOo e hi fun hi => eOo e mx fun mx => slX z x lo hi mx k) (det_eO fun _ => det_eOo fun _ => det_eOo fun _ => det_eOo fun _ => det_slX)
          cases mx with
          | none => exact hh
          | some m => cases hi with
            | none => exact dd_no
            | some _ => exact hh
      | _ => exact dd_no
  | convert a d x =>
    have hle : SLe s s' := hk.elim (fun h => by cases h) (fun h => h.2)
    clear hk
    show DD s s' (fun s k => match P.underlying a, P.underlying d with
      | some (.int _), some (.int t) => eO e x fun x => ciX t x fun v => k v s
      | some (.slice el), some .string => match P.underlying el with
        | some (.int .u8) => eO e x fun x => bstrX x s fun v => k v s
        | _ => false
      | _, _ => false)
    split
    · exact dd_of (G := fun k => eO e x fun x => ciX _ x k) (det_eO fun _ => det_ciX)
    · split
      · exact dd_eO (fun x => dd_bstrX hle)
      · exact dd_no
    · exact dd_no
  | binOp op t a b yt =>
    clear hk
    show DD s s' (fun s k => match P.underlying t with
      | some d => match nilK d b, nilK d a, op with
        | n + 1, _, .eql => eO e a fun x => eqnX (n + 1) x fun v => k v s
        | n + 1, _, .neq => eO e a fun x => nenX (n + 1) x fun v => k v s
        | 0, n + 1, .eql => eO e b fun x => eqnX (n + 1) x fun v => k v s
        | 0, n + 1, .neq => eO e b fun x => nenX (n + 1) x fun v => k v s
        | _, _, op => match d with
          | .struct _ => match sigOf t eqs, op with
            | some g, .eql => eO e a fun x => eO e b fun y => eqcX g x y fun v => k v s
            | some g, .neq => eO e a fun x => eO e b fun y => necX g x y fun v => k v s
            | _, _ => false
          | .array .. => false
          | d => eO e a fun x => eO e b fun y => binX d op x y fun v => k v s
      | none => false)
    cases P.underlying t with
    | none => exact dd_no
    | some d =>
      dsimp only
      split
      · exact dd_of (G := fun k => eO e a fun x => eqnX _ x k) (det_eO fun _ => det_eqnX)
      · exact dd_of (G := fun k => eO e a fun x => nenX _ x k) (det_eO fun _ => det_nenX)
      · exact dd_of (G := fun k => eO e b fun x => eqnX _ x k) (det_eO fun _ => det_eqnX)
      · exact dd_of (G := fun k => eO e b fun x => nenX _ x k) (det_eO fun _ => det_nenX)
      · split
        · split
          · exact dd_of (G := fun k => eO e a fun x => eO e b fun y => eqcX _ x y k) (det_eO fun _ => det_eO fun _ => det_eqcX)
          · exact dd_of (G := fun k => eO e a fun x => eO e b fun y => necX _ x y k) (det_eO fun _ => det_eO fun _ => det_necX)
          · exact dd_no
        · exact dd_no
        · exact dd_of (G := fun k => eO e a fun x => eO e b fun y => binX _ _ x y k) (det_eO fun _ => det_eO fun _ => det_binX)
  | call cl =>
    obtain ⟨cal, args, ats⟩ := cl
    cases cal with
    | value f => cases f <;> (rcases hk with h | ⟨h, _⟩ <;> cases h)
    | invoke r n => rcases hk with h | ⟨h, _⟩ <;> cases h
    | builtin b =>
      have hb : (b = .len ∧ lenK ats.toList ≠ 3) ∨ b = .cap ∨ b = .min ∨ b = .max := by
        cases b with
        | len =>
          refine .inl ⟨rfl, fun e => ?_⟩
          have hk : lenK ats.toList = 0 ∨ (lenK ats.toList = 1 ∧ SLe s s') := hk
          rw [e] at hk
          rcases hk with h | ⟨h, _⟩ <;> cases h
        | cap => exact .inr (.inl rfl)
        | min => exact .inr (.inr (.inl rfl))
        | max => exact .inr (.inr (.inr rfl))
        | _ => rcases hk with h | ⟨h, _⟩ <;> cases h
      exact callB_det hb
  | _ => exact dd_no
end X
/- A block that the abstract memory has had for a while is made. -/
namespace X
open Go Go.RowKit
set_option linter.unusedVariables false
set_option linter.unusedSimpArgs false
set_option linter.unusedSectionVars false
variable [Luck]
variable {P : Program} {w0 w : World} {s : St} {μ : Mu} {a : Act} {o : Oper}
/-- the block b, so far not in the world, is made -/
theorem R.made (h : R w0 s w μ) {b : Id} {z : Nat} {rows : List (List AV)} (hb : hget b (hp s) = .ob (.cells z rows)) (hn : μ b = none) {xs : List Value} {el : TypeId} (hrows : ∀ r ∈ rows, r.length = z) (hv : VC μ rows.flatten xs) :
    R w0 s { w with heap := w.heap.push (.cells xs.toArray el (0, 0)) } (setM μ b ⟨w.heap.size, 0, z, xs.length⟩) ∧ MLe μ (setM μ b ⟨w.heap.size, 0, z, xs.length⟩) ∧ ∀ c : Id, c ≠ b → setM μ b ⟨w.heap.size, 0, z, xs.length⟩ c = μ c := by
  have hne : ∀ c : Id, c ≠ b → setM μ b ⟨w.heap.size, 0, z, xs.length⟩ c = μ c := fun c hc => by simp [setM, hc]
  have hle : MLe μ (setM μ b ⟨w.heap.size, 0, z, xs.length⟩) := fun c p hc => by
    rw [hne c (fun e => by rw [e, hn] at hc; cases hc), hc]
  have hold : ∀ q : Nat, q < w.heap.size → (w.heap.push (.cells xs.toArray el (0, 0)))[q]? = w.heap[q]? := fun q hq => by rw [Array.getElem?_push, if_neg (by omega)]
  have hw0 : w0.heap.size ≤ w.heap.size := h.ext.size
  have hbn : b.n < (nx s).n := by
    rcases Nat.lt_or_ge b.n (nx s).n with hl | hl
    · exact hl
    · exact absurd hb (h.fr b hl _)
  have hfl := flat_len hrows
  refine ⟨h.step b (h.ext.trans ⟨rfl, rfl, rfl, by simp, fun k hk => hold k (by omega)⟩) hle h.fr (fun c hc => ?_) (fun c q hq => ?_) (fun c oc hc hoc => ⟨hoc, hne c hc, fun q hq => hold _ (h.bd c q hq)⟩) (fun oc q hoc hq => ?_), hle, hne⟩
  · rw [hne c (fun e => by rw [e] at hc; omega)]; exact h.nxt c hc
  · by_cases e : c = b
    · subst e; rw [setM_same] at hq; cases hq; simp
    · rw [hne c e] at hq; have := h.bd c q hq; simp; omega
  · rw [setM_same] at hq; cases hq
    rw [hb] at hoc; cases hoc
    refine ⟨⟨?_, hw0⟩, fun c o' p' hc _ hq' e => ?_⟩
    · refine Cl.mk_flat (xs := xs) (cs := xs.toArray) (el := el) rfl hrows ?_ (by simp) (by simp) (hv.mono hle) (fun q x hq => by simpa using hq)
      have := hv.1.1
      show 0 + rows.length * z ≤ xs.length
      omega
    · rw [hne c hc] at hq'
      have := h.bd c p' hq'
      have e : p'.g = w.heap.size := e
      omega
/-- what an operation that makes a block does: its rows, and the value that names it -/
def Mk (P : Program) (w : World) (μ : Mu) (z : Nat) (rows : List (List AV)) (mk : Id → AV) (r : Result Next) : Prop :=
  ∃ (xs : List Value) (el : TypeId) (x : Value), (∀ r ∈ rows, r.length = z) ∧ VC μ rows.flatten xs ∧ r = .ok (.value x) { w with heap := w.heap.push (.cells xs.toArray el (0, 0)) } ∧ ∀ (b : Id) (μ' : Mu), μ' b = some ⟨w.heap.size, 0, z, xs.length⟩ → VRel μ' (mk b) x
theorem Mk.late {z : Nat} {rows : List (List AV)} {mk : Id → AV} {r : Result Next} (hm : Mk P w μ z rows mk r) (h : R w0 s w μ) {b : Id} (hb : hget b (hp s) = .ob (.cells z rows)) (hn : μ b = none) :
    outR P (fun x w' => ∃ μ', MLe μ μ' ∧ (∀ c, c ≠ b → μ' c = μ c) ∧ VRel μ' (mk b) x ∧ R w0 s w' μ') r := by
  obtain ⟨xs, el, x, h1, h2, rfl, h4⟩ := hm
  obtain ⟨g1, g2, g3⟩ := h.made (el := el) hb hn h1 h2
  exact ⟨_, g2, g3, h4 b _ (setM_same _ _ _), g1⟩
theorem mk_alloc {t : TypeId} (ho : o.op = .alloc t) {z : Nat} {l : List AV} (hz : szT P t = some z) (hl : zeroC P t = some l) : Mk P w μ z [l] (fun b => .ptr b 0 0) ((execOp a.eval o).run P w) := by
  obtain ⟨i, hi, rfl⟩ := szT_inv hz
  obtain ⟨i', v, hi', hv, hc, hlen⟩ := zeroC_inv (μ := μ) hl
  rw [hi] at hi'; cases hi'
  refine ⟨v.cells.toList, t, .pointer (some ⟨w.heap.size, 0, none⟩), by simp [hlen], by simpa using hc, ?_, fun b μ' hb => vptr hb 0 0 (by simp)⟩
  simp [execOp, ho, Instr.alloc, zeroValue, typeInfo, hi, hv, newVar, newRow]
theorem mk_box {t : TypeId} {x : Operand} (ho : o.op = .box t x) {z : Nat} {l : List AV} (hc : VC μ l (a.eval x).cells.toList) (hlen : l.length = z) : Mk P w μ z [l] (fun b => .ptr b 0 0) ((execOp a.eval o).run P w) := by
  refine ⟨(a.eval x).cells.toList, t, .pointer (some ⟨w.heap.size, 0, none⟩), by simp [hlen], by simpa using hc, ?_, fun b μ' hb => vptr hb 0 0 (by simp)⟩
  simp [execOp, ho, Instr.box, newVar, newRow]
theorem mk_buildSlice {e : Env} (hf : Fm μ e a) {t el : TypeId} {n : Nat} {ps : Array (Nat × Operand)} (ho : o.op = .buildSlice t n ps) (ht : P.underlying t = some (.slice el)) {z : Nat} {zr : List AV} (hz : szT P el = some z) (hzr : zeroC P el = some zr) (hsm : n * z ≤ 1000000) {k : List (List AV) → Bool}
    (h : eP e (fun i => some (i, z)) ps.toList (fun ps => rowsX z (rep zr n) ps k) = true) : ∃ rs, k rs = true ∧ Mk P w μ z rs (fun b => .sl b 0 n n z true) ((execOp a.eval o).run P w) := by
  obtain ⟨i, hi, rfl⟩ := szT_inv hz
  obtain ⟨i', v, hi', hv, hc, hlen⟩ := zeroC_inv (μ := μ) hzr
  rw [hi] at hi'; cases hi'
  obtain ⟨qs, h1, h2, h3⟩ := eP_true hf h
  have hcs : v.cells.size = i.size := by rw [← hlen]; simpa using hc.1.1.symm
  have h0 : VC μ (rep zr n).flatten ((Array.range (n * i.size)).map (fun q => v.cells[q % v.cells.size]!)).toList := rep_flat hc hlen n _ rfl _ (fun q hq => by
    have hz0 : 0 < i.size := by
      rcases Nat.eq_zero_or_pos i.size with e | e
      · rw [e] at hq; omega
      · exact e
    have : q % i.size < v.cells.size := by rw [hcs]; exact Nat.mod_lt _ hz0
    rw [hcs, Array.getElem?_eq_getElem this]
    exact congrArg some (getElem!_pos v.cells (q % i.size) this).symm)
  obtain ⟨rs', cs', h4, h5, h6, h7, h8⟩ := rows_sound (a := a) h1 (l := ps.toList) h2 h3 h0 (fun r hr => by rw [rep_eq] at hr; rw [(List.mem_replicate.1 hr).2, hlen])
  have h5 : rs'.length = n := by rw [h5, rep_eq, List.length_replicate]
  have hpl : (ps.map fun p => (p.1, a.eval p.2)).toList = ps.toList.map fun p => (p.1, a.eval p.2) := by simp
  have hrun : (Instr.buildSlice t n (ps.map fun p => (p.1, a.eval p.2))).run P w = .ok (.slice (some ⟨w.heap.size, 0, none⟩) n n) { w with heap := w.heap.push (.cells cs' el (0, 0)) } := by
    have hno : ¬ (2 ^ 24 < n * i.size) := by omega
    by_cases hz0 : n * i.size = 0
    · have e0 : ((Array.range (n * i.size)).map (fun q => v.cells[q % v.cells.size]!)) = #[] := by rw [hz0]; simp
      rw [e0] at h8
      simp only [Instr.buildSlice, Sem.run_bind, run_underlying ht, Result.andThen_ok, run_sz hi, gt_iff_lt, hno, if_false, hz0, if_true, Sem.run_pure, hpl]
      have e1 : (Array.range 0) = #[] := rfl
      simp [e1, h8, newRow]
    · simp only [Instr.buildSlice, Sem.run_bind, run_underlying ht, Result.andThen_ok, run_sz hi, gt_iff_lt, hno, if_false, hz0, zeroValue, typeInfo, hi, hv, Sem.run_pure, hpl]
      simp [h8, newRow, hi, hv]
  have hrun2 : (execOp a.eval o).run P w = .ok (.value (.slice (some ⟨w.heap.size, 0, none⟩) n n)) { w with heap := w.heap.push (.cells cs' el (0, 0)) } := by simp [execOp, ho, hrun]
  refine ⟨rs', h4, cs'.toList, el, _, h6, h7, by rw [hrun2], fun b μ' hb => ?_⟩
  refine .sl _ 0 n n _ true _ _ n hb rfl (Nat.le_refl _) (fun _ => rfl) (Nat.le_refl _) (fun _ => by simp) ?_
  have := h7.1.1
  rw [flat_len h6, h5] at this
  simpa using Nat.le_of_eq this
theorem mk_makeSlice {t el : TypeId} {l c : Operand} (ho : o.op = .makeSlice t l c) {i : TypeInfo} {v : Value} (ht : P.underlying t = some (.slice el)) (hi : P.info? el = some i) (hv : i.zero = some v) {zr : List AV} (hc : VC μ zr v.cells.toList) (hlen : zr.length = i.size) (hby : i.bytes ≤ 100000)
    {t1 t2 : IntKind} {m n : Nat} (hx : a.eval l = .int t1 (.ofNat m)) (hy : a.eval c = .int t2 (.ofNat n)) (g3 : m ≤ n) (g1 : n ≤ 1000000) : Mk P w μ i.size (rep zr n) (fun b => .sl b 0 m n i.size true) ((execOp a.eval o).run P w) := by
  have hzs : v.cells.size = i.size := by rw [← hlen]; simpa using hc.1.1.symm
  have hvc : VC μ (rep zr n).flatten (madeCells v.cells (n * i.size)).toList := rep_flat hc hlen n _ rfl _ (fun q hq => zc_get hzs hq)
  have hmul : (i.bytes : Int) * (n : Int) ≤ 281474976710656 := by
    have : i.bytes * n ≤ 100000 * 1000000 := Nat.mul_le_mul hby g1
    have h2 : ((i.bytes * n : Nat) : Int) ≤ 281474976710656 := by omega
    simpa using h2
  have hrun := run_make (P := P) w t el i v ht hi hv t1 t2 (Int.ofNat m) (Int.ofNat n) (Int.natCast_nonneg m) (Int.ofNat_le.2 g3) hmul (by show (n : Int) ≤ _; omega)
  have hrun2 : (execOp a.eval o).run P w = .ok (.value (.slice (some ⟨w.heap.size, 0, none⟩) m n)) { w with heap := w.heap.push (.cells (madeCells v.cells (n * i.size)) el (0, 0)) } := by
    simp only [execOp, ho, hx, hy, Sem.run_bind, hrun, Result.andThen_ok, Sem.run_pure]
    rfl
  refine ⟨(madeCells v.cells (n * i.size)).toList, el, _, rep_rows hlen, hvc, by rw [hrun2], fun b μ' hb => ?_⟩
  refine .sl _ 0 m n _ true _ _ n hb rfl (Nat.le_refl _) (fun _ => rfl) g3 (fun _ => by simp) ?_
  simp [size_madeCells]
end X
/- A step looks at its operands alone. -/
namespace X
open Go Go.RowKit
set_option linter.unusedVariables false
set_option linter.unusedSimpArgs false
set_option linter.unusedSectionVars false
variable [Luck]
variable {P : Program} {call : Nat → Fn} {inv : Env → Operand → String → List Operand → St → K → Bool} {eqs : List (Nat × List Nat)} {c : Clo} {e e' : Env} {s : St}
def SameAt (e e' : Env) (x : Operand) : Prop := ∀ t, x = .tmp t → lk e t = lk e' t
theorem eO_env {x : Operand} (h : SameAt e e' x) : eO e x = eO e' x := by
  funext k
  cases x with
  | tmp t =>
    show (match lk e t with | some v => k v | none => false) = (match lk e' t with | some v => k v | none => false)
    rw [h t rfl]
  | _ => rfl
theorem eL_env : ∀ {l : List Operand}, (∀ x ∈ l, SameAt e e' x) → eL e l = eL e' l
  | [], _ => rfl
  | x :: l, h => by
    funext k
    show eO e x (fun v => eL e l fun l => k (v :: l)) = eO e' x (fun v => eL e' l fun l => k (v :: l))
    rw [eO_env (h x (by simp)), eL_env (l := l) (fun y hy => h y (by simp [hy]))]
theorem eOo_env {x : Option Operand} (h : ∀ y, x = some y → SameAt e e' y) : eOo e x = eOo e' x := by
  funext k
  cases x with
  | none => rfl
  | some x =>
    show eO e x (fun v => k (some v)) = eO e' x (fun v => k (some v))
    rw [eO_env (h x rfl)]
theorem eP_env {place : Nat → Option (Nat × Nat)} : ∀ {l : List (Nat × Operand)}, (∀ p ∈ l, SameAt e e' p.2) → eP e place l = eP e' place l
  | [], _ => rfl
  | (i, x) :: l, h => by
    funext k
    show (match place i with
      | some (off, sz) => eO e x fun v => eP e place l fun l => k ((off, sz, v) :: l)
      | none => false) = (match place i with
      | some (off, sz) => eO e' x fun v => eP e' place l fun l => k ((off, sz, v) :: l)
      | none => false)
    rw [eO_env (x := x) (h (i, x) (by simp)), eP_env (l := l) (fun p hp => h p (by simp [hp]))]
/-- methods look at their operands alone -/
def InvEnv (inv : Env → Operand → String → List Operand → St → K → Bool) : Prop := ∀ e e' r n as s k, SameAt e e' r → (∀ x ∈ as, SameAt e e' x) → inv e r n as s k = inv e' r n as s k
theorem callB_env {b : Builtin} {as : List Operand} {ts : List TypeId} {k : K} (h : ∀ x ∈ as, SameAt e e' x) : callB P e b as ts s k = callB P e' b as ts s k := by
  match as, h with
  | [], h => cases b <;> rfl
  | [x], h =>
    have hx := eO_env (h x (by simp))
    match ts with
    | [] => cases b <;> first | rfl | (unfold callB; simp only [hx])
    | [t] => cases b <;> first | rfl | (unfold callB; simp only [hx])
    | _ :: _ :: _ => cases b <;> first | rfl | (unfold callB; simp only [hx])
  | [x, y], h =>
    have hx := eO_env (h x (by simp))
    have hy := eO_env (h y (by simp))
    match ts with
    | [] => cases b <;> first | rfl | (unfold callB; simp only [hx, hy])
    | [t] => cases b <;> first | rfl | (unfold callB; simp only [hx, hy])
    | [t, u] => cases b <;> first | rfl | (unfold callB; simp only [hx, hy])
    | _ :: _ :: _ :: _ => cases b <;> first | rfl | (unfold callB; simp only [hx, hy])
  | _ :: _ :: _ :: _, h => cases b <;> rfl
theorem cmpOp_env (hi : InvEnv inv) {o : Oper} {k : K} (h : ∀ x ∈ o.op.operands.toList, SameAt e e' x) : cmpOp P call inv eqs c e o s k = cmpOp P call inv eqs c e' o s k := by
  obtain ⟨dst, op, ty, pos, after, guard⟩ := o
  simp only at h
  cases op with
  | move x => have hx := eO_env (h x (by simp [Op.operands])); unfold cmpOp; simp only [hx]
  | assign x => have hx := eO_env (h x (by simp [Op.operands])); unfold cmpOp; simp only [hx]
  | pick x y z =>
    have hx := eO_env (h x (by simp [Op.operands])); have hy := eO_env (h y (by simp [Op.operands])); have hz := eO_env (h z (by simp [Op.operands]))
    unfold cmpOp; simp only [hx, hy, hz]
  | alloc t => rfl
  | box t x => have hx := eO_env (h x (by simp [Op.operands])); unfold cmpOp; simp only [hx]
  | build t ps =>
    have hp : ∀ place, eP e place ps.toList = eP e' place ps.toList := fun place => eP_env fun p hp => h p.2 (by simp only [Op.operands, List.mem_map]; exact ⟨p, hp, rfl⟩)
    unfold cmpOp; simp only [hp]
  | buildSlice t n ps =>
    have hp : ∀ place, eP e place ps.toList = eP e' place ps.toList := fun place => eP_env fun p hp => h p.2 (by simp only [Op.operands, List.mem_map]; exact ⟨p, hp, rfl⟩)
    unfold cmpOp; simp only [hp]
  | load t x => have hx := eO_env (h x (by simp [Op.operands])); unfold cmpOp; simp only [hx]
  | store t x y =>
    have hx := eO_env (h x (by simp [Op.operands])); have hy := eO_env (h y (by simp [Op.operands]))
    unfold cmpOp; simp only [hx, hy]
  | nilCheck x => have hx := eO_env (h x (by simp [Op.operands])); unfold cmpOp; simp only [hx]
  | binOp op t x y u =>
    have hx := eO_env (h x (by simp [Op.operands])); have hy := eO_env (h y (by simp [Op.operands]))
    unfold cmpOp; simp only [hx, hy]
  | unOp op t x => have hx := eO_env (h x (by simp [Op.operands])); cases op <;> first | rfl | (unfold cmpOp; simp only [hx])
  | convert t u x => have hx := eO_env (h x (by simp [Op.operands])); unfold cmpOp; simp only [hx]
  | makeInterface t x => have hx := eO_env (h x (by simp [Op.operands])); unfold cmpOp; simp only [hx]
  | makeFunc f x y =>
    have hx := eL_env (l := x.toList) (fun z hz => h z (by simp only [Op.operands, Array.toList_append, List.mem_append]; exact .inl hz))
    have hy := eL_env (l := y.toList) (fun z hz => h z (by simp only [Op.operands, Array.toList_append, List.mem_append]; exact .inr hz))
    cases f <;> first | rfl | (unfold cmpOp; simp only [hx, hy])
  | makeSlice t x y =>
    have hx := eO_env (h x (by simp [Op.operands])); have hy := eO_env (h y (by simp [Op.operands]))
    unfold cmpOp; simp only [hx, hy]
  | slice t x lo hi mx =>
    have hx := eO_env (h x (by simp [Op.operands]))
    have h1 : eOo e lo = eOo e' lo := eOo_env fun y hy => h y (by subst hy; simp [Op.operands])
    have h2 : eOo e hi = eOo e' hi := eOo_env fun y hy => h y (by subst hy; simp [Op.operands])
    have h3 : eOo e mx = eOo e' mx := eOo_env fun y hy => h y (by subst hy; simp [Op.operands])
    unfold cmpOp; simp only [hx, h1, h2, h3]
  | fieldAddr t x i => have hx := eO_env (h x (by simp [Op.operands])); unfold cmpOp; simp only [hx]
  | field t x i => have hx := eO_env (h x (by simp [Op.operands])); unfold cmpOp; simp only [hx]
  | indexAddr t x y =>
    have hx := eO_env (h x (by simp [Op.operands])); have hy := eO_env (h y (by simp [Op.operands]))
    unfold cmpOp; simp only [hx, hy]
  | index t x y =>
    have hx := eO_env (h x (by simp [Op.operands])); have hy := eO_env (h y (by simp [Op.operands]))
    unfold cmpOp; simp only [hx, hy]
  | extract x i => have hx := eO_env (h x (by simp [Op.operands])); unfold cmpOp; simp only [hx]
  | typeAssert x t u ok => have hx := eO_env (h x (by simp [Op.operands])); cases ok <;> first | rfl | (unfold cmpOp; simp only [hx])
  | makeMap t r => cases r <;> rfl
  | range t x => have hx := eO_env (h x (by simp [Op.operands])); unfold cmpOp; simp only [hx]
  | next x b => have hx := eO_env (h x (by simp [Op.operands])); cases b <;> first | rfl | (unfold cmpOp; simp only [hx])
  | entry x => have hx := eO_env (h x (by simp [Op.operands])); unfold cmpOp; simp only [hx]
  | lookup t x y ok =>
    have hx := eO_env (h x (by simp [Op.operands])); have hy := eO_env (h y (by simp [Op.operands]))
    unfold cmpOp; simp only [hx, hy]
  | mapUpdate t x y z =>
    have hx := eO_env (h x (by simp [Op.operands])); have hy := eO_env (h y (by simp [Op.operands])); have hz := eO_env (h z (by simp [Op.operands]))
    unfold cmpOp; simp only [hx, hy, hz]
  | call cl =>
    obtain ⟨cal, args, ats⟩ := cl
    have ha : ∀ x ∈ args.toList, SameAt e e' x := fun x hx => h x (by
      simp only [Op.operands, Call.operands, Array.toList_append, List.mem_append]; exact .inr hx)
    have hl := eL_env ha
    cases cal with
    | value f =>
      have hf := eO_env (h f (by simp [Op.operands, Call.operands]))
      cases f <;> (unfold cmpOp; simp only [hl, hf])
    | invoke r n => exact hi e e' r n args.toList s k (h r (by simp [Op.operands, Call.operands])) ha
    | builtin b => exact callB_env ha
  | _ => rfl
end X
/- What a making makes. -/
namespace X
open Go Go.RowKit
set_option linter.unusedVariables false
set_option linter.unusedSimpArgs false
set_option linter.unusedSectionVars false
variable [Luck]
variable {P : Program} {call : Nat → Fn} {inv : Env → Operand → String → List Operand → St → K → Bool} {eqs : List (Nat × List Nat)} {c : Clo} {e : Env} {s : St}
/-- a value that names a block -/
def Nm (mk : Id → AV) : Prop := (mk = fun b => .ptr b 0 0) ∨ ∃ l n z, mk = fun b => .sl b 0 l n z true
/-- a step that makes a block of these rows -/
structure Making (P : Program) (e : Env) (o : Oper) (T : St) (F : K → Bool) (z : Nat) (rows : List (List AV)) (mk : Id → AV) (m : Id) : Prop where
  nm : Nm mk
  nxt : m.n = (nx T).n + 1
  run : ∀ k : K, F k = k (mk (nx T)) (.mk (hset (nx T) (.ob (.cells z rows)) (hp T)) m)
  mak : ∀ (w : World) (μ : Mu) (a : Act), Fm μ e a → Mk P w μ z rows mk ((execOp a.eval o).run P w)
theorem idS_det (b : Id) : Det (idS b) := by
  obtain ⟨a1, a2, a3, a4, a5, a6⟩ := b
  cases a6 <;> first | exact .inl ⟨_, fun _ => rfl⟩ | skip
  cases a5 <;> first | exact .inl ⟨_, fun _ => rfl⟩ | skip
  cases a4 <;> first | exact .inl ⟨_, fun _ => rfl⟩ | skip
  cases a3 <;> first | exact .inl ⟨_, fun _ => rfl⟩ | skip
  cases a2 <;> first | exact .inl ⟨_, fun _ => rfl⟩ | skip
  cases a1 <;> first | exact .inl ⟨_, fun _ => rfl⟩ | exact .inr fun _ => rfl
theorem newO_det (o : Ob) (T : St) : (∃ m : Id, m.n = (nx T).n + 1 ∧ ∀ k : Id → St → Bool, newO o T k = k (nx T) (.mk (hset (nx T) (.ob o) (hp T)) m)) ∨ ∀ k : Id → St → Bool, newO o T k = false := by
  obtain ⟨hh, n⟩ := T
  rcases idS_det n with ⟨c, hc⟩ | hc
  · refine .inl ⟨c, ?_, fun k => hc (fun m => k n (.mk (hset n (.ob o) hh) m))⟩
    obtain ⟨c', h1, h2⟩ := idS_true (b := n) (k := fun x => decide (x = c)) (by rw [hc]; simp)
    rw [← of_decide_eq_true h2]; exact h1
  · exact .inr fun k => hc (fun m => k n (.mk (hset n (.ob o) hh) m))
/-- a step whose rows are known, and which makes a block of them -/
theorem making_of {o : Oper} {T : St} {z : Nat} {mk : Id → AV} (hn : Nm mk) {G : (List (List AV) → Bool) → Bool} (hG : Det G) {k0 : K} (h : (G fun rows => newO (.cells z rows) T fun b s => k0 (mk b) s) = true)
    (hm : ∀ rows, (∀ k, G k = k rows) → ∀ (w : World) (μ : Mu) (a : Act), Fm μ e a → Mk P w μ z rows mk ((execOp a.eval o).run P w)) : ∃ rows m, Making P e o T (fun k => G fun rows => newO (.cells z rows) T fun b s => k (mk b) s) z rows mk m := by
  rcases hG with ⟨rows, hr⟩ | hr
  · rw [hr] at h
    rcases newO_det (.cells z rows) T with ⟨m, h1, h2⟩ | h2
    · exact ⟨rows, m, hn, h1, fun k => by show G _ = _; rw [hr, h2], hm rows hr⟩
    · rw [h2] at h; cases h
  · rw [hr] at h; cases h
theorem pt_det {x : AV} {k : List AV → Bool} (h : pt x k = true) : ∃ l, (∀ k : List AV → Bool, pt x k = k l) := by
  cases x <;> first | exact ⟨_, fun _ => rfl⟩ | cases h
theorem det_rowsX {α : Type} {z : Nat} : ∀ {ps : List (Nat × Nat × AV)} {rs : List (List AV)} {G : List (List AV) → (α → Bool) → Bool}, (∀ v, Det (G v)) → Det (fun k => rowsX z rs ps fun v => G v k)
  | [], rs, G, h => h rs
  | (i, m, x) :: ps, rs, G, h => by
    show Det (fun k => pt x fun l => Bool.rec false (nthL rs i fun _ => rowsX z (setAt rs i l) ps fun v => G v k) (Nat.beq (len l) z))
    exact det_pt fun l => det_brec (det_nthL fun _ => det_rowsX (ps := ps) (rs := setAt rs i l) h)
theorem lenK_le (l : List TypeId) : lenK l = 0 ∨ lenK l = 3 := by
  match l with
  | [] => exact .inl rfl
  | [t] =>
    show (match Nat.beq t 250 with | true => 3 | false => 0) = 0 ∨ (match Nat.beq t 250 with | true => 3 | false => 0) = 3
    cases Nat.beq t 250
    · exact .inl rfl
    · exact .inr rfl
  | _ :: _ :: _ => exact .inl rfl
theorem making {o : Oper} (hk : fk o = 2) {T : St} {k0 : K} (h : cmpOp P call inv eqs c e o T k0 = true) : ∃ z rows mk m, Making P e o T (fun k => cmpOp P call inv eqs c e o T k) z rows mk m := by
  obtain ⟨dst, op, ty, pos, after, guard⟩ := o
  cases op with
  | alloc t =>
    have h : (match szT P t, zeroC P t with
      | some z, some l => nwX z l T k0
      | _, _ => false) = true := h
    split at h
    case h_2 => cases h
    case h_1 z l hz hl =>
      obtain ⟨rows, m, hM⟩ := making_of (P := P) (e := e) (o := ⟨dst, .alloc t, ty, pos, after, guard⟩) (T := T) (z := z) (mk := fun b => .ptr b 0 0) (.inl rfl) (G := fun k => k [l]) (det_k _) (k0 := k0) h (fun rows hr w μ a hf => by
        classical
        have e1 : [l] = rows := by have := hr (fun r => decide (r = rows)); simpa using this
        subst e1
        exact mk_alloc rfl hz hl)
      refine ⟨z, rows, _, m, hM.nm, hM.nxt, fun k => ?_, hM.mak⟩
      rw [← hM.run k]
      show (match szT P t, zeroC P t with
      | some z, some l => nwX z l T k
      | _, _ => false) = _
      rw [hz, hl]; rfl
  | box t x =>
    have h : (match szT P t with
      | some z => eO e x fun v => bxX z v T k0
      | none => false) = true := h
    split at h
    case h_2 => cases h
    case h_1 z hz =>
      have hG : Det (fun (k : List (List AV) → Bool) => eO e x fun v => pt v fun l => (Bool.rec false (k [l]) (Nat.beq (len l) z) : Bool)) := det_eO fun _ => det_pt fun _ => det_brec (det_k _)
      obtain ⟨rows, m, hM⟩ := making_of (P := P) (e := e) (o := ⟨dst, .box t x, ty, pos, after, guard⟩) (T := T) (z := z) (mk := fun b => .ptr b 0 0) (.inl rfl) hG (k0 := k0) h (fun rows hr w μ a hf => by
        classical
        have h1 := hr (fun r => decide (r = rows))
        simp only [decide_true] at h1
        obtain ⟨v, h2, hv⟩ := eO_true hf h1
        obtain ⟨l, h3, hl⟩ := pt_true hv h2
        obtain ⟨h4, h5⟩ := brec_true h3
        have h5 := of_decide_eq_true h5
        subst h5
        exact mk_box rfl hl (by rw [← len_eq]; exact neq_true h4))
      refine ⟨z, rows, _, m, hM.nm, hM.nxt, fun k => ?_, hM.mak⟩
      rw [← hM.run k]
      show (match szT P t with
      | some z => eO e x fun v => bxX z v T k
      | none => false) = _
      rw [hz]; rfl
  | buildSlice t n ps =>
    have h : (match P.underlying t with
    | some (.slice el) => match szT P el, zeroC P el with
      | some z, some zr => match Nat.ble (n * z) 1000000 with
        | true => eP e (fun i => some (i, z)) ps.toList fun ps => rowsX z (rep zr n) ps fun rs => bsX z n rs T k0
        | false => false
      | _, _ => false
    | _ => false) = true := h
    split at h
    case h_2 => cases h
    case h_1 el ht =>
      split at h
      case h_2 => cases h
      case h_1 z zr hz hzr =>
        split at h
        case h_2 => cases h
        case h_1 hsm =>
          have hsm' := nle_true hsm
          obtain ⟨rows, m, hM⟩ := making_of (P := P) (e := e) (o := ⟨dst, .buildSlice t n ps, ty, pos, after, guard⟩) (T := T) (z := z) (mk := fun b => .sl b 0 n n z true) (.inr ⟨_, _, _, rfl⟩) (G := fun k => eP e (fun i => some (i, z)) ps.toList fun ps => rowsX z (rep zr n) ps fun rs => k rs) (det_eP fun _ => det_rowsX fun _ => det_k _) (k0 := k0) h (fun rows hr w μ a hf => by
            classical
            have h1 := hr (fun r => decide (r = rows))
            simp only [decide_true] at h1
            obtain ⟨rs, h2, hM⟩ := mk_buildSlice (P := P) (w := w) (o := ⟨dst, .buildSlice t n ps, ty, pos, after, guard⟩) hf rfl ht hz hzr hsm' h1
            have h2 := of_decide_eq_true h2
            subst h2
            exact hM)
          refine ⟨z, rows, _, m, hM.nm, hM.nxt, fun k => ?_, hM.mak⟩
          rw [← hM.run k]
          show (match P.underlying t with
            | some (.slice el) => match szT P el, zeroC P el with
              | some z, some zr => match Nat.ble (n * z) 1000000 with
                | true => eP e (fun i => some (i, z)) ps.toList fun ps => rowsX z (rep zr n) ps fun rs => bsX z n rs T k
                | false => false
              | _, _ => false
            | _ => false) = _
          rw [ht]; dsimp only; rw [hz, hzr]; dsimp only; rw [hsm]; rfl
  | makeSlice t l q =>
    have h : (match P.underlying t with
    | some (.slice el) => match szT P el, zeroC P el, bytesOk P el with
      | some z, some zr, true => eO e l fun l => eO e q fun c => msX z zr l c T k0
      | _, _, _ => false
    | _ => false) = true := h
    split at h
    case h_2 => cases h
    case h_1 el ht =>
      split at h
      case h_2 => cases h
      case h_1 z zr hz hzr hby =>
        obtain ⟨i, hi, rfl⟩ := szT_inv hz
        obtain ⟨i', v, hi', hv, -, hlen⟩ := zeroC_inv (μ := fun _ => none) hzr
        rw [hi] at hi'; cases hi'
        have hbt := bytesOk_inv hby hi
        obtain ⟨lv, h1⟩ : ∃ lv, ∀ k : AV → Bool, eO e l k = k lv := by
          rcases det_eO (e := e) (x := l) (G := fun v k => k v) (fun v => det_k v) with ⟨lv, h1⟩ | h1
          · exact ⟨lv, h1⟩
          · rw [show eO e l (fun l => eO e q fun c => msX i.size zr l c T k0) = false from h1 _] at h; cases h
        rw [h1] at h
        obtain ⟨qv, h2⟩ : ∃ lv, ∀ k : AV → Bool, eO e q k = k lv := by
          rcases det_eO (e := e) (x := q) (G := fun v k => k v) (fun v => det_k v) with ⟨lv, h1⟩ | h1
          · exact ⟨lv, h1⟩
          · rw [show eO e q (fun c => msX i.size zr lv c T k0) = false from h1 _] at h; cases h
        rw [h2] at h
        obtain ⟨t1, m, rfl, h3⟩ := wNat_true h
        obtain ⟨t2, n, rfl, h4⟩ := wNat_true h3
        obtain ⟨g1, h5⟩ := brec_true h4
        obtain ⟨g2, h6⟩ := brec_true h5
        obtain ⟨rows, m', hM⟩ := making_of (P := P) (e := e) (o := ⟨dst, .makeSlice t l q, ty, pos, after, guard⟩) (T := T) (z := i.size) (mk := fun b => .sl b 0 m n i.size true) (.inr ⟨_, _, _, rfl⟩) (G := fun k => k (rep zr n)) (det_k _) (k0 := k0) h6 (fun rows hr w μ a hf => by
          classical
          have e1 : rep zr n = rows := by have := hr (fun r => decide (r = rows)); simpa using this
          subst e1
          have hc : VC μ zr v.cells.toList := by
            obtain ⟨i2, v2, a1, a2, a3, _⟩ := zeroC_inv (μ := μ) hzr
            rw [hi] at a1; cases a1
            rw [hv] at a2; cases a2
            exact a3
          have hx : VRel μ (.int t1 (.ofNat m)) (a.eval l) := by
            obtain ⟨u, b1, b2⟩ := eO_true (x := l) (k := fun u => decide (u = .int t1 (.ofNat m))) hf (by rw [h1]; simp)
            rw [of_decide_eq_true b1] at b2; exact b2
          have hy : VRel μ (.int t2 (.ofNat n)) (a.eval q) := by
            obtain ⟨u, b1, b2⟩ := eO_true (x := q) (k := fun u => decide (u = .int t2 (.ofNat n))) hf (by rw [h2]; simp)
            rw [of_decide_eq_true b1] at b2; exact b2
          exact mk_makeSlice rfl ht hi hv hc hlen hbt (int_inv hx) (int_inv hy) (nle_true g2) (nle_true g1))
        refine ⟨i.size, rows, _, m', hM.nm, hM.nxt, fun k => ?_, hM.mak⟩
        rw [← hM.run k]
        show (match P.underlying t with
          | some (.slice el) => match szT P el, zeroC P el, bytesOk P el with
            | some z, some zr, true => eO e l fun l => eO e q fun c => msX z zr l c T k
            | _, _, _ => false
          | _ => false) = _
        rw [ht]; dsimp only; rw [hz, hzr, hby]; dsimp only
        rw [h1, h2]
        show (Bool.rec false (Bool.rec false (newO (.cells i.size (rep zr n)) T fun b s => k (.sl b 0 m n i.size true) s) (Nat.ble m n)) (Nat.ble n 1000000) : Bool) = _
        rw [g1, g2]
  | call cl =>
    obtain ⟨cal, args, ats⟩ := cl
    cases cal with
    | value f => cases f <;> cases hk
    | invoke r n => cases hk
    | builtin b =>
      cases b with
      | len =>
        have hk : lenK ats.toList = 2 := hk
        rcases lenK_le ats.toList with e | e <;> rw [e] at hk <;> cases hk
      | _ => cases hk
  | _ => cases hk
end X
/- An operation with its guard; what the order's check says. -/
namespace X
open Go Go.RowKit
set_option linter.unusedVariables false
set_option linter.unusedSimpArgs false
set_option linter.unusedSectionVars false
variable [Luck]
variable {P : Program} {call : Nat → Fn} {inv : Env → Operand → String → List Operand → St → K → Bool} {eqs : List (Nat × List Nat)} {c : Clo} {e e' : Env} {s s' : St} {all : List Oper}
theorem dstOf_eq : ∀ (l : List Oper) (g : Nat), dstOf l g = (l[g]?).bind (·.dst)
  | [], g => by cases g <;> rfl
  | o :: l, 0 => rfl
  | o :: l, g + 1 => by
    show dstOf l g = _
    rw [dstOf_eq l g]; simp
theorem rest_eq {α : Type} : ∀ (l : List α) (i : Nat), rest i l = l.drop i
  | l, 0 => by cases l <;> rfl
  | [], i + 1 => rfl
  | x :: l, i + 1 => rest_eq l i
theorem opOf_eq (l : List Oper) (i : Nat) : opOf l i = l[i]? := by
  unfold opOf
  rw [rest_eq]
  rcases Nat.lt_or_ge i l.length with h | h
  · rw [List.drop_eq_getElem_cons h, List.getElem?_eq_getElem h]
  · rw [List.drop_eq_nil_of_le h, List.getElem?_eq_none h]
theorem rest_opOf {i : Nat} {o : Oper} (h : opOf all i = some o) : ∃ l, rest i all = o :: l := by
  unfold opOf at h
  split at h
  · rename_i o' l hr; cases h; exact ⟨l, hr⟩
  · cases h
/-- an operation with its guard: what it comes to -/
theorem cmpG_cases (o : Oper) (e : Env) : (o.guard = none ∧ ∀ s k, cmpG P call inv eqs c all o e s k = cmpOp P call inv eqs c e o s k) ∨
    (∃ g want t v, o.guard = some (g, want) ∧ dstOf all g = some t ∧ lk e t = some v ∧ ((v = .bool want ∧ ∀ s k, cmpG P call inv eqs c all o e s k = cmpOp P call inv eqs c e o s k) ∨ (v ≠ .bool want ∧ ∀ s k, cmpG P call inv eqs c all o e s k = k und s))) ∨
    ∀ s k, cmpG P call inv eqs c all o e s k = false := by
  cases hg : o.guard with
  | none => exact .inl ⟨rfl, fun s k => by unfold cmpG; rw [hg]⟩
  | some gw =>
    obtain ⟨g, want⟩ := gw
    cases hd : dstOf all g with
    | none => exact .inr (.inr fun s k => by unfold cmpG; rw [hg]; simp only [hd])
    | some t =>
      cases hl : lk e t with
      | none => exact .inr (.inr fun s k => by unfold cmpG; rw [hg]; simp only [hd, hl])
      | some v =>
        refine .inr (.inl ⟨g, want, t, v, rfl, hd, hl, ?_⟩)
        cases want with
        | true =>
          by_cases hv : v = .bool true
          · subst hv; exact .inl ⟨rfl, fun s k => by unfold cmpG; rw [hg]; simp only [hd, hl]; rfl⟩
          · refine .inr ⟨hv, fun s k => ?_⟩
            unfold cmpG; rw [hg]; simp only [hd, hl]
            cases v with
            | bool b => cases b with
              | true => exact absurd rfl hv
              | false => rfl
            | _ => rfl
        | false =>
          by_cases hv : v = .bool false
          · subst hv; exact .inl ⟨rfl, fun s k => by unfold cmpG; rw [hg]; simp only [hd, hl]; rfl⟩
          · refine .inr ⟨hv, fun s k => ?_⟩
            unfold cmpG; rw [hg]; simp only [hd, hl]
            cases v with
            | bool b => cases b with
              | true => rfl
              | false => exact absurd rfl hv
            | _ => rfl
theorem mem_tmpsO {t : Nat} : ∀ {l : List Operand}, Operand.tmp t ∈ l → t ∈ tmpsO l
  | [], h => by cases h
  | x :: l, h => by
    rcases List.mem_cons.1 h with rfl | h
    · show t ∈ t :: tmpsO l; simp
    · have := mem_tmpsO h
      cases x with
      | tmp u => show t ∈ u :: tmpsO l; simp [this]
      | _ => exact this
theorem looks_op {o : Oper} {x : Operand} (hx : x ∈ o.op.operands.toList) (h : ∀ t ∈ looks all o, lk e t = lk e' t) : SameAt e e' x := fun t ht => by
  subst ht
  exact h t (by unfold looks; exact List.mem_append_left _ (mem_tmpsO hx))
theorem looks_guard {o : Oper} {g t : Nat} {want : Bool} (hg : o.guard = some (g, want)) (hd : dstOf all g = some t) : t ∈ looks all o := by
  unfold looks
  rw [hg]
  simp [hd]
theorem cmpG_env (hi : InvEnv inv) {o : Oper} (h : ∀ t ∈ looks all o, lk e t = lk e' t) (s : St) (k : K) : cmpG P call inv eqs c all o e s k = cmpG P call inv eqs c all o e' s k := by
  have h1 : ∀ s k, cmpOp P call inv eqs c e o s k = cmpOp P call inv eqs c e' o s k := fun s k => cmpOp_env hi fun x hx => looks_op hx h
  unfold cmpG
  cases hg : o.guard with
  | none => exact h1 s k
  | some gw =>
    obtain ⟨g, want⟩ := gw
    cases hd : dstOf all g with
    | none => simp only [hd]
    | some t =>
      simp only [hd]
      rw [h t (looks_guard hg hd)]
      cases lk e' t with
      | none => rfl
      | some v => simp only [h1]
/-- the environment, cut down to some slots -/
noncomputable def restr (l : List Nat) (e : Env) : Env := l.map fun t => (t, lk e t)
theorem lk_restr {l : List Nat} {t : Nat} : lk (restr l e) t = if t ∈ l then lk e t else none := by
  induction l with
  | nil => rfl
  | cons u l ih =>
    show lk ((u, lk e u) :: restr l e) t = _
    rw [lk_cons, ih]
    by_cases h : u = t
    · subst h; simp
    · rw [if_neg h]
      have : (t ∈ u :: l) ↔ t ∈ l := by simp [Ne.symm h]
      simp [this]
theorem restr_same {l : List Nat} : ∀ t ∈ l, lk e t = lk (restr l e) t := fun t ht => by rw [lk_restr, if_pos ht]
theorem restr_congr {l : List Nat} (h : ∀ t ∈ l, lk e t = lk e' t) : restr l e = restr l e' := by
  unfold restr
  exact List.map_congr_left fun t ht => by rw [h t ht]
theorem dd_op {o : Oper} (hk : fk o = 0 ∨ (fk o = 1 ∧ SLe s s')) : (∃ v, (∀ k : K, cmpOp P call inv eqs c e o s k = k v s) ∧ ∀ k : K, cmpOp P call inv eqs c e o s' k = k v s') ∨ ∀ k : K, cmpOp P call inv eqs c e o s k = false := cmpOp_dd hk
/-- what was known of a float's step in one state, is so in another -/
theorem cmpG_dd {o : Oper} (hk : fk o = 0 ∨ (fk o = 1 ∧ SLe s s')) {v : AV} (h : ∀ k, cmpG P call inv eqs c all o e s k = k v s) : ∀ k, cmpG P call inv eqs c all o e s' k = k v s' := by
  classical
  rcases cmpG_cases (P := P) (call := call) (inv := inv) (eqs := eqs) (c := c) (all := all) o e with ⟨_, hc⟩ | ⟨g, want, t, u, _, _, _, ⟨_, hc⟩ | ⟨_, hc⟩⟩ | hc
  · rcases dd_op (P := P) (call := call) (inv := inv) (eqs := eqs) (c := c) (e := e) hk with ⟨v', h1, h2⟩ | h1
    · have e1 : v' = v := by
        have := h fun u _ => decide (u = v')
        rw [hc, h1] at this
        have := of_decide_eq_true (this.symm.trans (decide_eq_true rfl))
        exact this.symm
      subst e1
      exact fun k => (hc _ _).trans (h2 k)
    · have := h fun _ _ => true
      rw [hc, h1] at this; cases this
  · rcases dd_op (P := P) (call := call) (inv := inv) (eqs := eqs) (c := c) (e := e) hk with ⟨v', h1, h2⟩ | h1
    · have e1 : v' = v := by
        have := h fun u _ => decide (u = v')
        rw [hc, h1] at this
        have := of_decide_eq_true (this.symm.trans (decide_eq_true rfl))
        exact this.symm
      subst e1
      exact fun k => (hc _ _).trans (h2 k)
    · have := h fun _ _ => true
      rw [hc, h1] at this; cases this
  · have e1 : und = v := by
      have := h fun u _ => decide (u = und)
      rw [hc] at this
      exact (of_decide_eq_true (this.symm.trans (decide_eq_true rfl))).symm
    subst e1
    exact fun k => hc _ _
  · have := h fun _ _ => true
    rw [hc] at this; cases this
/-- a float's step has one outcome -/
theorem cmpG_det {o : Oper} (hk : fk o = 0 ∨ fk o = 1) {k0 : K} (h : cmpG P call inv eqs c all o e s k0 = true) : ∃ v, ∀ k, cmpG P call inv eqs c all o e s k = k v s := by
  have hk : fk o = 0 ∨ (fk o = 1 ∧ SLe s s) := hk.imp id fun h => ⟨h, fun _ _ h => h⟩
  rcases cmpG_cases (P := P) (call := call) (inv := inv) (eqs := eqs) (c := c) (all := all) o e with ⟨_, hc⟩ | ⟨g, want, t, u, _, _, _, ⟨_, hc⟩ | ⟨_, hc⟩⟩ | hc
  · rcases dd_op (P := P) (call := call) (inv := inv) (eqs := eqs) (c := c) (e := e) hk with ⟨v', h1, h2⟩ | h1
    · exact ⟨v', fun k => (hc _ _).trans (h1 k)⟩
    · rw [hc, h1] at h; cases h
  · rcases dd_op (P := P) (call := call) (inv := inv) (eqs := eqs) (c := c) (e := e) hk with ⟨v', h1, h2⟩ | h1
    · exact ⟨v', fun k => (hc _ _).trans (h1 k)⟩
    · rw [hc, h1] at h; cases h
  · exact ⟨und, fun k => hc _ _⟩
  · rw [hc] at h; cases h
/-! the check -/
theorem and_true {a b : Bool} : and a b = true ↔ a = true ∧ b = true := by cases a <;> cases b <;> simp
theorem hasD_false {d : Option Nat} {l : List Nat} (h : hasD d l = false) : ∀ t ∈ l, d ≠ some t := fun t ht e => by
  subst e
  exact notMem (show memN t l = false from h) ht
theorem neD_true {d d' : Option Nat} (h : neD d d' = true) : ∀ t, d = some t → d' ≠ some t := fun t h1 h2 => by
  subst h1; subst h2
  have h : not (Nat.beq t t) = true := h
  rw [Nat.beq_refl] at h; cases h
theorem afterIn_true {done : List Nat} : ∀ {l : List Edge}, afterIn done l = true → ∀ ed ∈ l, Region.binds .any ed = true → ed.on ∈ done
  | [], _, ed, he => by cases he
  | x :: l, h, ed, he => by
    have h : (match Region.binds .any x with | true => and (memN x.on done) (afterIn done l) | false => afterIn done l) = true := h
    intro hb
    cases hx : Region.binds .any x with
    | true =>
      rw [hx] at h
      obtain ⟨h1, h2⟩ := and_true.1 h
      rcases List.mem_cons.1 he with rfl | he
      · exact memN_true h1
      · exact afterIn_true h2 ed he hb
    | false =>
      rw [hx] at h
      rcases List.mem_cons.1 he with rfl | he
      · rw [hx] at hb; cases hb
      · exact afterIn_true h ed he hb
theorem newer_spec {j : Nat} : ∀ {pre old : List Nat}, j ∉ pre → newer j (pre ++ j :: old) = pre ++ [j]
  | [], old, _ => by
    show (match Nat.beq j j with | true => [j] | false => j :: newer j old) = _
    rw [Nat.beq_refl]; rfl
  | k :: pre, old, h => by
    show (match Nat.beq k j with | true => [k] | false => k :: newer j (pre ++ j :: old)) = _
    have : Nat.beq k j = false := by
      cases hb : Nat.beq k j with
      | false => rfl
      | true => exact absurd (neq_true hb) (fun e => h (by rw [e]; simp))
    rw [this, newer_spec (fun hm => h (by simp [hm]))]; rfl
theorem allIn_true : ∀ {n : Nat} {l : List Nat}, allIn n l = true → ∀ i, i < n → i ∈ l
  | 0, l, _, i, hi => by omega
  | n + 1, l, h, i, hi => by
    obtain ⟨h1, h2⟩ := and_true.1 (show and (memN n l) (allIn n l) = true from h)
    rcases Nat.lt_or_ge i n with hlt | hge
    · exact allIn_true h2 i hlt
    · have : i = n := by omega
      subst this; exact memN_true h1
/-- what the check says of an operation i behind those of done -/
structure Stp (all : List Oper) (ms : List Nat) (done : List Nat) (i : Nat) (re : List Nat) (o : Oper) : Prop where
  new : i ∉ done
  aft : ∀ ed ∈ o.after.toList, Region.binds .any ed = true → ed.on ∈ done
  dst : ∀ j p t, j ∈ done → all[j]? = some p → o.dst = some t → p.dst ≠ some t
  reads : ∀ j p t, j ∈ done → all[j]? = some p → p.dst = some t → t ∈ looks all o → aw ms i j = true
  writes : ∀ j p t, j ∈ done → all[j]? = some p → o.dst = some t → t ∈ looks all p → aw ms i j = true
  eff : ∀ j p, j ∈ done → all[j]? = some p → fk p = 3 → aw ms i j = true
  again : fk o = 3 → ∀ j p, j ∈ done → all[j]? = some p → (fk p = 1 ∨ fk p = 2) → aw ms i j = true ∨ j ∈ re
  ree : fk o = 3 → ∀ j ∈ re, j ∈ done ∧ ∃ p, all[j]? = some p ∧ (fk p = 1 ∨ fk p = 2) ∧ ∀ k q t, k ∈ newer j done → all[k]? = some q → q.dst = some t → t ∉ looks all p
  flo : fk o ≠ 3 → re = [] ∧ (fk o = 2 → o.guard = none)
theorem is3_eq {n : Nat} : is3 n = true ↔ n = 3 := by
  match n with
  | 0 | 1 | 2 => simp [is3]
  | 3 => simp [is3]
  | n + 4 => simp [is3]
theorem is12_eq {n : Nat} : is12 n = true ↔ n = 1 ∨ n = 2 := by
  match n with
  | 0 => simp [is12]
  | 1 => simp [is12]
  | 2 => simp [is12]
  | n + 3 => simp [is12]
theorem stp_of {all : List Oper} {ms done : List Nat} {i : Nat} {re : List Nat} {o : Oper} (h : stepOk all ms done i re o = true) : Stp all ms done i re o := by
  obtain ⟨h1, h⟩ := and_true.1 (show and (not (memN i done)) _ = true from h)
  obtain ⟨h2, h⟩ := and_true.1 h
  obtain ⟨h3, h4⟩ := and_true.1 h
  have h1 : memN i done = false := by cases hm : memN i done <;> simp_all
  rw [List.all_eq_true] at h3
  have pr : ∀ j p, j ∈ done → all[j]? = some p → neD o.dst p.dst = true ∧ (aw ms i j = true ∨ (fk p ≠ 3 ∧ hasD p.dst (looks all o) = false ∧ hasD o.dst (looks all p) = false ∧ (fk o ≠ 3 ∨ (¬ (fk p = 1 ∨ fk p = 2)) ∨ j ∈ re))) := fun j p hj hp => by
    have := h3 j hj
    unfold pairOk at this
    rw [opOf_eq, hp] at this
    obtain ⟨a1, a2⟩ := and_true.1 this
    refine ⟨a1, ?_⟩
    cases ha : aw ms i j with
    | true => exact .inl rfl
    | false =>
      rw [ha] at a2
      obtain ⟨b1, a3⟩ := and_true.1 a2
      obtain ⟨b2, a4⟩ := and_true.1 a3
      obtain ⟨b3, b4⟩ := and_true.1 a4
      refine .inr ⟨fun e => ?_, by simpa using b2, by simpa using b3, ?_⟩
      · rw [is3_eq.2 e] at b1; cases b1
      · simp only [Bool.or_eq_true, Bool.not_eq_true'] at b4
        rcases b4 with b4 | b4 | b4
        · exact .inl fun e => by rw [is3_eq.2 e] at b4; cases b4
        · exact .inr (.inl fun e => by rw [is12_eq.2 e] at b4; cases b4)
        · exact .inr (.inr (memN_true b4))
  refine ⟨notMem h1, afterIn_true h2, fun j p t hj hp hd => neD_true (pr j p hj hp).1 t hd, fun j p t hj hp hd ht => ?_, fun j p t hj hp hd ht => ?_, fun j p hj hp hf => ?_, fun hf j p hj hp h12 => ?_, fun hf j hj => ?_, fun hf => ?_⟩
  · rcases (pr j p hj hp).2 with h | ⟨_, h, _⟩
    · exact h
    · exact absurd hd (hasD_false h t ht)
  · rcases (pr j p hj hp).2 with h | ⟨_, _, h, _⟩
    · exact h
    · exact absurd hd (hasD_false h t ht)
  · rcases (pr j p hj hp).2 with h | ⟨h, _⟩
    · exact h
    · exact absurd hf h
  · rcases (pr j p hj hp).2 with h | ⟨_, _, _, h | h | h⟩
    · exact .inl h
    · exact absurd hf h
    · exact absurd h12 h
    · exact .inr h
  · rw [is3_eq.2 hf] at h4
    have h4 : re.all (reOk all done) = true := h4
    rw [List.all_eq_true] at h4
    obtain ⟨a1, a2⟩ := and_true.1 (show and (memN j done) _ = true from h4 j hj)
    refine ⟨memN_true a1, ?_⟩
    rw [opOf_eq] at a2
    cases hp : all[j]? with
    | none => rw [hp] at a2; cases a2
    | some p =>
      rw [hp] at a2
      obtain ⟨b1, b2⟩ := and_true.1 a2
      refine ⟨p, rfl, is12_eq.1 b1, fun k q t hk hq hd ht => ?_⟩
      rw [List.all_eq_true] at b2
      have := b2 k hk
      rw [opOf_eq, hq] at this
      have : hasD q.dst (looks all p) = false := by simpa using this
      exact hasD_false this t ht hd
  · have : is3 (fk o) = false := by
      cases hb : is3 (fk o) with
      | false => rfl
      | true => exact absurd (is3_eq.1 hb) hf
    rw [this] at h4
    obtain ⟨a1, a2⟩ := and_true.1 (show and re.isEmpty (or (not (Nat.beq (fk o) 2)) o.guard.isNone) = true from h4)
    refine ⟨by simpa using a1, fun h2 => ?_⟩
    rw [h2] at a2
    simpa using a2
/-! what waits for what -/
theorem nthN_app : ∀ {ms : List Nat} {x i : Nat}, nthN (ms ++ [x]) i = if i < ms.length then nthN ms i else if i = ms.length then x else 0
  | [], x, 0 => rfl
  | [], x, i + 1 => by
    show (0 : Nat) = _
    simp
  | y :: ms, x, 0 => by simp [nthN]
  | y :: ms, x, i + 1 => by
    show nthN (ms ++ [x]) i = _
    rw [nthN_app]
    simp [nthN]
theorem aft_bit {ms : List Nat} {j : Nat} : ∀ {l : List Edge}, (aft ms l).testBit j = true → ∃ ed ∈ l, Region.binds .any ed = true ∧ (ed.on = j ∨ (nthN ms ed.on).testBit j = true)
  | [], h => by
    have h : (0 : Nat).testBit j = true := h
    simp at h
  | e :: l, h => by
    have h : (match Region.binds .any e with
      | true => Nat.lor (Nat.lor (Nat.shiftLeft 1 e.on) (nthN ms e.on)) (aft ms l)
      | false => aft ms l).testBit j = true := h
    cases hb : Region.binds .any e with
    | true =>
      rw [hb] at h
      have h : ((1 <<< e.on ||| nthN ms e.on) ||| aft ms l).testBit j = true := h
      rw [Nat.testBit_or, Nat.testBit_or, Bool.or_eq_true, Bool.or_eq_true] at h
      rcases h with (h | h) | h
      · refine ⟨e, by simp, hb, .inl ?_⟩
        rw [Nat.shiftLeft_eq, Nat.one_mul, Nat.testBit_two_pow] at h
        exact of_decide_eq_true h
      · exact ⟨e, by simp, hb, .inr h⟩
      · obtain ⟨ed, h1, h2⟩ := aft_bit h
        exact ⟨ed, by simp [h1], h2⟩
    | false =>
      rw [hb] at h
      obtain ⟨ed, h1, h2⟩ := aft_bit h
      exact ⟨ed, by simp [h1], h2⟩
/-- listed operations: with each, all that it waits for -/
def Cls (all : List Oper) (L : Nat → Prop) : Prop := ∀ i o, L i → all[i]? = some o → ∀ ed ∈ o.after.toList, Region.binds .any ed = true → L ed.on
def MOk (all : List Oper) (ms : List Nat) : Prop := ∀ i o j, all[i]? = some o → (nthN ms i).testBit j = true → ∀ L : Nat → Prop, Cls all L → (∀ ed ∈ o.after.toList, Region.binds .any ed = true → L ed.on) → L j
theorem masks_ok : ∀ {l pre : List Oper} {ms : List Nat}, all = pre ++ l → pre.length = ms.length → MOk all ms → MOk all (masks l ms)
  | [], pre, ms, _, _, h => h
  | o :: l, pre, ms, ha, hl, h => by
    refine masks_ok (l := l) (pre := pre ++ [o]) (ms := ms ++ [aft ms o.after.toList]) (by rw [ha]; simp) (by simp [hl]) (fun i p j hp hb L hL hd => ?_)
    rw [nthN_app] at hb
    split at hb
    · exact h i p j hp hb L hL hd
    · split at hb
      · rename_i _ hi
        have e1 : p = o := by
          rw [ha, hi, ← hl] at hp
          simpa using hp.symm
        subst e1
        obtain ⟨ed, h1, h2, h3⟩ := aft_bit hb
        have hon := hd ed h1 h2
        rcases h3 with rfl | h3
        · exact hon
        · cases hq : all[ed.on]? with
          | none =>
            -- no bits there
            have hge : ms.length ≤ ed.on := by
              have h5 := List.getElem?_eq_none_iff.1 hq
              have h4 : all.length = pre.length + (l.length + 1) := by rw [ha]; simp
              omega
            have : nthN ms ed.on = 0 := by
              have := nthN_none hge
              exact this
            rw [this] at h3; simp at h3
          | some q => exact h ed.on q j hq h3 L hL (fun ed' h4 h5 => hL ed.on q hon hq ed' h4 h5)
      · simp at hb
  where
  nthN_none : ∀ {ms : List Nat} {i : Nat}, ms.length ≤ i → nthN ms i = 0
    | [], i, _ => rfl
    | x :: ms, 0, h => by simp at h
    | x :: ms, i + 1, h => nthN_none (ms := ms) (i := i) (by simpa using h)
theorem aw_listed {i j : Nat} {o : Oper} {L : Nat → Prop} (ho : all[i]? = some o) (h : aw (masks all []) i j = true) (hL : Cls all L) (hd : ∀ ed ∈ o.after.toList, Region.binds .any ed = true → L ed.on) : L j :=
  masks_ok (all := all) (l := all) (pre := []) (ms := []) rfl rfl (fun i o j _ hb => by
    have hb : (0 : Nat).testBit j = true := hb
    simp at hb) i o j ho h L hL hd
end X
/- A region whose order is drawn is sound. -/
namespace X
open Go Go.RowKit
set_option linter.unusedVariables false
set_option linter.unusedSimpArgs false
set_option linter.unusedSectionVars false
variable [Luck]
/-- all that stays the same in a region -/
structure Cx where
  P : Program
  call : Nat → Fn
  inv : Env → Operand → String → List Operand → St → K → Bool
  eqs : List (Nat × List Nat)
  c : Clo
  all : List Oper
  w0 : World
  s0 : St
  μ0 : Mu
  a0 : Act
  e0 : Env
  k : Env → St → Bool
noncomputable abbrev Cx.G (C : Cx) (o : Oper) (e : Env) (s : St) (k : K) : Bool := cmpG C.P C.call C.inv C.eqs C.c C.all o e s k
abbrev Cx.ms (C : Cx) : List Nat := masks C.all []
theorem G_det {C : Cx} {o : Oper} {e : Env} {s : St} {k0 : K} (hk : fk o = 0 ∨ fk o = 1) (h : C.G o e s k0 = true) : ∃ v, ∀ k, C.G o e s k = k v s := cmpG_det hk h
/-- the slot of an operation -/
def Dst (all : List Oper) (i t : Nat) : Prop := ∃ o, all[i]? = some o ∧ o.dst = some t
structure EnvOk (all : List Oper) (e0 : Env) (vals : List (Nat × AV)) (e : Env) : Prop where
  val : ∀ i v t, (i, v) ∈ vals → Dst all i t → lk e t = some v
  oth : ∀ t, (∀ i v, (i, v) ∈ vals → ¬ Dst all i t) → lk e t = lk e0 t
/-- an operation that the abstract memory is past, and the world is not -/
def Pend (C : Cx) (T : St) (μ : Mu) (B : Nat → Id) (j : Nat) (v : AV) (old : List (Nat × AV)) : Prop :=
  ∃ o e, C.all[j]? = some o ∧ EnvOk C.all C.e0 old e ∧
    (((fk o = 0 ∨ fk o = 1) ∧ ∀ k, C.G o e T k = k v T) ∨
     (fk o = 2 ∧ o.guard = none ∧ ∃ z rows mk, Nm mk ∧ v = mk (B j) ∧ hget (B j) (hp T) = .ob (.cells z rows) ∧ μ (B j) = none ∧ (nx C.s0).n ≤ (B j).n ∧
       ∀ (w : World) (μ : Mu) (a : Act), Fm μ (restr (looks C.all o) e) a → Mk C.P w μ z rows mk ((execOp a.eval o).run C.P w)))
structure Inv (C : Cx) (vals : List (Nat × AV)) (rest : List (Nat × List Nat)) (e : Env) (T : St) (L : Nat → Prop) (B : Nat → Id) (a : Act) (w : World) (μ : Mu) : Prop where
  run : cmpD C.P C.call C.inv C.eqs C.c C.all rest vals e T C.k = true
  chk : chk C.all C.ms (vals.map (·.1)) rest = true
  hist : ∀ pre j v old, vals = pre ++ (j, v) :: old → ∃ o re, C.all[j]? = some o ∧ Stp C.all C.ms (old.map (·.1)) j re o
  env : EnvOk C.all C.e0 vals e
  r : R C.w0 T w μ
  mx : MX (nx C.s0) C.μ0 μ
  le : (nx C.s0).n ≤ (nx T).n
  size : a.tmps.size = C.a0.tmps.size
  defers : a.defers = C.a0.defers
  f1 : ∀ i v t, L i → (i, v) ∈ vals → Dst C.all i t → ∃ x, a.tmps[t]? = some x ∧ VRel μ v x
  f2 : ∀ t, (∀ i, L i → ¬ Dst C.all i t) → a.tmps[t]? = C.a0.tmps[t]?
  sub : ∀ i, L i → ∃ v, (i, v) ∈ vals
  cl : Cls C.all L
  eff : ∀ i v o, (i, v) ∈ vals → C.all[i]? = some o → fk o = 3 → L i
  pend : ∀ pre j v old, vals = pre ++ (j, v) :: old → ¬ L j → Pend C T μ B j v old
  inj : ∀ i j vi vj oi oj, (i, vi) ∈ vals → (j, vj) ∈ vals → ¬ L i → ¬ L j → C.all[i]? = some oi → C.all[j]? = some oj → fk oi = 2 → fk oj = 2 → i ≠ j → B i ≠ B j
/-- what is known ahead of the region -/
structure Cx.Ok (C : Cx) : Prop where
  known : Known C.P C.call C.inv C.eqs C.c
  invE : InvEnv C.inv
  r0 : ∃ w, R C.w0 C.s0 w C.μ0
  f0 : Fm C.μ0 C.e0 C.a0
  slots : ∀ i t, Dst C.all i t → t < C.a0.tmps.size
theorem Inv.mle {C : Cx} (hC : C.Ok) {vals rest e T L B a w μ} (I : Inv C vals rest e T L B a w μ) : MLe C.μ0 μ := let ⟨_, h⟩ := hC.r0; h.mle I.mx
theorem split_mem {α : Type} {x : α} : ∀ {l : List α}, x ∈ l → ∃ p q, l = p ++ x :: q
  | [], h => by cases h
  | y :: l, h => by
    rcases List.mem_cons.1 h with rfl | h
    · exact ⟨[], l, rfl⟩
    · obtain ⟨p, q, e⟩ := split_mem h
      exact ⟨y :: p, q, by rw [e]; rfl⟩
/-- ready: all that it waits for is listed -/
def Rdy (L : Nat → Prop) (o : Oper) : Prop := ∀ ed ∈ o.after.toList, Region.binds .any ed = true → L ed.on
theorem look {C : Cx} (hC : C.Ok) {vals rest e T L B a w μ} (I : Inv C vals rest e T L B a w μ) {j : Nat} {o : Oper} {re : List Nat} {old : List (Nat × AV)} {ej : Env} (ho : C.all[j]? = some o) (hsub : ∀ q ∈ old, q ∈ vals)
    (hnew : ∀ i vi, (i, vi) ∈ vals → (i, vi) ∈ old ∨ i = j ∨ ∃ done re p, C.all[i]? = some p ∧ Stp C.all C.ms done i re p ∧ j ∈ done) (hs : Stp C.all C.ms (old.map (·.1)) j re o) (he : EnvOk C.all C.e0 old ej) (hrd : Rdy L o) (hL : ¬ L j) :
    Fm μ (restr (looks C.all o) ej) a := by
  have hm := I.mle hC
  have hf0 := hC.f0.mono hm
  refine ⟨fun t v ht => ?_, hf0.g0, hf0.g2⟩
  rw [lk_restr] at ht
  split at ht
  case isFalse => cases ht
  case isTrue hlook =>
    by_cases hw : ∃ i vi, (i, vi) ∈ old ∧ Dst C.all i t
    · obtain ⟨i, vi, hi, hd⟩ := hw
      have := he.val i vi t hi hd
      rw [ht] at this; cases this
      obtain ⟨p, hp, hpd⟩ := hd
      have haw := hs.reads i p t (List.mem_map.2 ⟨_, hi, rfl⟩) hp hpd hlook
      exact I.f1 i v t (aw_listed ho haw I.cl hrd) (hsub _ hi) ⟨p, hp, hpd⟩
    · have hn : ∀ i v, (i, v) ∈ old → ¬ Dst C.all i t := fun i v hi hd => hw ⟨i, v, hi, hd⟩
      rw [he.oth t hn] at ht
      obtain ⟨x, hx, hv⟩ := hf0.fr t v ht
      refine ⟨x, ?_, hv⟩
      rw [I.f2 t fun i hi hd => ?_]
      · exact hx
      · obtain ⟨vi, hvi⟩ := I.sub i hi
        rcases hnew i vi hvi with h | rfl | ⟨done, re', p, hp, hst, hjd⟩
        · exact hn i vi h hd
        · exact hL hi
        · obtain ⟨p', hp', hpd⟩ := hd
          rw [hp] at hp'; cases hp'
          exact hL (aw_listed hp (hst.writes j o t hjd ho hpd hlook) I.cl (I.cl i p hi hp))
theorem hist_new {C : Cx} {vals rest e T L B a w μ} (I : Inv C vals rest e T L B a w μ) {pre old : List (Nat × AV)} {j : Nat} {v : AV} (hv : vals = pre ++ (j, v) :: old) : ∀ i vi, (i, vi) ∈ vals → (i, vi) ∈ old ∨ i = j ∨ ∃ done re p, C.all[i]? = some p ∧ Stp C.all C.ms done i re p ∧ j ∈ done := fun i vi hi => by
  rw [hv] at hi
  rcases List.mem_append.1 hi with hi | hi
  · obtain ⟨p1, p2, e⟩ := split_mem hi
    obtain ⟨p, re, h1, h2⟩ := I.hist p1 i vi (p2 ++ (j, v) :: old) (by rw [hv, e]; simp)
    exact .inr (.inr ⟨_, re, p, h1, h2, by simp⟩)
  · rcases List.mem_cons.1 hi with hi | hi
    · cases hi; exact .inr (.inl rfl)
    · exact .inl hi
theorem hist_nodup {C : Cx} {vals rest e T L B a w μ} (I : Inv C vals rest e T L B a w μ) {pre old : List (Nat × AV)} {j : Nat} {v : AV} (hv : vals = pre ++ (j, v) :: old) : j ∉ pre.map (·.1) := fun hm => by
  obtain ⟨⟨i, vi⟩, hi, rfl⟩ := List.mem_map.1 hm
  obtain ⟨p1, p2, e⟩ := split_mem hi
  obtain ⟨p, re, _, h2⟩ := I.hist p1 i vi (p2 ++ (i, v) :: old) (by rw [hv, e]; simp)
  exact h2.new (by simp)
theorem findV_split {j : Nat} {v : AV} {old : List (Nat × AV)} : ∀ {pre : List (Nat × AV)}, j ∉ pre.map (·.1) → findV j (pre ++ (j, v) :: old) = some v
  | [], _ => by
    show (match Nat.beq j j with | true => some v | false => findV j old) = _
    rw [Nat.beq_refl]
  | (k, u) :: pre, h => by
    show (match Nat.beq j k with | true => some u | false => findV j (pre ++ (j, v) :: old)) = _
    have : Nat.beq j k = false := by
      cases hb : Nat.beq j k with
      | false => rfl
      | true => exact absurd (neq_true hb) (fun e => h (by rw [e]; simp))
    rw [this]
    exact findV_split (fun hm => h (by simp [hm]))
theorem pick_mem {vals : List (Nat × AV)} {j : Nat} {v : AV} (hv : findV j vals = some v) : ∀ {re : List Nat}, j ∈ re → (j, v) ∈ pick vals re
  | [], h => by cases h
  | i :: re, h => by
    show (j, v) ∈ (match findV i vals with | some v => (i, v) :: pick vals re | none => pick vals re)
    rcases List.mem_cons.1 h with rfl | h
    · rw [hv]; simp
    · cases findV i vals with
      | none => exact pick_mem hv h
      | some u => exact List.mem_cons_of_mem _ (pick_mem hv h)
theorem mem_pick {vals : List (Nat × AV)} {j : Nat} {v : AV} : ∀ {re : List Nat}, (j, v) ∈ pick vals re → j ∈ re
  | [], h => by cases h
  | i :: re, h => by
    have h : (j, v) ∈ (match findV i vals with | some v => (i, v) :: pick vals re | none => pick vals re) := h
    cases hf : findV i vals with
    | none => rw [hf] at h; exact List.mem_cons_of_mem _ (mem_pick h)
    | some u =>
      rw [hf] at h
      rcases List.mem_cons.1 h with h | h
      · cases h; simp
      · exact List.mem_cons_of_mem _ (mem_pick h)
/-! looked at again -/
theorem sameB_true {mk : Id → AV} (hn : Nm mk) {v : AV} {b : Id} {s : St} {k : Bool} (h : sameB v (mk b) s k = true) : k = true ∧ ((∃ l, v = .tup l) ∨ ∃ c z l, v = mk c ∧ hget c (hp s) = .ob (.cells z l) ∧ hget b (hp s) = .ob (.cells z l)) := by
  cases v with
  | tup l => exact ⟨(brec_true h).2, .inl ⟨l, rfl⟩⟩
  | ptr c i o =>
    rcases hn with rfl | ⟨l, n, z, rfl⟩
    · obtain ⟨h1, h2⟩ := brec_true (show (Bool.rec false (Bool.rec false (sameO c b s k) (Nat.beq i 0)) (Nat.beq o 0) : Bool) = true from h)
      obtain ⟨h3, h4⟩ := brec_true h2
      obtain ⟨z, l, h5, h6, h7⟩ := sameO_true h4
      exact ⟨h7, .inr ⟨c, z, l, by rw [neq_true h1, neq_true h3], h5, h6⟩⟩
    · cases h
  | sl c i l r z ex =>
    rcases hn with rfl | ⟨l', n, z', rfl⟩
    · cases h
    · obtain ⟨h1, h2⟩ := brec_true (show (Bool.rec false (Bool.rec false (Bool.rec false (Bool.rec false (Bool.rec false (sameO c b s k) (bq ex true)) (Nat.beq z z')) (Nat.beq r n)) (Nat.beq l l')) (Nat.beq i 0) : Bool) = true from h)
      obtain ⟨h3, h4⟩ := brec_true h2
      obtain ⟨h5, h6⟩ := brec_true h4
      obtain ⟨h7, h8⟩ := brec_true h6
      obtain ⟨g1, g2⟩ := brec_true h8
      obtain ⟨z2, l2, g3, g4, g5⟩ := sameO_true g2
      exact ⟨g5, .inr ⟨c, z2, l2, by rw [neq_true h1, neq_true h3, neq_true h5, neq_true h7, bq_true g1], g3, g4⟩⟩
  | _ => cases h
def Ag (C : Cx) (e : Env) (s : St) (j : Nat) (v : AV) : Prop := ∃ p, C.all[j]? = some p ∧ ((fk p = 1 ∧ ∀ k, C.G p e s k = k v s) ∨
  (fk p = 2 ∧ ((∃ l, v = .tup l) ∨ ∃ z rows mk b, Nm mk ∧ v = mk b ∧ (b ≠ nx s → hget b (hp s) = .ob (.cells z rows)) ∧ ∀ (w : World) (μ : Mu) (a : Act), Fm μ (restr (looks C.all p) e) a → Mk C.P w μ z rows mk ((execOp a.eval p).run C.P w))))
theorem reck_true {C : Cx} (hC : C.Ok) {e : Env} {s : St} : ∀ {l : List (Nat × AV)} {k : Bool}, (∀ j v p, (j, v) ∈ l → C.all[j]? = some p → fk p = 2 → p.guard = none) → reck C.P C.call C.inv C.eqs C.c C.all e s l k = true → k = true ∧ ∀ j v, (j, v) ∈ l → Ag C e s j v
  | [], k, _, h => ⟨h, fun j v h => by cases h⟩
  | (j, v) :: l, k, hg, h => by
    have h : (match rest j C.all with
      | o :: _ => match fk o with
        | 1 => C.G o e s fun v' _ => eqV v v' (reck C.P C.call C.inv C.eqs C.c C.all e s l k)
        | 2 => C.G o e s fun v' s' => sameB v v' s' (reck C.P C.call C.inv C.eqs C.c C.all e s l k)
        | _ => false
      | [] => false) = true := h
    have hre := rest_eq C.all j
    split at h
    case h_2 => cases h
    case h_1 o tl hr =>
      have ho : C.all[j]? = some o := by
        rw [← opOf_eq]; unfold opOf; rw [hr]
      have next : ∀ {k0 : Bool}, Ag C e s j v → reck C.P C.call C.inv C.eqs C.c C.all e s l k = true → k = true ∧ ∀ i u, (i, u) ∈ (j, v) :: l → Ag C e s i u := fun hA hk => by
        obtain ⟨h1, h2⟩ := reck_true hC (fun i u p hi => hg i u p (List.mem_cons_of_mem _ hi)) hk
        refine ⟨h1, fun i u hi => ?_⟩
        rcases List.mem_cons.1 hi with hi | hi
        · cases hi; exact hA
        · exact h2 i u hi
      split at h
      case h_1 hf =>
        obtain ⟨v', hv'⟩ := G_det (.inr hf) h
        rw [hv'] at h
        obtain ⟨h1, h2⟩ := eqV_true _ _ _ h
        subst h1
        exact next (k0 := k) ⟨o, ho, .inl ⟨hf, hv'⟩⟩ h2
      case h_2 hf =>
        have hgd := hg j v o (by simp) ho hf
        have h0 : C.G o e s (fun v' s' => sameB v v' s' (reck C.P C.call C.inv C.eqs C.c C.all e s l k)) = true := h
        rw [show C.G o e s _ = C.G o (restr (looks C.all o) e) s _ from cmpG_env hC.invE (fun t ht => restr_same t ht) s _] at h0
        have hc : ∀ s k, C.G o (restr (looks C.all o) e) s k = cmpOp C.P C.call C.inv C.eqs C.c (restr (looks C.all o) e) o s k := fun s k => by
          show cmpG _ _ _ _ _ _ _ _ _ _ = _
          unfold cmpG; rw [hgd]
        rw [hc] at h0
        obtain ⟨z, rows, mk, m, hM⟩ := making hf h0
        rw [hM.run] at h0
        obtain ⟨h1, h2⟩ := sameB_true hM.nm h0
        refine next (k0 := k) ⟨o, ho, .inr ⟨hf, ?_⟩⟩ h1
        rcases h2 with h2 | ⟨b, z', l', h3, h4, h5⟩
        · exact .inl h2
        · have h4 : hget b (hset (nx s) (.ob (.cells z rows)) (hp s)) = .ob (.cells z' l') := h4
          have h5 : hget (nx s) (hset (nx s) (.ob (.cells z rows)) (hp s)) = .ob (.cells z' l') := h5
          rw [hget_hset] at h5
          cases h5
          exact .inr ⟨z, rows, mk, b, hM.nm, h3, fun hb => by rwa [hget_hset_ne _ _ hb] at h4, hM.mak⟩
      case h_3 => cases h
/-! one operation, listed -/
theorem opG {C : Cx} (hC : C.Ok) {ops : Array Oper} (hall : C.all = ops.toList) {T : St} {w : World} {μ : Mu} {a : Act} {i : Nat} {o : Oper} {e : Env} {k : K} {Q : Exit → Act → World → Prop} {Kc : Act → World → Prop} (hr : R C.w0 T w μ) (ho : C.all[i]? = some o) (hf : Fm μ (restr (looks C.all o) e) a) (h : C.G o e T k = true)
    (hk : ∀ v s' x w' μ', k v s' = true → (nx T).n ≤ (nx s').n → MX (nx T) μ μ' → VRel μ' v x → R C.w0 s' w' μ' → Kc (a.put o.dst x) w') : wpOp C.P ops Q i Kc a w := by
  have ho' : ops[i]? = some o := by rw [hall] at ho; simpa using ho
  have h : C.G o (restr (looks C.all o) e) T k = true := by
    rw [← show C.G o e T k = C.G o (restr (looks C.all o) e) T k from cmpG_env hC.invE (fun t ht => restr_same t ht) T k]; exact h
  have exec : cmpOp C.P C.call C.inv C.eqs C.c (restr (looks C.all o) e) o T k = true → Region.wanted o (yielded ops a.tmps) = true → wpOp C.P ops Q i Kc a w := fun hc hw => by
    unfold wpOp
    simp only [ho']
    rw [if_pos hw]
    exact .inl (wp_of_op1 (cmpOp_sound hC.known.call hC.known.inv hC.known.eqs hC.known.clo hr hf hc) hk)
  rcases cmpG_cases (P := C.P) (call := C.call) (inv := C.inv) (eqs := C.eqs) (c := C.c) (all := C.all) o (restr (looks C.all o) e) with ⟨hg, hc⟩ | ⟨g, want, t, v, hg, hd, hl, hcs⟩ | hc
  · exact exec (by rw [← hc]; exact h) (by simp [Region.wanted, hg])
  · have hgt : (ops[g]?).bind (·.dst) = some t := by
      rw [dstOf_eq, hall] at hd
      simpa using hd
    obtain ⟨x, hx, hv⟩ := hf.fr t v hl
    rcases hcs with ⟨rfl, hc⟩ | ⟨hne, hc⟩
    · have hxe : x = .bool want := by cases hv; rfl
      subst hxe
      exact exec (by rw [← hc]; exact h) (wanted_true hgt hg hx)
    · have hxe : x ≠ .bool want := fun he => by
        subst he
        cases hv; exact hne rfl
      have hw : Region.wanted o (yielded ops a.tmps) = false := by
        unfold Region.wanted
        rw [hg]
        show (yielded ops a.tmps g == some want) = false
        unfold yielded
        rw [hgt, Option.bind_some, hx]
        cases x <;> simp
        intro e; subst e; exact hxe rfl
      unfold wpOp
      simp only [ho']
      rw [if_neg (by simp [hw])]
      rw [show C.G o (restr (looks C.all o) e) T k = k und T from hc _ _] at h
      exact hk und T undef w μ h (Nat.le_refl _) MX.rfl' vund hr
  · rw [show C.G o (restr (looks C.all o) e) T k = false from hc _ _] at h; cases h
theorem wp_of_outR {P : Program} {a : Act} {w : World} {o : Oper} {Q : Exit → Act → World → Prop} {R' : Value → World → Prop} {next : Act → World → Prop} (h : outR P R' ((execOp a.eval o).run P w)) (hn : ∀ x w', R' x w' → next (a.put o.dst x) w') : o.wp P a w next Q := by
  unfold Oper.wp
  generalize (execOp a.eval o).run P w = r at h ⊢
  cases r with
  | ok n w' =>
    cases n <;> simp only [outR] at h <;> simp only [Oper.upon]
    case value => exact hn _ _ h
    case skip => exact hn _ _ h
    case enter => exact h.mono fun e w'' ⟨x, he, hx⟩ => by subst he; exact hn _ _ hx
    case row => exact Rows.mono h (fun _ _ hx => hn _ _ hx)
  | halt x w' => simp only [outR] at h
end X
/- A region whose order is drawn is sound: the walk. -/
namespace X
open Go Go.RowKit
set_option linter.unusedVariables false
set_option linter.unusedSimpArgs false
set_option linter.unusedSectionVars false
variable [Luck]
variable {C : Cx}
theorem fk_le (o : Oper) : fk o = 0 ∨ fk o = 1 ∨ fk o = 2 ∨ fk o = 3 := by
  unfold fk
  split <;> first | simp | skip
  all_goals
    rename_i l _
    rcases lenK_le l.toList with e | e <;> simp [e]
def Hd (C : Cx) (rs : List (Nat × List Nat)) : Prop := ∀ i re l o, rs = (i, re) :: l → C.all[i]? = some o → fk o = 3
theorem EnvOk.push {all : List Oper} {ms : List Nat} {e0 e : Env} {vals : List (Nat × AV)} {i : Nat} {re : List Nat} {o : Oper} (h : EnvOk all e0 vals e) (ho : all[i]? = some o) (hs : Stp all ms (vals.map (·.1)) i re o) (v : AV) : EnvOk all e0 ((i, v) :: vals) (put e o.dst v) := by
  refine ⟨fun j u t hj hd => ?_, fun t ht => ?_⟩
  · rcases List.mem_cons.1 hj with hj | hj
    · cases hj
      obtain ⟨p, hp, hpd⟩ := hd
      rw [ho] at hp; cases hp
      rw [hpd]
      show lk ((t, some v) :: e) t = _
      rw [lk_cons, if_pos rfl]
    · obtain ⟨p, hp, hpd⟩ := hd
      rw [lk_put e o.dst v t (fun e1 => hs.dst j p t (List.mem_map.2 ⟨_, hj, rfl⟩) hp e1 hpd)]
      exact h.val j u t hj ⟨p, hp, hpd⟩
  · rw [lk_put e o.dst v t (fun e1 => ht i v (by simp) ⟨o, ho, e1⟩)]
    exact h.oth t fun j u hj => ht j u (List.mem_cons_of_mem _ hj)
theorem cons_split {α : Type} {x y : α} {l pre old : List α} (h : x :: l = pre ++ y :: old) : (pre = [] ∧ x = y ∧ l = old) ∨ ∃ pre', pre = x :: pre' ∧ l = pre' ++ y :: old := by
  cases pre with
  | nil => injection h with h1 h2; exact .inl ⟨rfl, h1, h2⟩
  | cons z pre' =>
    injection h with h1 h2
    exact .inr ⟨pre', by rw [h1], h2⟩
theorem chk_cons {all : List Oper} {ms done : List Nat} {i : Nat} {re : List Nat} {l : List (Nat × List Nat)} (h : chk all ms done ((i, re) :: l) = true) : ∃ o, all[i]? = some o ∧ Stp all ms done i re o ∧ chk all ms (i :: done) l = true := by
  have h : (match opOf all i with | none => false | some o => and (stepOk all ms done i re o) (chk all ms (i :: done) l)) = true := h
  rw [opOf_eq] at h
  cases ho : all[i]? with
  | none => rw [ho] at h; cases h
  | some o =>
    rw [ho] at h
    obtain ⟨h1, h2⟩ := and_true.1 h
    exact ⟨o, rfl, stp_of h1, h2⟩
theorem cmpD_cons {C : Cx} {i : Nat} {re : List Nat} {l : List (Nat × List Nat)} {vals : List (Nat × AV)} {e : Env} {T : St} {o : Oper} (ho : C.all[i]? = some o) (h : cmpD C.P C.call C.inv C.eqs C.c C.all ((i, re) :: l) vals e T C.k = true) :
    C.G o e T (fun v s => reck C.P C.call C.inv C.eqs C.c C.all e s (pick vals re) (cmpD C.P C.call C.inv C.eqs C.c C.all l ((i, v) :: vals) (put e o.dst v) s C.k)) = true := by
  obtain ⟨tl, hr⟩ := rest_opOf (all := C.all) (i := i) (o := o) (by rw [opOf_eq]; exact ho)
  have h : (match rest i C.all with
    | o :: _ => cmpG C.P C.call C.inv C.eqs C.c C.all o e T fun v s => reck C.P C.call C.inv C.eqs C.c C.all e s (pick vals re) (cmpD C.P C.call C.inv C.eqs C.c C.all l ((i, v) :: vals) (put e o.dst v) s C.k)
    | [] => false) = true := h
  rw [hr] at h
  exact h
theorem hist_push {vals : List (Nat × AV)} {i : Nat} {v : AV} {o : Oper} {re : List Nat} (ho : C.all[i]? = some o) (hs : Stp C.all C.ms (vals.map (·.1)) i re o) (h : ∀ pre j v old, vals = pre ++ (j, v) :: old → ∃ o re, C.all[j]? = some o ∧ Stp C.all C.ms (old.map (·.1)) j re o) :
    ∀ pre j u old, (i, v) :: vals = pre ++ (j, u) :: old → ∃ o re, C.all[j]? = some o ∧ Stp C.all C.ms (old.map (·.1)) j re o := fun pre j u old e => by
  rcases cons_split e with ⟨_, e1, e2⟩ | ⟨pre', _, e2⟩
  · cases e1; subst e2; exact ⟨o, re, ho, hs⟩
  · exact h pre' j u old e2
theorem blk_lt {w0 w : World} {T : St} {μ : Mu} (hr : R w0 T w μ) {b : Id} {o : Ob} (hb : hget b (hp T) = .ob o) : b.n < (nx T).n := by
  rcases Nat.lt_or_ge b.n (nx T).n with h | h
  · exact h
  · exact absurd hb (hr.fr b h o)
theorem advance (hC : C.Ok) {L : Nat → Prop} {a : Act} {w : World} {μ : Mu} : ∀ {rs : List (Nat × List Nat)} {vals : List (Nat × AV)} {e : Env} {T : St} {B : Nat → Id}, Inv C vals rs e T L B a w μ → ∃ vals' rs' e' T' B', Inv C vals' rs' e' T' L B' a w μ ∧ Hd C rs'
  | [], vals, e, T, B, I => ⟨vals, [], e, T, B, I, fun i re l o h => by cases h⟩
  | (i, re) :: l, vals, e, T, B, I => by
    obtain ⟨o, ho, hs, hch⟩ := chk_cons I.chk
    have hrun := cmpD_cons ho I.run
    have hiL : ¬ L i := fun h => by
      obtain ⟨v, hv⟩ := I.sub i h
      exact hs.new (List.mem_map.2 ⟨_, hv, rfl⟩)
    have hiv : ∀ j u, (j, u) ∈ vals → j ≠ i := fun j u hj e1 => hs.new (List.mem_map.2 ⟨_, hj, e1⟩)
    have nofl : fk o ≠ 3 → re = [] ∧ (fk o = 2 → o.guard = none) := hs.flo
    have fin : ∀ (v : AV) (T' : St) (B' : Nat → Id), fk o ≠ 3 → cmpD C.P C.call C.inv C.eqs C.c C.all l ((i, v) :: vals) (put e o.dst v) T' C.k = true → R C.w0 T' w μ → (nx T).n ≤ (nx T').n →
        (∀ pre j u old, vals = pre ++ (j, u) :: old → ¬ L j → Pend C T' μ B' j u old) → Pend C T' μ B' i v vals →
        (∀ i1 i2 v1 v2 o1 o2, (i1, v1) ∈ (i, v) :: vals → (i2, v2) ∈ (i, v) :: vals → ¬ L i1 → ¬ L i2 → C.all[i1]? = some o1 → C.all[i2]? = some o2 → fk o1 = 2 → fk o2 = 2 → i1 ≠ i2 → B' i1 ≠ B' i2) →
        ∃ vals' rs' e' T' B', Inv C vals' rs' e' T' L B' a w μ ∧ Hd C rs' := fun v T' B' hf h1 h2 h3 h4 h5 h6 =>
      advance hC (rs := l) (vals := (i, v) :: vals) (e := put e o.dst v) (T := T') (B := B') {
        run := h1
        chk := hch
        hist := hist_push ho hs I.hist
        env := I.env.push ho hs v
        r := h2
        mx := I.mx
        le := Nat.le_trans I.le h3
        size := I.size
        defers := I.defers
        f1 := fun j u t hj hm hd => by
          rcases List.mem_cons.1 hm with hm | hm
          · cases hm; exact absurd hj hiL
          · exact I.f1 j u t hj hm hd
        f2 := I.f2
        sub := fun j hj => let ⟨u, hu⟩ := I.sub j hj; ⟨u, List.mem_cons_of_mem _ hu⟩
        cl := I.cl
        eff := fun j u p hj hp h3 => by
          rcases List.mem_cons.1 hj with hj | hj
          · cases hj
            rw [ho] at hp; cases hp
            exact absurd h3 hf
          · exact I.eff j u p hj hp h3
        pend := fun pre j u old hv hj => by
          rcases cons_split hv with ⟨_, e1, e2⟩ | ⟨pre', _, e2⟩
          · cases e1; subst e2; exact h5
          · exact h4 pre' j u old e2 hj
        inj := h6 }
    rcases fk_le o with hf | hf | hf | hf
    · obtain ⟨v, hv⟩ := G_det (.inl hf) hrun
      have hf3 : fk o ≠ 3 := by omega
      obtain ⟨rfl, _⟩ := nofl hf3
      rw [hv] at hrun
      refine fin v T B hf3 hrun I.r (Nat.le_refl _) I.pend ⟨o, e, ho, I.env, .inl ⟨.inl hf, hv⟩⟩ (fun i1 i2 v1 v2 o1 o2 m1 m2 n1 n2 p1 p2 f1 f2 hne => ?_)
      rcases List.mem_cons.1 m1 with m1 | m1
      · cases m1; rw [ho] at p1; cases p1; omega
      · rcases List.mem_cons.1 m2 with m2 | m2
        · cases m2; rw [ho] at p2; cases p2; omega
        · exact I.inj i1 i2 v1 v2 o1 o2 m1 m2 n1 n2 p1 p2 f1 f2 hne
    · obtain ⟨v, hv⟩ := G_det (.inr hf) hrun
      have hf3 : fk o ≠ 3 := by omega
      obtain ⟨rfl, _⟩ := nofl hf3
      rw [hv] at hrun
      refine fin v T B hf3 hrun I.r (Nat.le_refl _) I.pend ⟨o, e, ho, I.env, .inl ⟨.inr hf, hv⟩⟩ (fun i1 i2 v1 v2 o1 o2 m1 m2 n1 n2 p1 p2 f1 f2 hne => ?_)
      rcases List.mem_cons.1 m1 with m1 | m1
      · cases m1; rw [ho] at p1; cases p1; omega
      · rcases List.mem_cons.1 m2 with m2 | m2
        · cases m2; rw [ho] at p2; cases p2; omega
        · exact I.inj i1 i2 v1 v2 o1 o2 m1 m2 n1 n2 p1 p2 f1 f2 hne
    · have hf3 : fk o ≠ 3 := by omega
      obtain ⟨rfl, hg⟩ := nofl hf3
      have hg := hg hf
      have hc : ∀ e s k, C.G o e s k = cmpOp C.P C.call C.inv C.eqs C.c e o s k := fun e s k => by
        show cmpG _ _ _ _ _ _ _ _ _ _ = _
        unfold cmpG; rw [hg]
      have hrun2 := hrun
      rw [show C.G o e T _ = C.G o (restr (looks C.all o) e) T _ from cmpG_env hC.invE (fun t ht => restr_same t ht) T _, hc] at hrun2
      obtain ⟨z, rows, mk, m, hM⟩ := making hf hrun2
      rw [hM.run] at hrun2
      have hle : SLe T (.mk (hset (nx T) (.ob (.cells z rows)) (hp T)) m) := fun b ob hb => by
        show hget b (hset (nx T) (.ob (.cells z rows)) (hp T)) = _
        have := blk_lt I.r hb
        rw [hget_hset_ne _ _ (fun e => by rw [e] at this; omega)]
        exact hb
      refine fin (mk (nx T)) _ (fun j => if j = i then nx T else B j) hf3 hrun2 (I.r.later hM.nxt) (by have := hM.nxt; show _ ≤ m.n; omega) (fun pre j u old hv hj => ?_) ⟨o, e, ho, I.env, .inr ⟨hf, hg, z, rows, mk, hM.nm, by simp, ?_, ?_, ?_, hM.mak⟩⟩ (fun i1 i2 v1 v2 o1 o2 m1 m2 n1 n2 p1 p2 f1 f2 hne => ?_)
      · obtain ⟨p, ej, hp', he, hh⟩ := I.pend pre j u old hv hj
        have hji : j ≠ i := hiv j u (by rw [hv]; simp)
        refine ⟨p, ej, hp', he, ?_⟩
        rcases hh with ⟨h1, h2⟩ | ⟨h1, h2, z', rows', mk', h3, h4, h5, h6, h7, h8⟩
        · refine .inl ⟨h1, cmpG_dd (h1.imp id (fun h => ⟨h, hle⟩)) h2⟩
        · refine .inr ⟨h1, h2, z', rows', mk', h3, ?_, ?_, ?_, ?_, h8⟩
          · simp only [if_neg hji]; exact h4
          · simp only [if_neg hji]; exact hle _ _ h5
          · simp only [if_neg hji]; exact h6
          · simp only [if_neg hji]; exact h7
      · simp only [if_true]
        show hget (nx T) (hset (nx T) (.ob (.cells z rows)) (hp T)) = _
        rw [hget_hset]
      · simp only [if_true]
        exact I.r.nxt _ (Nat.le_refl _)
      · simp only [if_true]; exact I.le
      · have lt : ∀ j u p, (j, u) ∈ vals → ¬ L j → C.all[j]? = some p → fk p = 2 → (B j).n < (nx T).n := fun j u p hj hn hp hfp => by
          obtain ⟨pre, old, hv⟩ := split_mem hj
          obtain ⟨p', ej, hp', he, hh⟩ := I.pend pre j u old hv hn
          rw [hp] at hp'; cases hp'
          rcases hh with ⟨h1, h2⟩ | ⟨h1, h2, z', rows', mk', h3, h4, h5, h6, h7, h8⟩
          · omega
          · exact blk_lt I.r h5
        rcases List.mem_cons.1 m1 with m1 | m1
        · cases m1
          rcases List.mem_cons.1 m2 with m2 | m2
          · cases m2; exact absurd rfl hne
          · have := lt i2 v2 o2 m2 n2 p2 f2
            simp only [if_true, if_neg (Ne.symm hne)]
            intro e1; rw [← e1] at this; omega
        · have h1 := lt i1 v1 o1 m1 n1 p1 f1
          have ne1 := hiv i1 v1 m1
          rcases List.mem_cons.1 m2 with m2 | m2
          · cases m2
            simp only [if_true, if_neg ne1]
            intro e1; rw [e1] at h1; omega
          · have ne2 := hiv i2 v2 m2
            simp only [if_neg ne1, if_neg ne2]
            exact I.inj i1 i2 v1 v2 o1 o2 m1 m2 n1 n2 p1 p2 f1 f2 hne
    · exact ⟨vals, (i, re) :: l, e, T, B, I, fun i' re' l' o' h ho' => by
        cases h; rw [ho] at ho'; cases ho'; exact hf⟩
/-- a float that was pending is listed -/
theorem Inv.list (hC : C.Ok) {vals rs e T B a w μ} {L : Nat → Prop} (I : Inv C vals rs e T L B a w μ) {i : Nat} {o : Oper} {v : AV} (ho : C.all[i]? = some o) (hi : (i, v) ∈ vals) (hL : ¬ L i) (hrd : Rdy L o) {x : Value} {w' : World} {μ' : Mu} (hm : MLe μ μ') (hv : VRel μ' v x) (hR : R C.w0 T w' μ') (hmx : MX (nx C.s0) C.μ0 μ')
    (hno : ∀ j u p, j ≠ i → (j, u) ∈ vals → ¬ L j → C.all[j]? = some p → fk p = 2 → μ' (B j) = none) : Inv C vals rs e T (fun j => L j ∨ j = i) B (a.put o.dst x) w' μ' := by
  have one : ∀ u, (i, u) ∈ vals → u = v := fun u hu => by
    obtain ⟨p1, q1, e1⟩ := split_mem hu
    have h1 := findV_split (v := u) (old := q1) (hist_nodup I e1)
    obtain ⟨p2, q2, e2⟩ := split_mem hi
    have h2 := findV_split (v := v) (old := q2) (hist_nodup I e2)
    rw [← e1] at h1; rw [← e2, h1] at h2
    exact Option.some.inj h2
  have dstne : ∀ j u p t, j ≠ i → (j, u) ∈ vals → C.all[j]? = some p → o.dst = some t → p.dst ≠ some t := fun j u p t hne hj hp h1 h2 => by
    obtain ⟨p1, q1, e1⟩ := split_mem hj
    obtain ⟨p', re', hp', hs'⟩ := I.hist p1 j u q1 e1
    rw [hp] at hp'; cases hp'
    have hi' := hi
    rw [e1] at hi'
    rcases List.mem_append.1 hi' with h3 | h3
    · obtain ⟨p2, q2, e2⟩ := split_mem h3
      obtain ⟨o', re2, ho', hs2⟩ := I.hist p2 i v (q2 ++ (j, u) :: q1) (by rw [e1, e2]; simp)
      rw [ho] at ho'; cases ho'
      exact hs2.dst j p t (by simp) hp h1 h2
    · rcases List.mem_cons.1 h3 with h3 | h3
      · cases h3; exact hne rfl
      · exact hs'.dst i o t (List.mem_map.2 ⟨_, h3, rfl⟩) ho h2 h1
  exact {
    run := I.run
    chk := I.chk
    hist := I.hist
    env := I.env
    r := hR
    mx := hmx
    le := I.le
    size := (put_size _ _ _).trans I.size
    defers := (put_defers _ _ _).trans I.defers
    f1 := fun j u t hj hm' hd => by
      by_cases e1 : j = i
      · subst e1
        obtain ⟨p, hp, hpd⟩ := hd
        rw [ho] at hp; cases hp
        rw [one u hm']
        refine ⟨x, ?_, hv⟩
        rw [hpd]
        have := hC.slots j t ⟨o, ho, hpd⟩
        rw [← I.size] at this
        simp [Act.put, this]
      · have hj : L j := hj.resolve_right e1
        obtain ⟨p, hp, hpd⟩ := hd
        obtain ⟨y, hy, hyv⟩ := I.f1 j u t hj hm' ⟨p, hp, hpd⟩
        exact ⟨y, by rw [put_ne _ _ _ _ (fun e2 => dstne j u p t e1 hm' hp e2 hpd)]; exact hy, hyv.mono hm⟩
    f2 := fun t ht => by
      rw [put_ne _ _ _ _ (fun e2 => ht i (.inr rfl) ⟨o, ho, e2⟩)]
      exact I.f2 t fun j hj => ht j (.inl hj)
    sub := fun j hj => hj.elim (I.sub j) (fun e1 => ⟨v, by rw [e1]; exact hi⟩)
    cl := fun j p hj hp ed hed hb => by
      rcases hj with hj | rfl
      · exact .inl (I.cl j p hj hp ed hed hb)
      · rw [ho] at hp; cases hp
        exact .inl (hrd ed hed hb)
    eff := fun j u p hj hp h3 => .inl (I.eff j u p hj hp h3)
    pend := fun pre j u old hv' hj => by
      have hj1 : ¬ L j := fun h => hj (.inl h)
      have hj2 : j ≠ i := fun h => hj (.inr h)
      obtain ⟨p, ej, hp', he, hh⟩ := I.pend pre j u old hv' hj1
      refine ⟨p, ej, hp', he, ?_⟩
      rcases hh with h1 | ⟨h1, h2, z', rows', mk', h3, h4, h5, h6, h7, h8⟩
      · exact .inl h1
      · exact .inr ⟨h1, h2, z', rows', mk', h3, h4, h5, hno j u p hj2 (by rw [hv']; simp) hj1 hp' h1, h7, h8⟩
    inj := fun i1 i2 v1 v2 o1 o2 m1 m2 n1 n2 => I.inj i1 i2 v1 v2 o1 o2 m1 m2 (fun h => n1 (.inl h)) (fun h => n2 (.inl h)) }
/-- an effect is listed -/
theorem Inv.effect (hC : C.Ok) {vals l e T B a w μ} {L : Nat → Prop} {i : Nat} {re : List Nat} (I : Inv C vals ((i, re) :: l) e T L B a w μ) {o : Oper} (ho : C.all[i]? = some o) (h3 : fk o = 3) (hL : ¬ L i) (hrd : Rdy L o) {v : AV} {T' : St} {x : Value} {w' : World} {μ' : Mu}
    (hk : reck C.P C.call C.inv C.eqs C.c C.all e T' (pick vals re) (cmpD C.P C.call C.inv C.eqs C.c C.all l ((i, v) :: vals) (put e o.dst v) T' C.k) = true) (hle : (nx T).n ≤ (nx T').n) (hX : MX (nx T) μ μ') (hv : VRel μ' v x) (hR : R C.w0 T' w' μ') :
    Inv C ((i, v) :: vals) l (put e o.dst v) T' (fun j => L j ∨ j = i) B (a.put o.dst x) w' μ' := by
  obtain ⟨o', ho', hs, hch⟩ := chk_cons I.chk
  rw [ho] at ho'; cases ho'
  have hm : MLe μ μ' := I.r.mle hX
  have hiv : ∀ j u, (j, u) ∈ vals → j ≠ i := fun j u hj e1 => hs.new (List.mem_map.2 ⟨_, hj, e1⟩)
  have hgd : ∀ j u p, (j, u) ∈ pick vals re → C.all[j]? = some p → fk p = 2 → p.guard = none := fun j u p hj hp hf => by
    have hjr := mem_pick hj
    obtain ⟨hjd, _⟩ := hs.ree h3 j hjr
    obtain ⟨⟨j', u'⟩, hm', rfl⟩ := List.mem_map.1 hjd
    obtain ⟨p1, q1, e1⟩ := split_mem hm'
    obtain ⟨p', re', hp', hs'⟩ := I.hist p1 _ u' q1 e1
    rw [hp] at hp'; cases hp'
    exact (hs'.flo (by omega)).2 hf
  obtain ⟨hrun, hag⟩ := reck_true hC hgd hk
  exact {
    run := hrun
    chk := hch
    hist := hist_push ho hs I.hist
    env := I.env.push ho hs v
    r := hR
    mx := I.mx.tr I.le hX
    le := Nat.le_trans I.le hle
    size := (put_size _ _ _).trans I.size
    defers := (put_defers _ _ _).trans I.defers
    f1 := fun j u t hj hm' hd => by
      rcases List.mem_cons.1 hm' with hm' | hm'
      · cases hm'
        obtain ⟨p, hp, hpd⟩ := hd
        rw [ho] at hp; cases hp
        refine ⟨x, ?_, hv⟩
        rw [hpd]
        have := hC.slots i t ⟨o, ho, hpd⟩
        rw [← I.size] at this
        simp [Act.put, this]
      · have hj : L j := hj.resolve_right (hiv j u hm')
        obtain ⟨p, hp, hpd⟩ := hd
        obtain ⟨y, hy, hyv⟩ := I.f1 j u t hj hm' ⟨p, hp, hpd⟩
        exact ⟨y, by rw [put_ne _ _ _ _ (fun e2 => hs.dst j p t (List.mem_map.2 ⟨_, hm', rfl⟩) hp e2 hpd)]; exact hy, hyv.mono hm⟩
    f2 := fun t ht => by
      rw [put_ne _ _ _ _ (fun e2 => ht i (.inr rfl) ⟨o, ho, e2⟩)]
      exact I.f2 t fun j hj => ht j (.inl hj)
    sub := fun j hj => hj.elim (fun h => let ⟨u, hu⟩ := I.sub j h; ⟨u, List.mem_cons_of_mem _ hu⟩) (fun e1 => ⟨v, by rw [e1]; simp⟩)
    cl := fun j p hj hp ed hed hb => by
      rcases hj with hj | rfl
      · exact .inl (I.cl j p hj hp ed hed hb)
      · rw [ho] at hp; cases hp
        exact .inl (hrd ed hed hb)
    eff := fun j u p hj hp h3 => by
      rcases List.mem_cons.1 hj with hj | hj
      · cases hj; exact .inr rfl
      · exact .inl (I.eff j u p hj hp h3)
    pend := fun pre j u old hv' hj => by
      have hj1 : ¬ L j := fun h => hj (.inl h)
      have hj2 : j ≠ i := fun h => hj (.inr h)
      rcases cons_split hv' with ⟨_, e1, e2⟩ | ⟨pre', _, hvv⟩
      · cases e1; exact absurd rfl hj2
      · obtain ⟨p, ej, hp', he, hh⟩ := I.pend pre' j u old hvv hj1
        have hjm : (j, u) ∈ vals := by rw [hvv]; simp
        refine ⟨p, ej, hp', he, ?_⟩
        have again : fk p = 1 ∨ fk p = 2 → Ag C e T' j u ∧ ∀ t ∈ looks C.all p, lk e t = lk ej t := fun h12 => by
          rcases hs.again h3 j p (List.mem_map.2 ⟨_, hjm, rfl⟩) hp' h12 with h | h
          · exact absurd (aw_listed ho h I.cl hrd) hj1
          · have hnd := hist_nodup I hvv
            refine ⟨hag j u (pick_mem (by rw [hvv]; exact findV_split hnd) h), fun t ht => ?_⟩
            obtain ⟨_, p', hp2, _, hnw⟩ := hs.ree h3 j h
            rw [hp'] at hp2; cases hp2
            have hnew : newer j (vals.map (·.1)) = pre'.map (·.1) ++ [j] := by
              rw [hvv]
              simp only [List.map_append, List.map_cons]
              exact newer_spec hnd
            by_cases hw : ∃ k uk, (k, uk) ∈ vals ∧ Dst C.all k t
            · obtain ⟨k, uk, hk1, q, hq, hqd⟩ := hw
              have hold : (k, uk) ∈ old := by
                have hk2 := hk1
                rw [hvv] at hk2
                rcases List.mem_append.1 hk2 with hk2 | hk2
                · exact absurd ht (hnw k q t (by rw [hnew]; exact List.mem_append_left _ (List.mem_map.2 ⟨_, hk2, rfl⟩)) hq hqd)
                · rcases List.mem_cons.1 hk2 with hk2 | hk2
                  · cases hk2
                    exact absurd ht (hnw j q t (by rw [hnew]; simp) hq hqd)
                  · exact hk2
              rw [I.env.val k uk t hk1 ⟨q, hq, hqd⟩, he.val k uk t hold ⟨q, hq, hqd⟩]
            · rw [I.env.oth t (fun k uk hk1 hd => hw ⟨k, uk, hk1, hd⟩), he.oth t (fun k uk hk1 hd => hw ⟨k, uk, by rw [hvv]; exact List.mem_append_right _ (List.mem_cons_of_mem _ hk1), hd⟩)]
        rcases hh with ⟨h1, h2⟩ | ⟨h1, h2, z', rows', mk', h4, h5, h6, h7, h8, h9⟩
        · rcases h1 with h1 | h1
          · exact .inl ⟨.inl h1, cmpG_dd (.inl h1) h2⟩
          · obtain ⟨⟨p', hp2, hA⟩, hsame⟩ := again (.inl h1)
            rw [hp'] at hp2; cases hp2
            rcases hA with ⟨_, hA⟩ | ⟨hA, _⟩
            · exact .inl ⟨.inr h1, fun k => by rw [← hA k]; exact (cmpG_env hC.invE hsame T' k).symm⟩
            · omega
        · obtain ⟨⟨p', hp2, hA⟩, hsame⟩ := again (.inr h1)
          rw [hp'] at hp2; cases hp2
          rcases hA with ⟨hA, _⟩ | ⟨_, hA⟩
          · omega
          · have hlt := blk_lt I.r h6
            rcases hA with ⟨tl, hA⟩ | ⟨z2, rows2, mk2, b, g1, g2, g3, g4⟩
            · rw [hA] at h5
              rcases h4 with rfl | ⟨_, _, _, rfl⟩ <;> cases h5
            · have hb : b = B j := by
                rw [g2] at h5
                rcases h4 with rfl | ⟨_, _, _, rfl⟩ <;> rcases g1 with rfl | ⟨_, _, _, rfl⟩ <;> first | (cases h5; done) | (injection h5)
              subst hb
              refine .inr ⟨h1, h2, z2, rows2, mk2, g1, g2, g3 (fun e1 => by rw [e1] at hlt; omega), ?_, h8, ?_⟩
              · rw [hX _ hlt]; exact h7
              · rw [← restr_congr hsame]; exact g4
    inj := fun i1 i2 v1 v2 o1 o2 m1 m2 n1 n2 => by
      have a1 : (i1, v1) ∈ vals := by
        rcases List.mem_cons.1 m1 with h | h
        · cases h; exact absurd (.inr rfl) n1
        · exact h
      have a2 : (i2, v2) ∈ vals := by
        rcases List.mem_cons.1 m2 with h | h
        · cases h; exact absurd (.inr rfl) n2
        · exact h
      exact I.inj i1 i2 v1 v2 o1 o2 a1 a2 (fun h => n1 (.inl h)) (fun h => n2 (.inl h)) }
end X
/- A region whose order is drawn is sound: all orders. -/
namespace X
open Go Go.RowKit
set_option linter.unusedVariables false
set_option linter.unusedSimpArgs false
set_option linter.unusedSectionVars false
variable [Luck]
theorem filter_lt {p q : Nat → Bool} {k : Nat} : ∀ {l : List Nat}, (∀ i ∈ l, q i = true → p i = true) → k ∈ l → p k = true → q k = false → (l.filter q).length < (l.filter p).length
  | [], _, h, _, _ => by cases h
  | i :: l, h1, hk, hp, hq => by
    have hle : (l.filter q).length ≤ (l.filter p).length := by
      have : ∀ {l : List Nat}, (∀ i ∈ l, q i = true → p i = true) → (l.filter q).length ≤ (l.filter p).length := by
        intro l
        induction l with
        | nil => intro _; simp
        | cons j l ih =>
          intro h
          have ih := ih fun x hx => h x (by simp [hx])
          have hj := h j (by simp)
          cases e1 : q j
          · simp only [List.filter_cons, e1, Bool.false_eq_true, if_false]
            split <;> (try simp only [List.length_cons]) <;> omega
          · simp only [List.filter_cons, e1, hj e1, if_true, List.length_cons]; omega
      exact this fun x hx => h1 x (by simp [hx])
    by_cases hik : i = k
    · subst hik
      simp only [List.filter_cons, hp, hq, if_true, Bool.false_eq_true, if_false, List.length_cons]; omega
    · have ih := filter_lt (p := p) (q := q) (k := k) (l := l) (fun x hx => h1 x (by simp [hx])) (by simpa [Ne.symm hik] using hk) hp hq
      have hi := h1 i (by simp)
      cases e1 : q i
      · simp only [List.filter_cons, e1, Bool.false_eq_true, if_false]
        split <;> (try simp only [List.length_cons]) <;> omega
      · simp only [List.filter_cons, e1, hi e1, if_true, List.length_cons]; omega
theorem Inv.congr {C : Cx} {vals rs e T B a w μ} {L L' : Nat → Prop} (h : ∀ i, L i ↔ L' i) (I : Inv C vals rs e T L B a w μ) : Inv C vals rs e T L' B a w μ := by
  have : L = L' := funext fun i => propext (h i)
  rw [← this]; exact I
section
variable {C : Cx} {ops : Array Oper} {Q : Exit → Act → World → Prop}
theorem drawn_all (hC : C.Ok) (hall : C.all = ops.toList) (hfin : ∀ e' s' μ' a' w', C.k e' s' = true → Nx C.w0 C.s0 C.μ0 C.a0 C.e0 (dsts C.all) e' s' μ' a' w' → Q .normal a' w') :
    ∀ (fuel : Nat) (listed : Array Bool) (vals : List (Nat × AV)) (rs : List (Nat × List Nat)) (e : Env) (T : St) (B : Nat → Id) (a : Act) (w : World) (μ : Mu), listed.size = ops.size → ((List.range ops.size).filter (fun i => !listed.getD i false)).length ≤ fuel →
      Inv C vals rs e T (fun i => listed.getD i false = true) B a w μ → Hd C rs → wpAny C.P .any ops Q fuel listed a w := by
  have hops : ∀ i, C.all[i]? = ops[i]? := fun i => by rw [hall]; exact Array.getElem?_toList
  have fin : ∀ (listed : Array Bool) (vals : List (Nat × AV)) (rs : List (Nat × List Nat)) (e : Env) (T : St) (B : Nat → Id) (a : Act) (w : World) (μ : Mu), listed.size = ops.size → Inv C vals rs e T (fun i => listed.getD i false = true) B a w μ → Region.ready .any ops listed = [] → Q .normal a w := fun listed vals rs e T B a w μ hsz I hnil => by
    have hgd : ∀ i, i < ops.size → listed.getD i true = listed.getD i false := fun i hi => by
      simp only [Array.getD_eq_getD_getElem?, Array.getElem?_eq_getElem (show i < listed.size by omega), Option.getD_some]
    have stuck : ∀ i o, C.all[i]? = some o → Rdy (fun i => listed.getD i false = true) o → listed.getD i false = true := fun i o ho hr => by
      cases hL : listed.getD i false with
      | true => rfl
      | false =>
        rw [hops] at ho
        have hi := (Array.getElem?_eq_some_iff.1 ho).1
        have : i ∈ Region.ready .any ops listed := mem_ready.2 ⟨by rw [hgd i hi]; exact hL, o, ho, fun ed hed hb => hr ed (by simpa using hed) hb⟩
        rw [hnil] at this; cases this
    have hdone : ∀ old pre, vals = pre ++ old → ∀ j v, (j, v) ∈ old → listed.getD j false = true := by
      intro old
      induction old with
      | nil => intro pre _ j v h; cases h
      | cons x old ih =>
        intro pre hv j v hm
        have ih := ih (pre ++ [x]) (by rw [hv]; simp)
        rcases List.mem_cons.1 hm with hm | hm
        · subst hm
          obtain ⟨o, re, ho, hs⟩ := I.hist pre j v old hv
          refine stuck j o ho fun ed hed hb => ?_
          obtain ⟨⟨k, u⟩, hk, rfl⟩ := List.mem_map.1 (hs.aft ed hed hb)
          exact ih _ u hk
        · exact ih j v hm
    have hdone := hdone vals [] rfl
    have hrs : rs = [] := by
      cases rs with
      | nil => rfl
      | cons p l =>
        obtain ⟨i, re⟩ := p
        obtain ⟨o, ho, hs, _⟩ := chk_cons I.chk
        have := stuck i o ho fun ed hed hb => by
          obtain ⟨⟨k, u⟩, hk, e1⟩ := List.mem_map.1 (hs.aft ed hed hb)
          rw [← e1]
          exact hdone k u hk
        obtain ⟨v, hv⟩ := I.sub i this
        exact absurd (List.mem_map.2 ⟨_, hv, rfl⟩) hs.new
    subst hrs
    have hm := I.mle hC
    have hf0 := hC.f0.mono hm
    refine hfin e T μ a w I.run ⟨I.r, ⟨fun t v ht => ?_, hf0.g0, hf0.g2⟩, I.size, I.defers, I.mx, I.le, fun t ht => ?_⟩
    · by_cases hw : ∃ i vi, (i, vi) ∈ vals ∧ Dst C.all i t
      · obtain ⟨i, vi, hi, hd⟩ := hw
        have := I.env.val i vi t hi hd
        rw [ht] at this; cases this
        exact I.f1 i v t (hdone i v hi) hi hd
      · rw [I.env.oth t (fun i vi hi hd => hw ⟨i, vi, hi, hd⟩)] at ht
        obtain ⟨x, hx, hv⟩ := hf0.fr t v ht
        refine ⟨x, ?_, hv⟩
        rw [I.f2 t fun i hi hd => ?_]
        · exact hx
        · obtain ⟨vi, hvi⟩ := I.sub i hi
          exact hw ⟨i, vi, hvi, hd⟩
    · refine I.env.oth t fun i vi hi hd => ht ?_
      obtain ⟨o, ho, hod⟩ := hd
      exact mem_dsts (List.mem_of_getElem? ho) hod
  intro fuel
  induction fuel with
  | zero =>
    intro listed vals rs e T B a w μ hsz hc I hH
    have hno : Region.ready .any ops listed = [] := by
      rw [List.eq_nil_iff_forall_not_mem]
      intro i hi
      obtain ⟨h1, o, ho, _⟩ := mem_ready.1 hi
      have hin := (Array.getElem?_eq_some_iff.1 ho).1
      have h0 : (List.range ops.size).filter (fun i => !listed.getD i false) = [] := List.eq_nil_of_length_eq_zero (by omega)
      have h2 := List.filter_eq_nil_iff.1 h0 i (by simpa using hin)
      simp only [Array.getD_eq_getD_getElem?, Array.getElem?_eq_getElem (show i < listed.size by omega), Option.getD_some] at h1 h2
      rw [h1] at h2; simp at h2
    exact ⟨hno, fin listed vals rs e T B a w μ hsz I hno⟩
  | succ fuel ih =>
    intro listed vals rs e T B a w μ hsz hc I hH
    refine ⟨fun hno => fin listed vals rs e T B a w μ hsz I hno, fun i hi => ?_⟩
    obtain ⟨h1, o, ho, hr⟩ := mem_ready.1 hi
    have hin := (Array.getElem?_eq_some_iff.1 ho).1
    have hiL : ¬ listed.getD i false = true := by
      simp only [Array.getD_eq_getD_getElem?, Array.getElem?_eq_getElem (show i < listed.size by omega), Option.getD_some] at h1 ⊢
      rw [h1]; simp
    have hrd : Rdy (fun i => listed.getD i false = true) o := fun ed hed hb => hr ed (by simpa using hed) hb
    have hoa : C.all[i]? = some o := by rw [hops]; exact ho
    have hset : ∀ j, (listed.getD j false = true ∨ j = i) ↔ (listed.setIfInBounds i true).getD j false = true := fun j => by
      by_cases e1 : j = i
      · subst e1
        simp [show j < listed.size by omega]
      · rw [getD_set_ne false (Ne.symm e1)]
        simp [e1]
    have hcnt : ((List.range ops.size).filter (fun j => !(listed.setIfInBounds i true).getD j false)).length ≤ fuel := by
      have := filter_lt (p := fun j => !listed.getD j false) (q := fun j => !(listed.setIfInBounds i true).getD j false) (k := i) (l := List.range ops.size) (fun j _ hj => by
        cases hl : listed.getD j false with
        | false => rfl
        | true =>
          have := (hset j).1 (.inl hl)
          rw [this] at hj; cases hj) (by simpa using hin) (by simpa using hiL) (by rw [(hset i).1 (.inr rfl)]; rfl)
      omega
    have go : ∀ {vals' : List (Nat × AV)} {rs' e' T' B' a' w' μ'}, Inv C vals' rs' e' T' (fun j => listed.getD j false = true ∨ j = i) B' a' w' μ' → wpAny C.P .any ops Q fuel (listed.setIfInBounds i true) a' w' := fun I' => by
      obtain ⟨vals2, rs2, e2, T2, B2, I2, hH2⟩ := advance hC I'
      exact ih _ vals2 rs2 e2 T2 B2 _ _ _ (by simpa using hsz) hcnt (I2.congr hset) hH2
    -- is it one of those that the abstract memory is past?
    by_cases hv : ∃ v, (i, v) ∈ vals
    · obtain ⟨v, hv⟩ := hv
      obtain ⟨pre, old, hvv⟩ := split_mem hv
      obtain ⟨o', re, ho', hs⟩ := I.hist pre i v old hvv
      rw [hoa] at ho'; cases ho'
      obtain ⟨p, ej, hp, he, hh⟩ := I.pend pre i v old hvv hiL
      rw [hoa] at hp; cases hp
      have hF := look hC I hoa (fun q hq => by rw [hvv]; exact List.mem_append_right _ (List.mem_cons_of_mem _ hq)) (hist_new I hvv) hs he hrd hiL
      rcases hh with ⟨h1, h2⟩ | ⟨h1, h2, z, rows, mk, h3, h4, h5, h6, h7, h8⟩
      · classical
        refine opG (k := fun u s' => decide (u = v ∧ s' = T)) hC hall I.r hoa hF (by rw [show C.G o ej T _ = _ from h2 _]; simp) fun u s' x w' μ' hk hle hX hvr hR => ?_
        obtain ⟨rfl, rfl⟩ := of_decide_eq_true hk
        refine go (I.list hC hoa hv hiL hrd (I.r.mle hX) hvr hR (I.mx.tr I.le hX) fun j u' p hj hm hn hp hf => ?_)
        obtain ⟨pre', old', hv'⟩ := split_mem hm
        obtain ⟨p', ej', hp', he', hh'⟩ := I.pend pre' j u' old' hv' hn
        rw [hp] at hp'; cases hp'
        rcases hh' with ⟨g1, _⟩ | ⟨g1, g2, z', rows', mk', g3, g4, g5, g6, g7, g8⟩
        · omega
        · rw [hX _ (blk_lt I.r g5)]; exact g6
      · unfold wpOp
        simp only [ho]
        rw [if_pos (by simp [Region.wanted, h2])]
        refine .inl (wp_of_outR (Mk.late (h8 w μ a hF) I.r h5 h6) fun x w' ⟨μ', g1, g2, g3, g4⟩ => ?_)
        rw [← h4] at g3
        refine go (I.list hC hoa hv hiL hrd g1 g3 g4 (fun b hb => ?_) fun j u' p hj hm hn hp hf => ?_)
        · rw [g2 b (fun e1 => by rw [e1] at hb; omega)]; exact I.mx b hb
        · obtain ⟨pre', old', hv'⟩ := split_mem hm
          obtain ⟨p', ej', hp', he', hh'⟩ := I.pend pre' j u' old' hv' hn
          rw [hp] at hp'; cases hp'
          rcases hh' with ⟨k1, _⟩ | ⟨k1, k2, z', rows', mk', k3, k4, k5, k6, k7, k8⟩
          · omega
          · rw [g2 _ (I.inj j i u' v p o hm hv hn hiL hp hoa hf h1 hj)]; exact k6
    · -- then it is the effect that comes next
      cases rs with
      | nil =>
        exfalso
        have hch : allIn C.all.length (vals.map (·.1)) = true := I.chk
        have := allIn_true hch i (by rw [hall]; simpa using hin)
        obtain ⟨⟨j, v⟩, hj, e1⟩ := List.mem_map.1 this
        exact hv ⟨v, by rw [← e1]; exact hj⟩
      | cons p l =>
        obtain ⟨h, re⟩ := p
        obtain ⟨oh, hoh, hsh, hch⟩ := chk_cons I.chk
        have hfh := hH h re l oh rfl hoh
        have hhL : ¬ listed.getD h false = true := fun hl => by
          obtain ⟨v, hv⟩ := I.sub h hl
          exact hsh.new (List.mem_map.2 ⟨_, hv, rfl⟩)
        by_cases hih : i = h
        · subst hih
          rw [hoa] at hoh; cases hoh
          have hF := look hC I hoa (old := vals) (fun q hq => hq) (fun j u hj => .inl hj) hsh I.env hrd hiL
          refine opG hC hall I.r hoa hF (cmpD_cons hoa I.run) fun u s' x w' μ' hk hle hX hvr hR => ?_
          exact go (I.effect hC hoa hfh hiL hrd hk hle hX hvr hR)
        · -- a later one waits for the next effect
          exfalso
          have later : ∀ (l : List (Nat × List Nat)) (done : List Nat), chk C.all C.ms done l = true → h ∈ done → i ∉ done → ∃ done' re', Stp C.all C.ms done' i re' o ∧ h ∈ done' := by
            intro l
            induction l with
            | nil =>
              intro done hc hd hn
              exact absurd (allIn_true (show allIn C.all.length done = true from hc) i (by rw [hall]; simpa using hin)) hn
            | cons p l ihl =>
              intro done hc hd hn
              obtain ⟨m, re'⟩ := p
              obtain ⟨om, hom, hsm, hcm⟩ := chk_cons hc
              by_cases him : i = m
              · subst him
                rw [hoa] at hom; cases hom
                exact ⟨done, re', hsm, hd⟩
              · exact ihl (m :: done) hcm (List.mem_cons_of_mem _ hd) (fun hm => (List.mem_cons.1 hm).elim him hn)
          obtain ⟨done', re', hst, hhd⟩ := later l (h :: vals.map (·.1)) hch (by simp) (fun hm => by
            rcases List.mem_cons.1 hm with hm | hm
            · exact hih hm
            · obtain ⟨⟨j, v⟩, hj, e1⟩ := List.mem_map.1 hm
              exact hv ⟨v, by rw [← e1]; exact hj⟩)
          exact hhL (aw_listed hoa (hst.eff h oh hhd hoh hfh) I.cl hrd)
end
theorem drawn_sound {P : Program} {call : Nat → Fn} {inv : Env → Operand → String → List Operand → St → K → Bool} {eqs : List (Nat × List Nat)} {c : Clo} {w0 w : World} {s : St} {μ : Mu} {a : Act} {e : Env} {ops : Array Oper} {ord : List (Nat × List Nat)} {k : Env → St → Bool} {Q : Exit → Act → World → Prop} {id : Nat}
    (hm : P.follows .mixedOrders = true) (K1 : Known P call inv eqs c) (hE : InvEnv inv) (hr : R w0 s w μ) (hf : Fm μ e a) (hsl : ∀ o ∈ ops.toList, ∀ t, o.dst = some t → t < a.tmps.size) (hord : ordOk ops.toList ord = true) (h : cmpD P call inv eqs c ops.toList ord [] e s k = true)
    (hfin : ∀ e' s' μ' a' w', k e' s' = true → Nx w0 s μ a e (dsts ops.toList) e' s' μ' a' w' → Q .normal a' w') : (Code.region id ops true).wp P Q a w := by
  refine wp_region_any hm ?_
  let C : Cx := ⟨P, call, inv, eqs, c, ops.toList, w0, s, μ, a, e, k⟩
  have hC : C.Ok := ⟨K1, hE, ⟨w, hr⟩, hf, fun i t ⟨o, ho, hd⟩ => hsl o (List.mem_of_getElem? ho) t hd⟩
  have hno : ∀ i, ¬ (Array.replicate ops.size false).getD i false = true := fun i => by
    simp only [Array.getD_eq_getD_getElem?, Array.getElem?_replicate]
    split <;> simp
  have hr' : R w0 s { w with drawn := w.drawn + 1 } μ := hr.same rfl rfl rfl rfl
  have I : Inv C [] ord e s (fun i => (Array.replicate ops.size false).getD i false = true) (fun _ => nx s) a { w with drawn := w.drawn + 1 } μ := {
    run := h
    chk := hord
    hist := fun pre j v old h => by cases pre <;> cases h
    env := ⟨fun i v t h => (List.not_mem_nil h).elim, fun t _ => rfl⟩
    r := hr'
    mx := MX.rfl'
    le := Nat.le_refl _
    size := rfl
    defers := rfl
    f1 := fun i v t h => absurd h (hno i)
    f2 := fun t _ => rfl
    sub := fun i h => absurd h (hno i)
    cl := fun i o h => absurd h (hno i)
    eff := fun i v o h => (List.not_mem_nil h).elim
    pend := fun pre j v old h => by cases pre <;> cases h
    inj := fun i j vi vj oi oj h => (List.not_mem_nil h).elim }
  obtain ⟨vals', rs', e', T', B', I', hH⟩ := advance hC I
  exact drawn_all hC rfl hfin ops.size _ vals' rs' e' T' B' a _ μ (by simp) (by
    refine Nat.le_trans (List.length_filter_le _ _) ?_
    simp) I' hH
end X
