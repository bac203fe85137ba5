/- What an abstract value and an abstract memory say of the model. -/
import Derived.Test.YtapflcgnihdmoaaGreatDoorA1
import Derived.Below
import Derived.Control
import Derived.Orders
import Derived.Scope
import Derived.Deep.AppendSrc
import Derived.Laws.MakeOwn
import Derived.Laws.CopyRow
import Derived.Laws.Tables
import Derived.Laws.Strings
/- What an abstract value and an abstract memory say of a value and a world. -/
namespace X
open Go Go.RowKit
set_option linter.unusedVariables false
set_option linter.unusedSimpArgs false
set_option linter.unusedSectionVars false
/-! numbers of blocks -/
def D.n : D → Nat | .d0 => 0 | .d1 => 1 | .d2 => 2 | .d3 => 3 | .d4 => 4 | .d5 => 5 | .d6 => 6 | .d7 => 7
def Id.n : Id → Nat | .mk a b c d e f => ((((a.n * 8 + b.n) * 8 + c.n) * 8 + d.n) * 8 + e.n) * 8 + f.n
theorem D.lt (a : D) : a.n < 8 := by cases a <;> decide
theorem D.inj {a b : D} (h : a.n = b.n) : a = b := by cases a <;> cases b <;> first | rfl | (simp [D.n] at h)
theorem Id.inj {a b : Id} (h : a.n = b.n) : a = b := by
  obtain ⟨a1, a2, a3, a4, a5, a6⟩ := a
  obtain ⟨b1, b2, b3, b4, b5, b6⟩ := b
  simp only [Id.n] at h
  have := a1.lt; have := a2.lt; have := a3.lt; have := a4.lt; have := a5.lt; have := a6.lt
  have := b1.lt; have := b2.lt; have := b3.lt; have := b4.lt; have := b5.lt; have := b6.lt
  rw [D.inj (a := a1) (b := b1) (by omega), D.inj (a := a2) (b := b2) (by omega), D.inj (a := a3) (b := b3) (by omega), D.inj (a := a4) (b := b4) (by omega), D.inj (a := a5) (b := b5) (by omega), D.inj (a := a6) (b := b6) (by omega)]
theorem dC_true {d : D} {x y : Bool} (h : dC d x y = true) : (d.n < 7 ∧ (dS d).n = d.n + 1 ∧ x = true) ∨ (d.n = 7 ∧ y = true) := by
  cases d <;> first | exact .inl ⟨by decide, rfl, h⟩ | exact .inr ⟨rfl, h⟩
theorem idS_true {b : Id} {k : Id → Bool} (h : idS b k = true) : ∃ c : Id, c.n = b.n + 1 ∧ k c = true := by
  obtain ⟨a1, a2, a3, a4, a5, a6⟩ := b
  have h0 : D.d0.n = 0 := rfl
  rcases dC_true h with ⟨_, e, h⟩ | ⟨e6, h⟩
  · exact ⟨_, by simp only [Id.n]; omega, h⟩
  rcases dC_true h with ⟨_, e, h⟩ | ⟨e5, h⟩
  · exact ⟨_, by simp only [Id.n]; omega, h⟩
  rcases dC_true h with ⟨_, e, h⟩ | ⟨e4, h⟩
  · exact ⟨_, by simp only [Id.n]; omega, h⟩
  rcases dC_true h with ⟨_, e, h⟩ | ⟨e3, h⟩
  · exact ⟨_, by simp only [Id.n]; omega, h⟩
  rcases dC_true h with ⟨_, e, h⟩ | ⟨e2, h⟩
  · exact ⟨_, by simp only [Id.n]; omega, h⟩
  rcases dC_true h with ⟨_, e, h⟩ | ⟨e1, h⟩
  · exact ⟨_, by simp only [Id.n]; omega, h⟩
  · cases h
/-! the tree of blocks -/
theorem ch_up (d : D) (n h : H) : ch d (up d n h) = n := by cases h <;> cases d <;> rfl
theorem ch_up_ne {d d' : D} (n h : H) (hd : d' ≠ d) : ch d' (up d n h) = ch d' h := by
  cases h <;> cases d <;> cases d' <;> first | rfl | exact absurd rfl hd
theorem hget_hset (b : Id) (n h : H) : hget b (hset b n h) = n := by
  obtain ⟨a1, a2, a3, a4, a5, a6⟩ := b
  show ch a6 (ch a5 (ch a4 (ch a3 (ch a2 (ch a1 (up a1 (up a2 (up a3 (up a4 (up a5 (up a6 n _) _) _) _) _) _)))))) = n
  simp only [ch_up]
theorem hget_hset_ne {b b' : Id} (n h : H) (hb : b' ≠ b) : hget b' (hset b n h) = hget b' h := by
  obtain ⟨a1, a2, a3, a4, a5, a6⟩ := b
  obtain ⟨b1, b2, b3, b4, b5, b6⟩ := b'
  show ch b6 (ch b5 (ch b4 (ch b3 (ch b2 (ch b1 (up a1 (up a2 (up a3 (up a4 (up a5 (up a6 n (ch a5 (ch a4 (ch a3 (ch a2 (ch a1 h)))))) (ch a4 (ch a3 (ch a2 (ch a1 h))))) (ch a3 (ch a2 (ch a1 h)))) (ch a2 (ch a1 h))) (ch a1 h)) h)))))) = ch b6 (ch b5 (ch b4 (ch b3 (ch b2 (ch b1 h)))))
  by_cases h1 : b1 = a1
  · subst h1; rw [ch_up]
    by_cases h2 : b2 = a2
    · subst h2; rw [ch_up]
      by_cases h3 : b3 = a3
      · subst h3; rw [ch_up]
        by_cases h4 : b4 = a4
        · subst h4; rw [ch_up]
          by_cases h5 : b5 = a5
          · subst h5; rw [ch_up]
            by_cases h6 : b6 = a6
            · subst h6; exact absurd rfl hb
            · rw [ch_up_ne _ _ h6]
          · rw [ch_up_ne _ _ h5]
        · rw [ch_up_ne _ _ h4]
      · rw [ch_up_ne _ _ h3]
    · rw [ch_up_ne _ _ h2]
  · rw [ch_up_ne _ _ h1]
/-! lists -/
theorem drp_eq {α : Type} : ∀ (l : List α) (n : Nat), drp l n = l.drop n
  | [], n => by cases n <;> rfl
  | x :: l, 0 => rfl
  | x :: l, n + 1 => drp_eq l n
theorem tk_eq {α : Type} : ∀ (n : Nat) (l : List α), tk n l = l.take n
  | 0, l => by cases l <;> rfl
  | n + 1, [] => rfl
  | n + 1, x :: l => by
    show x :: tk n l = x :: l.take n
    rw [tk_eq n l]
theorem len_eq {α : Type} : ∀ l : List α, len l = l.length
  | [] => rfl
  | x :: l => by
    show Nat.succ (len l) = _
    rw [len_eq l]; rfl
theorem app_eq {α : Type} : ∀ l m : List α, app l m = l ++ m
  | [], m => rfl
  | x :: l, m => by
    show x :: app l m = _
    rw [app_eq l m]; rfl
theorem setAt_eq {α : Type} : ∀ (l : List α) (i : Nat) (v : α), setAt l i v = l.set i v
  | [], i, v => by cases i <;> rfl
  | x :: l, 0, v => rfl
  | x :: l, i + 1, v => by
    show x :: setAt l i v = x :: l.set i v
    rw [setAt_eq l i v]
theorem has_true {α : Type} : ∀ {n : Nat} {l : List α}, has n l = true → n ≤ l.length
  | 0, _, _ => Nat.zero_le _
  | n + 1, [], h => by cases h
  | n + 1, x :: l, h => by
    have := has_true (n := n) (l := l) h
    simp; omega
theorem rep_eq {α : Type} (x : α) : ∀ n, rep x n = List.replicate n x
  | 0 => rfl
  | n + 1 => by
    show x :: rep x n = _
    rw [rep_eq x n]; rfl
theorem nthL_true {α : Type} : ∀ {l : List α} {i : Nat} {k : α → Bool}, nthL l i k = true → ∃ x, l[i]? = some x ∧ k x = true
  | [], _, _, h => by cases h
  | x :: l, 0, k, h => ⟨x, rfl, h⟩
  | x :: l, i + 1, k, h => by
    obtain ⟨y, hy, hk⟩ := nthL_true (l := l) (i := i) h
    exact ⟨y, by simpa using hy, hk⟩
theorem over_get {α : Type} : ∀ {l m : List α} {i : Nat}, m.length ≤ l.length → (over l m)[i]? = if i < m.length then m[i]? else l[i]?
  | [], [], i, _ => rfl
  | x :: l, [], i, _ => by
    show (x :: l)[i]? = _
    simp
  | [], y :: m, i, h => by simp at h
  | x :: l, y :: m, 0, _ => by
    show (y :: over l m)[0]? = _
    simp
  | x :: l, y :: m, i + 1, h => by
    show (y :: over l m)[i + 1]? = _
    have := over_get (l := l) (m := m) (i := i) (by simpa using h)
    simp only [List.getElem?_cons_succ, this, List.length_cons]
    simp
theorem over_len {α : Type} : ∀ {l m : List α}, m.length ≤ l.length → (over l m).length = l.length
  | [], [], _ => rfl
  | x :: l, [], _ => rfl
  | [], y :: m, h => by simp at h
  | x :: l, y :: m, h => by
    show (y :: over l m).length = _
    simp [over_len (l := l) (m := m) (by simpa using h)]
theorem overAt_get {α : Type} : ∀ {l m : List α} {i j : Nat}, i + m.length ≤ l.length → (overAt l i m)[j]? = if i ≤ j ∧ j < i + m.length then m[j - i]? else l[j]?
  | [], m, i, j, h => by
    have h' : i + m.length ≤ 0 := h
    have : m.length = 0 := by omega
    obtain rfl := List.length_eq_zero_iff.1 this
    show ([] : List α)[j]? = _
    simp
  | x :: l, m, 0, j, h => by
    show (over (x :: l) m)[j]? = _
    rw [over_get (by simpa using h)]
    simp
  | x :: l, m, i + 1, 0, h => by
    show (x :: overAt l i m)[0]? = _
    simp
  | x :: l, m, i + 1, j + 1, h => by
    show (x :: overAt l i m)[j + 1]? = _
    have := overAt_get (l := l) (m := m) (i := i) (j := j) (by simp at h; omega)
    simp only [List.getElem?_cons_succ, this]
    by_cases hc : i ≤ j ∧ j < i + m.length
    · rw [if_pos hc, if_pos (by omega), show j + 1 - (i + 1) = j - i by omega]
    · rw [if_neg hc, if_neg (by omega)]
theorem overAt_len {α : Type} : ∀ {l m : List α} {i : Nat}, i + m.length ≤ l.length → (overAt l i m).length = l.length
  | [], m, i, h => rfl
  | x :: l, m, 0, h => by
    show (over (x :: l) m).length = _
    exact over_len (by simpa using h)
  | x :: l, m, i + 1, h => by
    show (x :: overAt l i m).length = _
    simp [overAt_len (l := l) (m := m) (i := i) (by simp at h; omega)]
/-! values -/
/-- where a block lies: block, first cell, cells of a row, cells of the whole -/
structure Pl where
  g : Nat
  sh : Nat
  z : Nat
  sz : Nat
abbrev Mu := Id → Option Pl
/-- the number that is not known -/
class Luck where
  val : Int
  /-- blocks that hold what they hold: the program's tables -/
  tab : List (Nat × Obj)
variable [Luck]
inductive VRel (μ : Mu) : AV → Value → Prop
  | bool (b : Bool) : VRel μ (.bool b) (.bool b)
  | int (k : IntKind) (n : Int) : VRel μ (.int k n) (.int k n)
  | str (s : ByteArray) : VRel μ (.str (s.data.toList.map (·.toNat))) (.string s)
  | nilp : VRel μ .nilp (.pointer none)
  | ptr (b : Id) (i o : Nat) (p : Pl) : μ b = some p → VRel μ (.ptr b i o) (.pointer (some ⟨p.g, p.sh + i * p.z + o, none⟩))
  | nils : VRel μ .nils (.slice none 0 0)
  | sl (b : Id) (i l r z : Nat) (ex : Bool) (p : Pl) (a : Addr) (cap : Nat) : μ b = some p → p.z = z → r ≤ cap → (ex = true → cap = r) → l ≤ r → (cap ≠ 0 → a = ⟨p.g, p.sh + i * p.z, none⟩) → p.sh + (i + cap) * p.z ≤ p.sz → VRel μ (.sl b i l r z ex) (.slice (some a) l cap)
  | fn (f : Nat) (a c : List AV) (a' c' : Array Value) : a.length = a'.size → (∀ (i : Nat) (v : AV) (x : Value), a[i]? = some v → a'[i]? = some x → VRel μ v x) → c.length = c'.size → (∀ (i : Nat) (v : AV) (x : Value), c[i]? = some v → c'[i]? = some x → VRel μ v x) → VRel μ (.fn f a c) (.func (.func f) a' c')
  | nilf : VRel μ .nilf .nilFunc
  | ifc (t : Nat) (v : AV) (x : Value) : VRel μ v x → VRel μ (.ifc t v) (.iface t x)
  | nili : VRel μ .nili .nilIface
  | nilm : VRel μ .nilm (.map none)
  | map (b : Id) (p : Pl) : μ b = some p → VRel μ (.map b) (.map (some p.g))
  | agg (l : List AV) (xs : Array Value) : l.length = xs.size → (∀ (i : Nat) (v : AV) (x : Value), l[i]? = some v → xs[i]? = some x → VRel μ v x) → (∀ x ∈ xs.toList, x.oneCell' = true) → VRel μ (.agg l) (.agg xs)
  | tup (l : List AV) (xs : Array Value) : l.length = xs.size → (∀ (i : Nat) (v : AV) (x : Value), l[i]? = some v → xs[i]? = some x → VRel μ v x) → VRel μ (.tup l) (.tuple xs)
  | sym : VRel μ .sym (.int .i64 Luck.val)
def MLe (μ μ' : Mu) : Prop := ∀ b p, μ b = some p → μ' b = some p
theorem MLe.rfl' {μ : Mu} : MLe μ μ := fun _ _ h => h
theorem MLe.tr {μ μ' μ'' : Mu} (h : MLe μ μ') (k : MLe μ' μ'') : MLe μ μ'' := fun b p e => k b p (h b p e)
theorem VRel.mono {μ μ' : Mu} (hm : MLe μ μ') {v : AV} {x : Value} (h : VRel μ v x) : VRel μ' v x := by
  induction h with
  | bool b => exact .bool b
  | int k n => exact .int k n
  | str s => exact .str s
  | nilp => exact .nilp
  | ptr b i o p h => exact .ptr b i o p (hm _ _ h)
  | nils => exact .nils
  | sl b i l r z ex p a cap h1 h0 h2 h3 h4 h5 h6 => exact .sl b i l r z ex p a cap (hm _ _ h1) h0 h2 h3 h4 h5 h6
  | fn f a c a' c' h1 h2 h3 h4 i1 i2 => exact .fn f a c a' c' h1 i1 h3 i2
  | nilf => exact .nilf
  | ifc t v x h ih => exact .ifc t v x ih
  | nili => exact .nili
  | nilm => exact .nilm
  | map b p h => exact .map b p (hm _ _ h)
  | agg l xs h1 h2 h3 ih => exact .agg l xs h1 ih h3
  | tup l xs h1 h2 ih => exact .tup l xs h1 ih
  | sym => exact .sym
/-- lists of values -/
def VL (μ : Mu) (l : List AV) (xs : List Value) : Prop := l.length = xs.length ∧ ∀ (i : Nat) (v : AV) (x : Value), l[i]? = some v → xs[i]? = some x → VRel μ v x
theorem VL.mono {μ μ' : Mu} (hm : MLe μ μ') {l : List AV} {xs : List Value} (h : VL μ l xs) : VL μ' l xs := ⟨h.1, fun i v x a b => (h.2 i v x a b).mono hm⟩
theorem VL.nil {μ : Mu} : VL μ [] [] := ⟨rfl, fun i v x a => by simp at a⟩
theorem VL.cons {μ : Mu} {v : AV} {x : Value} {l : List AV} {xs : List Value} (h : VRel μ v x) (t : VL μ l xs) : VL μ (v :: l) (x :: xs) := by
  refine ⟨by simp [t.1], fun i w y a b => ?_⟩
  cases i with
  | zero => simp at a b; subst a; subst b; exact h
  | succ i => exact t.2 i w y (by simpa using a) (by simpa using b)
theorem VL.inv {μ : Mu} {v : AV} {l : List AV} {ys : List Value} (h : VL μ (v :: l) ys) : ∃ x xs, ys = x :: xs ∧ VRel μ v x ∧ VL μ l xs := by
  obtain ⟨h1, h2⟩ := h
  cases ys with
  | nil => simp at h1
  | cons x xs =>
    exact ⟨x, xs, rfl, h2 0 v x rfl rfl, by simpa using h1, fun i w y a b => h2 (i + 1) w y (by simpa using a) (by simpa using b)⟩
theorem VL.inv_nil {μ : Mu} {ys : List Value} (h : VL μ [] ys) : ys = [] := by
  have := h.1
  exact List.eq_nil_of_length_eq_zero (by simpa using this.symm)
theorem VL.get {μ : Mu} {l : List AV} {xs : List Value} (h : VL μ l xs) {i : Nat} {v : AV} (hv : l[i]? = some v) : ∃ x, xs[i]? = some x ∧ VRel μ v x := by
  have hi := (List.getElem?_eq_some_iff.1 hv).1
  have hi' : i < xs.length := h.1 ▸ hi
  exact ⟨xs[i], List.getElem?_eq_getElem hi', h.2 i v _ hv (List.getElem?_eq_getElem hi')⟩
theorem VL.take {μ : Mu} {l : List AV} {xs : List Value} (h : VL μ l xs) (n : Nat) : VL μ (l.take n) (xs.take n) := by
  refine ⟨by simp [h.1], fun i v x a b => ?_⟩
  rw [List.getElem?_take] at a b
  split at a
  · rename_i hi; rw [if_pos hi] at b; exact h.2 i v x a b
  · cases a
theorem VL.drop {μ : Mu} {l : List AV} {xs : List Value} (h : VL μ l xs) (n : Nat) : VL μ (l.drop n) (xs.drop n) := by
  refine ⟨by simp [h.1], fun i v x a b => ?_⟩
  rw [List.getElem?_drop] at a b
  exact h.2 _ v x a b
theorem VL.app {μ : Mu} {l m : List AV} {xs ys : List Value} (h : VL μ l xs) (k : VL μ m ys) : VL μ (l ++ m) (xs ++ ys) := by
  refine ⟨by simp [h.1, k.1], fun i v x a b => ?_⟩
  rw [List.getElem?_append] at a b
  rw [h.1] at a
  split at a
  · rename_i hi; rw [if_pos hi] at b; exact h.2 i v x a b
  · rename_i hi; rw [if_neg hi] at b; exact k.2 _ v x a b
/-- cells -/
def VC (μ : Mu) (l : List AV) (xs : List Value) : Prop := VL μ l xs ∧ ∀ x ∈ xs, x.oneCell' = true
theorem VC.mono {μ μ' : Mu} (hm : MLe μ μ') {l : List AV} {xs : List Value} (h : VC μ l xs) : VC μ' l xs := ⟨h.1.mono hm, h.2⟩
theorem VC.take {μ : Mu} {l : List AV} {xs : List Value} (h : VC μ l xs) (n : Nat) : VC μ (l.take n) (xs.take n) := ⟨h.1.take n, fun x hx => h.2 x (List.mem_of_mem_take hx)⟩
theorem VC.drop {μ : Mu} {l : List AV} {xs : List Value} (h : VC μ l xs) (n : Nat) : VC μ (l.drop n) (xs.drop n) := ⟨h.1.drop n, fun x hx => h.2 x (List.mem_of_mem_drop hx)⟩
theorem VC.app {μ : Mu} {l m : List AV} {xs ys : List Value} (h : VC μ l xs) (k : VC μ m ys) : VC μ (l ++ m) (xs ++ ys) := ⟨h.1.app k.1, fun x hx => (List.mem_append.1 hx).elim (h.2 x) (k.2 x)⟩
theorem VC.nil {μ : Mu} : VC μ [] [] := ⟨VL.nil, fun _ h => by cases h⟩
theorem VC.cons {μ : Mu} {v : AV} {x : Value} {l : List AV} {xs : List Value} (h : VRel μ v x) (h1 : x.oneCell' = true) (t : VC μ l xs) : VC μ (v :: l) (x :: xs) := ⟨t.1.cons h, fun y hy => by
  rcases List.mem_cons.1 hy with e | e
  · rw [e]; exact h1
  · exact t.2 y e⟩
theorem VC.agg {μ : Mu} {l : List AV} {xs : List Value} (h : VC μ l xs) : VRel μ (.agg l) (.agg xs.toArray) := .agg l _ (by simpa using h.1.1) (fun i v x a b => h.1.2 i v x a (by simpa using b)) (by simpa using h.2)
theorem VL.tup {μ : Mu} {l : List AV} {xs : List Value} (h : VL μ l xs) : VRel μ (.tup l) (.tuple xs.toArray) := .tup l _ (by simpa using h.1) (fun i v x a b => h.2 i v x a (by simpa using b))
theorem VRel.agg_inv {μ : Mu} {l : List AV} {x : Value} (h : VRel μ (.agg l) x) : ∃ xs : Array Value, x = .agg xs ∧ VC μ l xs.toList := by
  cases h with
  | agg l xs h1 h2 h3 => exact ⟨xs, rfl, ⟨by simpa using h1, fun i v x a b => h2 i v x a (by simpa using b)⟩, h3⟩
theorem VRel.tup_inv {μ : Mu} {l : List AV} {x : Value} (h : VRel μ (.tup l) x) : ∃ xs : Array Value, x = .tuple xs ∧ VL μ l xs.toList := by
  cases h with
  | tup l xs h1 h2 => exact ⟨xs, rfl, by simpa using h1, fun i v x a b => h2 i v x a (by simpa using b)⟩
theorem pt_true {μ : Mu} {v : AV} {x : Value} {k : List AV → Bool} (h : VRel μ v x) (hk : pt v k = true) : ∃ l, k l = true ∧ VC μ l x.cells.toList := by
  cases h with
  | agg l xs h1 h2 h3 => exact ⟨l, hk, ⟨(show l.length = xs.toList.length by simpa using h1), fun i v x a b => h2 i v x a (by simpa [Value.cells] using b)⟩, h3⟩
  | bool b => exact ⟨_, hk, VC.nil.cons (.bool b) rfl⟩
  | int k n => exact ⟨_, hk, VC.nil.cons (.int k n) rfl⟩
  | str s => exact ⟨_, hk, VC.nil.cons (.str s) rfl⟩
  | nilp => exact ⟨_, hk, VC.nil.cons .nilp rfl⟩
  | ptr b i o p h => exact ⟨_, hk, VC.nil.cons (.ptr b i o p h) rfl⟩
  | nils => exact ⟨_, hk, VC.nil.cons .nils rfl⟩
  | sl b i l r z ex p a cap h1 h0 h2 h3 h4 h5 h6 => exact ⟨_, hk, VC.nil.cons (.sl b i l r z ex p a cap h1 h0 h2 h3 h4 h5 h6) rfl⟩
  | fn f a c a' c' h1 h2 h3 h4 => exact ⟨_, hk, VC.nil.cons (.fn f a c a' c' h1 h2 h3 h4) rfl⟩
  | nilf => exact ⟨_, hk, VC.nil.cons .nilf rfl⟩
  | ifc t v x h => exact ⟨_, hk, VC.nil.cons (.ifc t v x h) rfl⟩
  | nili => exact ⟨_, hk, VC.nil.cons .nili rfl⟩
  | nilm => exact ⟨_, hk, VC.nil.cons .nilm rfl⟩
  | map b p h => exact ⟨_, hk, VC.nil.cons (.map b p h) rfl⟩
  | tup l xs h1 h2 => cases hk
  | sym => exact ⟨_, hk, VC.nil.cons .sym rfl⟩
end X
/- An abstract memory and a world. -/
namespace X
open Go Go.RowKit
set_option linter.unusedVariables false
set_option linter.unusedSimpArgs false
set_option linter.unusedSectionVars false
variable [Luck]
def hp : St → H | .mk h _ => h
def nx : St → Id | .mk _ n => n
/-- rows in a block -/
def Cl (μ : Mu) (w : World) (p : Pl) (z : Nat) (l : List (List AV)) : Prop :=
  z = p.z ∧ (∀ r ∈ l, r.length = p.z) ∧ p.sh + l.length * p.z ≤ p.sz ∧ ∃ cs el, w.heap[p.g]? = some (.cells cs el (0, 0)) ∧ cs.size = p.sz ∧
    ∀ (i : Nat) (r : List AV), l[i]? = some r → ∀ (o : Nat) (a : AV), r[o]? = some a → ∃ x, cs[p.sh + i * p.z + o]? = some x ∧ VRel μ a x ∧ x.oneCell' = true
def ObOk (μ : Mu) (w w0 : World) (p : Pl) : Ob → Prop
  | .cells z l => Cl μ w p z l ∧ w0.heap.size ≤ p.g
  | .glob z l => Cl μ w p z l
  | .map es => w0.heap.size ≤ p.g ∧ ∃ ms, w.heap[p.g]? = some (.map ms ms.size) ∧ ms.size = es.length ∧ (∀ (i : Nat) (e : MapEntry), ms[i]? = some e → e.born = i) ∧ ∀ (i : Nat) (k v : AV), es[i]? = some (k, v) → ∃ e, ms[i]? = some e ∧ VRel μ k e.key ∧ VRel μ v e.val
  | .iter m n seen => w0.heap.size ≤ p.g ∧ p.sh = 0 ∧ p.z = 0 ∧ ∃ (pm : Pl) (arr : Array Nat), μ m = some pm ∧ w.heap[p.g]? = some (.mapIter (some pm.g) n arr n) ∧ arr.toList.reverse = seen
def isGlob : Ob → Bool
  | .glob .. => true
  | _ => false
structure R (w0 : World) (s : St) (w : World) (μ : Mu) : Prop where
  ext : Below w0.heap.size w0 w
  nxt : ∀ b : Id, (nx s).n ≤ b.n → μ b = none
  ob : ∀ b o p, hget b (hp s) = .ob o → μ b = some p → ObOk μ w w0 p o
  inj : ∀ b b' o o' p p', hget b (hp s) = .ob o → isGlob o = false → hget b' (hp s) = .ob o' → μ b = some p → μ b' = some p' → p.g = p'.g → b = b'
  bd : ∀ b p, μ b = some p → p.g < w.heap.size
  fr : ∀ b : Id, (nx s).n ≤ b.n → ∀ o, hget b (hp s) ≠ .ob o
  tb : ∀ p ∈ Luck.tab, w0.heap[p.1]? = some p.2
theorem Cl.mono {μ μ' : Mu} {w w' : World} {p : Pl} {z : Nat} {l : List (List AV)} (hm : MLe μ μ') (hw : w'.heap[p.g]? = w.heap[p.g]?) (h : Cl μ w p z l) : Cl μ' w' p z l := by
  obtain ⟨h1, h2, h3, cs, el, h4, h5, h6⟩ := h
  exact ⟨h1, h2, h3, cs, el, by rw [hw, h4], h5, fun i r hr o a ha => let ⟨x, hx, hv, h1⟩ := h6 i r hr o a ha; ⟨x, hx, hv.mono hm, h1⟩⟩
theorem ObOk.mono {μ μ' : Mu} {w w' w0 : World} {p : Pl} {o : Ob} (hm : MLe μ μ') (hw : w'.heap[p.g]? = w.heap[p.g]?) (h : ObOk μ w w0 p o) : ObOk μ' w' w0 p o := by
  cases o with
  | cells z l => exact ⟨h.1.mono hm hw, h.2⟩
  | glob z l => exact Cl.mono hm hw h
  | map es =>
    obtain ⟨h1, ms, h2, h3, hb, h4⟩ := h
    exact ⟨h1, ms, by rw [hw, h2], h3, hb, fun i k v hk => let ⟨e, he, a, b⟩ := h4 i k v hk; ⟨e, he, a.mono hm, b.mono hm⟩⟩
  | iter m n seen =>
    obtain ⟨h1, h5, h6, pm, arr, h2, h3, h4⟩ := h
    exact ⟨h1, h5, h6, pm, arr, hm _ _ h2, by rw [hw, h3], h4⟩
/-- one block has changed, or is new -/
theorem R.step {w0 : World} {s s' : St} {w w' : World} {μ μ' : Mu} (h : R w0 s w μ) (c : Id) (hb : Below w0.heap.size w0 w') (hm : MLe μ μ')
    (hfr : ∀ b : Id, (nx s').n ≤ b.n → ∀ o, hget b (hp s') ≠ .ob o) (hn : ∀ b : Id, (nx s').n ≤ b.n → μ' b = none) (hbd : ∀ b p, μ' b = some p → p.g < w'.heap.size)
    (hoth : ∀ b o, b ≠ c → hget b (hp s') = .ob o → hget b (hp s) = .ob o ∧ μ' b = μ b ∧ ∀ p, μ b = some p → w'.heap[p.g]? = w.heap[p.g]?)
    (hc : ∀ o p, hget c (hp s') = .ob o → μ' c = some p → ObOk μ' w' w0 p o ∧ ∀ b o' p', b ≠ c → hget b (hp s') = .ob o' → μ' b = some p' → p'.g ≠ p.g) : R w0 s' w' μ' := by
  refine ⟨hb, hn, fun b o p ho hp' => ?_, fun b b' o o' p p' ho hg ho' hp1 hp2 hgg => ?_, hbd, hfr, h.tb⟩
  · by_cases hbc : b = c
    · subst hbc; exact (hc o p ho hp').1
    · obtain ⟨e1, e2, e3⟩ := hoth b o hbc ho
      rw [e2] at hp'
      exact (h.ob b o p e1 hp').mono hm (e3 p hp')
  · by_cases hbc : b = c
    · by_cases hbc' : b' = c
      · rw [hbc, hbc']
      · subst hbc
        exact absurd hgg.symm ((hc o p ho hp1).2 b' o' p' hbc' ho' hp2)
    · by_cases hbc' : b' = c
      · subst hbc'
        exact absurd hgg ((hc o' p' ho' hp2).2 b o p hbc ho hp1)
      · obtain ⟨e1, e2, _⟩ := hoth b o hbc ho
        obtain ⟨f1, f2, _⟩ := hoth b' o' hbc' ho'
        rw [e2] at hp1; rw [f2] at hp2
        exact h.inj b b' o o' p p' e1 hg f1 hp1 hp2 hgg
/-- the same heap -/
theorem R.same {w0 : World} {s : St} {w w' : World} {μ : Mu} (h : R w0 s w μ) (hh : w'.heap = w.heap) (h1 : w'.os = w.os) (h2 : w'.tape = w.tape) (h3 : w'.output = w.output) : R w0 s w' μ := by
  refine ⟨h.ext.trans ⟨h1, h2, h3, by rw [hh]; exact Nat.le_refl _, fun k _ => by rw [hh]⟩, h.nxt, fun b o p ho hp' => (h.ob b o p ho hp').mono MLe.rfl' (by rw [hh]), h.inj, fun b p hp' => by rw [hh]; exact h.bd b p hp', h.fr, h.tb⟩
instance : DecidableEq Id := fun a b => if h : a.n = b.n then isTrue (Id.inj h) else isFalse fun e => h (by rw [e])
def setM (μ : Mu) (n : Id) (p : Pl) : Mu := fun b => if b = n then some p else μ b
/-- two mappings agree below n -/
def MX (n : Id) (μ μ' : Mu) : Prop := ∀ b : Id, b.n < n.n → μ' b = μ b
theorem MX.rfl' {n : Id} {μ : Mu} : MX n μ μ := fun _ _ => rfl
theorem R.mle {w0 : World} {s : St} {w : World} {μ μ' : Mu} (h : R w0 s w μ) (hx : MX (nx s) μ μ') : MLe μ μ' := fun b p hb => by
  rcases Nat.lt_or_ge b.n (nx s).n with hl | hl
  · rw [hx b hl, hb]
  · rw [h.nxt b hl] at hb; cases hb
theorem MX.tr {n m : Id} {μ μ' μ'' : Mu} (hnm : n.n ≤ m.n) (h : MX n μ μ') (k : MX m μ' μ'') : MX n μ μ'' := fun b hb => (k b (by omega)).trans (h b hb)
theorem MX.set {w0 : World} {s : St} {w : World} {μ : Mu} (h : R w0 s w μ) (p : Pl) : MX (nx s) μ (setM μ (nx s) p) := fun b hb => by
  have : b ≠ nx s := fun e => by rw [e] at hb; omega
  simp [setM, this]
theorem newO_true {o : Ob} {s : St} {k : Id → St → Bool} (h : newO o s k = true) : ∃ m : Id, m.n = (nx s).n + 1 ∧ k (nx s) (.mk (hset (nx s) (.ob o) (hp s)) m) = true := by
  obtain ⟨hh, n⟩ := s
  obtain ⟨m, hm, hk⟩ := idS_true (show idS n (fun m => k n (.mk (hset n (.ob o) hh) m)) = true from h)
  exact ⟨m, hm, hk⟩
theorem wCe_true {s : St} {b : Id} {k : Nat → List (List AV) → Bool} (h : wCe s b k = true) : ∃ z l, (hget b (hp s) = .ob (.cells z l) ∨ hget b (hp s) = .ob (.glob z l)) ∧ k z l = true := by
  obtain ⟨hh, n⟩ := s
  have h' : wOb (hget b hh) k = true := h
  show ∃ z l, (hget b hh = _ ∨ hget b hh = _) ∧ _
  generalize hget b hh = g at h' ⊢
  cases g with
  | e => cases h'
  | nd => cases h'
  | ob o => cases o with
    | cells z l => exact ⟨z, l, .inl rfl, h'⟩
    | glob z l => exact ⟨z, l, .inr rfl, h'⟩
    | map _ => cases h'
    | iter _ _ _ => cases h'
theorem wCw_true {s : St} {b : Id} {k : Nat → List (List AV) → Bool} (h : wCw s b k = true) : ∃ z l, hget b (hp s) = .ob (.cells z l) ∧ k z l = true := by
  obtain ⟨hh, n⟩ := s
  have h' : wOw (hget b hh) k = true := h
  show ∃ z l, hget b hh = _ ∧ _
  generalize hget b hh = g at h' ⊢
  cases g with
  | e => cases h'
  | nd => cases h'
  | ob o => cases o with
    | cells z l => exact ⟨z, l, rfl, h'⟩
    | glob z l => cases h'
    | map _ => cases h'
    | iter _ _ _ => cases h'
theorem R.cl {w0 : World} {s : St} {w : World} {μ : Mu} (h : R w0 s w μ) {b : Id} {z : Nat} {l : List (List AV)} {p : Pl} (hb : hget b (hp s) = .ob (.cells z l) ∨ hget b (hp s) = .ob (.glob z l)) (hp' : μ b = some p) : Cl μ w p z l := by
  rcases hb with hb | hb
  · exact (h.ob b _ p hb hp').1
  · exact h.ob b _ p hb hp'
/-- a cell -/
theorem Cl.cell {μ : Mu} {w : World} {p : Pl} {z : Nat} {l : List (List AV)} (h : Cl μ w p z l) {i o : Nat} {r : List AV} {a : AV} (hr : l[i]? = some r) (ha : r[o]? = some a) : ∃ x, w.cell? ⟨p.g, p.sh + i * p.z + o, none⟩ = some x ∧ VRel μ a x ∧ x.oneCell' = true := by
  obtain ⟨_, _, _, cs, el, h4, _, h6⟩ := h
  obtain ⟨x, hx, hv⟩ := h6 i r hr o a ha
  refine ⟨x, ?_, hv⟩
  unfold World.cell?
  simp only [h4]
  simpa using hx
theorem World.heap_push {w : World} (o : Obj) : ({ w with heap := w.heap.push o } : World).heap = w.heap.push o := rfl
/-- a new block, made -/
theorem R.push {w0 : World} {s : St} {w : World} {μ : Mu} (h : R w0 s w μ) {o : Ob} {o' : Obj} {m : Id} (hm : m.n = (nx s).n + 1) (p : Pl) (hp' : p.g = w.heap.size)
    (hok : ObOk (setM μ (nx s) p) { w with heap := w.heap.push o' } w0 p o) : R w0 (.mk (hset (nx s) (.ob o) (hp s)) m) { w with heap := w.heap.push o' } (setM μ (nx s) p) := by
  have hle : MLe μ (setM μ (nx s) p) := h.mle (MX.set h p)
  have hw0 : w0.heap.size ≤ w.heap.size := h.ext.size
  have hold : ∀ q : Nat, q < w.heap.size → (w.heap.push o')[q]? = w.heap[q]? := fun q hq => by rw [Array.getElem?_push, if_neg (by omega)]
  have hne : ∀ b : Id, b ≠ nx s → setM μ (nx s) p b = μ b := fun b hb => by simp [setM, hb]
  refine h.step (nx s) (h.ext.trans ⟨rfl, rfl, rfl, by simp, fun k hk => hold k (by omega)⟩) hle (fun b hb o1 => by
    have hb' : m.n ≤ b.n := hb
    show hget b (hset (nx s) (.ob o) (hp s)) ≠ _
    rw [hget_hset_ne _ _ (fun e => by rw [e] at hb'; omega)]
    exact h.fr b (by omega) o1) (fun b hb => ?_) (fun b q hq => ?_) (fun b ob hb hob => ⟨?_, hne b hb, fun q hq => hold _ (h.bd b q hq)⟩) (fun ob q hob hq => ?_)
  · have hb' : m.n ≤ b.n := hb
    have : b ≠ nx s := fun e => by rw [e] at hb'; omega
    rw [hne b this]; exact h.nxt b (by omega)
  · by_cases e : b = nx s
    · subst e; simp [setM] at hq; subst hq; simp [hp']
    · rw [hne b e] at hq; have := h.bd b q hq; simp; omega
  · have : hget b (hset (nx s) (.ob o) (hp s)) = .ob ob := hob
    rwa [hget_hset_ne _ _ hb] at this
  · have e1 : hget (nx s) (hset (nx s) (.ob o) (hp s)) = .ob ob := hob
    rw [hget_hset] at e1
    cases e1
    simp [setM] at hq; subst hq
    refine ⟨hok, fun b o' p' hb _ hq' e => ?_⟩
    rw [hne b hb] at hq'
    have := h.bd b p' hq'
    omega
/-- a new block, not made yet -/
theorem R.later {w0 : World} {s : St} {w : World} {μ : Mu} (h : R w0 s w μ) {o : Ob} {m : Id} (hm : m.n = (nx s).n + 1) : R w0 (.mk (hset (nx s) (.ob o) (hp s)) m) w μ := by
  refine h.step (nx s) h.ext MLe.rfl' (fun b hb o1 => by
    have hb' : m.n ≤ b.n := hb
    show hget b (hset (nx s) (.ob o) (hp s)) ≠ _
    rw [hget_hset_ne _ _ (fun e => by rw [e] at hb'; omega)]
    exact h.fr b (by omega) o1) (fun b hb => h.nxt b (by have : m.n ≤ b.n := hb; omega)) h.bd (fun b ob hb hob => ⟨?_, rfl, fun _ _ => rfl⟩) (fun ob q hob hq => ?_)
  · have : hget b (hset (nx s) (.ob o) (hp s)) = .ob ob := hob
    rwa [hget_hset_ne _ _ hb] at this
  · rw [h.nxt (nx s) (Nat.le_refl _)] at hq; cases hq
theorem putO_hp (b : Id) (o : H) (s : St) : hp (putO b o s) = hset b o (hp s) := by cases s; rfl
theorem putO_nx (b : Id) (o : H) (s : St) : nx (putO b o s) = nx s := by cases s; rfl
/-- a block that is no more -/
theorem R.kill {w0 : World} {s : St} {w : World} {μ : Mu} (h : R w0 s w μ) (b : Id) : R w0 (putO b .e s) w μ := by
  refine h.step b h.ext MLe.rfl' (fun c hc o1 => by
    rw [putO_nx] at hc
    rw [putO_hp]
    by_cases e : c = b
    · rw [e, hget_hset]; intro h; cases h
    · rw [hget_hset_ne _ _ e]; exact h.fr c hc o1) (fun c hc => h.nxt c (by rwa [putO_nx] at hc)) h.bd (fun c oc hc hoc => ⟨?_, rfl, fun _ _ => rfl⟩) (fun o p ho => ?_)
  · rw [putO_hp, hget_hset_ne _ _ hc] at hoc; exact hoc
  · rw [putO_hp, hget_hset] at ho; cases ho
/-- a block's rows, written over -/
theorem R.write {w0 : World} {s : St} {w w' : World} {μ : Mu} (h : R w0 s w μ) {b : Id} {z : Nat} {l l' : List (List AV)} {p : Pl} (hb : hget b (hp s) = .ob (.cells z l)) (hp' : μ b = some p)
    (h1 : w'.os = w.os) (h2 : w'.tape = w.tape) (h3 : w'.output = w.output) (h4 : w'.heap.size = w.heap.size) (hoth : ∀ k, k ≠ p.g → w'.heap[k]? = w.heap[k]?) (hcl : Cl μ w' p z l') : R w0 (putO b (.ob (.cells z l')) s) w' μ := by
  have hown := (h.ob b _ p hb hp').2
  have hdis : ∀ c oc q, c ≠ b → hget c (hp s) = .ob oc → μ c = some q → q.g ≠ p.g := fun c oc q hc hoc hq e => hc (h.inj b c _ oc p q hb rfl hoc hp' hq e.symm).symm
  refine h.step b (h.ext.trans ⟨h1, h2, h3, by omega, fun k hk => hoth k (by omega)⟩) MLe.rfl' (fun c hc o1 => by
    rw [putO_nx] at hc
    have e : c ≠ b := fun e => h.fr c hc _ (by rw [e]; exact hb)
    rw [putO_hp, hget_hset_ne _ _ e]; exact h.fr c hc o1) (fun c hc => h.nxt c (by rwa [putO_nx] at hc)) (fun c q hq => by have := h.bd c q hq; omega) (fun c oc hc hoc => ?_) (fun o q ho hq => ?_)
  · rw [putO_hp, hget_hset_ne _ _ hc] at hoc
    exact ⟨hoc, rfl, fun q hq => hoth _ (hdis c oc q hc hoc hq)⟩
  · rw [putO_hp, hget_hset] at ho
    cases ho
    rw [hp'] at hq; cases hq
    refine ⟨⟨hcl, hown⟩, fun c oc q hc hoc hq => ?_⟩
    rw [putO_hp, hget_hset_ne _ _ hc] at hoc
    exact hdis c oc q hc hoc hq
/-- a block taken over by a new one, in the same place -/
theorem R.over {w0 : World} {s : St} {w w' : World} {μ : Mu} (h : R w0 s w μ) {b : Id} {z : Nat} {l : List (List AV)} {z' : Nat} {l' : List (List AV)} {p p' : Pl} {m : Id} (hm : m.n = (nx s).n + 1) (hb : hget b (hp s) = .ob (.cells z l)) (hp' : μ b = some p) (hg : p'.g = p.g)
    (h1 : w'.os = w.os) (h2 : w'.tape = w.tape) (h3 : w'.output = w.output) (h4 : w'.heap.size = w.heap.size) (hoth : ∀ k, k ≠ p.g → w'.heap[k]? = w.heap[k]?) (hcl : Cl (setM μ (nx s) p') w' p' z' l') : R w0 (.mk (hset (nx s) (.ob (.cells z' l')) (hp (putO b .e s))) m) w' (setM μ (nx s) p') := by
  have hown := (h.ob b _ p hb hp').2
  have hdis : ∀ c oc q, c ≠ b → hget c (hp s) = .ob oc → μ c = some q → q.g ≠ p.g := fun c oc q hc hoc hq e => hc (h.inj b c _ oc p q hb rfl hoc hp' hq e.symm).symm
  have hne : ∀ c : Id, c ≠ nx s → setM μ (nx s) p' c = μ c := fun c hc => by simp [setM, hc]
  have hle : MLe μ (setM μ (nx s) p') := h.mle (MX.set h p')
  have hpb := h.bd b p hp'
  have key : ∀ c oc, c ≠ nx s → hget c (hset (nx s) (.ob (.cells z' l')) (hp (putO b .e s))) = .ob oc → c ≠ b ∧ hget c (hp s) = .ob oc := fun c oc hc hoc => by
    rw [hget_hset_ne _ _ hc, putO_hp] at hoc
    by_cases e : c = b
    · subst e; rw [hget_hset] at hoc; cases hoc
    · rw [hget_hset_ne _ _ e] at hoc; exact ⟨e, hoc⟩
  refine h.step (nx s) (h.ext.trans ⟨h1, h2, h3, by omega, fun k hk => hoth k (by omega)⟩) hle (fun c hc o1 hh => by
    have hc' : m.n ≤ c.n := hc
    have e : c ≠ nx s := fun e => by rw [e] at hc'; omega
    exact h.fr c (by omega) o1 (key c o1 e hh).2) (fun c hc => ?_) (fun c q hq => ?_) (fun c oc hc hoc => ?_) (fun o q ho hq => ?_)
  · have hc' : m.n ≤ c.n := hc
    have : c ≠ nx s := fun e => by rw [e] at hc'; omega
    rw [hne c this]; exact h.nxt c (by omega)
  · by_cases e : c = nx s
    · subst e; simp [setM] at hq; subst hq; omega
    · rw [hne c e] at hq; have := h.bd c q hq; omega
  · obtain ⟨e1, e2⟩ := key c oc hc hoc
    exact ⟨e2, hne c hc, fun q hq => hoth _ (hdis c oc q e1 e2 hq)⟩
  · have e1 : hget (nx s) (hset (nx s) (.ob (.cells z' l')) (hp (putO b .e s))) = .ob o := ho
    rw [hget_hset] at e1
    cases e1
    simp [setM] at hq; subst hq
    refine ⟨⟨hcl, by omega⟩, fun c oc q hc hoc hq => ?_⟩
    obtain ⟨e1, e2⟩ := key c oc hc hoc
    rw [hne c hc] at hq
    rw [hg]; exact hdis c oc q e1 e2 hq
end X
/- What a step read, when it says true; the plain operations. -/
namespace X
open Go Go.RowKit
set_option linter.unusedVariables false
set_option linter.unusedSimpArgs false
set_option linter.unusedSectionVars false
variable [Luck]
/-! what a step read -/
theorem wI_true {v : AV} {k : IntKind → Int → Bool} (h : wI v k = true) : ∃ t n, v = .int t n ∧ k t n = true := by
  cases v <;> first | exact ⟨_, _, rfl, h⟩ | cases h
theorem wS_true {v : AV} {k : List Nat → Bool} (h : wS v k = true) : ∃ s, v = .str s ∧ k s = true := by
  cases v <;> first | exact ⟨_, rfl, h⟩ | cases h
theorem wBo_true {v : AV} {k : Bool → Bool} (h : wBo v k = true) : ∃ b, v = .bool b ∧ k b = true := by
  cases v <;> first | exact ⟨_, rfl, h⟩ | cases h
theorem wB_true {v : AV} {a b : Bool} (h : wB v a b = true) : (v = .bool true ∧ a = true) ∨ (v = .bool false ∧ b = true) := by
  cases v with
  | bool c => cases c with
    | true => exact .inl ⟨rfl, h⟩
    | false => exact .inr ⟨rfl, h⟩
  | _ => cases h
theorem wP_true {v : AV} {k : Id → Nat → Nat → Bool} (h : wP v k = true) : ∃ b i o, v = .ptr b i o ∧ k b i o = true := by
  cases v <;> first | exact ⟨_, _, _, rfl, h⟩ | cases h
theorem wSl_true {v : AV} {n : Bool} {k : Id → Nat → Nat → Nat → Nat → Bool → Bool} (h : wSl v n k = true) : (v = .nils ∧ n = true) ∨ ∃ b i l r z ex, v = .sl b i l r z ex ∧ k b i l r z ex = true := by
  cases v <;> first | exact .inl ⟨rfl, h⟩ | exact .inr ⟨_, _, _, _, _, _, rfl, h⟩ | cases h
theorem wAg_true {v : AV} {k : List AV → Bool} (h : wAg v k = true) : ∃ l, v = .agg l ∧ k l = true := by
  cases v <;> first | exact ⟨_, rfl, h⟩ | cases h
theorem wTu_true {v : AV} {k : List AV → Bool} (h : wTu v k = true) : ∃ l, v = .tup l ∧ k l = true := by
  cases v <;> first | exact ⟨_, rfl, h⟩ | cases h
theorem wFn_true {v : AV} {k : Nat → List AV → List AV → Bool} (h : wFn v k = true) : ∃ f a b, v = .fn f a b ∧ k f a b = true := by
  cases v <;> first | exact ⟨_, _, _, rfl, h⟩ | cases h
theorem wIf_true {v : AV} {k : Nat → AV → Bool} (h : wIf v k = true) : ∃ t x, v = .ifc t x ∧ k t x = true := by
  cases v <;> first | exact ⟨_, _, rfl, h⟩ | cases h
theorem vX_eq (v : AV) (k : AV → Bool) : vX v k = k v := by cases v <;> rfl
theorem one_true {v : AV} {k : Bool} (h : one v k = true) : (∀ l, v ≠ .agg l) ∧ (∀ l, v ≠ .tup l) ∧ k = true := by
  cases v <;> first | exact ⟨by simp, by simp, h⟩ | cases h
theorem wN_true {n : Int} {k : Nat → Bool} (h : wN n k = true) : ∃ m : Nat, n = .ofNat m ∧ k m = true := by
  cases n with
  | ofNat m => exact ⟨m, rfl, h⟩
  | negSucc m => cases h
theorem wNat_true {v : AV} {k : Nat → Bool} (h : wNat v k = true) : ∃ t, ∃ m : Nat, v = .int t (.ofNat m) ∧ k m = true := by
  obtain ⟨t, n, rfl, h⟩ := wI_true h
  obtain ⟨m, rfl, h⟩ := wN_true h
  exact ⟨t, m, rfl, h⟩
theorem brec_true {c a : Bool} (h : (Bool.rec false a c : Bool) = true) : c = true ∧ a = true := by
  cases c
  · cases h
  · exact ⟨rfl, h⟩
theorem brec_cases {c a b : Bool} (h : (Bool.rec b a c : Bool) = true) : (c = true ∧ a = true) ∨ (c = false ∧ b = true) := by
  cases c
  · exact .inr ⟨rfl, h⟩
  · exact .inl ⟨rfl, h⟩
theorem nle_true {a b : Nat} (h : Nat.ble a b = true) : a ≤ b := Nat.le_of_ble_eq_true h
theorem neq_true {a b : Nat} (h : Nat.beq a b = true) : a = b := Nat.eq_of_beq_eq_true h
/-! numbers -/
theorem nt_eq (b : Bool) : nt b = !b := by cases b <;> rfl
theorem bq_eq (a b : Bool) : bq a b = (a == b) := by cases a <;> cases b <;> rfl
theorem kq_true {t u : IntKind} (h : kq t u = true) : t = u := by cases t <;> cases u <;> first | rfl | cases h
theorem iadd_eq (a b : Int) : iadd a b = a + b := by cases a <;> cases b <;> rfl
theorem isub_eq (a b : Int) : isub a b = a - b := by
  cases a with
  | ofNat x => cases b with
    | ofNat y =>
      show (Bool.rec (Int.sub (.ofNat x) (.ofNat y)) (.ofNat (Nat.sub x y)) (Nat.ble y x) : Int) = _
      cases h : Nat.ble y x with
      | true =>
        have hle := nle_true h
        show ((x - y : Nat) : Int) = (x : Int) - (y : Int)
        omega
      | false => rfl
    | negSucc y => rfl
  | negSucc x => cases b <;> rfl
theorem ile_eq (a b : Int) : ile a b = decide (a ≤ b) := by
  cases a with
  | ofNat x => cases b with
    | ofNat y =>
      show Nat.ble x y = _
      rw [Bool.eq_iff_iff, decide_eq_true_eq, Nat.ble_eq]
      exact (Int.ofNat_le (m := x) (n := y)).symm
    | negSucc y =>
      show false = _
      rw [Bool.eq_iff_iff, decide_eq_true_eq]
      constructor
      · intro h; cases h
      · intro h
        have e1 : Int.negSucc y = -((y : Int) + 1) := Int.negSucc_eq y
        have e2 : (Int.ofNat x : Int) = (x : Int) := rfl
        rw [e1, e2] at h
        omega
  | negSucc x => cases b with
    | ofNat y =>
      show true = _
      rw [Bool.eq_iff_iff, decide_eq_true_eq]
      constructor
      · intro _
        have e1 : Int.negSucc x = -((x : Int) + 1) := Int.negSucc_eq x
        have e2 : (Int.ofNat y : Int) = (y : Int) := rfl
        rw [e1, e2]
        omega
      · intro _; rfl
    | negSucc y =>
      show Nat.ble y x = _
      rw [Bool.eq_iff_iff, decide_eq_true_eq, Nat.ble_eq]
      show y ≤ x ↔ Int.negSucc x ≤ Int.negSucc y
      omega
theorem ieq_eq (a b : Int) : ieq a b = decide (a = b) := by
  cases a with
  | ofNat x => cases b with
    | ofNat y =>
      show Nat.beq x y = _
      rw [Bool.eq_iff_iff, decide_eq_true_eq, Nat.beq_eq]
      exact ⟨fun h => by rw [h], fun h => Int.ofNat.inj h⟩
    | negSucc y => rfl
  | negSucc x => cases b with
    | ofNat y => rfl
    | negSucc y =>
      show Nat.beq x y = _
      rw [Bool.eq_iff_iff, decide_eq_true_eq, Nat.beq_eq]
      exact ⟨fun h => by rw [h], fun h => Int.negSucc.inj h⟩
theorem wrap_small (k : IntKind) (n : Nat) (h : n ≤ 127) : k.wrap (.ofNat n) = .ofNat n := by
  have h0 : (Int.ofNat n : Int) = (n : Int) := rfl
  cases k <;> simp only [IntKind.wrap, IntKind.bits, IntKind.signed, IntKind.max, IntKind.min, h0] <;> simp <;> omega
theorem wrp_eq (k : IntKind) (n : Int) : wrp k n = k.wrap n := by
  cases n with
  | ofNat x =>
    show (Bool.rec (k.wrap (.ofNat x)) (.ofNat x) (Nat.ble x 127) : Int) = _
    cases h : Nat.ble x 127 with
    | true => exact (wrap_small k x (nle_true h)).symm
    | false => rfl
  | negSucc x => rfl
theorem lbeq_eq : ∀ a b : List Nat, lbeq a b = decide (a = b)
  | [], [] => rfl
  | [], _ :: _ => by simp; rfl
  | _ :: _, [] => by simp; rfl
  | x :: a, y :: b => by
    show (Bool.rec false (lbeq a b) (Nat.beq x y) : Bool) = _
    rw [lbeq_eq a b]
    cases h : Nat.beq x y with
    | true => rw [neq_true h]; simp
    | false =>
      have : x ≠ y := fun e => by rw [e, Nat.beq_refl] at h; cases h
      simp [this]
/-! variables -/
theorem lk_cons (t' : Nat) (o : Option AV) (e : Env) (t : Nat) : lk ((t', o) :: e) t = if t' = t then o else lk e t := by
  show (Bool.rec (lk e t) o (Nat.beq t' t) : Option AV) = _
  cases h : Nat.beq t' t with
  | true => rw [if_pos (neq_true h)]
  | false =>
    rw [if_neg]
    intro hh; rw [hh, Nat.beq_refl] at h; cases h
structure Fm (μ : Mu) (e : Env) (a : Act) : Prop where
  fr : ∀ t v, lk e t = some v → ∃ x, a.tmps[t]? = some x ∧ VRel μ v x
  g0 : ∃ p, μ (gl 0) = some p ∧ p.g = 0 ∧ p.sh = 0
  g2 : ∃ p, μ (gl 2) = some p ∧ p.g = 2 ∧ p.sh = 0
theorem Fm.mono {μ μ' : Mu} {e : Env} {a : Act} (h : Fm μ e a) (hm : MLe μ μ') : Fm μ' e a :=
  ⟨fun t v ht => let ⟨x, hx, hv⟩ := h.fr t v ht; ⟨x, hx, hv.mono hm⟩, let ⟨p, a, b⟩ := h.g0; ⟨p, hm _ _ a, b⟩, let ⟨p, a, b⟩ := h.g2; ⟨p, hm _ _ a, b⟩⟩
theorem Fm.put {μ : Mu} {e : Env} {a : Act} (h : Fm μ e a) (d : Option Nat) {v : AV} {x : Value} (hv : VRel μ v x) (hd : ∀ t, d = some t → t < a.tmps.size) : Fm μ (put e d v) (a.put d x) := by
  cases d with
  | none => exact h
  | some d =>
    refine ⟨fun t w ht => ?_, h.g0, h.g2⟩
    have ht' : lk ((d, some v) :: e) t = some w := ht
    rw [lk_cons] at ht'
    have hs := hd d rfl
    by_cases e1 : d = t
    · subst e1
      rw [if_pos rfl] at ht'
      cases ht'
      exact ⟨x, by simp [Act.put, hs], hv⟩
    · rw [if_neg e1] at ht'
      obtain ⟨y, hy, hr⟩ := h.fr t w ht'
      exact ⟨y, by simp only [Act.put, Array.getElem?_setIfInBounds_ne e1, hy], hr⟩
theorem ofVal_rel {μ : Mu} {v : Value} {a : AV} (h : ofVal v = some a) : VRel μ a v ∧ v.oneCell' = true := by
  unfold ofVal at h
  split at h <;> first | (cases h; done) | (cases h; exact ⟨by constructor, rfl⟩)
theorem ofCells_rel {μ : Mu} : ∀ {l : List Value} {m : List AV}, ofCells l = some m → VC μ m l
  | [], m, h => by cases h; exact VC.nil
  | v :: l, m, h => by
    unfold ofCells at h
    split at h
    · rename_i a m' h1 h2
      cases h
      exact (ofCells_rel h2).cons (ofVal_rel (μ := μ) h1).1 (ofVal_rel (μ := μ) h1).2
    · cases h
theorem eO_true {μ : Mu} {e : Env} {a : Act} (hf : Fm μ e a) {x : Operand} {k : AV → Bool} (h : eO e x k = true) : ∃ v, k v = true ∧ VRel μ v (a.eval x) := by
  cases x with
  | tmp t =>
    have h : (match lk e t with | some v => k v | none => false) = true := h
    cases hv : lk e t with
    | some v =>
      rw [hv] at h
      obtain ⟨x, hx, hr⟩ := hf.fr t v hv
      exact ⟨v, h, by simp only [Act.eval, Array.getD_eq_getD_getElem?, hx, Option.getD_some]; exact hr⟩
    | none => rw [hv] at h; cases h
  | const v =>
    have h : (match ofVal v with
      | some a => k a
      | none => match (generalizing := false) v with
        | .agg cs => match ofCells cs.toList with
          | some l => k (.agg l)
          | none => false
        | _ => false) = true := h
    cases hb : ofVal v with
    | some b => rw [hb] at h; exact ⟨b, h, (ofVal_rel hb).1⟩
    | none =>
      rw [hb] at h
      cases v with
      | agg cs =>
        have h : (match ofCells cs.toList with | some l => k (.agg l) | none => false) = true := h
        cases hl : ofCells cs.toList with
        | some l =>
          rw [hl] at h
          exact ⟨.agg l, h, by simpa [Act.eval] using (ofCells_rel (μ := μ) hl).agg⟩
        | none => rw [hl] at h; cases h
      | _ => cases h
  | global g =>
    match g, h with
    | 0, h =>
      obtain ⟨p, hp, h0, h1⟩ := hf.g0
      refine ⟨_, h, ?_⟩
      have := VRel.ptr (μ := μ) (gl 0) 0 0 p hp
      rw [h0, h1] at this
      simpa [Act.eval] using this
    | 2, h =>
      obtain ⟨p, hp, h0, h1⟩ := hf.g2
      refine ⟨_, h, ?_⟩
      have := VRel.ptr (μ := μ) (gl 2) 0 0 p hp
      rw [h0, h1] at this
      simpa [Act.eval] using this
    | 1, h => cases h
    | n + 3, h => cases h
  | func f => exact ⟨_, h, .fn f [] [] #[] #[] rfl (fun i v x a => by simp at a) rfl (fun i v x a => by simp at a)⟩
theorem eL_true {μ : Mu} {e : Env} {a : Act} (hf : Fm μ e a) : ∀ {l : List Operand} {k : List AV → Bool}, eL e l k = true → ∃ vs, k vs = true ∧ VL μ vs (l.map a.eval)
  | [], k, h => ⟨[], h, VL.nil⟩
  | x :: l, k, h => by
    obtain ⟨v, h1, hv⟩ := eO_true hf (show eO e x (fun v => eL e l fun l => k (v :: l)) = true from h)
    obtain ⟨vs, h2, hvs⟩ := eL_true hf h1
    exact ⟨v :: vs, h2, hvs.cons hv⟩
/-- an operand that may be left out -/
def VO (μ : Mu) : Option AV → Option Value → Prop
  | none, none => True
  | some v, some x => VRel μ v x
  | _, _ => False
theorem eOo_true {μ : Mu} {e : Env} {a : Act} (hf : Fm μ e a) {x : Option Operand} {k : Option AV → Bool} (h : eOo e x k = true) : ∃ v, k v = true ∧ VO μ v (x.map a.eval) := by
  cases x with
  | none => exact ⟨none, h, trivial⟩
  | some x =>
    obtain ⟨v, h1, hv⟩ := eO_true hf (show eO e x (fun v => k (some v)) = true from h)
    exact ⟨some v, h1, hv⟩
end X
/- The operations: what a step says of the model's outcome. -/
namespace X
open Go Go.RowKit
set_option linter.unusedVariables false
set_option linter.unusedSimpArgs false
set_option linter.unusedSectionVars false
variable [Luck]
def outR (P : Program) (Q : Value → World → Prop) : Result Next → Prop
  | .ok (.value v) w' => Q v w'
  | .ok .skip w' => Q undef w'
  | .ok (.enter f args) w' => Calls P f args w' (fun e w'' => ∃ v, e = .returned v ∧ Q v w'')
  | .ok (.row row args) w' => Rows P row args w' Q
  | _ => False
/-- what an outcome is like -/
def Good (P : Program) (w0 : World) (n : Id) (μ : Mu) (v : AV) (s' : St) (r : Result Next) : Prop :=
  outR P (fun x w' => ∃ μ', MX n μ μ' ∧ VRel μ' v x ∧ R w0 s' w' μ') r
theorem outR_mono {P : Program} {R R' : Value → World → Prop} (h : ∀ v w, R v w → R' v w) {r : Result Next} (hr : outR P R r) : outR P R' r := by
  cases r with
  | ok n w' =>
    cases n <;> simp only [outR] at hr ⊢
    case value => exact h _ _ hr
    case skip => exact h _ _ hr
    case enter => exact hr.mono fun e w'' ⟨v, he, hv⟩ => ⟨v, he, h _ _ hv⟩
    case row => exact Rows.mono hr (fun _ _ hv => h _ _ hv)
  | halt x w' => simp only [outR] at hr
/-- a step's outcome: what its continuation goes on with -/
def Op1 (P : Program) (w0 : World) (s : St) (μ : Mu) (k : K) (r : Result Next) : Prop := outR P (fun x w' => ∃ v s' μ', (nx s).n ≤ (nx s').n ∧ k v s' = true ∧ MX (nx s) μ μ' ∧ VRel μ' v x ∧ R w0 s' w' μ') r
theorem op1_intro {P : Program} {w0 : World} {s : St} {μ : Mu} {k : K} {r : Result Next} (h : ∃ v s', (nx s).n ≤ (nx s').n ∧ k v s' = true ∧ Good P w0 (nx s) μ v s' r) : Op1 P w0 s μ k r := by
  obtain ⟨v, s', h1, h2, h3⟩ := h
  exact outR_mono (fun x w' ⟨μ', h4, h5, h6⟩ => ⟨v, s', μ', h1, h2, h4, h5, h6⟩) h3
/-- a function's steps are true to its calls -/
def Snd (P : Program) (f : Nat) (F : Fn) : Prop := ∀ as s k, F as s k = true → ∀ w0 w μ (xs : Array Value), R w0 s w μ → VL μ as xs.toList →
  (∃ p, μ (gl 0) = some p ∧ p.g = 0 ∧ p.sh = 0) → (∃ p, μ (gl 2) = some p ∧ p.g = 2 ∧ p.sh = 0) → Op1 P w0 s μ k ((callFunc f xs).run P w)
section
variable {P : Program} {w0 w : World} {s : St} {μ : Mu}
theorem good_val (hr : R w0 s w μ) {v : AV} {x : Value} (hx : VRel μ v x) {r : Result Next} (hrun : r = .ok (.value x) w) : Good P w0 (nx s) μ v s r := by
  subst hrun; exact ⟨μ, MX.rfl', hx, hr⟩
theorem int_inv {k : IntKind} {n : Int} {x : Value} (h : VRel μ (.int k n) x) : x = .int k n := by cases h; rfl
theorem bool_inv {b : Bool} {x : Value} (h : VRel μ (.bool b) x) : x = .bool b := by cases h; rfl
theorem str_inv {l : List Nat} {x : Value} (h : VRel μ (.str l) x) : ∃ b : ByteArray, x = .string b ∧ b.data.toList.map (·.toNat) = l := by cases h; exact ⟨_, rfl, rfl⟩
theorem ptr_inv {b : Id} {i o : Nat} {x : Value} (h : VRel μ (.ptr b i o) x) : ∃ p, μ b = some p ∧ x = .pointer (some ⟨p.g, p.sh + i * p.z + o, none⟩) := by
  cases h with
  | ptr b i o p h => exact ⟨p, h, rfl⟩
theorem nils_inv {x : Value} (h : VRel μ .nils x) : x = .slice none 0 0 := by cases h; rfl
theorem sl_inv {b : Id} {i l r z : Nat} {ex : Bool} {x : Value} (h : VRel μ (.sl b i l r z ex) x) : ∃ p a cap, x = .slice (some a) l cap ∧ μ b = some p ∧ p.z = z ∧ r ≤ cap ∧ (ex = true → cap = r) ∧ l ≤ r ∧ (cap ≠ 0 → a = ⟨p.g, p.sh + i * p.z, none⟩) ∧ p.sh + (i + cap) * p.z ≤ p.sz := by
  cases h with
  | sl b i l r z ex p a cap h1 h0 h2 h3 h4 h5 h6 => exact ⟨p, a, cap, rfl, h1, h0, h2, h3, h4, h5, h6⟩
theorem ifc_inv {t : Nat} {v : AV} {x : Value} (h : VRel μ (.ifc t v) x) : ∃ y, x = .iface t y ∧ VRel μ v y := by
  cases h with
  | ifc t v y h => exact ⟨y, rfl, h⟩
theorem fn_inv {f : Nat} {a c : List AV} {x : Value} (h : VRel μ (.fn f a c) x) : ∃ a' c' : Array Value, x = .func (.func f) a' c' ∧ VL μ a a'.toList ∧ VL μ c c'.toList := by
  cases h with
  | fn f a c a' c' h1 h2 h3 h4 => exact ⟨a', c', rfl, ⟨by simpa using h1, fun i v x p q => h2 i v x p (by simpa using q)⟩, ⟨by simpa using h3, fun i v x p q => h4 i v x p (by simpa using q)⟩⟩
/-! operations on two integers -/
theorem wII_true {x y : AV} {k : IntKind → Int → Int → Bool} (h : wII x y k = true) : ∃ t m n, x = .int t m ∧ y = .int t n ∧ k t m n = true := by
  obtain ⟨t, m, rfl, h1⟩ := wI_true h
  obtain ⟨u, n, rfl, h2⟩ := wI_true h1
  obtain ⟨h3, h4⟩ := brec_true h2
  have e := kq_true h3
  subst e
  exact ⟨t, m, n, rfl, rfl, h4⟩
theorem run_v {x : Sem Value} {v : Value} {w' : World} (h : x.run P w = .ok v w') : (do pure (Next.value (← x)) : Sem Next).run P w = .ok (.value v) w' := by simp [h]
/-- a binary operation, done -/
def BinOk (P : Program) (μ : Mu) (w : World) (op : BinOp) (t : TypeId) (a b : Operand) (x' y' : Value) (v : AV) : Prop := ∃ v', VRel μ v v' ∧ (do eqGuard op t a b x' y'; binOp op t x' y' : Sem Value).run P w = .ok v' w
theorem vbool {p q : Bool} (h : p = q) : VRel μ (.bool p) (.bool q) := h ▸ .bool p
theorem quo_ne {n : Int} (h : ieq n (.ofNat 0) = false) : n ≠ 0 := by
  rw [ieq_eq] at h
  exact of_decide_eq_false h
theorem sb_inv {x y : AV} {k : List Nat → List Nat → Bool} (h : (wS x fun a => wS y fun b => k a b) = true) : ∃ a b, x = .str a ∧ y = .str b ∧ k a b = true := by
  obtain ⟨a, rfl, h1⟩ := wS_true h
  obtain ⟨b, rfl, h2⟩ := wS_true h1
  exact ⟨a, b, rfl, rfl, h2⟩
theorem bytes_eq (a b : ByteArray) : (a.toList == b.toList) = lbeq (a.data.toList.map (·.toNat)) (b.data.toList.map (·.toNat)) := by
  rw [lbeq_eq, ByteArray.toList_eq, ByteArray.toList_eq, Bool.eq_iff_iff, beq_iff_eq, decide_eq_true_eq]
  constructor
  · intro h; rw [h]
  · intro h
    exact (List.map_inj_right (f := fun b : UInt8 => b.toNat) (fun x y e => UInt8.toNat_inj.1 e)).1 h
theorem bytes_lt : ∀ (a b : List UInt8), Op.bytesLess a b = lless (a.map (·.toNat)) (b.map (·.toNat))
  | [], [] => rfl
  | _ :: _, [] => rfl
  | [], _ :: _ => rfl
  | x :: a, y :: b => by
    show (decide (x < y) || (x == y && Op.bytesLess a b)) = (Bool.rec (Nat.ble (Nat.succ x.toNat) y.toNat) (lless (a.map (·.toNat)) (b.map (·.toNat))) (Nat.beq x.toNat y.toNat) : Bool)
    rw [← bytes_lt a b]
    cases h : Nat.beq x.toNat y.toNat with
    | true =>
      have e : x = y := UInt8.toNat_inj.1 (neq_true h)
      subst e
      simp [UInt8.lt_iff_toNat_lt]
    | false =>
      have e : x ≠ y := fun e => by rw [e, Nat.beq_refl] at h; cases h
      have e2 : (x == y) = false := by simpa using e
      rw [e2]
      show _ = Nat.ble (Nat.succ x.toNat) y.toNat
      simp only [Bool.false_and, Bool.or_false, UInt8.lt_iff_toNat_lt]
      rw [Bool.eq_iff_iff, decide_eq_true_eq, Nat.ble_eq]
      omega
theorem bytes_lt' (a b : ByteArray) : Op.bytesLess a.toList b.toList = lless (a.data.toList.map (·.toNat)) (b.data.toList.map (·.toNat)) := by
  rw [ByteArray.toList_eq, ByteArray.toList_eq, bytes_lt]
theorem str_gt : ∀ a b : List Nat, lless b a = !(lless a b || lbeq a b)
  | [], [] => rfl
  | [], _ :: _ => rfl
  | _ :: _, [] => rfl
  | x :: a, y :: b => by
    show (Bool.rec (Nat.ble (Nat.succ y) x) (lless b a) (Nat.beq y x) : Bool) = !((Bool.rec (Nat.ble (Nat.succ x) y) (lless a b) (Nat.beq x y) : Bool) || (Bool.rec false (lbeq a b) (Nat.beq x y) : Bool))
    by_cases h : x = y
    · subst h
      rw [Nat.beq_refl]
      exact str_gt a b
    · have h1 : Nat.beq x y = false := by rw [Bool.eq_false_iff]; exact fun e => h (neq_true e)
      have h2 : Nat.beq y x = false := by rw [Bool.eq_false_iff]; exact fun e => h (neq_true e).symm
      rw [h1, h2]
      show Nat.ble (Nat.succ y) x = !(Nat.ble (Nat.succ x) y || false)
      rw [Bool.or_false, Bool.eq_iff_iff, Bool.not_eq_true', Bool.eq_false_iff, Nat.ble_eq, Ne, Nat.ble_eq]
      omega
theorem equal_bool {t : TypeId} (hd : P.underlying t = some .bool) (p q : Bool) : (Op.equal t (.bool p) (.bool q)).run P w = .ok (p == q) w := by
  show (Op.equalIn (9999 + 1) t (.bool p) (.bool q)).run P w = _
  generalize 9999 = n
  unfold Op.equalIn
  simp only [Sem.run_bind, run_underlying hd, Result.andThen_ok, Sem.run_pure]
/-- a binary operation -/
theorem bin_sound {d : TypeDesc} {op : BinOp} {t : TypeId} {a b : Operand} {x y : AV} {x' y' : Value} (hd : P.underlying t = some d) (hx : VRel μ x x') (hy : VRel μ y y') {k : AV → Bool}
    (h : binX d op x y k = true) : ∃ v, k v = true ∧ BinOk P μ w op t a b x' y' v := by
  unfold binX at h
  split at h
  case h_1 => 
    obtain ⟨u, m, n, rfl, rfl, h1⟩ := wII_true h
    cases int_inv hx; cases int_inv hy
    exact ⟨_, h1, .int u (u.wrap (m + n)), by rw [wrp_eq, iadd_eq]; exact .int _ _, by simp [eqGuard, binOp, Op.intArith]⟩
  case h_2 => 
    obtain ⟨u, m, n, rfl, rfl, h1⟩ := wII_true h
    cases int_inv hx; cases int_inv hy
    exact ⟨_, h1, .int u (u.wrap (m - n)), by rw [wrp_eq, isub_eq]; exact .int _ _, by simp [eqGuard, binOp, Op.intArith]⟩
  case h_3 => 
    obtain ⟨u, m, n, rfl, rfl, h1⟩ := wII_true h
    cases int_inv hx; cases int_inv hy
    exact ⟨_, h1, .int u (u.wrap (m * n)), by rw [wrp_eq]; exact .int _ _, by simp [eqGuard, binOp, Op.intArith]⟩
  case h_4 => 
    obtain ⟨u, m, n, rfl, rfl, h1⟩ := wII_true h
    cases int_inv hx; cases int_inv hy
    rcases brec_cases h1 with ⟨_, h1⟩ | ⟨hq, h1⟩
    · cases h1
    · exact ⟨_, h1, .int u (u.wrap (m.tdiv n)), .int _ _, by simp [eqGuard, binOp, Op.intDiv, quo_ne hq]⟩
  case h_5 => 
    obtain ⟨u, m, n, rfl, rfl, h1⟩ := wII_true h
    cases int_inv hx; cases int_inv hy
    rcases brec_cases h1 with ⟨_, h1⟩ | ⟨hq, h1⟩
    · cases h1
    · exact ⟨_, h1, .int u (m.tmod n), .int _ _, by simp [eqGuard, binOp, Op.intDiv, quo_ne hq]⟩
  case h_6 => 
    obtain ⟨u, m, n, rfl, rfl, h1⟩ := wII_true h
    cases int_inv hx; cases int_inv hy
    exact ⟨_, h1, .bool (m == n), vbool (by rw [ieq_eq]; rfl), by simp [eqGuard, binOp, Op.intCmp]⟩
  case h_7 => 
    obtain ⟨u, m, n, rfl, rfl, h1⟩ := wII_true h
    cases int_inv hx; cases int_inv hy
    exact ⟨_, h1, .bool (m != n), vbool (by rw [nt_eq, ieq_eq]; rfl), by simp [eqGuard, binOp, Op.intCmp]⟩
  case h_8 => 
    obtain ⟨u, m, n, rfl, rfl, h1⟩ := wII_true h
    cases int_inv hx; cases int_inv hy
    exact ⟨_, h1, .bool (decide (m < n)), vbool (by rw [nt_eq, ile_eq, ← decide_not]; exact decide_eq_decide.2 (by omega)), by simp [eqGuard, binOp, Op.intCmp]⟩
  case h_9 => 
    obtain ⟨u, m, n, rfl, rfl, h1⟩ := wII_true h
    cases int_inv hx; cases int_inv hy
    exact ⟨_, h1, .bool (decide (m ≤ n)), vbool (by rw [ile_eq]), by simp [eqGuard, binOp, Op.intCmp]⟩
  case h_10 => 
    obtain ⟨u, m, n, rfl, rfl, h1⟩ := wII_true h
    cases int_inv hx; cases int_inv hy
    exact ⟨_, h1, .bool (decide (m > n)), vbool (by rw [nt_eq, ile_eq, ← decide_not]; exact decide_eq_decide.2 (by omega)), by simp [eqGuard, binOp, Op.intCmp]⟩
  case h_11 => 
    obtain ⟨u, m, n, rfl, rfl, h1⟩ := wII_true h
    cases int_inv hx; cases int_inv hy
    exact ⟨_, h1, .bool (decide (m ≥ n)), vbool (by rw [ile_eq]), by simp [eqGuard, binOp, Op.intCmp]⟩
  case h_12 =>
    obtain ⟨p, q, rfl, rfl, h1⟩ := sb_inv h
    obtain ⟨p', rfl, rfl⟩ := str_inv hx; obtain ⟨q', rfl, rfl⟩ := str_inv hy
    exact ⟨_, h1, .bool (p'.toList == q'.toList), vbool (bytes_eq _ _).symm, by simp [eqGuard, binOp, Op.stringOp]⟩
  case h_13 =>
    obtain ⟨p, q, rfl, rfl, h1⟩ := sb_inv h
    obtain ⟨p', rfl, rfl⟩ := str_inv hx; obtain ⟨q', rfl, rfl⟩ := str_inv hy
    exact ⟨_, h1, .bool (!(p'.toList == q'.toList)), vbool (by rw [nt_eq, bytes_eq]), by simp [eqGuard, binOp, Op.stringOp]⟩
  case h_14 =>
    obtain ⟨p, q, rfl, rfl, h1⟩ := sb_inv h
    obtain ⟨p', rfl, rfl⟩ := str_inv hx; obtain ⟨q', rfl, rfl⟩ := str_inv hy
    exact ⟨_, h1, .bool (Op.bytesLess p'.toList q'.toList), vbool (bytes_lt' _ _).symm, by simp [eqGuard, binOp, Op.stringOp]⟩
  case h_15 =>
    obtain ⟨p, q, rfl, rfl, h1⟩ := sb_inv h
    obtain ⟨p', rfl, rfl⟩ := str_inv hy; obtain ⟨q', rfl, rfl⟩ := str_inv hx
    exact ⟨_, h1, .bool (!(Op.bytesLess q'.toList p'.toList || q'.toList == p'.toList)), vbool (by
      rw [bytes_eq, bytes_lt', ← str_gt]), by simp [eqGuard, binOp, Op.stringOp]⟩
  case h_16 =>
    obtain ⟨p, q, rfl, rfl, h1⟩ := sb_inv h
    obtain ⟨p', rfl, rfl⟩ := str_inv hy; obtain ⟨q', rfl, rfl⟩ := str_inv hx
    exact ⟨_, h1, .bool (Op.bytesLess q'.toList p'.toList || q'.toList == p'.toList), vbool (by
      rw [nt_eq, bytes_eq, bytes_lt', str_gt, Bool.not_not]), by simp [eqGuard, binOp, Op.stringOp]⟩
  case h_17 =>
    obtain ⟨p, q, rfl, rfl, h1⟩ := sb_inv h
    obtain ⟨p', rfl, rfl⟩ := str_inv hx; obtain ⟨q', rfl, rfl⟩ := str_inv hy
    exact ⟨_, h1, .bool (!(Op.bytesLess p'.toList q'.toList)), vbool (by rw [nt_eq, bytes_lt']), by simp [eqGuard, binOp, Op.stringOp]⟩
  case h_18 =>
    obtain ⟨p, rfl, h0⟩ := wBo_true h
    obtain ⟨q, rfl, h1⟩ := wBo_true h0
    cases bool_inv hx; cases bool_inv hy
    exact ⟨_, h1, .bool (p == q), vbool (bq_eq _ _), by simp only [eqGuard, binOp, Sem.run_bind, equal_bool hd, Result.andThen_ok, Sem.run_pure]; rfl⟩
  case h_19 =>
    obtain ⟨p, rfl, h0⟩ := wBo_true h
    obtain ⟨q, rfl, h1⟩ := wBo_true h0
    cases bool_inv hx; cases bool_inv hy
    exact ⟨_, h1, .bool (!(p == q)), vbool (by rw [nt_eq, bq_eq]), by simp only [eqGuard, binOp, Sem.run_bind, equal_bool hd, Result.andThen_ok, Sem.run_pure]; rfl⟩
  case h_20 =>
    obtain ⟨u, m, rfl, h1⟩ := wI_true h
    obtain ⟨u2, m2, rfl, h2⟩ := wI_true h1
    obtain ⟨n, rfl, h3⟩ := wN_true h2
    cases int_inv hx; cases int_inv hy
    refine ⟨_, h3, .int u (u.wrap (m * 2 ^ (min n u.bits))), ?_, ?_⟩
    · have : Int.mul m (.ofNat (Nat.pow 2 (Nat.min n u.bits))) = m * 2 ^ (min n u.bits) := by
        show m * ((2 ^ (min n u.bits) : Nat) : Int) = _
        rw [Int.natCast_pow]; rfl
      rw [this]; exact .int _ _
    · have h0 : ¬ (Int.ofNat n < 0) := Int.not_lt.2 (Int.natCast_nonneg n)
      simp only [eqGuard, binOp, Op.shift, Sem.run_bind, Sem.run_pure, Result.andThen_ok, if_neg h0]
      rfl
  case h_21 =>
    obtain ⟨u, m, rfl, h1⟩ := wI_true h
    obtain ⟨u2, m2, rfl, h2⟩ := wI_true h1
    obtain ⟨n, rfl, h3⟩ := wN_true h2
    obtain ⟨q, rfl, h4⟩ := wN_true h3
    cases int_inv hx; cases int_inv hy
    refine ⟨_, h4, .int u ((Int.ofNat q).fdiv (2 ^ (min n u.bits))), ?_, ?_⟩
    · have : (Int.ofNat q).fdiv (2 ^ (min n u.bits)) = .ofNat (Nat.div q (Nat.pow 2 (Nat.min n u.bits))) := by
        have e : ((2 : Int) ^ (min n u.bits)) = ((2 ^ (min n u.bits) : Nat) : Int) := by rw [Int.natCast_pow]; rfl
        rw [e]
        exact (Int.ofNat_fdiv q (2 ^ (min n u.bits))).symm
      rw [this]; exact .int _ _
    · have h0 : ¬ (Int.ofNat n < 0) := Int.not_lt.2 (Int.natCast_nonneg n)
      simp only [eqGuard, binOp, Op.shift, Sem.run_bind, Sem.run_pure, Result.andThen_ok, if_neg h0]
      rfl
  case h_22 =>
    obtain ⟨u, m, n, rfl, rfl, h1⟩ := wII_true h
    cases int_inv hx; cases int_inv hy
    exact ⟨_, h1, .int u (bitI .and u m n), .int _ _, by simp [eqGuard, binOp, Op.intBits, bitI]⟩
  case h_23 =>
    obtain ⟨u, m, n, rfl, rfl, h1⟩ := wII_true h
    cases int_inv hx; cases int_inv hy
    exact ⟨_, h1, .int u (bitI .or u m n), .int _ _, by simp [eqGuard, binOp, Op.intBits, bitI]⟩
  case h_24 =>
    obtain ⟨u, m, n, rfl, rfl, h1⟩ := wII_true h
    cases int_inv hx; cases int_inv hy
    exact ⟨_, h1, .int u (bitI .xor u m n), .int _ _, by simp [eqGuard, binOp, Op.intBits, bitI]⟩
  case h_25 => cases h
end
end X
/- Rows of cells, flat. -/
namespace X
open Go Go.RowKit
set_option linter.unusedVariables false
set_option linter.unusedSimpArgs false
set_option linter.unusedSectionVars false
variable [Luck]
theorem flat_len {α : Type} {z : Nat} : ∀ {l : List (List α)}, (∀ r ∈ l, r.length = z) → l.flatten.length = l.length * z
  | [], _ => by simp
  | r :: l, h => by
    have := flat_len (l := l) (fun r hr => h r (by simp [hr]))
    have h1 := h r (by simp)
    simp [this, h1, Nat.add_mul]
    omega
theorem flat_get {α : Type} {z : Nat} : ∀ {l : List (List α)} {i o : Nat} {r : List α}, (∀ r ∈ l, r.length = z) → l[i]? = some r → o < z → l.flatten[i * z + o]? = r[o]?
  | [], _, _, _, _, h, _ => by simp at h
  | r :: l, 0, o, r', hl, h, ho => by
    have h1 := hl r (by simp)
    simp at h; subst h
    simp [List.getElem?_append, h1, ho]
  | r :: l, i + 1, o, r', hl, h, ho => by
    have h1 := hl r (by simp)
    have ih := flat_get (l := l) (i := i) (o := o) (r := r') (fun r hr => hl r (by simp [hr])) (by simpa using h) ho
    rw [List.flatten_cons, List.getElem?_append, if_neg (by rw [h1, Nat.add_mul]; omega), h1, show (i + 1) * z + o - z = i * z + o by rw [Nat.add_mul]; omega]
    exact ih
variable {P : Program} {w0 w : World} {s : St} {μ : Mu}
/-- rows out of a flat list -/
theorem Cl.mk_flat {w : World} {p : Pl} {z : Nat} {l : List (List AV)} {xs : List Value} {cs : Array Value} {el : TypeId} (hz : z = p.z) (hl : ∀ r ∈ l, r.length = p.z) (hs : p.sh + l.length * p.z ≤ p.sz) (hw : w.heap[p.g]? = some (.cells cs el (0, 0))) (hc : cs.size = p.sz) (hv : VC μ l.flatten xs)
    (hx : ∀ (q : Nat) (x : Value), xs[q]? = some x → cs[p.sh + q]? = some x) : Cl μ w p z l := by
  refine ⟨hz, hl, hs, cs, el, hw, hc, fun i r hr o a ha => ?_⟩
  have hmem := List.mem_of_getElem? hr
  have ho : o < p.z := by rw [← hl r hmem]; exact (List.getElem?_eq_some_iff.1 ha).1
  have hf := flat_get hl hr ho
  rw [ha] at hf
  obtain ⟨x, hx1, hr1⟩ := hv.1.get hf
  have := hx _ x hx1
  exact ⟨x, by rw [Nat.add_assoc]; exact this, hr1, hv.2 x (List.mem_of_getElem? hx1)⟩
/-- some rows, read flat -/
theorem Cl.flat {w : World} {p : Pl} {z : Nat} {l : List (List AV)} (h : Cl μ w p z l) {i n : Nat} (hn : i + n ≤ l.length) : ∃ xs : List Value, VC μ ((l.drop i).take n).flatten xs ∧ xs.length = n * p.z ∧ ∀ (q : Nat) (x : Value), xs[q]? = some x → w.cell? ⟨p.g, p.sh + i * p.z + q, none⟩ = some x := by
  obtain ⟨h1, h2, h3, cs, el, h4, h5, h6⟩ := h
  have hrows : ∀ r ∈ (l.drop i).take n, r.length = p.z := fun r hr => h2 r (List.mem_of_mem_drop (List.mem_of_mem_take hr))
  have hlen : ((l.drop i).take n).length = n := by simp; omega
  have hfl := flat_len hrows
  rw [hlen] at hfl
  have hpos : ∀ q, q < n * p.z → ∃ a x, ((l.drop i).take n).flatten[q]? = some a ∧ cs[p.sh + i * p.z + q]? = some x ∧ VRel μ a x ∧ x.oneCell' = true := fun q hq => by
    have hz : 0 < p.z := by
      rcases Nat.eq_zero_or_pos p.z with e | e
      · rw [e] at hq; omega
      · exact e
    have hq1 : q / p.z < n := Nat.div_lt_of_lt_mul (by rw [Nat.mul_comm]; exact hq)
    have hq2 : q % p.z < p.z := Nat.mod_lt _ hz
    have hqe : q / p.z * p.z + q % p.z = q := by rw [Nat.mul_comm]; exact Nat.div_add_mod q p.z
    have hi : i + q / p.z < l.length := by omega
    have hr : l[i + q / p.z]? = some l[i + q / p.z] := List.getElem?_eq_getElem hi
    have hr' : ((l.drop i).take n)[q / p.z]? = some l[i + q / p.z] := by
      rw [List.getElem?_take, if_pos hq1, List.getElem?_drop, hr]
    have hrl := h2 _ (List.getElem_mem hi)
    have ha : (l[i + q / p.z])[q % p.z]? = some ((l[i + q / p.z])[q % p.z]'(by omega)) := List.getElem?_eq_getElem (by omega)
    obtain ⟨x, hx, hv, ho⟩ := h6 _ _ hr _ _ ha
    refine ⟨_, x, ?_, ?_, hv, ho⟩
    · have := flat_get hrows hr' hq2
      rw [hqe, ha] at this
      exact this
    · rw [← hx]
      congr 1
      rw [Nat.add_mul]
      omega
  refine ⟨(List.range (n * p.z)).map fun q => cs.getD (p.sh + i * p.z + q) undef, ⟨⟨by simp [hfl], fun q a x ha hx => ?_⟩, fun x hx => ?_⟩, by simp, fun q x hx => ?_⟩
  · have hq : q < n * p.z := by rw [← hfl]; exact (List.getElem?_eq_some_iff.1 ha).1
    obtain ⟨a', x', h7, h8, h9, _⟩ := hpos q hq
    rw [h7] at ha; cases ha
    simp [hq, Array.getD_eq_getD_getElem?, h8] at hx
    subst hx; exact h9
  · obtain ⟨q, hq, rfl⟩ := List.mem_map.1 hx
    obtain ⟨a', x', h7, h8, h9, h10⟩ := hpos q (by simpa using hq)
    simp [Array.getD_eq_getD_getElem?, h8, h10]
  · have hq : q < n * p.z := by have := (List.getElem?_eq_some_iff.1 hx).1; simpa using this
    obtain ⟨a', x', h7, h8, h9, h10⟩ := hpos q hq
    simp [hq, Array.getD_eq_getD_getElem?, h8] at hx
    subst hx
    unfold World.cell?
    simp only [h4]
    simpa using h8
theorem split_get {α : Type} {l m : List α} {A : Nat} (hA : A + m.length ≤ l.length) (q : Nat) : (l.take A ++ m ++ l.drop (A + m.length))[q]? = if A ≤ q ∧ q < A + m.length then m[q - A]? else l[q]? := by
  have hta : (l.take A).length = A := by simp; omega
  rw [List.append_assoc, List.getElem?_append, hta]
  split
  · rename_i h1
    rw [if_neg (by omega), List.getElem?_take, if_pos h1]
  · rename_i h1
    rw [List.getElem?_append]
    split
    · rename_i h2
      rw [if_pos (by omega)]
    · rename_i h2
      rw [if_neg (by omega), List.getElem?_drop]
      congr 1
      omega
/-- cells of one row, written over -/
theorem Cl.writeIn {w' : World} {p : Pl} {z : Nat} {l : List (List AV)} (h : Cl μ w p z l) {i o : Nat} {r m : List AV} {xs : List Value} (hr : l[i]? = some r) (hm : VC μ m xs) (ho : o + m.length ≤ z) {cs : Array Value} {el : TypeId} (hcs : w.heap[p.g]? = some (.cells cs el (0, 0)))
    (hw : w'.heap[p.g]? = some (.cells (cs.toList.take (p.sh + i * p.z + o) ++ xs ++ cs.toList.drop (p.sh + i * p.z + o + xs.length)).toArray el (0, 0))) : Cl μ w' p z (setAt l i (overAt r o m)) := by
  obtain ⟨h1, h2, h3, cs', el', h4, h5, h6⟩ := h
  rw [hcs] at h4; cases h4
  have hi : i < l.length := (List.getElem?_eq_some_iff.1 hr).1
  have hrl := h2 r (List.mem_of_getElem? hr)
  have hxl : xs.length = m.length := hm.1.1.symm
  have hor : o + m.length ≤ r.length := by omega
  have hmul : (i + 1) * p.z ≤ l.length * p.z := Nat.mul_le_mul_right _ (by omega)
  rw [Nat.add_mul] at hmul
  have hA : p.sh + i * p.z + o + xs.length ≤ cs.toList.length := by simp [h5]; omega
  rw [setAt_eq]
  refine ⟨h1, fun q hq => ?_, by simpa using h3, _, el, hw, ?_, fun j r' hr' o' a ha => ?_⟩
  · rcases List.mem_or_eq_of_mem_set hq with hq | hq
    · exact h2 q hq
    · rw [hq, overAt_len hor, hrl]
  · simp at hA ⊢; omega
  · simp only [List.getElem?_toArray]
    rw [split_get hA, hxl]
    by_cases hj : j = i
    · subst hj
      rw [List.getElem?_set_self hi] at hr'
      cases hr'
      rw [overAt_get hor] at ha
      by_cases hc : o ≤ o' ∧ o' < o + m.length
      · rw [if_pos hc] at ha
        rw [if_pos (by omega), show p.sh + j * p.z + o' - (p.sh + j * p.z + o) = o' - o by omega]
        obtain ⟨x, hx, hv⟩ := hm.1.get ha
        exact ⟨x, hx, hv, hm.2 x (List.mem_of_getElem? hx)⟩
      · rw [if_neg hc] at ha
        rw [if_neg (by omega)]
        simpa using h6 j r hr o' a ha
    · rw [List.getElem?_set_ne (Ne.symm hj)] at hr'
      have hol : o' < p.z := by rw [← h2 r' (List.mem_of_getElem? hr')]; exact (List.getElem?_eq_some_iff.1 ha).1
      have : ¬ (p.sh + i * p.z + o ≤ p.sh + j * p.z + o' ∧ p.sh + j * p.z + o' < p.sh + i * p.z + o + m.length) := by
        intro hc
        rcases Nat.lt_or_gt_of_ne hj with hlt | hgt
        · have : (j + 1) * p.z ≤ i * p.z := Nat.mul_le_mul_right _ (by omega)
          rw [Nat.add_mul] at this
          omega
        · have : (i + 1) * p.z ≤ j * p.z := Nat.mul_le_mul_right _ (by omega)
          rw [Nat.add_mul] at this
          omega
      rw [if_neg this]
      simpa using h6 j r' hr' o' a ha
/-- rows, written over -/
theorem Cl.writeRows {w' : World} {p : Pl} {z : Nat} {l : List (List AV)} (h : Cl μ w p z l) {i : Nat} {vs : List (List AV)} {xs : List Value} (hvs : ∀ r ∈ vs, r.length = p.z) (hm : VC μ vs.flatten xs) (ho : i + vs.length ≤ l.length) {cs : Array Value} {el : TypeId} (hcs : w.heap[p.g]? = some (.cells cs el (0, 0)))
    (hw : w'.heap[p.g]? = some (.cells (cs.toList.take (p.sh + i * p.z) ++ xs ++ cs.toList.drop (p.sh + i * p.z + xs.length)).toArray el (0, 0))) : Cl μ w' p z (overAt l i vs) := by
  obtain ⟨h1, h2, h3, cs', el', h4, h5, h6⟩ := h
  rw [hcs] at h4; cases h4
  have hxl : xs.length = vs.length * p.z := by rw [← hm.1.1, flat_len hvs]
  have hmul : (i + vs.length) * p.z ≤ l.length * p.z := Nat.mul_le_mul_right _ ho
  rw [Nat.add_mul] at hmul
  have hA : p.sh + i * p.z + xs.length ≤ cs.toList.length := by simp [h5]; omega
  refine ⟨h1, fun q hq => ?_, by rw [overAt_len ho]; exact h3, _, el, hw, ?_, fun j r' hr' o' a ha => ?_⟩
  · obtain ⟨j, hj⟩ := List.getElem?_of_mem hq
    rw [overAt_get ho] at hj
    split at hj
    · exact hvs q (List.mem_of_getElem? hj)
    · exact h2 q (List.mem_of_getElem? hj)
  · simp at hA ⊢; omega
  · simp only [List.getElem?_toArray]
    rw [split_get hA]
    rw [overAt_get ho] at hr'
    by_cases hc : i ≤ j ∧ j < i + vs.length
    · rw [if_pos hc] at hr'
      have hol : o' < p.z := by rw [← hvs r' (List.mem_of_getElem? hr')]; exact (List.getElem?_eq_some_iff.1 ha).1
      obtain ⟨d, rfl⟩ : ∃ d, j = i + d := ⟨j - i, by omega⟩
      have hd : i + d - i = d := by omega
      rw [hd] at hr'
      have hmd : (d + 1) * p.z ≤ vs.length * p.z := Nat.mul_le_mul_right _ (by omega)
      rw [Nat.add_mul] at hmd
      rw [Nat.add_mul]
      rw [if_pos (by omega), show p.sh + (i * p.z + d * p.z) + o' - (p.sh + i * p.z) = d * p.z + o' by omega]
      have hf := flat_get hvs hr' hol
      rw [ha] at hf
      obtain ⟨x, hx, hv⟩ := hm.1.get hf
      exact ⟨x, hx, hv, hm.2 x (List.mem_of_getElem? hx)⟩
    · rw [if_neg hc] at hr'
      have hol : o' < p.z := by rw [← h2 r' (List.mem_of_getElem? hr')]; exact (List.getElem?_eq_some_iff.1 ha).1
      have : ¬ (p.sh + i * p.z ≤ p.sh + j * p.z + o' ∧ p.sh + j * p.z + o' < p.sh + i * p.z + xs.length) := by
        intro hcc
        rcases Nat.lt_or_ge j i with hlt | hge
        · have : (j + 1) * p.z ≤ i * p.z := Nat.mul_le_mul_right _ (by omega)
          rw [Nat.add_mul] at this
          omega
        · have : (i + vs.length) * p.z ≤ j * p.z := Nat.mul_le_mul_right _ (by omega)
          rw [Nat.add_mul] at this
          omega
      rw [if_neg this]
      simpa using h6 j r' hr' o' a ha
end X
/- Operations that read or make memory. -/
namespace X
open Go Go.RowKit
set_option linter.unusedVariables false
set_option linter.unusedSimpArgs false
set_option linter.unusedSectionVars false
variable [Luck]
variable {P : Program} {w0 w : World} {s : St} {μ : Mu} {a : Act} {o : Oper}
theorem szT_inv {t : TypeId} {n : Nat} (h : szT P t = some n) : ∃ i, P.info? t = some i ∧ i.size = n := by
  unfold szT at h
  cases hi : P.info? t with
  | none => rw [hi] at h; cases h
  | some i => rw [hi] at h; cases h; exact ⟨i, rfl, rfl⟩
theorem zeroC_inv {t : TypeId} {l : List AV} (h : zeroC P t = some l) : ∃ i v, P.info? t = some i ∧ i.zero = some v ∧ VC μ l v.cells.toList ∧ l.length = i.size := by
  unfold zeroC at h
  split at h
  · rename_i i hi
    split at h
    · rename_i v hv
      split at h
      · rename_i m hm
        split at h
        · rename_i hl
          cases h
          exact ⟨i, v, hi, hv, ofCells_rel hm, hl⟩
        · cases h
      · cases h
    · cases h
  · cases h
theorem aggT_inv {t : TypeId} {b : Bool} (h : aggT P t = some b) (w : World) : (isAgg t).run P w = .ok b w := by
  unfold aggT at h
  cases hd : P.underlying t with
  | none => rw [hd] at h; cases h
  | some d =>
    rw [hd] at h
    cases d <;> cases h <;> simp [isAgg, run_underlying hd]
theorem run_sz {t : TypeId} {i : TypeInfo} (hi : P.info? t = some i) (w : World) : (Go.sizeOf t).run P w = .ok i.size w := by simp [Go.sizeOf, typeInfo, hi]
/-- a new block, of rows -/
theorem new_rows (hr : R w0 s w μ) {z : Nat} {rows : List (List AV)} {xs rest : List Value} {el : TypeId} (hrows : ∀ r ∈ rows, r.length = z) (hv : VC μ rows.flatten xs) {k : Id → St → Bool} (h : newO (.cells z rows) s k = true) :
    ∃ s', k (nx s) s' = true ∧ (nx s).n ≤ (nx s').n ∧ R w0 s' { w with heap := w.heap.push (.cells (xs ++ rest).toArray el (0, 0)) } (setM μ (nx s) ⟨w.heap.size, 0, z, (xs ++ rest).length⟩) ∧ MX (nx s) μ (setM μ (nx s) ⟨w.heap.size, 0, z, (xs ++ rest).length⟩) := by
  obtain ⟨m, hm, hk⟩ := newO_true h
  refine ⟨_, hk, by show _ ≤ m.n; omega, hr.push hm ⟨w.heap.size, 0, z, (xs ++ rest).length⟩ rfl ⟨?_, hr.ext.size⟩, MX.set hr _⟩
  have hfl := flat_len hrows
  have hle : MLe μ (setM μ (nx s) ⟨w.heap.size, 0, z, (xs ++ rest).length⟩) := hr.mle (MX.set hr _)
  refine Cl.mk_flat (xs := xs) (cs := (xs ++ rest).toArray) (el := el) rfl hrows ?_ (by simp) (by simp) (hv.mono hle) (fun q x hq => ?_)
  · have := hv.1.1
    simp only [List.length_append]
    omega
  · have hq' := (List.getElem?_eq_some_iff.1 hq).1
    simp only [List.getElem?_toArray, Nat.zero_add]
    rw [List.getElem?_append, if_pos hq', hq]
theorem setM_same (μ : Mu) (n : Id) (p : Pl) : setM μ n p n = some p := by simp [setM]
theorem vptr {b : Id} {p : Pl} (h : μ b = some p) (i o : Nat) {q : Nat} (hq : q = p.sh + i * p.z + o) : VRel μ (.ptr b i o) (.pointer (some ⟨p.g, q, none⟩)) := by subst hq; exact .ptr b i o p h
/-- alloc -/
theorem op_alloc (hr : R w0 s w μ) {t : TypeId} (ho : o.op = .alloc t) {z : Nat} {l : List AV} (hz : szT P t = some z) (hl : zeroC P t = some l) {k : K} (h : nwX z l s k = true) :
    ∃ v s', (nx s).n ≤ (nx s').n ∧ k v s' = true ∧ Good P w0 (nx s) μ v s' ((execOp a.eval o).run P w) := by
  obtain ⟨i, hi, rfl⟩ := szT_inv hz
  obtain ⟨i', v, hi', hv, hc, hlen⟩ := zeroC_inv (μ := μ) hl
  rw [hi] at hi'; cases hi'
  obtain ⟨s', hk, hn, hR, hX⟩ := new_rows (rest := []) (el := t) hr (z := i.size) (rows := [l]) (xs := v.cells.toList) (by simp [hlen]) (by simpa using hc) h
  simp only [List.append_nil, Array.toArray_toList] at hR hX
  refine ⟨_, s', hn, hk, ?_⟩
  simp [execOp, ho, Instr.alloc, zeroValue, typeInfo, hi, hv, newVar, newRow, newObj]
  exact ⟨_, hX, vptr (setM_same _ _ _) 0 0 (by simp), by simpa using hR⟩
theorem op_box (hr : R w0 s w μ) {t : TypeId} {x : Operand} (ho : o.op = .box t x) {v : AV} (hv : VRel μ v (a.eval x)) {z : Nat} {k : K} (h : bxX z v s k = true) :
    ∃ v s', (nx s).n ≤ (nx s').n ∧ k v s' = true ∧ Good P w0 (nx s) μ v s' ((execOp a.eval o).run P w) := by
  obtain ⟨l, h1, hc⟩ := pt_true hv h
  obtain ⟨hlen, h2⟩ := brec_true h1
  have hlen := neq_true hlen
  rw [len_eq] at hlen
  obtain ⟨s', hk, hn, hR, hX⟩ := new_rows (rest := []) (el := t) hr (z := z) (rows := [l]) (xs := (a.eval x).cells.toList) (by simp [hlen]) (by simpa using hc) h2
  simp only [List.append_nil, Array.toArray_toList] at hR hX
  refine ⟨_, s', hn, hk, ?_⟩
  simp [execOp, ho, Instr.box, newVar, newRow, newObj]
  exact ⟨_, hX, vptr (setM_same _ _ _) 0 0 (by simp), by simpa using hR⟩
theorem addr_add (g o n : Nat) : (⟨g, o, none⟩ : Addr).add n = ⟨g, o + n, none⟩ := by unfold Addr.add; split <;> simp_all
/-- a single cell, loaded -/
theorem ld_sound (hr : R w0 s w μ) {t : TypeId} (ht : aggT P t = some false) {x : AV} {x' : Value} (hx : VRel μ x x') {k : AV → Bool} (h : ldX x s k = true) : ∃ v v', k v = true ∧ VRel μ v v' ∧ (Instr.loadAt t x').run P w = .ok v' w := by
  obtain ⟨b, i, q, rfl, h1⟩ := wP_true h
  obtain ⟨z, l, hb, h2⟩ := wCe_true h1
  obtain ⟨r, hri, h3⟩ := nthL_true h2
  obtain ⟨v, hrv, h4⟩ := nthL_true h3
  obtain ⟨p, hp, rfl⟩ := ptr_inv hx
  obtain ⟨v', hc, hv, _⟩ := (hr.cl hb hp).cell hri hrv
  exact ⟨v, v', h4, hv, by simp [Instr.loadAt, Instr.sureAddr, loadVar, aggT_inv ht, hc]⟩
/-- some cells, loaded -/
theorem lg_sound (hr : R w0 s w μ) {t : TypeId} (ht : aggT P t = some true) {n : Nat} (hn : szT P t = some n) {x : AV} {x' : Value} (hx : VRel μ x x') {k : AV → Bool} (h : lgX n x s k = true) : ∃ v v', k v = true ∧ VRel μ v v' ∧ (Instr.loadAt t x').run P w = .ok v' w := by
  obtain ⟨i', hi', rfl⟩ := szT_inv hn
  obtain ⟨b, i, q, rfl, h1⟩ := wP_true h
  obtain ⟨z, l, hb, h2⟩ := wCe_true h1
  obtain ⟨r, hri, h3⟩ := nthL_true h2
  obtain ⟨p, hp, rfl⟩ := ptr_inv hx
  have hcl := hr.cl hb hp
  have hz : z = p.z := hcl.1
  have hrl : r.length = p.z := hcl.2.1 r (List.mem_of_getElem? hri)
  have hil : i < l.length := (List.getElem?_eq_some_iff.1 hri).1
  obtain ⟨xs, hvs, hxl, hxc⟩ := hcl.flat (i := i) (n := 1) (by omega)
  have hrow : ((l.drop i).take 1).flatten = r := by
    have : (l.drop i).take 1 = [r] := by
      rw [List.drop_eq_getElem_cons hil]
      simp [(List.getElem?_eq_some_iff.1 hri).2]
    rw [this]; simp
  rw [hrow] at hvs
  have key : ∀ m : List AV, m = (r.drop q).take i'.size → q + i'.size ≤ p.z → ∃ v', VRel μ (.agg m) v' ∧ (Instr.loadAt t (.pointer (some ⟨p.g, p.sh + i * p.z + q, none⟩))).run P w = .ok v' w := fun m hm hq => by
    have hvm : VC μ m ((xs.drop q).take i'.size) := by rw [hm]; exact (hvs.drop q).take _
    have hlen : ((xs.drop q).take i'.size).length = i'.size := by simp; omega
    have hld := run_loadCells_list (P := P) w ⟨p.g, p.sh + i * p.z + q, none⟩ ((xs.drop q).take i'.size) (fun j v hj => by
      rw [List.getElem?_take] at hj
      split at hj
      · rw [List.getElem?_drop] at hj
        rw [addr_add, Nat.add_assoc]
        exact hxc _ v hj
      · cases hj)
    rw [hlen] at hld
    refine ⟨_, hvm.agg, ?_⟩
    simp [Instr.loadAt, Instr.sureAddr, loadVar, aggT_inv ht, run_sz hi', hld]
  rcases brec_cases h3 with ⟨hnz, h4⟩ | ⟨_, h4⟩
  · have hnz := neq_true hnz
    cases q with
    | zero =>
      obtain ⟨v', hv, hrun⟩ := key r (by rw [List.drop_zero, List.take_of_length_le (by omega)]) (by omega)
      exact ⟨.agg r, v', h4, hv, hrun⟩
    | succ q => cases h4
  · obtain ⟨hh, h5⟩ := brec_true h4
    have hh := has_true hh
    rw [drp_eq] at hh h5
    rw [tk_eq] at h5
    simp at hh
    by_cases hq0 : i'.size = 0
    · by_cases hqz : q ≤ p.z
      · obtain ⟨v', hv, hrun⟩ := key _ rfl (by omega)
        exact ⟨_, v', h5, hv, hrun⟩
      · have hld := run_loadCells_list (P := P) w ⟨p.g, p.sh + i * p.z + q, none⟩ [] (fun j v hj => by simp at hj)
        refine ⟨_, .agg #[], h5, ?_, ?_⟩
        · rw [hq0, List.take_zero]
          have := (VC.nil (μ := μ)).agg
          simpa using this
        · have hld' : (loadCells ⟨p.g, p.sh + i * p.z + q, none⟩ 0).run P w = .ok #[] w := by simpa using hld
          simp [Instr.loadAt, Instr.sureAddr, loadVar, aggT_inv ht, run_sz hi', hq0, hld']
    · obtain ⟨v', hv, hrun⟩ := key _ rfl (by omega)
      exact ⟨_, v', h5, hv, hrun⟩
theorem op_load (hr : R w0 s w μ) {t : TypeId} {x : Operand} (ho : o.op = .load t x) {v : AV} {v' : Value} (hv : VRel μ v v') (hrun : (Instr.loadAt t (a.eval x)).run P w = .ok v' w) : Good P w0 (nx s) μ v s ((execOp a.eval o).run P w) :=
  good_val hr hv (by simp [execOp, ho, hrun])
/-- a store -/
theorem sg_sound (hr : R w0 s w μ) {t : TypeId} {n : Nat} (hn : szT P t = some n) {x y : AV} {x' y' : Value} (hx : VRel μ x x') (hy : VRel μ y y') {k : St → Bool} (h : sgX n x y s k = true) :
    ∃ s' w', (nx s).n ≤ (nx s').n ∧ k s' = true ∧ R w0 s' w' μ ∧ (Instr.storeAt t x' y').run P w = .ok () w' := by
  obtain ⟨i', hi', rfl⟩ := szT_inv hn
  obtain ⟨b, i, q, rfl, h1⟩ := wP_true h
  obtain ⟨m, rfl, h2⟩ := wAg_true h1
  obtain ⟨z, l, hb, h3⟩ := wCw_true h2
  obtain ⟨r, hri, h4⟩ := nthL_true h3
  obtain ⟨hq, h5⟩ := brec_true h4
  obtain ⟨hm, h6⟩ := brec_true h5
  have hq := nle_true hq
  have hm := neq_true hm
  rw [len_eq] at hm
  obtain ⟨p, hp, rfl⟩ := ptr_inv hx
  obtain ⟨ys, rfl, hys⟩ := hy.agg_inv
  have hcl := hr.cl (.inl hb) hp
  obtain ⟨hz, hl2, hsz, cs, el, hcs, hcsz, hcell⟩ := id hcl
  have hil : i < l.length := (List.getElem?_eq_some_iff.1 hri).1
  have hmul : (i + 1) * p.z ≤ l.length * p.z := Nat.mul_le_mul_right _ (by omega)
  rw [Nat.add_mul] at hmul
  have hyl : ys.toList.length = m.length := hys.1.1.symm
  have hq : q + i'.size ≤ z := hq
  have hst := run_storeCells_at (P := P) p.g (p.sh + i * p.z + q) el ys.toList 0 cs w hcs (by omega) hys.2
  simp only [Nat.add_zero] at hst
  refine ⟨_, w.setRow p.g (cs.toList.take (p.sh + i * p.z + q) ++ ys.toList ++ cs.toList.drop (p.sh + i * p.z + q + ys.toList.length)).toArray, by rw [putO_nx]; exact Nat.le_refl _, h6, hr.write hb hp rfl rfl rfl (by simp) (fun k hk => setRow_other w _ _ _ hk) (hcl.writeIn hri hys (by omega) hcs (setRow_heap w _ _ _ _ _ hcs)), ?_⟩
  have hysz : ys.size = i'.size := by simpa [hm] using hyl
  simp only [Instr.storeAt, Instr.sureAddr, storeVar, Sem.run_bind, run_sz hi', Result.andThen_ok, Value.cells, hysz, ne_eq, not_true, if_false, Sem.run_pure]
  exact hst
theorem one_VC {y : AV} {y' : Value} (hy : VRel μ y y') (hna : ∀ l, y ≠ .agg l) (hnt : ∀ l, y ≠ .tup l) : VC μ [y] [y'] ∧ y'.cells = #[y'] := by
  cases hy with
  | agg l xs => exact absurd rfl (hna _)
  | tup l xs => exact absurd rfl (hnt _)
  | bool b => exact ⟨VC.nil.cons (.bool b) rfl, rfl⟩
  | int k n => exact ⟨VC.nil.cons (.int k n) rfl, rfl⟩
  | str s => exact ⟨VC.nil.cons (.str s) rfl, rfl⟩
  | nilp => exact ⟨VC.nil.cons .nilp rfl, rfl⟩
  | ptr b i o p h => exact ⟨VC.nil.cons (.ptr b i o p h) rfl, rfl⟩
  | nils => exact ⟨VC.nil.cons .nils rfl, rfl⟩
  | sl b i l r z ex p a cap h1 h0 h2 h3 h4 h5 h6 => exact ⟨VC.nil.cons (.sl b i l r z ex p a cap h1 h0 h2 h3 h4 h5 h6) rfl, rfl⟩
  | fn f a c a' c' h1 h2 h3 h4 => exact ⟨VC.nil.cons (.fn f a c a' c' h1 h2 h3 h4) rfl, rfl⟩
  | nilf => exact ⟨VC.nil.cons .nilf rfl, rfl⟩
  | ifc t v x h => exact ⟨VC.nil.cons (.ifc t v x h) rfl, rfl⟩
  | nili => exact ⟨VC.nil.cons .nili rfl, rfl⟩
  | nilm => exact ⟨VC.nil.cons .nilm rfl, rfl⟩
  | map b p h => exact ⟨VC.nil.cons (.map b p h) rfl, rfl⟩
  | sym => exact ⟨VC.nil.cons .sym rfl, rfl⟩
theorem st_sound (hr : R w0 s w μ) {t : TypeId} (hn : szT P t = some 1) {x y : AV} {x' y' : Value} (hx : VRel μ x x') (hy : VRel μ y y') {k : St → Bool} (h : stX x y s k = true) :
    ∃ s' w', (nx s).n ≤ (nx s').n ∧ k s' = true ∧ R w0 s' w' μ ∧ (Instr.storeAt t x' y').run P w = .ok () w' := by
  obtain ⟨i', hi', hsize⟩ := szT_inv hn
  obtain ⟨b, i, q, rfl, h1⟩ := wP_true h
  obtain ⟨z, l, hb, h3⟩ := wCw_true h1
  obtain ⟨r, hri, h4⟩ := nthL_true h3
  obtain ⟨u, hru, h5⟩ := nthL_true h4
  obtain ⟨hna, hnt, h6⟩ := one_true h5
  obtain ⟨p, hp, rfl⟩ := ptr_inv hx
  have hcl := hr.cl (.inl hb) hp
  obtain ⟨hz, hl2, hsz, cs, el, hcs, hcsz, hcell⟩ := id hcl
  have hil : i < l.length := (List.getElem?_eq_some_iff.1 hri).1
  have hmul : (i + 1) * p.z ≤ l.length * p.z := Nat.mul_le_mul_right _ (by omega)
  rw [Nat.add_mul] at hmul
  have hrl : r.length = p.z := hl2 r (List.mem_of_getElem? hri)
  have hql : q < r.length := (List.getElem?_eq_some_iff.1 hru).1
  have hys := one_VC hy hna hnt
  have hst := run_storeCells_at (P := P) p.g (p.sh + i * p.z + q) el [y'] 0 cs w hcs (by simp; omega) hys.1.2
  simp only [Nat.add_zero] at hst
  have hset : setAt r q y = overAt r q [y] := by
    rw [setAt_eq]
    apply List.ext_getElem?
    intro j
    rw [overAt_get (by simp; omega)]
    by_cases hj : j = q
    · subst hj; rw [List.getElem?_set_self hql, if_pos (by simp)]; simp
    · rw [List.getElem?_set_ne (Ne.symm hj), if_neg (by simp; omega)]
  rw [hset] at h6
  refine ⟨_, w.setRow p.g (cs.toList.take (p.sh + i * p.z + q) ++ [y'] ++ cs.toList.drop (p.sh + i * p.z + q + [y'].length)).toArray, by rw [putO_nx]; exact Nat.le_refl _, h6, hr.write hb hp rfl rfl rfl (by simp) (fun k hk => setRow_other w _ _ _ hk) (hcl.writeIn hri hys.1 (by simp; omega) hcs (setRow_heap w _ _ _ _ _ hcs)), ?_⟩
  simp only [Instr.storeAt, Instr.sureAddr, storeVar, Sem.run_bind, run_sz hi', Result.andThen_ok, hys.2, hsize, Sem.run_pure]
  exact hst
theorem op_store (hr : R w0 s w μ) {t : TypeId} {x y : Operand} (ho : o.op = .store t x y) {s' : St} {w' : World} (hn : (nx s).n ≤ (nx s').n) (hR : R w0 s' w' μ) (hrun : (Instr.storeAt t (a.eval x) (a.eval y)).run P w = .ok () w') : Good P w0 (nx s) μ und s' ((execOp a.eval o).run P w) := by
  have : (execOp a.eval o).run P w = .ok .skip w' := by simp [execOp, ho, hrun]
  rw [this]
  exact ⟨μ, MX.rfl', by
    have := (VL.nil (μ := μ)).tup
    simpa [und, Go.undef] using this, hR⟩
end X
/- append. -/
namespace X
open Go Go.RowKit
set_option linter.unusedVariables false
set_option linter.unusedSimpArgs false
set_option linter.unusedSectionVars false
variable [Luck]
variable {P : Program} {w0 w : World} {s : St} {μ : Mu} {a : Act} {o : Oper}
/-- rows of a slice, read -/
structure Rows (μ : Mu) (w : World) (z : Nat) (x : Value) (n : Nat) (rs : List (List AV)) (xs : List Value) : Prop where
  len : rs.length = n
  row : ∀ r ∈ rs, r.length = z
  vc : VC μ rs.flatten xs
  sl : ∃ base cap, x = .slice base n cap ∧ (∀ (q : Nat) (v : Value), xs[q]? = some v → ∃ b, base = some b ∧ w.cell? (b.add q) = some v) ∧ (n = 0 ∨ ∃ b, base = some b)
theorem rowsOf_true (hr : R w0 s w μ) {z : Nat} {x : AV} {x' : Value} (hx : VRel μ x x') {k : Nat → List (List AV) → Bool} (h : rowsOf z x s k = true) : ∃ n rs xs, k n rs = true ∧ Rows μ w z x' n rs xs := by
  rcases wSl_true h with ⟨rfl, h⟩ | ⟨b, i, l, r, y, ex, rfl, h⟩
  · cases nils_inv hx
    exact ⟨0, [], [], h, ⟨rfl, by simp, VC.nil, none, 0, rfl, fun q v hq => by simp at hq, .inl rfl⟩⟩
  · obtain ⟨z', rows, hb, h1⟩ := wCe_true h
    obtain ⟨hz, h2⟩ := brec_true h1
    obtain ⟨hh, h3⟩ := brec_true h2
    have hz := neq_true hz
    subst hz
    have hh := has_true hh
    rw [drp_eq] at hh h3
    rw [tk_eq] at h3
    obtain ⟨p, ad, cap, rfl, hp, hpz, hrc, hex, hlr, had, hsz⟩ := sl_inv hx
    have hcl := hr.cl hb hp
    simp at hh
    by_cases hl0 : l = 0
    · subst hl0
      rw [List.take_zero] at h3
      exact ⟨0, [], [], h3, ⟨rfl, by simp, VC.nil, some ad, cap, rfl, fun q v hq => by simp at hq, .inl rfl⟩⟩
    · obtain ⟨xs, hvc, hxl, hxc⟩ := hcl.flat (i := i) (n := l) (by omega)
      have hc0 : cap ≠ 0 := by omega
      refine ⟨l, _, xs, h3, ⟨by simp; omega, fun r hr => ?_, hvc, some ad, cap, rfl, fun q v hq => ⟨ad, rfl, ?_⟩, .inr ⟨ad, rfl⟩⟩⟩
      · rw [← hpz]; exact hcl.2.1 r (List.mem_of_mem_drop (List.mem_of_mem_take hr))
      · rw [had hc0, addr_add]; exact hxc q v hq
theorem Rows.src {size : Nat} {z n : Nat} {x : Value} {rs : List (List AV)} {xs : List Value} (h : Rows μ w z x n rs xs) (hz : size = z) {tx e' : TypeId} (hk : P.underlying tx = some (.slice e')) : Src P size tx x n xs w := by
  obtain ⟨h1, h2, h3, base, cap, rfl, h4, h5⟩ := h
  have hxl : xs.length = n * size := by rw [← h3.1.1, flat_len h2, h1, hz]
  cases base with
  | some b => exact Src.ofSlice w hk b n cap xs hxl (fun j u hu => by
      obtain ⟨b', e, hc⟩ := h4 j u hu
      cases e; exact hc) h3.2
  | none =>
    have hn : n = 0 := h5.resolve_right (fun ⟨b, hb⟩ => by cases hb)
    subst hn
    have : xs = [] := List.eq_nil_of_length_eq_zero (by simpa using hxl)
    subst this
    exact Src.ofNil w hk cap
theorem Rows.first {z n : Nat} {x : Value} {rs : List (List AV)} {xs : List Value} (h : Rows μ w z x n rs xs) : (Builtin.firstCells z n x).run P w.drew = .ok xs.toArray w.drew := by
  obtain ⟨h1, h2, h3, base, cap, rfl, h4, h5⟩ := h
  have hxl : xs.length = n * z := by rw [← h3.1.1, flat_len h2, h1]
  cases base with
  | some b => exact run_firstCells_some w.drew z n b n cap xs hxl (fun j u hu => by
      obtain ⟨b', e, hc⟩ := h4 j u hu
      cases e; exact hc)
  | none =>
    have hn : n = 0 := h5.resolve_right (fun ⟨b, hb⟩ => by cases hb)
    subst hn
    have : xs = [] := List.eq_nil_of_length_eq_zero (by simpa using hxl)
    subst this
    exact run_firstCells_none w.drew z 0 0 cap
theorem Rows.xlen {z n : Nat} {x : Value} {rs : List (List AV)} {xs : List Value} (h : Rows μ w z x n rs xs) : xs.length = n * z := by rw [← h.vc.1.1, flat_len h.row, h.len]
/-- what append yields -/
def ApOk (P : Program) (w0 : World) (s : St) (μ : Mu) (k : K) (r : Result Value) : Prop := ∃ v s', (nx s).n ≤ (nx s').n ∧ k v s' = true ∧ ∃ v' w' μ', r = .ok v' w' ∧ MX (nx s) μ μ' ∧ VRel μ' v v' ∧ R w0 s' w' μ'
theorem drew_heap (w : World) : w.drew.heap = w.heap := rfl
/-- a new block -/
theorem apF_sound (hr : R w0 s w μ) {z l n : Nat} {rs : List (List AV)} {xs : List Value} (hlen : rs.length = l + n) (hrow : ∀ r ∈ rs, r.length = z) (hvc : VC μ rs.flatten xs) {old : Nat} {e : TypeId} {zc : Array Value} (hzc : zc.size = z) {k : K} (h : apF z l n rs s k = true) :
    ApOk P w0 s μ k (.ok (.slice (some ⟨w.heap.size, 0, none⟩) (l + n) (grownCap w (l + n) old e)) (w.drew.alloc (.cells (xs.toArray ++ Builtin.zeroCells zc (grownCap w (l + n) old e - (l + n))) e))) := by
  have hr' : R w0 s w.drew μ := hr.same rfl rfl rfl rfl
  obtain ⟨s', hk, hn, hR, hX⟩ := new_rows (rest := (Builtin.zeroCells zc (grownCap w (l + n) old e - (l + n))).toList) (el := e) hr' hrow hvc h
  have hcap : l + n ≤ grownCap w (l + n) old e := by unfold grownCap; simp only [Question.cut]; omega
  refine ⟨_, s', hn, hk, _, _, _, rfl, hX, .sl _ _ _ _ _ _ _ _ _ (setM_same _ _ _) rfl hcap (fun e => by cases e) (Nat.le_refl _) (fun _ => by simp [drew_heap]) ?_, ?_⟩
  · have hxl : xs.length = (l + n) * z := by rw [← hvc.1.1, flat_len hrow, hlen]
    have hzl : (Builtin.zeroCells zc (grownCap w (l + n) old e - (l + n))).toList.length = (grownCap w (l + n) old e - (l + n)) * z := by
      rw [Array.length_toList, size_zeroCells, hzc]
    simp only [List.length_append, hxl, hzl, Nat.zero_add]
    rw [← Nat.add_mul, show l + n + (grownCap w (l + n) old e - (l + n)) = grownCap w (l + n) old e by omega]
    exact Nat.le_refl _
  · have e1 : (xs.toArray ++ Builtin.zeroCells zc (grownCap w (l + n) old e - (l + n))) = (xs ++ (Builtin.zeroCells zc (grownCap w (l + n) old e - (l + n))).toList).toArray := by
      apply Array.ext'; simp
    rw [e1]
    exact hR
theorem run_app_room (t tx ty e : TypeId) (i : TypeInfo) (ht : P.underlying t = some (.slice e)) (hi : P.info? e = some i) (ad : Addr) (sLen sCap : Nat) (x : Value) (n : Nat) (news : List Value) (hs : Src P i.size tx x n news w)
    (hroom : sLen + n ≤ sCap) {w' : World} (hst : (storeCells (ad.add (sLen * i.size)) news).run P w = .ok () w') :
    (Builtin.append_ #[t, tx] ty #[.slice (some ad) sLen sCap, x]).run P w = .ok (.slice (some ad) (sLen + n) sCap) w' := by
  rcases hs.kind with ⟨e', hk⟩ | hk <;> simp [Builtin.append_, run_underlying ht, run_underlying hk, run_sz hi, hs.len, hroom, hs.cells, hst]
theorem over_nil (l : List (List AV)) (i : Nat) (h : i ≤ l.length) : overAt l i [] = l := by
  apply List.ext_getElem?
  intro j
  rw [overAt_get (by simpa using h), if_neg (by simp)]
/-- how the model appends n elements, the cells news -/
structure AR (P : Program) (w : World) (t tx ty el : TypeId) (i : TypeInfo) (zv y' : Value) (n : Nat) (news : List Value) : Prop where
  newsLen : news.length = n * i.size
  one : ∀ u ∈ news, u.oneCell' = true
  nil : n = 0 → (Builtin.append_ #[t, tx] ty #[.slice none 0 0, y']).run P w = .ok (.slice none 0 0) w
  room : ∀ (ad : Addr) (l cap : Nat) (w' : World), l + n ≤ cap → (storeCells (ad.add (l * i.size)) news).run P w = .ok () w' → (Builtin.append_ #[t, tx] ty #[.slice (some ad) l cap, y']).run P w = .ok (.slice (some ad) (l + n) cap) w'
  grow : ∀ (base : Option Addr) (l cap : Nat) (olds : List Value), (Builtin.firstCells i.size l (.slice base l cap)).run P w.drew = .ok olds.toArray w.drew → cap < l + n → l + n ≤ 1000000 → (Builtin.append_ #[t, tx] ty #[.slice base l cap, y']).run P w =
    .ok (.slice (some ⟨w.heap.size, 0, none⟩) (l + n) (grownCap w (l + n) cap el)) (w.drew.alloc (.cells ((olds ++ news).toArray ++ Builtin.zeroCells zv.cells (grownCap w (l + n) cap el - (l + n))) el))
theorem AR.ofSrc {t tx ty el : TypeId} {i : TypeInfo} {zv y' : Value} {n : Nat} {news : List Value} (ht : P.underlying t = some (.slice el)) (hi : P.info? el = some i) (hzv : i.zero = some zv) (hby : i.bytes ≤ 100000) (hs : Src P i.size tx y' n news w) : AR P w t tx ty el i zv y' n news where
  newsLen := hs.newsLen
  one := hs.one
  nil := fun hn => by
    subst hn
    have hnews : news = [] := List.eq_nil_of_length_eq_zero (by simpa using hs.newsLen)
    subst hnews
    rcases hs.kind with ⟨e', hk⟩ | hk <;> simp [Builtin.append_, run_underlying ht, run_underlying hk, run_sz hi, hs.len, hs.cells]
  room := fun ad l cap w' hroom hst => run_app_room t tx ty el i ht hi ad l cap y' n news hs hroom hst
  grow := fun base l cap olds hold hlt hle => by
    have hmul : (l + n) * i.bytes ≤ 1000000 * 100000 := Nat.mul_le_mul hle hby
    exact run_append_grow_src (P := P) w t tx ty el i zv ht hi hzv base l cap olds hold y' n news hs hlt (by omega) (growslice_fits hlt (by omega))
/-- append -/
theorem apd_sound (hr : R w0 s w μ) {t tx ty el : TypeId} {i : TypeInfo} {zv : Value} (hzs : zv.cells.size = i.size)
    {x : AV} {x' y' : Value} (hx : VRel μ x x') {n : Nat} {vs : List (List AV)} {news : List Value} (hvl : vs.length = n) (hvr : ∀ r ∈ vs, r.length = i.size) (hvc : VC μ vs.flatten news) (hs : AR P w t tx ty el i zv y' n news) {k : K} (h : apd i.size x n vs s k = true) :
    ApOk P w0 s μ k ((Builtin.append_ #[t, tx] ty #[x', y']).run P w) := by
  have hnl : news.length = n * i.size := hs.newsLen
  have grow : ∀ (base : Option Addr) (l cap : Nat) (rs : List (List AV)) (olds : List Value) (s2 : St), (nx s2) = nx s → R w0 s2 w μ → Rows μ w i.size (.slice base l cap) l rs olds → cap < l + n → apE i.size l n (app rs vs) s2 k = true →
      ApOk P w0 s μ k ((Builtin.append_ #[t, tx] ty #[.slice base l cap, y']).run P w) := fun base l cap rs olds s2 hs2 hr2 hrows hlt hE => by
    obtain ⟨hle, hF⟩ := brec_true hE
    have hle := nle_true hle
    have hle : l + n ≤ 1000000 := hle
    rw [app_eq] at hF
    have hF' := apF_sound (P := P) hr2 (l := l) (n := n) (rs := rs ++ vs) (xs := olds ++ news) (by simp [hrows.len, hvl]) (fun r hr => (List.mem_append.1 hr).elim (hrows.row r) (hvr r)) (by rw [List.flatten_append]; exact hrows.vc.app hvc) (old := cap) (e := el) (zc := zv.cells) hzs hF
    rw [hs.grow base l cap olds hrows.first hlt hle]
    unfold ApOk at hF' ⊢
    rw [hs2] at hF'
    exact hF'
  rcases wSl_true h with ⟨rfl, h⟩ | ⟨b, j, l, r, y, ex, rfl, h⟩
  · cases nils_inv hx
    cases n with
    | zero =>
      have hnews : news = [] := List.eq_nil_of_length_eq_zero (by simpa using hnl)
      subst hnews
      exact ⟨_, s, Nat.le_refl _, h, .slice none 0 0, w, μ, hs.nil rfl, MX.rfl', .nils, hr⟩
    | succ m =>
      refine grow none 0 0 [] [] s rfl hr ⟨rfl, by simp, VC.nil, none, 0, rfl, fun q v hq => by simp at hq, .inl rfl⟩ (by omega) ?_
      exact h
  · obtain ⟨hz, h1⟩ := brec_true h
    have hz := neq_true hz
    subst hz
    obtain ⟨p, ad, cap, rfl, hp, hpz, hrc, hex, hlr, had, hsz⟩ := sl_inv hx
    rcases brec_cases h1 with ⟨hroom, h2⟩ | ⟨hno, h2⟩
    · have hroom := nle_true hroom
      have hroom : l + n ≤ r := hroom
      obtain ⟨z', rows, hb, h3⟩ := wCw_true h2
      obtain ⟨hfit, h4⟩ := brec_true h3
      have hfit := nle_true hfit
      rw [len_eq, len_eq, hvl] at hfit
      have hfit : j + l + n ≤ rows.length := hfit
      have hcl := hr.cl (.inl hb) hp
      obtain ⟨hz', hl2, hsz', cs, el', hcs, hcsz, hcell⟩ := id hcl
      by_cases hc0 : cap = 0
      · have hn0 : n = 0 := by omega
        have hl0 : l = 0 := by omega
        subst hn0; subst hl0; subst hc0
        have hv0 : vs = [] := List.eq_nil_of_length_eq_zero hvl
        subst hv0
        have hnews : news = [] := List.eq_nil_of_length_eq_zero (by simpa using hnl)
        subst hnews
        refine ⟨_, _, by rw [putO_nx]; exact Nat.le_refl _, h4, .slice (some ad) 0 0, w, μ, ?_, MX.rfl', ?_, ?_⟩
        · have := hs.room ad 0 0 w (by omega) (by simp [storeCells])
          simpa using this
        · exact .sl b j 0 r _ ex p ad 0 hp hpz hrc hex hlr had hsz
        · refine hr.write hb hp rfl rfl rfl rfl (fun _ _ => rfl) ?_
          show Cl μ w p z' (overAt rows (j + 0) [])
          rw [over_nil _ _ (by omega)]; exact hcl
      · have hade := had hc0
        subst hade
        have hst := run_storeCells_at (P := P) p.g (p.sh + (j + l) * p.z) el' news 0 cs w hcs (by
          have hmul : (j + l + n) * p.z ≤ rows.length * p.z := Nat.mul_le_mul_right _ (by omega)
          rw [Nat.add_mul (j + l) n] at hmul
          rw [hnl, ← hpz]; omega) hs.one
        simp only [Nat.add_zero] at hst
        refine ⟨_, _, by rw [putO_nx]; exact Nat.le_refl _, h4, .slice (some ⟨p.g, p.sh + j * p.z, none⟩) (l + n) cap, w.setRow p.g (cs.toList.take (p.sh + (j + l) * p.z) ++ news ++ cs.toList.drop (p.sh + (j + l) * p.z + news.length)).toArray, μ, ?_, MX.rfl', ?_, ?_⟩
        · refine hs.room _ l cap _ (by omega) ?_
          rw [addr_add, show p.sh + j * p.z + l * i.size = p.sh + (j + l) * p.z by rw [← hpz, Nat.add_mul]; omega]
          exact hst
        · exact .sl b j (l + n) r _ ex p _ cap hp hpz hrc hex hroom (fun _ => rfl) hsz
        · exact hr.write hb hp rfl rfl rfl (by simp) (fun k hk => setRow_other w _ _ _ hk) (hcl.writeRows (by rw [hpz]; exact hvr) hvc (by rw [hvl]; exact hfit) hcs (setRow_heap w _ _ _ _ _ hcs))
    · have hno : r < l + n := by
        rcases Nat.lt_or_ge r (l + n) with h | h
        · exact h
        · have : Nat.ble (l + n) r = true := by rw [Nat.ble_eq]; exact h
          have hno : Nat.ble (l + n) r = false := hno
          rw [this] at hno; cases hno
      obtain ⟨l', rs, olds, h3, hrows⟩ := rowsOf_true hr hx h2
      obtain ⟨base', cap', e1, _, _⟩ := id hrows.sl
      cases e1
      rcases brec_cases h3 with ⟨hexact, h4⟩ | ⟨_, h4⟩
      · have hcr := hex hexact
        exact grow (some ad) l cap rs olds s rfl hr hrows (by omega) h4
      · obtain ⟨z', rows, hb, h5⟩ := wCw_true h4
        by_cases hroom : l + n ≤ cap
        · -- there is room that the abstract memory does not know of
          have hc0 : cap ≠ 0 := by omega
          have hade := had hc0
          subst hade
          obtain ⟨hle, hF⟩ := brec_true h5
          obtain ⟨m, hm, hk⟩ := newO_true (show newO _ (putO b .e s) _ = true from hF)
          rw [putO_nx] at hm hk
          rw [app_eq] at hk
          have hcl := hr.cl (.inl hb) hp
          obtain ⟨hz', hl2, hsz', cs, el', hcs, hcsz, hcell⟩ := id hcl
          have hcz : (j + cap) * p.z = j * p.z + cap * p.z := Nat.add_mul _ _ _
          have hlz : (l + n) * p.z ≤ cap * p.z := Nat.mul_le_mul_right _ hroom
          have hlnz : (l + n) * p.z = l * p.z + n * p.z := Nat.add_mul _ _ _
          have hnl' : news.length = n * p.z := by rw [hnl, hpz]
          have hol : olds.length = l * p.z := by rw [hrows.xlen, hpz]
          have hst := run_storeCells_at (P := P) p.g (p.sh + j * p.z + l * p.z) el' news 0 cs w hcs (by omega) hs.one
          simp only [Nat.add_zero] at hst
          have hw' := setRow_heap w p.g cs (cs.toList.take (p.sh + j * p.z + l * p.z) ++ news ++ cs.toList.drop (p.sh + j * p.z + l * p.z + news.length)).toArray el' (0, 0) hcs
          have hle' : MLe μ (setM μ (nx s) ⟨p.g, p.sh + j * p.z, p.z, p.sz⟩) := hr.mle (MX.set hr _)
          have hA : p.sh + j * p.z + l * p.z + news.length ≤ cs.toList.length := by simp [hcsz]; omega
          have hcl' : Cl (setM μ (nx s) ⟨p.g, p.sh + j * p.z, p.z, p.sz⟩) (w.setRow p.g (cs.toList.take (p.sh + j * p.z + l * p.z) ++ news ++ cs.toList.drop (p.sh + j * p.z + l * p.z + news.length)).toArray) ⟨p.g, p.sh + j * p.z, p.z, p.sz⟩ p.z (rs ++ vs) := by
            refine Cl.mk_flat (xs := olds ++ news) rfl (fun q hq => (List.mem_append.1 hq).elim (fun h => by rw [hpz]; exact hrows.row q h) (fun h => by rw [hpz]; exact hvr q h)) ?_ hw' ?_ ?_ (fun q v hq => ?_)
            · show p.sh + j * p.z + (rs ++ vs).length * p.z ≤ p.sz
              rw [List.length_append, hrows.len, hvl]; omega
            · show _ = p.sz
              simp at hA ⊢; omega
            · rw [List.flatten_append]; exact (hrows.vc.app hvc).mono hle'
            · simp only [List.getElem?_toArray]
              rw [split_get hA]
              rw [List.getElem?_append] at hq
              show (if p.sh + j * p.z + l * p.z ≤ p.sh + j * p.z + q ∧ p.sh + j * p.z + q < p.sh + j * p.z + l * p.z + news.length then news[p.sh + j * p.z + q - (p.sh + j * p.z + l * p.z)]? else cs.toList[p.sh + j * p.z + q]?) = some v
              split at hq
              · rename_i hlt
                rw [if_neg (by omega)]
                obtain ⟨base2, cap2, e2, hcells, _⟩ := hrows.sl
                cases e2
                obtain ⟨b2, e3, hc2⟩ := hcells q v hq
                cases e3
                rw [addr_add] at hc2
                unfold World.cell? at hc2
                simp only [hcs] at hc2
                simpa using hc2
              · rename_i hge
                have hql := (List.getElem?_eq_some_iff.1 hq).1
                rw [if_pos (by omega), show p.sh + j * p.z + q - (p.sh + j * p.z + l * p.z) = q - olds.length by omega]
                exact hq
          refine ⟨_, _, by show _ ≤ m.n; omega, hk, .slice (some ⟨p.g, p.sh + j * p.z, none⟩) (l + n) cap, w.setRow p.g (cs.toList.take (p.sh + j * p.z + l * p.z) ++ news ++ cs.toList.drop (p.sh + j * p.z + l * p.z + news.length)).toArray, _, ?_, MX.set hr ⟨p.g, p.sh + j * p.z, p.z, p.sz⟩, ?_, hr.over hm hb hp rfl rfl rfl rfl (by simp) (fun k hk => setRow_other w _ _ _ hk) (hpz ▸ hcl')⟩
          · refine hs.room _ l cap _ hroom ?_
            rw [addr_add, ← hpz]
            exact hst
          · refine .sl _ 0 (l + n) (l + n) _ false ⟨p.g, p.sh + j * p.z, p.z, p.sz⟩ _ cap (by rw [setM_same]) hpz hroom (fun e => by cases e) (Nat.le_refl _) (fun _ => by simp) ?_
            show p.sh + j * p.z + (0 + cap) * p.z ≤ p.sz
            rw [Nat.zero_add]; omega
        · exact grow (some ad) l cap rs olds (putO b .e s) (putO_nx _ _ _) (hr.kill b) hrows (by omega) h5
end X
