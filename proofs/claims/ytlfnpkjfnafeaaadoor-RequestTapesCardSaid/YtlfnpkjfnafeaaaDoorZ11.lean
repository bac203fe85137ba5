/-  -/
import Derived.Test.YtlfnpkjfnafeaaaDoorZ5
import Derived.Laws.CopyOwn
import Derived.IntWalk
import Derived.Test.YtlfnpkjfnafeaaaDoorZ2
import Derived.Deep.DrawnRows
import Derived.Laws.Cover1
set_option maxRecDepth 100000
/- Truth of an expression: plain facts, and the walks of formula's has, eval, holds, Holds. -/
namespace Go.Proofs.YtlfnpkjfnafeaaaDoor
open Go.RowKit
set_option linter.unusedVariables false
def hasA (l : List CL.At) (set : List Bool) (a : CL.At) : Bool := match ixo l a with | none => false | some i => set.getD i false
mutual
def ev (h : CL.At → Bool) : CL.Ex → Bool | .mk k a kids => if kids = [] then h a else decide (k ≤ (cnt h kids : Nat))
def cnt (h : CL.At → Bool) : List CL.Ex → Nat
  | [] => 0
  | e :: l => (if ev h e = true then 1 else 0) + cnt h l
end
theorem cnt_step {h : CL.At → Bool} {kids : List CL.Ex} {j : Nat} (hj : j < kids.length) : cnt h (kids.drop j) = (if ev h kids[j] = true then 1 else 0) + cnt h (kids.drop (j + 1)) := by
  rw [List.drop_eq_getElem_cons hj]; simp only [cnt]
theorem cnt_end {h : CL.At → Bool} {kids : List CL.Ex} {j : Nat} (hj : kids.length ≤ j) : cnt h (kids.drop j) = 0 := by
  rw [List.drop_eq_nil_of_le hj]; simp only [cnt]
/-- truth values as cells -/
def bls (l : List Bool) : List Value := l.map .bool
theorem bls_len (l : List Bool) : (bls l).length = l.length := by simp [bls]
theorem Sits.bool {w : World} {l : List Bool} {A : Option Addr} (hr : Sits w A (bls l)) {k : Nat} (h : k < l.length) : ∃ b o, A = some ⟨b, o, none⟩ ∧ w.cell? ⟨b, o + k, none⟩ = some (.bool l[k]) :=
  let ⟨b, o, e, hc⟩ := hr.get (by rw [bls_len]; omega)
  ⟨b, o, e, hc k _ (by simp [bls, h])⟩
theorem hasA_none {l : List CL.At} {set : List Bool} {a : CL.At} (h : ixo l a = none) : hasA l set a = false := by simp [hasA, h]
theorem hasA_some {l : List CL.At} {set : List Bool} {a : CL.At} {i : Nat} (h : ixo l a = some i) : hasA l set a = set.getD i false := by simp [hasA, h]
end Go.Proofs.YtlfnpkjfnafeaaaDoor
/- The walks of formula's Holds, Hopeless, Prune, Class. -/
namespace Go.Proofs.YtlfnpkjfnafeaaaDoor
open Go.RowKit
set_option linter.unusedVariables false
theorem radd_ne (e : CL.Ex) : ∀ l x : List CL.At, CL.radd e l = some x → x ≠ [] := by
  induction e using CL.Ex.ind with
  | h k a kids ih =>
    intro l x h
    simp only [CL.radd] at h
    split at h
    · split at h
      · injection h with h
        subst h
        split
        · rename_i hm; intro e; rw [e] at hm; simp at hm
        · simp
      · cases h
    · rename_i hk
      split at h
      · cases h
      · cases kids with
        | nil => exact absurd rfl hk
        | cons e ks =>
          simp only [CL.raddL] at h
          split at h
          · cases h
          · rename_i y hy
            have h1 := ih e (by simp) l y hy
            have hpre : ∀ (ks : List CL.Ex) (l x : List CL.At), CL.raddL ks l = some x → ∃ r, x = l ++ r := by
              intro ks
              induction ks with
              | nil => intro l x h; simp [CL.raddL] at h; exact ⟨[], by simp [h]⟩
              | cons e ks ihk =>
                intro l x h
                simp only [CL.raddL] at h
                split at h
                · cases h
                · rename_i y hy
                  obtain ⟨r1, rfl⟩ := CL.radd_pre e l y hy
                  obtain ⟨r2, rfl⟩ := ihk _ _ h
                  exact ⟨r1 ++ r2, by simp⟩
            obtain ⟨r, rfl⟩ := hpre ks y x h
            intro e0
            rw [List.append_eq_nil_iff] at e0
            exact h1 e0.1
theorem atoms_ne {e : CL.Ex} (h : CL.valid e = true) : CL.atoms e ≠ [] := by
  have h1 := CL.valid_coll h
  have h2 := radd_ne e [] _ h1.1
  simpa [CL.atoms, h] using h2
theorem atoms_len (e : CL.Ex) : (CL.atoms e).length ≤ 8 := by
  unfold CL.atoms
  split
  · rename_i h; exact (CL.valid_coll h).2.1.1
  · simp
theorem atoms_nil {e : CL.Ex} (h : CL.valid e = false) : CL.atoms e = [] := by simp [CL.atoms, h]
def holdsE (e : CL.Ex) (set : List Bool) : Bool := CL.valid e && ev (hasA (CL.atoms e) set) e
def restOf (n : Nat) (dead : List Bool) : List Bool := (List.range n).map (fun i => !(dead.getD i false))
def hpl (e : CL.Ex) (dead : List Bool) : Bool := CL.valid e && !ev (hasA (CL.atoms e) (restOf (CL.atoms e).length dead)) e
theorem OwnAts.get {base : Nat} {l : List CL.At} {w w' : World} {r : Ending} (h : OwnAts base l w r w') : ∃ A c, r = .returned (.slice A l.length c) ∧ Sits w' A (ats l) ∧ Below base w w' := by
  obtain ⟨v, rfl, ho, hb⟩ := h
  obtain ⟨A, c, rfl, _, _⟩ := own_form ho
  exact ⟨A, c, rfl, Sits.of_own ho, hb⟩
theorem bls_set {L : List Bool} {j : Nat} {b : Bool} : (bls L).toArray.setIfInBounds j (.bool b) = (bls (L.set j b)).toArray := by simp [bls, List.map_set]
theorem Blk.sits {w : World} {g : Nat} {t : TypeId} {xs : List Value} (h : Blk w g t xs.toArray) : Sits w (some ⟨g, 0, none⟩) xs := fun _ =>
  ⟨g, 0, rfl, fun j u hu => by rw [Nat.zero_add, h.cell]; simpa using hu⟩
theorem bool_info : (Tryd.prog.info? 4).map (fun i => (i.zero, i.size, i.bytes)) = some (some (.bool false), 1, 1) := by kernel_rfl
/-- the truth values written so far are those of f -/
def Filled (f : Nat → Bool) (L : List Bool) (n j : Nat) : Prop := L.length = n ∧ ∀ i, i < j → (hi : i < L.length) → L[i] = f i
theorem Filled.zero (f : Nat → Bool) (n : Nat) : Filled f (List.replicate n false) n 0 := ⟨by simp, fun i h => by omega⟩
theorem Filled.step {f : Nat → Bool} {L : List Bool} {n j : Nat} (h : Filled f L n j) : Filled f (L.set j (f j)) n (j + 1) := by
  refine ⟨by simp [h.1], fun i hi hl => ?_⟩
  rw [List.getElem_set]
  split
  · rename_i e; rw [e]
  · exact h.2 i (by omega) (by simpa using hl)
theorem Filled.done {f : Nat → Bool} {L : List Bool} {n j : Nat} (h : Filled f L n j) (hj : n ≤ j) : L = (List.range n).map f := by
  apply List.ext_getElem
  · simp [h.1]
  · intro i h1 h2
    rw [h.2 i (by have := h.1; omega) h1]; simp
end Go.Proofs.YtlfnpkjfnafeaaaDoor
/- The walk of formula.Prune. -/
namespace Go.Proofs.YtlfnpkjfnafeaaaDoor
open Go.RowKit
set_option linter.unusedVariables false
def pgo (f : List Bool → Bool) : Nat → List Bool → List Bool
  | 0, r => r
  | i + 1, r => pgo f i (if r.getD i false = true ∧ f (r.set i false) = true then r.set i false else r)
theorem pgo_len (f : List Bool → Bool) : ∀ (i : Nat) (r : List Bool), (pgo f i r).length = r.length
  | 0, r => rfl
  | i + 1, r => by
    simp only [pgo]
    rw [pgo_len f i]
    split <;> simp
def takeOf (n : Nat) (set : List Bool) : List Bool := (List.range n).map (fun i => set.getD i false)
theorem takeOf_len (n : Nat) (set : List Bool) : (takeOf n set).length = n := by simp [takeOf]
def prn (e : CL.Ex) (set : List Bool) : List Bool :=
  if CL.valid e = true ∧ ev (hasA (CL.atoms e) set) e = true then pgo (fun s => ev (hasA (CL.atoms e) s) e) (CL.atoms e).length (takeOf (CL.atoms e).length set) else List.replicate (CL.atoms e).length false
theorem prn_len (e : CL.Ex) (set : List Bool) : (prn e set).length = (CL.atoms e).length := by
  unfold prn
  split
  · rw [pgo_len, takeOf_len]
  · simp
/-- a list of truth values in a block of its own -/
def OwnBls (l : List Bool) (w : World) (r : Ending) (w' : World) : Prop := ∃ g, r = .returned (.slice (some ⟨g, 0, none⟩) l.length l.length) ∧ Blk w' g 4 (bls l).toArray ∧ w.heap.size ≤ g ∧ Ext w w'
theorem splice_bools (n : Nat) (set : List Bool) : splice (bls (List.replicate n false)) 0 (bls (set.take n)) = bls (takeOf n set) := by
  unfold splice
  simp only [List.take_zero, List.nil_append, Nat.zero_add]
  rw [show (bls (set.take n)).length = (set.take n).length by simp [bls]]
  apply List.ext_getElem
  · simp [bls, takeOf]; omega
  · intro i h1 h2
    have hn : i < n := by simpa [bls, takeOf] using h2
    by_cases h : i < set.length
    · rw [List.getElem_append_left (by simp [bls]; omega)]
      simp [bls, takeOf, List.getD, h]
    · rw [List.getElem_append_right (by simp [bls]; omega)]
      simp [bls, takeOf, List.getD, List.getElem?_eq_none (show set.length ≤ i by omega)]
theorem set_back {L : List Bool} {q : Nat} (hq : q < L.length) (h : L[q] = true) : (L.set q false).set q true = L := by
  rw [List.set_set]
  apply List.ext_getElem
  · simp
  · intro i h1 h2
    rw [List.getElem_set]
    split
    · rename_i e; subst e; exact h.symm
    · rfl
theorem pgo_f {f : List Bool → Bool} {q : Nat} {L : List Bool} (hq : q < L.length) (h : L[q] = false) : pgo f (q + 1) L = pgo f q L := by
  simp only [pgo]
  rw [if_neg (by simp [List.getD, hq, h])]
theorem pgo_t {f : List Bool → Bool} {q : Nat} {L : List Bool} (hq : q < L.length) (h : L[q] = true) (hf : f (L.set q false) = true) : pgo f (q + 1) L = pgo f q (L.set q false) := by
  simp only [pgo]
  rw [if_pos ⟨by simp [List.getD, hq, h], hf⟩]
theorem pgo_b {f : List Bool → Bool} {q : Nat} {L : List Bool} (hf : f (L.set q false) = false) : pgo f (q + 1) L = pgo f q L := by
  simp only [pgo]
  rw [if_neg (fun h => by rw [hf] at h; exact absurd h.2 (by simp))]
theorem Blk.below {w w' : World} {g B : Nat} {t : TypeId} {cs : Array Value} (h : Blk w g t cs) (hb : Below B w w') (hg : g < B) : Blk w' g t cs := (hb.block g hg).trans h
theorem SitsB.sits {w : World} {B : Nat} {A : Option Addr} {xs : List Value} (h : SitsB w B A xs) : Sits w A xs := fun hn =>
  let ⟨b, o, e, _, hc⟩ := h hn
  ⟨b, o, e, hc⟩
end Go.Proofs.YtlfnpkjfnafeaaaDoor
/- The walk of formula.Class. -/
namespace Go.Proofs.YtlfnpkjfnafeaaaDoor
open Go.RowKit
set_option linter.unusedVariables false
def alone (n i : Nat) : List Bool := (List.range n).map (fun j : Nat => ((j : Int) == (i : Int)))
def without (n i : Nat) : List Bool := (List.range n).map (fun j : Nat => ((j : Int) != (i : Int)))
def conjB (f : List Bool → Bool) (n : Nat) : Nat → Bool
  | 0 => true
  | i + 1 => conjB f n i && !f (without n i)
def disjB (f : List Bool → Bool) (n : Nat) : Nat → Bool
  | 0 => true
  | i + 1 => disjB f n i && f (alone n i)
def clsN (f : List Bool → Bool) (n : Nat) : Int := if conjB f n n = true then 2 else if disjB f n n = true then 3 else 4
def cls (e : CL.Ex) : Int := if (CL.atoms e).length < 2 then (CL.atoms e).length else clsN (fun s => ev (hasA (CL.atoms e) s) e) (CL.atoms e).length
theorem bls_at {w : World} {g : Nat} {L : List Bool} (h : Blk w g 4 (bls L).toArray) {q : Nat} (hq : q < L.length) : w.cell? ⟨g, q, none⟩ = some (.bool L[q]) := by rw [h.cell]; simp [bls, hq]
theorem two_rows (w : World) (c1 : Array Value) (t1 : TypeId) (c2 : Array Value) (t2 : TypeId) : Blk ((w.alloc (.cells c1 t1)).alloc (.cells c2 t2)) w.heap.size t1 c1 ∧ Blk ((w.alloc (.cells c1 t1)).alloc (.cells c2 t2)) (w.heap.size + 1) t2 c2 :=
  ⟨(Blk.new _ _ _).alloc _, by have h := Blk.new (w.alloc (.cells c1 t1)) t2 c2; rw [World.size_alloc] at h; exact h⟩
end Go.Proofs.YtlfnpkjfnafeaaaDoor
/- The walks of the reference of chapter 8: holds, Holds, Hopeless, SameBools. -/
namespace Go.Proofs.YtlfnpkjfnafeaaaDoor
open Go.RowKit
set_option linter.unusedVariables false
mutual
def rev (h : CL.At → Bool) : CL.Ex → Bool | .mk k a kids => if k = 0 then h a else decide (k ≤ (rcnt h kids : Nat))
def rcnt (h : CL.At → Bool) : List CL.Ex → Nat
  | [] => 0
  | e :: l => (if rev h e = true then 1 else 0) + rcnt h l
end
theorem rev_ev (h : CL.At → Bool) (e : CL.Ex) : ∀ l x : List CL.At, CL.radd e l = some x → rev h e = ev h e := by
  induction e using CL.Ex.ind with
  | h k a kids ih =>
    have hL : ∀ (ks : List CL.Ex), (∀ e ∈ ks, ∀ l x : List CL.At, CL.radd e l = some x → rev h e = ev h e) → ∀ l x : List CL.At, CL.raddL ks l = some x → rcnt h ks = cnt h ks := by
      intro ks
      induction ks with
      | nil => intro _ l x _; simp [rcnt, cnt]
      | cons e ks ihk =>
        intro hk l x hx
        simp only [CL.raddL] at hx
        split at hx
        · cases hx
        · rename_i y hy
          simp only [rcnt, cnt]
          rw [hk e (by simp) l y hy, ihk (fun x hx => hk x (by simp [hx])) y x hx]
    intro l x hx
    simp only [CL.radd] at hx
    split at hx
    · rename_i hk
      split at hx
      · rename_i hk2
        simp only [rev, ev]
        rw [if_pos hk2.1, if_pos hk]
      · cases hx
    · rename_i hk
      split at hx
      · cases hx
      · rename_i hb
        simp only [rev, ev]
        rw [if_neg (by omega), if_neg hk, hL kids ih l x hx]
theorem rev_valid {h : CL.At → Bool} {e : CL.Ex} (hv : CL.valid e = true) : rev h e = ev h e := rev_ev h e [] _ (CL.valid_coll hv).1
theorem rcnt_step {h : CL.At → Bool} {kids : List CL.Ex} {j : Nat} (hj : j < kids.length) : rcnt h (kids.drop j) = (if rev h kids[j] = true then 1 else 0) + rcnt h (kids.drop (j + 1)) := by
  rw [List.drop_eq_getElem_cons hj]; simp only [rcnt]
theorem rcnt_end {h : CL.At → Bool} {kids : List CL.Ex} {j : Nat} (hj : kids.length ≤ j) : rcnt h (kids.drop j) = 0 := by
  rw [List.drop_eq_nil_of_le hj]; simp only [rcnt]
theorem hasA_hit {l : List CL.At} {set : List Bool} {a : CL.At} {j : Nat} (h : a ∉ l.take j) (hj : j < l.length) (e : a = l[j]) : hasA l set a = set.getD j false := hasA_some (ixo_hit h hj e)
theorem hasA_end {l : List CL.At} {set : List Bool} {a : CL.At} {j : Nat} (h : a ∉ l.take j) (hj : l.length ≤ j) : hasA l set a = false := by
  rw [List.take_of_length_le hj] at h
  exact hasA_none (ixo_none h)
theorem RAts.get {e : CL.Ex} {w w' : World} {r : Ending} (h : RAts e w r w') : ∃ A c, r = .returned (.tuple #[.slice A (CL.atoms e).length c, .bool (CL.valid e)]) ∧ Sits w' A (ats (CL.atoms e)) ∧ Ext w w' := by
  obtain ⟨v, rfl, ho, hb⟩ := h
  obtain ⟨A, c, rfl, _, _⟩ := own_form ho
  exact ⟨A, c, rfl, Sits.of_own ho, hb⟩
end Go.Proofs.YtlfnpkjfnafeaaaDoor
/- The walks of the reference of chapter 8: Holds, Hopeless, Prune, Class, SameBools. -/
namespace Go.Proofs.YtlfnpkjfnafeaaaDoor
open Go.RowKit
set_option linter.unusedVariables false
theorem take_ne {a b : List Bool} {j : Nat} (h : ¬ a.length = b.length) : (a == b) = false := beq_eq_false_iff_ne.2 (fun e => h (by rw [e]))
theorem at_ne' {a b : List Bool} {j : Nat} (ha : j < a.length) (hb : j < b.length) (h : ¬ a[j] = b[j]) : (a == b) = false := beq_eq_false_iff_ne.2 (fun e => h (by subst e; rfl))
theorem all_eq {a b : List Bool} {j : Nat} (hl : a.length = b.length) (h : a.take j = b.take j) (hj : a.length ≤ j) : (a == b) = true := by
  rw [List.take_of_length_le hj, List.take_of_length_le (by omega)] at h
  simpa using h
theorem take_eq {a b : List Bool} {j : Nat} (h : a.take j = b.take j) (ha : j < a.length) (hb : j < b.length) (e : a[j] = b[j]) : a.take (j + 1) = b.take (j + 1) := by
  rw [List.take_succ_eq_append_getElem ha, List.take_succ_eq_append_getElem hb, h, e]
end Go.Proofs.YtlfnpkjfnafeaaaDoor
/- Plain facts: truth of an expression is monotone; a pruned set is minimal. -/
namespace Go.Proofs.YtlfnpkjfnafeaaaDoor
open Go.RowKit
set_option linter.unusedVariables false
set_option linter.unusedSimpArgs false
theorem ev_mono {h h' : CL.At → Bool} (hh : ∀ a, h a = true → h' a = true) (e : CL.Ex) : ev h e = true → ev h' e = true := by
  induction e using CL.Ex.ind with
  | h k a kids ih =>
    have hL : ∀ ks : List CL.Ex, (∀ e ∈ ks, ev h e = true → ev h' e = true) → cnt h ks ≤ cnt h' ks := by
      intro ks
      induction ks with
      | nil => intro _; simp [cnt]
      | cons e ks ihk =>
        intro hk
        have h1 := hk e (by simp)
        have h2 := ihk (fun x hx => hk x (by simp [hx]))
        simp only [cnt]
        split
        · rename_i he; rw [if_pos (h1 he)]; omega
        · split <;> omega
    simp only [ev]
    split
    · exact hh a
    · intro hd
      have := hL kids ih
      simp only [decide_eq_true_eq] at hd ⊢
      omega
/-- s is within t -/
def Sub (s t : List Bool) : Prop := ∀ i : Nat, s.getD i false = true → t.getD i false = true
theorem Sub.rf (s : List Bool) : Sub s s := fun _ h => h
theorem Sub.tr {a b c : List Bool} (h : Sub a b) (k : Sub b c) : Sub a c := fun i hi => k i (h i hi)
theorem getD_set (s : List Bool) (q i : Nat) : (s.set q false).getD i false = (if q = i then false else s.getD i false) := by
  simp only [List.getD, List.getElem?_set]
  split
  · split <;> simp
  · rfl
theorem Sub.set {s t : List Bool} (h : Sub s t) (q : Nat) : Sub (s.set q false) (t.set q false) := by
  intro i hi
  rw [getD_set] at hi ⊢
  split at hi
  · exact absurd hi (by simp)
  · rename_i hq; rw [if_neg hq]; exact h i hi
theorem Sub.drop1 (s : List Bool) (q : Nat) : Sub (s.set q false) s := by
  intro i hi
  rw [getD_set] at hi
  split at hi
  · exact absurd hi (by simp)
  · exact hi
theorem hasA_sub {l : List CL.At} {s t : List Bool} (h : Sub s t) (a : CL.At) : hasA l s a = true → hasA l t a = true := by
  unfold hasA
  split
  · exact id
  · exact h _
theorem pgo_sub (f : List Bool → Bool) : ∀ (i : Nat) (r : List Bool), Sub (pgo f i r) r
  | 0, r => Sub.rf r
  | i + 1, r => by
    simp only [pgo]
    refine (pgo_sub f i _).tr ?_
    split
    · exact Sub.drop1 r i
    · exact Sub.rf r
theorem pgo_holds {f : List Bool → Bool} : ∀ (i : Nat) (r : List Bool), f r = true → f (pgo f i r) = true
  | 0, r, h => h
  | i + 1, r, h => by
    simp only [pgo]
    apply pgo_holds
    split
    · rename_i hc; exact hc.2
    · exact h
theorem pgo_min {f : List Bool → Bool} (hf : ∀ s t, Sub s t → f s = true → f t = true) : ∀ (i : Nat) (r : List Bool) (q : Nat), q < i → (pgo f i r).getD q false = true → f ((pgo f i r).set q false) = false
  | 0, r, q, h, _ => by omega
  | i + 1, r, q, h, hq => by
    simp only [pgo] at hq ⊢
    rcases Nat.lt_or_ge q i with hlt | hge
    · exact pgo_min hf i _ q hlt hq
    · obtain rfl : q = i := by omega
      by_cases hc : r.getD q false = true ∧ f (r.set q false) = true
      · rw [if_pos hc] at hq
        have := pgo_sub f q _ q hq
        rw [getD_set, if_pos rfl] at this
        exact absurd this (by simp)
      · rw [if_neg hc] at hq ⊢
        have h1 := pgo_sub f q r q hq
        cases h2 : f ((pgo f q r).set q false)
        · rfl
        · exact absurd ⟨h1, hf _ _ ((pgo_sub f q r).set q) h2⟩ hc
theorem takeOf_get (n : Nat) (set : List Bool) (i : Nat) : (takeOf n set).getD i false = (if i < n then set.getD i false else false) := by
  simp only [takeOf, List.getD, List.getElem?_map, List.getElem?_range]
  split <;> simp [*]
theorem takeOf_sub (n : Nat) (set : List Bool) : Sub (takeOf n set) set := by
  intro i hi
  rw [takeOf_get] at hi
  split at hi
  · exact hi
  · exact absurd hi (by simp)
theorem ixo_lt {l : List CL.At} {a : CL.At} {i : Nat} (h : ixo l a = some i) : i < l.length := by
  unfold ixo at h
  rw [List.findIdx?_eq_some_iff_getElem] at h
  exact h.1
theorem hasA_take (l : List CL.At) (set : List Bool) : hasA l (takeOf l.length set) = hasA l set := by
  funext a
  unfold hasA
  split
  · rfl
  · rename_i i hi
    rw [takeOf_get, if_pos (ixo_lt hi)]
theorem ev_sub (e : CL.Ex) (l : List CL.At) (s t : List Bool) (h : Sub s t) : ev (hasA l s) e = true → ev (hasA l t) e = true := ev_mono (hasA_sub h) e
theorem prn_eq {e : CL.Ex} {set : List Bool} (h : holdsE e set = true) : prn e set = pgo (fun s => ev (hasA (CL.atoms e) s) e) (CL.atoms e).length (takeOf (CL.atoms e).length set) := by
  simp only [holdsE, Bool.and_eq_true] at h
  unfold prn
  rw [if_pos h]
theorem prn_holds {e : CL.Ex} {set : List Bool} (h : holdsE e set = true) : holdsE e (prn e set) = true := by
  rw [prn_eq h]
  simp only [holdsE, Bool.and_eq_true] at h ⊢
  refine ⟨h.1, ?_⟩
  exact pgo_holds (f := fun s => ev (hasA (CL.atoms e) s) e) _ _ (by rw [hasA_take]; exact h.2)
theorem prn_min {e : CL.Ex} {set : List Bool} (h : holdsE e set = true) {i : Nat} (hi : i < (prn e set).length) (hp : (prn e set)[i] = true) :
    i < set.length ∧ set.getD i false = true ∧ holdsE e ((prn e set).set i false) = false := by
  have hg : (prn e set).getD i false = true := by simp [List.getD, hi, hp]
  have hin : i < (CL.atoms e).length := by rw [← prn_len e set]; exact hi
  rw [prn_eq h] at hg ⊢
  have h1 := ((pgo_sub _ _ _).tr (takeOf_sub _ _)) i hg
  refine ⟨?_, h1, ?_⟩
  · rcases Nat.lt_or_ge i set.length with hlt | hge
    · exact hlt
    · simp [List.getD, List.getElem?_eq_none hge] at h1
  · simp only [holdsE]
    rw [pgo_min (f := fun s => ev (hasA (CL.atoms e) s) e) (fun s t hs => ev_sub e _ s t hs) _ _ i hin hg]
    simp
end Go.Proofs.YtlfnpkjfnafeaaaDoor
/- The statements about expressions (chapter 8): the check that the package is awake, and the first walks of the laws. -/
namespace Go.Proofs.YtlfnpkjfnafeaaaDoor
open Go.RowKit
set_option linter.unusedVariables false
def atomE (s : List UInt8) : CL.Ex := .mk 0 ⟨s, ⟨3, 0⟩⟩ []
def exA : CL.Ex := .mk 2 CL.noAt [atomE [97], atomE [98], atomE [99]]
theorem exA_valid : CL.valid exA = true := by decide
theorem exA_atoms : CL.atoms exA = [⟨[97], ⟨3, 0⟩⟩, ⟨[98], ⟨3, 0⟩⟩, ⟨[99], ⟨3, 0⟩⟩] := by decide
theorem exA_prn : prn exA [true, true, true] = [true, true, false] := by decide
theorem exA_holds : holdsE exA [true, false, true] = true := by decide
theorem exA_cls : cls exA = 4 := by decide
theorem exA_hpl : hpl exA [true, true] = true := by decide
/-- an atom in mode S, as cells -/
def atcs (s : List UInt8) : List Value := [.int .i64 0, .string ⟨s.toArray⟩, .int .i64 3, .int .i64 0, .slice none 0 0]
theorem rd_atom (w : World) (B : Nat) (s : List UInt8) (hs : s.length ≤ maxLen) : Rd w B (atomE s) (atcs s) :=
  .mk 0 s 3 0 [] none 0 [] hs (by simp [maxLen]) (by simp) rfl (by simp) (fun h => absurd rfl h) (fun i h => by simp at h)
theorem rd_exA (w : World) (B g : Nat) (t : TypeId) (hg : g < B) (hb : Blk w g t (atcs [97] ++ atcs [98] ++ atcs [99]).toArray) :
    Rd w B exA [.int .i64 2, .string ⟨#[]⟩, .int .i64 0, .int .i64 0, .slice (some ⟨g, 0, none⟩) 3 3] :=
  .mk 2 [] 0 0 [atomE [97], atomE [98], atomE [99]] (some ⟨g, 0, none⟩) 3 [atcs [97], atcs [98], atcs [99]] (by simp [maxLen]) (by simp [maxLen]) (by simp) rfl (by simp [atcs])
    (fun _ => ⟨g, 0, rfl, hg, fun j u hu => by rw [Nat.zero_add, hb.cell]; simpa using hu⟩)
    (fun i h1 h2 => by
      have : i = 0 ∨ i = 1 ∨ i = 2 := by simp at h1; omega
      rcases this with rfl | rfl | rfl <;> exact rd_atom w B _ (by simp [maxLen]))
theorem sits_tft (w : World) : Sits (w.alloc (.cells #[.bool true, .bool false, .bool true] 4)) (some ⟨w.heap.size, 0, none⟩) (bls [true, false, true]) := Sits.new w (bls [true, false, true]) 4
theorem sits_tt (w : World) : Sits (w.alloc (.cells #[.bool true, .bool true] 4)) (some ⟨w.heap.size, 0, none⟩) (bls [true, true]) := Sits.new w (bls [true, true]) 4
end Go.Proofs.YtlfnpkjfnafeaaaDoor
/- The statements about expressions (chapter 8): the walk of FormulaPure. -/
namespace Go.Proofs.YtlfnpkjfnafeaaaDoor
open Go.RowKit
set_option linter.unusedVariables false
attribute [local go_sem ↓] Go.wp_at_zero Go.wp_at_succ
def lets (n : Nat) : List CL.Ex := (List.range n).map fun i => atomE [UInt8.ofNat (97 + i)]
def pureE (n k : Nat) : CL.Ex := .mk k CL.noAt (lets n)
def pureW (n k : Nat) : Int := if k = n then 2 else if k = 1 then 3 else 4
theorem pure_cls {n k : Nat} (h1 : 2 ≤ n) (h2 : n ≤ 8) (h3 : 1 ≤ k) (h4 : k ≤ n) : cls (pureE n k) = pureW n k := by
  have h : ∀ n : Fin 9, ∀ k : Fin 9, 2 ≤ n.val → 1 ≤ k.val → k.val ≤ n.val → cls (pureE n.val k.val) = pureW n.val k.val := by decide +kernel
  exact h ⟨n, by omega⟩ ⟨k, by omega⟩ h1 h3 h4
def letc (j : Nat) : List Value := (List.range j).flatMap fun i => atcs [UInt8.ofNat (97 + i)]
theorem letc_len (j : Nat) : (letc j).length = j * 5 := by rw [letc, fm_len (c := fun i => atcs [UInt8.ofNat (97 + i)]) (sz := 5) (fun _ => rfl)]; simp
theorem letc_succ (j : Nat) : letc (j + 1) = letc j ++ atcs [UInt8.ofNat (97 + j)] := by simp [letc, List.range_succ]
theorem ex_info : (Tryd.prog.info? 28).map (fun i => (i.zero, i.size, i.bytes)) = some (some (.agg #[.int .i64 0, .string ⟨#[]⟩, .int .i64 0, .int .i64 0, .slice none 0 0]), 5, 64) := by kernel_rfl
theorem ex_ne : 28 = 28 := rfl
theorem rd_pure (w : World) (n k : Nat) (A : Option Addr) (c : Nat) (hn : n ≤ 8) (hc : n ≤ c) (hs : Sits w A (letc n)) :
    Rd w w.heap.size (pureE n k) [.int .i64 (k : Int), .string ⟨#[]⟩, .int .i64 0, .int .i64 0, .slice A n c] := by
  have hl : (lets n).length = n := by simp [lets]
  have h := Rd.mk (w := w) (B := w.heap.size) (k : Int) [] 0 0 (lets n) A c ((List.range n).map fun i => atcs [UInt8.ofNat (97 + i)]) (by simp [maxLen]) (by rw [hl]; unfold maxLen; omega) (by omega) (by simp [lets])
    (by intro v hv; simp only [List.mem_map] at hv; obtain ⟨i, _, rfl⟩ := hv; rfl) (by rw [← List.flatMap_def]; exact SitsB.of hs)
    (fun i h1 h2 => by simp only [lets, List.getElem_map]; exact rd_atom w _ _ (by simp [maxLen]))
  rw [hl] at h
  exact h
theorem conv_drew (W : World) (v : Int) : (convert 80 9 (.slice (some ⟨W.heap.size, 0, none⟩) 1 1)).run Tryd.prog (W.alloc (.cells #[.int .u8 v] 5)).drew = .ok (.string ⟨#[UInt8.ofNat v.toNat]⟩) (W.alloc (.cells #[.int .u8 v] 5)).drew := by
  rw [run_convert_bytes_string _ _ _ 5 _ _ _ Tryd.underlying80 Tryd.underlying5 Tryd.underlying9, run_bytesToString _ _ _ _ [v]]
  · rfl
  · have hc : (W.alloc (.cells #[.int .u8 v] 5)).drew.cell? ⟨W.heap.size, 0, none⟩ = some (.int .u8 v) := by
      show (W.alloc (.cells #[.int .u8 v] 5)).cell? ⟨W.heap.size, 0, none⟩ = _
      rw [cell_of_row _ _ _ _ _ _ (heap_alloc_new W _)]; rfl
    simp [loadCells, go_sem, hc]
end Go.Proofs.YtlfnpkjfnafeaaaDoor
/- Catalogs: plain facts, and the walks of ValidResource, Valid, by the program and by the reference. -/
namespace CL
structure Re where
  n : List UInt8
  k : Int
  u : Int
  h : Int
deriving DecidableEq
def vres (r : Re) : Bool := vname r.n && shaped r.k r.u && decide (0 ≤ r.h ∧ r.h < 4)
def VTo (l : List Re) (j : Nat) : Prop := ∀ i, (hi : i < l.length) → i < j → vres l[i] = true ∧ ((h0 : 0 < i) → Go.Op.bytesLess (l[i - 1]'(by omega)).n l[i].n = true)
def VCat (l : List Re) : Prop := l.length ≤ 8 ∧ VTo l l.length
noncomputable instance (l : List Re) : Decidable (VCat l) := Classical.propDecidable _
noncomputable def vcat (l : List Re) : Bool := decide (VCat l)
theorem VTo.zero (l : List Re) : VTo l 0 := fun i _ h => by omega
theorem VTo.step {l : List Re} {j : Nat} (h : VTo l j) (hj : j < l.length) (h1 : vres l[j] = true) (h2 : (h0 : 0 < j) → Go.Op.bytesLess (l[j - 1]'(by omega)).n l[j].n = true) : VTo l (j + 1) := by
  intro i hi hij
  by_cases e : i = j
  · subst e; exact ⟨h1, h2⟩
  · exact h i hi (by omega)
theorem vcat_long {l : List Re} (h : 8 < l.length) : vcat l = false := decide_eq_false (fun c => by have := c.1; omega)
theorem vcat_bad {l : List Re} {j : Nat} (hj : j < l.length) (h : vres l[j] = false) : vcat l = false := decide_eq_false (fun c => by have := (c.2 j hj hj).1; rw [h] at this; cases this)
theorem vcat_ord {l : List Re} {j : Nat} (hj : j < l.length) (h0 : 0 < j) (h : Go.Op.bytesLess (l[j - 1]'(by omega)).n l[j].n = false) : vcat l = false := decide_eq_false (fun c => by have := (c.2 j hj hj).2 h0; rw [h] at this; cases this)
theorem vcat_all {l : List Re} {j : Nat} (h8 : l.length ≤ 8) (hj : l.length ≤ j) (h : VTo l j) : vcat l = true := decide_eq_true ⟨h8, fun i hi _ => h i hi (by omega)⟩
theorem vcat_get {l : List Re} (h : vcat l = true) : VCat l := of_decide_eq_true h
end CL
namespace Go.Proofs.YtlfnpkjfnafeaaaDoor
open Go.RowKit
set_option linter.unusedVariables false
def rec (r : CL.Re) : List Value := [.string ⟨r.n.toArray⟩, .int .i64 r.k, .int .i64 r.u, .int .i64 r.h]
def recs (l : List CL.Re) : List Value := l.flatMap rec
theorem recs_len (l : List CL.Re) : (recs l).length = l.length * 4 := fm_len (c := rec) (fun _ => rfl) l
theorem Sits.recs {w : World} {l : List CL.Re} {A : Option Addr} (hr : Sits w A (recs l)) {k : Nat} (h : k < l.length) : ∃ b o, A = some ⟨b, o, none⟩ ∧
    w.cell? ⟨b, o + k * 4, none⟩ = some (.string ⟨l[k].n.toArray⟩) ∧ w.cell? ⟨b, o + k * 4 + 1, none⟩ = some (.int .i64 l[k].k) ∧ w.cell? ⟨b, o + k * 4 + 2, none⟩ = some (.int .i64 l[k].u) ∧ w.cell? ⟨b, o + k * 4 + 3, none⟩ = some (.int .i64 l[k].h) :=
  let ⟨b, o, e, hc⟩ := hr.get (by rw [recs_len]; omega)
  ⟨b, o, e, hc (k * 4 + 0) _ (fm_get (c := rec) (sz := 4) (fun _ => rfl) h 0 (by omega)), hc (k * 4 + 1) _ (fm_get (c := rec) (sz := 4) (fun _ => rfl) h 1 (by omega)), hc (k * 4 + 2) _ (fm_get (c := rec) (sz := 4) (fun _ => rfl) h 2 (by omega)), hc (k * 4 + 3) _ (fm_get (c := rec) (sz := 4) (fun _ => rfl) h 3 (by omega))⟩
theorem Blk.c4r {w : World} {g : Nat} {t : TypeId} {x y z v : Value} (h : Blk w g t #[x, y, z, v]) : w.cell? ⟨g, 0, none⟩ = some x ∧ w.cell? ⟨g, 1, none⟩ = some y ∧ w.cell? ⟨g, 2, none⟩ = some z ∧ w.cell? ⟨g, 3, none⟩ = some v := ⟨h.cell 0, h.cell 1, h.cell 2, h.cell 3⟩
end Go.Proofs.YtlfnpkjfnafeaaaDoor
/- Catalogs: the walks of the reference's Valid and Find, of sort.Search with the closure of place, of place. -/
namespace Go.Proofs.YtlfnpkjfnafeaaaDoor
open Go.RowKit
set_option linter.unusedVariables false
end Go.Proofs.YtlfnpkjfnafeaaaDoor
/- Catalogs: the walks of the reference's Find and Resolve. -/
namespace CL
def fnd (l : List Re) (nm : List UInt8) : Option Re := l.find? (fun r => decide (r.n = nm))
def FTo (l : List Re) (nm : List UInt8) (j : Nat) : Prop := ∀ i, (hi : i < l.length) → i < j → l[i].n ≠ nm
theorem FTo.zero (l : List Re) (nm : List UInt8) : FTo l nm 0 := fun i _ h => by omega
theorem FTo.step {l : List Re} {nm : List UInt8} {j : Nat} (h : FTo l nm j) (hj : j < l.length) (hn : ¬ l[j].n = nm) : FTo l nm (j + 1) := by
  intro i hi hij
  by_cases e : i = j
  · subst e; exact hn
  · exact h i hi (by omega)
theorem fnd_hit {l : List Re} {nm : List UInt8} {j : Nat} (h : FTo l nm j) (hj : j < l.length) (hn : l[j].n = nm) : fnd l nm = some l[j] := by
  unfold fnd
  rw [List.find?_eq_some_iff_getElem]
  refine ⟨by simp [hn], j, hj, rfl, fun i hi => ?_⟩
  have := h i (by omega) hi
  simp [this]
theorem fnd_none {l : List Re} {nm : List UInt8} {j : Nat} (h : FTo l nm j) (hj : l.length ≤ j) : fnd l nm = none := by
  unfold fnd
  rw [List.find?_eq_none]
  intro x hx
  obtain ⟨i, hi, rfl⟩ := List.mem_iff_getElem.1 hx
  simp only [decide_eq_true_eq]
  exact h i hi (by omega)
noncomputable def cres (l : List Re) (a : At) : Int := if vcat l = true then (match fnd l a.n with | none => 10 | some r => if fits r.k r.u a.a = true then 0 else 12) else 2
end CL
namespace Go.Proofs.YtlfnpkjfnafeaaaDoor
open Go.RowKit
set_option linter.unusedVariables false
def FindPost (l : List CL.Re) (nm : List UInt8) (w : World) (r : Ending) (w' : World) : Prop :=
  (match CL.fnd l nm with
    | none => r = .returned (.tuple #[.agg #[.string ⟨#[]⟩, .int .i64 0, .int .i64 0, .int .i64 0], .bool false])
    | some x => r = .returned (.tuple #[.agg #[.string ⟨x.n.toArray⟩, .int .i64 x.k, .int .i64 x.u, .int .i64 x.h], .bool true])) ∧ Ext w w'
theorem Blk.set4 {w : World} {g : Nat} {t : TypeId} {a b c d : Value} (h : Blk w g t #[a, b, c, d]) (a' b' c' d' : Value) : Blk ((((w.setCell ⟨g, 0, none⟩ a').setCell ⟨g, 1, none⟩ b').setCell ⟨g, 2, none⟩ c').setCell ⟨g, 3, none⟩ d') g t #[a', b', c', d'] := by
  have := (((h.set 0 a').set 1 b').set 2 c').set 3 d'
  simpa using this
theorem FindPost.un_n {l : List CL.Re} {nm : List UInt8} {w w' : World} {r : Ending} (h : CL.fnd l nm = none) (hp : FindPost l nm w r w') : r = .returned (.tuple #[.agg #[.string ⟨#[]⟩, .int .i64 0, .int .i64 0, .int .i64 0], .bool false]) ∧ Ext w w' := by
  unfold FindPost at hp; rw [h] at hp; exact hp
theorem FindPost.un_s {l : List CL.Re} {nm : List UInt8} {w w' : World} {r : Ending} {x : CL.Re} (h : CL.fnd l nm = some x) (hp : FindPost l nm w r w') : r = .returned (.tuple #[.agg #[.string ⟨x.n.toArray⟩, .int .i64 x.k, .int .i64 x.u, .int .i64 x.h], .bool true]) ∧ Ext w w' := by
  unfold FindPost at hp; rw [h] at hp; exact hp
end Go.Proofs.YtlfnpkjfnafeaaaDoor
/- Catalogs: the walks of sort.Search with the closure of place, of place, of catalog.Resolve. -/
namespace CL
open Go.Op (bytesLess)
theorem bl_irr : ∀ a : List UInt8, bytesLess a a = false
  | [] => rfl
  | a :: x => by simp [bytesLess, bl_irr x]
theorem bl_tr : ∀ {a b c : List UInt8}, bytesLess a b = true → bytesLess b c = true → bytesLess a c = true
  | _, [], _, h, _ => by simp [bytesLess] at h
  | _, _ :: _, [], _, h => by simp [bytesLess] at h
  | [], _ :: _, _ :: _, _, _ => by simp [bytesLess]
  | a :: x, b :: y, c :: z, h1, h2 => by
    simp only [bytesLess, Bool.or_eq_true, decide_eq_true_eq, Bool.and_eq_true, beq_iff_eq] at h1 h2 ⊢
    rcases h1 with h1 | ⟨rfl, h1⟩
    · rcases h2 with h2 | ⟨rfl, h2⟩
      · exact .inl (UInt8.lt_trans h1 h2)
      · exact .inl h1
    · rcases h2 with h2 | ⟨rfl, h2⟩
      · exact .inl h2
      · exact .inr ⟨rfl, bl_tr h1 h2⟩
theorem VCat.lt {l : List Re} (h : VCat l) {i j : Nat} (hij : i < j) (hj : j < l.length) : bytesLess (l[i]'(by omega)).n l[j].n = true := by
  induction j with
  | zero => omega
  | succ j ih =>
    have h1 := (h.2 (j + 1) hj hj).2 (by omega)
    simp only [Nat.add_sub_cancel] at h1
    rcases Nat.lt_or_ge i j with hlt | hge
    · exact bl_tr (ih hlt (by omega)) h1
    · obtain rfl : i = j := by omega
      exact h1
/-- below a are the names less than nm, from b on those that are not -/
def Spl (l : List Re) (nm : List UInt8) (a b : Nat) : Prop := (∀ k, (hk : k < l.length) → k < a → bytesLess l[k].n nm = true) ∧ (∀ k, (hk : k < l.length) → b ≤ k → bytesLess l[k].n nm = false)
theorem Spl.zero (l : List Re) (nm : List UInt8) : Spl l nm 0 l.length := ⟨fun _ _ h => by omega, fun _ _ h => by omega⟩
theorem Spl.left {l : List Re} {nm : List UInt8} {a b h : Nat} (hs : Spl l nm a b) (hv : VCat l) (hh : h < l.length) (hb : bytesLess l[h].n nm = true) : Spl l nm (h + 1) b := by
  refine ⟨fun k hk hkh => ?_, hs.2⟩
  rcases Nat.lt_or_ge k h with hlt | hge
  · exact bl_tr (hv.lt hlt hh) hb
  · obtain rfl : k = h := by omega
    exact hb
theorem Spl.right {l : List Re} {nm : List UInt8} {a b h : Nat} (hs : Spl l nm a b) (hv : VCat l) (hh : h < l.length) (hb : bytesLess l[h].n nm = false) : Spl l nm a h := by
  refine ⟨hs.1, fun k hk hkh => ?_⟩
  rcases Nat.lt_or_ge h k with hlt | hge
  · cases hc : bytesLess l[k].n nm
    · rfl
    · rw [bl_tr (hv.lt hlt hk) hc] at hb; cases hb
  · obtain rfl : k = h := by omega
    exact hb
theorem Spl.found {l : List Re} {nm : List UInt8} {a : Nat} (hs : Spl l nm a a) (ha : a < l.length) (hn : l[a].n = nm) : fnd l nm = some l[a] :=
  fnd_hit (fun i hi hia e => by have := hs.1 i hi hia; rw [e, bl_irr] at this; cases this) ha hn
theorem Spl.lost {l : List Re} {nm : List UInt8} {a : Nat} (hs : Spl l nm a a) (hv : VCat l) (hn : (ha : a < l.length) → l[a].n ≠ nm) : fnd l nm = none :=
  fnd_none (j := l.length) (fun i hi _ e => by
    rcases Nat.lt_or_ge i a with hlt | hge
    · have := hs.1 i hi hlt; rw [e, bl_irr] at this; cases this
    · rcases Nat.lt_or_ge a i with hlt2 | hge2
      · have h1 := hs.2 a (by omega) (Nat.le_refl _)
        have h2 := hv.lt hlt2 hi
        rw [e] at h2
        rw [h2] at h1; cases h1
      · obtain rfl : i = a := by omega
        exact hn hi e) (Nat.le_refl _)
theorem cres_none {l : List Re} {a : At} (hv : vcat l = true) (h : fnd l a.n = none) : cres l a = 10 := by simp [cres, hv, h]
theorem cres_some {l : List Re} {a : At} {x : Re} (hv : vcat l = true) (h : fnd l a.n = some x) : cres l a = if fits x.k x.u a.a = true then 0 else 12 := by simp [cres, hv, h]
end CL
namespace Go.Proofs.YtlfnpkjfnafeaaaDoor
open Go.RowKit
set_option linter.unusedVariables false
theorem two_rowsC (w : World) (c1 : Array Value) (t1 : TypeId) (c2 : Array Value) (t2 : TypeId) : Blk ((w.alloc (.cells c1 t1)).alloc (.cells c2 t2)) w.heap.size t1 c1 ∧ Blk ((w.alloc (.cells c1 t1)).alloc (.cells c2 t2)) (w.heap.size + 1) t2 c2 :=
  ⟨(Blk.new _ _ _).alloc _, by have h := Blk.new (w.alloc (.cells c1 t1)) t2 c2; rw [World.size_alloc] at h; exact h⟩
/-- what place gives back for a valid catalog -/
def PlacePost (l : List CL.Re) (nm : List UInt8) (w : World) (r : Ending) (w' : World) : Prop :=
  (∃ a : Nat, a ≤ l.length ∧ ((∃ ha : a < l.length, CL.fnd l nm = some l[a] ∧ r = .returned (.tuple #[.int .i64 (a : Int), .bool true])) ∨ (CL.fnd l nm = none ∧ r = .returned (.tuple #[.int .i64 (a : Int), .bool false])))) ∧ Ext w w'
end Go.Proofs.YtlfnpkjfnafeaaaDoor
/- The statements about expressions (chapter 8): the walks of Resolve and of FormulaResolves. -/
namespace Go.Proofs.YtlfnpkjfnafeaaaDoor
open Go.RowKit
set_option linter.unusedVariables false
noncomputable def frs (l : List CL.Re) : List CL.At → Int
  | [] => 0
  | a :: r => if CL.cres l a = 0 then frs l r else CL.cres l a
noncomputable def fres (l : List CL.Re) (e : CL.Ex) : Int := if CL.valid e = true then frs l (CL.atoms e) else 1
theorem frs_ok {l : List CL.Re} {L : List CL.At} {j : Nat} (hj : j < L.length) (h : CL.cres l L[j] = 0) : frs l (L.drop j) = frs l (L.drop (j + 1)) := by
  rw [List.drop_eq_getElem_cons hj]; simp only [frs]; rw [if_pos h]
theorem frs_bad {l : List CL.Re} {L : List CL.At} {j : Nat} (hj : j < L.length) (h : ¬ CL.cres l L[j] = 0) : frs l (L.drop j) = CL.cres l L[j] := by
  rw [List.drop_eq_getElem_cons hj]; simp only [frs]; rw [if_neg h]
theorem frs_end {l : List CL.Re} {L : List CL.At} {j : Nat} (hj : L.length ≤ j) : frs l (L.drop j) = 0 := by
  rw [List.drop_eq_nil_of_le hj]; rfl
end Go.Proofs.YtlfnpkjfnafeaaaDoor
