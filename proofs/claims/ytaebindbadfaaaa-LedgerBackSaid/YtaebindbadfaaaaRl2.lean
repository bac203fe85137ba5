
/- The law of Rl: soundness. -/
import Derived.Test.YtaebindbadfaaaaRl
import Derived.Still
namespace Go.Proofs.Ytaebindbadfaaaa
open Go.RowKit
namespace Rl
/-- what is said of one operation: the value of its slot, what is known of the outcome, which other outcomes these two look at, whose facts it reads, what it takes over -/
structure Kind where
  val : (Nat → Value) → Value
  G : (Nat → Value) → (Nat → Prop) → World → Prop
  ds : List Nat
  us : List Nat
  es : List Nat
  old : Bool
def upd (xs : Nat → Value) (k : Nat) (v : Value) : Nat → Value := fun i => if i = k then v else xs i
def updS (Ss : Nat → Nat → Prop) (k : Nat) (S : Nat → Prop) : Nat → Nat → Prop := fun i => if i = k then S else Ss i
def Kind.loc (K : Kind) (k : Nat) : Prop := ∀ xs ys, (∀ j ∈ k :: K.ds, xs j = ys j) → K.val xs = K.val ys ∧ ∀ S w, K.G xs S w → K.G ys S w
def Kind.stab (K : Kind) (O : Nat → Prop) : Prop := ∀ xs S w w', (∀ g, O g → g < w.heap.size) → K.G xs S w → (∀ g, S g → g < w.heap.size) → Kp O S w w' → K.G xs S w'
/-- the blocks that nothing writes -/
def oldO (w0 : World) (I : Nat → Prop) : Nat → Prop := fun g => g < w0.heap.size ∧ ¬ I g
/-- k waits for i -/
def awaits (ops : Array Oper) : Nat → Nat → Nat → Bool
  | 0, _, _ => false
  | f + 1, k, i => match ops[k]? with
    | some o => o.after.any (fun e => Region.binds .any e && e.on == i) || o.after.any (fun e => Region.binds .any e && awaits ops f e.on i)
    | none => false
theorem awaits_listed {ops : Array Oper} {L : Nat → Bool} (hcl : ∀ k o, L k = true → ops[k]? = some o → ∀ e ∈ o.after, Region.binds .any e = true → L e.on = true) : ∀ {f k i : Nat} {o : Oper}, ops[k]? = some o →
    (∀ e ∈ o.after, Region.binds .any e = true → L e.on = true) → awaits ops f k i = true → L i = true
  | 0, _, _, _, _, _, h => by simp [awaits] at h
  | f + 1, k, i, o, ho, hk, h => by
    simp only [awaits, ho, Bool.or_eq_true, Array.any_eq_true'] at h
    rcases h with ⟨e, he, hb⟩ | ⟨e, he, hb⟩
    · simp only [Bool.and_eq_true, beq_iff_eq] at hb
      rw [← hb.2]; exact hk e he hb.1
    · simp only [Bool.and_eq_true] at hb
      cases h2 : ops[e.on]? with
      | none => cases f with
        | zero => simp [awaits] at hb
        | succ f => simp [awaits, h2] at hb
      | some o' => exact awaits_listed hcl h2 (fun e' he' hb' => hcl e.on o' (hk e he hb.1) h2 e' he' hb') hb.2
/-- what the outcome of operation k must be like -/
def Out (I : Nat → Prop) (K : Kind) (k : Nat) (o : Oper) (xs : Nat → Value) (Ss : Nat → Nat → Prop) (w : World) : Value → World → Prop := fun v w' =>
  ∃ x S, (o.dst = none ∨ v = K.val (upd xs k x)) ∧ K.G (upd xs k x) S w' ∧ Chg (fun g => (∃ i ∈ K.es, Ss i g) ∨ (K.old = true ∧ I g)) w w' ∧ ∀ g, S g → ((∃ i ∈ K.es, Ss i g) ∨ (K.old = true ∧ I g)) ∨ (w.heap.size ≤ g ∧ g < w'.heap.size)
def stepOK (P : Program) (ops : Array Oper) (I : Nat → Prop) (sp : Nat → Kind) (w0 : World) (k : Nat) (o : Oper) (A : (Nat → Value) → Act) : Prop :=
  ∀ xs Ss w, Chg I w0 w → ((sp k).old = true → Ext w0 w) → (∀ i ∈ (sp k).us ++ (sp k).es, (sp i).G xs (Ss i) w ∧ ∀ g, Ss i g → (w0.heap.size ≤ g ∨ I g) ∧ g < w.heap.size) →
    (∀ i ∈ (sp k).us ++ (sp k).es, ∀ j ∈ (sp k).us ++ (sp k).es, i ≠ j → ∀ g, Ss i g → ¬ Ss j g) →
    if Region.wanted o (yielded ops (A xs).tmps) = true then outAt P o (A xs) w (Out I (sp k) k o xs Ss w) else Out I (sp k) k o xs Ss w undef w
structure Static (ops : Array Oper) (I : Nat → Prop) (sp : Nat → Kind) (w0 : World) : Prop where
  nosel : ∀ (j : Nat) (o : Oper) cs b, ops[j]? = some o → o.op ≠ .select cs b
  ready : ∀ k o, ops[k]? = some o → ∀ e ∈ o.after, Region.binds .any e = true → e.on < k
  ap : ∀ i j oi oj, i < j → ops[i]? = some oi → ops[j]? = some oj → (∀ e ∈ oj.after, Region.binds .any e = true → e.on ≠ i) → oi.apart ops oj = true
  dst : ∀ i j, i < ops.size → j < ops.size → i ≠ j → ∀ d, (ops[i]?).bind (·.dst) = some d → (ops[j]?).bind (·.dst) ≠ some d
  loc : ∀ k, k < ops.size → (sp k).loc k
  stab : ∀ k, k < ops.size → (sp k).stab (oldO w0 I)
  aw : ∀ k, k < ops.size → ∀ i ∈ (sp k).ds ++ ((sp k).us ++ (sp k).es), awaits ops 3 k i = true
  eat : ∀ j m i, j < ops.size → m < ops.size → i ∈ (sp j).es → m ≠ j → i ∉ (sp m).es ∧ (i ∈ (sp m).us → awaits ops 3 j m = true)
  one : ∀ j m, j < ops.size → m < ops.size → (sp j).old = true → (sp m).old = true → j = m
  I : ∀ g, I g → g < w0.heap.size
def live (sp : Nat → Kind) (n : Nat) (L : Nat → Bool) (i : Nat) : Prop := L i = true ∧ ∀ j, j < n → L j = true → i ∉ (sp j).es
structure Inv (ops : Array Oper) (I : Nat → Prop) (sp : Nat → Kind) (w0 : World) (a0 : Act) (L : Nat → Bool) (a : Act) (w : World) (xs : Nat → Value) (Ss : Nat → Nat → Prop) : Prop where
  frame : a = fr (fun i => (ops[i]?).bind (·.dst)) (List.range ops.size) L (fun i => (sp i).val xs) a0
  ext : Chg I w0 w
  young : (∀ j, j < ops.size → L j = true → (sp j).old = false) → Ext w0 w
  closed : ∀ k o, L k = true → ops[k]? = some o → ∀ e ∈ o.after, Region.binds .any e = true → L e.on = true
  lt : ∀ i, L i = true → i < ops.size
  G : ∀ i, live sp ops.size L i → (sp i).G xs (Ss i) w
  bd : ∀ i, live sp ops.size L i → ∀ g, Ss i g → (w0.heap.size ≤ g ∨ (I g ∧ ∃ j, j < ops.size ∧ L j = true ∧ (sp j).old = true)) ∧ g < w.heap.size
  dis : ∀ i j, live sp ops.size L i → live sp ops.size L j → i ≠ j → ∀ g, Ss i g → ¬ Ss j g
theorem loc_upd {K : Kind} {i k : Nat} (h : K.loc i) (hik : i ≠ k) (hd : k ∉ K.ds) (xs : Nat → Value) (x : Value) : K.val (upd xs k x) = K.val xs ∧ ∀ S w, K.G xs S w → K.G (upd xs k x) S w := by
  have e : ∀ j ∈ i :: K.ds, xs j = upd xs k x j := fun j hj => by
    have : j ≠ k := by
      rintro rfl
      rcases List.mem_cons.1 hj with h1 | h1
      · exact hik h1.symm
      · exact hd h1
    simp [upd, this]
  exact ⟨(h _ _ e).1.symm, (h _ _ e).2⟩
/-- one operation more -/
theorem Inv.step {ops : Array Oper} {I : Nat → Prop} {sp : Nat → Kind} {w0 : World} {a0 : Act} {L : Nat → Bool} {a : Act} {w : World} {xs : Nat → Value} {Ss : Nat → Nat → Prop} (hs : Static ops I sp w0) (hI : Inv ops I sp w0 a0 L a w xs Ss)
    {k : Nat} {o : Oper} (ho : ops[k]? = some o) (hk : L k = false) (hr : ∀ e ∈ o.after, Region.binds .any e = true → L e.on = true) {v : Value} {w' : World} (hv : Out I (sp k) k o xs Ss w v w') :
    ∃ xs' Ss', Inv ops I sp w0 a0 (fun i => L i || i == k) (a.put o.dst v) w' xs' Ss' := by
  obtain ⟨x, S, hv, hG, hC, hS⟩ := hv
  have hkn : k < ops.size := (Array.getElem?_eq_some_iff.1 ho).1
  have hw0 : w0.heap.size ≤ w.heap.size := hI.ext.size
  have hmem : ∀ i ∈ (sp k).ds ++ ((sp k).us ++ (sp k).es), L i = true := fun i hi => awaits_listed hI.closed ho hr (hs.aw k hkn i hi)
  have hes : ∀ i ∈ (sp k).es, live sp ops.size L i := fun i hi => ⟨hmem i (by simp [hi]), fun j hj hlj hij => by
    have : k ≠ j := fun e => by rw [← e, hk] at hlj; cases hlj
    exact (hs.eat j k i hj hkn hij this).1 hi⟩
  have hno : (sp k).old = true → ∀ j, j < ops.size → L j = true → (sp j).old = false := fun ho j hj hl => by
    cases h : (sp j).old
    · rfl
    · have := hs.one j k hj hkn h ho
      rw [this, hk] at hl; cases hl
  have hnk : ∀ i, L i = true → i ≠ k := fun i hi e => by rw [e, hk] at hi; cases hi
  have hdk : ∀ i, L i = true → k ∉ (sp i).ds := fun i hi hd => by
    obtain ⟨oi, hoi⟩ : ∃ oi, ops[i]? = some oi := ⟨_, Array.getElem?_eq_getElem (hI.lt i hi)⟩
    have := awaits_listed hI.closed hoi (fun e he hb => hI.closed i oi hi hoi e he hb) (hs.aw i (hI.lt i hi) k (by simp [hd]))
    rw [hk] at this; cases this
  have hlv : ∀ i, live sp ops.size (fun i => L i || i == k) i → i = k ∨ (live sp ops.size L i ∧ i ∉ (sp k).es) := fun i hi => by
    obtain ⟨h1, h2⟩ := hi
    simp only [Bool.or_eq_true, beq_iff_eq] at h1
    rcases h1 with h1 | h1
    · exact .inr ⟨⟨h1, fun j hj hlj => h2 j hj (by simp [hlj])⟩, h2 k hkn (by simp)⟩
    · exact .inl h1
  have hkp : ∀ i, live sp ops.size L i → i ∉ (sp k).es → Kp (oldO w0 I) (Ss i) w w' := fun i hi hn => ⟨hC.os, hC.tape, hC.output, hC.size, fun g hg hB => hC.block g hg (by
    rintro (⟨j, hj, hjg⟩ | ⟨ho, hIg⟩)
    · rcases hB with hB | hB
      · rcases (hI.bd j (hes j hj) g hjg).1 with h | h
        · have := hB.1; omega
        · exact hB.2 h.1
      · exact hI.dis i j hi (hes j hj) (fun e => hn (e ▸ hj)) g hB hjg
    · rcases hB with hB | hB
      · exact hB.2 hIg
      · rcases (hI.bd i hi g hB).1 with h | ⟨_, j, hj, hl, h⟩
        · have := hs.I g hIg; omega
        · rw [hno ho j hj hl] at h; cases h)⟩
  have hSb : ∀ g, S g → (w0.heap.size ≤ g ∨ (I g ∧ ∃ j, j < ops.size ∧ (L j || j == k) = true ∧ (sp j).old = true)) ∧ g < w'.heap.size := fun g hg => by
    have := hC.size
    rcases hS g hg with (⟨i, hi, hig⟩ | ⟨ho, hIg⟩) | ⟨h1, h2⟩
    · obtain ⟨h1, h2⟩ := hI.bd i (hes i hi) g hig
      refine ⟨h1.imp id (fun ⟨a, j, b, c, d⟩ => ⟨a, j, b, by simp [c], d⟩), by omega⟩
    · exact ⟨.inr ⟨hIg, k, hkn, by simp, ho⟩, by have := hs.I g hIg; omega⟩
    · exact ⟨.inl (by omega), h2⟩
  have hSd : ∀ i, live sp ops.size L i → i ∉ (sp k).es → ∀ g, Ss i g → ¬ S g := fun i hi hn g hg hSg => by
    rcases hS g hSg with (⟨j, hj, hjg⟩ | ⟨ho, hIg⟩) | ⟨h1, _⟩
    · exact hI.dis i j hi (hes j hj) (fun e => hn (e ▸ hj)) g hg hjg
    · rcases (hI.bd i hi g hg).1 with h | ⟨_, j, hj, hl, h⟩
      · have := hs.I g hIg; omega
      · rw [hno ho j hj hl] at h; cases h
    · have := (hI.bd i hi g hg).2; omega
  refine ⟨upd xs k x, updS Ss k S, ?_, ?_, ?_, ?_, ?_, ?_, ?_, ?_⟩
  · have hf := fr_set (D := fun i => (ops[i]?).bind (·.dst)) (L := L) (f := fun i => (sp i).val xs) (f' := fun i => (sp i).val (upd xs k x)) (k := k) (l := List.range ops.size) (a := a0) (by simp [hkn]) List.nodup_range hk
      (fun i hi hl => (loc_upd (hs.loc i (hI.lt i hl)) (hnk i hl) (hdk i hl) xs x).1) (fun i hi hne d hd => hs.dst k i hkn (by simpa using hi) (Ne.symm hne) d hd)
    rw [hf, ← hI.frame]
    simp only [ho, Option.bind_some]
    rcases hv with hv | hv
    · rw [hv]; rfl
    · rw [hv]
  · have h := hI.ext
    refine ⟨hC.os.trans h.os, hC.tape.trans h.tape, hC.output.trans h.output, Nat.le_trans h.size hC.size, fun g hg hn => (hC.block g (by omega) ?_).trans (h.block g hg hn)⟩
    rintro (⟨j, hj, hjg⟩ | ⟨ho, hIg⟩)
    · rcases (hI.bd j (hes j hj) g hjg).1 with h | h
      · omega
      · exact hn h.1
    · exact hn hIg
  · intro hyo
    have h := hI.young (fun j hj hl => hyo j hj (by simp [hl]))
    have hk0 : (sp k).old = false := hyo k hkn (by simp)
    refine ⟨hC.os.trans h.os, hC.tape.trans h.tape, hC.output.trans h.output, Nat.le_trans h.size hC.size, fun g hg => (hC.block g (by omega) ?_).trans (h.block g hg)⟩
    rintro (⟨j, hj, hjg⟩ | ⟨ho, hIg⟩)
    · rcases (hI.bd j (hes j hj) g hjg).1 with h | ⟨_, m, hm, hl, h⟩
      · omega
      · rw [hyo m hm (by simp [hl])] at h; cases h
    · rw [hk0] at ho; cases ho
  · intro i oi hi hoi e he hb
    simp only [Bool.or_eq_true, beq_iff_eq] at hi ⊢
    rcases hi with hi | hi
    · exact .inl (hI.closed i oi hi hoi e he hb)
    · subst hi; rw [ho] at hoi; cases hoi; exact .inl (hr e he hb)
  · intro i hi
    simp only [Bool.or_eq_true, beq_iff_eq] at hi
    rcases hi with hi | hi
    · exact hI.lt i hi
    · rw [hi]; exact hkn
  · intro i hi
    rcases hlv i hi with rfl | ⟨hl, hn⟩
    · simpa [updS] using hG
    · have hne := hnk i hl.1
      simp only [updS, if_neg hne]
      exact hs.stab i (hI.lt i hl.1) _ _ _ _ (fun g hg => by have := hg.1; omega) ((loc_upd (hs.loc i (hI.lt i hl.1)) hne (hdk i hl.1) xs x).2 _ _ (hI.G i hl)) (fun g hg => (hI.bd i hl g hg).2) (hkp i hl hn)
  · intro i hi g hg
    rcases hlv i hi with rfl | ⟨hl, hn⟩
    · exact hSb g (by simpa [updS] using hg)
    · simp only [updS, if_neg (hnk i hl.1)] at hg
      obtain ⟨h1, h2⟩ := hI.bd i hl g hg
      have := hC.size
      exact ⟨h1.imp id (fun ⟨a, j, b, c, d⟩ => ⟨a, j, b, by simp [c], d⟩), by omega⟩
  · intro i j hi hj hij g hgi hgj
    rcases hlv i hi with e1 | ⟨hl, hn⟩ <;> rcases hlv j hj with e2 | ⟨hl2, hn2⟩
    · exact hij (e1.trans e2.symm)
    · simp only [updS, if_pos e1, if_neg (hnk j hl2.1)] at hgi hgj
      exact hSd j hl2 hn2 g hgj hgi
    · simp only [updS, if_pos e2, if_neg (hnk i hl.1)] at hgi hgj
      exact hSd i hl hn g hgi hgj
    · simp only [updS, if_neg (hnk i hl.1), if_neg (hnk j hl2.1)] at hgi hgj
      exact hI.dis i j hl hl2 hij g hgi hgj
def FinOK (ops : Array Oper) (I : Nat → Prop) (sp : Nat → Kind) (w0 : World) (xs : Nat → Value) (Ss : Nat → Nat → Prop) (w : World) : Prop :=
  (∀ i, i < ops.size → (∀ j, j < ops.size → i ∉ (sp j).es) → (sp i).G xs (Ss i) w ∧ ∀ g, Ss i g → (w0.heap.size ≤ g ∨ I g) ∧ g < w.heap.size) ∧
  ∀ i j, i < ops.size → j < ops.size → (∀ m, m < ops.size → i ∉ (sp m).es) → (∀ m, m < ops.size → j ∉ (sp m).es) → i ≠ j → ∀ g, Ss i g → ¬ Ss j g
def lexF (ops : Array Oper) (sp : Nat → Kind) (a0 : Act) (k : Nat) (xs : Nat → Value) : Act := fr (fun i => (ops[i]?).bind (·.dst)) (List.range k) (fun _ => true) (fun i => (sp i).val xs) a0
theorem fr_lt {D : Nat → Option Tmp} {f : Nat → Value} {a : Act} {k : Nat} : ∀ {n : Nat}, k ≤ n → fr D (List.range n) (fun i => decide (i < k)) f a = fr D (List.range k) (fun _ => true) f a
  | 0, h => by obtain rfl : k = 0 := by omega
               rfl
  | n + 1, h => by
    by_cases hk : k = n + 1
    · subst hk
      exact fr_congr (fun i hi => by simpa using hi) (fun _ _ _ => rfl)
    · have ih := fr_lt (D := D) (f := f) (a := a) (k := k) (n := n) (by omega)
      have hd : decide (n < k) = false := decide_eq_false (by omega)
      rw [← ih]
      simp only [fr, List.range_succ, List.foldl_append, List.foldl_cons, List.foldl_nil, hd, Bool.false_eq_true, if_false]
theorem filter_lt {p q : Nat → Bool} {k : Nat} : ∀ {l : List Nat}, (∀ i ∈ l, q i = true → p i = true) → k ∈ l → p k = true → q k = false → (l.filter q).length < (l.filter p).length
  | [], _, h, _, _ => by simp at h
  | i :: l, h1, hk, hp, hq => by
    have hle : (l.filter q).length ≤ (l.filter p).length := by
      clear hk
      induction l with
      | nil => simp
      | cons j l ih =>
        have := ih (fun x hx => h1 x (by rcases List.mem_cons.1 hx with h | h <;> simp [h]))
        have hj := h1 j (by simp)
        cases e1 : q j
        · simp only [List.filter_cons, e1, Bool.false_eq_true, if_false]
          split <;> simp <;> omega
        · simp only [List.filter_cons, e1, hj e1, if_true, List.length_cons]; omega
    by_cases hik : i = k
    · subst hik
      simp only [List.filter_cons, hp, hq, if_true, Bool.false_eq_true, if_false, List.length_cons]; omega
    · have ih := filter_lt (p := p) (q := q) (k := k) (l := l) (fun x hx => h1 x (by simp [hx])) (by simpa [Ne.symm hik] using hk) hp hq
      have hi := h1 i (by simp)
      cases e1 : q i
      · simp only [List.filter_cons, e1, Bool.false_eq_true, if_false]
        split <;> simp <;> omega
      · simp only [List.filter_cons, e1, hi e1, if_true, List.length_cons]; omega
theorem any {P : Program} {ops : Array Oper} {I : Nat → Prop} {sp : Nat → Kind} {w0 : World} {a0 : Act} {Q : Exit → Act → World → Prop} (hs : Static ops I sp w0)
    (hstep : ∀ k o, ops[k]? = some o → stepOK P ops I sp w0 k o (lexF ops sp a0 k)) (hfin : ∀ xs Ss w, Chg I w0 w → FinOK ops I sp w0 xs Ss w → Q .normal (lexF ops sp a0 ops.size xs) w) :
    ∀ (fuel : Nat) (listed : Array Bool) (a : Act) (w : World) (xs : Nat → Value) (Ss : Nat → Nat → Prop), listed.size = ops.size → ((List.range ops.size).filter (fun i => !listed.getD i false)).length ≤ fuel → Inv ops I sp w0 a0 (fun i => listed.getD i false) a w xs Ss → wpAny P .any ops Q fuel listed a w := by
  intro fuel
  induction fuel with
  | zero =>
    intro listed a w xs Ss hsz hc hI
    have hall : ∀ k, k < ops.size → listed.getD k false = true := fun k hk => by
      have h0 : (List.range ops.size).filter (fun i => !listed.getD i false) = [] := List.eq_nil_of_length_eq_zero (by omega)
      have := List.filter_eq_nil_iff.1 h0 k (by simpa using hk)
      simpa using this
    refine ⟨?_, ?_⟩
    · rw [List.eq_nil_iff_forall_not_mem]
      intro i hi
      obtain ⟨h1, o, ho, _⟩ := mem_ready.1 hi
      have hin := (Array.getElem?_eq_some_iff.1 ho).1
      have h2 := hall i hin
      simp only [Array.getD_eq_getD_getElem?, Array.getElem?_eq_getElem (show i < listed.size by omega), Option.getD_some] at h1 h2
      rw [h1] at h2; cases h2
    · have hf : a = lexF ops sp a0 ops.size xs := by
        rw [hI.frame]
        exact fr_congr (fun i hi => hall i (by simpa using hi)) (fun _ _ _ => rfl)
      rw [hf]
      exact hfin xs Ss w hI.ext ⟨fun i hi hn => ⟨hI.G i ⟨hall i hi, fun j hj _ => hn j hj⟩, fun g hg => ⟨(hI.bd i ⟨hall i hi, fun j hj _ => hn j hj⟩ g hg).1.imp id (·.1), (hI.bd i ⟨hall i hi, fun j hj _ => hn j hj⟩ g hg).2⟩⟩, fun i j hi hj h1 h2 => hI.dis i j ⟨hall i hi, fun m hm _ => h1 m hm⟩ ⟨hall j hj, fun m hm _ => h2 m hm⟩⟩
  | succ fuel ih =>
    intro listed a w xs Ss hsz hc hI
    have hgd : ∀ i, i < ops.size → listed.getD i true = listed.getD i false := fun i hi => by
      simp only [Array.getD_eq_getD_getElem?, Array.getElem?_eq_getElem (show i < listed.size by omega), Option.getD_some]
    refine ⟨fun hnil => ?_, fun k hk => ?_⟩
    · have hall : ∀ k, k < ops.size → listed.getD k false = true := by
        intro k
        induction k using Nat.strongRecOn with
        | ind k ihk =>
          intro hk
          cases hL : listed.getD k false
          · have : k ∈ Region.ready .any ops listed := mem_ready.2 ⟨by rw [hgd k hk]; exact hL, _, Array.getElem?_eq_getElem hk, fun e he hb => by
              have := hs.ready k _ (Array.getElem?_eq_getElem hk) e he hb
              exact ihk e.on this (by omega)⟩
            rw [hnil] at this; cases this
          · rfl
      have hf : a = lexF ops sp a0 ops.size xs := by
        rw [hI.frame]
        exact fr_congr (fun i hi => hall i (by simpa using hi)) (fun _ _ _ => rfl)
      rw [hf]
      exact hfin xs Ss w hI.ext ⟨fun i hi hn => ⟨hI.G i ⟨hall i hi, fun j hj _ => hn j hj⟩, fun g hg => ⟨(hI.bd i ⟨hall i hi, fun j hj _ => hn j hj⟩ g hg).1.imp id (·.1), (hI.bd i ⟨hall i hi, fun j hj _ => hn j hj⟩ g hg).2⟩⟩, fun i j hi hj h1 h2 => hI.dis i j ⟨hall i hi, fun m hm _ => h1 m hm⟩ ⟨hall j hj, fun m hm _ => h2 m hm⟩⟩
    · obtain ⟨h1, o, ho, hr⟩ := mem_ready.1 hk
      have hkn := (Array.getElem?_eq_some_iff.1 ho).1
      have hkL : listed.getD k false = false := by rw [← hgd k hkn]; exact h1
      have hmem : ∀ i ∈ (sp k).ds ++ ((sp k).us ++ (sp k).es), listed.getD i false = true := fun i hi => awaits_listed hI.closed ho hr (hs.aw k hkn i hi)
      have hlive : ∀ i ∈ (sp k).us ++ (sp k).es, live sp ops.size (fun i => listed.getD i false) i := fun i hi => ⟨hmem i (List.mem_append_right _ hi), fun j hj hlj hij => by
        have : k ≠ j := fun e => by simp only at hlj; rw [← e, hkL] at hlj; cases hlj
        obtain ⟨q1, q2⟩ := hs.eat j k i hj hkn hij this
        rcases List.mem_append.1 hi with hi | hi
        · obtain ⟨oj, hoj⟩ : ∃ oj, ops[j]? = some oj := ⟨_, Array.getElem?_eq_getElem hj⟩
          have hk2 := awaits_listed hI.closed hoj (fun e he hb => hI.closed j oj hlj hoj e he hb) (q2 hi)
          rw [hkL] at hk2; cases hk2
        · exact q1 hi⟩
      have hst := hstep k o ho xs Ss w hI.ext (fun hko => hI.young (fun j hj hl => by
          cases h : (sp j).old
          · rfl
          · have := hs.one j k hj hkn h hko
            rw [this, hkL] at hl; cases hl)) (fun i hi => ⟨hI.G i (hlive i hi), fun g hg => ⟨(hI.bd i (hlive i hi) g hg).1.imp id (·.1), (hI.bd i (hlive i hi) g hg).2⟩⟩) (fun i hi j hj hij => hI.dis i j (hlive i hi) (hlive j hj) hij)
      have hagr : Agr (· ∈ o.looksAt ops) a (lexF ops sp a0 k xs) := by
        unfold lexF
        rw [hI.frame, ← fr_lt (k := k) (n := ops.size) (by omega)]
        refine Agr.fr (fun i hi hT => ?_) ⟨rfl, fun _ _ => rfl⟩
        obtain ⟨d, hd, hdT⟩ := hT
        have hin : i < ops.size := by simpa using hi
        have hoi : ops[i]? = some ops[i] := Array.getElem?_eq_getElem hin
        rw [hoi] at hd
        simp only [Option.bind_some] at hd
        rcases Nat.lt_trichotomy i k with hlt | heq | hgt
        · rw [decide_eq_true hlt]
          by_cases hw : ∃ e ∈ o.after, Region.binds .any e = true ∧ e.on = i
          · obtain ⟨e, he, hb, rfl⟩ := hw
            exact hr e he hb
          · have := (Oper.apart_spec (hs.ap i k _ o hlt hoi ho (fun e he hb hh => hw ⟨e, he, hb, hh⟩))).1 d hd
            exact absurd hdT this
        · rw [heq, hkL]; simp
        · rw [decide_eq_false (by omega)]
          by_cases hw : ∃ e ∈ (ops[i]).after, Region.binds .any e = true ∧ e.on = k
          · obtain ⟨e, he, hb, rfl⟩ := hw
            cases hL : listed.getD i false
            · rfl
            · have := hI.closed i _ hL hoi e he hb
              rw [hkL] at this; cases this
          · have := (Oper.apart_spec (hs.ap k i o _ hgt ho hoi (fun e he hb hh => hw ⟨e, he, hb, hh⟩))).2.2 d hd
            exact absurd hdT this
      obtain ⟨hex, hwt⟩ := hagr.exec (hs.nosel k o · · ho)
      have hnext : ∀ v w', Out I (sp k) k o xs Ss w v w' → wpAny P .any ops Q fuel (listed.setIfInBounds k true) (a.put o.dst v) w' := fun v w' hv => by
        obtain ⟨xs', Ss', hI'⟩ := hI.step hs ho hkL hr hv
        have hLe : (fun i => listed.getD i false || i == k) = fun i => (listed.setIfInBounds k true).getD i false := by
          funext i
          by_cases hik : i = k
          · subst hik; simp [Array.getD_eq_getD_getElem?, hsz, hkn]
          · rw [getD_set_ne false (Ne.symm hik)]; simp [hik]
        rw [hLe] at hI'
        refine ih _ _ _ xs' Ss' (by simpa using hsz) ?_ hI'
        have := filter_lt (p := fun i => !listed.getD i false) (q := fun i => !(listed.setIfInBounds k true).getD i false) (k := k) (l := List.range ops.size) (fun i _ hi => by
          have he := congrFun hLe i
          rw [← he] at hi
          simp only [Bool.not_or, Bool.and_eq_true] at hi
          exact hi.1) (by simpa using hkn) (by simp only [hkL, Bool.not_false]) (by have he := congrFun hLe k; rw [← he]; simp)
        omega
      unfold wpOp
      simp only [ho]
      rw [hwt]
      split
      · rename_i hw
        rw [if_pos hw] at hst
        exact .inl (wp_of_out hex hst hnext)
      · rename_i hw
        rw [if_neg hw] at hst
        exact hnext _ _ hst
end Rl
end Go.Proofs.Ytaebindbadfaaaa
