
/- The law of Rl as a walk: one operation after the other, in the order of the text. -/
import Derived.Test.YtaebindbadfaaaaRl2
namespace Go.Proofs.Ytaebindbadfaaaa
open Go.RowKit
namespace Rl
def nK : Kind := ⟨fun _ => undef, fun _ _ _ => True, [], [], [], false⟩
def spOf (hist : List Kind) (i : Nat) : Kind := hist.getD i nK
def freeB (n : Nat) (hist : List Kind) (i : Nat) : Bool := (List.range n).all fun j => !((spOf hist j).es.contains i)
def checkB (ops : Array Oper) (hist : List Kind) : Bool :=
  (List.range ops.size).all fun k => ((spOf hist k).ds ++ ((spOf hist k).us ++ (spOf hist k).es)).all (fun i => awaits ops 3 k i) &&
    (List.range ops.size).all fun m => m == k || (!((spOf hist k).old && (spOf hist m).old) && (spOf hist k).es.all fun i => !(spOf hist m).es.contains i && (!(spOf hist m).us.contains i || awaits ops 3 k m))
def dstB (ops : Array Oper) : Bool := (List.range ops.size).all fun i => (List.range ops.size).all fun j => i == j || (match (ops[i]?).bind (·.dst) with | some d => (ops[j]?).bind (·.dst) != some d | none => true)
def RelW (P : Program) (ops : Array Oper) (I : Nat → Prop) (w0 : World) (Q : Exit → Act → World → Prop) : List Oper → Nat → List Kind → ((Nat → Value) → Act) → Prop
  | [], _, hist, A => checkB ops hist = true ∧ ∀ (xs : Nat → Value) (Ss : Nat → Nat → Prop) (w : World), Chg I w0 w → (∀ i, i < ops.size → freeB ops.size hist i = true → (spOf hist i).G xs (Ss i) w ∧ ∀ g, Ss i g → (w0.heap.size ≤ g ∨ I g) ∧ g < w.heap.size) →
      (∀ i j, i < ops.size → j < ops.size → freeB ops.size hist i = true → freeB ops.size hist j = true → i ≠ j → ∀ g, Ss i g → ¬ Ss j g) → Q .normal (A xs) w
  | o :: rest, k, hist, A => ∃ K : Kind, K.loc k ∧ K.stab (oldO w0 I) ∧ (∀ i ∈ K.us ++ K.es, i < k) ∧ stepOK P ops I (spOf (hist ++ [K])) w0 k o A ∧ RelW P ops I w0 Q rest (k + 1) (hist ++ [K]) (fun xs => (A xs).put o.dst (K.val xs))
theorem spOf_app {hist more : List Kind} {i : Nat} (h : i < hist.length) : spOf (hist ++ more) i = spOf hist i := by
  simp [spOf, List.getElem?_append_left h]
theorem spOf_last {hist : List Kind} {K : Kind} : spOf (hist ++ [K]) hist.length = K := by
  simp [spOf]
theorem stepOK_app {P : Program} {ops : Array Oper} {I : Nat → Prop} {hist more : List Kind} {w0 : World} {k : Nat} {o : Oper} {A : (Nat → Value) → Act} (hk : k < hist.length) (hus : ∀ i ∈ (spOf hist k).us ++ (spOf hist k).es, i < k) (h : stepOK P ops I (spOf hist) w0 k o A) : stepOK P ops I (spOf (hist ++ more)) w0 k o A := by
  unfold stepOK at *
  rw [spOf_app hk]
  intro xs Ss w hx ho hf hd
  exact h xs Ss w hx ho (fun i hi => by have := hf i hi; rwa [spOf_app (by have := hus i hi; omega)] at this) hd
theorem lexF_app {ops : Array Oper} {hist more : List Kind} {a0 : Act} {k : Nat} (hk : k ≤ hist.length) (xs : Nat → Value) : lexF ops (spOf (hist ++ more)) a0 k xs = lexF ops (spOf hist) a0 k xs := by
  unfold lexF
  exact fr_congr (fun _ _ => rfl) (fun i hi _ => by have hik : i < k := (by simpa using hi); rw [spOf_app (by omega)])
theorem lexF_succ {ops : Array Oper} {sp : Nat → Kind} {a0 : Act} {k : Nat} {o : Oper} (ho : ops[k]? = some o) (xs : Nat → Value) : lexF ops sp a0 (k + 1) xs = (lexF ops sp a0 k xs).put o.dst ((sp k).val xs) := by
  simp [lexF, fr, List.range_succ, ho]
theorem RelW.full {P : Program} {ops : Array Oper} {I : Nat → Prop} {w0 : World} {a0 : Act} {Q : Exit → Act → World → Prop} : ∀ {l : List Oper} {k : Nat} {hist : List Kind} {A : (Nat → Value) → Act}, RelW P ops I w0 Q l k hist A → hist.length = k → k + l.length = ops.size → (∀ j, l[j]? = ops[k + j]?) → (∀ xs, A xs = lexF ops (spOf hist) a0 k xs) →
    (∀ j o, j < k → ops[j]? = some o → (spOf hist j).loc j ∧ (spOf hist j).stab (oldO w0 I) ∧ (∀ i ∈ (spOf hist j).us ++ (spOf hist j).es, i < j) ∧ stepOK P ops I (spOf hist) w0 j o (lexF ops (spOf hist) a0 j)) →
    ∃ full : List Kind, full.length = ops.size ∧ checkB ops full = true ∧
      (∀ j o, ops[j]? = some o → (spOf full j).loc j ∧ (spOf full j).stab (oldO w0 I) ∧ stepOK P ops I (spOf full) w0 j o (lexF ops (spOf full) a0 j)) ∧
      ∀ (xs : Nat → Value) (Ss : Nat → Nat → Prop) (w : World), Chg I w0 w → (∀ i, i < ops.size → freeB ops.size full i = true → (spOf full i).G xs (Ss i) w ∧ ∀ g, Ss i g → (w0.heap.size ≤ g ∨ I g) ∧ g < w.heap.size) →
      (∀ i j, i < ops.size → j < ops.size → freeB ops.size full i = true → freeB ops.size full j = true → i ≠ j → ∀ g, Ss i g → ¬ Ss j g) → Q .normal (lexF ops (spOf full) a0 ops.size xs) w
  | [], k, hist, A, h, hlen, hn, hl, hA, hd => by
    obtain ⟨h1, h2⟩ := h
    have hkn : k = ops.size := by simpa using hn
    refine ⟨hist, by omega, h1, fun j o ho => ?_, fun xs Ss w hx hf hdis => ?_⟩
    · have := hd j o (by have := (Array.getElem?_eq_some_iff.1 ho).1; omega) ho
      exact ⟨this.1, this.2.1, this.2.2.2⟩
    · have := h2 xs Ss w hx hf hdis
      rwa [hA xs, hkn] at this
  | o :: rest, k, hist, A, h, hlen, hn, hl, hA, hd => by
    obtain ⟨K, h1, h2, h3, h4, h5⟩ := h
    have ho : ops[k]? = some o := by simpa using (hl 0).symm
    have hlast : spOf (hist ++ [K]) k = K := by rw [← hlen]; exact spOf_last
    have hA' : A = lexF ops (spOf (hist ++ [K])) a0 k := by funext xs; rw [hA xs, lexF_app (by omega)]
    refine RelW.full h5 (by simp [hlen]) (by simp at hn; omega) (fun j => by have := hl (j + 1); simpa [Nat.add_assoc, Nat.add_comm 1 j] using this) (fun xs => ?_) (fun j oj hj hoj => ?_)
    · rw [lexF_succ ho, hlast, hA']
    · by_cases hjk : j = k
      · subst hjk
        rw [ho] at hoj; cases hoj
        rw [hlast]
        exact ⟨h1, h2, h3, hA' ▸ h4⟩
      · have hlt : j < hist.length := by omega
        obtain ⟨a1, a2, a3, a4⟩ := hd j oj (by omega) hoj
        have hlx : lexF ops (spOf (hist ++ [K])) a0 j = lexF ops (spOf hist) a0 j := by funext xs; exact lexF_app (by omega) xs
        rw [hlx, spOf_app hlt]
        exact ⟨a1, a2, a3, stepOK_app hlt a3 a4⟩
theorem lex_spec {ops : Array Oper} : ∀ {fuel k : Nat} {listed : Array Bool}, Region.lexFrom .any ops fuel k listed = true → k + fuel = ops.size → listed.size = ops.size → (∀ i, i < ops.size → listed.getD i false = decide (i < k)) →
    ∀ j oj, k ≤ j → ops[j]? = some oj → (∀ e ∈ oj.after, Region.binds .any e = true → e.on < j) ∧ ∀ m om, j < m → ops[m]? = some om → (∀ e ∈ om.after, Region.binds .any e = true → e.on ≠ j) → oj.apart ops om = true
  | 0, k, listed, h, hk, hsz, hL, j, oj, hj, hoj => by
    have := (Array.getElem?_eq_some_iff.1 hoj).1
    omega
  | fuel + 1, k, listed, h, hk, hsz, hL, j, oj, hj, hoj => by
    simp only [Region.lexFrom, Bool.and_eq_true] at h
    obtain ⟨⟨hr, hf⟩, hB⟩ := h
    by_cases hjk : j = k
    · subst hjk
      have hr' : j ∈ Region.ready .any ops listed := by simpa using hr
      obtain ⟨h1, o, ho, h2⟩ := mem_ready.1 hr'
      rw [hoj] at ho; cases ho
      refine ⟨fun e he hb => ?_, fun m om hm hom hno => ?_⟩
      · have h3 := h2 e he hb
        by_cases hen : e.on < ops.size
        · rw [hL _ hen] at h3; simpa using h3
        · simp [Array.getElem?_eq_none (show listed.size ≤ e.on by omega)] at h3
      · have hmn := (Array.getElem?_eq_some_iff.1 hom).1
        refine Region.free_spec hoj hf m om hom (by omega) ?_ hno
        have h3 := hL m hmn
        rw [decide_eq_false (by omega)] at h3
        simp only [Array.getD_eq_getD_getElem?, Array.getElem?_eq_getElem (show m < listed.size by omega), Option.getD_some] at h3 ⊢
        exact h3
    · refine lex_spec hB (by omega) (by simpa using hsz) (fun i hi => ?_) j oj (by omega) hoj
      by_cases hik : i = k
      · subst hik; simp [hsz, hi]
      · rw [getD_set_ne false (Ne.symm hik), hL i hi]
        congr 1
        apply propext
        omega
theorem wp_region_rel {P : Program} {id : Nat} {Q : Exit → Act → World → Prop} {a : Act} {w : World} {l : List Oper} (I : Nat → Prop) (hI : ∀ g, I g → g < w.heap.size) (hm : P.follows .mixedOrders = true) (hB : Region.lexB .any l.toArray = true) (hD : dstB l.toArray = true)
    (h : RelW P l.toArray I w Q l 0 [] (fun _ => a)) : (Code.region id l.toArray true).wp P Q a w := by
  simp only [Region.lexB, Bool.and_eq_true] at hB
  obtain ⟨full, hlen, hck, hall, hfin⟩ := RelW.full (a0 := a) h rfl (by simp) (by simp) (fun xs => by simp [lexF, fr]) (fun j o hj => by omega)
  have hsp := lex_spec hB.2 (by simp) (by simp) (fun i hi => by simp at hi; simp [hi])
  simp only [checkB, List.all_eq_true, List.mem_range, Bool.and_eq_true, Bool.or_eq_true, beq_iff_eq] at hck
  simp only [dstB, List.all_eq_true, List.mem_range, Bool.or_eq_true, beq_iff_eq] at hD
  have hst : Static l.toArray I (spOf full) w := {
    I := hI
    nosel := fun j o cs b ho => Region.noSelect_spec hB.1 j o cs b ho
    ready := fun k o ho => (hsp k o (Nat.zero_le _) ho).1
    ap := fun i j oi oj hij hoi hoj hno => (hsp i oi (Nat.zero_le _) hoi).2 j oj hij hoj hno
    dst := fun i j hi hj hij d hd => by
      rcases hD i hi j hj with h1 | h1
      · exact absurd h1 hij
      · rw [hd] at h1
        simpa using h1
    loc := fun k hk => (hall k _ (Array.getElem?_eq_getElem hk)).1
    stab := fun k hk => (hall k _ (Array.getElem?_eq_getElem hk)).2.1
    aw := fun k hk i hi => (hck k hk).1 i hi
    one := fun j m hj hm h1 h2 => by
      rcases (hck j hj).2 m hm with h | h
      · exact h.symm
      · have := h.1
        simp [h1, h2] at this
    eat := fun j m i hj hm hi hmj => by
      rcases (hck j hj).2 m hm with h1 | h1
      · exact absurd h1 hmj
      · have h2 := h1.2 i hi
        simp only [Bool.not_eq_true', List.contains_eq_mem, decide_eq_false_iff_not] at h2
        exact ⟨h2.1, fun hu => h2.2.resolve_left (fun hn => hn hu)⟩ }
  refine wp_region_any hm (any hst (fun k o ho => (hall k o ho).2.2) (fun xs Ss w' hx hf => hfin xs Ss w' hx (fun i hi hb => hf.1 i hi (fun j hj => ?_)) (fun i j hi hj h1 h2 hij => hf.2 i j hi hj (fun m hm => ?_) (fun m hm => ?_) hij)) _ _ _ _ (fun _ => undef) (fun _ _ => False) (by simp) ?_ ?_)
  · simp only [freeB, List.all_eq_true, List.mem_range] at hb
    simpa using hb j hj
  · simp only [freeB, List.all_eq_true, List.mem_range] at h1
    simpa using h1 m hm
  · simp only [freeB, List.all_eq_true, List.mem_range] at h2
    simpa using h2 m hm
  · refine Nat.le_trans (List.length_filter_le _ _) ?_
    simp
  · have hno : ∀ i, (Array.replicate l.toArray.size false).getD i false = false := fun i => by
      simp only [Array.getD_eq_getD_getElem?, Array.getElem?_replicate]
      split <;> rfl
    exact {
      frame := by
        have : fr (fun i => (l.toArray[i]?).bind (·.dst)) (List.range l.toArray.size) (fun i => (Array.replicate l.toArray.size false).getD i false) (fun i => (spOf full i).val fun _ => undef) a = fr (fun i => (l.toArray[i]?).bind (·.dst)) (List.range l.toArray.size) (fun _ => false) (fun i => (spOf full i).val fun _ => undef) a := fr_congr (fun i _ => hno i) (fun _ _ _ => rfl)
        rw [this]
        generalize List.range l.toArray.size = r
        induction r with
        | nil => rfl
        | cons i r ih => rw [fr_f rfl]; exact ih
      ext := Chg.of_ext (Ext.drawn w)
      young := fun _ => Ext.drawn w
      closed := fun k o hk => by simp only [hno] at hk; cases hk
      lt := fun i hi => by simp only [hno] at hi; cases hi
      G := fun i hi => by have := hi.1; simp only [hno] at this; cases this
      bd := fun i hi => by have := hi.1; simp only [hno] at this; cases this
      dis := fun i j hi => by have := hi.1; simp only [hno] at this; cases this }
end Rl
end Go.Proofs.Ytaebindbadfaaaa
