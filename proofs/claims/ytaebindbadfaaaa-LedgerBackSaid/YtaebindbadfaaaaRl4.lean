
/- Operations of the walk of Rl3: such as leave the world alone (quiet), such as make a row of their own (new, append, call), boxes. -/
import Derived.Test.YtaebindbadfaaaaRl3
namespace Go.Proofs.Ytaebindbadfaaaa
open Go.RowKit
namespace Rl
def kQ (v : (Nat → Value) → Value) (ds us : List Nat) : Kind := ⟨v, fun _ _ _ => True, ds, us, [], false⟩
/-- the outcome is a slice that owns its row -/
def kO (k : Nat) (base : Nat) (E : TypeId) (sz n : Nat) (cells : List Value) (us es : List Nat) : Kind :=
  ⟨fun xs => xs k, fun xs S w => w.ownsRow base E sz (xs k) n cells ∧ ∀ g, (xs k).ownBlock = some g → S g, [], us, es, false⟩
/-- the outcome is the address of a new block that is known whole, given as f of the block's number -/
def kB (k : Nat) (f : Nat → Value) (t : TypeId) (cs : (Nat → Value) → Array Value) (ds us es : List Nat) : Kind :=
  ⟨fun xs => xs k, fun xs S w => ∃ g, xs k = f g ∧ Blk w g t (cs xs) ∧ S g, ds, us, es, false⟩
section
variable {P : Program} {ops : Array Oper} {I : Nat → Prop} {w0 : World} {Q : Exit → Act → World → Prop} {rest : List Oper} {o : Oper} {k : Nat} {hist : List Kind} {A : (Nat → Value) → Act}
theorem kQ.loc {v : (Nat → Value) → Value} {ds us : List Nat} {k : Nat} (h : ∀ xs ys, (∀ j ∈ ds, xs j = ys j) → v xs = v ys) : (kQ v ds us).loc k := fun xs ys he =>
  ⟨h xs ys (fun j hj => he j (List.mem_cons_of_mem _ hj)), fun _ _ _ => trivial⟩
theorem kQ.stab {v : (Nat → Value) → Value} {ds us : List Nat} {O : Nat → Prop} : (kQ v ds us).stab O := fun _ _ _ _ _ _ _ _ => trivial
theorem kO.loc {k base : Nat} {E : TypeId} {sz n : Nat} {cells : List Value} {us es : List Nat} : (kO k base E sz n cells us es).loc k := fun xs ys he => by
  have e := he k (by simp)
  simp only [kO]
  exact ⟨e, fun S w h => by rw [← e]; exact h⟩
theorem kO.stab {k base : Nat} {E : TypeId} {sz n : Nat} {cells : List Value} {us es : List Nat} {O : Nat → Prop} : (kO k base E sz n cells us es).stab O := fun _ _ _ _ _ h _ hk =>
  ⟨own_kp h.1 h.2 hk, h.2⟩
theorem kB.loc {k : Nat} {f : Nat → Value} {t : TypeId} {cs : (Nat → Value) → Array Value} {ds us es : List Nat} (h : ∀ xs ys, (∀ j ∈ k :: ds, xs j = ys j) → cs xs = cs ys) : (kB k f t cs ds us es).loc k := fun xs ys he => by
  have e := he k (by simp)
  have e2 := h xs ys he
  simp only [kB]
  exact ⟨e, fun S w h => by rw [← e, ← e2]; exact h⟩
theorem kB.stab {k : Nat} {f : Nat → Value} {t : TypeId} {cs : (Nat → Value) → Array Value} {ds us es : List Nat} {O : Nat → Prop} : (kB k f t cs ds us es).stab O := fun _ _ _ _ _ ⟨g, h1, h2, h3⟩ _ hk =>
  ⟨g, h1, blk_kp h2 h3 hk, h3⟩
theorem upd_self (xs : Nat → Value) (k : Nat) (v : Value) : upd xs k v k = v := by simp [upd]
theorem upd_ne {xs : Nat → Value} {k i : Nat} {v : Value} (h : i ≠ k) : upd xs k v i = xs i := by simp [upd, h]
/-- what an operation may use of earlier ones -/
def Has (I : Nat → Prop) (hist : List Kind) (w0 : World) (l : List Nat) (xs : Nat → Value) (Ss : Nat → Nat → Prop) (w : World) : Prop :=
  (∀ i ∈ l, (spOf hist i).G xs (Ss i) w ∧ ∀ g, Ss i g → (w0.heap.size ≤ g ∨ I g) ∧ g < w.heap.size) ∧ ∀ i ∈ l, ∀ j ∈ l, i ≠ j → ∀ g, Ss i g → ¬ Ss j g
theorem Has.get {l : List Nat} {xs : Nat → Value} {Ss : Nat → Nat → Prop} {w : World} (h : Has I hist w0 l xs Ss w) {i : Nat} {K : Kind} (hi : i ∈ l) (hK : spOf hist i = K) : K.G xs (Ss i) w ∧ ∀ g, Ss i g → (w0.heap.size ≤ g ∨ I g) ∧ g < w.heap.size := by
  subst hK; exact h.1 i hi
theorem want_none (hg : o.guard = none) (a : Act) : Region.wanted o (yielded ops a.tmps) = true := by simp [Region.wanted, hg]
/-- the general step without a guard, that writes no old block -/
theorem RelW.step (K : Kind) (hlen : hist.length = k) (hg : o.guard = none) (h1 : K.loc k) (h2 : K.stab (oldO w0 I)) (hlt : ∀ i ∈ K.us ++ K.es, i < k)
    (h : ∀ xs Ss w, Chg I w0 w → Has I hist w0 (K.us ++ K.es) xs Ss w → outAt P o (A xs) w (fun v w' => ∃ S, ((o.dst = none ∨ v = K.val (upd xs k v)) ∧ K.G (upd xs k v) S w') ∧ Chg (fun g => ∃ i ∈ K.es, Ss i g) w w' ∧ ∀ g, S g → (∃ i ∈ K.es, Ss i g) ∨ (w.heap.size ≤ g ∧ g < w'.heap.size)))
    (hr : RelW P ops I w0 Q rest (k + 1) (hist ++ [K]) (fun xs => (A xs).put o.dst (K.val xs))) : RelW P ops I w0 Q (o :: rest) k hist A := by
  refine ⟨K, h1, h2, hlt, ?_, hr⟩
  intro xs Ss w hC _ hf hd
  have hlast : spOf (hist ++ [K]) k = K := by rw [← hlen]; exact spOf_last
  rw [hlast] at hf hd ⊢
  rw [if_pos (want_none hg _)]
  have hH : Has I hist w0 (K.us ++ K.es) xs Ss w := ⟨fun i hi => by
    have := hf i hi
    rwa [spOf_app (by have := hlt i hi; omega)] at this, hd⟩
  unfold outAt at *
  refine outR_mono ?_ (h xs Ss w hC hH)
  rintro v w' ⟨S, ⟨hv, hG⟩, hch, hS⟩
  refine ⟨v, S, hv, hG, ⟨hch.os, hch.tape, hch.output, hch.size, fun g hg hn => hch.block g hg (fun c => hn (.inl c))⟩, fun g hg => ?_⟩
  rcases hS g hg with h | h
  · exact .inl (.inl h)
  · exact .inr h
/-- an operation that leaves the world alone -/
theorem RelW.quiet (v : (Nat → Value) → Value) (ds us : List Nat) (hlen : hist.length = k) (hg : o.guard = none) (hl : ∀ xs ys : Nat → Value, (∀ j ∈ ds, xs j = ys j) → v xs = v ys) (hlt : ∀ i ∈ us, i < k) (hds : ∀ i ∈ ds, i < k)
    (h : ∀ xs Ss w, Chg I w0 w → Has I hist w0 us xs Ss w → outAt P o (A xs) w (fun v' w' => v' = v xs ∧ w' = w))
    (hr : RelW P ops I w0 Q rest (k + 1) (hist ++ [kQ v ds us]) (fun xs => (A xs).put o.dst (v xs))) : RelW P ops I w0 Q (o :: rest) k hist A := by
  refine RelW.step (kQ v ds us) hlen hg (kQ.loc hl) kQ.stab (by simpa [kQ] using hlt) ?_ hr
  intro xs Ss w hC hH
  have hH' : Has I hist w0 us xs Ss w := by simpa [kQ] using hH
  unfold outAt at *
  refine outR_mono ?_ (h xs Ss w hC hH')
  rintro v' w' ⟨rfl, rfl⟩
  refine ⟨fun _ => False, ⟨.inr ?_, trivial⟩, Chg.rfl', fun g hg => hg.elim⟩
  exact hl _ _ (fun j hj => (upd_ne (by have := hds j hj; omega)).symm)
/-- an operation whose outcome is a row of its own -/
theorem RelW.own (base : Nat) (E : TypeId) (sz n : Nat) (cells : List Value) (us es : List Nat) (hlen : hist.length = k) (hg : o.guard = none) (hlt : ∀ i ∈ us ++ es, i < k)
    (h : ∀ xs Ss w, Chg I w0 w → Has I hist w0 (us ++ es) xs Ss w → outAt P o (A xs) w (fun v w' => w'.ownsRow base E sz v n cells ∧ Chg (fun g => ∃ i ∈ es, Ss i g) w w' ∧ ∀ g, v.ownBlock = some g → (∃ i ∈ es, Ss i g) ∨ (w.heap.size ≤ g ∧ g < w'.heap.size)))
    (hr : RelW P ops I w0 Q rest (k + 1) (hist ++ [kO k base E sz n cells us es]) (fun xs => (A xs).put o.dst (xs k))) : RelW P ops I w0 Q (o :: rest) k hist A := by
  refine RelW.step (kO k base E sz n cells us es) hlen hg kO.loc kO.stab hlt ?_ hr
  intro xs Ss w hC hH
  unfold outAt at *
  refine outR_mono ?_ (h xs Ss w hC hH)
  rintro v w' ⟨h1, h2, h3⟩
  refine ⟨fun g => v.ownBlock = some g, ⟨.inr ?_, ?_⟩, h2, h3⟩
  · simp only [kO, upd_self]
  · simp only [kO, upd_self]
    exact ⟨h1, fun g hg => hg⟩
/-- an operation whose outcome is a new block that is known whole -/
theorem RelW.box (f : Nat → Value) (t : TypeId) (cs : (Nat → Value) → Array Value) (ds us : List Nat) (hlen : hist.length = k) (hg : o.guard = none) (hlt : ∀ i ∈ us, i < k) (hds : ∀ i ∈ ds, i < k) (hl : ∀ xs ys : Nat → Value, (∀ j ∈ ds, xs j = ys j) → cs xs = cs ys)
    (h : ∀ xs Ss w, Chg I w0 w → Has I hist w0 us xs Ss w → outAt P o (A xs) w (fun v w' => v = f w.heap.size ∧ w' = w.alloc (.cells (cs xs) t)))
    (hr : RelW P ops I w0 Q rest (k + 1) (hist ++ [kB k f t cs ds us []]) (fun xs => (A xs).put o.dst (xs k))) : RelW P ops I w0 Q (o :: rest) k hist A := by
  refine RelW.step (kB k f t cs ds us []) hlen hg (kB.loc fun xs ys he => hl _ _ (fun j hj => he j (by simp [hj]))) kB.stab (by simpa [kB] using hlt) ?_ hr
  intro xs Ss w hC hH
  have hH' : Has I hist w0 us xs Ss w := by simpa [kB] using hH
  unfold outAt at *
  refine outR_mono ?_ (h xs Ss w hC hH')
  rintro v w' ⟨rfl, rfl⟩
  refine ⟨fun g => g = w.heap.size, ⟨.inr ?_, ?_⟩, Chg.of_ext (Ext.new _ _), fun g hg => .inr ?_⟩
  · simp only [kB, upd_self]
  · simp only [kB, upd_self]
    refine ⟨_, rfl, ?_, rfl⟩
    rw [show cs (upd xs k (f w.heap.size)) = cs xs from hl _ _ (fun j hj => upd_ne (by have := hds j hj; omega))]
    exact Blk.new w t _
  · subst hg; rw [World.size_alloc]; exact ⟨Nat.le_refl _, Nat.lt_succ_self _⟩
/-- append onto a row that another operation of the region has made -/
theorem RelW.append (i : Nat) (us : List Nat) (base : Nat) (E : TypeId) (sz n m : Nat) (cells news : List Value) (bytes : Nat) (z : Value) (t : TypeId) (s x : Operand) (hlen : hist.length = k) (hg : o.guard = none) (hlt : ∀ i ∈ us, i < k)
    (ho : o.op = .call { callee := .builtin .append, args := #[s, x], argTypes := #[t, t] }) (ht : P.underlying t = some (.slice E)) (hinfo : (P.info? E).map (fun i => (i.zero, i.size, i.bytes)) = some (some z, sz, bytes))
    (hzs : z.cells.size = sz) (hsz : 0 < sz) (us' es' : List Nat) (hK : spOf hist i = kO i base E sz n cells us' es') (hi : i < k) (hbase : base ≤ w0.heap.size)
    (hs : ∀ xs, (A xs).eval s = xs i) (hl : news.length = m * sz) (h1 : ∀ u ∈ news, u.oneCell' = true) (h63 : n + m ≤ maxLen) (hbytes : (n + m) * bytes ≤ 140737488355328)
    (h : ∀ xs Ss w, Chg I w0 w → Has I hist w0 (us ++ [i]) xs Ss w → ∃ A' c, (A xs).eval x = .slice A' m c ∧ Sits w A' news)
    (hr : RelW P ops I w0 Q rest (k + 1) (hist ++ [kO k base E sz (n + m) (cells ++ news) us [i]]) (fun xs => (A xs).put o.dst (xs k))) : RelW P ops I w0 Q (o :: rest) k hist A := by
  refine RelW.own base E sz (n + m) (cells ++ news) us [i] hlen hg (by intro j hj; rcases List.mem_append.1 hj with hj | hj; exact hlt j hj; simp at hj; omega) ?_ hr
  intro xs Ss w hC hH
  obtain ⟨A', c, hx, hS⟩ := h xs Ss w hC hH
  obtain ⟨hKi, hSi⟩ := hH.get (i := i) (by simp) hK
  obtain ⟨hown, hown2⟩ := hKi
  have hsz0 : w0.heap.size ≤ w.heap.size := hC.size
  obtain ⟨v', w', hrun, h2, h3, h4, h5⟩ := run_append_row (P := P) w o.type t base E sz bytes z ht hinfo hzs hsz (xs i) n cells hown A' m c news hl hS h1 h63 hbytes (by omega)
  have hz : w.heap.size ≤ w'.heap.size := h4.size
  unfold outAt execOp
  simp only [ho, resolve, invoke, builtin, Sem.run_bind, Sem.run_pure, Result.andThen_ok, List.map_toArray, List.map_cons, List.map_nil, hs, hx, hrun, outR]
  refine ⟨h2, Chg.of_grown h4 (fun g hg => ⟨i, by simp, hown2 g hg⟩), fun g hg => ?_⟩
  rcases h5 with e | e
  · rw [e] at hg; exact .inl ⟨i, by simp, hown2 g hg⟩
  · rw [e] at hg
    injection hg with hg
    subst hg
    refine .inr ⟨Nat.le_refl _, ?_⟩
    exact (h2.lt _ e).2
/-- the general step without a guard, that may write the blocks of I: the one operation of the region that does so -/
theorem RelW.stepOld (K : Kind) (hlen : hist.length = k) (hg : o.guard = none) (hold : K.old = true) (h1 : K.loc k) (h2 : K.stab (oldO w0 I)) (hlt : ∀ i ∈ K.us ++ K.es, i < k)
    (h : ∀ xs Ss w, Ext w0 w → Has I hist w0 (K.us ++ K.es) xs Ss w → outAt P o (A xs) w (fun v w' => ∃ S, ((o.dst = none ∨ v = K.val (upd xs k v)) ∧ K.G (upd xs k v) S w') ∧ Chg (fun g => (∃ i ∈ K.es, Ss i g) ∨ I g) w w' ∧ ∀ g, S g → ((∃ i ∈ K.es, Ss i g) ∨ I g) ∨ (w.heap.size ≤ g ∧ g < w'.heap.size)))
    (hr : RelW P ops I w0 Q rest (k + 1) (hist ++ [K]) (fun xs => (A xs).put o.dst (K.val xs))) : RelW P ops I w0 Q (o :: rest) k hist A := by
  refine ⟨K, h1, h2, hlt, ?_, hr⟩
  intro xs Ss w hC hO hf hd
  have hlast : spOf (hist ++ [K]) k = K := by rw [← hlen]; exact spOf_last
  rw [hlast] at hf hd hO ⊢
  rw [if_pos (want_none hg _)]
  have hH : Has I hist w0 (K.us ++ K.es) xs Ss w := ⟨fun i hi => by
    have := hf i hi
    rwa [spOf_app (by have := hlt i hi; omega)] at this, hd⟩
  unfold outAt at *
  refine outR_mono ?_ (h xs Ss w (hO hold) hH)
  rintro v w' ⟨S, ⟨hv, hG⟩, hch, hS⟩
  refine ⟨v, S, hv, hG, ⟨hch.os, hch.tape, hch.output, hch.size, fun g hg hn => hch.block g hg (fun c => hn (c.imp id (fun c => ⟨hold, c⟩)))⟩, fun g hg => ?_⟩
  exact (hS g hg).imp (fun c => c.imp id (fun c => ⟨hold, c⟩)) id
/-- a call that makes new memory and yields what is known -/
theorem RelW.callX (v : (Nat → Value) → Value) (ds us : List Nat) (hlen : hist.length = k) (hg : o.guard = none) (hl : ∀ xs ys : Nat → Value, (∀ j ∈ ds, xs j = ys j) → v xs = v ys) (hlt : ∀ i ∈ us, i < k) (hds : ∀ i ∈ ds, i < k)
    (h : ∀ xs Ss w, Chg I w0 w → Has I hist w0 us xs Ss w → outAt P o (A xs) w (fun v' w' => v' = v xs ∧ Ext w w'))
    (hr : RelW P ops I w0 Q rest (k + 1) (hist ++ [kQ v ds us]) (fun xs => (A xs).put o.dst (v xs))) : RelW P ops I w0 Q (o :: rest) k hist A := by
  refine RelW.step (kQ v ds us) hlen hg (kQ.loc hl) kQ.stab (by simpa [kQ] using hlt) ?_ hr
  intro xs Ss w hC hH
  have hH' : Has I hist w0 us xs Ss w := by simpa [kQ] using hH
  unfold outAt at *
  refine outR_mono ?_ (h xs Ss w hC hH')
  rintro v' w' ⟨rfl, hx⟩
  refine ⟨fun _ => False, ⟨.inr ?_, trivial⟩, Chg.of_ext hx, fun g hg => hg.elim⟩
  exact hl _ _ (fun j hj => (upd_ne (by have := hds j hj; omega)).symm)
theorem out_of_calls {f : FuncId} {args : Array Value} {a : Act} {w : World} {R : Value → World → Prop} (he : (execOp a.eval o).run P w = .ok (.enter f args) w) (h : Calls P f args w fun e w' => ∃ v, e = .returned v ∧ R v w') : outAt P o a w R := by
  unfold outAt
  rw [he]
  exact h
/-- append onto a row that was there before the region -/
theorem RelW.appendOld (v0 : Value) (us : List Nat) (base : Nat) (E : TypeId) (sz n m : Nat) (cells news : List Value) (bytes : Nat) (z : Value) (t : TypeId) (s x : Operand) (hlen : hist.length = k) (hg : o.guard = none) (hlt : ∀ i ∈ us, i < k)
    (ho : o.op = .call { callee := .builtin .append, args := #[s, x], argTypes := #[t, t] }) (ht : P.underlying t = some (.slice E)) (hinfo : (P.info? E).map (fun i => (i.zero, i.size, i.bytes)) = some (some z, sz, bytes))
    (hzs : z.cells.size = sz) (hsz : 0 < sz) (hown0 : w0.ownsRow base E sz v0 n cells) (hI : ∀ g, v0.ownBlock = some g → I g) (hbase : base ≤ w0.heap.size)
    (hs : ∀ xs, (A xs).eval s = v0) (hl : news.length = m * sz) (h1 : ∀ u ∈ news, u.oneCell' = true) (h63 : n + m ≤ maxLen) (hbytes : (n + m) * bytes ≤ 140737488355328)
    (h : ∀ xs Ss w, Ext w0 w → Has I hist w0 us xs Ss w → ∃ A' c, (A xs).eval x = .slice A' m c ∧ Sits w A' news)
    (hr : RelW P ops I w0 Q rest (k + 1) (hist ++ [⟨fun xs => xs k, fun xs S w => w.ownsRow base E sz (xs k) (n + m) (cells ++ news) ∧ ∀ g, (xs k).ownBlock = some g → S g, [], us, [], true⟩]) (fun xs => (A xs).put o.dst (xs k))) : RelW P ops I w0 Q (o :: rest) k hist A := by
  refine RelW.stepOld ⟨fun xs => xs k, fun xs S w => w.ownsRow base E sz (xs k) (n + m) (cells ++ news) ∧ ∀ g, (xs k).ownBlock = some g → S g, [], us, [], true⟩ hlen hg rfl ?_ ?_ (by simpa using hlt) ?_ hr
  · intro xs ys he
    have e := he k (by simp)
    exact ⟨e, fun S w h => by simp only at h ⊢; rw [← e]; exact h⟩
  · exact fun _ _ _ _ _ h _ hk => ⟨own_kp h.1 h.2 hk, h.2⟩
  intro xs Ss w hx0 hH
  have hH' : Has I hist w0 us xs Ss w := by simpa using hH
  obtain ⟨A', c, hx, hS⟩ := h xs Ss w hx0 hH'
  have hown := own_ext hown0 hx0
  have hsz0 : w0.heap.size ≤ w.heap.size := hx0.size
  obtain ⟨v', w', hrun, h2, h3, h4, h5⟩ := run_append_row (P := P) w o.type t base E sz bytes z ht hinfo hzs hsz v0 n cells hown A' m c news hl hS h1 h63 hbytes (by omega)
  have hz : w.heap.size ≤ w'.heap.size := h4.size
  unfold outAt execOp
  simp only [ho, resolve, invoke, builtin, Sem.run_bind, Sem.run_pure, Result.andThen_ok, List.map_toArray, List.map_cons, List.map_nil, hs, hx, hrun, outR]
  refine ⟨fun g => v'.ownBlock = some g, ⟨.inr ?_, ?_⟩, Chg.of_grown h4 (fun g hg => .inr (hI g hg)), fun g hg => ?_⟩
  · simp only [upd_self]
  · simp only [upd_self]
    exact ⟨h2, fun g hg => hg⟩
  · rcases h5 with e | e
    · rw [e] at hg; exact .inl (.inr (hI g hg))
    · rw [e] at hg
      injection hg with hg
      subst hg
      exact .inr ⟨Nat.le_refl _, (h2.lt _ e).2⟩
theorem Chg.tr_ext {E : Nat → Prop} {a b c : World} (k : Ext a b) (h : Chg E b c) (hE : ∀ g, E g → a.heap.size ≤ g) : Ext a c :=
  ⟨h.os.trans k.os, h.tape.trans k.tape, h.output.trans k.output, Nat.le_trans k.size h.size, fun i hi => (h.block i (Nat.lt_of_lt_of_le hi k.size) (fun e => by have := hE i e; omega)).trans (k.block i hi)⟩
theorem Chg.cell {E : Nat → Prop} {b c : World} (h : Chg E b c) {p : Addr} {v : Value} (hc : b.cell? p = some v) (hE : ¬ E p.block) : c.cell? p = some v := by
  have hl := World.block_lt_of_cell? b p hc
  have := h.block p.block hl hE
  unfold World.cell? at hc ⊢
  rw [this]; exact hc
theorem Chg.blk {E : Nat → Prop} {b c : World} (h : Chg E b c) {g : Nat} {t : TypeId} {cs : Array Value} (hb : Blk b g t cs) (hE : ¬ E g) : Blk c g t cs := by
  have hl := hb.lt
  unfold Blk at *
  rw [h.block g hl hE]; exact hb
end
theorem sits_blk {w : World} {g : Nat} {t : TypeId} {cs : Array Value} (h : Blk w g t cs) : Sits w (some ⟨g, 0, none⟩) cs.toList := fun _ =>
  ⟨g, 0, rfl, fun j u hu => by rw [Nat.zero_add, h.cell, ← Array.getElem?_toList]; exact hu⟩
theorem own_empty (W : World) (base : Nat) (E : TypeId) (sz : Nat) (hb : base ≤ W.heap.size) : (W.alloc (.cells #[] E)).ownsRow base E sz (.slice (some ⟨W.heap.size, 0, none⟩) 0 0) 0 [] :=
  ⟨by simp, .inr ⟨W.heap.size, 0, #[], rfl, hb, heap_alloc_new W _, Nat.le_refl _, by simp [maxLen], by simp, by simp⟩⟩
/-- what a literal of no elements leaves -/
theorem empty_out (W : World) (base : Nat) (E : TypeId) (sz : Nat) (hb : base ≤ W.heap.size) : (W.alloc (.cells #[] E)).ownsRow base E sz (.slice (some ⟨W.heap.size, 0, none⟩) 0 0) 0 [] ∧ Chg (fun _ => False) W (W.alloc (.cells #[] E)) ∧
    ∀ g, (Value.slice (some ⟨W.heap.size, 0, none⟩) 0 0).ownBlock = some g → W.heap.size ≤ g ∧ g < W.heap.size + 1 :=
  ⟨own_empty W base E sz hb, Chg.of_ext (Ext.new _ _), fun g hg => by simp only [Value.ownBlock, Option.some.injEq] at hg; subst hg; exact ⟨Nat.le_refl _, Nat.lt_succ_self _⟩⟩
end Rl
end Go.Proofs.Ytaebindbadfaaaa
