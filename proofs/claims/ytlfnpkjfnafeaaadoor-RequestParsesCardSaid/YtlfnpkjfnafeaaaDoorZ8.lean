/-  -/
import Derived.Test.YtlfnpkjfnafeaaaDoorZ5
import Derived.Test.YtlfnpkjfnafeaaaDoorZ6
import Derived.Test.YtlfnpkjfnafeaaaDoorZ7
import Derived.Test.YtlfnpkjfnafeaaaDoorZ3
import Derived.WalkLawsBesides
import Derived.StillTailTactics
/- Memory of the parsers: an expression that the call makes, in blocks that stay while others change; the program's parser behind its pointer. -/
namespace Go.Proofs.YtlfnpkjfnafeaaaDoor
open Go.RowKit
set_option linter.unusedVariables false
/-- the blocks from lo to hi, but those of X, stand as they did -/
def Still (w w' : World) (lo hi : Nat) (X : List (Option Nat)) : Prop := ∀ k, lo ≤ k → k < hi → some k ∉ X → w'.heap[k]? = w.heap[k]?
/-- an expression that stands in the blocks from lo to hi, none of them in X -/
def RdF (w : World) (lo hi : Nat) (X : List (Option Nat)) (e : CL.Ex) (cs : List Value) : Prop := ∀ w', Still w w' lo hi X → Rd w' hi e cs
theorem RdF.rd {w : World} {lo hi : Nat} {X : List (Option Nat)} {e : CL.Ex} {cs : List Value} (h : RdF w lo hi X e cs) : Rd w hi e cs := h w (fun _ _ _ _ => rfl)
theorem RdF.go {w w' : World} {lo : Nat} {X X' : List (Option Nat)} {E : Nat → Prop} {e : CL.Ex} {cs : List Value} (h : RdF w lo w.heap.size X e cs) (hc : Rl.Chg E w w') (hE : ∀ b, E b → some b ∈ X ∨ b < lo)
    (hX : ∀ y ∈ X', y ∈ X ∨ ∀ b, y = some b → w.heap.size ≤ b ∨ b < lo) : RdF w' lo w'.heap.size X' e cs := fun u hu =>
  (h u (fun k h1 h2 h3 => (hu k h1 (Nat.lt_of_lt_of_le h2 hc.size) (fun hm => by
    rcases hX _ hm with h4 | h4
    · exact h3 h4
    · have := h4 k rfl; omega)).trans (hc.block k h2 (fun he => by
    rcases hE k he with h4 | h4
    · exact h3 h4
    · omega)))).le hc.size
theorem RdF.wide {w : World} {lo hi lo' hi' : Nat} {X X' : List (Option Nat)} {e : CL.Ex} {cs : List Value} (h : RdF w lo hi X e cs) (h1 : lo' ≤ lo) (h2 : hi ≤ hi') (hX : ∀ k, lo ≤ k → k < hi → some k ∈ X' → some k ∈ X) : RdF w lo' hi' X' e cs := fun u hu =>
  (h u (fun k k1 k2 k3 => hu k (by omega) (by omega) (fun hm => k3 (hX k k1 k2 hm)))).le h2
theorem RdF.leaf (w : World) (lo hi : Nat) (X : List (Option Nat)) (k : Int) (a : CL.At) (hn : a.n.length ≤ maxLen) : RdF w lo hi X (.mk k a []) [.int .i64 k, .string ⟨a.n.toArray⟩, .int .i64 a.a.m, .int .i64 a.a.u, .slice none 0 0] := fun u hu =>
  Rd.of hn (by simp [maxLen]) (Nat.le_refl _) ⟨[], rfl, by simp, fun h => absurd rfl h, fun i h => by simp at h⟩
/-- cells at an address, in a block from lo to hi that is not in X -/
def SitsF (w : World) (lo hi : Nat) (X : List (Option Nat)) (A : Option Addr) (xs : List Value) : Prop :=
  xs ≠ [] → ∃ b o, A = some ⟨b, o, none⟩ ∧ (lo ≤ b ∧ b < hi ∧ some b ∉ X) ∧ ∀ j u, xs[j]? = some u → w.cell? ⟨b, o + j, none⟩ = some u
theorem SitsF.still {w w' : World} {lo hi : Nat} {X : List (Option Nat)} {A : Option Addr} {xs : List Value} (h : SitsF w lo hi X A xs) (hs : Still w w' lo hi X) : SitsB w' hi A xs := fun hn =>
  let ⟨b, o, e, ⟨h1, h2, h3⟩, hc⟩ := h hn
  ⟨b, o, e, h2, fun j u hu => by
    have := hc j u hu
    unfold World.cell? at this ⊢
    rw [hs b h1 h2 h3]; exact this⟩
/-- kids that the call makes -/
def KidsF (w : World) (lo hi : Nat) (X : List (Option Nat)) (kids : List CL.Ex) (vs : List (List Value)) : Prop := vs.length = kids.length ∧ (∀ v ∈ vs, v.length = 5) ∧ ∀ i (h1 : i < kids.length) (h2 : i < vs.length), RdF w lo hi X kids[i] vs[i]
theorem KidsF.nil (w : World) (lo hi : Nat) (X : List (Option Nat)) : KidsF w lo hi X [] [] := ⟨rfl, by simp, fun i h => by simp at h⟩
theorem RdF.len {w : World} {lo hi : Nat} {X : List (Option Nat)} {e : CL.Ex} {cs : List Value} (h : RdF w lo hi X e cs) : cs.length = 5 := by
  obtain ⟨k, n, m, u, A, l, c, rfl⟩ := h.rd.shape; rfl
theorem KidsF.snoc {w : World} {lo hi : Nat} {X : List (Option Nat)} {kids : List CL.Ex} {vs : List (List Value)} (h : KidsF w lo hi X kids vs) {e : CL.Ex} {cs : List Value} (he : RdF w lo hi X e cs) : KidsF w lo hi X (kids ++ [e]) (vs ++ [cs]) := by
  refine ⟨by simp [h.1], fun v hv => ?_, fun i h1 h2 => ?_⟩
  · rcases List.mem_append.1 hv with hv | hv
    · exact h.2.1 v hv
    · simp only [List.mem_singleton] at hv; subst hv; exact he.len
  · by_cases hi' : i < kids.length
    · have := h.2.2 i hi' (by rw [h.1]; exact hi')
      rw [List.getElem_append_left hi', List.getElem_append_left (by rw [h.1]; exact hi')]
      exact this
    · have hl := h.1
      simp only [List.length_append, List.length_cons, List.length_nil] at h1
      have e1 : i = kids.length := by omega
      subst e1
      rw [List.getElem_append_right (Nat.le_refl _), List.getElem_append_right (by omega)]
      simp [hl, he]
theorem KidsF.go {w w' : World} {lo : Nat} {X X' : List (Option Nat)} {E : Nat → Prop} {kids : List CL.Ex} {vs : List (List Value)} (h : KidsF w lo w.heap.size X kids vs) (hc : Rl.Chg E w w') (hE : ∀ b, E b → some b ∈ X ∨ b < lo)
    (hX : ∀ y ∈ X', y ∈ X ∨ ∀ b, y = some b → w.heap.size ≤ b ∨ b < lo) : KidsF w' lo w'.heap.size X' kids vs := ⟨h.1, h.2.1, fun i h1 h2 => (h.2.2 i h1 h2).go hc hE hX⟩
theorem KidsF.wide {w : World} {lo hi lo' hi' : Nat} {X X' : List (Option Nat)} {kids : List CL.Ex} {vs : List (List Value)} (h : KidsF w lo hi X kids vs) (h1 : lo' ≤ lo) (h2 : hi ≤ hi') (hX : ∀ k, lo ≤ k → k < hi → some k ∈ X' → some k ∈ X) : KidsF w lo' hi' X' kids vs :=
  ⟨h.1, h.2.1, fun i a b => (h.2.2 i a b).wide h1 h2 hX⟩
theorem RdF.node {w : World} {lo hi : Nat} {X : List (Option Nat)} {k : Int} {a : CL.At} {kids : List CL.Ex} {vs : List (List Value)} {A : Option Addr} {c : Nat} (hn : a.n.length ≤ maxLen) (hl : kids.length ≤ maxLen) (hc : kids.length ≤ c) (hk : KidsF w lo hi X kids vs) (hs : SitsF w lo hi X A vs.flatten) :
    RdF w lo hi X (.mk k a kids) [.int .i64 k, .string ⟨a.n.toArray⟩, .int .i64 a.a.m, .int .i64 a.a.u, .slice A kids.length c] := fun u hu =>
  Rd.of hn hl hc ⟨vs, hk.1, hk.2.1, hs.still hu, fun i h1 h2 => hk.2.2 i h1 h2 u hu⟩
theorem SitsF.of_own {w : World} {lo n c : Nat} {E : TypeId} {size : Nat} {X : List (Option Nat)} {A : Option Addr} {xs : List Value} (h : w.ownsRow lo E size (.slice A n c) n xs) (hX : (Value.slice A n c).ownBlock ∉ X ∨ xs = []) : SitsF w lo w.heap.size X A xs := by
  intro hn
  obtain ⟨b, o, e, hc⟩ := Sits.of_own h hn
  subst e
  have hlt := h.lt b rfl
  refine ⟨b, o, rfl, ⟨hlt.1, hlt.2, ?_⟩, hc⟩
  rcases hX with hX | hX
  · exact hX
  · exact absurd hX hn

section
variable {P : Program} {ops : Array Oper} {rest : List Oper} {o : Oper} {a : Act} {W : World} {Q : Exit → Act → World → Prop}
/-- (a test for an arm) -/
theorem is_store (ty : TypeId) (x y : Operand) (ho : o.op = .store ty x y) (h : wpList P ops Q (o :: rest) a W) : wpList P ops Q (o :: rest) a W := h
/-- a struct is stored into a block that is known whole -/
theorem wpList_store_blk (hgd : o.guard = none) (hd : o.dst = none) (ty : TypeId) (x y : Operand) (ho : o.op = .store ty x y) (g : Nat) (cells : Array Value) (hx : a.eval x = .pointer (some ⟨g, 0, none⟩)) (hy : a.eval y = .agg cells) (t : TypeId) (old : Array Value) (hb : Blk W g t old)
    (n : Nat) (hi : (P.info? ty).map (·.size) = some n) (hn : cells.size = n) (hold : old.size = n) (h1 : cells.all (·.oneCell') = true) (h : ∀ w3, Blk w3 g t cells → Only g W w3 → wpList P ops Q rest a w3) : wpList P ops Q (o :: rest) a W := by
  refine wpList_store_row hgd ty x y ho g cells hx hy t old hb (by rw [hn]; exact hi) (by rw [hn]; exact hold) h1 ?_
  rw [hd]
  refine h _ ?_ ?_
  · unfold Blk at *
    simp [World.setRow, Array.getElem?_modify, hb]
  · refine ⟨rfl, rfl, rfl, by simp [World.setRow], fun k hk hne => ?_⟩
    have : g ≠ k := fun e => hne (by rw [e])
    simp [World.setRow, Array.getElem?_modify, this]
end
/-- a token as a value -/
def tkv (t : CL.Tk) : Value := .agg #[.int .i64 t.kind, .string ⟨t.text.toArray⟩, .int .i64 t.num, .int .i64 t.pos]
/-- the program's parser at the token k: what is left, the nodes, the atoms -/
structure PSt (w : World) (g B base : Nat) (A : Option Addr) (c : Nat) (all : List CL.Tk) (v : Value) (k : Nat) (s : CL.PS) : Prop where
  hk : k < all.length
  last : ∀ h : all.length - 1 < all.length, all[all.length - 1].kind = 5
  r : s.r = all.drop k
  blk : Blk w g 70 #[.slice A all.length c, .int .i64 k, .int .i64 s.n, v]
  own : w.ownsRow base 25 3 v s.l.length (ats s.l)
  tk : SitsB w B A (tks all)
  Bg : B ≤ g
  Bb : B ≤ base
  bs : base ≤ w.heap.size
  len : all.length ≤ 2000
  l8 : s.l.length ≤ 8
  n30 : s.n ≤ 30
  ok : ∀ t ∈ all, CL.TkOk t
theorem tk_cells {w : World} {l : List CL.Tk} {p o k : Nat} (hc : ∀ j u, (tks l)[j]? = some u → w.cell? ⟨p, o + j, none⟩ = some u) (h : k < l.length) :
    w.cell? ⟨p, o + k * 4, none⟩ = some (.int .i64 l[k].kind) ∧ w.cell? ⟨p, o + k * 4 + 1, none⟩ = some (.string ⟨l[k].text.toArray⟩) ∧ w.cell? ⟨p, o + k * 4 + 2, none⟩ = some (.int .i64 l[k].num) ∧ w.cell? ⟨p, o + k * 4 + 3, none⟩ = some (.int .i64 l[k].pos) :=
  ⟨hc (k * 4 + 0) _ (fm_get (c := tkc) (sz := 4) (fun _ => rfl) h 0 (by omega)), hc (k * 4 + 1) _ (fm_get (c := tkc) (sz := 4) (fun _ => rfl) h 1 (by omega)), hc (k * 4 + 2) _ (fm_get (c := tkc) (sz := 4) (fun _ => rfl) h 2 (by omega)), hc (k * 4 + 3) _ (fm_get (c := tkc) (sz := 4) (fun _ => rfl) h 3 (by omega))⟩
theorem PSt.hd {w : World} {g B base : Nat} {A : Option Addr} {c : Nat} {all : List CL.Tk} {v : Value} {k : Nat} {s : CL.PS} (h : PSt w g B base A c all v k s) : s.hd = all[k]'h.hk := by
  unfold CL.PS.hd CL.hdT
  rw [h.r, List.drop_eq_getElem_cons h.hk]; rfl
theorem PSt.cells {w : World} {g B base : Nat} {A : Option Addr} {c : Nat} {all : List CL.Tk} {v : Value} {k : Nat} {s : CL.PS} (h : PSt w g B base A c all v k s) : ∃ b o, A = some ⟨b, o, none⟩ ∧ b < B ∧
    w.cell? ⟨b, o + k * 4, none⟩ = some (.int .i64 s.hd.kind) ∧ w.cell? ⟨b, o + k * 4 + 1, none⟩ = some (.string ⟨s.hd.text.toArray⟩) ∧ w.cell? ⟨b, o + k * 4 + 2, none⟩ = some (.int .i64 s.hd.num) ∧ w.cell? ⟨b, o + k * 4 + 3, none⟩ = some (.int .i64 s.hd.pos) := by
  have hk := h.hk
  obtain ⟨b, o, e, hb, hc⟩ := h.tk (fun e => by have := tks_len all; rw [e] at this; simp at this; omega)
  rw [h.hd]
  exact ⟨b, o, e, hb, tk_cells hc h.hk⟩
theorem PSt.ext {w w' : World} {g B base : Nat} {A : Option Addr} {c : Nat} {all : List CL.Tk} {v : Value} {k : Nat} {s : CL.PS} (h : PSt w g B base A c all v k s) (hx : Ext w w') : PSt w' g B base A c all v k s :=
  ⟨h.hk, h.last, h.r, h.blk.ext hx, own_ext h.own hx, h.tk.below (hx.mono (by have := h.blk.lt; have := h.Bg; omega)), h.Bg, h.Bb, Nat.le_trans h.bs hx.size, h.len, h.l8, h.n30, h.ok⟩
/-- only the parser's block and its row of atoms have changed; the row is the old one, or a new one -/
structure Mv (g : Nat) (v v' : Value) (w w' : World) : Prop where
  chg : Rl.Chg (fun b => b = g ∨ v.ownBlock = some b) w w'
  row : v'.ownBlock = v.ownBlock ∨ ∃ b, v'.ownBlock = some b ∧ w.heap.size ≤ b
theorem Mv.rf {g : Nat} {v : Value} {w : World} : Mv g v v w w := ⟨Rl.Chg.rfl', .inl rfl⟩
theorem Chg.tr {E F : Nat → Prop} {a b c : World} (h : Rl.Chg E a b) (k : Rl.Chg F b c) (hF : ∀ i, F i → E i ∨ a.heap.size ≤ i) : Rl.Chg E a c :=
  ⟨k.os.trans h.os, k.tape.trans h.tape, k.output.trans h.output, Nat.le_trans h.size k.size, fun i hi hn => (k.block i (Nat.lt_of_lt_of_le hi h.size) (fun hf => by
    rcases hF i hf with h1 | h1
    · exact hn h1
    · omega)).trans (h.block i hi hn)⟩
theorem Mv.tr {g : Nat} {v v' v'' : Value} {a b c : World} (h : Mv g v v' a b) (k : Mv g v' v'' b c) : Mv g v v'' a c := by
  refine ⟨Chg.tr h.chg k.chg (fun i hi => ?_), ?_⟩
  · rcases hi with hi | hi
    · exact .inl (.inl hi)
    · rcases h.row with e | ⟨x, e, hx⟩
      · rw [e] at hi; exact .inl (.inr hi)
      · rw [e] at hi; injection hi with hi; subst hi; exact .inr hx
  · rcases k.row with e | ⟨x, e, hx⟩
    · rcases h.row with e' | ⟨y, e', hy⟩
      · exact .inl (e.trans e')
      · exact .inr ⟨y, e.trans e', hy⟩
    · exact .inr ⟨x, e, Nat.le_trans h.chg.size hx⟩
theorem Mv.of_ext {g : Nat} {v : Value} {a b : World} (h : Ext a b) : Mv g v v a b := ⟨Rl.Chg.of_ext h, .inl rfl⟩
theorem Mv.set {g : Nat} {v : Value} {a b : World} (h : Only g a b) : Mv g v v a b := ⟨Rl.Chg.of_grown h (fun x e => by injection e with e; exact .inl e.symm), .inl rfl⟩
theorem Mv.below {g B : Nat} {v v' : Value} {a b : World} (h : Mv g v v' a b) (hg : B ≤ g) (hb : B ≤ a.heap.size) (hv : ∀ x, v.ownBlock = some x → B ≤ x) : Below B a b :=
  ⟨h.chg.os, h.chg.tape, h.chg.output, h.chg.size, fun i hi => h.chg.block i (by omega) (fun e => by
    rcases e with e | e
    · omega
    · have := hv i e; omega)⟩
theorem PSt.below {w w' : World} {g B base : Nat} {A : Option Addr} {c : Nat} {all : List CL.Tk} {v v' : Value} {k : Nat} {s : CL.PS} (h : PSt w g B base A c all v k s) (hm : Mv g v v' w w') : Below B w w' :=
  hm.below h.Bg (Nat.le_trans h.Bb h.bs) (fun x hx => Nat.le_trans h.Bb (h.own.lt x hx).1)
theorem PSt.ne {w : World} {g B base : Nat} {A : Option Addr} {c : Nat} {all : List CL.Tk} {v : Value} {k : Nat} {s : CL.PS} (h : PSt w g B base A c all v k s) : some g ≠ v.ownBlock := Ne.symm (own_ne h.own h.blk (by decide))
/-- the next token -/
theorem PSt.next {w : World} {g B base : Nat} {A : Option Addr} {c : Nat} {all : List CL.Tk} {v : Value} {k : Nat} {s : CL.PS} (h : PSt w g B base A c all v k s) (h5 : s.hd.kind ≠ 5) :
    PSt (w.setCell ⟨g, 1, none⟩ (.int .i64 ((k : Int) + 1))) g B base A c all v (k + 1) s.next ∧ Mv g v v w (w.setCell ⟨g, 1, none⟩ (.int .i64 ((k : Int) + 1))) := by
  have hm : Mv g v v w (w.setCell ⟨g, 1, none⟩ (.int .i64 ((k : Int) + 1))) := Mv.set (Only.rf.set 1 _)
  refine ⟨⟨?_, h.last, ?_, ?_, ?_, h.tk.below (h.below hm), h.Bg, h.Bb, Nat.le_trans h.bs hm.chg.size, h.len, h.l8, h.n30, h.ok⟩, hm⟩
  · have h1 := h.hk
    rw [h.hd] at h5
    by_cases he : k = all.length - 1
    · subst he; exact absurd (h.last (by omega)) h5
    · omega
  · show s.r.tail = _
    rw [h.r, List.tail_drop]
  · have := h.blk.set 1 (.int .i64 ((k : Int) + 1))
    simpa [CL.PS.next] using this
  · exact own_only h.own (Only.rf.set 1 _) (Ne.symm h.ne)
/-- one node more -/
theorem PSt.node {w : World} {g B base : Nat} {A : Option Addr} {c : Nat} {all : List CL.Tk} {v : Value} {k : Nat} {s : CL.PS} (h : PSt w g B base A c all v k s) (hn : s.n < 30) :
    PSt (w.setCell ⟨g, 2, none⟩ (.int .i64 ((s.n : Int) + 1))) g B base A c all v k ⟨s.n + 1, s.l, s.r⟩ ∧ Mv g v v w (w.setCell ⟨g, 2, none⟩ (.int .i64 ((s.n : Int) + 1))) := by
  have hm : Mv g v v w (w.setCell ⟨g, 2, none⟩ (.int .i64 ((s.n : Int) + 1))) := Mv.set (Only.rf.set 2 _)
  refine ⟨⟨h.hk, h.last, h.r, ?_, ?_, h.tk.below (h.below hm), h.Bg, h.Bb, Nat.le_trans h.bs hm.chg.size, h.len, h.l8, hn, h.ok⟩, hm⟩
  · have := h.blk.set 2 (.int .i64 ((s.n : Int) + 1))
    simpa using this
  · exact own_only h.own (Only.rf.set 2 _) (Ne.symm h.ne)
/-- another block of the call's has changed -/
theorem PSt.only {w w' : World} {g B base : Nat} {A : Option Addr} {c : Nat} {all : List CL.Tk} {v : Value} {k : Nat} {s : CL.PS} (h : PSt w g B base A c all v k s) {p : Nat} (hv : v.ownBlock ≠ some p) (hpg : g ≠ p) (hB : B ≤ p) (ho : Only p w w') : PSt w' g B base A c all v k s :=
  ⟨h.hk, h.last, h.r, h.blk.only ho hpg, own_only h.own ho hv, h.tk.below ⟨ho.os, ho.tape, ho.output, ho.size, fun i hi => ho.block i (by have := h.Bg; have := h.blk.lt; omega) (fun e => by injection e; omega)⟩, h.Bg, h.Bb, Nat.le_trans h.bs ho.size, h.len, h.l8, h.n30, h.ok⟩
/-- the row of atoms lies among what was there -/
theorem PSt.young {w : World} {g B base : Nat} {A : Option Addr} {c : Nat} {all : List CL.Tk} {v : Value} {k : Nat} {s : CL.PS} (h : PSt w g B base A c all v k s) {p : Nat} (hp : w.heap.size ≤ p) : v.ownBlock ≠ some p := fun e => by
  have := (h.own.lt p e).2; omega
theorem Mv.only {g p : Nat} {v v' : Value} {a b c : World} (h : Mv g v v' a b) (ho : Only p b c) (hp : a.heap.size ≤ p) : Mv g v v' a c :=
  ⟨Chg.tr h.chg (Rl.Chg.of_grown (E := fun x => x = p) ho (fun x e => by injection e with e; exact e.symm)) (fun i hi => .inr (by omega)), h.row⟩
end Go.Proofs.YtlfnpkjfnafeaaaDoor
/- The walks of the program's parser, first part: the next token. Conditions: the parser stands behind a pointer, its tokens end in the end. -/
namespace Go.Proofs.YtlfnpkjfnafeaaaDoor
open Go.RowKit
set_option linter.unusedVariables false
variable {w : World} {g B base : Nat} {A : Option Addr} {c : Nat} {all : List CL.Tk} {v : Value} {k : Nat} {s : CL.PS}
theorem parser.peek_c (h : PSt w g B base A c all v k s) : Calls Tryd.prog 63 #[.pointer (some ⟨g, 0, none⟩)] w fun e w' => e = .returned (tkv s.hd) ∧ Ext w w' := by
  obtain ⟨b, o, rfl, hb, c0, c1, c2, c3⟩ := h.cells
  have hb0 := h.blk
  have hlt := hb0.lt
  have hkl := h.hk
  have hBg := h.Bg
  have e0 : w.cell? ⟨g, 0, none⟩ = some (.slice (some ⟨b, o, none⟩) all.length c) := hb0.cell 0
  have e1 : w.cell? ⟨g, 1, none⟩ = some (.int .i64 k) := hb0.cell 1
  have x0 := fun ob => (hb0.alloc ob).cell 0
  have hne : g ≠ w.heap.size := by omega
  have hne2 : b ≠ w.heap.size := by omega
  clear h
  unfold tkv
  generalize s.hd = t at *
  obtain ⟨tk, tt, tn, tp⟩ := t
  simp only at c0 c1 c2 c3
  have y0 := fun ob => (Ext.new w ob).cell c0
  have y1 := fun ob => (Ext.new w ob).cell c1
  have y2 := fun ob => (Ext.new w ob).cell c2
  have y3 := fun ob => (Ext.new w ob).cell c3
  have z0 := fun ob => (Ext.new w ob).cell e0
  have z1 := fun ob => (Ext.new w ob).cell e1
  clear x0
  go_enter Tryd.func63, Tryd.ntmps63
  go_wp2
  go_region
  go_wp2
  go_returns
  exact ⟨rfl, by go_grown⟩
/-- what fail does -/
def failE (p c : Int) : Ending := .panicked [{ v := .iface 66 (.agg #[.int .i64 p, .int .i64 c]), recovered := false }]
theorem request.fail_c (t : CL.Tk) (m : Int) (w : World) : Calls Tryd.prog 65 #[tkv t, .int .i64 m] w fun e w' => e = failE t.pos m ∧ Ext w w' := by
  obtain ⟨tk, tt, tn, tp⟩ := t
  unfold tkv failE
  go_enter Tryd.func65, Tryd.ntmps65
  go_wp2
  exact ⟨rfl, rfl, Ext.new _ _⟩
theorem parser.sees_c (h : PSt w g B base A c all v k s) (kd : Int) (tx : List UInt8) : Calls Tryd.prog 69 #[.pointer (some ⟨g, 0, none⟩), .int .i64 kd, .string ⟨tx.toArray⟩] w fun e w' => e = .returned (.bool (CL.sees kd tx s)) ∧ Ext w w' := by
  have HC := parser.peek_c h
  unfold CL.sees
  unfold tkv at HC
  generalize s.hd = t at *
  obtain ⟨tk, tt, tn, tp⟩ := t
  go_enter Tryd.func69, Tryd.ntmps69
  go_wp2_with (go_at_call 63; refine HC.mono ?_; rintro e w' ⟨rfl, hx⟩)
  all_goals
    go_ret
    refine ⟨ret_bool ?_, hx.tr (Ext.new _ _)⟩
    go_tidy
    grind
/-- a block that is known whole: its cells, none frozen -/
theorem Blk.c4 {w : World} {g : Nat} {t : TypeId} {a b c d : Value} (h : Blk w g t #[a, b, c, d]) : (w.cell? ⟨g, 0, none⟩ = some a ∧ w.cell? ⟨g, 1, none⟩ = some b ∧ w.cell? ⟨g, 2, none⟩ = some c ∧ w.cell? ⟨g, 3, none⟩ = some d) ∧
    w.frozen? ⟨g, 0, none⟩ = false ∧ w.frozen? ⟨g, 1, none⟩ = false ∧ w.frozen? ⟨g, 2, none⟩ = false ∧ w.frozen? ⟨g, 3, none⟩ = false := ⟨⟨h.cell 0, h.cell 1, h.cell 2, h.cell 3⟩, h.frozen 0, h.frozen 1, h.frozen 2, h.frozen 3⟩
theorem tok_isz : (Tryd.prog.info? 52).map (·.size) = some 4 := by kernel_rfl
set_option maxHeartbeats 1600000 in
theorem parser.take_ok (h : PSt w g B base A c all v k s) (kd : Int) (hkd : s.hd.kind = kd) : Calls Tryd.prog 37 #[.pointer (some ⟨g, 0, none⟩), .int .i64 kd] w fun e w' =>
    e = .returned (tkv s.hd) ∧ (kd ≠ 5 → PSt w' g B base A c all v (k + 1) s.next) ∧ Mv g v v w w' := by
  have hx0 := Ext.new w (.cells #[.int .i64 0, .string ⟨#[]⟩, .int .i64 0, .int .i64 0] 52)
  have bR := Blk.new w 52 #[.int .i64 0, .string ⟨#[]⟩, .int .i64 0, .int .i64 0]
  have hS0 := h.ext hx0
  have HC := parser.peek_c hS0
  have hlt := h.blk.lt
  have HN : kd ≠ 5 → ∀ w', PSt w' g B base A c all v k s → PSt (w'.setCell ⟨g, 1, none⟩ (.int .i64 ((k : Int) + 1))) g B base A c all v (k + 1) s.next := fun h5 w' h' => (h'.next (by rw [hkd]; exact h5)).1
  have HN := Lib.hid HN
  have hkl := h.hk
  have hlen := h.len
  have g1 : IntKind.i64.wrap ((k : Int) + 1) = (k : Int) + 1 := IntWalk.i64_in _ (by omega)
  have HY := Lib.hid (h.young (Nat.le_refl _))
  clear h
  unfold tkv at *
  generalize s.hd = t at *
  obtain ⟨tk, tt, tn, tp⟩ := t
  simp only at hkd
  subst hkd
  go_enter Tryd.func37, Tryd.ntmps37
  go_wp2_with (first
    | (go_at_call 63; refine HC.mono ?_; rintro e w1 ⟨rfl, hx1⟩; have hS1 := hS0.ext hx1; obtain ⟨⟨_, e1, _, _⟩, _, f1, _, _⟩ := hS1.blk.c4; have hlt1 := (bR.ext hx1).lt; have bR1 := Lib.hid (bR.ext hx1); clear bR; have hS1 := Lib.hid hS1; have m1 : g < w1.heap.size := (by omega); have n1 : g ≠ w1.heap.size := (by omega); have n2 : g ≠ w.heap.size := (by omega); have n3 : w.heap.size ≠ w1.heap.size := (by omega))
    | (with_reducible refine is_store 52 (.tmp 4) (.tmp 21) rfl ?_; refine wpList_store_blk rfl rfl 52 (.tmp 4) (.tmp 21) rfl w.heap.size #[.int .i64 tk, .string ⟨tt.toArray⟩, .int .i64 tn, .int .i64 tp] rfl rfl _ _ ((bR1.out.only (Only.rf.set (g := g) 1 (.int .i64 ((k : Int) + 1))) (Ne.symm n2)).alloc _) 4 tok_isz rfl rfl (by simp [Value.oneCell']) ?_; intro w3 hB3 ho3; obtain ⟨⟨r0, r1, r2, r3⟩, _⟩ := hB3.c4; clear hB3))
  refine bodyPost_ret (by simp [results, Tryd.results37, go_sem, r0, r1, r2, r3]; try rfl) rfl ?_
  have hle : B ≤ w.heap.size := by have := hS1.out.Bg; omega
  exact ⟨rfl, fun h5 => ((HN.out h5 w1 hS1.out).ext (Ext.new _ _)).only HY.out n2 hle ho3, (((Mv.of_ext (hx0.tr hx1)).tr (Mv.set (Only.rf.set 1 _))).tr (Mv.of_ext (Ext.new _ _))).only ho3 (Nat.le_refl _)⟩
theorem parser.take_er (h : PSt w g B base A c all v k s) (kd : Int) (hkd : s.hd.kind ≠ kd) : Calls Tryd.prog 37 #[.pointer (some ⟨g, 0, none⟩), .int .i64 kd] w fun e w' =>
    e = failE s.hd.pos 8 ∧ Ext w w' := by
  have hx0 := Ext.new w (.cells #[.int .i64 0, .string ⟨#[]⟩, .int .i64 0, .int .i64 0] 52)
  have HC := parser.peek_c (h.ext hx0)
  clear h
  have HF := fun w' => request.fail_c s.hd 8 w'
  unfold tkv failE at *
  generalize s.hd = t at *
  obtain ⟨tk, tt, tn, tp⟩ := t
  simp only at hkd
  go_enter Tryd.func37, Tryd.ntmps37
  go_wp2_with (first | (go_at_call 63; refine HC.mono ?_; rintro e w1 ⟨rfl, hx1⟩) | (go_at_call 65; refine (HF _).mono ?_; rintro e w2 ⟨rfl, hx2⟩))
  exact ⟨rfl, rfl, hx0.tr (hx1.tr ((Ext.new _ _).tr hx2))⟩
end Go.Proofs.YtlfnpkjfnafeaaaDoor
/- The walks of the program's parser, second part: expect, begins, option. -/
namespace Go.Proofs.YtlfnpkjfnafeaaaDoor
open Go.RowKit
set_option linter.unusedVariables false
set_option maxRecDepth 100000
variable {w : World} {g B base : Nat} {A : Option Addr} {c : Nat} {all : List CL.Tk} {v : Value} {k : Nat} {s : CL.PS}
theorem below_ext {B : Nat} {a b c : World} (h : Below B a b) (k : Ext b c) (hB : B ≤ a.heap.size) : Below B a c := h.trans (k.mono (Nat.le_trans hB h.size))
theorem PSt.Bs (h : PSt w g B base A c all v k s) : B ≤ w.heap.size := Nat.le_trans h.Bb h.bs
theorem sees_kind {kd : Int} {tx : List UInt8} {s : CL.PS} (h : CL.sees kd tx s = true) : s.hd.kind = kd := by
  unfold CL.sees at h; simp at h; exact h.1
theorem PSt.wr (h : PSt w g B base A c all v k s) : IntKind.i64.wrap ((k : Int) + 1) = (k : Int) + 1 := IntWalk.i64_in _ (by have := h.hk; have := h.len; omega)
theorem PSt.facts (h : PSt w g B base A c all v k s) : w.cell? ⟨g, 1, none⟩ = some (.int .i64 k) ∧ w.frozen? ⟨g, 1, none⟩ = false ∧ w.cell? ⟨g, 2, none⟩ = some (.int .i64 s.n) ∧ w.frozen? ⟨g, 2, none⟩ = false ∧ g < w.heap.size := by
  obtain ⟨⟨_, e1, e2, _⟩, _, f1, f2, _⟩ := h.blk.c4
  exact ⟨e1, f1, e2, f2, h.blk.lt⟩
theorem parser.expect_ok (h : PSt w g B base A c all v k s) (kd : Int) (tx : List UInt8) (hs : CL.sees kd tx s = true) (h5 : kd ≠ 5) : Calls Tryd.prog 66 #[.pointer (some ⟨g, 0, none⟩), .int .i64 kd, .string ⟨tx.toArray⟩] w fun e w' =>
    e = .returned (.tuple #[]) ∧ PSt w' g B base A c all v (k + 1) s.next ∧ Mv g v v w w' := by
  have HC := parser.sees_c h kd tx
  have hk5 : s.hd.kind ≠ 5 := by rw [sees_kind hs]; exact h5
  have g1 := h.wr
  have hs1 := Lib.hid h
  rw [hs] at HC
  clear h hs
  go_enter Tryd.func66, Tryd.ntmps66
  go_wp2_with (go_at_call 69; refine HC.mono ?_; rintro e w1 ⟨rfl, hx1⟩; obtain ⟨e1, f1, _, _, m1⟩ := (hs1.out.ext hx1).facts)
  go_end0
  obtain ⟨q1, q2⟩ := (hs1.out.ext hx1).next hk5
  exact ⟨rfl, q1, (Mv.of_ext hx1).tr q2⟩
theorem parser.expect_er (h : PSt w g B base A c all v k s) (kd : Int) (tx : List UInt8) (hs : CL.sees kd tx s = false) : Calls Tryd.prog 66 #[.pointer (some ⟨g, 0, none⟩), .int .i64 kd, .string ⟨tx.toArray⟩] w fun e w' =>
    e = failE s.hd.pos 8 ∧ Ext w w' := by
  have HC := parser.sees_c h kd tx
  have HP := fun w' (hx : Ext w w') => parser.peek_c (h.ext hx)
  have HF := fun w' => request.fail_c s.hd 8 w'
  rw [hs] at HC
  clear h hs
  unfold tkv failE at *
  generalize s.hd = t at *
  obtain ⟨tk, tt, tn, tp⟩ := t
  go_enter Tryd.func66, Tryd.ntmps66
  go_wp2_with (first | (go_at_call 69; refine HC.mono ?_; rintro e w1 ⟨rfl, hx1⟩) | (go_at_call 63; refine (HP _ hx1).mono ?_; rintro e w2 ⟨rfl, hx2⟩) | (go_at_call 65; refine (HF _).mono ?_; rintro e w3 ⟨rfl, hx3⟩))
  exact ⟨rfl, rfl, hx1.tr (hx2.tr hx3)⟩
theorem request.begins_c (t : CL.Tk) (w : World) : Calls Tryd.prog 64 #[tkv t] w fun e w' => e = .returned (.bool (CL.beginsT t)) ∧ Ext w w' := by
  obtain ⟨tk, tt, tn, tp⟩ := t
  unfold tkv CL.beginsT CL.wAll CL.wAny
  go_enter Tryd.func64, Tryd.ntmps64
  go_wp2_with (go_at_call 91; refine (catalog.Reserved_c _ _).mono ?_; rintro e w' ⟨rfl, rfl⟩)
  all_goals
    go_ret
    refine ⟨ret_bool ?_, Ext.new _ _⟩
    go_tidy
    grind
/-- an error of the parser, or what is read -/
def OptPost (w : World) (g B base : Nat) (A : Option Addr) (c : Nat) (all : List CL.Tk) (v : Value) (r : CL.PR Int) (e : Ending) (w' : World) : Prop := match r with
  | .error p => e = failE p.1 p.2 ∧ Below B w w'
  | .ok x => e = .returned (.int .i64 x.1) ∧ ∃ k', PSt w' g B base A c all v k' x.2 ∧ Mv g v v w w'
set_option maxHeartbeats 1600000 in
theorem parser.option_c (h : PSt w g B base A c all v k s) (tx : List UInt8) (most : Int) : Calls Tryd.prog 36 #[.pointer (some ⟨g, 0, none⟩), .string ⟨tx.toArray⟩, .int .i64 most] w (OptPost w g B base A c all v (CL.optP tx most s)) := by
  have HC := parser.sees_c h 1 tx
  have g1 := h.wr
  have hs1 := Lib.hid h
  unfold CL.optP
  cases hs : CL.sees 1 tx s with
  | false =>
    rw [hs] at HC
    clear h
    go_enter Tryd.func36, Tryd.ntmps36
    go_wp2_with (go_at_call 69; refine HC.mono ?_; rintro e w1 ⟨rfl, hx1⟩)
    go_ret
    exact ⟨rfl, k, hs1.out.ext hx1, Mv.of_ext hx1⟩
  | true =>
    simp only [if_true]
    rw [hs] at HC
    have hk5 : s.hd.kind ≠ 5 := by rw [sees_kind hs]; decide
    have hB : Below B w w := Below.refl _ _
    have HN := fun w' (hx : Ext w w') => (h.ext hx).next hk5
    by_cases hk3 : s.next.hd.kind = 3
    · rw [if_pos hk3]
      have HT := fun w' (hx : Ext w w') => parser.take_ok (HN w' hx).1 3 hk3
      by_cases hm : most < s.next.hd.num
      · rw [if_pos hm]
        have HF := fun w' => request.fail_c s.next.hd 1 w'
        have HB := fun w1 w2 (hx : Ext w w1) (hx2 : Mv g v v (w1.setCell ⟨g, 1, none⟩ (.int .i64 ((k : Int) + 1))) w2) => h.below (((Mv.of_ext hx).tr (HN w1 hx).2).tr hx2)
        clear HN h
        unfold tkv at *
        unfold failE at HF
        generalize s.next.hd = t at *
        obtain ⟨tk, tt, tn, tp⟩ := t
        simp only at hk3 hm
        subst hk3
        go_enter Tryd.func36, Tryd.ntmps36
        go_wp2_with (first | (go_at_call 69; refine HC.mono ?_; rintro e w1 ⟨rfl, hx1⟩; obtain ⟨e1, f1, _, _, m1⟩ := (hs1.out.ext hx1).facts) | (go_at_call 37; refine (HT _ hx1).mono ?_; rintro e w2 ⟨rfl, hp2, hm2⟩) | (go_at_call 65; refine (HF _).mono ?_; rintro e w3 ⟨rfl, hx3⟩))
        exact ⟨rfl, rfl, below_ext (HB w1 w2 hx1 hm2) ((Ext.new _ _).tr hx3) hs1.out.Bs⟩
      · rw [if_neg hm]
        have HM := fun w1 (hx : Ext w w1) => (Mv.of_ext (v := v) hx).tr (HN w1 hx).2
        clear HN h
        unfold tkv at *
        generalize hd2 : s.next.hd = t at *
        obtain ⟨tk, tt, tn, tp⟩ := t
        simp only at hk3 hm
        subst hk3
        go_enter Tryd.func36, Tryd.ntmps36
        go_wp2_with (first | (go_at_call 69; refine HC.mono ?_; rintro e w1 ⟨rfl, hx1⟩; obtain ⟨e1, f1, _, _, m1⟩ := (hs1.out.ext hx1).facts) | (go_at_call 37; refine (HT _ hx1).mono ?_; rintro e w2 ⟨rfl, hp2, hm2⟩))
        go_ret
        exact ⟨rfl, k + 1 + 1, (hp2 (by decide)).ext (Ext.new _ _), ((HM w1 hx1).tr hm2).tr (Mv.of_ext (Ext.new _ _))⟩
    · rw [if_neg hk3]
      have HT := fun w' (hx : Ext w w') => parser.take_er (HN w' hx).1 3 hk3
      have HB := fun w1 w2 (hx : Ext w w1) (hx2 : Ext (w1.setCell ⟨g, 1, none⟩ (.int .i64 ((k : Int) + 1))) w2) => h.below (((Mv.of_ext hx).tr (HN w1 hx).2).tr (Mv.of_ext hx2))
      clear HN h
      unfold failE at HT
      go_enter Tryd.func36, Tryd.ntmps36
      go_wp2_with (first | (go_at_call 69; refine HC.mono ?_; rintro e w1 ⟨rfl, hx1⟩; obtain ⟨e1, f1, _, _, m1⟩ := (hs1.out.ext hx1).facts) | (go_at_call 37; refine (HT _ hx1).mono ?_; rintro e w2 ⟨rfl, hx2⟩))
      exact ⟨rfl, rfl, HB w1 w2 hx1 hx2⟩
end Go.Proofs.YtlfnpkjfnafeaaaDoor
/- The walk of request.note at a list of atoms in whatever slot of a known block: what it changes. -/
namespace Go.Proofs.YtlfnpkjfnafeaaaDoor
open Go.RowKit
set_option linter.unusedVariables false
/-- what note leaves: its code, the slot with the new row -/
def NotePost (a : CL.At) (l : List CL.At) (w : World) (g o base : Nat) (T : TypeId) (cs : Array Value) (v : Value) (r : Ending) (w' : World) : Prop :=
  r = .returned (.int .i64 (CL.note l a).1) ∧ ∃ v', Blk w' g T (cs.setIfInBounds o v') ∧ w'.ownsRow base 25 3 v' (CL.note l a).2.length (ats (CL.note l a).2) ∧ Mv g v v' w w'
theorem NotePost.same {a : CL.At} {l : List CL.At} {w w' : World} {g o base : Nat} {T : TypeId} {cs : Array Value} {v : Value} {m : Int} (hb : Blk w g T cs) (ho : cs[o]? = some v) (hown : w.ownsRow base 25 3 v l.length (ats l)) (hx : Ext w w') (hn : CL.note l a = (m, l)) :
    NotePost a l w g o base T cs v (.returned (.int .i64 m)) w' := by
  refine ⟨by rw [hn], v, ?_, ?_, Mv.of_ext hx⟩
  · have : cs.setIfInBounds o v = cs := by
      apply Array.ext_getElem?
      intro i
      rw [Array.getElem?_setIfInBounds]
      split
      · rename_i e; subst e
        split
        · exact ho.symm
        · rename_i hh; rw [Array.getElem?_eq_none (by omega)]
      · rfl
    rw [this]; exact hb.ext hx
  · rw [hn]; exact own_ext hown hx
set_option maxRecDepth 100000 in
set_option maxHeartbeats 3200000 in
theorem request.note_g (a : CL.At) (l : List CL.At) (w : World) (g o base : Nat) (T : TypeId) (cs : Array Value) (v : Value) (hbs : base ≤ w.heap.size) (hl : l.length ≤ 8) (hb : Blk w g T cs) (ho : cs[o]? = some v) (hT : 25 ≠ T)
    (hown : w.ownsRow base 25 3 v l.length (ats l)) :
    Calls Tryd.prog 56 #[.pointer (some ⟨g, o, none⟩), .agg #[.string ⟨a.n.toArray⟩, .int .i64 a.a.m, .int .i64 a.a.u]] w (NotePost a l w g o base T cs v) := by
  have HOWN := Lib.hid hown
  have HB := Lib.hid hb
  have HO := Lib.hid ho
  obtain ⟨A, c, rfl, hc1, hc2⟩ := own_form hown
  obtain ⟨nm, m, u⟩ := a
  have hlt := hb.lt
  have h0 : w.cell? ⟨g, o, none⟩ = some (.slice A l.length c) := (hb.cell o).trans ho
  have hr := Sits.of_own hown
  have hq := at_eql
  have hg := at_guard
  have HN := Lib.hid (NoteTo.zero l ⟨nm, ⟨m, u⟩⟩)
  obtain ⟨bE, hx0⟩ := box1 w #[.string ⟨nm.toArray⟩, .int .i64 m, .int .i64 u] 25
  have hne : g ≠ w.heap.size := by omega
  clear ho
  go_enter Tryd.func56, Tryd.ntmps56
  go_wp2
  generalize (w.alloc (.cells #[.string ⟨nm.toArray⟩, .int .i64 m, .int .i64 u] 25)) = w1 at *
  go_loopw [11] (fun i wr => ∃ j : Nat, j ≤ l.length ∧ i = .int .i64 j ∧ Ext w1 wr ∧ Hid (NoteTo l ⟨nm, ⟨m, u⟩⟩ j)) (fun i _ => l.length - (intOf i).toNat)
  case atStart => exact ⟨0, by omega, rfl, Ext.rfl', HN⟩
  case round =>
    obtain ⟨j, hj, rfl, hx, HJ⟩ := hrel
    have hx2 := hx0.tr hx
    have bEr := bE.ext hx
    have e0 : wr.cell? ⟨w.heap.size, 0, none⟩ = some (.string ⟨nm.toArray⟩) := bEr.cell 0
    have e1 : wr.cell? ⟨w.heap.size, 1, none⟩ = some (.int .i64 m) := bEr.cell 1
    have e2 : wr.cell? ⟨w.heap.size, 2, none⟩ = some (.int .i64 u) := bEr.cell 2
    have hbs2 := bEr.lt
    by_cases hlt2 : j < l.length
    · obtain ⟨b, p, rfl, c0, c1, c2⟩ := (hr.ext hx2).atoms hlt2
      have H1 := Lib.hid (HJ.out.hit hlt2)
      have H2 := Lib.hid (HJ.out.name hlt2)
      have H3 := Lib.hid (HJ.out.step hlt2)
      generalize l[j] = x at *
      obtain ⟨xn, xm, xu⟩ := x
      simp only at c0 c1 c2
      have hbb : b ≠ wr.heap.size := by have := World.block_lt_of_cell? _ _ c0; simp at this; omega
      have hwn : w.heap.size ≠ wr.heap.size := by omega
      have hx3 := hx2.tr (Ext.new wr (.cells #[.string ⟨xn.toArray⟩, .int .i64 xm, .int .i64 xu] 25))
      by_cases heq : nm = xn ∧ m = xm ∧ u = xu
      · obtain ⟨rfl, rfl, rfl⟩ := heq
        go_wp2
        go_ret
        exact NotePost.same HB.out HO.out HOWN.out hx3 (H1.out (by simp))
      · have HQ := Lib.hid heq
        have hfe : decide ((⟨nm, ⟨m, u⟩⟩ : CL.At) = ⟨xn, ⟨xm, xu⟩⟩) = false := by simpa using heq
        have hq1 := fun W => (at_eql nm xn m u xm xu W).trans (by rw [hfe])
        clear heq hfe hq
        go_wp2
        · go_ret
          exact NotePost.same HB.out HO.out HOWN.out hx3 (H2.out (by have := HQ.out; grind) (by grind))
        · exact ⟨⟨j + 1, by omega, by go_num, hx.tr (Ext.new _ _), Lib.hid (H3.out (by have := HQ.out; grind) (by grind))⟩, by simp [intOf]; omega⟩
    · have HD := Lib.hid (HJ.out.done (by omega))
      have h1 : wr.cell? ⟨g, o, none⟩ = some (.slice A l.length c) := hx2.cell h0
      by_cases h8 : l.length = 8
      · have h8' : ((l.length : Int) == 8) = true := by simp [h8]
        go_wp2
        go_ret
        exact NotePost.same HB.out HO.out HOWN.out hx2 (HD.out.trans (if_pos h8))
      · have h8' : ((l.length : Int) == 8) = false := beq_eq_false_iff_ne.2 (by omega)
        go_wp2
        have hbr := hb.ext hx2
        have hownr := own_ext hown hx2
        have f1 := hbr.frozen o
        have n1 : some g ≠ (Value.slice A l.length c).ownBlock := Ne.symm (own_ne hownr hbr hT)
        have hne3 : g ≠ wr.heap.size := by have := hbr.lt; omega
        have hBr := hx2.size
        have x1 : (wr.alloc (.cells #[.string ⟨nm.toArray⟩, .int .i64 m, .int .i64 u] 25)).cell? ⟨g, o, none⟩ = some (.slice A l.length c) := ((hbr.alloc _).cell o).trans HO.out
        go_region_law
          ((refine step_append_row _ (by rfl) _ _ _ (by rfl) base 25 3 32 _ Tryd.underlying60 at_info rfl (by omega) (.slice A l.length c) l.length (ats l) (by rfl) ((hownr.alloc _).drew) _ _ _ [.string ⟨nm.toArray⟩, .int .i64 m, .int .i64 u] (by rfl) (by rfl) (Sits.drew (Sits.new _ _ _)) (by simp [Value.oneCell']) (by simp only [maxLen]; omega) (by omega) (by simp; omega) ?_; intro v3 w3 hown3 hb3 hg3 hrow3; obtain ⟨A3, c3, rfl, hc3, hc4⟩ := own_form hown3; have e3 : w3.cell? ⟨g, o, none⟩ = some (.slice A l.length c) := hg3.cell x1 n1; have f3 : w3.frozen? ⟨g, o, none⟩ = false := hg3.frozenB ((hbr.alloc _)) n1 o))
        all_goals
          have hb4 := hg3.blk (hbr.alloc _) n1
          go_wp2
          go_ret
          have hn := HD.out.trans (if_neg h8)
          refine ⟨by rw [hn]; rfl, .slice A3 (l.length + 1) c3, hb4.set o _, ?_, ?_, ?_⟩
          · rw [hn, ats_snoc, List.length_append]
            exact own_only hown3 (Only.rf.set o _) (own_ne hown3 hb4 hT)
          · have k1 : Rl.Chg (fun b => b = g ∨ (Value.slice A l.length c).ownBlock = some b) w w3 := Chg.tr (Rl.Chg.of_ext (hx2.tr ((Ext.new _ _).tr (Ext.drawn _)))) (Rl.Chg.of_grown (E := fun b => b = g ∨ (Value.slice A l.length c).ownBlock = some b) hg3 (fun x e => Or.inr e)) (fun i hi => Or.inl hi)
            exact Chg.tr k1 (Rl.Chg.of_grown (E := fun b => b = g) (r := some g) (Only.rf.set o _) (fun x e => by injection e with e; exact e.symm)) (fun i hi => Or.inl (Or.inl hi))
          · rcases hrow3 with e | e
            · exact Or.inl e
            · refine Or.inr ⟨_, e, ?_⟩
              simp; omega
theorem note_le (l : List CL.At) (a : CL.At) (h : l.length ≤ 8) : (CL.note l a).2.length ≤ 8 := by
  unfold CL.note
  repeat' split
  all_goals simp only [List.length_append, List.length_cons, List.length_nil]
  all_goals omega
/-- the parser's atoms, with a new one -/
theorem PSt.note {w w' : World} {g B base : Nat} {A : Option Addr} {c : Nat} {all : List CL.Tk} {v : Value} {k : Nat} {s : CL.PS} (h : PSt w g B base A c all v k s) {a : CL.At} {r : Ending}
    (hp : NotePost a s.l w g 3 base 70 #[.slice A all.length c, .int .i64 k, .int .i64 s.n, v] v r w') :
    r = .returned (.int .i64 (CL.note s.l a).1) ∧ ∃ v', PSt w' g B base A c all v' k ⟨s.n, (CL.note s.l a).2, s.r⟩ ∧ Mv g v v' w w' := by
  obtain ⟨hr, v', hb, hown, hm⟩ := hp
  refine ⟨hr, v', ⟨h.hk, h.last, h.r, by simpa using hb, hown, h.tk.below (h.below hm), h.Bg, h.Bb, Nat.le_trans h.bs hm.chg.size, h.len, note_le _ _ h.l8, h.n30, h.ok⟩, hm⟩
theorem Blk.mv {w w' : World} {g p : Nat} {v v' : Value} {T : TypeId} {cs : Array Value} (h : Blk w p T cs) (hm : Mv g v v' w w') (hpg : p ≠ g) (hv : v.ownBlock ≠ some p) : Blk w' p T cs :=
  Rl.Chg.blk hm.chg h (fun e => by rcases e with e | e; exact hpg e; exact hv e)
end Go.Proofs.YtlfnpkjfnafeaaaDoor
/- The walks of the program's parser, third part: atom. -/
namespace Go.Proofs.YtlfnpkjfnafeaaaDoor
open Go.RowKit
set_option linter.unusedVariables false
set_option maxRecDepth 100000
variable {w : World} {g B base : Nat} {A : Option Addr} {c : Nat} {all : List CL.Tk} {v : Value} {k : Nat} {s : CL.PS}
/-- an error of the parser, or the expression that is read -/
def ExPost (w : World) (g B base : Nat) (A : Option Addr) (c : Nat) (all : List CL.Tk) (v : Value) (r : CL.PR CL.Ex) (e : Ending) (w' : World) : Prop := match r with
  | .error p => e = failE p.1 p.2 ∧ Below B w w'
  | .ok x => ∃ cs v' k', e = .returned (.agg cs.toArray) ∧ PSt w' g B base A c all v' k' x.2 ∧ Mv g v v' w w' ∧ RdF w' w.heap.size w'.heap.size [v'.ownBlock] x.1 cs
theorem ex_isz : (Tryd.prog.info? 28).map (·.size) = some 5 := by kernel_rfl
theorem at_isz : (Tryd.prog.info? 25).map (·.size) = some 3 := by kernel_rfl
theorem tok_num (a b c d : Value) (W : World) : (Instr.field 52 (.agg #[a, b, c, d]) 2).run Tryd.prog W = .ok c W := by kernel_rfl
set_option maxHeartbeats 1600000 in
theorem parser.atom_mode (h : PSt w g B base A c all v k s) (nm : CL.Tk) (hs : CL.sees 4 [58] s = true) (h2 : s.next.hd.kind = 2) (hn : nm.text.length ≤ maxLen) :
    Calls Tryd.prog 68 #[.pointer (some ⟨g, 0, none⟩), tkv nm] w (ExPost w g B base A c all v (CL.addA nm ⟨nm.text, ⟨s.next.hd.num, 0⟩⟩ s.next.next)) := by
  have hk5 : s.hd.kind ≠ 5 := by rw [sees_kind hs]; decide
  have g1 := h.wr
  obtain ⟨nk, nt, nn, np⟩ := nm
  have hx0 : Ext w (((w.alloc (.cells #[.int .i64 nk, .string ⟨nt.toArray⟩, .int .i64 nn, .int .i64 np] 52)).alloc (.cells #[.int .i64 0, .string ⟨#[]⟩, .int .i64 0, .int .i64 0, .slice none 0 0] 28)).alloc (.cells #[.string ⟨nt.toArray⟩, .int .i64 0, .int .i64 0] 25)) := (Ext.new _ _).tr ((Ext.new _ _).tr (Ext.new _ _))
  have bN := (Blk.new w 52 #[.int .i64 nk, .string ⟨nt.toArray⟩, .int .i64 nn, .int .i64 np]).alloc (.cells #[.int .i64 0, .string ⟨#[]⟩, .int .i64 0, .int .i64 0, .slice none 0 0] 28) |>.alloc (.cells #[.string ⟨nt.toArray⟩, .int .i64 0, .int .i64 0] 25)
  have bR := (Blk.new (w.alloc (.cells #[.int .i64 nk, .string ⟨nt.toArray⟩, .int .i64 nn, .int .i64 np] 52)) 28 #[.int .i64 0, .string ⟨#[]⟩, .int .i64 0, .int .i64 0, .slice none 0 0]).alloc (.cells #[.string ⟨nt.toArray⟩, .int .i64 0, .int .i64 0] 25)
  have bA := Blk.new ((w.alloc (.cells #[.int .i64 nk, .string ⟨nt.toArray⟩, .int .i64 nn, .int .i64 np] 52)).alloc (.cells #[.int .i64 0, .string ⟨#[]⟩, .int .i64 0, .int .i64 0, .slice none 0 0] 28)) 25 #[.string ⟨nt.toArray⟩, .int .i64 0, .int .i64 0]
  simp only [World.size_alloc] at bR bA
  have hlt := h.blk.lt
  have hB0 := h.Bs
  have HY := fun p (hp : w.heap.size ≤ p) => h.young hp
  have hS0 := Lib.hid (h.ext hx0)
  have hS1 := Lib.hid h
  have hq := tok_num
  have HC := parser.sees_c (h.ext hx0) 4 [58]
  rw [hs] at HC
  clear h hs
  unfold tkv
  go_enter Tryd.func68, Tryd.ntmps68
  go_wp2_with (first
    | (go_at_call 69; refine HC.mono ?_; rintro e w1 ⟨rfl, hx1⟩; obtain ⟨e1, f1, _, _, m1⟩ := (hS0.out.ext hx1).facts)
    | (go_at_call 37; have hP := (hS0.out.ext hx1).next hk5; refine (parser.take_ok hP.1 2 h2).mono ?_; rintro e w2 ⟨rfl, hp2, hm2⟩; unfold tkv; have hM := ((Mv.of_ext (v := v) (g := g) hx1).tr hP.2).tr hm2; have hp2 := Lib.hid (hp2 (by decide)); have bN2 := Lib.hid (bN.mv hM (by omega) (HY _ (Nat.le_refl _))); have bR2 := Lib.hid (bR.mv hM (by omega) (HY _ (by omega))); have bA2 := Lib.hid (bA.mv hM (by omega) (HY _ (by omega))); have a0 := bA2.out.cell 0; have a1 := bA2.out.cell 1; have a2 := bA2.out.cell 2; have af := bA2.out.frozen 1; have z2 := bA2.out.lt; have hM := Lib.hid ((Mv.of_ext hx0).tr hM); clear hP hm2))
  have hnn : w.heap.size + 1 + 1 ≠ g := by omega
  have hp3 := hp2.out.only (HY _ (by omega)) (Ne.symm hnn) (by omega) (Only.rf.set (g := w.heap.size + 1 + 1) 1 (.int .i64 s.next.hd.num))
  have hM3 := hM.out.only (p := w.heap.size + 1 + 1) (Only.rf.set (g := w.heap.size + 1 + 1) 1 (.int .i64 s.next.hd.num)) (by omega)
  have bA3 := bA2.out.set 1 (.int .i64 s.next.hd.num)
  have bR3 := bR2.out.only (Only.rf.set (g := w.heap.size + 1 + 1) 1 (.int .i64 s.next.hd.num)) (by omega)
  have bN3 := bN2.out.only (Only.rf.set (g := w.heap.size + 1 + 1) 1 (.int .i64 s.next.hd.num)) (by omega)
  generalize (w2.setCell ⟨w.heap.size + 1 + 1, 1, none⟩ (.int .i64 s.next.hd.num)) = w3 at *
  generalize s.next.hd.num = md at *
  have a0 : w3.cell? ⟨w.heap.size + 1 + 1, 0, none⟩ = some (.string ⟨nt.toArray⟩) := bA3.cell 0
  have a1 : w3.cell? ⟨w.heap.size + 1 + 1, 1, none⟩ = some (.int .i64 md) := bA3.cell 1
  have a2 : w3.cell? ⟨w.heap.size + 1 + 1, 2, none⟩ = some (.int .i64 0) := bA3.cell 2
  have HN := request.note_g ⟨nt, ⟨md, 0⟩⟩ s.l w3.drew g 3 base 70 _ v hp3.bs hp3.l8 hp3.blk rfl (by decide) hp3.own
  have HF := fun m w' => request.fail_c ⟨nk, nt, nn, np⟩ m w'
  unfold tkv failE at HF
  have hp3 := Lib.hid (hp3.ext (Ext.drawn _))
  have hM3 := Lib.hid hM3
  have bN3 := Lib.hid bN3
  have bR3 := Lib.hid bR3
  have bA3 := Lib.hid bA3
  have hwz := bA3.out.lt
  clear e1 f1 m1
  go_still_tail 4, (by kernel_rfl)
  change wpList _ _ _ _ _ w3.drew
  clear a0 a1 a2
  by_cases hcode : (CL.note s.next.next.l ⟨nt, ⟨md, 0⟩⟩).1 = 0
  · have HR : CL.addA ⟨nk, nt, nn, np⟩ ⟨nt, ⟨md, 0⟩⟩ s.next.next = .ok (.mk 0 ⟨nt, ⟨md, 0⟩⟩ [], ⟨s.next.next.n, (CL.note s.next.next.l ⟨nt, ⟨md, 0⟩⟩).2, s.next.next.r⟩) := by unfold CL.addA; exact if_pos hcode
    rw [HR]
    have HR := Lib.hid HR
    go_wp2_with (first
      | (go_at_call 56; refine HN.mono ?_; intro e w4 hnp; obtain ⟨he, v4, hp4, hm4⟩ := hp3.out.note hnp; replace hm4 := (Mv.of_ext (g := g) (v := v) (Ext.drawn w3)).tr hm4; rw [hcode] at he; subst he; have a0 := (bA3.out.mv hm4 (by omega) (HY _ (by omega))).cell 0; have a1 := (bA3.out.mv hm4 (by omega) (HY _ (by omega))).cell 1; have a2 := (bA3.out.mv hm4 (by omega) (HY _ (by omega))).cell 2; have bR4 := Lib.hid (bR3.out.mv hm4 (by omega) (HY _ (by omega))); have hp4 := Lib.hid hp4; have hm4 := Lib.hid hm4; have hY4 := Lib.hid (own_ne hp4.out.own bR4.out (by decide)); have hsz := hm4.out.chg.size)
      | (with_reducible refine is_store 28 (.tmp 4) (.tmp 66) rfl ?_; refine wpList_store_blk rfl rfl 28 (.tmp 4) (.tmp 66) rfl (w.heap.size + 1) #[.int .i64 0, .string ⟨nt.toArray⟩, .int .i64 md, .int .i64 0, .slice none 0 0] rfl rfl _ _ bR4.out 5 ex_isz rfl rfl (by simp [Value.oneCell']) ?_; intro w5 hB5 ho5; have r0 := hB5.cell 0; have r1 := hB5.cell 1; have r2 := hB5.cell 2; have r3 := hB5.cell 3; have r4 := hB5.cell 4; clear hB5))
    refine bodyPost_ret (by simp [results, Tryd.results68, go_sem, r0, r1, r2, r3, r4]; try rfl) rfl ?_
    rw [HR.out]
    refine ⟨_, v4, k + 1 + 1, rfl, hp4.out.only hY4.out (by omega) (by omega) ho5, (hM3.out.tr hm4.out).only ho5 (by omega), RdF.leaf _ _ _ _ 0 ⟨nt, ⟨md, 0⟩⟩ hn⟩
  · have HR : CL.addA ⟨nk, nt, nn, np⟩ ⟨nt, ⟨md, 0⟩⟩ s.next.next = .error (np, (CL.note s.next.next.l ⟨nt, ⟨md, 0⟩⟩).1) := by unfold CL.addA; exact if_neg hcode
    rw [HR]
    have hc1 : ((CL.note s.next.next.l ⟨nt, ⟨md, 0⟩⟩).1 == 0) = false := by simpa using hcode
    go_wp2_with (first
      | (go_at_call 56; refine HN.mono ?_; intro e w4 hnp; obtain ⟨he, v4, hp4, hm4⟩ := hp3.out.note hnp; replace hm4 := (Mv.of_ext (g := g) (v := v) (Ext.drawn w3)).tr hm4; subst he; obtain ⟨⟨n0, n1, n2, n3⟩, _⟩ := (bN3.out.mv hm4 (by omega) (HY _ (by omega))).c4; have hm4 := Lib.hid hm4; have hc2 := Lib.hid hcode; clear hp4)
      | (go_at_call 65; refine (HF _ _).mono ?_; rintro e w5 ⟨rfl, hx5⟩))
    exact ⟨rfl, rfl, below_ext (hS1.out.below (hM3.out.tr hm4.out)) hx5 hB0⟩
set_option maxHeartbeats 1600000 in
theorem parser.atom_mode_er (h : PSt w g B base A c all v k s) (nm : CL.Tk) (hs : CL.sees 4 [58] s = true) (h2 : s.next.hd.kind ≠ 2) :
    Calls Tryd.prog 68 #[.pointer (some ⟨g, 0, none⟩), tkv nm] w fun e w' => e = failE s.next.hd.pos 8 ∧ Below B w w' := by
  have hk5 : s.hd.kind ≠ 5 := by rw [sees_kind hs]; decide
  have g1 := h.wr
  obtain ⟨nk, nt, nn, np⟩ := nm
  have hx0 : Ext w (((w.alloc (.cells #[.int .i64 nk, .string ⟨nt.toArray⟩, .int .i64 nn, .int .i64 np] 52)).alloc (.cells #[.int .i64 0, .string ⟨#[]⟩, .int .i64 0, .int .i64 0, .slice none 0 0] 28)).alloc (.cells #[.string ⟨nt.toArray⟩, .int .i64 0, .int .i64 0] 25)) := (Ext.new _ _).tr ((Ext.new _ _).tr (Ext.new _ _))
  have bN := (Blk.new w 52 #[.int .i64 nk, .string ⟨nt.toArray⟩, .int .i64 nn, .int .i64 np]).alloc (.cells #[.int .i64 0, .string ⟨#[]⟩, .int .i64 0, .int .i64 0, .slice none 0 0] 28) |>.alloc (.cells #[.string ⟨nt.toArray⟩, .int .i64 0, .int .i64 0] 25)
  have bR := (Blk.new (w.alloc (.cells #[.int .i64 nk, .string ⟨nt.toArray⟩, .int .i64 nn, .int .i64 np] 52)) 28 #[.int .i64 0, .string ⟨#[]⟩, .int .i64 0, .int .i64 0, .slice none 0 0]).alloc (.cells #[.string ⟨nt.toArray⟩, .int .i64 0, .int .i64 0] 25)
  have bA := Blk.new ((w.alloc (.cells #[.int .i64 nk, .string ⟨nt.toArray⟩, .int .i64 nn, .int .i64 np] 52)).alloc (.cells #[.int .i64 0, .string ⟨#[]⟩, .int .i64 0, .int .i64 0, .slice none 0 0] 28)) 25 #[.string ⟨nt.toArray⟩, .int .i64 0, .int .i64 0]
  simp only [World.size_alloc] at bR bA
  have hlt := h.blk.lt
  have hB0 := h.Bs
  have HY := fun p (hp : w.heap.size ≤ p) => h.young hp
  have hS0 := Lib.hid (h.ext hx0)
  have hS1 := Lib.hid h
  have hq := tok_num
  have HC := parser.sees_c (h.ext hx0) 4 [58]
  rw [hs] at HC
  clear h hs
  unfold tkv failE
  go_enter Tryd.func68, Tryd.ntmps68
  go_wp2_with (first
    | (go_at_call 69; refine HC.mono ?_; rintro e w1 ⟨rfl, hx1⟩; obtain ⟨e1, f1, _, _, m1⟩ := (hS0.out.ext hx1).facts)
    | (go_at_call 37; have hP := (hS0.out.ext hx1).next hk5; refine (parser.take_er hP.1 2 h2).mono ?_; rintro e w2 ⟨rfl, hx2⟩; unfold failE; have hM := Lib.hid ((Mv.of_ext (v := v) (g := g) (hx0.tr hx1)).tr hP.2); clear hP))
  exact ⟨rfl, rfl, below_ext (hS1.out.below hM.out) hx2 hB0⟩
set_option maxHeartbeats 1600000 in
theorem parser.atom_none (h : PSt w g B base A c all v k s) (nm : CL.Tk) (hs : CL.sees 4 [58] s = false) (hs2 : CL.sees 4 [42] s = false) :
    Calls Tryd.prog 68 #[.pointer (some ⟨g, 0, none⟩), tkv nm] w fun e w' => e = failE s.hd.pos 8 ∧ Below B w w' := by
  have g1 := h.wr
  obtain ⟨nk, nt, nn, np⟩ := nm
  have hx0 : Ext w (((w.alloc (.cells #[.int .i64 nk, .string ⟨nt.toArray⟩, .int .i64 nn, .int .i64 np] 52)).alloc (.cells #[.int .i64 0, .string ⟨#[]⟩, .int .i64 0, .int .i64 0, .slice none 0 0] 28)).alloc (.cells #[.string ⟨nt.toArray⟩, .int .i64 0, .int .i64 0] 25)) := (Ext.new _ _).tr ((Ext.new _ _).tr (Ext.new _ _))
  have bN := (Blk.new w 52 #[.int .i64 nk, .string ⟨nt.toArray⟩, .int .i64 nn, .int .i64 np]).alloc (.cells #[.int .i64 0, .string ⟨#[]⟩, .int .i64 0, .int .i64 0, .slice none 0 0] 28) |>.alloc (.cells #[.string ⟨nt.toArray⟩, .int .i64 0, .int .i64 0] 25)
  have bR := (Blk.new (w.alloc (.cells #[.int .i64 nk, .string ⟨nt.toArray⟩, .int .i64 nn, .int .i64 np] 52)) 28 #[.int .i64 0, .string ⟨#[]⟩, .int .i64 0, .int .i64 0, .slice none 0 0]).alloc (.cells #[.string ⟨nt.toArray⟩, .int .i64 0, .int .i64 0] 25)
  have bA := Blk.new ((w.alloc (.cells #[.int .i64 nk, .string ⟨nt.toArray⟩, .int .i64 nn, .int .i64 np] 52)).alloc (.cells #[.int .i64 0, .string ⟨#[]⟩, .int .i64 0, .int .i64 0, .slice none 0 0] 28)) 25 #[.string ⟨nt.toArray⟩, .int .i64 0, .int .i64 0]
  simp only [World.size_alloc] at bR bA
  have hlt := h.blk.lt
  have hB0 := h.Bs
  have HY := fun p (hp : w.heap.size ≤ p) => h.young hp
  have hS0 := Lib.hid (h.ext hx0)
  have hS1 := Lib.hid h
  have hq := tok_num
  have HC := parser.sees_c (h.ext hx0) 4 [58]
  have HC2 := fun w' (hx : Ext _ w') => parser.sees_c ((h.ext hx0).ext hx) 4 [42]
  have HP := fun w' (hx : Ext _ w') => parser.peek_c ((h.ext hx0).ext hx)
  have HF := fun m w' => request.fail_c s.hd m w'
  rw [hs] at HC
  rw [hs2] at HC2
  clear h hs hs2
  unfold tkv failE at *
  go_enter Tryd.func68, Tryd.ntmps68
  go_wp2_with (first
    | (go_at_call 69; refine HC.mono ?_; rintro e w1 ⟨rfl, hx1⟩; clear HC)
    | (go_at_call 69; refine (HC2 _ hx1).mono ?_; rintro e w2 ⟨rfl, hx2⟩)
    | (go_at_call 63; refine (HP _ (hx1.tr hx2)).mono ?_; rintro e w3 ⟨rfl, hx3⟩)
    | (go_at_call 65; refine (HF _ _).mono ?_; rintro e w4 ⟨rfl, hx4⟩))
  exact ⟨rfl, rfl, (hx0.tr (hx1.tr (hx2.tr (hx3.tr hx4)))).mono hB0⟩
set_option maxHeartbeats 1600000 in
theorem parser.atom_unit_er (h : PSt w g B base A c all v k s) (nm : CL.Tk) (hs : CL.sees 4 [58] s = false) (hs2 : CL.sees 4 [42] s = true) (h2 : s.next.hd.kind ≠ 3) :
    Calls Tryd.prog 68 #[.pointer (some ⟨g, 0, none⟩), tkv nm] w fun e w' => e = failE s.next.hd.pos 8 ∧ Below B w w' := by
  have hk5 : s.hd.kind ≠ 5 := by rw [sees_kind hs2]; decide
  have g1 := h.wr
  obtain ⟨nk, nt, nn, np⟩ := nm
  have hx0 : Ext w (((w.alloc (.cells #[.int .i64 nk, .string ⟨nt.toArray⟩, .int .i64 nn, .int .i64 np] 52)).alloc (.cells #[.int .i64 0, .string ⟨#[]⟩, .int .i64 0, .int .i64 0, .slice none 0 0] 28)).alloc (.cells #[.string ⟨nt.toArray⟩, .int .i64 0, .int .i64 0] 25)) := (Ext.new _ _).tr ((Ext.new _ _).tr (Ext.new _ _))
  have bN := (Blk.new w 52 #[.int .i64 nk, .string ⟨nt.toArray⟩, .int .i64 nn, .int .i64 np]).alloc (.cells #[.int .i64 0, .string ⟨#[]⟩, .int .i64 0, .int .i64 0, .slice none 0 0] 28) |>.alloc (.cells #[.string ⟨nt.toArray⟩, .int .i64 0, .int .i64 0] 25)
  have bR := (Blk.new (w.alloc (.cells #[.int .i64 nk, .string ⟨nt.toArray⟩, .int .i64 nn, .int .i64 np] 52)) 28 #[.int .i64 0, .string ⟨#[]⟩, .int .i64 0, .int .i64 0, .slice none 0 0]).alloc (.cells #[.string ⟨nt.toArray⟩, .int .i64 0, .int .i64 0] 25)
  have bA := Blk.new ((w.alloc (.cells #[.int .i64 nk, .string ⟨nt.toArray⟩, .int .i64 nn, .int .i64 np] 52)).alloc (.cells #[.int .i64 0, .string ⟨#[]⟩, .int .i64 0, .int .i64 0, .slice none 0 0] 28)) 25 #[.string ⟨nt.toArray⟩, .int .i64 0, .int .i64 0]
  simp only [World.size_alloc] at bR bA
  have hlt := h.blk.lt
  have hB0 := h.Bs
  have HY := fun p (hp : w.heap.size ≤ p) => h.young hp
  have hS0 := Lib.hid (h.ext hx0)
  have hS1 := Lib.hid h
  have hq := tok_num
  have HC := parser.sees_c (h.ext hx0) 4 [58]
  have HC2 := fun w' (hx : Ext _ w') => parser.sees_c ((h.ext hx0).ext hx) 4 [42]
  rw [hs] at HC
  rw [hs2] at HC2
  clear h hs hs2
  unfold tkv failE
  go_enter Tryd.func68, Tryd.ntmps68
  go_wp2_with (first
    | (go_at_call 69; refine HC.mono ?_; rintro e w0 ⟨rfl, hx9⟩; clear HC)
    | (go_at_call 69; refine (HC2 _ hx9).mono ?_; rintro e w1 ⟨rfl, hx1⟩; replace hx1 := hx9.tr hx1; clear hx9; obtain ⟨e1, f1, _, _, m1⟩ := (hS0.out.ext hx1).facts)
    | (go_at_call 37; have hP := (hS0.out.ext hx1).next hk5; refine (parser.take_er hP.1 3 h2).mono ?_; rintro e w2 ⟨rfl, hx2⟩; unfold failE; have hM := Lib.hid ((Mv.of_ext (v := v) (g := g) (hx0.tr hx1)).tr hP.2); clear hP))
  exact ⟨rfl, rfl, below_ext (hS1.out.below hM.out) hx2 hB0⟩
set_option maxHeartbeats 1600000 in
theorem parser.atom_unit_bad (h : PSt w g B base A c all v k s) (nm : CL.Tk) (hs : CL.sees 4 [58] s = false) (hs2 : CL.sees 4 [42] s = true) (h2 : s.next.hd.kind = 3) (h3 : s.next.hd.num < 1 ∨ 8 < s.next.hd.num) :
    Calls Tryd.prog 68 #[.pointer (some ⟨g, 0, none⟩), tkv nm] w fun e w' => e = failE s.next.hd.pos 12 ∧ Below B w w' := by
  have hk5 : s.hd.kind ≠ 5 := by rw [sees_kind hs2]; decide
  have g1 := h.wr
  obtain ⟨nk, nt, nn, np⟩ := nm
  have hx0 : Ext w (((w.alloc (.cells #[.int .i64 nk, .string ⟨nt.toArray⟩, .int .i64 nn, .int .i64 np] 52)).alloc (.cells #[.int .i64 0, .string ⟨#[]⟩, .int .i64 0, .int .i64 0, .slice none 0 0] 28)).alloc (.cells #[.string ⟨nt.toArray⟩, .int .i64 0, .int .i64 0] 25)) := (Ext.new _ _).tr ((Ext.new _ _).tr (Ext.new _ _))
  have bN := (Blk.new w 52 #[.int .i64 nk, .string ⟨nt.toArray⟩, .int .i64 nn, .int .i64 np]).alloc (.cells #[.int .i64 0, .string ⟨#[]⟩, .int .i64 0, .int .i64 0, .slice none 0 0] 28) |>.alloc (.cells #[.string ⟨nt.toArray⟩, .int .i64 0, .int .i64 0] 25)
  have bR := (Blk.new (w.alloc (.cells #[.int .i64 nk, .string ⟨nt.toArray⟩, .int .i64 nn, .int .i64 np] 52)) 28 #[.int .i64 0, .string ⟨#[]⟩, .int .i64 0, .int .i64 0, .slice none 0 0]).alloc (.cells #[.string ⟨nt.toArray⟩, .int .i64 0, .int .i64 0] 25)
  have bA := Blk.new ((w.alloc (.cells #[.int .i64 nk, .string ⟨nt.toArray⟩, .int .i64 nn, .int .i64 np] 52)).alloc (.cells #[.int .i64 0, .string ⟨#[]⟩, .int .i64 0, .int .i64 0, .slice none 0 0] 28)) 25 #[.string ⟨nt.toArray⟩, .int .i64 0, .int .i64 0]
  simp only [World.size_alloc] at bR bA
  have hlt := h.blk.lt
  have hB0 := h.Bs
  have HY := fun p (hp : w.heap.size ≤ p) => h.young hp
  have hS0 := Lib.hid (h.ext hx0)
  have hS1 := Lib.hid h
  have hq := tok_num
  have HC := parser.sees_c (h.ext hx0) 4 [58]
  have HC2 := fun w' (hx : Ext _ w') => parser.sees_c ((h.ext hx0).ext hx) 4 [42]
  rw [hs] at HC
  rw [hs2] at HC2
  clear h hs hs2
  have HF := fun m w' => request.fail_c s.next.hd m w'
  unfold tkv failE at *
  rw [h2] at HF
  have hc : (s.next.hd.num < 1) ∨ (decide (s.next.hd.num < 1) = false ∧ 8 < s.next.hd.num) := by
    by_cases h1 : s.next.hd.num < 1
    · exact .inl h1
    · exact .inr ⟨by simpa using h1, by omega⟩
  clear h3
  rcases hc with hc | ⟨hc1, hc2⟩
  all_goals
    go_enter Tryd.func68, Tryd.ntmps68
    go_wp2_with (first
      | (go_at_call 69; refine HC.mono ?_; rintro e w0 ⟨rfl, hx9⟩; clear HC)
      | (go_at_call 69; refine (HC2 _ hx9).mono ?_; rintro e w1 ⟨rfl, hx1⟩; replace hx1 := hx9.tr hx1; clear hx9; obtain ⟨e1, f1, _, _, m1⟩ := (hS0.out.ext hx1).facts)
      | (go_at_call 37; have hP := (hS0.out.ext hx1).next hk5; refine (parser.take_ok hP.1 3 h2).mono ?_; rintro e w2 ⟨rfl, _, hm2⟩; unfold tkv; have hM := Lib.hid (((Mv.of_ext (v := v) (g := g) (hx0.tr hx1)).tr hP.2).tr hm2); clear hP hm2)
      | (go_at_call 65; refine (HF _ _).mono ?_; rintro e w4 ⟨rfl, hx4⟩))
    exact ⟨rfl, rfl, below_ext (hS1.out.below hM.out) ((Ext.new _ _).tr hx4) hB0⟩
set_option maxHeartbeats 1600000 in
theorem parser.atom_unit (h : PSt w g B base A c all v k s) (nm : CL.Tk) (hs : CL.sees 4 [58] s = false) (hs2 : CL.sees 4 [42] s = true) (h2 : s.next.hd.kind = 3) (h3 : ¬ (s.next.hd.num < 1 ∨ 8 < s.next.hd.num)) (hn : nm.text.length ≤ maxLen) :
    Calls Tryd.prog 68 #[.pointer (some ⟨g, 0, none⟩), tkv nm] w (ExPost w g B base A c all v (CL.addA nm ⟨nm.text, ⟨0, s.next.hd.num⟩⟩ s.next.next)) := by
  have hk5 : s.hd.kind ≠ 5 := by rw [sees_kind hs2]; decide
  have g1 := h.wr
  obtain ⟨nk, nt, nn, np⟩ := nm
  have hx0 : Ext w (((w.alloc (.cells #[.int .i64 nk, .string ⟨nt.toArray⟩, .int .i64 nn, .int .i64 np] 52)).alloc (.cells #[.int .i64 0, .string ⟨#[]⟩, .int .i64 0, .int .i64 0, .slice none 0 0] 28)).alloc (.cells #[.string ⟨nt.toArray⟩, .int .i64 0, .int .i64 0] 25)) := (Ext.new _ _).tr ((Ext.new _ _).tr (Ext.new _ _))
  have bN := (Blk.new w 52 #[.int .i64 nk, .string ⟨nt.toArray⟩, .int .i64 nn, .int .i64 np]).alloc (.cells #[.int .i64 0, .string ⟨#[]⟩, .int .i64 0, .int .i64 0, .slice none 0 0] 28) |>.alloc (.cells #[.string ⟨nt.toArray⟩, .int .i64 0, .int .i64 0] 25)
  have bR := (Blk.new (w.alloc (.cells #[.int .i64 nk, .string ⟨nt.toArray⟩, .int .i64 nn, .int .i64 np] 52)) 28 #[.int .i64 0, .string ⟨#[]⟩, .int .i64 0, .int .i64 0, .slice none 0 0]).alloc (.cells #[.string ⟨nt.toArray⟩, .int .i64 0, .int .i64 0] 25)
  have bA := Blk.new ((w.alloc (.cells #[.int .i64 nk, .string ⟨nt.toArray⟩, .int .i64 nn, .int .i64 np] 52)).alloc (.cells #[.int .i64 0, .string ⟨#[]⟩, .int .i64 0, .int .i64 0, .slice none 0 0] 28)) 25 #[.string ⟨nt.toArray⟩, .int .i64 0, .int .i64 0]
  simp only [World.size_alloc] at bR bA
  have hlt := h.blk.lt
  have hB0 := h.Bs
  have HY := fun p (hp : w.heap.size ≤ p) => h.young hp
  have hS0 := Lib.hid (h.ext hx0)
  have hS1 := Lib.hid h
  have hq := tok_num
  have HC := parser.sees_c (h.ext hx0) 4 [58]
  have HC2 := fun w' (hx : Ext _ w') => parser.sees_c ((h.ext hx0).ext hx) 4 [42]
  rw [hs] at HC
  rw [hs2] at HC2
  clear h hs hs2
  have h3a : decide (s.next.hd.num < 1) = false := by simp; omega
  have h3b : decide (8 < s.next.hd.num) = false := by simp; omega
  clear h3
  unfold tkv
  go_enter Tryd.func68, Tryd.ntmps68
  go_wp2_with (first
    | (go_at_call 69; refine HC.mono ?_; rintro e w0 ⟨rfl, hx9⟩; clear HC)
    | (go_at_call 69; refine (HC2 _ hx9).mono ?_; rintro e w1 ⟨rfl, hx1⟩; replace hx1 := hx9.tr hx1; clear hx9; obtain ⟨e1, f1, _, _, m1⟩ := (hS0.out.ext hx1).facts)
    | (go_at_call 37; have hP := (hS0.out.ext hx1).next hk5; refine (parser.take_ok hP.1 3 h2).mono ?_; rintro e w2 ⟨rfl, hp2, hm2⟩; unfold tkv; have hM := ((Mv.of_ext (v := v) (g := g) hx1).tr hP.2).tr hm2; have hp2 := Lib.hid (hp2 (by decide)); have bN2 := Lib.hid (bN.mv hM (by omega) (HY _ (Nat.le_refl _))); have bR2 := Lib.hid (bR.mv hM (by omega) (HY _ (by omega))); have bA2 := Lib.hid (bA.mv hM (by omega) (HY _ (by omega))); have a0 := bA2.out.cell 0; have a1 := bA2.out.cell 1; have a2 := bA2.out.cell 2; have af := bA2.out.frozen 2; have z2 := bA2.out.lt; have hM := Lib.hid ((Mv.of_ext hx0).tr hM); clear hP hm2))
  have hnn : w.heap.size + 1 + 1 ≠ g := by omega
  have hp3 := (hp2.out.only (HY _ (by omega)) (Ne.symm hnn) (by omega) (Only.rf.set (g := w.heap.size + 1 + 1) 2 (.int .i64 s.next.hd.num))).ext (Ext.new _ (.cells #[.int .i64 3, .string ⟨s.next.hd.text.toArray⟩, .int .i64 s.next.hd.num, .int .i64 s.next.hd.pos] 52))
  have hM3 := (hM.out.only (p := w.heap.size + 1 + 1) (Only.rf.set (g := w.heap.size + 1 + 1) 2 (.int .i64 s.next.hd.num)) (by omega)).tr (Mv.of_ext (Ext.new _ (.cells #[.int .i64 3, .string ⟨s.next.hd.text.toArray⟩, .int .i64 s.next.hd.num, .int .i64 s.next.hd.pos] 52)))
  have bA3 := (bA2.out.set 2 (.int .i64 s.next.hd.num)).alloc (.cells #[.int .i64 3, .string ⟨s.next.hd.text.toArray⟩, .int .i64 s.next.hd.num, .int .i64 s.next.hd.pos] 52)
  have bR3 := (bR2.out.only (Only.rf.set (g := w.heap.size + 1 + 1) 2 (.int .i64 s.next.hd.num)) (by omega)).alloc (.cells #[.int .i64 3, .string ⟨s.next.hd.text.toArray⟩, .int .i64 s.next.hd.num, .int .i64 s.next.hd.pos] 52)
  have bN3 := (bN2.out.only (Only.rf.set (g := w.heap.size + 1 + 1) 2 (.int .i64 s.next.hd.num)) (by omega)).alloc (.cells #[.int .i64 3, .string ⟨s.next.hd.text.toArray⟩, .int .i64 s.next.hd.num, .int .i64 s.next.hd.pos] 52)
  generalize ((w2.setCell ⟨w.heap.size + 1 + 1, 2, none⟩ (.int .i64 s.next.hd.num)).alloc (.cells #[.int .i64 3, .string ⟨s.next.hd.text.toArray⟩, .int .i64 s.next.hd.num, .int .i64 s.next.hd.pos] 52)) = w3 at *
  generalize s.next.hd.num = md at *
  clear a0 a1 a2 af
  have a0 : w3.cell? ⟨w.heap.size + 1 + 1, 0, none⟩ = some (.string ⟨nt.toArray⟩) := bA3.cell 0
  have a1 : w3.cell? ⟨w.heap.size + 1 + 1, 1, none⟩ = some (.int .i64 0) := bA3.cell 1
  have a2 : w3.cell? ⟨w.heap.size + 1 + 1, 2, none⟩ = some (.int .i64 md) := bA3.cell 2
  have HN := request.note_g ⟨nt, ⟨0, md⟩⟩ s.l w3.drew g 3 base 70 _ v hp3.bs hp3.l8 hp3.blk rfl (by decide) hp3.own
  have HF := fun m w' => request.fail_c ⟨nk, nt, nn, np⟩ m w'
  unfold tkv failE at HF
  have hp3 := Lib.hid (hp3.ext (Ext.drawn _))
  have hM3 := Lib.hid hM3
  have bN3 := Lib.hid bN3
  have bR3 := Lib.hid bR3
  have bA3 := Lib.hid bA3
  have hwz := bA3.out.lt
  clear e1 f1 m1
  go_still_tail 4, (by kernel_rfl)
  change wpList _ _ _ _ _ w3.drew
  clear a0 a1 a2
  by_cases hcode : (CL.note s.next.next.l ⟨nt, ⟨0, md⟩⟩).1 = 0
  · have HR : CL.addA ⟨nk, nt, nn, np⟩ ⟨nt, ⟨0, md⟩⟩ s.next.next = .ok (.mk 0 ⟨nt, ⟨0, md⟩⟩ [], ⟨s.next.next.n, (CL.note s.next.next.l ⟨nt, ⟨0, md⟩⟩).2, s.next.next.r⟩) := by unfold CL.addA; exact if_pos hcode
    rw [HR]
    have HR := Lib.hid HR
    go_wp2_with (first
      | (go_at_call 56; refine HN.mono ?_; intro e w4 hnp; obtain ⟨he, v4, hp4, hm4⟩ := hp3.out.note hnp; replace hm4 := (Mv.of_ext (g := g) (v := v) (Ext.drawn w3)).tr hm4; rw [hcode] at he; subst he; have a0 := (bA3.out.mv hm4 (by omega) (HY _ (by omega))).cell 0; have a1 := (bA3.out.mv hm4 (by omega) (HY _ (by omega))).cell 1; have a2 := (bA3.out.mv hm4 (by omega) (HY _ (by omega))).cell 2; have bR4 := Lib.hid (bR3.out.mv hm4 (by omega) (HY _ (by omega))); have hp4 := Lib.hid hp4; have hm4 := Lib.hid hm4; have hY4 := Lib.hid (own_ne hp4.out.own bR4.out (by decide)); have hsz := hm4.out.chg.size)
      | (with_reducible refine is_store 28 (.tmp 4) (.tmp 66) rfl ?_; refine wpList_store_blk rfl rfl 28 (.tmp 4) (.tmp 66) rfl (w.heap.size + 1) #[.int .i64 0, .string ⟨nt.toArray⟩, .int .i64 0, .int .i64 md, .slice none 0 0] rfl rfl _ _ bR4.out 5 ex_isz rfl rfl (by simp [Value.oneCell']) ?_; intro w5 hB5 ho5; have r0 := hB5.cell 0; have r1 := hB5.cell 1; have r2 := hB5.cell 2; have r3 := hB5.cell 3; have r4 := hB5.cell 4; clear hB5))
    refine bodyPost_ret (by simp [results, Tryd.results68, go_sem, r0, r1, r2, r3, r4]; try rfl) rfl ?_
    rw [HR.out]
    refine ⟨_, v4, k + 1 + 1, rfl, hp4.out.only hY4.out (by omega) (by omega) ho5, (hM3.out.tr hm4.out).only ho5 (by omega), RdF.leaf _ _ _ _ 0 ⟨nt, ⟨0, md⟩⟩ hn⟩
  · have HR : CL.addA ⟨nk, nt, nn, np⟩ ⟨nt, ⟨0, md⟩⟩ s.next.next = .error (np, (CL.note s.next.next.l ⟨nt, ⟨0, md⟩⟩).1) := by unfold CL.addA; exact if_neg hcode
    rw [HR]
    have hc1 : ((CL.note s.next.next.l ⟨nt, ⟨0, md⟩⟩).1 == 0) = false := by simpa using hcode
    go_wp2_with (first
      | (go_at_call 56; refine HN.mono ?_; intro e w4 hnp; obtain ⟨he, v4, hp4, hm4⟩ := hp3.out.note hnp; replace hm4 := (Mv.of_ext (g := g) (v := v) (Ext.drawn w3)).tr hm4; subst he; obtain ⟨⟨n0, n1, n2, n3⟩, _⟩ := (bN3.out.mv hm4 (by omega) (HY _ (by omega))).c4; have hm4 := Lib.hid hm4; have hc2 := Lib.hid hcode; clear hp4)
      | (go_at_call 65; refine (HF _ _).mono ?_; rintro e w5 ⟨rfl, hx5⟩))
    exact ⟨rfl, rfl, below_ext (hS1.out.below (hM3.out.tr hm4.out)) hx5 hB0⟩
theorem ExPost.err {r : CL.PR CL.Ex} {p m : Int} {e : Ending} {w' : World} (hr : r = .error (p, m)) (h : e = failE p m ∧ Below B w w') : ExPost w g B base A c all v r e w' := by
  rw [hr]; exact h
theorem parser.atom_c (h : PSt w g B base A c all v k s) (nm : CL.Tk) (hn : nm.text.length ≤ maxLen) : Calls Tryd.prog 68 #[.pointer (some ⟨g, 0, none⟩), tkv nm] w (ExPost w g B base A c all v (CL.atomP nm s)) := by
  unfold CL.atomP
  cases hs : CL.sees 4 [58] s with
  | true =>
    simp only [if_true]
    by_cases h2 : s.next.hd.kind = 2
    · rw [if_pos h2]; exact parser.atom_mode h nm hs h2 hn
    · rw [if_neg h2]; exact (parser.atom_mode_er h nm hs h2).mono fun e w' he => ExPost.err rfl he
  | false =>
    simp only [Bool.false_eq_true, if_false]
    cases hs2 : CL.sees 4 [42] s with
    | true =>
      simp only [if_true]
      by_cases h2 : s.next.hd.kind = 3
      · rw [if_pos h2]
        by_cases h3 : s.next.hd.num < 1 ∨ 8 < s.next.hd.num
        · rw [if_pos h3]; exact (parser.atom_unit_bad h nm hs hs2 h2 h3).mono fun e w' he => ExPost.err rfl he
        · rw [if_neg h3]; exact parser.atom_unit h nm hs hs2 h2 h3 hn
      · rw [if_neg h2]; exact (parser.atom_unit_er h nm hs hs2 h2).mono fun e w' he => ExPost.err rfl he
    | false =>
      simp only [Bool.false_eq_true, if_false]
      exact (parser.atom_none h nm hs hs2).mono fun e w' he => ExPost.err rfl he
end Go.Proofs.YtlfnpkjfnafeaaaDoor
/- The walks of the program's parser, fourth part: list. Condition: the expressions of the next level are read as exprP says. -/
namespace Go.Proofs.YtlfnpkjfnafeaaaDoor
open Go.RowKit
set_option linter.unusedVariables false
set_option maxRecDepth 100000
/-- what a walk of expr says -/
def ExC (d : Nat) (lv : Int) : Prop := ∀ (w : World) (g B base : Nat) (A : Option Addr) (c : Nat) (all : List CL.Tk) (v : Value) (k : Nat) (s : CL.PS), PSt w g B base A c all v k s → s.n ≤ 24 →
  Calls Tryd.prog 35 #[.pointer (some ⟨g, 0, none⟩), .int .i64 lv] w (ExPost w g B base A c all v (CL.exprP d s))
/-- an error of the parser, or the list that is read -/
def LiPost (w : World) (g B base : Nat) (A : Option Addr) (c : Nat) (all : List CL.Tk) (v : Value) (r : CL.PR (List CL.Ex)) (e : Ending) (w' : World) : Prop := match r with
  | .error p => e = failE p.1 p.2 ∧ Below B w w'
  | .ok x => ∃ A' c' vs v' k', e = .returned (.slice A' x.1.length c') ∧ x.1.length ≤ c' ∧ x.1.length ≤ 24 ∧ PSt w' g B base A c all v' k' x.2 ∧ Mv g v v' w w' ∧ KidsF w' w.heap.size w'.heap.size [v'.ownBlock] x.1 vs ∧ SitsF w' w.heap.size w'.heap.size [v'.ownBlock] A' vs.flatten
variable {w : World} {g B base : Nat} {A : Option Addr} {c : Nat} {all : List CL.Tk} {v : Value} {k : Nat} {s : CL.PS}
theorem LiPost.err {r : CL.PR (List CL.Ex)} {p m : Int} {e : Ending} {w' : World} (hr : r = .error (p, m)) (h : e = failE p m ∧ Below B w w') : LiPost w g B base A c all v r e w' := by
  rw [hr]; exact h
theorem ExPost.er {r : CL.PR CL.Ex} {e : Ending} {w' : World} {p : Int × Int} (h : ExPost w g B base A c all v r e w') (hr : r = .error p) : e = failE p.1 p.2 ∧ Below B w w' := by
  rw [hr] at h; exact h
theorem ExPost.ok {r : CL.PR CL.Ex} {e : Ending} {w' : World} {x : CL.Ex} {s' : CL.PS} (h : ExPost w g B base A c all v r e w') (hr : r = .ok (x, s')) :
    ∃ i n m u A' l c' v' k', e = .returned (.agg #[.int .i64 i, .string n, .int .i64 m, .int .i64 u, .slice A' l c']) ∧ PSt w' g B base A c all v' k' s' ∧ Mv g v v' w w' ∧ RdF w' w.heap.size w'.heap.size [v'.ownBlock] x [.int .i64 i, .string n, .int .i64 m, .int .i64 u, .slice A' l c'] := by
  rw [hr] at h
  obtain ⟨cs, v', k', rfl, h1, h2, h3⟩ := h
  obtain ⟨i, n, m, u, A', l, c', rfl⟩ := h3.rd.shape
  exact ⟨i, n, m, u, A', l, c', v', k', rfl, h1, h2, h3⟩
theorem own_new (W : World) (base : Nat) (E : TypeId) (sz n : Nat) (cs : List Value) (hb : base ≤ W.heap.size) (hl : cs.length = n * sz) (hn : n ≤ maxLen) : (W.alloc (.cells cs.toArray E)).ownsRow base E sz (.slice (some ⟨W.heap.size, 0, none⟩) n n) n cs :=
  ⟨hl, .inr ⟨W.heap.size, n, cs.toArray, rfl, hb, heap_alloc_new W _, Nat.le_refl _, hn, by simpa using hl, by rw [← hl]; simp⟩⟩
/-- rows of different types stand in different blocks -/
theorem own_own {w : World} {b1 b2 : Nat} {E1 E2 : TypeId} {z1 z2 n1 n2 : Nat} {v1 v2 : Value} {x1 x2 : List Value} (h1 : w.ownsRow b1 E1 z1 v1 n1 x1) (h2 : w.ownsRow b2 E2 z2 v2 n2 x2) (hne : E1 ≠ E2) {x : Nat} (e : v2.ownBlock = some x) : v1.ownBlock ≠ some x := by
  rcases h2.2 with ⟨rfl, _⟩ | ⟨g', cap, cur, rfl, _, hh, _⟩
  · simp [Value.ownBlock] at e
  · simp only [Value.ownBlock, Option.some.injEq] at e
    subst e
    intro e1
    rcases h1.2 with ⟨rfl, _⟩ | ⟨g1, cap1, cur1, rfl, _, hh1, _⟩
    · simp [Value.ownBlock] at e1
    · simp only [Value.ownBlock, Option.some.injEq] at e1
      subst e1
      rw [hh] at hh1
      injection hh1 with hh1
      injection hh1 with _ h3
      exact hne h3.symm
theorem PSt.grown {w' : World} {r : Option Nat} (h : PSt w g B base A c all v k s) (hg : w.grownBy w' r) (hr : ∀ x, r = some x → x ≠ g ∧ B ≤ x ∧ v.ownBlock ≠ some x) : PSt w' g B base A c all v k s := by
  cases r with
  | none => exact h.ext ⟨hg.os, hg.tape, hg.output, hg.size, fun i hi => hg.block i hi (by simp)⟩
  | some x => obtain ⟨h1, h2, h3⟩ := hr x rfl; exact h.only h3 (Ne.symm h1) h2 hg
theorem Mv.grown {v' : Value} {a b d : World} {r : Option Nat} (h : Mv g v v' a b) (hg : b.grownBy d r) (hr : ∀ x, r = some x → a.heap.size ≤ x) : Mv g v v' a d := by
  cases r with
  | none => exact h.tr (Mv.of_ext ⟨hg.os, hg.tape, hg.output, hg.size, fun i hi => hg.block i hi (by simp)⟩)
  | some x => exact h.only hg (hr x rfl)
def slLen : Value → Nat
  | .slice _ n _ => n
  | _ => 0
theorem ex_info : (Tryd.prog.info? 28).map (fun i => (i.zero, i.size, i.bytes)) = some (some (.agg #[.int .i64 0, .string ⟨#[]⟩, .int .i64 0, .int .i64 0, .slice none 0 0]), 5, 64) := by kernel_rfl
/-- the loop of list: what it has read, and what is left to say -/
structure LSt (w : World) (g B base : Nat) (A : Option Addr) (c : Nat) (all : List CL.Tk) (v : Value) (R : CL.PR (List CL.Ex)) (rd : CL.PS → CL.PR CL.Ex) (wr : World) (kv : Value) (acc : List CL.Ex) (vs : List (List Value)) (v' : Value) (k' m : Nat) (s' : CL.PS) : Prop where
  p : PSt wr g B base A c all v' k' s'
  mv : Mv g v v' w wr
  own : wr.ownsRow w.heap.size 28 5 kv acc.length vs.flatten
  kids : KidsF wr w.heap.size wr.heap.size [v'.ownBlock, kv.ownBlock] acc vs
  hm : 26 ≤ m + s'.n
  n : s'.n ≤ 24
  l : acc.length ≤ s'.n
  r : R = CL.bindP (CL.moreP rd m acc s') fun l s3 => CL.bindP (CL.expectP 4 [41] s3) fun _ s4 => .ok (l, s4)
theorem LSt.err {R : CL.PR (List CL.Ex)} {rd : CL.PS → CL.PR CL.Ex} {wr : World} {kv : Value} {acc : List CL.Ex} {vs : List (List Value)} {v' : Value} {k' m : Nat} {s' : CL.PS} (h : LSt w g B base A c all v R rd wr kv acc vs v' k' m s') {q : Int × Int} (hs : CL.sees 4 [44] s' = true) (hp : rd s'.next = .error q) : R = .error q := by
  obtain ⟨m, rfl⟩ : ∃ i, m = i + 1 := ⟨m - 1, by have := h.hm; have := h.n; omega⟩
  rw [h.r]; unfold CL.moreP; rw [hs]; simp only [if_true, hp]; rfl
theorem LSt.fin {R : CL.PR (List CL.Ex)} {rd : CL.PS → CL.PR CL.Ex} {wr : World} {kv : Value} {acc : List CL.Ex} {vs : List (List Value)} {v' : Value} {k' m : Nat} {s' : CL.PS} (h : LSt w g B base A c all v R rd wr kv acc vs v' k' m s') (hs : CL.sees 4 [44] s' = false) : R = CL.bindP (CL.expectP 4 [41] s') fun _ s4 => .ok (acc, s4) := by
  obtain ⟨m, rfl⟩ : ∃ i, m = i + 1 := ⟨m - 1, by have := h.hm; have := h.n; omega⟩
  rw [h.r]; unfold CL.moreP; rw [hs]; rfl
theorem LSt.step {R : CL.PR (List CL.Ex)} {rd : CL.PS → CL.PR CL.Ex} {wr w2 w4 : World} {kv kv' : Value} {acc : List CL.Ex} {vs : List (List Value)} {v' v2 : Value} {k' k2 m : Nat} {s' s2 : CL.PS} {x : CL.Ex} {cs : List Value} (hp : CL.Cnt rd) (h : LSt w g B base A c all v R rd wr kv acc vs v' k' m s') (hs : CL.sees 4 [44] s' = true) (hx : rd s'.next = .ok (x, s2))
    {w1 : World} (hz1 : wr.heap.size ≤ w1.heap.size) (hm2 : Mv g v' v2 wr w2) (hp2 : PSt w2 g B base A c all v2 k2 s2) (hrd : RdF w2 w1.heap.size w2.heap.size [v2.ownBlock] x cs) (hz2 : w1.heap.size ≤ w2.heap.size) (hgl : g < w.heap.size) (hB : B ≤ w.heap.size)
    (hown : w4.ownsRow w.heap.size 28 5 kv' (acc.length + 1) (vs.flatten ++ cs)) {o : Obj} (hg : (w2.alloc o).grownBy w4 kv.ownBlock) (hrow : kv'.ownBlock = kv.ownBlock ∨ kv'.ownBlock = some (w2.alloc o).heap.size) (hown2 : w2.ownsRow w.heap.size 28 5 kv acc.length vs.flatten) :
    LSt w g B base A c all v R rd w4 kv' (acc ++ [x]) (vs ++ [cs]) v2 k2 (m - 1) s2 := by
  have hn := hp s'.next x s2 h.n hx
  have hn' : s'.n < s2.n := hn.1
  have hlo : w.heap.size ≤ wr.heap.size := h.mv.chg.size
  have hkv : ∀ y, kv.ownBlock = some y → w.heap.size ≤ y ∧ y < wr.heap.size := fun y hy => h.own.lt y hy
  have hv2 : ∀ y, kv.ownBlock = some y → y ≠ g ∧ B ≤ y ∧ v2.ownBlock ≠ some y := fun y hy => ⟨by have := hkv y hy; omega, by have := hkv y hy; omega, own_own hp2.own hown2 (by decide) hy⟩
  have hsz : (w2.alloc o).heap.size = w2.heap.size + 1 := by simp [World.size_alloc]
  refine ⟨(hp2.ext (Ext.new _ o)).grown hg hv2, ((h.mv.tr hm2).tr (Mv.of_ext (Ext.new _ o))).grown hg (fun y hy => (hkv y hy).1), ?_, ?_, ?_, hn.2, ?_, ?_⟩
  · rw [List.flatten_append, List.length_append]; simpa using hown
  · have hX : ∀ y ∈ [v2.ownBlock, kv'.ownBlock], y ∈ [v2.ownBlock, kv.ownBlock] ∨ ∀ b, y = some b → (w2.alloc o).heap.size ≤ b ∨ b < w.heap.size := by
      intro y hy
      simp only [List.mem_cons, List.not_mem_nil, or_false] at hy
      rcases hy with rfl | rfl
      · exact .inl (by simp)
      · rcases hrow with e | e
        · exact .inl (by simp [e])
        · exact .inr fun b hb => .inl (by rw [e] at hb; injection hb with hb; omega)
    have hE : ∀ b, kv.ownBlock = some b → some b ∈ [v2.ownBlock, kv.ownBlock] ∨ b < w.heap.size := fun b hb => .inl (by simp [hb])
    have hcg : Rl.Chg (fun b => kv.ownBlock = some b) (w2.alloc o) w4 := Rl.Chg.of_grown hg (fun y hy => hy)
    refine KidsF.snoc ?_ ?_
    · have k1 : KidsF w2 w.heap.size w2.heap.size [v2.ownBlock, kv.ownBlock] acc vs := h.kids.go hm2.chg (fun b hb => by
        rcases hb with hb | hb
        · exact .inr (by omega)
        · exact .inl (by simp [hb])) (fun y hy => by
        simp only [List.mem_cons, List.not_mem_nil, or_false] at hy
        rcases hy with rfl | rfl
        · rcases hm2.row with e | ⟨b, e, hb⟩
          · exact .inl (by simp [e])
          · exact .inr fun b' hb' => .inl (by rw [e] at hb'; injection hb' with hb'; omega)
        · exact .inl (by simp))
      have k2 : KidsF (w2.alloc o) w.heap.size (w2.alloc o).heap.size [v2.ownBlock, kv.ownBlock] acc vs := k1.go (Rl.Chg.of_ext (E := fun _ => False) (Ext.new _ o)) (fun b hb => hb.elim) (fun y hy => .inl hy)
      exact k2.go hcg hE hX
    · have r1 : RdF w2 w.heap.size w2.heap.size [v2.ownBlock, kv.ownBlock] x cs := hrd.wide (by omega) (Nat.le_refl _) (fun b h1 h2 hb => by
        simp only [List.mem_cons, List.not_mem_nil, or_false] at hb ⊢
        rcases hb with hb | hb
        · exact hb
        · have := hkv b hb.symm; omega)
      have r2 : RdF (w2.alloc o) w.heap.size (w2.alloc o).heap.size [v2.ownBlock, kv.ownBlock] x cs := r1.go (Rl.Chg.of_ext (E := fun _ => False) (Ext.new _ o)) (fun b hb => hb.elim) (fun y hy => .inl hy)
      exact r2.go hcg hE hX
  · have := h.hm; have := h.n; omega
  · have := h.l; simp only [List.length_append, List.length_cons, List.length_nil]; omega
  · obtain ⟨m, rfl⟩ : ∃ i, m = i + 1 := ⟨m - 1, by have := h.hm; have := h.n; omega⟩
    rw [h.r]
    conv => lhs; unfold CL.moreP
    rw [hs]
    simp only [if_true, hx]
    rfl
end Go.Proofs.YtlfnpkjfnafeaaaDoor
