
/- The reference's reader, fourth part: what the loop of expr bears. -/
import Derived.Test.YtlfnpkjfnafeaaaDoorRr3
namespace Go.Proofs.YtlfnpkjfnafeaaaDoor
open Go.RowKit
set_option linter.unusedVariables false
set_option linter.unusedSimpArgs false
set_option maxRecDepth 100000
variable {w : World} {g B base : Nat} {A : Option Addr} {c : Nat} {all : List CL.Tk} {v : Value} {k : Nat} {s : CL.PS}
theorem RSt.deep (h : RSt w g B base A c all v k s) (hn : s.n + 1 ≤ 24) (h5 : s.hd.kind ≠ 5) :
    RSt ((w.setCell ⟨g, 2, none⟩ (.int .i64 ((s.n : Int) + 1))).setCell ⟨g, 1, none⟩ (.int .i64 ((k : Int) + 1))) g B base A c all v (k + 1) ⟨s.n + 1, s.l, s.r.tail⟩ ∧ Mv g v v w ((w.setCell ⟨g, 2, none⟩ (.int .i64 ((s.n : Int) + 1))).setCell ⟨g, 1, none⟩ (.int .i64 ((k : Int) + 1))) := by
  obtain ⟨h1, m1⟩ := h.node (by omega)
  obtain ⟨h2, m2⟩ := h1.next h5
  exact ⟨h2, m1.tr m2⟩
theorem RSt.grown {w' : World} {r : Option Nat} (h : RSt w g B base A c all v k s) (hg : w.grownBy w' r) (hr : ∀ x, r = some x → x ≠ g ∧ B ≤ x ∧ v.ownBlock ≠ some x) : RSt w' g B base A c all v k s := by
  cases r with
  | none => exact h.ext ⟨hg.os, hg.tape, hg.output, hg.size, fun i hi => hg.block i hi (by simp)⟩
  | some x => obtain ⟨h1, h2, h3⟩ := hr x rfl; exact h.only h3 (Ne.symm h1) h2 hg
/-- the loop of expr: what it has read, and what is left to say -/
structure RLSt (w : World) (g B base : Nat) (A : Option Addr) (c : Nat) (all : List CL.Tk) (v : Value) (R : CL.PR (List CL.Ex)) (rd : CL.PS → CL.PR CL.Ex) (pe : Nat) (wr : World) (kv : Value) (acc : List CL.Ex) (vs : List (List Value)) (v' : Value) (k' m : Nat) (s' : CL.PS) : Prop where
  p : RSt wr g B base A c all v' k' s'
  mv : Mv g v v' w wr
  own : wr.ownsRow w.heap.size 28 5 kv acc.length vs.flatten
  kids : KidsF wr w.heap.size wr.heap.size [v'.ownBlock, kv.ownBlock, some pe] acc vs
  hm : 26 ≤ m + s'.n
  n : s'.n ≤ 24
  l : acc.length ≤ s'.n
  r : R = CL.bindP (CL.moreP rd m acc s') fun l s3 => CL.bindP (CL.expectP 4 [41] s3) fun _ s4 => .ok (l, s4)
  ne : kv.ownBlock ≠ some pe
  hpe : w.heap.size ≤ pe ∧ pe < wr.heap.size
theorem RLSt.err {R : CL.PR (List CL.Ex)} {rd : CL.PS → CL.PR CL.Ex} {pe : Nat} {wr : World} {kv : Value} {acc : List CL.Ex} {vs : List (List Value)} {v' : Value} {k' m : Nat} {s' : CL.PS} (h : RLSt w g B base A c all v R rd pe wr kv acc vs v' k' m s') {q : Int × Int} (hs : CL.sees 4 [44] s' = true) (hp : rd s'.next = .error q) : R = .error q := by
  obtain ⟨m, rfl⟩ : ∃ i, m = i + 1 := ⟨m - 1, by have := h.hm; have := h.n; omega⟩
  rw [h.r]; unfold CL.moreP; rw [hs]; simp only [if_true, hp]; rfl
theorem RLSt.fin {R : CL.PR (List CL.Ex)} {rd : CL.PS → CL.PR CL.Ex} {pe : Nat} {wr : World} {kv : Value} {acc : List CL.Ex} {vs : List (List Value)} {v' : Value} {k' m : Nat} {s' : CL.PS} (h : RLSt w g B base A c all v R rd pe wr kv acc vs v' k' m s') (hs : CL.sees 4 [44] s' = false) : R = CL.bindP (CL.expectP 4 [41] s') fun _ s4 => .ok (acc, s4) := by
  obtain ⟨m, rfl⟩ : ∃ i, m = i + 1 := ⟨m - 1, by have := h.hm; have := h.n; omega⟩
  rw [h.r]; unfold CL.moreP; rw [hs]; rfl
/-- the group's own block is written -/
theorem RLSt.setE {R : CL.PR (List CL.Ex)} {rd : CL.PS → CL.PR CL.Ex} {pe : Nat} {wr wq : World} {kv : Value} {acc : List CL.Ex} {vs : List (List Value)} {v' : Value} {k' m : Nat} {s' : CL.PS} (h : RLSt w g B base A c all v R rd pe wr kv acc vs v' k' m s') (ho : Only pe wr wq) (hv : v'.ownBlock ≠ some pe) (hg : g ≠ pe) (hB : B ≤ pe) : RLSt w g B base A c all v R rd pe wq kv acc vs v' k' m s' := by
  have hcg : Rl.Chg (fun b => b = pe) wr wq := Rl.Chg.of_grown ho (fun x e => by injection e with e; exact e.symm)
  exact ⟨h.p.only hv hg hB ho, h.mv.only ho h.hpe.1, own_only h.own ho h.ne, h.kids.go hcg (fun b hb => .inl (by simp [hb])) (fun y hy => .inl hy), h.hm, h.n, h.l, h.r, h.ne, h.hpe.1, Nat.lt_of_lt_of_le h.hpe.2 ho.size⟩
theorem RLSt.step {R : CL.PR (List CL.Ex)} {rd : CL.PS → CL.PR CL.Ex} {pe : Nat} {wr w2 w4 : World} {kv kv' : Value} {acc : List CL.Ex} {vs : List (List Value)} {v' v2 : Value} {k' k2 m : Nat} {s' s2 : CL.PS} {x : CL.Ex} {cs : List Value} (hp : CL.Cnt rd) (h : RLSt w g B base A c all v R rd pe wr kv acc vs v' k' m s') (hs : CL.sees 4 [44] s' = true) (hx : rd s'.next = .ok (x, s2))
    {w1 : World} (hz1 : wr.heap.size ≤ w1.heap.size) (hm2 : Mv g v' v2 wr w2) (hp2 : RSt w2 g B base A c all v2 k2 s2) (hrd : RdF w2 w1.heap.size w2.heap.size [v2.ownBlock] x cs) (hz2 : w1.heap.size ≤ w2.heap.size) (hgl : g < w.heap.size) (hB : B ≤ w.heap.size)
    (hown : w4.ownsRow w.heap.size 28 5 kv' (acc.length + 1) (vs.flatten ++ cs)) {w3 : World} (hw3 : Ext w2 w3) (hg : w3.grownBy w4 kv.ownBlock) (hrow : kv'.ownBlock = kv.ownBlock ∨ kv'.ownBlock = some w3.heap.size) (hown2 : w2.ownsRow w.heap.size 28 5 kv acc.length vs.flatten) :
    RLSt w g B base A c all v R rd pe w4 kv' (acc ++ [x]) (vs ++ [cs]) v2 k2 (m - 1) s2 := by
  have hn := hp s'.next x s2 h.n hx
  have hn' : s'.n < s2.n := hn.1
  have hlo : w.heap.size ≤ wr.heap.size := h.mv.chg.size
  have hpe := h.hpe
  have hkv : ∀ y, kv.ownBlock = some y → w.heap.size ≤ y ∧ y < wr.heap.size := fun y hy => h.own.lt y hy
  have hv2 : ∀ y, kv.ownBlock = some y → y ≠ g ∧ B ≤ y ∧ v2.ownBlock ≠ some y := fun y hy => ⟨by have := hkv y hy; omega, by have := hkv y hy; omega, own_own hp2.own hown2 (by decide) hy⟩
  have hsz : w2.heap.size ≤ w3.heap.size := hw3.size
  refine ⟨(hp2.ext hw3).grown hg hv2, ((h.mv.tr hm2).tr (Mv.of_ext hw3)).grown hg (fun y hy => (hkv y hy).1), ?_, ?_, ?_, hn.2, ?_, ?_, ?_, hpe.1, ?_⟩
  · rw [List.flatten_append, List.length_append]; simpa using hown
  · have hX : ∀ y ∈ [v2.ownBlock, kv'.ownBlock, some pe], y ∈ [v2.ownBlock, kv.ownBlock, some pe] ∨ ∀ b, y = some b → w3.heap.size ≤ b ∨ b < w.heap.size := by
      intro y hy
      simp only [List.mem_cons, List.not_mem_nil, or_false] at hy
      rcases hy with rfl | rfl | rfl
      · exact .inl (by simp)
      · rcases hrow with e | e
        · exact .inl (by simp [e])
        · exact .inr fun b hb => .inl (by rw [e] at hb; injection hb with hb; omega)
      · exact .inl (by simp)
    have hE : ∀ b, kv.ownBlock = some b → some b ∈ [v2.ownBlock, kv.ownBlock, some pe] ∨ b < w.heap.size := fun b hb => .inl (by simp [hb])
    have hcg : Rl.Chg (fun b => kv.ownBlock = some b) w3 w4 := Rl.Chg.of_grown hg (fun y hy => hy)
    refine KidsF.snoc ?_ ?_
    · have k1 : KidsF w2 w.heap.size w2.heap.size [v2.ownBlock, kv.ownBlock, some pe] acc vs := h.kids.go hm2.chg (fun b hb => by
        rcases hb with hb | hb
        · exact .inr (by omega)
        · exact .inl (by simp [hb])) (fun y hy => by
        simp only [List.mem_cons, List.not_mem_nil, or_false] at hy
        rcases hy with rfl | rfl | rfl
        · rcases hm2.row with e | ⟨b, e, hb⟩
          · exact .inl (by simp [e])
          · exact .inr fun b' hb' => .inl (by rw [e] at hb'; injection hb' with hb'; omega)
        · exact .inl (by simp)
        · exact .inl (by simp))
      have k2 : KidsF w3 w.heap.size w3.heap.size [v2.ownBlock, kv.ownBlock, some pe] acc vs := k1.go (Rl.Chg.of_ext (E := fun _ => False) hw3) (fun b hb => hb.elim) (fun y hy => .inl hy)
      exact k2.go hcg hE hX
    · have r1 : RdF w2 w.heap.size w2.heap.size [v2.ownBlock, kv.ownBlock, some pe] x cs := hrd.wide (by omega) (Nat.le_refl _) (fun b h1 h2 hb => by
        simp only [List.mem_cons, List.not_mem_nil, or_false] at hb ⊢
        rcases hb with hb | hb | hb
        · exact hb
        · have := hkv b hb.symm; omega
        · injection hb with hb; omega)
      have r2 : RdF w3 w.heap.size w3.heap.size [v2.ownBlock, kv.ownBlock, some pe] x cs := r1.go (Rl.Chg.of_ext (E := fun _ => False) hw3) (fun b hb => hb.elim) (fun y hy => .inl hy)
      exact r2.go hcg hE hX
  · have := h.hm; have := h.n; omega
  · have := h.l; simp only [List.length_append, List.length_cons, List.length_nil]; omega
  · obtain ⟨m, rfl⟩ : ∃ i, m = i + 1 := ⟨m - 1, by have := h.hm; have := h.n; omega⟩
    rw [h.r]
    conv => lhs; unfold CL.moreP
    rw [hs]
    simp only [if_true, hx]
    rfl
  · rcases hrow with e | e
    · rw [e]; exact h.ne
    · rw [e]; intro e2; injection e2 with e2
      have := hm2.chg.size; omega
  · have := hm2.chg.size; have := hg.size; omega
/-- behind the first expression: its row and the group's block -/
theorem RLSt.first {rd : CL.PS → CL.PR CL.Ex} {R : CL.PR (List CL.Ex)} {w1 w2 : World} {v2 : Value} {k2 : Nat} {s2 : CL.PS} {x : CL.Ex} {cs : List Value} {T : TypeId} {gs : List Value} (hm2 : Mv g v v2 w w2) (hp2 : RSt w2 g B base A c all v2 k2 s2) (hz1 : w.heap.size ≤ w1.heap.size) (hz2 : w1.heap.size ≤ w2.heap.size) (hrd : RdF w2 w1.heap.size w2.heap.size [v2.ownBlock] x cs) (hn : 1 ≤ s2.n ∧ s2.n ≤ 24)
    (hr : R = CL.bindP (CL.moreP rd 25 [x] s2) fun l s3 => CL.bindP (CL.expectP 4 [41] s3) fun _ s4 => .ok (l, s4)) :
    RLSt w g B base A c all v R rd (w2.heap.size + 1) ((w2.alloc (.cells cs.toArray 28)).alloc (.cells gs.toArray T)) (.slice (some ⟨w2.heap.size, 0, none⟩) 1 1) [x] [cs] v2 k2 25 s2 := by
  have hx2 : Ext w2 ((w2.alloc (.cells cs.toArray 28)).alloc (.cells gs.toArray T)) := (Ext.new _ _).tr (Ext.new _ _)
  refine ⟨hp2.ext hx2, hm2.tr (Mv.of_ext hx2), ?_, ?_, by omega, hn.2, by simpa using hn.1, hr, by simp [Value.ownBlock], by omega, by simp [World.size_alloc]⟩
  · exact own_ext (by simpa using own_new w2 w.heap.size 28 5 1 cs (by omega) (by rw [hrd.len]) (by decide)) (Ext.new _ _)
  · refine (KidsF.nil _ _ _ _).snoc (e := x) ?_
    have r1 : RdF w2 w.heap.size w2.heap.size [v2.ownBlock] x cs := hrd.wide hz1 (Nat.le_refl _) (fun _ _ _ h => h)
    refine r1.go (Rl.Chg.of_ext (E := fun _ => False) hx2) (fun b hb => hb.elim) (fun y hy => ?_)
    simp only [List.mem_cons, List.not_mem_nil, or_false] at hy
    rcases hy with rfl | rfl | rfl
    · exact .inl (by simp)
    · exact .inr fun b hb => .inl (by simp only [Value.ownBlock, Option.some.injEq] at hb; omega)
    · exact .inr fun b hb => .inl (by injection hb with hb; omega)
/-- a block of another type stays -/
theorem Chg.keep {w' : World} {p : Nat} {T : TypeId} {cs : Array Value} {n : Nat} {xs : List Value} (hc : Rl.Chg (fun b => b = g ∨ v.ownBlock = some b) w w') (h : Blk w p T cs) (hpg : p ≠ g) (hown : w.ownsRow base 25 3 v n xs) (hT : 25 ≠ T) : Blk w' p T cs :=
  Rl.Chg.blk hc h (fun e => by rcases e with e | e; exact hpg e; exact own_ne hown h hT e)
theorem Chg.own {w' : World} {lo n z : Nat} {E : TypeId} {kv : Value} {xs : List Value} (hc : Rl.Chg (fun b => b = g ∨ v.ownBlock = some b) w w') (h : w.ownsRow lo E z kv n xs) (hk : ∀ y, kv.ownBlock = some y → y ≠ g ∧ v.ownBlock ≠ some y) : w'.ownsRow lo E z kv n xs := by
  refine ⟨h.1, ?_⟩
  rcases h.2 with hn | ⟨p, cap, cur, rfl, hb, hgg, rest⟩
  · exact .inl hn
  · refine .inr ⟨p, cap, cur, rfl, hb, ?_, rest⟩
    rw [hc.block p (Array.getElem?_eq_some_iff.1 hgg).1 (fun e => by
      obtain ⟨h1, h2⟩ := hk p rfl
      rcases e with e | e
      · exact h1 e
      · exact h2 e)]
    exact hgg
theorem RxPost.shape {r : CL.PR CL.Ex} {e : Ending} {w' : World} (h : RxPost w g B base A c all v r e w') : ∃ i n m u A' l c', e = .returned (.agg #[.int .i64 i, .string n, .int .i64 m, .int .i64 u, .slice A' l c']) ∧ Rl.Chg (fun b => b = g ∨ v.ownBlock = some b) w w' := by
  cases hr : r with
  | error p =>
    obtain ⟨⟨i, n, m, u, A', l, c', e1⟩, _, _, h4⟩ := h.er hr
    exact ⟨i, n, m, u, A', l, c', e1, h4⟩
  | ok z =>
    obtain ⟨x, s'⟩ := z
    obtain ⟨i, n, m, u, A', l, c', v', k', e1, _, h3, _⟩ := h.ok hr
    exact ⟨i, n, m, u, A', l, c', e1, h3.chg⟩
theorem SitsF.few {w : World} {lo hi : Nat} {X X' : List (Option Nat)} {A : Option Addr} {xs : List Value} (h : SitsF w lo hi X A xs) (hX : ∀ y ∈ X', y ∈ X) : SitsF w lo hi X' A xs := fun hn =>
  let ⟨b, o, e, ⟨h1, h2, h3⟩, hc⟩ := h hn
  ⟨b, o, e, ⟨h1, h2, fun hm => h3 (hX _ hm)⟩, hc⟩
/-- what a list that was read leaves -/
structure RLiOk (w : World) (g B base : Nat) (A : Option Addr) (c : Nat) (all : List CL.Tk) (v : Value) (l : List CL.Ex) (s2 : CL.PS) (w' : World) (A' : Option Addr) (c' : Nat) (v' : Value) (k' : Nat) (vs : List (List Value)) (pe : Nat) : Prop where
  hc : l.length ≤ c'
  n : l.length ≤ 24
  p : RSt w' g B base A c all v' k' s2
  mv : Mv g v v' w w'
  kids : KidsF w' w.heap.size w'.heap.size [v'.ownBlock, some pe] l vs
  row : SitsF w' w.heap.size w'.heap.size [v'.ownBlock, some pe] A' vs.flatten
/-- behind the closing bracket -/
theorem RLSt.close {R : CL.PR (List CL.Ex)} {rd : CL.PS → CL.PR CL.Ex} {pe : Nat} {wr w4 : World} {acc : List CL.Ex} {vs : List (List Value)} {v' : Value} {k' k4 m : Nat} {s' s4 : CL.PS} {A' : Option Addr} {c' : Nat} (h : RLSt w g B base A c all v R rd pe wr (.slice A' acc.length c') acc vs v' k' m s') (hp4 : RSt w4 g B base A c all v' k4 s4) (hm4 : Mv g v' v' wr w4) (hgl : g < w.heap.size) : RLiOk w g B base A c all v acc s4 w4 A' c' v' k4 vs pe := by
  have hK := h.kids
  have hO := h.own
  have hnk : ∀ y, (Value.slice A' acc.length c').ownBlock = some y → y ≠ g ∧ v'.ownBlock ≠ some y := fun y hy => ⟨by have := (hO.lt y hy).1; omega, own_own h.p.own hO (by decide) hy⟩
  have hO4 := own_mv hO hm4 hnk
  obtain ⟨_, _, ef, hcl, _⟩ := own_form hO
  injection ef with _ _ ef
  subst ef
  refine ⟨hcl, by have := h.l; have := h.n; omega, hp4, h.mv.tr hm4, ?_, ?_⟩
  · refine hK.go hm4.chg (fun b hb => ?_) (fun y hy => .inl ?_)
    · rcases hb with hb | hb
      · exact .inr (by omega)
      · exact .inl (by simp [hb])
    · simp only [List.mem_cons, List.not_mem_nil, or_false] at hy
      rcases hy with rfl | rfl <;> simp
  · refine SitsF.of_own hO4 ?_
    by_cases hv : (Value.slice A' acc.length c').ownBlock ∈ [v'.ownBlock, some pe]
    · simp only [List.mem_cons, List.not_mem_nil, or_false] at hv
      replace hv : (Value.slice A' acc.length c').ownBlock = v'.ownBlock := hv.resolve_right h.ne
      cases hb : (Value.slice A' acc.length c').ownBlock with
      | some y => rw [hb] at hv; exact absurd hv.symm (hnk y hb).2
      | none =>
        right
        rcases hO.2 with ⟨e1, e2⟩ | ⟨p, _, _, e1, _⟩
        · exact List.eq_nil_of_length_eq_zero (by rw [hO.1, e2])
        · rw [e1] at hb; simp [Value.ownBlock] at hb
    · exact .inl hv
/-- the group that is stored in the result's block; the group's own block pe may have been written -/
theorem RLiOk.group {w0 w6 : World} {l : List CL.Ex} {s2 : CL.PS} {w5 : World} {A' : Option Addr} {c' : Nat} {v' : Value} {k' : Nat} {vs : List (List Value)} {pe : Nat} (h : RLiOk w g B base A c all v l s2 w5 A' c' v' k' vs pe) (hm : Mv g v v w0 w) (hcg : Rl.Chg (fun b => b = pe ∨ b < w.heap.size) w5 w6) (hp6 : RSt w6 g B base A c all v' k' s2) (hm6 : Mv g v v' w0 w6) (kk : Int) {r : CL.PR CL.Ex} (hr : r = .ok (.mk kk CL.noAt l, s2)) :
    RxPost w0 g B base A c all v r (.returned (.agg #[.int .i64 kk, .string ⟨#[]⟩, .int .i64 0, .int .i64 0, .slice A' l.length c'])) w6 := by
  rw [hr]
  have hn := h.n
  refine ⟨[.int .i64 kk, .string ⟨#[]⟩, .int .i64 0, .int .i64 0, .slice A' l.length c'], v', k', rfl, hp6, hm6, ?_⟩
  exact RdF.node (a := CL.noAt) (by simp [CL.noAt, maxLen]) (by simp only [maxLen]; omega) h.hc ((h.kids.go hcg (fun b hb => hb.elim (fun e => .inl (by simp [e])) .inr) (fun y hy => .inl (by simp only [List.mem_singleton] at hy; simp [hy]))).wide hm.chg.size (Nat.le_refl _) (fun _ _ _ h => h)) (SitsF.few ((h.row.go hcg (fun b hb => hb.elim (fun e => .inl (by simp [e])) .inr)).wide hm.chg.size) (by simp))
end Go.Proofs.YtlfnpkjfnafeaaaDoor
