
/- The reference's reader, seventh part: a group: what stands at the loop's start and behind a round. -/
import Derived.Test.YtlfnpkjfnafeaaaDoorRr5
namespace Go.Proofs.YtlfnpkjfnafeaaaDoor
open Go.RowKit
set_option linter.unusedVariables false
set_option linter.unusedSimpArgs false
set_option maxRecDepth 100000
variable {w : World} {g B base : Nat} {A : Option Addr} {c : Nat} {all : List CL.Tk} {v : Value} {k : Nat} {s : CL.PS}
theorem nx_n {r : PX} {kd : Int} {tx : List UInt8} {s' : CL.PS} (h : nx r kd tx = .ok s') : ∃ s, r = .ok s ∧ s'.n = s.n := by
  cases r with
  | error p => exact absurd h (by unfold nx; simp)
  | ok s =>
    refine ⟨s, rfl, ?_⟩
    unfold nx CL.expectP at h
    simp only at h
    split at h
    · rename_i x hx
      split at hx
      · injection hx with hx
        injection h with h
        subst h hx
        rfl
      · cases hx
    · cases h
theorem GRel.first {w5 : World} {d : Nat} {r1 : PX} {i5 m5 u5 : Int} {n5 : ByteArray} {A5 : Option Addr} {l5 c5 : Nat}
    (hp : RxPost w g B base A c all v (bnd (nx r1 4 [40]) (CL.exprP d)) (.returned (.agg #[.int .i64 i5, .string n5, .int .i64 m5, .int .i64 u5, .slice A5 l5 c5])) w5) (hn : ∀ s, r1 = .ok s → s.n ≤ 24) :
    GRel w g B base A c all v (bnd r1 (CL.listP (CL.exprP d))) (CL.exprP d) (w5.heap.size + 1) ((w5.alloc (.cells #[.int .i64 i5, .string n5, .int .i64 m5, .int .i64 u5, .slice A5 l5 c5] 28)).alloc (.cells #[.int .i64 0, .string ⟨#[]⟩, .int .i64 0, .int .i64 0, .slice (some ⟨w5.heap.size, 0, none⟩) 1 1] 28)) := by
  have hb : Blk ((w5.alloc (.cells #[.int .i64 i5, .string n5, .int .i64 m5, .int .i64 u5, .slice A5 l5 c5] 28)).alloc (.cells #[.int .i64 0, .string ⟨#[]⟩, .int .i64 0, .int .i64 0, .slice (some ⟨w5.heap.size, 0, none⟩) 1 1] 28)) (w5.heap.size + 1) 28 #[.int .i64 0, .string ⟨#[]⟩, .int .i64 0, .int .i64 0, .slice (some ⟨w5.heap.size, 0, none⟩) 1 1] := by
    have h := Blk.new (w5.alloc (.cells #[.int .i64 i5, .string n5, .int .i64 m5, .int .i64 u5, .slice A5 l5 c5] 28)) 28 #[.int .i64 0, .string ⟨#[]⟩, .int .i64 0, .int .i64 0, .slice (some ⟨w5.heap.size, 0, none⟩) 1 1]
    rwa [World.size_alloc] at h
  have hxx := (Ext.new w5 (.cells #[.int .i64 i5, .string n5, .int .i64 m5, .int .i64 u5, .slice A5 l5 c5] 28)).tr (Ext.new _ (.cells #[.int .i64 0, .string ⟨#[]⟩, .int .i64 0, .int .i64 0, .slice (some ⟨w5.heap.size, 0, none⟩) 1 1] 28))
  refine ⟨1, _, _, by omega, hb, ?_⟩
  cases hE : bnd (nx r1 4 [40]) (CL.exprP d) with
  | error q =>
    obtain ⟨_, h2, h3, h4⟩ := hp.er hE
    exact .inr ⟨q, L_err hE, h2, h3.ext hxx, Chg.tr h4 (Rl.Chg.of_ext (E := fun _ => False) hxx) (fun i hi => hi.elim)⟩
  | ok z =>
    obtain ⟨x, s2⟩ := z
    obtain ⟨i, n, m, u, A', l, c', v', k', e1, h2, h3, h4⟩ := hp.ok hE
    injection e1 with e1
    injection e1 with e1
    have e1 : [Value.int .i64 i5, .string n5, .int .i64 m5, .int .i64 u5, .slice A5 l5 c5] = [.int .i64 i, .string n, .int .i64 m, .int .i64 u, .slice A' l c'] := congrArg Array.toList e1
    rw [← e1] at h4
    refine .inl ⟨[x], [[.int .i64 i5, .string n5, .int .i64 m5, .int .i64 u5, .slice A5 l5 c5]], v', k', 25, s2, rfl, ?_⟩
    have hs : 1 ≤ s2.n ∧ s2.n ≤ 24 := by
      cases hr : nx r1 4 [40] with
      | error p => rw [hr] at hE; exact absurd hE (by unfold bnd; simp)
      | ok s0 =>
        rw [hr] at hE
        obtain ⟨sq, e2, e3⟩ := nx_n hr
        have := CL.expr_n d s0 x s2 (by rw [e3]; exact hn _ e2) hE
        omega
    exact RLSt.first (w := w) (w1 := w) h3 h2 (Nat.le_refl _) h3.chg.size h4 hs (L_ok hE)
/-- behind a round -/
theorem GRel.step {pe : Nat} {R : CL.PR (List CL.Ex)} {d : Nat} {wr w7 w9 w3 w10 w11 : World} {acc : List CL.Ex} {vs : List (List Value)} {v' : Value} {k' m : Nat} {s' : CL.PS} {A' : Option Addr} {c' : Nat} {i5 m5 u5 : Int} {n5 : ByteArray} {A5 : Option Addr} {l5 c5 : Nat} {A6 : Option Addr} {c6 : Nat}
    (hL : RLSt w g B base A c all v R (CL.exprP d) pe wr (.slice A' acc.length c') acc vs v' k' m s') (hs : CL.sees 4 [44] s' = true) (hm7 : Mv g v' v' wr w7)
    (hp : RxPost w7 g B base A c all v' (CL.exprP d s'.next) (.returned (.agg #[.int .i64 i5, .string n5, .int .i64 m5, .int .i64 u5, .slice A5 l5 c5])) w9)
    (hgl : g < w.heap.size) (hB : B ≤ w.heap.size) (hw3 : Ext w9 w3) (hown2 : w9.ownsRow w.heap.size 28 5 (.slice A' acc.length c') acc.length vs.flatten)
    (hown : w10.ownsRow w.heap.size 28 5 (.slice A6 (acc.length + 1) c6) (acc.length + 1) (vs.flatten ++ [.int .i64 i5, .string n5, .int .i64 m5, .int .i64 u5, .slice A5 l5 c5])) (hg : w3.grownBy w10 (Value.slice A' acc.length c').ownBlock) (hrow : (Value.slice A6 (acc.length + 1) c6).ownBlock = (Value.slice A' acc.length c').ownBlock ∨ (Value.slice A6 (acc.length + 1) c6).ownBlock = some w3.heap.size)
    (hb : Blk w11 pe 28 #[.int .i64 0, .string ⟨#[]⟩, .int .i64 0, .int .i64 0, .slice A6 (acc.length + 1) c6]) {cs9 : Array Value} (hb9 : Blk w9 pe 28 cs9) (ho : Only pe w10 w11) : GRel w g B base A c all v R (CL.exprP d) pe w11 := by
  have hn := hL.n
  have hl := hL.l
  have hpe := hL.hpe
  refine ⟨acc.length + 1, A6, c6, by omega, hb, ?_⟩
  cases hE : CL.exprP d s'.next with
  | error q =>
    obtain ⟨_, h2, h3, h4⟩ := hp.er hE
    have hk : ∀ x, (Value.slice A' acc.length c').ownBlock = some x → g ≠ x := fun x hx => by have := (hL.own.lt x hx).1; omega
    have hg7 := hp
    refine .inr ⟨q, hL.err hs hE, h2, ?_, ?_⟩
    · have h5 := h3.ext hw3
      obtain ⟨c0, c1, c2, c3, hb5⟩ := h5
      exact RErr.only ⟨c0, c1, c2, c3, hg.blk hb5 (fun e => hk g e.symm rfl)⟩ ho (by omega)
    · have t1 : Rl.Chg (fun b => b = g ∨ v.ownBlock = some b) w w9 := Chg.tr (Chg.tr hL.mv.chg hm7.chg (fun i hi => by
        rcases hi with hi | hi
        · exact .inl (.inl hi)
        · rcases hL.mv.row with e | ⟨x, e, hx⟩
          · rw [e] at hi; exact .inl (.inr hi)
          · rw [e] at hi; injection hi with hi; subst hi; exact .inr hx)) h4 (fun i hi => by
        rcases hi with hi | hi
        · exact .inl (.inl hi)
        · rcases hL.mv.row with e | ⟨x, e, hx⟩
          · rw [e] at hi; exact .inl (.inr hi)
          · rw [e] at hi; injection hi with hi; subst hi; exact .inr hx)
      have t2 := Chg.tr t1 (Rl.Chg.of_ext (E := fun _ => False) hw3) (fun i hi => hi.elim)
      have t3 := Chg.tr t2 (Rl.Chg.of_grown (E := fun b => (Value.slice A' acc.length c').ownBlock = some b) hg (fun x e => e)) (fun i hi => .inr (hL.own.lt i hi).1)
      exact Chg.tr t3 (Rl.Chg.of_grown (E := fun b => b = pe) ho (fun x e => by injection e with e; exact e.symm)) (fun i hi => .inr (by omega))
  | ok z =>
    obtain ⟨x, s2⟩ := z
    obtain ⟨i, n, m', u, A2, l2, c2, v2, k2, e1, h2, h3, h4⟩ := hp.ok hE
    injection e1 with e1
    injection e1 with e1
    have e1 : [Value.int .i64 i5, .string n5, .int .i64 m5, .int .i64 u5, .slice A5 l5 c5] = [.int .i64 i, .string n, .int .i64 m', .int .i64 u, .slice A2 l2 c2] := congrArg Array.toList e1
    rw [← e1] at h4
    have hst := RLSt.step (w1 := w7) (CL.expr_n d) hL hs hE hm7.chg.size (hm7.tr h3) h2 h4 h3.chg.size hgl hB hown hw3 hg hrow hown2
    refine .inl ⟨acc ++ [x], vs ++ [[.int .i64 i5, .string n5, .int .i64 m5, .int .i64 u5, .slice A5 l5 c5]], v2, k2, m - 1, s2, by simp, ?_⟩
    exact hst.setE ho (own_ne h2.own hb9 (by decide)) (by omega) (by omega)
end Go.Proofs.YtlfnpkjfnafeaaaDoor
