
/- The reference's reader, third part: what expr leaves. -/
import Derived.Test.YtlfnpkjfnafeaaaDoorRr2
namespace Go.Proofs.YtlfnpkjfnafeaaaDoor
open Go.RowKit
set_option linter.unusedVariables false
set_option linter.unusedSimpArgs false
set_option maxRecDepth 100000
/-- the slots are hidden but for one, ahead of a return: the walk's own look at the results ends at once -/
theorem wpList_hide {P : Program} {ops : Array Oper} {rest : List Oper} {a : Act} {W : World} {Q : Exit → Act → World → Prop} (i : Nat) (h : ∀ a' : Act, a'.tmps[i]? = a.tmps[i]? → a'.defers = a.defers → wpList P ops Q rest a' W) : wpList P ops Q rest a W := h a rfl rfl
variable {w : World} {g B base : Nat} {A : Option Addr} {c : Nat} {all : List CL.Tk} {v : Value} {k : Nat} {s : CL.PS}
/-- some expression's cells -/
def ShEx (e : Ending) : Prop := ∃ i n m u A' l c', e = .returned (.agg #[.int .i64 i, .string n, .int .i64 m, .int .i64 u, .slice A' l c'])
theorem ShEx.zero : ShEx (.returned (.agg #[.int .i64 0, .string ⟨#[]⟩, .int .i64 0, .int .i64 0, .slice none 0 0])) := ⟨_, _, _, _, _, _, _, rfl⟩
/-- an error that is noted, or the expression that is read -/
def RxPost (w : World) (g B base : Nat) (A : Option Addr) (c : Nat) (all : List CL.Tk) (v : Value) (r : CL.PR CL.Ex) (e : Ending) (w' : World) : Prop := match r with
  | .error p => ShEx e ∧ p.2 ≠ 0 ∧ RErr w' g p.1 p.2 ∧ Rl.Chg (fun b => b = g ∨ v.ownBlock = some b) w w'
  | .ok x => ∃ cs v' k', e = .returned (.agg cs.toArray) ∧ RSt w' g B base A c all v' k' x.2 ∧ Mv g v v' w w' ∧ RdF w' w.heap.size w'.heap.size [v'.ownBlock] x.1 cs
theorem RxPost.er {r : CL.PR CL.Ex} {e : Ending} {w' : World} {p : Int × Int} (h : RxPost w g B base A c all v r e w') (hr : r = .error p) : ShEx e ∧ p.2 ≠ 0 ∧ RErr w' g p.1 p.2 ∧ Rl.Chg (fun b => b = g ∨ v.ownBlock = some b) w w' := by
  rw [hr] at h; exact h
theorem RxPost.ok {r : CL.PR CL.Ex} {e : Ending} {w' : World} {x : CL.Ex} {s' : CL.PS} (h : RxPost w g B base A c all v r e w') (hr : r = .ok (x, s')) :
    ∃ i n m u A' l c' v' k', e = .returned (.agg #[.int .i64 i, .string n, .int .i64 m, .int .i64 u, .slice A' l c']) ∧ RSt w' g B base A c all v' k' s' ∧ Mv g v v' w w' ∧ RdF w' w.heap.size w'.heap.size [v'.ownBlock] x [.int .i64 i, .string n, .int .i64 m, .int .i64 u, .slice A' l c'] := by
  rw [hr] at h
  obtain ⟨cs, v', k', rfl, h1, h2, h3⟩ := h
  obtain ⟨i, n, m, u, A', l, c', rfl⟩ := h3.rd.shape
  exact ⟨i, n, m, u, A', l, c', v', k', rfl, h1, h2, h3⟩
theorem RxPost.err {r : CL.PR CL.Ex} {e : Ending} {w' : World} {p m : Int} (hr : r = .error (p, m)) (h1 : ShEx e) (h2 : m ≠ 0) (h3 : RErr w' g p m) (h4 : Rl.Chg (fun b => b = g ∨ v.ownBlock = some b) w w') : RxPost w g B base A c all v r e w' := by
  rw [hr]; exact ⟨h1, h2, h3, h4⟩
theorem RSt.cellsAt {b o : Nat} (h : RSt w g B base (some ⟨b, o, none⟩) c all v k s) : b < B ∧
    w.cell? ⟨b, o + k * 4, none⟩ = some (.int .i64 s.hd.kind) ∧ w.cell? ⟨b, o + k * 4 + 1, none⟩ = some (.string ⟨s.hd.text.toArray⟩) ∧ w.cell? ⟨b, o + k * 4 + 2, none⟩ = some (.int .i64 s.hd.num) ∧ w.cell? ⟨b, o + k * 4 + 3, none⟩ = some (.int .i64 s.hd.pos) := by
  obtain ⟨b', o', e, h1⟩ := h.cells
  injection e with e
  injection e with e1 e2
  subst e1 e2
  exact h1
theorem Blk.setNe {w : World} {p q : Nat} {T : TypeId} {cs : Array Value} (h : Blk w p T cs) (hpq : p ≠ q) (i : Nat) (x : Value) : Blk (w.setCell ⟨q, i, none⟩ x) p T cs := h.only (Only.rf.set (g := q) i x) hpq
/-- the reader's atoms, with a new one -/
theorem RSt.note {w' : World} (h : RSt w g B base A c all v k s) {a : CL.At} {r : Ending}
    (hp : NotePost a s.l w g 3 base 76 #[.slice A all.length c, .int .i64 k, .int .i64 s.n, v, .int .i64 0, .int .i64 0] v r w') :
    r = .returned (.int .i64 (CL.note s.l a).1) ∧ ∃ v', RSt w' g B base A c all v' k ⟨s.n, (CL.note s.l a).2, s.r⟩ ∧ Mv g v v' w w' := by
  obtain ⟨hr, v', hb, hown, hm⟩ := hp
  refine ⟨hr, v', ⟨h.hk, h.last, h.r, by simpa using hb, hown, h.tk.below (h.below hm), h.Bg, h.Bb, Nat.le_trans h.bs hm.chg.size, h.len, note_le _ _ h.l8, h.n30, h.ok⟩, hm⟩
end Go.Proofs.YtlfnpkjfnafeaaaDoor
