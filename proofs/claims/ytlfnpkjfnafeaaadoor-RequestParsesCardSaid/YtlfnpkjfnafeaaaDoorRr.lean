
/- The reference's reader, first part: its state (RSt: like PSt, with two more cells: the error and where). -/
import Derived.Test.YtlfnpkjfnafeaaaDoorZ9
import Derived.Test.YtlfnpkjfnafeaaaDoorZ5
namespace Go.Proofs.YtlfnpkjfnafeaaaDoor
open Go.RowKit
set_option linter.unusedVariables false
set_option linter.unusedSimpArgs false
set_option maxRecDepth 100000
/-- the program's parser at the token k: what is left, the nodes, the atoms -/
structure RSt (w : World) (g B base : Nat) (A : Option Addr) (c : Nat) (all : List CL.Tk) (v : Value) (k : Nat) (s : CL.PS) : Prop where
  hk : k < all.length
  last : ∀ h : all.length - 1 < all.length, all[all.length - 1].kind = 5
  r : s.r = all.drop k
  blk : Blk w g 76 #[.slice A all.length c, .int .i64 k, .int .i64 s.n, v, .int .i64 0, .int .i64 0]
  own : w.ownsRow base 25 3 v s.l.length (ats s.l)
  tk : SitsB w B A (tks all)
  Bg : B ≤ g
  Bb : B ≤ base
  bs : base ≤ w.heap.size
  len : all.length ≤ 2000
  l8 : s.l.length ≤ 8
  n30 : s.n ≤ 30
  ok : ∀ t ∈ all, CL.TkOk t
theorem RSt.hd {w : World} {g B base : Nat} {A : Option Addr} {c : Nat} {all : List CL.Tk} {v : Value} {k : Nat} {s : CL.PS} (h : RSt w g B base A c all v k s) : s.hd = all[k]'h.hk := by
  unfold CL.PS.hd CL.hdT
  rw [h.r, List.drop_eq_getElem_cons h.hk]; rfl
theorem RSt.cells {w : World} {g B base : Nat} {A : Option Addr} {c : Nat} {all : List CL.Tk} {v : Value} {k : Nat} {s : CL.PS} (h : RSt w g B base A c all v k s) : ∃ b o, A = some ⟨b, o, none⟩ ∧ b < B ∧
    w.cell? ⟨b, o + k * 4, none⟩ = some (.int .i64 s.hd.kind) ∧ w.cell? ⟨b, o + k * 4 + 1, none⟩ = some (.string ⟨s.hd.text.toArray⟩) ∧ w.cell? ⟨b, o + k * 4 + 2, none⟩ = some (.int .i64 s.hd.num) ∧ w.cell? ⟨b, o + k * 4 + 3, none⟩ = some (.int .i64 s.hd.pos) := by
  have hk := h.hk
  obtain ⟨b, o, e, hb, hc⟩ := h.tk (fun e => by have := tks_len all; rw [e] at this; simp at this; omega)
  rw [h.hd]
  exact ⟨b, o, e, hb, tk_cells hc h.hk⟩
theorem RSt.ext {w w' : World} {g B base : Nat} {A : Option Addr} {c : Nat} {all : List CL.Tk} {v : Value} {k : Nat} {s : CL.PS} (h : RSt w g B base A c all v k s) (hx : Ext w w') : RSt w' g B base A c all v k s :=
  ⟨h.hk, h.last, h.r, h.blk.ext hx, own_ext h.own hx, h.tk.below (hx.mono (by have := h.blk.lt; have := h.Bg; omega)), h.Bg, h.Bb, Nat.le_trans h.bs hx.size, h.len, h.l8, h.n30, h.ok⟩
theorem RSt.below {w w' : World} {g B base : Nat} {A : Option Addr} {c : Nat} {all : List CL.Tk} {v v' : Value} {k : Nat} {s : CL.PS} (h : RSt w g B base A c all v k s) (hm : Mv g v v' w w') : Below B w w' :=
  hm.below h.Bg (Nat.le_trans h.Bb h.bs) (fun x hx => Nat.le_trans h.Bb (h.own.lt x hx).1)
theorem RSt.ne {w : World} {g B base : Nat} {A : Option Addr} {c : Nat} {all : List CL.Tk} {v : Value} {k : Nat} {s : CL.PS} (h : RSt w g B base A c all v k s) : some g ≠ v.ownBlock := Ne.symm (own_ne h.own h.blk (by decide))
/-- the next token -/
theorem RSt.next {w : World} {g B base : Nat} {A : Option Addr} {c : Nat} {all : List CL.Tk} {v : Value} {k : Nat} {s : CL.PS} (h : RSt w g B base A c all v k s) (h5 : s.hd.kind ≠ 5) :
    RSt (w.setCell ⟨g, 1, none⟩ (.int .i64 ((k : Int) + 1))) g B base A c all v (k + 1) s.next ∧ Mv g v v w (w.setCell ⟨g, 1, none⟩ (.int .i64 ((k : Int) + 1))) := by
  have hm : Mv g v v w (w.setCell ⟨g, 1, none⟩ (.int .i64 ((k : Int) + 1))) := Mv.set (Only.rf.set 1 _)
  refine ⟨⟨?_, h.last, ?_, ?_, ?_, h.tk.below (h.below hm), h.Bg, h.Bb, Nat.le_trans h.bs hm.chg.size, h.len, h.l8, h.n30, h.ok⟩, hm⟩
  · have h1 := h.hk
    rw [h.hd] at h5
    by_cases he : k = all.length - 1
    · subst he; exact absurd (h.last (by omega)) h5
    · omega
  · show s.r.tail = _
    rw [h.r, List.tail_drop]
  · have := h.blk.set 1 (.int .i64 ((k : Int) + 1))
    simpa [CL.PS.next] using this
  · exact own_only h.own (Only.rf.set 1 _) (Ne.symm h.ne)
/-- one node more -/
theorem RSt.node {w : World} {g B base : Nat} {A : Option Addr} {c : Nat} {all : List CL.Tk} {v : Value} {k : Nat} {s : CL.PS} (h : RSt w g B base A c all v k s) (hn : s.n < 30) :
    RSt (w.setCell ⟨g, 2, none⟩ (.int .i64 ((s.n : Int) + 1))) g B base A c all v k ⟨s.n + 1, s.l, s.r⟩ ∧ Mv g v v w (w.setCell ⟨g, 2, none⟩ (.int .i64 ((s.n : Int) + 1))) := by
  have hm : Mv g v v w (w.setCell ⟨g, 2, none⟩ (.int .i64 ((s.n : Int) + 1))) := Mv.set (Only.rf.set 2 _)
  refine ⟨⟨h.hk, h.last, h.r, ?_, ?_, h.tk.below (h.below hm), h.Bg, h.Bb, Nat.le_trans h.bs hm.chg.size, h.len, h.l8, hn, h.ok⟩, hm⟩
  · have := h.blk.set 2 (.int .i64 ((s.n : Int) + 1))
    simpa using this
  · exact own_only h.own (Only.rf.set 2 _) (Ne.symm h.ne)
/-- another block of the call's has changed -/
theorem RSt.only {w w' : World} {g B base : Nat} {A : Option Addr} {c : Nat} {all : List CL.Tk} {v : Value} {k : Nat} {s : CL.PS} (h : RSt w g B base A c all v k s) {p : Nat} (hv : v.ownBlock ≠ some p) (hpg : g ≠ p) (hB : B ≤ p) (ho : Only p w w') : RSt w' g B base A c all v k s :=
  ⟨h.hk, h.last, h.r, h.blk.only ho hpg, own_only h.own ho hv, h.tk.below ⟨ho.os, ho.tape, ho.output, ho.size, fun i hi => ho.block i (by have := h.Bg; have := h.blk.lt; omega) (fun e => by injection e; omega)⟩, h.Bg, h.Bb, Nat.le_trans h.bs ho.size, h.len, h.l8, h.n30, h.ok⟩
/-- the row of atoms lies among what was there -/
theorem RSt.young {w : World} {g B base : Nat} {A : Option Addr} {c : Nat} {all : List CL.Tk} {v : Value} {k : Nat} {s : CL.PS} (h : RSt w g B base A c all v k s) {p : Nat} (hp : w.heap.size ≤ p) : v.ownBlock ≠ some p := fun e => by
  have := (h.own.lt p e).2; omega
/-- the reader has noted an error -/
def RErr (w : World) (g : Nat) (p e : Int) : Prop := ∃ c0 c1 c2 c3, Blk w g 76 #[c0, c1, c2, c3, .int .i64 e, .int .i64 p]
set_option maxHeartbeats 1600000 in
/-- fail notes the first error -/
theorem reader.fail_c (w : World) (g : Nat) (c0 c1 c2 c3 : Value) (p e : Int) (hb : Blk w g 76 #[c0, c1, c2, c3, .int .i64 0, .int .i64 0]) :
    Calls Tryd.prog 40 #[.pointer (some ⟨g, 0, none⟩), .int .i64 p, .int .i64 e] w fun r w' => r = .returned (.tuple #[]) ∧ Blk w' g 76 #[c0, c1, c2, c3, .int .i64 e, .int .i64 p] ∧ Only g w w' := by
  have k4 : w.cell? ⟨g, 4, none⟩ = some (.int .i64 0) := hb.cell 4
  have k5 : w.cell? ⟨g, 5, none⟩ = some (.int .i64 0) := hb.cell 5
  have f4 := hb.frozen 4
  have f5 := hb.frozen 5
  go_enter Tryd.func40, Tryd.ntmps40
  go_wp2
  go_end0
  have hs := (hb.set 4 (.int .i64 e)).set 5 (.int .i64 p)
  exact ⟨rfl, by simpa using hs, (Only.rf.set 4 _).set 5 _⟩
/-- want does nothing behind an error -/
theorem reader.want_err (w : World) (g : Nat) (p e kd : Int) (tx : ByteArray) (he : e ≠ 0) (hb : RErr w g p e) :
    Calls Tryd.prog 72 #[.pointer (some ⟨g, 0, none⟩), .int .i64 kd, .string tx] w fun r w' => r = .returned (.tuple #[]) ∧ w = w' := by
  obtain ⟨c0, c1, c2, c3, hb⟩ := hb
  have k4 : w.cell? ⟨g, 4, none⟩ = some (.int .i64 e) := hb.cell 4
  have hed : (e == 0) = false := by simpa using he
  go_enter Tryd.func72, Tryd.ntmps72
  go_wp2
  refine bodyPost_ret (v := .tuple #[]) (by simp [results, Tryd.results72, go_sem]) rfl ?_
  exact ⟨rfl, rfl⟩
set_option maxHeartbeats 1600000 in
theorem reader.is_c {w : World} {g B base : Nat} {A : Option Addr} {c : Nat} {all : List CL.Tk} {v : Value} {k : Nat} {s : CL.PS} (h : RSt w g B base A c all v k s) (kd : Int) (tx : List UInt8) :
    Calls Tryd.prog 73 #[.pointer (some ⟨g, 0, none⟩), .int .i64 kd, .string ⟨tx.toArray⟩] w fun r w' => r = .returned (.bool (CL.sees kd tx s)) ∧ Ext w w' := by
  obtain ⟨b, o, rfl, hb, c0, c1, c2, c3⟩ := h.cells
  have hb0 := h.blk
  have hlt := hb0.lt
  have hkl := h.hk
  have hBg := h.Bg
  have e0 : w.cell? ⟨g, 0, none⟩ = some (.slice (some ⟨b, o, none⟩) all.length c) := hb0.cell 0
  have e1 : w.cell? ⟨g, 1, none⟩ = some (.int .i64 k) := hb0.cell 1
  have hne : g ≠ w.heap.size := by omega
  have hne2 : b ≠ w.heap.size := by omega
  clear h
  unfold CL.sees
  generalize s.hd = t at *
  obtain ⟨tk, tt, tn, tp⟩ := t
  simp only at c0 c1 c2 c3 ⊢
  have y0 := fun ob => (Ext.new w ob).cell c0
  have y1 := fun ob => (Ext.new w ob).cell c1
  have y2 := fun ob => (Ext.new w ob).cell c2
  have y3 := fun ob => (Ext.new w ob).cell c3
  have z0 := fun ob => (Ext.new w ob).cell e0
  have z1 := fun ob => (Ext.new w ob).cell e1
  go_enter Tryd.func73, Tryd.ntmps73
  go_wp2
  go_region
  go_wp2
  all_goals
    go_ret
    refine ⟨ret_bool ?_, by go_grown⟩
    go_tidy
    grind
end Go.Proofs.YtlfnpkjfnafeaaaDoor
