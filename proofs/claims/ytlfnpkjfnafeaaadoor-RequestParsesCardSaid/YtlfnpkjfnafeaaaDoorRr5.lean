
/- The reference's reader, fifth part: its states, right or wrong; expr behind an error; what the walk of expr needs. -/
import Derived.Test.YtlfnpkjfnafeaaaDoorRr4
namespace Go.Proofs.YtlfnpkjfnafeaaaDoor
open Go.RowKit
set_option linter.unusedVariables false
set_option linter.unusedSimpArgs false
set_option maxRecDepth 100000
variable {w : World} {g B base : Nat} {A : Option Addr} {c : Nat} {all : List CL.Tk} {v : Value} {k : Nat} {s : CL.PS}
/-- a state, or an error -/
abbrev PX := Except (Int × Int) CL.PS
def nx (r : PX) (kd : Int) (tx : List UInt8) : PX := match r with
  | .ok s => (match CL.expectP kd tx s with
    | .ok x => .ok x.2
    | .error p => .error p)
  | .error p => .error p
def bnd {α : Type} (r : PX) (f : CL.PS → CL.PR α) : CL.PR α := match r with
  | .ok s => f s
  | .error p => .error p
def RSx (w : World) (g B base : Nat) (A : Option Addr) (c : Nat) (all : List CL.Tk) (v : Value) (r : PX) : Prop := match r with
  | .ok s => ∃ k, RSt w g B base A c all v k s
  | .error p => p.2 ≠ 0 ∧ RErr w g p.1 p.2
theorem RErr.ext {w' : World} {p e : Int} (h : RErr w g p e) (hx : Ext w w') : RErr w' g p e := by
  obtain ⟨c0, c1, c2, c3, hb⟩ := h
  exact ⟨c0, c1, c2, c3, hb.ext hx⟩
theorem RErr.only {w' : World} {p e : Int} {q : Nat} (h : RErr w g p e) (ho : Only q w w') (hg : g ≠ q) : RErr w' g p e := by
  obtain ⟨c0, c1, c2, c3, hb⟩ := h
  exact ⟨c0, c1, c2, c3, hb.only ho hg⟩
theorem RSx.cell4 {r : PX} (h : RSx w g B base A c all v r) : ∃ e : Int, w.cell? ⟨g, 4, none⟩ = some (.int .i64 e) ∧ ((e = 0) ↔ ∃ s, r = .ok s) := by
  cases r with
  | ok s => obtain ⟨k, h⟩ := h; exact ⟨0, h.blk.cell 4, by simp⟩
  | error p => obtain ⟨h1, c0, c1, c2, c3, hb⟩ := h; exact ⟨p.2, hb.cell 4, by simpa using h1⟩
theorem reader.want_x {r : PX} (h : RSx w g B base A c all v r) (kd : Int) (tx : List UInt8) (h5 : kd ≠ 5) :
    Calls Tryd.prog 72 #[.pointer (some ⟨g, 0, none⟩), .int .i64 kd, .string ⟨tx.toArray⟩] w fun e w' => e = .returned (.tuple #[]) ∧ RSx w' g B base A c all v (nx r kd tx) ∧ Mv g v v w w' := by
  cases r with
  | ok s =>
    obtain ⟨k, h⟩ := h
    refine (reader.want_c h kd tx h5).mono ?_
    rintro e w' ⟨h1, h2, h3⟩
    refine ⟨h1, ?_, h3⟩
    unfold RdPost at h2
    unfold nx
    cases hE : CL.expectP kd tx s with
    | ok x => rw [hE] at h2; simp only [hE]; exact h2
    | error p => rw [hE] at h2; simp only [hE]; exact h2
  | error p =>
    obtain ⟨h1, h2⟩ := h
    refine (reader.want_err w g p.1 p.2 kd ⟨tx.toArray⟩ h1 h2).mono ?_
    rintro e w' ⟨h3, rfl⟩
    exact ⟨h3, ⟨h1, h2⟩, Mv.rf⟩
theorem only_new {w1 w8 : World} {p : Nat} (hx : Ext w w1) (ho : Only p w1 w8) (hp : w.heap.size ≤ p) : Ext w w8 :=
  Rl.Chg.tr_ext hx (Rl.Chg.of_grown (E := fun b => b = p) ho (fun x e => by injection e with e; exact e.symm)) (fun g hg => by omega)
set_option maxHeartbeats 1600000 in
theorem reader.expr_err (w : World) (g : Nat) (p e lv : Int) (he : e ≠ 0) (hb : RErr w g p e) :
    Calls Tryd.prog 38 #[.pointer (some ⟨g, 0, none⟩), .int .i64 lv] w fun r w' => ShEx r ∧ Ext w w' := by
  obtain ⟨c0, c1, c2, c3, hb⟩ := hb
  have hx0 := Ext.new w (.cells #[.int .i64 0, .string ⟨#[]⟩, .int .i64 0, .int .i64 0, .slice none 0 0] 28)
  have bR := Lib.hid (Blk.new w 28 #[.int .i64 0, .string ⟨#[]⟩, .int .i64 0, .int .i64 0, .slice none 0 0])
  have k4 : (w.alloc (.cells #[.int .i64 0, .string ⟨#[]⟩, .int .i64 0, .int .i64 0, .slice none 0 0] 28)).cell? ⟨g, 4, none⟩ = some (.int .i64 e) := (hb.alloc _).cell 4
  have hed : (e == 0) = false := by simpa using he
  have hlt := hb.lt
  have hne : g ≠ w.heap.size := by omega
  go_enter Tryd.func38, Tryd.ntmps38
  go_wp2_with (with_reducible refine is_store 28 (.tmp 4) (.tmp 14) rfl ?_; refine wpList_store_blk rfl rfl 28 (.tmp 4) (.tmp 14) rfl w.heap.size #[.int .i64 0, .string ⟨#[]⟩, .int .i64 0, .int .i64 0, .slice none 0 0] (by kernel_rfl) (by kernel_rfl) _ _ bR.out 5 ex_isz rfl rfl (by simp [Value.oneCell']) ?_; intro w8 hB8 ho8; have r0 := hB8.cell 0; have r1 := hB8.cell 1; have r2 := hB8.cell 2; have r3 := hB8.cell 3; have r4 := hB8.cell 4; clear hB8; refine wpList_hide 4 ?_; intro a8 ha8 hd8; replace ha8 : a8.tmps[4]? = some (.pointer (some ⟨w.heap.size, 0, none⟩)) := ha8.trans (by kernel_rfl))
  refine bodyPost_ret (by simp [results, Tryd.results38, go_sem, ha8, r0, r1, r2, r3, r4]; try rfl) (hd8.trans rfl) ?_
  exact ⟨ShEx.zero, only_new hx0 ho8 (Nat.le_refl _)⟩
/-- what a walk of expr says -/
def RxC (d : Nat) (lv : Int) : Prop := ∀ (w : World) (g B base : Nat) (A : Option Addr) (c : Nat) (all : List CL.Tk) (v : Value) (k : Nat) (s : CL.PS), RSt w g B base A c all v k s → s.n ≤ 24 → (∀ t ∈ all, t.kind = 3 → t.text = []) →
  Calls Tryd.prog 38 #[.pointer (some ⟨g, 0, none⟩), .int .i64 lv] w (RxPost w g B base A c all v (CL.exprP d s))
theorem reader.expr_x {d : Nat} {lv : Int} (hE : RxC d lv) (h3 : ∀ t ∈ all, t.kind = 3 → t.text = []) {r : PX} (h : RSx w g B base A c all v r) (hn : ∀ s, r = .ok s → s.n ≤ 24) :
    Calls Tryd.prog 38 #[.pointer (some ⟨g, 0, none⟩), .int .i64 lv] w (RxPost w g B base A c all v (bnd r (CL.exprP d))) := by
  cases r with
  | ok s => obtain ⟨k, h⟩ := h; exact hE _ _ _ _ _ _ _ _ _ _ h (hn s rfl) h3
  | error p =>
    obtain ⟨h1, h2⟩ := h
    refine (reader.expr_err w g p.1 p.2 lv h1 h2).mono ?_
    rintro e w' ⟨h3, h4⟩
    exact ⟨h3, h1, h2.ext h4, Rl.Chg.of_ext h4⟩
/-- the value of a call is stored in the result's block -/
theorem RxPost.up {w0 w5 w8 : World} {r : CL.PR CL.Ex} {e : Ending} {p : Nat} {T : TypeId} {cs : Array Value} (h : RxPost w g B base A c all v r e w5) (hm : Mv g v v w0 w) (hp : w0.heap.size ≤ p) (hpw : p < w.heap.size) (hpg : g ≠ p) (hB : B ≤ p) (hb : Blk w5 p T cs) (hT : 25 ≠ T) (ho : Only p w5 w8) : RxPost w0 g B base A c all v r e w8 := by
  have hcg : Rl.Chg (fun b => b = p) w5 w8 := Rl.Chg.of_grown ho (fun x e => by injection e with e; exact e.symm)
  cases hr : r with
  | error q =>
    obtain ⟨h1, h2, h3, h4⟩ := h.er hr
    exact ⟨h1, h2, h3.only ho hpg, Chg.tr (Chg.tr hm.chg h4 (fun i hi => .inl hi)) hcg (fun i hi => .inr (by omega))⟩
  | ok z =>
    obtain ⟨x, s'⟩ := z
    rw [hr] at h
    obtain ⟨cs', v', k', e1, h2, h3, h4⟩ := h
    refine ⟨cs', v', k', e1, h2.only (own_ne h2.own hb hT) hpg hB ho, (hm.tr h3).only ho hp, ?_⟩
    exact (h4.go hcg (fun b hb => .inr (by omega)) (fun y hy => .inl hy)).wide hm.chg.size (Nat.le_refl _) (fun _ _ _ h => h)
theorem L_err {r1 : PX} {f : CL.PS → CL.PR CL.Ex} {q : Int × Int} (h : bnd (nx r1 4 [40]) f = .error q) : bnd r1 (CL.listP f) = .error q := by
  cases r1 with
  | error p =>
    have h : (Except.error p : CL.PR CL.Ex) = .error q := h
    injection h with h; subst h; rfl
  | ok s =>
    show CL.listP f s = _
    cases hE : CL.expectP 4 [40] s with
    | error p =>
      have e : nx (.ok s) 4 [40] = .error p := by unfold nx; simp only [hE]
      rw [e] at h
      have h : (Except.error p : CL.PR CL.Ex) = .error q := h
      injection h with h; subst h
      unfold CL.listP; rw [hE]; rfl
    | ok x =>
      have e : nx (.ok s) 4 [40] = .ok x.2 := by unfold nx; simp only [hE]
      rw [e] at h
      have h : f x.2 = .error q := h
      unfold CL.listP; rw [hE]
      simp only [CL.bindP, h]
theorem L_ok {r1 : PX} {f : CL.PS → CL.PR CL.Ex} {x : CL.Ex} {s2 : CL.PS} (h : bnd (nx r1 4 [40]) f = .ok (x, s2)) : bnd r1 (CL.listP f) = CL.bindP (CL.moreP f 25 [x] s2) fun l s3 => CL.bindP (CL.expectP 4 [41] s3) fun _ s4 => .ok (l, s4) := by
  cases r1 with
  | error p =>
    have h : (Except.error p : CL.PR CL.Ex) = .ok (x, s2) := h
    cases h
  | ok s =>
    show CL.listP f s = _
    cases hE : CL.expectP 4 [40] s with
    | error p =>
      have e : nx (.ok s) 4 [40] = .error p := by unfold nx; simp only [hE]
      rw [e] at h
      have h : (Except.error p : CL.PR CL.Ex) = .ok (x, s2) := h
      cases h
    | ok y =>
      have e : nx (.ok s) 4 [40] = .ok y.2 := by unfold nx; simp only [hE]
      rw [e] at h
      have h : f y.2 = .ok (x, s2) := h
      unfold CL.listP; rw [hE]
      simp only [CL.bindP, h]
/-- the loop of expr: its row in the group's block, and what is read, or the error -/
def GRel (w : World) (g B base : Nat) (A : Option Addr) (c : Nat) (all : List CL.Tk) (v : Value) (R : CL.PR (List CL.Ex)) (rd : CL.PS → CL.PR CL.Ex) (pe : Nat) (wr : World) : Prop :=
  ∃ n A' c', n ≤ 25 ∧ Blk wr pe 28 #[.int .i64 0, .string ⟨#[]⟩, .int .i64 0, .int .i64 0, .slice A' n c'] ∧
    ((∃ acc vs v' k' m s', n = acc.length ∧ RLSt w g B base A c all v R rd pe wr (.slice A' n c') acc vs v' k' m s') ∨ (∃ q : Int × Int, R = .error q ∧ q.2 ≠ 0 ∧ RErr wr g q.1 q.2 ∧ Rl.Chg (fun b => b = g ∨ v.ownBlock = some b) w wr))
def kidsN (w : World) (p : Nat) : Nat := match w.cell? ⟨p, 4, none⟩ with
  | some (.slice _ n _) => n
  | _ => 0
theorem kidsN_blk {p n c' : Nat} {A' : Option Addr} {a b d e : Value} {T : TypeId} (h : Blk w p T #[a, b, d, e, .slice A' n c']) : kidsN w p = n := by
  have h4 : w.cell? ⟨p, 4, none⟩ = some (.slice A' n c') := h.cell 4
  unfold kidsN
  rw [h4]
end Go.Proofs.YtlfnpkjfnafeaaaDoor
