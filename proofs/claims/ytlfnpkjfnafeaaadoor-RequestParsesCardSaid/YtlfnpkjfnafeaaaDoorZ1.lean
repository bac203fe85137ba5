/-  -/
import Derived.Test.YtlfnpkjfnafeaaaDoorProg
import Derived.WalkKit
import Derived.Handy
import Derived.Lib.Hide
import Derived.Maps.AppendAt
import Derived.Laws.OwnMore
import Derived.Deep.QuietTactic
import Derived.BigQuiet
import Init
import Derived.OpenShut
import Derived.Deep.Slices
import Derived.Lib.SmallJoins
/- Words for memory that all walks of this claim share: what has not changed (Ext), a list of cells that sits at an address (Sits), append onto a row of the call's own. -/
namespace Go.Proofs.YtlfnpkjfnafeaaaDoor
open Go.RowKit
/-- nothing that was there has changed -/
abbrev Ext (w w' : World) : Prop := Below w.heap.size w w'
theorem Ext.tr {a b c : World} (h : Ext a b) (k : Ext b c) : Ext a c := h.trans (k.mono h.size)
theorem Ext.cell {a b : World} (h : Ext a b) {p : Addr} {v : Value} (hc : a.cell? p = some v) : b.cell? p = some v := by
  rw [Below.cell h (World.block_lt_of_cell? a p hc)]; exact hc
theorem Ext.rfl' {a : World} : Ext a a := Below.refl _ _
theorem Ext.new (w : World) (o : Obj) : Ext w (w.alloc o) := (Below.refl _ _).alloc (Nat.le_refl _) _
theorem Ext.drawn (w : World) : Ext w w.drew := (Below.refl _ _).drew
theorem ret_int {k : IntKind} {a b : Int} (h : a = b) : Ending.returned (.int k a) = .returned (.int k b) := by rw [h]
theorem ret_bool {a b : Bool} (h : a = b) : Ending.returned (.bool a) = .returned (.bool b) := by rw [h]
theorem ret_str {a b : List UInt8} (h : a = b) : Ending.returned (.string ⟨a.toArray⟩) = .returned (.string ⟨b.toArray⟩) := by rw [h]
theorem ret_int_bool {a b : Int} {c d : Bool} (h : a = b) (k : c = d) : Ending.returned (.tuple #[.int .i64 a, .bool c]) = .returned (.tuple #[.int .i64 b, .bool d]) := by rw [h, k]

/-- the cells xs stand at the address A, one behind the other -/
def Sits (w : World) (A : Option Addr) (xs : List Value) : Prop :=
  xs ≠ [] → ∃ b o, A = some ⟨b, o, none⟩ ∧ ∀ j u, xs[j]? = some u → w.cell? ⟨b, o + j, none⟩ = some u
theorem Sits.nil {w : World} {A : Option Addr} : Sits w A [] := fun h => absurd rfl h
theorem Sits.ext {w w' : World} {A : Option Addr} {xs : List Value} (h : Sits w A xs) (hx : Ext w w') : Sits w' A xs := fun hn =>
  let ⟨b, o, e, hc⟩ := h hn
  ⟨b, o, e, fun j u hu => hx.cell (hc j u hu)⟩
theorem Sits.get {w : World} {A : Option Addr} {xs : List Value} (h : Sits w A xs) (hl : 0 < xs.length) :
    ∃ b o, A = some ⟨b, o, none⟩ ∧ ∀ j u, xs[j]? = some u → w.cell? ⟨b, o + j, none⟩ = some u :=
  h (fun e => by subst e; simp at hl)
theorem Sits.of_own {w : World} {base : Nat} {E : TypeId} {size n c : Nat} {A : Option Addr} {xs : List Value} (h : w.ownsRow base E size (.slice A n c) n xs) : Sits w A xs := by
  intro hn
  rcases h.2 with ⟨e, hz⟩ | ⟨g, cap, cur, e, _⟩
  · subst hz; exact absurd (List.eq_nil_of_length_eq_zero (by simpa using h.1)) hn
  · injection e with e1 e2 e3
    subst e1
    refine ⟨g, 0, rfl, fun j u hu => ?_⟩
    have := h.cells (g := g) (by simp [Value.ownBlock]) j u hu
    simpa [go_sem] using this
theorem Sits.new (w : World) (xs : List Value) (E : TypeId) : Sits (w.alloc (.cells xs.toArray E)) (some ⟨w.heap.size, 0, none⟩) xs := fun _ =>
  ⟨w.heap.size, 0, rfl, fun j u hu => by
    rw [cell_of_row _ _ _ _ _ _ (heap_alloc_new w _)]; simpa using hu⟩
theorem Sits.drew {w : World} {A : Option Addr} {xs : List Value} (h : Sits w A xs) : Sits w.drew A xs := h
theorem Sits.drewN {w : World} {A : Option Addr} {xs : List Value} (h : Sits w A xs) (n : Nat) : Sits (w.drewN n) A xs := h
theorem own_form {w : World} {base : Nat} {E : TypeId} {size n : Nat} {v : Value} {xs : List Value} (h : w.ownsRow base E size v n xs) :
    ∃ A c, v = .slice A n c ∧ n ≤ c ∧ c ≤ maxLen := by
  rcases h.2 with ⟨e, hz⟩ | ⟨g, cap, cur, e, _, _, h1, h2, _⟩
  · exact ⟨none, 0, by rw [e, hz], by omega, by simp [maxLen]⟩
  · exact ⟨_, _, e, h1, h2⟩
theorem own_ext {w w' : World} {base : Nat} {E : TypeId} {size n : Nat} {v : Value} {xs : List Value} (h : w.ownsRow base E size v n xs) (hx : Ext w w') : w'.ownsRow base E size v n xs :=
  h.kept (row := none) ⟨hx.os, hx.tape, hx.output, hx.size, fun k hk _ => hx.block k hk⟩ (by cases hv : v.ownBlock <;> simp)
theorem own_le {w : World} {base base' : Nat} {E : TypeId} {size n : Nat} {v : Value} {xs : List Value} (h : w.ownsRow base E size v n xs) (hb : base' ≤ base) : w.ownsRow base' E size v n xs :=
  ⟨h.1, h.2.imp id fun ⟨g, cap, cur, e, h1, r⟩ => ⟨g, cap, cur, e, by omega, r⟩⟩

section
variable {P : Program} (w : World)
theorem run_append_sits (ty : TypeId) (t : TypeId) (base : Nat) (e : TypeId) (size bytes : Nat) (z : Value) (ht : P.underlying t = some (.slice e)) (hinfo : (P.info? e).map (fun i => (i.zero, i.size, i.bytes)) = some (some z, size, bytes))
    (hzs : z.cells.size = size) (hsz : 0 < size)
    (v : Value) (n : Nat) (xs : List Value) (hown : w.ownsRow base e size v n xs)
    (A : Option Addr) (m c : Nat) (news : List Value) (hl : news.length = m * size) (hr : Sits w A news) (h1 : ∀ u ∈ news, u.oneCell' = true)
    (h63 : n + m ≤ maxLen) (hbytes : (n + m) * bytes ≤ 140737488355328) (hbase : base ≤ w.heap.size) :
    ∃ v' w', (Builtin.append_ #[t, t] ty #[v, .slice A m c]).run P w = .ok v' w' ∧ w'.ownsRow base e size v' (n + m) (xs ++ news) ∧ Below base w w' ∧ w.grownBy w' v.ownBlock := by
  obtain ⟨i, hi, hz, hsize, hby⟩ := info_parts hinfo
  have hgr : ∀ {w' : World}, w.grownBy w' v.ownBlock → Below base w w' := fun {_} hg =>
    (Below.refl base w).grown hg hbase (fun k hk => (hown.lt k hk).1)
  have hnews : ∀ ad, A = some ad → ∀ j u, news[j]? = some u → w.cell? (ad.add j) = some u := by
    intro ad e j u hu
    obtain ⟨b, off, e', hc⟩ := hr (fun e => by subst e; simp at hu)
    rw [e] at e'
    injection e' with e'
    subst e'
    rw [Addr.add_lit]; exact hc j u hu
  rcases A with _ | ad
  · have hn : news = [] := by
      by_cases hn : news = []
      · exact hn
      · obtain ⟨_, _, e, _⟩ := hr hn
        cases e
    subst hn
    have hm : m = 0 := by
      rcases Nat.eq_zero_or_pos m with h0 | h0
      · exact h0
      · have := Nat.mul_pos h0 hsz; simp at hl; omega
    subst hm
    refine ⟨v, w, ?_, by simpa using hown, Below.refl _ _, World.grownBy.refl _ _⟩
    rcases hown.2 with ⟨rfl, rfl⟩ | ⟨g, cap, cur, rfl, _, _, hnc, _⟩
    · simp [Builtin.append_, run_underlying ht, sizeOf, typeInfo, hi, Builtin.lenOf, Builtin.firstCells]
    · simp [Builtin.append_, run_underlying ht, sizeOf, typeInfo, hi, Builtin.lenOf, Builtin.firstCells, hnc, storeCells]
  · obtain ⟨v', w', hrun, h2, h3, _, _⟩ := run_append_own_at (P := P) w base t ty e i z size bytes ht hi hz hsize hby hzs hsz v n xs hown ad m c news hl
      (hnews ad rfl) h1 h63 hbytes hbase
    exact ⟨v', w', hrun, h2, hgr h3, h3⟩
theorem wp_append_sits {o : Oper} {a : Act} {K : Act → World → Prop} {Q : Exit → Act → World → Prop} (s x : Operand) (t : TypeId) 
    (ho : o.op = .call { callee := .builtin .append, args := #[s, x], argTypes := #[t, t] }) (base : Nat) (e : TypeId) (size bytes : Nat) (z : Value) (ht : P.underlying t = some (.slice e)) (hinfo : (P.info? e).map (fun i => (i.zero, i.size, i.bytes)) = some (some z, size, bytes))
    (hzs : z.cells.size = size) (hsz : 0 < size)
    (v : Value) (n : Nat) (xs : List Value) (hs : a.eval s = v) (hown : w.ownsRow base e size v n xs)
    (A : Option Addr) (m c : Nat) (news : List Value) (hx : a.eval x = .slice A m c) (hl : news.length = m * size) (hr : Sits w A news) (h1 : ∀ u ∈ news, u.oneCell' = true)
    (h63 : n + m ≤ maxLen) (hbytes : (n + m) * bytes ≤ 140737488355328) (hbase : base ≤ w.heap.size)
    (h : ∀ v' w', w'.ownsRow base e size v' (n + m) (xs ++ news) → Below base w w' → w.grownBy w' v.ownBlock → K (a.put o.dst v') w') : o.wp P a w K Q := by
  obtain ⟨v', w', hrun, h2, h3, h4⟩ := run_append_sits (P := P) w o.type t base e size bytes z ht hinfo hzs hsz v n xs hown A m c news hl hr h1 h63 hbytes hbase
  unfold Oper.wp execOp
  simp only [ho, resolve, invoke, builtin, Sem.run_bind, Sem.run_pure, Result.andThen_ok, List.map_toArray, List.map_cons, List.map_nil, hs, hx, hrun]
  exact h v' w' h2 h3 h4
theorem wpList_append_sits {ops : Array Oper} {rest : List Oper} {o : Oper} {a : Act} {Q : Exit → Act → World → Prop} (hgd : o.guard = none) (s x : Operand) (t : TypeId) 
    (ho : o.op = .call { callee := .builtin .append, args := #[s, x], argTypes := #[t, t] }) (base : Nat) (e : TypeId) (size bytes : Nat) (z : Value) (ht : P.underlying t = some (.slice e)) (hinfo : (P.info? e).map (fun i => (i.zero, i.size, i.bytes)) = some (some z, size, bytes))
    (hzs : z.cells.size = size) (hsz : 0 < size)
    (v : Value) (n : Nat) (xs : List Value) (hs : a.eval s = v) (hown : w.ownsRow base e size v n xs)
    (A : Option Addr) (m c : Nat) (news : List Value) (hx : a.eval x = .slice A m c) (hl : news.length = m * size) (hr : Sits w A news) (h1 : ∀ u ∈ news, u.oneCell' = true)
    (h63 : n + m ≤ maxLen) (hbytes : (n + m) * bytes ≤ 140737488355328) (hbase : base ≤ w.heap.size)
    (h : ∀ v' w', w'.ownsRow base e size v' (n + m) (xs ++ news) → Below base w w' → w.grownBy w' v.ownBlock → wpList P ops Q rest (a.put o.dst v') w') : wpList P ops Q (o :: rest) a w :=
  wpList_plain hgd fun _ hK => wp_append_sits w s x t ho base e size bytes z ht hinfo hzs hsz v n xs hs hown A m c news hx hl hr h1 h63 hbytes hbase fun v' w' h2 h3 h4 => hK _ _ (h v' w' h2 h3 h4)
theorem step_append_sits {ops : Array Oper} {o : Oper} {a : Act} {K : Act → World → Prop} {Q : Exit → Act → World → Prop} {E : Prop} (hgd : o.guard = none) (s x : Operand) (t : TypeId) 
    (ho : o.op = .call { callee := .builtin .append, args := #[s, x], argTypes := #[t, t] }) (base : Nat) (e : TypeId) (size bytes : Nat) (z : Value) (ht : P.underlying t = some (.slice e)) (hinfo : (P.info? e).map (fun i => (i.zero, i.size, i.bytes)) = some (some z, size, bytes))
    (hzs : z.cells.size = size) (hsz : 0 < size)
    (v : Value) (n : Nat) (xs : List Value) (hs : a.eval s = v) (hown : w.ownsRow base e size v n xs)
    (A : Option Addr) (m c : Nat) (news : List Value) (hx : a.eval x = .slice A m c) (hl : news.length = m * size) (hr : Sits w A news) (h1 : ∀ u ∈ news, u.oneCell' = true)
    (h63 : n + m ≤ maxLen) (hbytes : (n + m) * bytes ≤ 140737488355328) (hbase : base ≤ w.heap.size)
    (h : ∀ v' w', w'.ownsRow base e size v' (n + m) (xs ++ news) → Below base w w' → w.grownBy w' v.ownBlock → K (a.put o.dst v') w') :
    if Region.wanted o (yielded ops a.tmps) = true then Oper.wp P o a w K Q else E := by
  have hw : Region.wanted o (yielded ops a.tmps) = true := by simp [Region.wanted, hgd]
  rw [if_pos hw]
  exact wp_append_sits w s x t ho base e size bytes z ht hinfo hzs hsz v n xs hs hown A m c news hx hl hr h1 h63 hbytes hbase h
end

/-- contracts that leave the world alone, offered inside a region that draws its order -/
theorem quietL {P : Program} {f : FuncId} {args : Array Value} {w : World} {n : Nat} {v : Value}
    (h : Calls P f args (w.drewN n) fun e w' => e = .returned v ∧ w.drewN n = w') : Calls P f args (w.drewN n) fun e w'' => e = .returned v ∧ ∃ m, w'' = w.drewN m :=
  h.mono fun _ _ ⟨he, hm⟩ => ⟨he, n, hm.symm⟩
theorem quietR {P : Program} {f : FuncId} {args : Array Value} {w : World} {a n : Nat} {v : Value}
    (h : Calls P f args (w.drewN (a + n)) fun e w' => e = .returned v ∧ w.drewN (a + n) = w') :
    Calls P f args (w.drewN (a + n)) fun e w'' => e = .returned v ∧ ∃ m, w'' = w.drewN (a + m) :=
  h.mono fun _ _ ⟨he, hm⟩ => ⟨he, n, hm.symm⟩
theorem quietD {P : Program} {f : FuncId} {args : Array Value} {w : World} {n : Nat} {v : Value}
    (h : Calls P f args (w.drewN n) fun e w' => e = .returned v ∧ ∃ m, w' = (w.drewN n).drewN m) : Calls P f args (w.drewN n) fun e w'' => e = .returned v ∧ ∃ m, w'' = w.drewN m :=
  h.mono fun _ _ ⟨he, m, hm⟩ => ⟨he, n + m, by rw [hm, World.drewN_drewN]⟩
theorem quietE {P : Program} {f : FuncId} {args : Array Value} {w : World} {a n : Nat} {v : Value}
    (h : Calls P f args (w.drewN (a + n)) fun e w' => e = .returned v ∧ ∃ m, w' = (w.drewN (a + n)).drewN m) :
    Calls P f args (w.drewN (a + n)) fun e w'' => e = .returned v ∧ ∃ m, w'' = w.drewN (a + m) :=
  h.mono fun _ _ ⟨he, m, hm⟩ => ⟨he, n + m, by rw [hm, World.drewN_drewN, Nat.add_assoc]⟩
theorem Ext.drewN {a w : World} (h : Ext a w) (n : Nat) : Ext a (w.drewN n) := ⟨h.os, h.tape, h.output, h.size, h.block⟩
/-- numbers as cells -/
def ints (zs : List Int) : List Value := zs.map (Value.int .i64)
theorem ints_len (zs : List Int) : (ints zs).length = zs.length := by simp [ints]
theorem ints_get {zs : List Int} {j : Nat} (h : j < zs.length) : (ints zs)[j]? = some (.int .i64 zs[j]) := by simp [ints, h]
theorem ints_one (zs : List Int) : ∀ u ∈ ints zs, u.oneCell' = true := ints_oneCell _ _
theorem ints_snoc (zs : List Int) (z : Int) : ints (zs ++ [z]) = ints zs ++ [.int .i64 z] := by simp [ints]
end Go.Proofs.YtlfnpkjfnafeaaaDoor
/- Plain facts on lock modes: which are compatible, which cover which, the least upper bound, their names. No program in sight. -/
namespace CL
def vld (m : Int) : Bool := decide (1 ≤ m ∧ m ≤ 5)
def cov (a b : Int) : Bool := vld a && vld b && (a == b || a == 5 || b == 1 || a == 4 && b != 5)
def cmp (a b : Int) : Bool := vld a && vld b && (a != 5 && b != 5 && (a == 1 || b == 1 || a == b && a != 4))
def both (k a b : Int) : Bool := cov k a && cov k b
def sup (a b : Int) : Int := if both 1 a b then 1 else if both 2 a b then 2 else if both 3 a b then 3 else if both 4 a b then 4 else if both 5 a b then 5 else 0
def nm (m : Int) : List UInt8 := if m = 1 then [73, 83] else if m = 2 then [73, 88] else if m = 3 then [83] else if m = 4 then [83, 73, 88] else if m = 5 then [88] else []
def prs (s : List UInt8) : Int := if s = [73, 83] then 1 else if s = [73, 88] then 2 else if s = [83] then 3 else if s = [83, 73, 88] then 4 else if s = [88] then 5 else 0

theorem vld_cases {m : Int} (h : vld m = true) : m = 1 ∨ m = 2 ∨ m = 3 ∨ m = 4 ∨ m = 5 := by simp [vld] at h; omega
theorem vld_t {m : Int} (h1 : 1 ≤ m) (h2 : m ≤ 5) : vld m = true := by simp [vld, h1, h2]
theorem vld_f {m : Int} (h : m < 1 ∨ 5 < m) : vld m = false := by simp [vld]; omega
theorem vld_iff {m : Int} : vld m = true ↔ 1 ≤ m ∧ m ≤ 5 := by simp [vld]
theorem cov_vl {a b : Int} (h : cov a b = true) : vld a = true := by simp [cov] at h; exact h.1.1
theorem cov_vr {a b : Int} (h : cov a b = true) : vld b = true := by simp [cov] at h; exact h.1.2
theorem cmp_vl {a b : Int} (h : cmp a b = true) : vld a = true := by simp [cmp] at h; exact h.1.1
theorem cmp_vr {a b : Int} (h : cmp a b = true) : vld b = true := by simp [cmp] at h; exact h.1.2
theorem cov_nl {a b : Int} (h : vld a = false) : cov a b = false := by simp [cov, h]
theorem cov_nr {a b : Int} (h : vld b = false) : cov a b = false := by simp [cov, h]
theorem cmp_nl {a b : Int} (h : vld a = false) : cmp a b = false := by simp [cmp, h]
theorem cmp_nr {a b : Int} (h : vld b = false) : cmp a b = false := by simp [cmp, h]

/-- what holds of the five modes holds of every mode -/
theorem all1 {p : Int → Prop} (h : p 1 ∧ p 2 ∧ p 3 ∧ p 4 ∧ p 5) {m : Int} (hm : vld m = true) : p m := by
  rcases vld_cases hm with rfl | rfl | rfl | rfl | rfl <;> simp [h]
theorem by1 {p : Int → Bool} (h : (p 1 && p 2 && p 3 && p 4 && p 5) = true) {m : Int} (hm : vld m = true) : p m = true := by
  simp at h; rcases vld_cases hm with rfl | rfl | rfl | rfl | rfl <;> simp [h]
def q1 (p : Int → Bool) : Bool := p 1 && p 2 && p 3 && p 4 && p 5
theorem by2 {p : Int → Int → Bool} (h : q1 (fun a => q1 (p a)) = true) {a b : Int} (ha : vld a = true) (hb : vld b = true) : p a b = true :=
  by1 (p := p a) (by1 (p := fun a => q1 (p a)) h ha) hb
theorem by3 {p : Int → Int → Int → Bool} (h : q1 (fun a => q1 (fun b => q1 (p a b))) = true) {a b c : Int} (ha : vld a = true) (hb : vld b = true) (hc : vld c = true) : p a b c = true :=
  by1 (p := p a b) (by2 (p := fun a b => q1 (p a b)) h ha hb) hc

theorem cmp_comm (a b : Int) : cmp a b = cmp b a := by
  by_cases ha : vld a = true
  · by_cases hb : vld b = true
    · exact of_decide_eq_true (by2 (p := fun a b => decide (cmp a b = cmp b a)) (by decide) ha hb)
    · simp at hb; rw [cmp_nr hb, cmp_nl hb]
  · simp at ha; rw [cmp_nr ha, cmp_nl ha]
theorem cov_self (a : Int) : cov a a = vld a := by simp [cov]
theorem cov_anti {a b : Int} (h : cov a b = true) (h' : cov b a = true) : a = b := by
  have := by2 (p := fun a b => !(cov a b && cov b a) || decide (a = b)) (by decide) (cov_vl h) (cov_vr h)
  simpa [h, h'] using this
theorem cov_trans {a b c : Int} (h : cov a b = true) (h' : cov b c = true) : cov a c = true := by
  have := by3 (p := fun a b c => !(cov a b && cov b c) || cov a c) (by decide) (cov_vl h) (cov_vr h) (cov_vr h')
  simpa [h, h'] using this
theorem cov_weak {a b c : Int} (h : cov a b = true) (h' : cmp a c = true) : cmp b c = true := by
  have := by3 (p := fun a b c => !(cov a b && cmp a c) || cmp b c) (by decide) (cov_vl h) (cov_vr h) (cmp_vr h')
  simpa [h, h'] using this
theorem both_nl {k a b : Int} (h : vld a = false) : both k a b = false := by simp [both, cov_nr h]
theorem both_nr {k a b : Int} (h : vld b = false) : both k a b = false := by simp [both, cov_nr h]
theorem sup_nl {a b : Int} (h : vld a = false) : sup a b = 0 := by simp [sup, both_nl h]
theorem sup_nr {a b : Int} (h : vld b = false) : sup a b = 0 := by simp [sup, both_nr h]
theorem both_comm (k a b : Int) : both k a b = both k b a := by unfold both; rw [Bool.and_comm]
theorem sup_comm (a b : Int) : sup a b = sup b a := by
  unfold sup; simp only [both_comm _ a b]
theorem sup_vld {a b : Int} (ha : vld a = true) (hb : vld b = true) : vld (sup a b) = true :=
  by2 (p := fun a b => vld (sup a b)) (by decide) ha hb
theorem sup_l {a b : Int} (ha : vld a = true) (hb : vld b = true) : cov (sup a b) a = true :=
  by2 (p := fun a b => cov (sup a b) a) (by decide) ha hb
theorem sup_r {a b : Int} (ha : vld a = true) (hb : vld b = true) : cov (sup a b) b = true := by rw [sup_comm]; exact sup_l hb ha
theorem sup_least {a b c : Int} (h : cov c a = true) (h' : cov c b = true) : cov c (sup a b) = true := by
  have := by3 (p := fun a b c => !(cov c a && cov c b) || cov c (sup a b)) (by decide) (cov_vr h) (cov_vr h') (cov_vl h)
  simpa [h, h'] using this
theorem sup_nz {a b : Int} (h : sup a b ≠ 0) : vld a = true ∧ vld b = true := by
  refine ⟨?_, ?_⟩
  · by_cases ha : vld a = true
    · exact ha
    · simp at ha; exact absurd (sup_nl ha) h
  · by_cases hb : vld b = true
    · exact hb
    · simp at hb; exact absurd (sup_nr hb) h
theorem vld_zero : vld 0 = false := by decide
theorem sup_assoc (a b c : Int) : sup (sup a b) c = sup a (sup b c) := by
  by_cases ha : vld a = true
  · by_cases hb : vld b = true
    · by_cases hc : vld c = true
      · exact of_decide_eq_true (by3 (p := fun a b c => decide (sup (sup a b) c = sup a (sup b c))) (by decide) ha hb hc)
      · simp at hc; rw [sup_nr hc, sup_nr hc, sup_nr vld_zero]
    · simp at hb; rw [sup_nr hb, sup_nl hb, sup_nl vld_zero, sup_nr vld_zero]
  · simp at ha; rw [sup_nl ha, sup_nl vld_zero, sup_nl ha]
theorem sup_self {a : Int} (h : vld a = true) : sup a a = a := of_decide_eq_true (by1 (p := fun a => decide (sup a a = a)) (by decide) h)
theorem sup_cmp {a b m : Int} (ha : vld a = true) (hb : vld b = true) : cmp m (sup a b) = (cmp m a && cmp m b) := by
  by_cases hm : vld m = true
  · exact of_decide_eq_true (by3 (p := fun a b m => decide (cmp m (sup a b) = (cmp m a && cmp m b))) (by decide) ha hb hm)
  · simp at hm; rw [cmp_nl hm, cmp_nl hm, cmp_nl hm]; rfl
/-- how a loop over the modes finds it -/
theorem sup_found {a b k : Int} (h1 : 1 ≤ k) (h2 : k ≤ 5) (hb : ∀ j, 1 ≤ j → j < k → both j a b = false) (h : both k a b = true) : sup a b = k := by
  have hk := vld_cases (vld_t h1 h2)
  rcases hk with rfl | rfl | rfl | rfl | rfl <;> simp only [sup, h, if_true]
  · simp [hb 1 (by omega) (by omega)]
  · simp [hb 1 (by omega) (by omega), hb 2 (by omega) (by omega)]
  · simp [hb 1 (by omega) (by omega), hb 2 (by omega) (by omega), hb 3 (by omega) (by omega)]
  · simp [hb 1 (by omega) (by omega), hb 2 (by omega) (by omega), hb 3 (by omega) (by omega), hb 4 (by omega) (by omega)]
theorem sup_none {a b k : Int} (h2 : 5 < k) (hb : ∀ j, 1 ≤ j → j < k → both j a b = false) : sup a b = 0 := by
  simp [sup, hb 1 (by omega) (by omega), hb 2 (by omega) (by omega), hb 3 (by omega) (by omega), hb 4 (by omega) (by omega), hb 5 (by omega) (by omega)]
theorem none_step {p : Int → Bool} {k : Int} (hb : ∀ j, 1 ≤ j → j < k → p j = false) (h : p k = false) : ∀ j, 1 ≤ j → j < k + 1 → p j = false := by
  intro j h1 h2
  by_cases e : j = k
  · subst e; exact h
  · exact hb j h1 (by omega)

theorem nm_inj {a b : Int} (ha : vld a = true) (hb : vld b = true) (h : nm a = nm b) : a = b := by
  have := by2 (p := fun a b => !(decide (nm a = nm b)) || decide (a = b)) (by decide) ha hb
  simpa [h] using this
theorem prs_nm {m : Int} (h : vld m = true) : prs (nm m) = m := of_decide_eq_true (by1 (p := fun a => decide (prs (nm a) = a)) (by decide) h)
theorem nm_bad {m : Int} (h : vld m = false) : nm m = [] := by
  simp [vld] at h
  simp only [nm]
  rw [if_neg (by omega), if_neg (by omega), if_neg (by omega), if_neg (by omega), if_neg (by omega)]
theorem prs_found {s : List UInt8} {k : Int} (h1 : 1 ≤ k) (h2 : k ≤ 5) (h : nm k = s) : prs s = k := by
  subst h; exact prs_nm (vld_t h1 h2)
theorem nm_prs {s : List UInt8} (h : prs s ≠ 0) : nm (prs s) = s ∧ vld (prs s) = true := by
  unfold prs at h ⊢
  split
  · subst_vars; decide
  split
  · subst_vars; decide
  split
  · subst_vars; decide
  split
  · subst_vars; decide
  split
  · subst_vars; decide
  · exact absurd (by simp_all) h
theorem prs_none {s : List UInt8} {k : Int} (h2 : 5 < k) (hb : ∀ j, 1 ≤ j → j < k → (nm j == s) = false) : prs s = 0 := by
  by_cases e : prs s = 0
  · exact e
  · obtain ⟨h, hv⟩ := nm_prs e
    have := vld_iff.1 hv
    have := hb (prs s) (by omega) (by omega)
    simp [h] at this
theorem prs_nil : prs [] = 0 := by decide

/-- the weakest mode that covers all of a list; 0 if one of them is no mode -/
def grp : List Int → Int
  | [] => 0
  | a :: l => l.foldl sup (sup a a)
theorem foldl_bad : ∀ (l : List Int) (r : Int), vld r = false → l.foldl sup (sup r r) = 0
  | [], r, h => by simp [sup_nl h]
  | a :: l, r, h => by
    simp only [List.foldl_cons]
    rw [sup_nl h, sup_nl vld_zero]
    have := foldl_bad l 0 vld_zero
    rwa [sup_nl vld_zero] at this
theorem foldl_zero (l : List Int) : l.foldl sup 0 = 0 := by
  have := foldl_bad l 0 vld_zero
  rwa [sup_nl vld_zero] at this
theorem grp_bad : ∀ (l r : List Int) (z : Int), vld z = false → grp (l ++ z :: r) = 0
  | [], r, z, h => by simpa [grp] using foldl_bad r z h
  | a :: l, r, z, h => by
    simp only [List.cons_append, grp, List.foldl_append, List.foldl_cons]
    rw [sup_nr h, foldl_zero]
end CL
/- Plain facts on amounts: what fits a resource, which covers which, the least amount above two, which lists are compatible. No program in sight. -/
namespace CL
structure Am where
  m : Int
  u : Int
deriving DecidableEq
def shaped (k u : Int) : Bool := decide (k = 1 ∧ u = 1 ∨ k = 2 ∧ 1 ≤ u ∧ u ≤ 8)
def zer (a : Am) : Bool := decide (a.m = 0 ∧ a.u = 0)
def fits (k u : Int) (a : Am) : Bool := shaped k u && (if k = 1 then vld a.m && a.u == 0 else decide (a.m = 0 ∧ 1 ≤ a.u ∧ a.u ≤ u))
def perm (k u : Int) (a : Am) : Bool := shaped k u && (zer a || fits k u a)
def covs (k u : Int) (a b : Am) : Bool := perm k u a && perm k u b && (zer b || (!zer a && (if k = 1 then cov a.m b.m else decide (b.u ≤ a.u))))
def join (k u : Int) (a b : Am) : Am :=
  if perm k u a && perm k u b then (if zer a then b else if zer b then a else if k = 1 then ⟨sup a.m b.m, 0⟩ else ⟨0, max a.u b.u⟩) else ⟨0, 0⟩
theorem shaped_iff {k u : Int} : shaped k u = true ↔ k = 1 ∧ u = 1 ∨ k = 2 ∧ 1 ≤ u ∧ u ≤ 8 := by simp [shaped]
theorem zer_iff {a : Am} : zer a = true ↔ a = ⟨0, 0⟩ := by cases a; simp [zer]
theorem perm_lock {a : Am} : perm 1 1 a = true ↔ a.u = 0 ∧ (a.m = 0 ∨ vld a.m = true) := by
  simp [perm, zer, fits, shaped]; grind
theorem perm_pool {u : Int} (h1 : 1 ≤ u) (h2 : u ≤ 8) {a : Am} : perm 2 u a = true ↔ a.m = 0 ∧ 0 ≤ a.u ∧ a.u ≤ u := by
  simp [perm, zer, fits, shaped]; omega
theorem perm_shaped {k u : Int} {a : Am} (h : perm k u a = true) : shaped k u = true := by simp [perm] at h; exact h.1
theorem perm_units {k u : Int} {a : Am} (h : perm k u a = true) : 0 ≤ a.u ∧ a.u ≤ u := by
  have hs := perm_shaped h
  rcases shaped_iff.1 hs with ⟨rfl, rfl⟩ | ⟨rfl, h1, h2⟩
  · have := perm_lock.1 h; omega
  · have := (perm_pool h1 h2).1 h; omega
theorem perm_mode {k u : Int} {a : Am} (h : perm k u a = true) : a.m = 0 ∨ vld a.m = true ∧ k = 1 ∧ a.u = 0 := by
  have hs := perm_shaped h
  rcases shaped_iff.1 hs with ⟨rfl, rfl⟩ | ⟨rfl, h1, h2⟩
  · have := perm_lock.1 h; grind
  · have := (perm_pool h1 h2).1 h; omega
theorem zero_perm {k u : Int} (h : shaped k u = true) : perm k u ⟨0, 0⟩ = true := by simp [perm, zer, h]
theorem vld_ne {m : Int} (h : vld m = true) : m ≠ 0 := by have := vld_iff.1 h; omega
/-- covering, on what is permitted -/
theorem covs_lock {a b : Am} (ha : perm 1 1 a = true) (hb : perm 1 1 b = true) : covs 1 1 a b = (decide (b.m = 0) || cov a.m b.m) := by
  have h1 := perm_lock.1 ha
  have h2 := perm_lock.1 hb
  have e : cov 0 b.m = false := cov_nl vld_zero
  unfold covs
  simp only [ha, hb, zer, h1.1, h2.1]
  by_cases e1 : a.m = 0 <;> by_cases e2 : b.m = 0 <;> simp [e1, e2, e]
theorem covs_pool {u : Int} (h1 : 1 ≤ u) (h2 : u ≤ 8) {a b : Am} (ha : perm 2 u a = true) (hb : perm 2 u b = true) : covs 2 u a b = decide (b.u ≤ a.u) := by
  have g1 := (perm_pool h1 h2).1 ha
  have g2 := (perm_pool h1 h2).1 hb
  unfold covs
  simp only [ha, hb, zer, g1.1, g2.1]
  by_cases e1 : a.u = 0 <;> by_cases e2 : b.u = 0 <;> simp [e1, e2] <;> omega
theorem covs_pl {k u : Int} {a b : Am} (h : covs k u a b = true) : perm k u a = true ∧ perm k u b = true := by simp [covs] at h; exact h.1
theorem covs_self (k u : Int) (a : Am) : covs k u a a = perm k u a := by
  by_cases h : perm k u a = true
  · rw [h]
    rcases shaped_iff.1 (perm_shaped h) with ⟨rfl, rfl⟩ | ⟨rfl, h1, h2⟩
    · rw [covs_lock h h, cov_self]; have := (perm_lock.1 h).2; simpa using this
    · rw [covs_pool h1 h2 h h]; simp
  · simp at h; rw [h]; simp [covs, h]
theorem covs_anti {k u : Int} {a b : Am} (h : covs k u a b = true) (h' : covs k u b a = true) : a = b := by
  obtain ⟨ha, hb⟩ := covs_pl h
  rcases shaped_iff.1 (perm_shaped ha) with ⟨rfl, rfl⟩ | ⟨rfl, h1, h2⟩
  · rw [covs_lock ha hb] at h; rw [covs_lock hb ha] at h'
    have g1 := perm_lock.1 ha; have g2 := perm_lock.1 hb
    have : a.m = b.m := by
      simp at h h'
      rcases h with h | h
      · rcases h' with h' | h'
        · omega
        · rw [h, cov_nl vld_zero] at h'; cases h'
      · rcases h' with h' | h'
        · rw [h', cov_nl vld_zero] at h; cases h
        · exact cov_anti h h'
    cases a; cases b; simp_all
  · rw [covs_pool h1 h2 ha hb] at h; rw [covs_pool h1 h2 hb ha] at h'
    have g1 := (perm_pool h1 h2).1 ha; have g2 := (perm_pool h1 h2).1 hb
    cases a; cases b; simp_all; omega
theorem covs_trans {k u : Int} {a b c : Am} (h : covs k u a b = true) (h' : covs k u b c = true) : covs k u a c = true := by
  obtain ⟨ha, hb⟩ := covs_pl h
  obtain ⟨_, hc⟩ := covs_pl h'
  rcases shaped_iff.1 (perm_shaped ha) with ⟨rfl, rfl⟩ | ⟨rfl, h1, h2⟩
  · rw [covs_lock ha hb] at h; rw [covs_lock hb hc] at h'; rw [covs_lock ha hc]
    simp at h h' ⊢
    rcases h' with h' | h'
    · exact .inl h'
    · rcases h with h | h
      · rw [h, cov_nl vld_zero] at h'; cases h'
      · exact .inr (cov_trans h h')
  · rw [covs_pool h1 h2 ha hb] at h; rw [covs_pool h1 h2 hb hc] at h'; rw [covs_pool h1 h2 ha hc]
    simp at h h' ⊢; omega
theorem join_lock {a b : Am} (ha : perm 1 1 a = true) (hb : perm 1 1 b = true) : join 1 1 a b = ⟨if a.m = 0 then b.m else if b.m = 0 then a.m else sup a.m b.m, 0⟩ := by
  have h1 := perm_lock.1 ha
  have h2 := perm_lock.1 hb
  unfold join
  simp only [ha, hb, zer, h1.1, h2.1]
  cases a; cases b
  simp_all
  split <;> simp_all
  split <;> simp_all
theorem join_pool {u : Int} (h1 : 1 ≤ u) (h2 : u ≤ 8) {a b : Am} (ha : perm 2 u a = true) (hb : perm 2 u b = true) : join 2 u a b = ⟨0, max a.u b.u⟩ := by
  have g1 := (perm_pool h1 h2).1 ha
  have g2 := (perm_pool h1 h2).1 hb
  unfold join
  simp only [ha, hb, zer, g1.1, g2.1]
  cases a; cases b
  simp_all
  split
  · simp_all; omega
  split
  · simp_all; omega
  · rfl
theorem join_perm {k u : Int} {a b : Am} (ha : perm k u a = true) (hb : perm k u b = true) : perm k u (join k u a b) = true := by
  rcases shaped_iff.1 (perm_shaped ha) with ⟨rfl, rfl⟩ | ⟨rfl, h1, h2⟩
  · rw [join_lock ha hb, perm_lock]
    have g1 := perm_lock.1 ha; have g2 := perm_lock.1 hb
    refine ⟨rfl, ?_⟩
    simp only
    split
    · exact g2.2
    split
    · exact g1.2
    · exact .inr (sup_vld (by simp_all) (by simp_all))
  · rw [join_pool h1 h2 ha hb, perm_pool h1 h2]
    have g1 := (perm_pool h1 h2).1 ha; have g2 := (perm_pool h1 h2).1 hb
    exact ⟨rfl, by simp only; omega⟩
theorem join_bad {k u : Int} {a b : Am} (h : ¬ (perm k u a = true ∧ perm k u b = true)) : join k u a b = ⟨0, 0⟩ := by
  unfold join; rw [if_neg (by simpa using h)]
theorem join_l {k u : Int} {a b : Am} (ha : perm k u a = true) (hb : perm k u b = true) : covs k u (join k u a b) a = true := by
  have hj := join_perm ha hb
  rcases shaped_iff.1 (perm_shaped ha) with ⟨rfl, rfl⟩ | ⟨rfl, h1, h2⟩
  · rw [covs_lock hj ha, join_lock ha hb]
    have g1 := perm_lock.1 ha; have g2 := perm_lock.1 hb
    by_cases e1 : a.m = 0 <;> by_cases e2 : b.m = 0 <;> simp [e1, e2]
    · rw [cov_self]; simp_all
    · exact sup_l (by simp_all) (by simp_all)
  · rw [covs_pool h1 h2 hj ha, join_pool h1 h2 ha hb]
    simp; omega
theorem join_comm (k u : Int) (a b : Am) : join k u a b = join k u b a := by
  by_cases h : perm k u a = true ∧ perm k u b = true
  · obtain ⟨ha, hb⟩ := h
    rcases shaped_iff.1 (perm_shaped ha) with ⟨rfl, rfl⟩ | ⟨rfl, h1, h2⟩
    · rw [join_lock ha hb, join_lock hb ha, sup_comm]
      by_cases e1 : a.m = 0 <;> by_cases e2 : b.m = 0 <;> simp [e1, e2]
    · rw [join_pool h1 h2 ha hb, join_pool h1 h2 hb ha, Int.max_comm]
  · rw [join_bad h, join_bad (fun ⟨h1, h2⟩ => h ⟨h2, h1⟩)]
theorem join_r {k u : Int} {a b : Am} (ha : perm k u a = true) (hb : perm k u b = true) : covs k u (join k u a b) b = true := by
  rw [join_comm]; exact join_l hb ha
theorem join_least {k u : Int} {a b c : Am} (h : covs k u c a = true) (h' : covs k u c b = true) : covs k u c (join k u a b) = true := by
  obtain ⟨hc, ha⟩ := covs_pl h
  obtain ⟨_, hb⟩ := covs_pl h'
  have hj := join_perm ha hb
  rcases shaped_iff.1 (perm_shaped ha) with ⟨rfl, rfl⟩ | ⟨rfl, h1, h2⟩
  · rw [covs_lock hc ha] at h; rw [covs_lock hc hb] at h'
    rw [covs_lock hc hj, join_lock ha hb]
    by_cases e1 : a.m = 0 <;> by_cases e2 : b.m = 0 <;> simp_all
    right; exact sup_least h h'
  · rw [covs_pool h1 h2 hc ha] at h; rw [covs_pool h1 h2 hc hb] at h'
    rw [covs_pool h1 h2 hc hj, join_pool h1 h2 ha hb]
    simp at *; omega
theorem join_self {k u : Int} {a : Am} (h : perm k u a = true) : join k u a a = a :=
  covs_anti (join_l h h) (join_least (by rw [covs_self]; exact h) (by rw [covs_self]; exact h))
theorem join_assoc {k u : Int} {a b c : Am} (ha : perm k u a = true) (hb : perm k u b = true) (hc : perm k u c = true) : join k u (join k u a b) c = join k u a (join k u b c) := by
  have hab := join_perm ha hb
  have hbc := join_perm hb hc
  refine covs_anti (join_least ?_ (join_least ?_ ?_)) (join_least (join_least ?_ ?_) ?_)
  · exact covs_trans (join_l hab hc) (join_l ha hb)
  · exact covs_trans (join_l hab hc) (join_r ha hb)
  · exact join_r hab hc
  · exact join_l ha hbc
  · exact covs_trans (join_r ha hbc) (join_l hb hc)
  · exact covs_trans (join_r ha hbc) (join_r hb hc)
/-- the reference's way to the least amount -/
theorem join_ref {k u : Int} {a b : Am} (ha : perm k u a = true) (hb : perm k u b = true) :
    (if covs k u a b = true then a else if covs k u b a = true then b else ⟨sup a.m b.m, 0⟩) = join k u a b := by
  split
  · rename_i h
    exact covs_anti (join_least (by rw [covs_self]; exact ha) h |> fun h2 => h2) (join_l ha hb)
  split
  · rename_i _ h
    exact covs_anti (join_least h (by rw [covs_self]; exact hb)) (join_r ha hb)
  · rename_i h1 h2
    rcases shaped_iff.1 (perm_shaped ha) with ⟨rfl, rfl⟩ | ⟨rfl, g1, g2⟩
    · rw [covs_lock ha hb] at h1; rw [covs_lock hb ha] at h2
      rw [join_lock ha hb]
      simp at h1 h2
      rw [if_neg (by simp [h2]), if_neg (by simp [h1])]
    · rw [covs_pool g1 g2 ha hb] at h1; rw [covs_pool g1 g2 hb ha] at h2
      simp at h1 h2; omega
/-- lists of amounts -/
def pr (a b : Am) : Prop := a.m = 0 ∨ b.m = 0 ∨ cmp a.m b.m = true
instance (a b : Am) : Decidable (pr a b) := by unfold pr; infer_instance
theorem pr_comm {a b : Am} (h : pr a b) : pr b a := by
  rcases h with h | h | h
  · exact .inr (.inl h)
  · exact .inl h
  · exact .inr (.inr (by rw [cmp_comm]; exact h))
def sm (l : List Am) : Int := (l.map Am.u).sum
def Cmpt (k u : Int) (l : List Am) : Prop := shaped k u = true ∧ (∀ a ∈ l, perm k u a = true) ∧ sm l ≤ u ∧ l.Pairwise pr
instance (k u : Int) (l : List Am) : Decidable (Cmpt k u l) := by unfold Cmpt; infer_instance
def compat (k u : Int) (l : List Am) : Bool := decide (Cmpt k u l)
theorem sm_append (a b : List Am) : sm (a ++ b) = sm a + sm b := by simp [sm]
theorem sm_nonneg {k u : Int} : ∀ {l : List Am}, (∀ a ∈ l, perm k u a = true) → 0 ≤ sm l
  | [], _ => by simp [sm]
  | a :: l, h => by
    have h1 := perm_units (h a (by simp))
    have h2 := sm_nonneg (l := l) (fun x hx => h x (by simp [hx]))
    simp [sm] at h2 ⊢; omega
theorem Cmpt.pre {k u : Int} {a b : List Am} (h : Cmpt k u (a ++ b)) : Cmpt k u a := by
  obtain ⟨h1, h2, h3, h4⟩ := h
  refine ⟨h1, fun x hx => h2 x (by simp [hx]), ?_, (List.pairwise_append.1 h4).1⟩
  rw [sm_append] at h3
  have := sm_nonneg (l := b) (fun x hx => h2 x (by simp [hx]))
  omega
theorem Cmpt.snoc {k u : Int} {l : List Am} {a : Am} : Cmpt k u (l ++ [a]) ↔ Cmpt k u l ∧ perm k u a = true ∧ sm l + a.u ≤ u ∧ ∀ b ∈ l, pr b a := by
  constructor
  · intro h
    refine ⟨h.pre, h.2.1 a (by simp), ?_, ?_⟩
    · have := h.2.2.1; rw [sm_append] at this; simpa [sm] using this
    · exact fun b hb => (List.pairwise_append.1 h.2.2.2).2.2 b hb a (by simp)
  · rintro ⟨⟨h1, h2, h3, h4⟩, h5, h6, h7⟩
    refine ⟨h1, fun x hx => ?_, ?_, ?_⟩
    · rcases List.mem_append.1 hx with hx | hx
      · exact h2 x hx
      · simp at hx; subst hx; exact h5
    · rw [sm_append]; simpa [sm] using h6
    · rw [List.pairwise_append]; exact ⟨h4, by simp, fun b hb x hx => by simp at hx; subst hx; exact h7 b hb⟩
theorem sm_perm {a b : List Am} (h : a.Perm b) : sm a = sm b := by
  induction h with
  | nil => rfl
  | cons x _ ih => simp [sm] at ih ⊢; omega
  | swap x y l => simp [sm]; omega
  | trans _ _ h1 h2 => exact h1.trans h2
theorem Cmpt.perm {k u : Int} {a b : List Am} (h : Cmpt k u a) (hp : a.Perm b) : Cmpt k u b :=
  ⟨h.1, fun x hx => h.2.1 x (hp.mem_iff.2 hx), by rw [← sm_perm hp]; exact h.2.2.1, (hp.pairwise_iff (fun h => pr_comm h)).1 h.2.2.2⟩
theorem compat_perm {k u : Int} {a b : List Am} (hp : a.Perm b) : compat k u a = compat k u b := by
  unfold compat
  rw [decide_eq_decide]
  exact ⟨fun h => h.perm hp, fun h => h.perm hp.symm⟩
theorem Cmpt.sub {k u : Int} {a b : List Am} (h : Cmpt k u a) (hs : b.Sublist a) : Cmpt k u b := by
  refine ⟨h.1, fun x hx => h.2.1 x (hs.mem hx), ?_, h.2.2.2.sublist hs⟩
  have h3 := h.2.2.1
  have : sm b ≤ sm a := by
    have hall := h.2.1
    clear h h3
    induction hs with
    | slnil => exact Int.le_refl _
    | cons x _ ih =>
      have := perm_units (hall x (by simp))
      have := ih (fun y hy => hall y (by simp [hy]))
      simp [sm] at this ⊢; omega
    | cons_cons x _ ih =>
      have := ih (fun y hy => hall y (by simp [hy]))
      simp [sm] at this ⊢; omega
  omega
theorem pr_weak {k u : Int} {a b c : Am} (h : covs k u a b = true) (h' : pr a c) : pr b c := by
  obtain ⟨ha, hb⟩ := covs_pl h
  rcases shaped_iff.1 (perm_shaped ha) with ⟨rfl, rfl⟩ | ⟨rfl, h1, h2⟩
  · rw [covs_lock ha hb] at h
    simp at h
    rcases h with h | h
    · exact .inl h
    · rcases h' with h' | h' | h'
      · rw [h', cov_nl vld_zero] at h; cases h
      · exact .inr (.inl h')
      · exact .inr (.inr (cov_weak h h'))
  · exact .inl ((perm_pool h1 h2).1 hb).1
theorem covs_units {k u : Int} {a b : Am} (h : covs k u a b = true) : b.u ≤ a.u := by
  obtain ⟨ha, hb⟩ := covs_pl h
  rcases shaped_iff.1 (perm_shaped ha) with ⟨rfl, rfl⟩ | ⟨rfl, h1, h2⟩
  · have := perm_lock.1 ha; have := perm_lock.1 hb; omega
  · rw [covs_pool h1 h2 ha hb] at h; simpa using h
/-- replacing an amount by one that it covers -/
theorem Cmpt.less {k u : Int} {p q : List Am} {a b : Am} (h : Cmpt k u (p ++ a :: q)) (hc : covs k u a b = true) : Cmpt k u (p ++ b :: q) := by
  have hp : (p ++ a :: q).Perm ((p ++ q) ++ [a]) := by
    refine (List.perm_middle).trans ?_
    exact (List.perm_append_singleton _ _).symm
  have hp' : (p ++ b :: q).Perm ((p ++ q) ++ [b]) := by
    refine (List.perm_middle).trans ?_
    exact (List.perm_append_singleton _ _).symm
  refine Cmpt.perm ?_ hp'.symm
  have h' := Cmpt.snoc.1 (h.perm hp)
  refine Cmpt.snoc.2 ⟨h'.1, (covs_pl hc).2, ?_, fun x hx => pr_comm (pr_weak hc (pr_comm (h'.2.2.2 x hx)))⟩
  have := covs_units hc
  omega
theorem Cmpt.room {k u : Int} {l : List Am} {a b : Am} (h : Cmpt k u (l ++ [a])) (hc : covs k u a b = true) : Cmpt k u (l ++ [b]) := h.less hc
theorem compat_less {k u : Int} {p q : List Am} {a b : Am} (h : compat k u (p ++ a :: q) = true) (hc : covs k u a b = true) : compat k u (p ++ b :: q) = true :=
  decide_eq_true (Cmpt.less (of_decide_eq_true h) hc)
theorem compat_sub {k u : Int} {a b : List Am} (h : compat k u a = true) (hs : b.Sublist a) : compat k u b = true :=
  decide_eq_true (Cmpt.sub (of_decide_eq_true h) hs)
/-- one digit -/
def dg1 (k : Int) : List UInt8 := [UInt8.ofNat (48 + k.toNat)]
/-- how an amount is written -/
def fmtA (a : Am) : List UInt8 := if zer a then [45] else if a.u = 0 then nm a.m else if a.m = 0 ∧ 1 ≤ a.u ∧ a.u ≤ 8 then 42 :: dg1 a.u else []
end CL
/- Plain law of the lexer: classes of bytes, one token, all tokens of a text. No program in sight. -/
namespace CL
def spc (n : Int) : Bool := n == 9 || n == 10 || n == 13 || n == 32
def ltr (n : Int) : Bool := decide (97 ≤ n ∧ n ≤ 122)
def cap (n : Int) : Bool := decide (65 ≤ n ∧ n ≤ 90)
def dig (n : Int) : Bool := decide (48 ≤ n ∧ n ≤ 57)
def prt (n : Int) : Bool := ltr n || dig n || n == 95 || n == 45
def pun (n : Int) : Bool := n == 40 || n == 41 || n == 44 || n == 58 || n == 42
/-- a class, asked of a byte -/
def at8 (p : Int → Bool) (c : UInt8) : Bool := p (c.toNat : Int)
structure Tk where
  kind : Int
  text : List UInt8
  num : Int
  pos : Int
deriving DecidableEq
/-- how many bytes at the head are of a class -/
def spanN (p : Int → Bool) (r : List UInt8) : Nat := (r.takeWhile (at8 p)).length
def val (ds : List UInt8) : Int := ds.foldl (fun n c => 10 * n + ((c.toNat : Int) - 48)) 0
/-- the token at the head of r (not empty, not space): an error, or 0 with the token and how many bytes it has -/
def one (r : List UInt8) (at_ : Nat) : Int × Tk × Nat :=
  match r with
  | [] => (8, ⟨0, [], 0, 0⟩, 0)
  | c :: _ =>
    if at8 ltr c then (if 12 < spanN prt r then (9, ⟨0, [], 0, 0⟩, 0) else (0, ⟨1, r.take (spanN prt r), 0, at_⟩, spanN prt r))
    else if at8 cap c then (if prs (r.take (spanN cap r)) = 0 then (8, ⟨0, [], 0, 0⟩, 0) else (0, ⟨2, r.take (spanN cap r), prs (r.take (spanN cap r)), at_⟩, spanN cap r))
    else if at8 dig c then (if 4 < spanN dig r ∨ (1 < spanN dig r ∧ c = 48) then (8, ⟨0, [], 0, 0⟩, 0) else (0, ⟨3, [], val (r.take (spanN dig r)), at_⟩, spanN dig r))
    else if at8 pun c then (0, ⟨4, [c], 0, at_⟩, 1)
    else (8, ⟨0, [], 0, 0⟩, 0)
theorem spanN_le (p : Int → Bool) (r : List UInt8) : spanN p r ≤ r.length := by
  unfold spanN
  exact (List.takeWhile_sublist _).length_le
theorem spanN_pos {p : Int → Bool} {c : UInt8} {r : List UInt8} (h : at8 p c = true) : 0 < spanN p (c :: r) := by
  simp [spanN, h]
theorem prt_ltr {c : UInt8} (h : at8 ltr c = true) : at8 prt c = true := by simp only [at8, prt] at *; simp [h]
theorem one_len {r : List UInt8} {i : Nat} (h : (one r i).1 = 0) : 1 ≤ (one r i).2.2 ∧ (one r i).2.2 ≤ r.length := by
  unfold one at h ⊢
  cases r with
  | nil => simp at h
  | cons c r =>
    simp only at h ⊢
    split
    · rename_i hc
      split
      · rename_i h1; simp [hc, h1] at h
      · exact ⟨spanN_pos (prt_ltr hc), spanN_le _ _⟩
    · split
      · rename_i h0 hc
        split
        · rename_i h1; simp [h0, hc, h1] at h
        · exact ⟨spanN_pos hc, spanN_le _ _⟩
      · split
        · rename_i h0 h01 hc
          split
          · rename_i h1; simp [h0, h01, hc, h1] at h
          · exact ⟨spanN_pos hc, spanN_le _ _⟩
        · split
          · simp
          · rename_i h0 h1 h2 h3; simp [h0, h1, h2, h3] at h
theorem one_word {s : List UInt8} {j i : Nat} (hj : j < s.length) (h : at8 ltr s[j] = true) :
    one (s.drop j) i = if 12 < spanN prt (s.drop j) then (9, ⟨0, [], 0, 0⟩, 0) else (0, ⟨1, (s.drop j).take (spanN prt (s.drop j)), 0, i⟩, spanN prt (s.drop j)) := by
  conv => lhs; unfold one
  rw [List.drop_eq_getElem_cons hj]
  simp only [h, if_true]
theorem one_mode {s : List UInt8} {j i : Nat} (hj : j < s.length) (h1 : at8 ltr s[j] = false) (h : at8 cap s[j] = true) :
    one (s.drop j) i = if prs ((s.drop j).take (spanN cap (s.drop j))) = 0 then (8, ⟨0, [], 0, 0⟩, 0) else (0, ⟨2, (s.drop j).take (spanN cap (s.drop j)), prs ((s.drop j).take (spanN cap (s.drop j))), i⟩, spanN cap (s.drop j)) := by
  conv => lhs; unfold one
  rw [List.drop_eq_getElem_cons hj]
  simp only [h, h1, if_true, Bool.false_eq_true, if_false]
theorem one_num {s : List UInt8} {j i : Nat} (hj : j < s.length) (h1 : at8 ltr s[j] = false) (h2 : at8 cap s[j] = false) (h : at8 dig s[j] = true) :
    one (s.drop j) i = if 4 < spanN dig (s.drop j) ∨ (1 < spanN dig (s.drop j) ∧ s[j] = 48) then (8, ⟨0, [], 0, 0⟩, 0) else (0, ⟨3, [], val ((s.drop j).take (spanN dig (s.drop j))), i⟩, spanN dig (s.drop j)) := by
  conv => lhs; unfold one
  rw [List.drop_eq_getElem_cons hj]
  simp only [h, h1, h2, if_true, Bool.false_eq_true, if_false]
theorem one_pun {s : List UInt8} {j i : Nat} (hj : j < s.length) (h1 : at8 ltr s[j] = false) (h2 : at8 cap s[j] = false) (h3 : at8 dig s[j] = false) :
    one (s.drop j) i = if at8 pun s[j] = true then (0, ⟨4, [s[j]], 0, i⟩, 1) else (8, ⟨0, [], 0, 0⟩, 0) := by
  conv => lhs; unfold one
  rw [List.drop_eq_getElem_cons hj]
  simp only [h3, h1, h2, Bool.false_eq_true, if_false]
theorem pun_no {c : UInt8} (h : ¬ at8 pun c = true) : ((c.toNat : Int) == 40) = false ∧ ((c.toNat : Int) == 41) = false ∧ ((c.toNat : Int) == 44) = false ∧ ((c.toNat : Int) == 58) = false ∧ ((c.toNat : Int) == 42) = false := by
  simp only [at8, pun, Bool.or_eq_true, not_or, Bool.not_eq_true] at h
  exact ⟨h.1.1.1.1, h.1.1.1.2, h.1.1.2, h.1.2, h.2⟩
theorem pun_yes {c : UInt8} (h : at8 pun c = true) :
    (((c.toNat : Int) == 40) = true ∧ ((c.toNat : Int) == 41) = false ∧ ((c.toNat : Int) == 44) = false ∧ ((c.toNat : Int) == 58) = false ∧ ((c.toNat : Int) == 42) = false) ∨
    (((c.toNat : Int) == 40) = false ∧ ((c.toNat : Int) == 41) = true ∧ ((c.toNat : Int) == 44) = false ∧ ((c.toNat : Int) == 58) = false ∧ ((c.toNat : Int) == 42) = false) ∨
    (((c.toNat : Int) == 40) = false ∧ ((c.toNat : Int) == 41) = false ∧ ((c.toNat : Int) == 44) = true ∧ ((c.toNat : Int) == 58) = false ∧ ((c.toNat : Int) == 42) = false) ∨
    (((c.toNat : Int) == 40) = false ∧ ((c.toNat : Int) == 41) = false ∧ ((c.toNat : Int) == 44) = false ∧ ((c.toNat : Int) == 58) = true ∧ ((c.toNat : Int) == 42) = false) ∨
    (((c.toNat : Int) == 40) = false ∧ ((c.toNat : Int) == 41) = false ∧ ((c.toNat : Int) == 44) = false ∧ ((c.toNat : Int) == 58) = false ∧ ((c.toNat : Int) == 42) = true) := by
  simp only [at8, pun, Bool.or_eq_true, beq_iff_eq] at h
  rcases h with (((h | h) | h) | h) | h <;> rw [h] <;> decide
/-- all tokens: what is collected, where it went wrong, the error -/
def toks : Nat → Nat → List UInt8 → List Tk → List Tk × Int × Int
  | 0, _, _, _ => ([], 0, 0)
  | _ + 1, i, [], acc => (acc ++ [⟨5, [], 0, i⟩], 0, 0)
  | f + 1, i, c :: r, acc =>
    if at8 spc c then toks f (i + 1) r acc
    else if (one (c :: r) i).1 = 0 then toks f (i + (one (c :: r) i).2.2) ((c :: r).drop (one (c :: r) i).2.2) (acc ++ [(one (c :: r) i).2.1])
    else ([], i, (one (c :: r) i).1)
theorem toks_fuel : ∀ (f g i : Nat) (r : List UInt8) (acc : List Tk), r.length < f → r.length < g → toks f i r acc = toks g i r acc
  | 0, _, _, _, _, h, _ => absurd h (by omega)
  | _, 0, _, _, _, _, h => absurd h (by omega)
  | _ + 1, _ + 1, _, [], _, _, _ => rfl
  | f + 1, g + 1, i, c :: r, acc, hf, hg => by
    simp only [toks]
    simp only [List.length_cons] at hf hg
    split
    · exact toks_fuel f g _ _ _ (by omega) (by omega)
    · split
      · rename_i h
        have := one_len h
        exact toks_fuel f g _ _ _ (by simp only [List.length_drop, List.length_cons]; omega) (by simp only [List.length_drop, List.length_cons]; omega)
      · rfl
/-- the rest of the work at place i -/
def tokF (s : List UInt8) (i : Nat) (acc : List Tk) : List Tk × Int × Int := toks (s.length + 1) i (s.drop i) acc
def tokens (s : List UInt8) : List Tk × Int × Int := if 1024 < s.length then ([], 0, 3) else tokF s 0 []
theorem tokF_end {s : List UInt8} {i : Nat} {acc : List Tk} (h : i = s.length) : tokF s i acc = (acc ++ [⟨5, [], 0, i⟩], 0, 0) := by
  unfold tokF
  rw [List.drop_of_length_le (by omega)]; rfl
theorem tokF_space {s : List UInt8} {i : Nat} {acc : List Tk} (hi : i < s.length) (h : at8 spc s[i] = true) : tokF s i acc = tokF s (i + 1) acc := by
  unfold tokF
  rw [List.drop_eq_getElem_cons hi]
  rw [toks, if_pos h]
  exact toks_fuel _ _ _ _ _ (by simp; omega) (by simp; omega)
theorem tokF_tok {s : List UInt8} {i : Nat} {acc : List Tk} (hi : i < s.length) (h : at8 spc s[i] = false) (ho : (one (s.drop i) i).1 = 0) :
    tokF s i acc = tokF s (i + (one (s.drop i) i).2.2) (acc ++ [(one (s.drop i) i).2.1]) := by
  unfold tokF
  have hd := List.drop_eq_getElem_cons hi
  have hl := one_len ho
  have e : toks (s.length + 1) i (s.drop i) acc = toks s.length (i + (one (s.drop i) i).2.2) ((s.drop i).drop (one (s.drop i) i).2.2) (acc ++ [(one (s.drop i) i).2.1]) := by
    rw [hd] at ho ⊢
    rw [toks, if_neg (by simp [h]), if_pos ho]
  rw [e, List.drop_drop]
  exact toks_fuel _ _ _ _ _ (by simp only [List.length_drop] at hl ⊢; omega) (by simp only [List.length_drop] at hl ⊢; omega)
theorem tokF_err {s : List UInt8} {i : Nat} {acc : List Tk} (hi : i < s.length) (h : at8 spc s[i] = false) (ho : (one (s.drop i) i).1 ≠ 0) :
    tokF s i acc = ([], (i : Int), (one (s.drop i) i).1) := by
  unfold tokF
  rw [List.drop_eq_getElem_cons hi] at ho ⊢
  rw [toks, if_neg (by simp [h]), if_neg ho]
/-- a run of a class, found byte by byte -/
theorem spanN_of {p : Int → Bool} {s : List UInt8} {i j : Nat} (hij : i ≤ j) (hj : j ≤ s.length) (hall : ∀ k, i ≤ k → (h : k < j) → at8 p (s[k]'(by omega)) = true)
    (hend : (h : j < s.length) → at8 p s[j] = false) : spanN p (s.drop i) = j - i := by
  induction hn : j - i generalizing i with
  | zero =>
    have : i = j := by omega
    subst this
    by_cases h : i < s.length
    · rw [List.drop_eq_getElem_cons h, spanN, List.takeWhile_cons, if_neg (by rw [hend h]; simp)]; rfl
    · rw [List.drop_of_length_le (by omega)]; rfl
  | succ n ih =>
    have hi : i < s.length := by omega
    have h1 := ih (i := i + 1) (by omega) (fun k hk h => hall k (by omega) h) (by omega)
    rw [List.drop_eq_getElem_cons hi]
    unfold spanN at h1 ⊢
    rw [List.takeWhile_cons, if_pos (hall i (Nat.le_refl _) (by omega)), List.length_cons, h1]
end CL
/- Plain facts on expressions: nodes, levels, atoms, which expressions are valid, for which sets one holds. No program in sight. -/
namespace CL
structure At where
  n : List UInt8
  a : Am
deriving DecidableEq
inductive Ex where
  | mk (k : Int) (a : At) (kids : List Ex)
namespace Ex
def k : Ex → Int | .mk k _ _ => k
def at' : Ex → At | .mk _ a _ => a
def kids : Ex → List Ex | .mk _ _ l => l
end Ex
/-- induction over an expression, its kids at hand -/
theorem Ex.ind {p : Ex → Prop} (h : ∀ k a l, (∀ e ∈ l, p e) → p (.mk k a l)) : ∀ e, p e :=
  fun e => Ex.rec (motive_1 := p) (motive_2 := fun l => ∀ e ∈ l, p e) (fun k a l ih => h k a l ih) (by simp) (fun e l h1 h2 x hx => by
    rcases List.mem_cons.1 hx with rfl | hx
    · exact h1
    · exact h2 x hx) e
mutual
def size : Ex → Nat | .mk _ _ l => 1 + sizeL l
def sizeL : List Ex → Nat
  | [] => 0
  | e :: l => size e + sizeL l
end
mutual
def depth : Ex → Nat | .mk _ _ l => depthL l + 1
def depthL : List Ex → Nat
  | [] => 0
  | e :: l => max (depth e) (depthL l)
end
/- the program's count: (depth or 0, nodes) -/
mutual
def meas : Ex → Nat → Nat → Nat × Nat
  | .mk _ _ l, lv, n => if 4 < lv ∨ 24 < n + 1 then (0, n + 1) else measL l (lv + 1) (n + 1) 0
def measL : List Ex → Nat → Nat → Nat → Nat × Nat
  | [], _, n, d => (d + 1, n)
  | e :: l, lv, n, d => if (meas e lv n).1 = 0 then (0, (meas e lv n).2) else measL l lv (meas e lv n).2 (max d (meas e lv n).1)
end
/- the reference's count: (nodes, depth), more than 24 nodes where it is too great -/
mutual
def rsz : Ex → Nat → Nat × Nat
  | .mk _ _ l, dp => if 4 < dp ∨ 24 < l.length then (25, 0) else rszL l (dp + 1) 1 0
def rszL : List Ex → Nat → Nat → Nat → Nat × Nat
  | [], _, n, d => (n, d + 1)
  | e :: l, dp, n, d => if 24 < n + (rsz e dp).1 then (25, 0) else rszL l dp (n + (rsz e dp).1) (max d (rsz e dp).2)
end
theorem size_pos (e : Ex) : 1 ≤ size e := by cases e; simp [size]
theorem depth_pos (e : Ex) : 1 ≤ depth e := by cases e; simp [depth]
theorem len_sizeL : ∀ l : List Ex, l.length ≤ sizeL l
  | [] => by simp [sizeL]
  | e :: l => by have := len_sizeL l; have := size_pos e; simp [sizeL]; omega
theorem meas_spec (e : Ex) : ∀ lv n, (depth e + lv ≤ 5 ∧ n + size e ≤ 24 → meas e lv n = (depth e, n + size e)) ∧ (¬ (depth e + lv ≤ 5 ∧ n + size e ≤ 24) → (meas e lv n).1 = 0) := by
  induction e using Ex.ind with
  | h k a l ih =>
    have hL : ∀ (l : List Ex), (∀ e ∈ l, ∀ lv n, (depth e + lv ≤ 5 ∧ n + size e ≤ 24 → meas e lv n = (depth e, n + size e)) ∧ (¬ (depth e + lv ≤ 5 ∧ n + size e ≤ 24) → (meas e lv n).1 = 0)) →
        ∀ lv n d, (depthL l + lv ≤ 5 ∧ n + sizeL l ≤ 24 → measL l lv n d = (max d (depthL l) + 1, n + sizeL l)) ∧ (¬ (depthL l + lv ≤ 5 ∧ n + sizeL l ≤ 24) → lv ≤ 5 ∧ n ≤ 24 → (measL l lv n d).1 = 0) := by
      intro l
      induction l with
      | nil => intro _ lv n d; simp [measL, depthL, sizeL]
      | cons e l ihl =>
        intro h lv n d
        have he := h e (by simp)
        have hl := ihl (fun x hx => h x (by simp [hx]))
        simp only [measL, depthL, sizeL]
        have hd := depth_pos e
        have hs := size_pos e
        by_cases c : depth e + lv ≤ 5 ∧ n + size e ≤ 24
        · rw [(he lv n).1 c]
          simp only
          rw [if_neg (by omega)]
          have h2 := hl lv (n + size e) (max d (depth e))
          refine ⟨fun hc => ?_, fun hc hc2 => ?_⟩
          · rw [h2.1 (by omega)]; simp only [Prod.mk.injEq]; omega
          · exact h2.2 (by omega) (by omega)
        · rw [if_pos ((he lv n).2 c)]
          exact ⟨fun hc => by omega, fun _ _ => rfl⟩
    intro lv n
    simp only [meas, depth, size]
    have := hL l ih (lv + 1) (n + 1) 0
    by_cases c : 4 < lv ∨ 24 < n + 1
    · rw [if_pos c]; exact ⟨fun hc => by omega, fun _ => rfl⟩
    · rw [if_neg c]
      refine ⟨fun hc => ?_, fun hc => ?_⟩
      · rw [this.1 (by omega)]; simp only [Prod.mk.injEq]; omega
      · exact this.2 (by omega) (by omega)
theorem rsz_spec (e : Ex) : ∀ dp, (depth e + dp ≤ 5 ∧ size e ≤ 24 → rsz e dp = (size e, depth e)) ∧ (¬ (depth e + dp ≤ 5 ∧ size e ≤ 24) → (rsz e dp).1 = 25) := by
  induction e using Ex.ind with
  | h k a l ih =>
    have hL : ∀ (l : List Ex), (∀ e ∈ l, ∀ dp, (depth e + dp ≤ 5 ∧ size e ≤ 24 → rsz e dp = (size e, depth e)) ∧ (¬ (depth e + dp ≤ 5 ∧ size e ≤ 24) → (rsz e dp).1 = 25)) →
        ∀ dp n d, dp ≤ 5 → n ≤ 24 → (depthL l + dp ≤ 5 ∧ n + sizeL l ≤ 24 → rszL l dp n d = (n + sizeL l, max d (depthL l) + 1)) ∧ (¬ (depthL l + dp ≤ 5 ∧ n + sizeL l ≤ 24) → (rszL l dp n d).1 = 25) := by
      intro l
      induction l with
      | nil => intro _ dp n d h1 h2; refine ⟨fun _ => by simp [rszL, depthL, sizeL], fun hc => absurd ⟨by simp [depthL]; omega, by simp [sizeL]; omega⟩ hc⟩
      | cons e l ihl =>
        intro h dp n d h1 h2
        have he := h e (by simp)
        simp only [rszL, depthL, sizeL]
        have hd := depth_pos e
        have hs := size_pos e
        by_cases c : depth e + dp ≤ 5 ∧ size e ≤ 24
        · rw [(he dp).1 c]
          simp only
          by_cases c2 : 24 < n + size e
          · rw [if_pos c2]; exact ⟨fun hc => by omega, fun _ => rfl⟩
          · rw [if_neg c2]
            have h2 := ihl (fun x hx => h x (by simp [hx])) dp (n + size e) (max d (depth e)) h1 (by omega)
            refine ⟨fun hc => ?_, fun hc => ?_⟩
            · rw [h2.1 (by omega)]; simp only [Prod.mk.injEq]; omega
            · exact h2.2 (by omega)
        · rw [(he dp).2 c, if_pos (by omega)]
          exact ⟨fun hc => by omega, fun _ => rfl⟩
    intro dp
    simp only [rsz, depth, size]
    have hlen := len_sizeL l
    by_cases c : 4 < dp ∨ 24 < l.length
    · rw [if_pos c]; exact ⟨fun hc => by omega, fun _ => rfl⟩
    · rw [if_neg c]
      have := hL l ih (dp + 1) 1 0 (by omega) (by omega)
      refine ⟨fun hc => ?_, fun hc => ?_⟩
      · rw [this.1 (by omega)]; exact Prod.ext rfl (by simp)
      · exact this.2 (by omega)
/-- few nodes and levels -/
def small (e : Ex) : Bool := decide (depth e ≤ 4 ∧ size e ≤ 24)
theorem meas_small {e : Ex} (h : small e = true) : meas e 1 0 = (depth e, size e) := by
  have := (meas_spec e 1 0).1 (by simp [small] at h; omega); simpa using this
theorem meas_great {e : Ex} (h : small e = false) : (meas e 1 0).1 = 0 := (meas_spec e 1 0).2 (by simp [small] at h; omega)
theorem rsz_small {e : Ex} (h : small e = true) : rsz e 1 = (size e, depth e) := (rsz_spec e 1).1 (by simp [small] at h; omega)
theorem rsz_great {e : Ex} (h : small e = false) : (rsz e 1).1 = 25 := (rsz_spec e 1).2 (by simp [small] at h; omega)
def dep (e : Ex) : Nat := if small e then depth e else 0
def nod (e : Ex) : Nat := if small e then size e else 0

/-- names -/
def rsv (s : List UInt8) : Bool := decide (s = [97, 108, 108] ∨ s = [97, 110, 121] ∨ s = [111, 102] ∨ s = [112, 114, 105, 111] ∨ s = [108, 105, 109, 105, 116])
def vname (s : List UInt8) : Bool := match s with
  | [] => false
  | c :: r => decide (r.length ≤ 11) && !rsv s && at8 ltr c && r.all (at8 prt)
/-- what is asked of the byte at an index -/
def okAt (i : Nat) (c : UInt8) : Bool := if i = 0 then at8 ltr c else at8 prt c
theorem vname_all {s : List UInt8} (h0 : 0 < s.length) (h1 : s.length ≤ 12) (hr : rsv s = false) (h : ∀ i, (hi : i < s.length) → okAt i s[i] = true) : vname s = true := by
  cases s with
  | nil => simp at h0
  | cons c r =>
    have hc := h 0 (by simp)
    simp only [vname, hr, Bool.not_false, Bool.and_true, Bool.and_eq_true, decide_eq_true_eq, List.all_eq_true]
    refine ⟨⟨by simpa using h1, by simpa [okAt] using hc⟩, fun x hx => ?_⟩
    obtain ⟨i, hi, rfl⟩ := List.mem_iff_getElem.1 hx
    have := h (i + 1) (by simpa using hi)
    simpa [okAt] using this
theorem vname_bad {s : List UInt8} {i : Nat} (hi : i < s.length) (h : okAt i s[i] = false) : vname s = false := by
  cases s with
  | nil => simp at hi
  | cons c r =>
    cases i with
    | zero => simp [okAt] at h; simp [vname, h]
    | succ i =>
      simp [okAt] at h
      have : r.all (at8 prt) = false := by
        rw [List.all_eq_false]
        have hi' : i < r.length := by simpa using hi
        exact ⟨r[i], List.getElem_mem _, by simp [h]⟩
      simp [vname, this]
theorem vname_len {s : List UInt8} (h : s.length < 1 ∨ 12 < s.length) : vname s = false := by
  cases s with
  | nil => rfl
  | cons c r =>
    simp at h
    have : decide (r.length ≤ 11) = false := by simp; omega
    simp [vname, this]
theorem vname_rsv {s : List UInt8} (h : rsv s = true) : vname s = false := by
  cases s with
  | nil => rfl
  | cons c r => simp [vname, h]
/-- all bytes so far are as they must be -/
def OkTo (s : List UInt8) (k : Nat) : Prop := ∀ i, (hi : i < s.length) → i < k → okAt i s[i] = true
theorem OkTo.zero {s : List UInt8} : OkTo s 0 := fun i _ h => by omega
theorem OkTo.step {s : List UInt8} {k : Nat} (h : OkTo s k) (hk : k < s.length) (hc : okAt k s[k] = true) : OkTo s (k + 1) := by
  intro i hi h1
  by_cases e : i = k
  · subst e; exact hc
  · exact h i hi (by omega)
def usable (a : Am) : Bool := vld a.m && a.u == 0 || decide (a.m = 0 ∧ 1 ≤ a.u ∧ a.u ≤ 8)
theorem usable_fits (a : Am) : usable a = (fits 1 1 a || fits 2 8 a) := by
  simp [usable, fits, shaped]
def vatom (a : At) : Bool := vname a.n && usable a.a
def noAt : At := ⟨[], ⟨0, 0⟩⟩
/-- the program's list of different atoms: (error, list) -/
def noteF : List At → At → Int
  | [], _ => 0
  | b :: l, a => if a = b then 0 else if a.n = b.n then 13 else noteF l a
def note (l : List At) (a : At) : Int × List At := if a ∈ l then (noteF l a, l) else if noteF l a ≠ 0 then (noteF l a, l) else if l.length = 8 then (4, l) else (0, l ++ [a])
mutual
def prop : Ex → List At → Bool × List At
  | .mk k a kids, l => if kids = [] then (if k = 0 ∧ vatom a = true then (decide ((note l a).1 = 0), (note l a).2) else (false, l)) else if k < 1 ∨ (kids.length : Int) < k ∨ a ≠ noAt then (false, l) else propL kids l
def propL : List Ex → List At → Bool × List At
  | [], l => (true, l)
  | e :: r, l => if (prop e l).1 = true then propL r (prop e l).2 else (false, (prop e l).2)
end
/- the reference's: none if a node is neither an atom nor a group -/
mutual
def radd : Ex → List At → Option (List At)
  | .mk k a kids, l => if kids = [] then (if k = 0 ∧ vatom a = true then some (if a ∈ l then l else l ++ [a]) else none) else if k < 1 ∨ (kids.length : Int) < k ∨ a ≠ noAt then none else raddL kids l
def raddL : List Ex → List At → Option (List At)
  | [], l => some l
  | e :: r, l => match radd e l with | none => none | some x => raddL r x
end
mutual
def coll : Ex → List At → List At
  | .mk _ a kids, l => if kids = [] then (if a ∈ l then l else l ++ [a]) else collL kids l
def collL : List Ex → List At → List At
  | [], l => l
  | e :: r, l => collL r (coll e l)
end
def Dist (l : List At) : Prop := l.Pairwise (fun a b => a.n ≠ b.n)
def Good (l : List At) : Prop := l.length ≤ 8 ∧ Dist l
instance (l : List At) : Decidable (Dist l) := by unfold Dist; infer_instance
instance (l : List At) : Decidable (Good l) := by unfold Good; infer_instance
theorem noteF_mem {a : At} : ∀ {l : List At}, Dist l → a ∈ l → noteF l a = 0
  | [], _, h => by simp at h
  | b :: l, hd, h => by
    unfold noteF
    split
    · rfl
    · rename_i hne
      have hm : a ∈ l := by rcases List.mem_cons.1 h with h | h; exact absurd h hne; exact h
      rw [if_neg, noteF_mem (List.pairwise_cons.1 hd).2 hm]
      intro e
      exact (List.pairwise_cons.1 hd).1 a hm e.symm
theorem noteF_out {a : At} : ∀ {l : List At}, a ∉ l → (noteF l a = 0 ↔ ∀ b ∈ l, b.n ≠ a.n)
  | [], _ => by simp [noteF]
  | b :: l, h => by
    unfold noteF
    rw [if_neg (fun e => h (by simp [e]))]
    split
    · rename_i e; simp [e]
    · rename_i e
      rw [noteF_out (fun hm => h (by simp [hm]))]
      simp; intro _ e'; exact e e'.symm
theorem Good.snoc {l : List At} {a : At} : Good (l ++ [a]) ↔ Good l ∧ l.length < 8 ∧ ∀ b ∈ l, b.n ≠ a.n := by
  unfold Good Dist
  rw [List.pairwise_append]
  simp
  constructor
  · rintro ⟨h1, h2, h3⟩; exact ⟨⟨by omega, h2⟩, by omega, h3⟩
  · rintro ⟨⟨h1, h2⟩, h3, h4⟩; exact ⟨by omega, h2, h4⟩
theorem Good.pre {l r : List At} (h : Good (l ++ r)) : Good l := by
  unfold Good Dist at *
  rw [List.pairwise_append] at h
  simp at h
  exact ⟨by omega, h.2.1⟩
theorem note_good {l : List At} {a : At} (h : Good l) : if Good (if a ∈ l then l else l ++ [a]) then note l a = (0, if a ∈ l then l else l ++ [a]) else (note l a).1 ≠ 0 := by
  unfold note
  by_cases hm : a ∈ l
  · simp only [hm, if_true]
    rw [if_pos h, noteF_mem h.2 hm]
  · simp only [hm, if_false]
    have ho := noteF_out hm
    by_cases hn : noteF l a = 0
    · rw [if_neg (not_not_intro hn)]
      by_cases hl : l.length = 8
      · rw [if_neg (fun hg => by have := (Good.snoc.1 hg).2.1; omega), if_pos hl]; exact (by decide : (4 : Int) ≠ 0)
      · rw [if_pos (Good.snoc.2 ⟨h, by have := h.1; omega, ho.1 hn⟩), if_neg hl]
    · rw [if_neg (fun hg => hn (ho.2 (Good.snoc.1 hg).2.2)), if_pos hn]; exact hn
theorem radd_pre (e : Ex) : ∀ l x, radd e l = some x → ∃ r, x = l ++ r := by
  induction e using Ex.ind with
  | h k a kids ih =>
    have hL : ∀ (ks : List Ex), (∀ e ∈ ks, ∀ l x, radd e l = some x → ∃ r, x = l ++ r) → ∀ l x, raddL ks l = some x → ∃ r, x = l ++ r := by
      intro ks
      induction ks with
      | nil => intro _ l x h; simp [raddL] at h; exact ⟨[], by simp [h]⟩
      | cons e ks ihk =>
        intro hk l x h
        simp only [raddL] at h
        split at h
        · cases h
        · rename_i y hy
          obtain ⟨r1, rfl⟩ := hk e (by simp) l y hy
          obtain ⟨r2, rfl⟩ := ihk (fun x hx => hk x (by simp [hx])) _ _ h
          exact ⟨r1 ++ r2, by simp⟩
    intro l x h
    simp only [radd] at h
    split at h
    · split at h
      · split at h
        · injection h with h; exact ⟨[], by simp [h]⟩
        · injection h with h; exact ⟨[a], h.symm⟩
      · cases h
    · split at h
      · cases h
      · exact hL kids ih l x h
/-- the two ways agree -/
theorem prop_radd (e : Ex) : ∀ l, Good l → match radd e l with
    | none => (prop e l).1 = false
    | some x => if Good x then prop e l = (true, x) else (prop e l).1 = false := by
  induction e using Ex.ind with
  | h k a kids ih =>
    have hL : ∀ (ks : List Ex), (∀ e ∈ ks, ∀ l, Good l → match radd e l with
        | none => (prop e l).1 = false
        | some x => if Good x then prop e l = (true, x) else (prop e l).1 = false) → ∀ l, Good l → match raddL ks l with
        | none => (propL ks l).1 = false
        | some x => if Good x then propL ks l = (true, x) else (propL ks l).1 = false := by
      intro ks
      induction ks with
      | nil => intro _ l h; simp [raddL, propL, h]
      | cons e ks ihk =>
        intro hk l h
        have he := hk e (by simp) l h
        simp only [raddL, propL]
        cases hr : radd e l with
        | none => rw [hr] at he; simp only at he ⊢; rw [he]; simp
        | some x =>
          rw [hr] at he
          simp only at he ⊢
          by_cases hg : Good x
          · rw [if_pos hg] at he
            rw [he]
            simpa using ihk (fun x hx => hk x (by simp [hx])) x hg
          · rw [if_neg hg] at he
            rw [he]
            cases hr2 : raddL ks x with
            | none => simp
            | some y =>
              simp only
              rw [if_neg]
              · simp
              · intro hy
                obtain ⟨r, rfl⟩ : ∃ r, y = x ++ r := by
                  have : ∀ (ks : List Ex) l x, raddL ks l = some x → ∃ r, x = l ++ r := by
                    intro ks
                    induction ks with
                    | nil => intro l x h; simp [raddL] at h; exact ⟨[], by simp [h]⟩
                    | cons e ks ihk =>
                      intro l x h
                      simp only [raddL] at h
                      split at h
                      · cases h
                      · rename_i y hy
                        obtain ⟨r1, rfl⟩ := radd_pre e l y hy
                        obtain ⟨r2, rfl⟩ := ihk _ _ h
                        exact ⟨r1 ++ r2, by simp⟩
                  exact this ks x y hr2
                exact hg hy.pre
    intro l h
    simp only [radd, prop]
    by_cases hk : kids = []
    · rw [if_pos hk, if_pos hk]
      by_cases hv : k = 0 ∧ vatom a = true
      · rw [if_pos hv, if_pos hv]
        have := note_good (a := a) h
        generalize (if a ∈ l then l else l ++ [a]) = x at *
        simp only
        by_cases hg : Good x
        · rw [if_pos hg] at this ⊢; simp [this]
        · rw [if_neg hg] at this ⊢; simpa using this
      · rw [if_neg hv, if_neg hv]
    · rw [if_neg hk, if_neg hk]
      by_cases hb : k < 1 ∨ (kids.length : Int) < k ∨ a ≠ noAt
      · rw [if_pos hb, if_pos hb]
      · rw [if_neg hb, if_neg hb]; exact hL kids ih l h
theorem radd_coll (e : Ex) : ∀ l x, radd e l = some x → x = coll e l := by
  induction e using Ex.ind with
  | h k a kids ih =>
    have hL : ∀ (ks : List Ex), (∀ e ∈ ks, ∀ l x, radd e l = some x → x = coll e l) → ∀ l x, raddL ks l = some x → x = collL ks l := by
      intro ks
      induction ks with
      | nil => intro _ l x h; simp [raddL] at h; simp [collL, h]
      | cons e ks ihk =>
        intro hk l x h
        simp only [raddL] at h
        split at h
        · cases h
        · rename_i y hy
          obtain rfl := hk e (by simp) l y hy
          exact ihk (fun x hx => hk x (by simp [hx])) _ _ h
    intro l x h
    simp only [radd, coll] at h ⊢
    split at h
    · rename_i hk
      rw [if_pos hk]
      split at h
      · injection h with h; exact h.symm
      · cases h
    · rename_i hk
      rw [if_neg hk]
      split at h
      · cases h
      · exact hL kids ih l x h
/-- every node is an atom or a group -/
def valid (e : Ex) : Bool := small e && (match radd e [] with | none => false | some x => decide (Good x))
def atoms (e : Ex) : List At := if valid e then coll e [] else []
theorem good_nil : Good [] := ⟨by simp, List.Pairwise.nil⟩
theorem valid_prop (e : Ex) : valid e = (small e && (prop e []).1) := by
  unfold valid
  have := prop_radd e [] good_nil
  cases h : radd e [] with
  | none => rw [h] at this; simp only at this ⊢; rw [this]
  | some x =>
    rw [h] at this
    simp only at this ⊢
    split at this
    · rename_i hg; rw [this]; simp [hg]
    · rename_i hg; rw [this]; simp [hg]
theorem valid_coll {e : Ex} (h : valid e = true) : radd e [] = some (coll e []) ∧ Good (coll e []) ∧ small e = true := by
  unfold valid at h
  cases hr : radd e [] with
  | none => rw [hr] at h; simp at h
  | some x =>
    rw [hr] at h
    obtain rfl := radd_coll e [] x hr
    simp at h
    exact ⟨rfl, h.2, h.1⟩
end CL
/- Words for memory, second part: blocks that are known whole, worlds in which one block alone has changed. -/
namespace Go.Proofs.YtlfnpkjfnafeaaaDoor
open Go.RowKit
/-- a block that is known whole -/
def Blk (w : World) (g : Nat) (t : TypeId) (cs : Array Value) : Prop := w.heap[g]? = some (.cells cs t (0, 0))
theorem Blk.cell {w : World} {g : Nat} {t : TypeId} {cs : Array Value} (h : Blk w g t cs) (i : Nat) : w.cell? ⟨g, i, none⟩ = cs[i]? := cell_of_row w g i cs t (0, 0) h
theorem Blk.frozen {w : World} {g : Nat} {t : TypeId} {cs : Array Value} (h : Blk w g t cs) (i : Nat) : w.frozen? ⟨g, i, none⟩ = false := by
  unfold Blk at h
  simp [World.frozen?, h]
theorem Blk.set {w : World} {g : Nat} {t : TypeId} {cs : Array Value} (h : Blk w g t cs) (i : Nat) (u : Value) : Blk (w.setCell ⟨g, i, none⟩ u) g t (cs.setIfInBounds i u) := by
  unfold Blk at h ⊢
  simp [World.setCell, Array.getElem?_modify, h]
theorem Blk.drewN {w : World} {g : Nat} {t : TypeId} {cs : Array Value} (h : Blk w g t cs) (n : Nat) : Blk (w.drewN n) g t cs := h
theorem Blk.lt {w : World} {g : Nat} {t : TypeId} {cs : Array Value} (h : Blk w g t cs) : g < w.heap.size := by
  rcases Nat.lt_or_ge g w.heap.size with hlt | hge
  · exact hlt
  · unfold Blk at h; rw [Array.getElem?_eq_none hge] at h; cases h
/-- only block g has changed, and what is new -/
abbrev Only (g : Nat) (w w' : World) : Prop := w.grownBy w' (some g)
theorem Only.rf {g : Nat} {w : World} : Only g w w := World.grownBy.refl w _
theorem Only.drewN {g : Nat} {a w : World} (h : Only g a w) (n : Nat) : Only g a (w.drewN n) := ⟨h.os, h.tape, h.output, h.size, h.block⟩
theorem Only.drew {g : Nat} {a w : World} (h : Only g a w) : Only g a w.drew := ⟨h.os, h.tape, h.output, h.size, h.block⟩
theorem Only.set {g : Nat} {a w : World} (h : Only g a w) (i : Nat) (u : Value) : Only g a (w.setCell ⟨g, i, none⟩ u) :=
  ⟨h.os, h.tape, h.output, by simpa [World.setCell] using h.size, fun k hk hne => (Below.heap_setCell w _ u k (fun e => hne (by rw [e]))).trans (h.block k hk hne)⟩
theorem Only.tr {g : Nat} {a b c : World} (h : Only g a b) (k : Only g b c) : Only g a c :=
  ⟨k.os.trans h.os, k.tape.trans h.tape, k.output.trans h.output, Nat.le_trans h.size k.size, fun i hi hn => (k.block i (Nat.lt_of_lt_of_le hi h.size) hn).trans (h.block i hi hn)⟩
theorem Only.of_ext {g : Nat} {a b : World} (h : Ext a b) : Only g a b := ⟨h.os, h.tape, h.output, h.size, fun i hi _ => h.block i hi⟩
theorem Ext.only {g : Nat} {W a b : World} (h : Ext W a) (k : Only g a b) (hg : W.heap.size ≤ g) : Ext W b :=
  h.trans ⟨k.os, k.tape, k.output, k.size, fun i hi => k.block i (by have := h.size; omega) (fun e => by injection e; omega)⟩
theorem Blk.alloc {w : World} {g : Nat} {t : TypeId} {cs : Array Value} (h : Blk w g t cs) (o : Obj) : Blk (w.alloc o) g t cs := (Below.heap_alloc w o g h.lt).trans h
theorem Blk.new (w : World) (t : TypeId) (cs : Array Value) : Blk (w.alloc (.cells cs t)) w.heap.size t cs := heap_alloc_new w _
theorem Blk.only {w w' : World} {g b : Nat} {t : TypeId} {cs : Array Value} (h : Blk w g t cs) (ho : Only b w w') (hne : g ≠ b) : Blk w' g t cs :=
  (ho.block g h.lt (by simpa using hne)).trans h
theorem Blk.ext {w w' : World} {g : Nat} {t : TypeId} {cs : Array Value} (h : Blk w g t cs) (hx : Ext w w') : Blk w' g t cs := (hx.block g h.lt).trans h
theorem own_ne {w : World} {base : Nat} {E : TypeId} {size n : Nat} {v : Value} {xs : List Value} {g : Nat} {t : TypeId} {cs : Array Value} (h : w.ownsRow base E size v n xs) (hg : Blk w g t cs) (hne : E ≠ t) : v.ownBlock ≠ some g := by
  rcases h.2 with ⟨rfl, _⟩ | ⟨g', cap, cur, rfl, _, hh, _⟩
  · simp [Value.ownBlock]
  · intro he
    have : g' = g := by simpa [Value.ownBlock] using he
    subst this
    unfold Blk at hg
    rw [hh] at hg
    injection hg with hg
    injection hg with _ ht
    exact hne ht
theorem own_only {w w' : World} {base : Nat} {E : TypeId} {size n b : Nat} {v : Value} {xs : List Value} (h : w.ownsRow base E size v n xs) (ho : Only b w w') (hne : v.ownBlock ≠ some b) : w'.ownsRow base E size v n xs :=
  h.kept ho (.inr hne)
theorem own_drewN {w : World} {base : Nat} {E : TypeId} {size n : Nat} {v : Value} {xs : List Value} (h : w.ownsRow base E size v n xs) (k : Nat) : (w.drewN k).ownsRow base E size v n xs := h
theorem below_drewN {B : Nat} {a w : World} (h : Below B a w) (n : Nat) : Below B a (w.drewN n) := ⟨h.os, h.tape, h.output, h.size, h.block⟩
theorem below_only {B b : Nat} {a w w' : World} (h : Below B a w) (ho : Only b w w') (hb : B ≤ b) (hs : B ≤ w.heap.size) : Below B a w' :=
  h.trans ⟨ho.os, ho.tape, ho.output, ho.size, fun k hk => ho.block k (by omega) (fun e => by injection e; omega)⟩
theorem _root_.Go.World.grownBy.blk {w w' : World} {row : Option Nat} {g : Nat} {t : TypeId} {cs : Array Value} (hg : w.grownBy w' row) (h : Blk w g t cs) (hn : some g ≠ row) : Blk w' g t cs := (hg.block g h.lt hn).trans h
theorem _root_.Go.World.grownBy.frozenB {w w' : World} {row : Option Nat} {g : Nat} {t : TypeId} {cs : Array Value} (hg : w.grownBy w' row) (h : Blk w g t cs) (hn : some g ≠ row) (i : Nat) : w'.frozen? ⟨g, i, none⟩ = false := (hg.blk h hn).frozen i
theorem bytes_extract (l : List UInt8) (a b : Nat) : (⟨l.toArray⟩ : ByteArray).extract a b = ⟨((l.drop a).take (b - a)).toArray⟩ := by
  apply ByteArray.ext
  simp [List.extract_eq_take_drop]
theorem ret_ext {l : List UInt8} {a b : Nat} (_ : b ≤ l.length) : Ending.returned (.string ((⟨l.toArray⟩ : ByteArray).extract a b)) = .returned (.string ⟨((l.drop a).take (b - a)).toArray⟩) := by rw [bytes_extract]
theorem bcell {W w1 : World} (hb : Below W.heap.size W w1) : (∀ b o, b < W.heap.size → w1.cell? ⟨b, o, none⟩ = W.cell? ⟨b, o, none⟩) ∧ (∀ b o, b < W.heap.size → w1.frozen? ⟨b, o, none⟩ = W.frozen? ⟨b, o, none⟩) :=
  ⟨fun b o h => hb.cell (p := ⟨b, o, none⟩) h, fun b o h => hb.frozen (p := ⟨b, o, none⟩) h⟩
end Go.Proofs.YtlfnpkjfnafeaaaDoor
/- Arguments opened to cells: slices whose elements are read as rows of cells, strings, numbers. -/
namespace Go.Proofs.YtlfnpkjfnafeaaaDoor
open Go.RowKit Go.ChangeShapes Go.WideShapes
section
variable {H : Type} {enc : TypeId × Value → H} {P : Program} {w : World} {base : Nat} {sp : Nat → Bool} {held : Bool}
theorem flat_get {vs : List (List Value)} {sz : Nat} (h : ∀ v ∈ vs, v.length = sz) : ∀ {j : Nat} {u : Value}, vs.flatten[j]? = some u → ∃ i k, j = i * sz + k ∧ k < sz ∧ ∃ hi : i < vs.length, vs[i][k]? = some u := by
  induction vs with
  | nil => intro j u hu; simp at hu
  | cons v vs ih =>
    intro j u hu
    have hv := h v (by simp)
    by_cases hj : j < sz
    · rw [List.flatten_cons, List.getElem?_append_left (by omega)] at hu
      exact ⟨0, j, by omega, hj, by simp, by simpa using hu⟩
    · rw [List.flatten_cons, List.getElem?_append_right (by omega)] at hu
      obtain ⟨i, k, e, hk, hi, h2⟩ := ih (fun x hx => h x (by simp [hx])) hu
      exact ⟨i + 1, k, by rw [Nat.add_mul]; omega, hk, by simpa using hi, by simpa using h2⟩
theorem get_flat {vs : List (List Value)} {sz : Nat} (h : ∀ v ∈ vs, v.length = sz) : ∀ {i k : Nat} (hi : i < vs.length), k < sz → vs.flatten[i * sz + k]? = vs[i][k]? := by
  induction vs with
  | nil => intro i k hi; simp at hi
  | cons v vs ih =>
    intro i k hi hk
    have hv := h v (by simp)
    cases i with
    | zero => rw [List.flatten_cons, List.getElem?_append_left (by omega)]; simp
    | succ i =>
      rw [List.flatten_cons, List.getElem?_append_right (by rw [Nat.add_mul]; omega)]
      have := ih (fun x hx => h x (by simp [hx])) (i := i) (k := k) (by simpa using hi) hk
      simp only [List.getElem_cons_succ]
      rw [← this]; congr 1; rw [Nat.add_mul]; omega
theorem flat_len {vs : List (List Value)} {sz : Nat} (h : ∀ v ∈ vs, v.length = sz) : vs.flatten.length = vs.length * sz := by
  induction vs with
  | nil => simp
  | cons v vs ih =>
    have hv := h v (by simp)
    rw [List.flatten_cons, List.length_append, ih (fun x hx => h x (by simp [hx])), hv, List.length_cons, Nat.add_mul]; omega
theorem open_rows {t e : TypeId} {sz fuel : Nat} {cs : List Value} {x : DataW H × List MemPlace} (ht : P.underlying t = some (.slice e)) (hC : P.cellsOf e = sz) (hsz : 0 < sz) (h : DataW.trod enc P w base sp held fuel t cs = some x) :
    ∃ (A : Option Addr) (vs : List (List Value)) (cap : Nat), cs = [.slice A vs.length cap] ∧ vs.length ≤ cap ∧ cap ≤ maxLen ∧ Sits w A vs.flatten ∧ ∀ v ∈ vs, v.length = sz ∧ ∃ n y, n < fuel ∧ DataW.trod enc P w base sp held n e v = some y := by
  rcases DataW.trod_slice ht h with ⟨hcs, _⟩ | ⟨a, len, cap, elems, rest, n, hn, hcs, hx, hb, hl, hm, hlen, hel, _, _⟩
  · exact ⟨none, [], 0, by simpa using hcs, by simp, by simp [maxLen], Sits.nil, by simp⟩
  · rw [hC] at hel
    have hget : ∀ i, i < len → ∃ v, w.cells? base (a.add (i * sz)) sz = some v ∧ v.length = sz ∧ ∃ y, DataW.trod enc P w base sp held n e v = some y := by
      intro i hi
      have h1 := hel i hi
      have h2 : elems[i]? = some (elems[i]'(by omega)) := List.getElem?_eq_getElem (by omega)
      rw [h2] at h1
      cases hc : w.cells? base (a.add (i * sz)) sz with
      | none => rw [hc] at h1; cases h1
      | some v => rw [hc] at h1; exact ⟨v, rfl, (World.cells?_some hc).2.1, _, h1⟩
    let f : Nat → List Value := fun i => (w.cells? base (a.add (i * sz)) sz).getD []
    have hf : ∀ i, i < len → f i = (w.cells? base (a.add (i * sz)) sz).getD [] ∧ w.cells? base (a.add (i * sz)) sz = some (f i) ∧ (f i).length = sz ∧ ∃ y, DataW.trod enc P w base sp held n e (f i) = some y := by
      intro i hi
      obtain ⟨v, h1, h2, h3⟩ := hget i hi
      have : f i = v := by simp [f, h1]
      exact ⟨rfl, by rw [this]; exact h1, by rw [this]; exact h2, by rw [this]; exact h3⟩
    refine ⟨some a, (List.range len).map f, cap, by simpa using hcs, by simpa using hl, hm, ?_, ?_⟩
    · intro hne
      have h0 : 0 < len := by
        rcases Nat.eq_zero_or_pos len with h | h
        · subst h; simp at hne
        · exact h
      have hall : ∀ v ∈ (List.range len).map f, v.length = sz := by
        intro v hv
        obtain ⟨i, hi, rfl⟩ := List.mem_map.1 hv
        exact (hf i (by simpa using hi)).2.2.1
      obtain ⟨b, off, spot⟩ := a
      have hspot : spot = none := by
        have h1 := (World.cells?_some (hf 0 h0).2.1).2.2 0 hsz
        have h2 : (f 0)[0]? = some ((f 0)[0]'(by have := (hf 0 h0).2.2.1; omega)) := List.getElem?_eq_getElem _
        rw [h2] at h1
        simpa [Addr.add] using World.cell?_spot h1
      subst hspot
      refine ⟨b, off, rfl, fun j u hu => ?_⟩
      obtain ⟨i, k, rfl, hk, hi, hik⟩ := flat_get hall hu
      simp at hi hik
      have h1 := (World.cells?_some (hf i hi).2.1).2.2 k hk
      rw [hik] at h1
      rw [Addr.add_lit, Addr.add_lit, Nat.add_assoc] at h1; exact h1
    · intro v hv
      obtain ⟨i, hi, rfl⟩ := List.mem_map.1 hv
      obtain ⟨_, _, h2, y, h3⟩ := hf i (by simpa using hi)
      exact ⟨h2, n, y, by omega, h3⟩
/-- .. each element's cells being those of some x -/
theorem open_list {α : Type} (c : α → List Value) {t e : TypeId} {sz fuel : Nat} {cs : List Value} {x : DataW H × List MemPlace} (ht : P.underlying t = some (.slice e)) (hC : P.cellsOf e = sz) (hsz : 0 < sz)
    (hel : ∀ n v y, DataW.trod enc P w base sp held n e v = some y → ∃ a, v = c a) (h : DataW.trod enc P w base sp held fuel t cs = some x) :
    ∃ (A : Option Addr) (l : List α) (cap : Nat), cs = [.slice A l.length cap] ∧ l.length ≤ cap ∧ cap ≤ maxLen ∧ Sits w A (l.flatMap c) := by
  obtain ⟨A, vs, cap, rfl, h1, h2, h3, h4⟩ := open_rows ht hC hsz h
  have : ∃ l : List α, vs = l.map c := by
    clear h1 h2 h3 h
    induction vs with
    | nil => exact ⟨[], rfl⟩
    | cons v vs ih =>
      obtain ⟨_, n, y, _, hy⟩ := h4 v (by simp)
      obtain ⟨a, rfl⟩ := hel n v y hy
      obtain ⟨l, rfl⟩ := ih (fun v hv => h4 v (by simp [hv]))
      exact ⟨a :: l, rfl⟩
  obtain ⟨l, rfl⟩ := this
  refine ⟨A, l, cap, by simp, by simpa using h1, h2, ?_⟩
  rw [List.flatMap_def]; exact h3
theorem trod_str {t : TypeId} {fuel : Nat} {cs : List Value} {x : DataW H × List MemPlace} (ht : P.underlying t = some .string) (h : DataW.trod enc P w base sp held fuel t cs = some x) :
    ∃ l : List UInt8, cs = [.string ⟨l.toArray⟩] ∧ l.length ≤ maxLen := by
  obtain ⟨s, h1, _, h3⟩ := DataW.trod_string ht h
  refine ⟨s.data.toList, by cases s; simpa using h1, by rw [Array.length_toList]; exact h3⟩
end
end Go.Proofs.YtlfnpkjfnafeaaaDoor
/- A region that draws its order, whose operations read and whose callees read or make new memory: walked once, in the order of the text, in the class of the worlds that only have grown. -/
namespace Go.Proofs.YtlfnpkjfnafeaaaDoor
open Go.RowKit
/-- a world in which nothing that was in w has changed -/
structure ExtOf (w : World) where
  val : World
  ext : Ext w val
instance (w : World) : Nonempty (ExtOf w) := ⟨⟨w, Ext.rfl'⟩⟩
theorem wp_region_ext_lit {P : Program} {id : Nat} {Q : Exit → Act → World → Prop} {a : Act} {w : World} {l : List Oper} (hm : P.follows .mixedOrders = true) (hB : Region.lexB .any l.toArray = true)
    (h : wpQuiet P l.toArray (fun w' => ∃ x : ExtOf w, w' = x.val) (fun a' => ∀ w', (∃ x : ExtOf w, w' = x.val) → Q .normal a' w') l a) : (Code.region id l.toArray true).wp P Q a w :=
  wp_region_quiet (C := fun w' => ∃ x : ExtOf w, w' = x.val) hm hB ⟨⟨_, Ext.drawn w⟩, rfl⟩ (by simpa using h)
theorem ExtOf.cell {w : World} {p : Addr} {v : Value} (h : w.cell? p = some v) (x : ExtOf w) : x.val.cell? p = some v := x.ext.cell h
/-- a contract that leaves the world alone, or makes new memory, offered inside such a region -/
theorem xqP {P : Program} {f : FuncId} {args : Array Value} {w : World} {x : ExtOf w} {v : Value}
    (h : Calls P f args x.val fun e w' => e = .returned v ∧ x.val = w') : Calls P f args x.val fun e w'' => e = .returned v ∧ ∃ y : ExtOf w, w'' = y.val :=
  h.mono fun _ _ ⟨he, hm⟩ => ⟨he, x, hm.symm⟩
theorem xqX {P : Program} {f : FuncId} {args : Array Value} {w : World} {x : ExtOf w} {v : Value}
    (h : Calls P f args x.val fun e w' => e = .returned v ∧ Ext x.val w') : Calls P f args x.val fun e w'' => e = .returned v ∧ ∃ y : ExtOf w, w'' = y.val :=
  h.mono fun _ _ ⟨he, hm⟩ => ⟨he, ⟨_, x.ext.tr hm⟩, rfl⟩
theorem xqN {P : Program} {f : FuncId} {args : Array Value} {w : World} {x : ExtOf w} {v : Value}
    (h : Calls P f args x.val fun e w' => e = .returned v ∧ ∃ n, w' = x.val.drewN n) : Calls P f args x.val fun e w'' => e = .returned v ∧ ∃ y : ExtOf w, w'' = y.val :=
  h.mono fun _ _ ⟨he, n, hm⟩ => ⟨he, ⟨_, x.ext.drewN n⟩, hm⟩
end Go.Proofs.YtlfnpkjfnafeaaaDoor
/- An expression that stands in memory: its five cells, and its kids behind a slice, all in blocks below a bound. -/
namespace Go.Proofs.YtlfnpkjfnafeaaaDoor
open Go.RowKit
/-- cells at an address, in a block below B -/
def SitsB (w : World) (B : Nat) (A : Option Addr) (xs : List Value) : Prop :=
  xs ≠ [] → ∃ b o, A = some ⟨b, o, none⟩ ∧ b < B ∧ ∀ j u, xs[j]? = some u → w.cell? ⟨b, o + j, none⟩ = some u
theorem SitsB.below {w w' : World} {B : Nat} {A : Option Addr} {xs : List Value} (h : SitsB w B A xs) (hb : Below B w w') : SitsB w' B A xs := fun hn =>
  let ⟨b, o, e, h1, hc⟩ := h hn
  ⟨b, o, e, h1, fun j u hu => by rw [hb.cell (p := ⟨b, o + j, none⟩) h1]; exact hc j u hu⟩
theorem SitsB.of {w : World} {A : Option Addr} {xs : List Value} (h : Sits w A xs) : SitsB w w.heap.size A xs := fun hn =>
  let ⟨b, o, e, hc⟩ := h hn
  ⟨b, o, e, (by
    cases xs with
    | nil => exact absurd rfl hn
    | cons x xs => exact World.block_lt_of_cell? w _ (hc 0 x rfl)), hc⟩
theorem SitsB.le {w : World} {B B' : Nat} {A : Option Addr} {xs : List Value} (h : SitsB w B A xs) (hb : B ≤ B') : SitsB w B' A xs := fun hn =>
  let ⟨b, o, e, h1, hc⟩ := h hn
  ⟨b, o, e, by omega, hc⟩
inductive Rd (w : World) (B : Nat) : CL.Ex → List Value → Prop
  | mk (k : Int) (n : List UInt8) (m u : Int) (kids : List CL.Ex) (A : Option Addr) (c : Nat) (vs : List (List Value)) (hn : n.length ≤ maxLen) (hl : kids.length ≤ maxLen) (hc : kids.length ≤ c)
      (hlen : vs.length = kids.length) (h5 : ∀ v ∈ vs, v.length = 5) (hs : SitsB w B A vs.flatten) (hk : ∀ i (h1 : i < kids.length) (h2 : i < vs.length), Rd w B kids[i] vs[i]) :
      Rd w B (.mk k ⟨n, ⟨m, u⟩⟩ kids) [.int .i64 k, .string ⟨n.toArray⟩, .int .i64 m, .int .i64 u, .slice A kids.length c]
theorem Rd.kept {w w' : World} {B : Nat} {e : CL.Ex} {cs : List Value} (h : Rd w B e cs) (hb : Below B w w') : Rd w' B e cs := by
  induction h with
  | mk k n m u kids A c vs hn hl hc hlen h5 hs _ ih => exact .mk k n m u kids A c vs hn hl hc hlen h5 (hs.below hb) ih
theorem Rd.le {w : World} {B B' : Nat} {e : CL.Ex} {cs : List Value} (h : Rd w B e cs) (hb : B ≤ B') : Rd w B' e cs := by
  induction h with
  | mk k n m u kids A c vs hn hl hc hlen h5 hs _ ih => exact .mk k n m u kids A c vs hn hl hc hlen h5 (hs.le hb) ih
theorem Rd.ext {w w' : World} {B : Nat} {e : CL.Ex} {cs : List Value} (h : Rd w B e cs) (hx : Ext w w') (hB : B ≤ w.heap.size) : Rd w' B e cs := h.kept (hx.mono hB)
/-- one element's five cells -/
theorem five {w : World} {b o : Nat} {vs : List (List Value)} (h5 : ∀ v ∈ vs, v.length = 5) (hc : ∀ j u, vs.flatten[j]? = some u → w.cell? ⟨b, o + j, none⟩ = some u) {i : Nat} (hi : i < vs.length) :
    ∃ v0 v1 v2 v3 v4, vs[i] = [v0, v1, v2, v3, v4] ∧ w.cell? ⟨b, o + i * 5, none⟩ = some v0 ∧ w.cell? ⟨b, o + i * 5 + 1, none⟩ = some v1 ∧ w.cell? ⟨b, o + i * 5 + 2, none⟩ = some v2 ∧ w.cell? ⟨b, o + i * 5 + 3, none⟩ = some v3 ∧ w.cell? ⟨b, o + i * 5 + 4, none⟩ = some v4 := by
  have hl := h5 vs[i] (List.getElem_mem _)
  have hg : ∀ k, k < 5 → vs.flatten[i * 5 + k]? = vs[i][k]? := fun k hk => get_flat h5 hi hk
  generalize vs[i] = v at *
  match v, hl with
  | [v0, v1, v2, v3, v4], _ =>
    refine ⟨v0, v1, v2, v3, v4, rfl, ?_, ?_, ?_, ?_, ?_⟩
    · exact hc (i * 5 + 0) v0 (hg 0 (by decide))
    · exact hc (i * 5 + 1) v1 (hg 1 (by decide))
    · exact hc (i * 5 + 2) v2 (hg 2 (by decide))
    · exact hc (i * 5 + 3) v3 (hg 3 (by decide))
    · exact hc (i * 5 + 4) v4 (hg 4 (by decide))
theorem SitsB.get {w : World} {B : Nat} {A : Option Addr} {vs : List (List Value)} (h : SitsB w B A vs.flatten) (h5 : ∀ v ∈ vs, v.length = 5) (hl : 0 < vs.length) :
    ∃ b o, A = some ⟨b, o, none⟩ ∧ b < B ∧ ∀ j u, vs.flatten[j]? = some u → w.cell? ⟨b, o + j, none⟩ = some u :=
  h (fun e => by have := flat_len h5; rw [e] at this; simp at this; omega)
/-- the kids of an expression, behind a slice at A -/
def Kids (w : World) (B : Nat) (A : Option Addr) (kids : List CL.Ex) : Prop :=
  ∃ vs : List (List Value), vs.length = kids.length ∧ (∀ v ∈ vs, v.length = 5) ∧ SitsB w B A vs.flatten ∧ ∀ i (h1 : i < kids.length) (h2 : i < vs.length), Rd w B kids[i] vs[i]
theorem Kids.below {w w' : World} {B : Nat} {A : Option Addr} {kids : List CL.Ex} (h : Kids w B A kids) (hb : Below B w w') : Kids w' B A kids :=
  let ⟨vs, h1, h2, h3, h4⟩ := h
  ⟨vs, h1, h2, h3.below hb, fun i a b => (h4 i a b).kept hb⟩
theorem Kids.le {w : World} {B B' : Nat} {A : Option Addr} {kids : List CL.Ex} (h : Kids w B A kids) (hb : B ≤ B') : Kids w B' A kids :=
  let ⟨vs, h1, h2, h3, h4⟩ := h
  ⟨vs, h1, h2, h3.le hb, fun i a b => (h4 i a b).le hb⟩
theorem Rd.inv {w : World} {B : Nat} {k : Int} {a : CL.At} {kids : List CL.Ex} {cs : List Value} (h : Rd w B (.mk k a kids) cs) :
    ∃ A c, cs = [.int .i64 k, .string ⟨a.n.toArray⟩, .int .i64 a.a.m, .int .i64 a.a.u, .slice A kids.length c] ∧ a.n.length ≤ maxLen ∧ kids.length ≤ maxLen ∧ kids.length ≤ c ∧ Kids w B A kids := by
  cases h with
  | mk k n m u kids A c vs hn hl hc hlen h5 hs hk => exact ⟨A, c, rfl, hn, hl, hc, vs, hlen, h5, hs, hk⟩
theorem Rd.of {w : World} {B : Nat} {k : Int} {a : CL.At} {kids : List CL.Ex} {A : Option Addr} {c : Nat} (hn : a.n.length ≤ maxLen) (hl : kids.length ≤ maxLen) (hc : kids.length ≤ c) (h : Kids w B A kids) :
    Rd w B (.mk k a kids) [.int .i64 k, .string ⟨a.n.toArray⟩, .int .i64 a.a.m, .int .i64 a.a.u, .slice A kids.length c] :=
  let ⟨vs, h1, h2, h3, h4⟩ := h
  .mk k a.n a.a.m a.a.u kids A c vs hn hl hc h1 h2 h3 h4
theorem Rd.shape {w : World} {B : Nat} {e : CL.Ex} {cs : List Value} (h : Rd w B e cs) : ∃ k n m u A l c, cs = [.int .i64 k, .string n, .int .i64 m, .int .i64 u, .slice A l c] := by
  cases h with
  | mk k n m u kids A c vs hn hl hc hlen h5 hs hk => exact ⟨k, _, m, u, A, _, c, rfl⟩
theorem Kids.get {w : World} {B : Nat} {A : Option Addr} {kids : List CL.Ex} (h : Kids w B A kids) {j : Nat} (hj : j < kids.length) :
    ∃ b o k n m u A' l c, A = some ⟨b, o, none⟩ ∧ b < B ∧ Rd w B kids[j] [.int .i64 k, .string n, .int .i64 m, .int .i64 u, .slice A' l c] ∧
      w.cell? ⟨b, o + j * 5, none⟩ = some (.int .i64 k) ∧ w.cell? ⟨b, o + j * 5 + 1, none⟩ = some (.string n) ∧ w.cell? ⟨b, o + j * 5 + 2, none⟩ = some (.int .i64 m) ∧ w.cell? ⟨b, o + j * 5 + 3, none⟩ = some (.int .i64 u) ∧ w.cell? ⟨b, o + j * 5 + 4, none⟩ = some (.slice A' l c) := by
  obtain ⟨vs, h1, h2, h3, h4⟩ := h
  obtain ⟨b, o, e, hb, hc⟩ := h3.get h2 (by omega)
  have hr := h4 j hj (by omega)
  obtain ⟨k, n, m, u, A', l, c, he⟩ := hr.shape
  obtain ⟨v0, v1, v2, v3, v4, e5, c0, c1, c2, c3, c4⟩ := five h2 hc (i := j) (by omega)
  rw [he] at e5 hr
  simp only [List.cons.injEq, and_true] at e5
  obtain ⟨rfl, rfl, rfl, rfl, rfl⟩ := e5
  exact ⟨b, o, k, n, m, u, A', l, c, e, hb, hr, c0, c1, c2, c3, c4⟩
end Go.Proofs.YtlfnpkjfnafeaaaDoor
/- The walks of package mode and of its reference: each function once, with what it returns. Conditions: the table of compatible modes holds what its initialiser lays (Tab). -/
namespace Go.Proofs.YtlfnpkjfnafeaaaDoor
open Go.RowKit
theorem Valid_c (m : Int) (w : World) : Calls Tryd.prog 99 #[.int .i64 m] w fun e w' => e = .returned (.bool (CL.vld m)) ∧ w = w' := by
  go_enter Tryd.func99, Tryd.ntmps99
  go_wp2
  all_goals (go_ret; refine ⟨?_, rfl⟩; simp [CL.vld]; try omega)
theorem RValid_c (m : Int) (w : World) : Calls Tryd.prog 100 #[.int .i64 m] w fun e w' => e = .returned (.bool (CL.vld m)) ∧ w = w' := by
  go_enter Tryd.func100, Tryd.ntmps100
  go_wp2
  all_goals (go_ret; refine ⟨?_, rfl⟩; simp [CL.vld]; try omega)

theorem cov_bad {a b : Int} (h : ¬ (CL.vld a = true ∧ CL.vld b = true)) : CL.cov a b = false := by
  by_cases ha : CL.vld a = true
  · by_cases hb : CL.vld b = true
    · exact absurd ⟨ha, hb⟩ h
    · simp only [Bool.not_eq_true] at hb; exact CL.cov_nr hb
  · simp only [Bool.not_eq_true] at ha; exact CL.cov_nl ha
theorem cov_at (m : Int) (n : Nat) (h1 : 1 ≤ n) (h2 : n ≤ 5) : #[Value.bool false, .bool (CL.cov m 1), .bool (CL.cov m 2), .bool (CL.cov m 3), .bool (CL.cov m 4), .bool (CL.cov m 5)][n]? = some (.bool (CL.cov m (n : Int))) := by
  have : n = 1 ∨ n = 2 ∨ n = 3 ∨ n = 4 ∨ n = 5 := by omega
  rcases this with rfl | rfl | rfl | rfl | rfl <;> rfl
def NoBoth (a b k : Int) : Prop := ∀ j, 1 ≤ j → j < k → CL.both j a b = false
end Go.Proofs.YtlfnpkjfnafeaaaDoor
/- The walks of package mode and of its reference, second part: Format, Parse, Group, Conflicts, and the reference's Covers, Compatible, Sup. -/
namespace Go.Proofs.YtlfnpkjfnafeaaaDoor
open Go.RowKit
def vstr (l : List UInt8) : Value := .string ⟨l.toArray⟩
theorem Format_c (m : Int) (w : World) : Calls Tryd.prog 93 #[.int .i64 m] w fun e w' => e = .returned (.string ⟨(CL.nm m).toArray⟩) ∧ w = w' := by
  by_cases h : CL.vld m = true
  · rcases CL.vld_cases h with rfl | rfl | rfl | rfl | rfl <;> clear h
    all_goals
      go_enter Tryd.func93, Tryd.ntmps93
      go_wp2
      go_ret
      exact ⟨rfl, rfl⟩
  · have hr := Lib.hid (CL.nm_bad (by simpa using h))
    have hb : m < 1 ∨ 5 < m := by simp [CL.vld] at h; omega
    clear h
    have h1 : (m == 1) = false := by simp; omega
    have h2 : (m == 2) = false := by simp; omega
    have h3 : (m == 3) = false := by simp; omega
    have h4 : (m == 4) = false := by simp; omega
    have h5 : (m == 5) = false := by simp; omega
    go_enter Tryd.func93, Tryd.ntmps93
    go_wp2
    go_ret
    exact ⟨ret_str hr.out.symm, rfl⟩
theorem RFormat_c (m : Int) (w : World) : Calls Tryd.prog 80 #[.int .i64 m] w fun e w' => e = .returned (.string ⟨(CL.nm m).toArray⟩) ∧ w = w' := by
  by_cases h : CL.vld m = true
  · rcases CL.vld_cases h with rfl | rfl | rfl | rfl | rfl <;> clear h
    all_goals
      go_enter Tryd.func80, Tryd.ntmps80
      go_wp2
      go_ret
      exact ⟨rfl, rfl⟩
  · have hr := Lib.hid (CL.nm_bad (by simpa using h))
    have hb : m < 1 ∨ 5 < m := by simp [CL.vld] at h; omega
    clear h
    have h1 : (m == 1) = false := by simp; omega
    have h2 : (m == 2) = false := by simp; omega
    have h3 : (m == 3) = false := by simp; omega
    have h4 : (m == 4) = false := by simp; omega
    have h5 : (m == 5) = false := by simp; omega
    go_enter Tryd.func80, Tryd.ntmps80
    go_wp2
    go_ret
    exact ⟨ret_str hr.out.symm, rfl⟩
def NoNm (s : List UInt8) (k : Int) : Prop := ∀ j, 1 ≤ j → j < k → (CL.nm j == s) = false
theorem Parse_c (s : List UInt8) (w : World) : Calls Tryd.prog 89 #[.string ⟨s.toArray⟩] w fun e w' => e = .returned (.tuple #[.int .i64 (CL.prs s), .bool (CL.prs s != 0)]) ∧ w = w' := by
  go_enter Tryd.func89, Tryd.ntmps89
  go_wp2
  go_loop [4] (fun i => ∃ k : Int, 1 ≤ k ∧ k ≤ 6 ∧ i = .int .i64 k ∧ NoNm s k) (fun i => (6 - intOf i).toNat)
  case atStart => exact ⟨1, by omega, by omega, rfl, fun j h1 h2 => by omega⟩
  case round =>
    obtain ⟨k, hk1, hk2, rfl, hn⟩ := hrel
    by_cases hk : k ≤ 5
    · go_wp2_with (go_at_call 93; refine (Format_c _ _).mono ?_; rintro e w' ⟨rfl, rfl⟩)
      · have h1 : (CL.nm k == s) = true := by assumption
        have hp := CL.prs_found hk1 hk (by simpa using h1)
        go_ret2
        exact ⟨ret_int_bool (by rw [hp]) (by rw [hp]; simp; omega), rfl⟩
      · have h1 : (CL.nm k == s) = false := by assumption
        go_round
        case rel => exact ⟨k + 1, by omega, by omega, rfl, CL.none_step hn h1⟩
        case measure => simp [intOf]; omega
    · have hp := Lib.hid (CL.prs_none (by omega) hn)
      go_wp2
      go_ret2
      exact ⟨ret_int_bool hp.out.symm (by rw [hp.out]; rfl), rfl⟩
theorem RParse_c (s : List UInt8) (w : World) : Calls Tryd.prog 53 #[.string ⟨s.toArray⟩] w fun e w' => e = .returned (.tuple #[.int .i64 (CL.prs s), .bool (CL.prs s != 0)]) ∧ w = w' := by
  go_enter Tryd.func53, Tryd.ntmps53
  go_wp2
  go_loop [4] (fun i => ∃ k : Int, 1 ≤ k ∧ k ≤ 6 ∧ i = .int .i64 k ∧ NoNm s k) (fun i => (6 - intOf i).toNat)
  case atStart => exact ⟨1, by omega, by omega, rfl, fun j h1 h2 => by omega⟩
  case round =>
    obtain ⟨k, hk1, hk2, rfl, hn⟩ := hrel
    by_cases hk : k ≤ 5
    · go_wp2_with (go_at_call 80; refine (RFormat_c _ _).mono ?_; rintro e w' ⟨rfl, rfl⟩)
      · have h1 : (CL.nm k == s) = true := by assumption
        have hp := CL.prs_found hk1 hk (by simpa using h1)
        go_ret2
        exact ⟨ret_int_bool (by rw [hp]) (by rw [hp]; simp; omega), rfl⟩
      · have h1 : (CL.nm k == s) = false := by assumption
        go_round
        case rel => exact ⟨k + 1, by omega, by omega, rfl, CL.none_step hn h1⟩
        case measure => simp [intOf]; omega
    · have hp := Lib.hid (CL.prs_none (by omega) hn)
      go_wp2
      go_ret2
      exact ⟨ret_int_bool hp.out.symm (by rw [hp.out]; rfl), rfl⟩
end Go.Proofs.YtlfnpkjfnafeaaaDoor
