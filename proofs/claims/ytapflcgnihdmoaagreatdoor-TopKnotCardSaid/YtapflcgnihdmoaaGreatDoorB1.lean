/- What the program has of types and methods. -/
import Derived.Test.YtapflcgnihdmoaaGreatDoorA6
import Derived.Test.YtapflcgnihdmoaaGreatDoorProg
import Derived.KernelRfl
import Derived.ChangeKeysEq
/- What the program's types and methods are. -/
namespace X
open Go Go.RowKit Go.Proofs
set_option linter.unusedVariables false
set_option linter.unusedSimpArgs false
set_option linter.unusedSectionVars false
variable [Luck]
set_option maxRecDepth 100000
variable {w : World} {μ : Mu}
theorem mix : Tryz.prog.follows .mixedOrders = true := by kernel_rfl
theorem agg93 : aggT Tryz.prog 93 = some false := by kernel_rfl
theorem wEqK_true {c : Nat} {x y : AV} {k : Bool → Bool} (h : wEqK c x y k = true) : (c = 0 → ∃ m n, x = .int .i64 m ∧ y = .int .i64 n ∧ k (m == n) = true) ∧ (c = 1 → ∃ a b, x = .str a ∧ y = .str b ∧ k (lbeq a b) = true) := by
  match c with
  | 0 =>
    refine ⟨fun _ => ?_, fun h => (by cases h)⟩
    obtain ⟨t, m, rfl, h1⟩ := wI_true (v := x) h
    obtain ⟨u, n, rfl, h2⟩ := wI_true (v := y) h1
    obtain ⟨h3, h4⟩ := brec_true h2
    obtain ⟨h5, h6⟩ := brec_true h4
    obtain rfl := kq_true h3
    obtain rfl := kq_true h5
    rw [ieq_eq] at h6
    exact ⟨m, n, rfl, rfl, h6⟩
  | 1 =>
    refine ⟨fun h => (by cases h), fun _ => ?_⟩
    obtain ⟨a, rfl, h1⟩ := wS_true (v := x) h
    obtain ⟨b, rfl, h2⟩ := wS_true (v := y) h1
    exact ⟨a, b, rfl, rfl, h2⟩
  | n + 2 => exact ⟨fun h => (by omega), fun h => (by omega)⟩
theorem feq_cons {c : Nat} {g : List Nat} {l m : List AV} {k : Bool → Bool} (h : feq (c :: g) l m k = true) : ∃ x l' y m', l = x :: l' ∧ m = y :: m' ∧ wEqK c x y (fun e => (Bool.rec (k false) (feq g l' m' k) e : Bool)) = true := by
  cases l with
  | nil => cases h
  | cons x l => cases m with
    | nil => cases h
    | cons y m => exact ⟨x, l, y, m, rfl, rfl, h⟩
theorem feq_nil {l m : List AV} {k : Bool → Bool} (h : feq [] l m k = true) : l = [] ∧ m = [] ∧ k true = true := by
  cases l with
  | nil => cases m with
    | nil => exact ⟨rfl, rfl, h⟩
    | cons _ _ => cases h
  | cons _ _ => cases h
section
variable {P : Program}
theorem cellI {l : List AV} {xs : Array Value} (h : VC μ l xs.toList) {i : Nat} {n : Int} (hl : l[i]? = some (.int .i64 n)) : xs[i]? = some (.int .i64 n) := by
  obtain ⟨x, h1, h2⟩ := h.1.get hl
  rw [int_inv h2] at h1
  simpa using h1
theorem cellS {l : List AV} {xs : Array Value} (h : VC μ l xs.toList) {i : Nat} {n : List Nat} (hl : l[i]? = some (.str n)) : ∃ s : ByteArray, n = s.data.toList.map (·.toNat) ∧ xs[i]? = some (.string s) := by
  obtain ⟨x, h1, h2⟩ := h.1.get hl
  obtain ⟨s, e1, e2⟩ := str_inv h2
  subst e1
  exact ⟨s, e2.symm, by simpa using h1⟩
theorem eqF_int {d : Nat} {f : Field} {fs : List Field} {xs ys : Array Value} {a b : Int} {kk : IntKind} (hu : P.underlying f.type = some (.int kk)) (hp : P.plainKey f.type = true) (hn : f.name ≠ "_") (hx : xs[f.offset]? = some (.int .i64 a)) (hy : ys[f.offset]? = some (.int .i64 b)) :
    (Op.eqFields (d + 1) xs ys (f :: fs)).run P w = if (a == b) = true then (Op.eqFields (d + 1) xs ys fs).run P w else .ok false w := by
  simp only [Op.eqFields, ne_eq, hn, not_false_eq_true, if_true, Sem.run_bind, run_part_plain w hp hx, run_part_plain w hp hy, Result.andThen_ok, run_equalIn_int w d f.type .i64 kk a b hu]
  cases a == b <;> simp
theorem eqF_str {d : Nat} {f : Field} {fs : List Field} {xs ys : Array Value} {a b : ByteArray} (hu : P.underlying f.type = some .string) (hp : P.plainKey f.type = true) (hn : f.name ≠ "_") (hx : xs[f.offset]? = some (.string a)) (hy : ys[f.offset]? = some (.string b)) :
    (Op.eqFields (d + 1) xs ys (f :: fs)).run P w = if (a.toList == b.toList) = true then (Op.eqFields (d + 1) xs ys fs).run P w else .ok false w := by
  simp only [Op.eqFields, ne_eq, hn, not_false_eq_true, if_true, Sem.run_bind, run_part_plain w hp hx, run_part_plain w hp hy, Result.andThen_ok, run_equalIn_string w d f.type a b hu]
  cases a.toList == b.toList <;> simp
end
theorem int3 : Tryz.prog.underlying 3 = some (.int .i64) := by kernel_rfl
theorem pk3 : Tryz.prog.plainKey 3 = true := by kernel_rfl
def fd34 : List Field := [⟨ "Site", 3, 0, false, "", "", 0⟩, ⟨ "Inc", 3, 1, false, "", "", 8⟩, ⟨ "Num", 3, 2, false, "", "", 16⟩]
theorem fields34 : (Tryz.prog.fieldsOf 34).toList = fd34 := by kernel_rfl
def fd36 : List Field := [⟨ "Mode", 3, 0, false, "", "", 0⟩, ⟨ "Units", 3, 1, false, "", "", 8⟩]
theorem fields36 : (Tryz.prog.fieldsOf 36).toList = fd36 := by kernel_rfl
theorem brec_ite {e : Bool} {a b : Bool} (h : (Bool.rec b a e : Bool) = true) : (e = true ∧ a = true) ∨ (e = false ∧ b = true) := brec_cases h
theorem eqFin {r : Result Bool} {k : Bool → Bool} {e : Bool} (hr : r = .ok e w) (h : k e = true) : ∃ e, k e = true ∧ r = .ok e w := ⟨e, h, hr⟩
/-- the fields of an amount -/
theorem eqAm {d : Nat} {xs ys : Array Value} {l m : List AV} {k : Bool → Bool} (hl : VC μ l xs.toList) (hm : VC μ m ys.toList) (h0 : feq [0, 0] l m k = true) : ∃ e, k e = true ∧ (Op.eqFields (d + 1) xs ys fd36).run Tryz.prog w = .ok e w := by
  obtain ⟨_, l1, _, m1, rfl, rfl, h1⟩ := feq_cons h0
  obtain ⟨a0, b0, rfl, rfl, h2⟩ := (wEqK_true h1).1 rfl
  have r1 : (Op.eqFields (d + 1) xs ys fd36).run Tryz.prog w = _ := eqF_int (w := w) (d := d) int3 pk3 (by decide) (cellI hl (i := 0) rfl) (cellI hm (i := 0) rfl)
  rcases brec_ite h2 with ⟨e0, h3⟩ | ⟨e0, h3⟩
  · obtain ⟨_, l2, _, m2, rfl, rfl, h4⟩ := feq_cons h3
    obtain ⟨a1, b1, rfl, rfl, h5⟩ := (wEqK_true h4).1 rfl
    rw [e0, if_pos rfl] at r1
    rw [show (Op.eqFields (d + 1) xs ys _).run Tryz.prog w = _ from eqF_int (w := w) (d := d) int3 pk3 (by decide) (cellI hl (i := 1) rfl) (cellI hm (i := 1) rfl)] at r1
    rcases brec_ite h5 with ⟨e1, h6⟩ | ⟨e1, h6⟩
    · obtain ⟨_, _, h7⟩ := feq_nil h6
      rw [e1, if_pos rfl] at r1
      exact eqFin (r1.trans (by simp [Op.eqFields])) h7
    · rw [e1, if_neg (by simp)] at r1; exact eqFin r1 h6
  · rw [e0, if_neg (by simp)] at r1; exact eqFin r1 h3
theorem eq34 : EqOk Tryz.prog 34 [0, 0, 0] := by
  refine ⟨Tryz.eqGuardType34, fun w μ l m xs ys k hl hm h0 => ?_⟩
  have hrun : (Op.equal 34 (.agg xs) (.agg ys)).run Tryz.prog w = (Op.eqFields 9999 xs ys fd34).run Tryz.prog w := by
    rw [← fields34]
    exact run_equalIn_struct w 9999 34 xs ys (by kernel_rfl) Tryz.stoodInHeld34
  rw [hrun]
  obtain ⟨_, l1, _, m1, rfl, rfl, h1⟩ := feq_cons h0
  obtain ⟨a0, b0, rfl, rfl, h2⟩ := (wEqK_true h1).1 rfl
  have r1 : (Op.eqFields 9999 xs ys fd34).run Tryz.prog w = _ := eqF_int (w := w) (d := 9998) int3 pk3 (by decide) (cellI hl (i := 0) rfl) (cellI hm (i := 0) rfl)
  rcases brec_ite h2 with ⟨e0, h3⟩ | ⟨e0, h3⟩
  · obtain ⟨_, l2, _, m2, rfl, rfl, h4⟩ := feq_cons h3
    obtain ⟨a1, b1, rfl, rfl, h5⟩ := (wEqK_true h4).1 rfl
    rw [e0, if_pos rfl] at r1
    rw [show (Op.eqFields (9998 + 1) xs ys _).run Tryz.prog w = _ from eqF_int (w := w) (d := 9998) int3 pk3 (by decide) (cellI hl (i := 1) rfl) (cellI hm (i := 1) rfl)] at r1
    rcases brec_ite h5 with ⟨e1, h6⟩ | ⟨e1, h6⟩
    · obtain ⟨_, l3, _, m3, rfl, rfl, h7⟩ := feq_cons h6
      obtain ⟨a2, b2, rfl, rfl, h8⟩ := (wEqK_true h7).1 rfl
      rw [e1, if_pos rfl] at r1
      rw [show (Op.eqFields (9998 + 1) xs ys _).run Tryz.prog w = _ from eqF_int (w := w) (d := 9998) int3 pk3 (by decide) (cellI hl (i := 2) rfl) (cellI hm (i := 2) rfl)] at r1
      rcases brec_ite h8 with ⟨e2, h9⟩ | ⟨e2, h9⟩
      · obtain ⟨_, _, h10⟩ := feq_nil h9
        rw [e2, if_pos rfl] at r1
        exact eqFin (r1.trans (by simp [Op.eqFields])) h10
      · rw [e2, if_neg (by simp)] at r1; exact eqFin r1 h9
    · rw [e1, if_neg (by simp)] at r1; exact eqFin r1 h6
  · rw [e0, if_neg (by simp)] at r1; exact eqFin r1 h3
theorem eq36 : EqOk Tryz.prog 36 [0, 0] := by
  refine ⟨Tryz.eqGuardType36, fun w μ l m xs ys k hl hm h0 => ?_⟩
  have hrun : (Op.equal 36 (.agg xs) (.agg ys)).run Tryz.prog w = (Op.eqFields 9999 xs ys fd36).run Tryz.prog w := by
    rw [← fields36]
    exact run_equalIn_struct w 9999 36 xs ys (by kernel_rfl) Tryz.stoodInHeld36
  rw [hrun]
  exact eqAm (d := 9998) hl hm h0
def fd38 : List Field := [⟨ "Name", 9, 0, false, "", "", 0⟩, ⟨ "Amount", 36, 1, false, "", "", 16⟩]
theorem fields38 : (Tryz.prog.fieldsOf 38).toList = fd38 := by kernel_rfl
theorem str9 : Tryz.prog.underlying 9 = some .string := by kernel_rfl
theorem pk9 : Tryz.prog.plainKey 9 = true := by kernel_rfl
theorem VC.ext {l : List AV} {xs : Array Value} (h : VC μ l xs.toList) (o n : Nat) : VC μ ((l.drop o).take n) (xs.extract o (o + n)).toList := by
  have h1 := (h.drop o).take n
  have e1 : (xs.extract o (o + n)).toList = (xs.toList.drop o).take n := by
    rw [Array.toList_extract]
    simp [List.extract]
  rw [e1]; exact h1
theorem run_part36 {xs : Array Value} : (part 36 xs 1).run Tryz.prog w = .ok (.agg (xs.extract 1 3)) w := by
  have h1 : (isAgg 36).run Tryz.prog w = .ok true w := by kernel_rfl
  have h2 : (Go.sizeOf 36).run Tryz.prog w = .ok 2 w := by kernel_rfl
  simp only [part, Sem.run_bind, h1, Result.andThen_ok, if_true, h2, Sem.run_pure]
theorem wEqK_mono {c : Nat} {x y : AV} {k k' : Bool → Bool} (hk : ∀ e, k e = true → k' e = true) (h : wEqK c x y k = true) : wEqK c x y k' = true := by
  match c with
  | 0 =>
    obtain ⟨t, m, rfl, h1⟩ := wI_true (v := x) h
    obtain ⟨u, n, rfl, h2⟩ := wI_true (v := y) h1
    obtain ⟨h3, h4⟩ := brec_true h2
    obtain ⟨h5, h6⟩ := brec_true h4
    show (Bool.rec false (Bool.rec false (k' (ieq m n)) (kq u .i64)) (kq t .i64) : Bool) = true
    rw [h3, h5]; exact hk _ h6
  | 1 =>
    obtain ⟨a, rfl, h1⟩ := wS_true (v := x) h
    obtain ⟨b, rfl, h2⟩ := wS_true (v := y) h1
    exact hk _ h2
  | n + 2 =>
    obtain ⟨a, rfl, h1⟩ := wBo_true (v := x) h
    obtain ⟨b, rfl, h2⟩ := wBo_true (v := y) h1
    exact hk _ h2
theorem feq_take : ∀ {g : List Nat} {l m : List AV} {k : Bool → Bool}, feq g l m k = true → feq g (l.take g.length) (m.take g.length) k = true
  | [], l, m, k, h => by
    obtain ⟨rfl, rfl, h1⟩ := feq_nil h
    exact h
  | c :: g, l, m, k, h => by
    obtain ⟨x, l', y, m', rfl, rfl, h1⟩ := feq_cons h
    show wEqK c x y (fun e => (Bool.rec (k false) (feq g (l'.take g.length) (m'.take g.length) k) e : Bool)) = true
    refine wEqK_mono (fun e he => ?_) h1
    cases e with
    | true => exact feq_take he
    | false => exact he
theorem eq38 : EqOk Tryz.prog 38 [1, 0, 0] := by
  refine ⟨Tryz.eqGuardType38, fun w μ l m xs ys k hl hm h0 => ?_⟩
  have hrun : (Op.equal 38 (.agg xs) (.agg ys)).run Tryz.prog w = (Op.eqFields 9999 xs ys fd38).run Tryz.prog w := by
    rw [← fields38]
    exact run_equalIn_struct w 9999 38 xs ys (by kernel_rfl) Tryz.stoodInHeld38
  rw [hrun]
  obtain ⟨_, l1, _, m1, rfl, rfl, h1⟩ := feq_cons h0
  obtain ⟨a0, b0, rfl, rfl, h2⟩ := (wEqK_true h1).2 rfl
  obtain ⟨s0, e0, hs0⟩ := cellS hl (i := 0) rfl
  obtain ⟨t0, e1, ht0⟩ := cellS hm (i := 0) rfl
  have r1 : (Op.eqFields 9999 xs ys fd38).run Tryz.prog w = _ := eqF_str (w := w) (d := 9998) str9 pk9 (by decide) hs0 ht0
  rw [bytes_eq, ← e0, ← e1] at r1
  rcases brec_ite h2 with ⟨e2, h3⟩ | ⟨e2, h3⟩
  · rw [e2, if_pos rfl] at r1
    rw [r1]
    have hl' := VC.ext hl 1 2
    have hm' := VC.ext hm 1 2
    have hl1 : VC μ (l1.take 2) (xs.extract 1 3).toList := by simpa using hl'
    have hm1 : VC μ (m1.take 2) (ys.extract 1 3).toList := by simpa using hm'
    have h4 : feq [0, 0] (l1.take 2) (m1.take 2) k = true := feq_take h3
    obtain ⟨e, hk, r2⟩ := eqAm (w := w) (d := 9997) hl1 hm1 h4
    have r3 : (Op.equalIn 9999 36 (.agg (xs.extract 1 3)) (.agg (ys.extract 1 3))).run Tryz.prog w = .ok e w := by
      rw [show (9999 : Nat) = 9998 + 1 from rfl, run_equalIn_struct w 9998 36 _ _ (by kernel_rfl) Tryz.stoodInHeld36, fields36]
      exact r2
    refine ⟨e, hk, ?_⟩
    show (Op.eqFields 9999 xs ys [⟨ "Amount", 36, 1, false, "", "", 16⟩]).run Tryz.prog w = _
    have hn : ("Amount" : String) ≠ "_" := by decide
    simp only [Op.eqFields, ne_eq, hn, not_false_eq_true, if_true, Sem.run_bind, run_part36, Result.andThen_ok, r3]
    cases e <;> simp
  · rw [e2, if_neg (by simp)] at r1; exact eqFin r1 h3
theorem eqs_ok : ∀ p ∈ eqsT, EqOk Tryz.prog p.1 p.2 := fun p hp => by
  simp only [eqsT, List.mem_cons, List.not_mem_nil, or_false] at hp
  rcases hp with rfl | rfl | rfl
  · exact eq34
  · exact eq36
  · exact eq38
end X
/- The methods of the heap's elements, as the program has them. -/
namespace X
open Go Go.RowKit Go.Proofs
set_option linter.unusedVariables false
set_option linter.unusedSimpArgs false
set_option linter.unusedSectionVars false
variable [Luck]
set_option maxRecDepth 100000
theorem und88 : Tryz.prog.underlying 88 = some (.pointer 93) := by kernel_rfl
noncomputable def mrow (n : String) : Option (Nat × Option (FuncId × Bool)) := ((Tryz.prog.info? 88).bind fun i => i.methods.find? (·.name == n)).map fun m => (m.path.size, m.func)
theorem mrow_inv {n : String} {f : Nat} {b : Bool} (h : mrow n = some (0, some (f, b))) : ∃ i m, Tryz.prog.info? 88 = some i ∧ i.methods.find? (·.name == n) = some m ∧ m.path = #[] ∧ m.func = some (f, b) := by
  unfold mrow at h
  cases hi : Tryz.prog.info? 88 with
  | none => rw [hi] at h; simp at h
  | some i =>
    rw [hi] at h
    simp only [Option.bind_some, Option.map_eq_some_iff, Prod.mk.injEq] at h
    obtain ⟨m, h1, h2, h3⟩ := h
    exact ⟨i, m, rfl, h1, Array.eq_empty_of_size_eq_zero h2, h3⟩
theorem depth_pos : ∃ d, Tryz.prog.types.size + Made.depth = d + 1 := ⟨Tryz.prog.types.size + Made.depth - 1, by
  have : 0 < Made.depth := by decide
  omega⟩
theorem run_methP {n : String} {f : Nat} (h : mrow n = some (0, some (f, true))) (w : World) (v : Value) (ys : Array Value) : (callMethod (.iface 88 v) n ys).run Tryz.prog w = (callFunc f (#[v] ++ ys)).run Tryz.prog w := by
  obtain ⟨i, m, h1, h2, h3, h4⟩ := mrow_inv h
  obtain ⟨d, hd⟩ := depth_pos
  unfold callMethod
  simp only [Sem.run_bind, program, Sem.run, Result.andThen_ok, hd]
  unfold method
  simp [typeInfo, h1, h2, h3, h4, follow, receiverAt, run_underlying und88, Place.get]
theorem run_wrap (w : World) (A : Addr) (s t : String) : (Builtin.ssaWrapNilChk_ #[88] 88 #[.pointer (some A), strVal s, strVal t]).run Tryz.prog w = .ok (.pointer (some A)) w := rfl
theorem run_methV {n : String} {f : Nat} (h : mrow n = some (0, some (f, false))) (w : World) (A : Addr) (ys : Array Value) : (callMethod (.iface 88 (.pointer (some A))) n ys).run Tryz.prog w = (do let x ← loadVar 93 A; callFunc f (#[x] ++ ys) : Sem Next).run Tryz.prog w := by
  obtain ⟨i, m, h1, h2, h3, h4⟩ := mrow_inv h
  obtain ⟨d, hd⟩ := depth_pos
  unfold callMethod
  simp only [Sem.run_bind, program, Sem.run, Result.andThen_ok, hd]
  unfold method
  simp [typeInfo, h1, h2, h3, h4, follow, receiverAt, run_underlying und88, Place.get, run_wrap, asAddr]
  generalize (loadVar 93 A).run Tryz.prog w = r
  cases r <;> simp
theorem meth_ok : MethOk Tryz.prog := by
  intro n f b h w v ys
  unfold methT at h
  split at h <;> cases h
  · exact ⟨fun h => (by cases h), fun _ A hA => by subst hA; exact run_methV (by kernel_rfl) w A ys⟩
  · exact ⟨fun h => (by cases h), fun _ A hA => by subst hA; exact run_methV (by kernel_rfl) w A ys⟩
  · exact ⟨fun h => (by cases h), fun _ A hA => by subst hA; exact run_methV (by kernel_rfl) w A ys⟩
  · exact ⟨fun _ => run_methP (by kernel_rfl) w v ys, fun h => (by cases h)⟩
  · exact ⟨fun _ => run_methP (by kernel_rfl) w v ys, fun h => (by cases h)⟩
theorem snd_cmp {call : Nat → Fn} {inv : Env → Operand → String → List Operand → St → K → Bool} {c : Clo} {f : Nat} {fn : Func} {body : Code} {x : An} (hi : InvK Tryz.prog inv) (hk : Kn Tryz.prog call c) (hfn : Tryz.prog.funcs[f]? = some fn) (hb : fn.body = some body) (hnm : (fn.name == "runtime.NumGoroutine") = false) : Snd Tryz.prog f (cmpF Tryz.prog call inv eqsT c fn body x) :=
  snd_cmp0 eqs_ok mix hi hk hfn hb hnm
def Sn (f : Nat) (F : Fn) : Prop := Snd Tryz.prog f F
abbrev Ok (c : Clo) : Prop := ∀ f, Snd Tryz.prog f (c f)
theorem inv_known {call : Nat → Fn} (hc : ∀ f, Snd Tryz.prog f (call f)) : InvK Tryz.prog (invF call) := inv_sound meth_ok agg93 hc
end X
