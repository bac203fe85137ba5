/- rollback.Options: its loop is a range over a function, of a list that is empty. -/
import Derived.Test.YtapflcgnihdmoaaGreatDoorA9
import Derived.Test.YtapflcgnihdmoaaGreatDoorB1
import Derived.Test.YtapflcgnihdmoaaGreatDoorA6
import Derived.Test.YtapflcgnihdmoaaGreatDoorB3
import Derived.RangeFuncRecord
import Derived.RangeFuncLeaves
import Derived.KernelRfl
namespace X
open Go Go.Proofs Go.RowKit
set_option linter.unusedVariables false
set_option linter.unusedSimpArgs false
set_option linter.unusedSectionVars false
set_option maxRecDepth 100000
/-! a memory that is not written any more -/
def frzO : Ob → H
  | .cells z l => .ob (.glob z l)
  | .glob z l => .ob (.glob z l)
  | _ => .e
noncomputable def frzH (h : H) : H := H.rec .e (fun o => frzO o) (fun _ _ _ _ _ _ _ _ a b c d x f g i => .nd a b c d x f g i) h
noncomputable def frz (s : St) : St := St.rec (fun h n => .mk (frzH h) n) s
theorem ch_frz (d : D) (h : H) : ch d (frzH h) = frzH (ch d h) := by
  cases h with
  | e => rfl
  | ob o => cases o <;> rfl
  | nd => cases d <;> rfl
theorem hget_frz (b : Id) (h : H) : hget b (frzH h) = frzH (hget b h) := by
  cases b with
  | mk a b c d e f =>
    show ch f (ch e (ch d (ch c (ch b (ch a (frzH h)))))) = frzH (ch f (ch e (ch d (ch c (ch b (ch a h))))))
    rw [ch_frz, ch_frz, ch_frz, ch_frz, ch_frz, ch_frz]
theorem frz_ob {h : H} {o : Ob} (e : frzH h = .ob o) : ∃ z l, o = .glob z l ∧ (h = .ob (.cells z l) ∨ h = .ob (.glob z l)) := by
  cases h with
  | e => cases e
  | nd => cases e
  | ob q =>
    cases q with
    | cells z l => cases e; exact ⟨z, l, rfl, .inl rfl⟩
    | glob z l => cases e; exact ⟨z, l, rfl, .inr rfl⟩
    | map => cases e
    | iter => cases e
section
variable [Luck]
variable {w0 w : World} {s : St} {μ : Mu}
theorem frz_hp (s : St) : hp (frz s) = frzH (hp s) := by cases s; rfl
theorem frz_nx (s : St) : nx (frz s) = nx s := by cases s; rfl
theorem R.frz (h : R w0 s w μ) : R w (frz s) w μ := by
  have hg : ∀ b o, hget b (hp (X.frz s)) = .ob o → ∃ z l, o = .glob z l ∧ (hget b (hp s) = .ob (.cells z l) ∨ hget b (hp s) = .ob (.glob z l)) := fun b o e => by
    rw [frz_hp, hget_frz] at e
    exact frz_ob e
  refine ⟨.refl _ w, fun b hb => h.nxt b (by rwa [frz_nx] at hb), fun b o p ho hp' => ?_, fun b b' o o' p p' ho hg' _ _ _ _ => ?_, h.bd, fun b hb o ho => ?_, fun p hp' => h.tab p hp'⟩
  · obtain ⟨z, l, rfl, h1⟩ := hg b o ho
    exact h.cl h1 hp'
  · obtain ⟨z, l, rfl, _⟩ := hg b o ho
    cases hg'
  · obtain ⟨z, l, _, h1⟩ := hg b o ho
    rw [frz_nx] at hb
    rcases h1 with h1 | h1
    · exact h.fr b hb _ h1
    · exact h.fr b hb _ h1
theorem Deep.mono2 {B : Nat} {w w' : World} {t : Tr} {x : Value} (h : Deep B w t x) {B' : Nat} (hB : B' ≤ B) (hw : ∀ g, B ≤ g → g < w.heap.size → w'.heap[g]? = w.heap[g]?) : Deep B' w' t x := by
  induction h with
  | b x => exact .b x
  | i n => exact .i n
  | s s => exact .s s
  | n => exact .n
  | e z cap g sh ad cs el h1 h2 h3 h4 => exact .e z cap g sh ad cs el (by rw [hw g h2 (Array.getElem?_eq_some_iff.1 h1).1, h1]) (by omega) h3 h4
  | r z n cap g sh l ad cs el x h1 h2 h3 h4 h5 h6 h7 h8 ih => exact .r z n cap g sh l ad cs el x (by rw [hw g h2 (Array.getElem?_eq_some_iff.1 h1).1, h1]) (by omega) h3 h4 h5 h6 h7 ih
  | a l xs h1 h2 h3 ih => exact .a l xs h1 ih h3
  | t l xs h1 h2 ih => exact .t l xs h1 ih
  | y => exact .y
end
/-! the function, in pieces -/
def sqL : Code → Code
  | .seq a _ => a
  | _ => .skip
def sqR : Code → Code
  | .seq _ b => b
  | _ => .skip
def scB : Code → Code
  | .scope b => b
  | _ => .skip
def blB : Code → Code
  | .block _ b => b
  | _ => .skip
def rfA : Code → Code
  | .rangeFunc _ _ a _ => a
  | _ => .skip
def rfB : Code → Code
  | .rangeFunc _ _ _ b => b
  | _ => .skip
def anL : An → An
  | .s a _ => a
  | _ => .n
def anR : An → An
  | .s _ b => b
  | _ => .n
noncomputable def c37 : Code := Tryz.f37.body.getD .skip
noncomputable def r0 : Code := sqL c37
noncomputable def k1 : Code := scB (sqR c37)
noncomputable def r1 : Code := sqL k1
noncomputable def k2 : Code := sqR k1
noncomputable def r2 : Code := sqL k2
noncomputable def k3 : Code := sqR k2
noncomputable def r5 : Code := sqL k3
noncomputable def k4 : Code := sqR k3
noncomputable def r6 : Code := sqL (sqL k4)
noncomputable def rF : Code := blB (sqR (sqL k4))
noncomputable def rZ : Code := sqR k4
noncomputable def rA : Code := rfA rF
noncomputable def rB : Code := rfB rF
theorem body37 : Tryz.f37.body = some (.seq r0 (.scope (.seq r1 (.seq r2 (.seq r5 (.seq (.seq r6 (.block 0 (.rangeFunc (.tmp 45) #[46, 47] rA rB))) rZ)))))) := by kernel_rfl
def an37 : An := (.s (.r []) (.s (.s (.r [[19], [24], [30]]) (.c none (.s (.r []) .n) .n)) (.s (.s (.r [[38]]) (.c none (.s (.r []) .n) .n)) (.s (.r []) (.s (.s (.r []) (.b none .n)) (.s (.r []) (.s .n (.s (.s (.r []) (.b (some [6]) (.l [6, 56] (.s (.r []) (.s (.c none .n .n) (.s (.b none (.s (.r []) (.s (.r []) (.b none (.l [6, 62] (.s (.r []) (.s (.c none .n .n) (.s (.b none (.s (.r []) (.s (.r []) (.s (.s (.r []) (.c none (.s (.r []) .n) .n)) (.r []))))) (.r []))))))))) (.r []))))))) (.s (.r []) .n)))))))))
def a0 : An := anL an37
def b1 : An := anR an37
def a1 : An := anL b1
def b2 : An := anR b1
def a2 : An := anL b2
def b3 : An := anR b2
def a5 : An := anL b3
def b4 : An := anR b3
def a6 : An := anL (anL b4)
def aZ : An := anR b4
def nor (o : Out) (k : Bool) : Bool := match o with
  | .nor => k
  | _ => false
noncomputable def it120 (c : Clo) (p : AV) (s : St) : Bool := cmpC Tryz.prog (fun _ => nof) noInv eqsT c 19 (Tryz.f120.body.getD .skip) an120 (put [] (some 1) p) s fun o _ _ => match o with
  | .ex _ => false
  | _ => true
noncomputable def it37 (c : Clo) (e : Env) (s : St) (k : Bool) : Bool := match lk e 45 with
  | some (.fn 120 [] [p]) => Bool.rec false k (it120 c p (frz s))
  | _ => false
noncomputable def run37 (call : Nat → Fn) (c : Clo) : Fn := fun vs s k => args 1 0 [] vs fun e =>
  cmpC Tryz.prog call noInv eqsT c 80 r0 a0 e s fun o e s => nor o (cmpC Tryz.prog call noInv eqsT c 80 r1 a1 e s fun o e s => nor o (cmpC Tryz.prog call noInv eqsT c 80 r2 a2 e s fun o e s => nor o
  (cmpC Tryz.prog call noInv eqsT c 80 r5 a5 e s fun o e s => nor o (cmpC Tryz.prog call noInv eqsT c 80 r6 a6 e s fun o e s => nor o (it37 c e s (cmpC Tryz.prog call noInv eqsT c 80 rZ aZ e (frz s) fun o e s => match o with
    | .ex _ => false
    | _ => resX Tryz.prog Tryz.f37.results.toList e s fun vs => k (tupOf vs) s))))))
section
variable [Luck]
theorem nor_true {o : Out} {k : Bool} (h : nor o k = true) : o = .nor ∧ k = true := by
  cases o with
  | nor => exact ⟨rfl, h⟩
  | _ => cases h
theorem hf120 : Tryz.f120.results.toList = [] := by kernel_rfl
/-- the iterator goes through an empty list -/
theorem putO_below {B D : Nat} {w w' : World} {o : Obj} (h : Below B w w') (hD : B ≤ D) : Below B w (w'.putObj D o) := ⟨h.os, h.tape, h.output, by rw [World.putObj_size]; exact h.size, fun k hk => by rw [World.putObj_heap_other (by omega)]; exact h.block k hk⟩
theorem R.shut {w0 w : World} {s : St} {μ : Mu} {D : Nat} {o o' : Obj} (h : R w0 s w μ) (hD : w.heap[D]? = some o) (ho : ∀ c e f, o ≠ .cells c e f) (ho2 : ∀ c e, o ≠ .map c e) (ho3 : ∀ a b c d, o ≠ .mapIter a b c d) (ht : ∀ p ∈ Luck.tab, p.1 ≠ D) : R (w0.putObj D o') s (w.putObj D o') μ := by
  have hsame : ∀ k, k ≠ D → (w.putObj D o').heap[k]? = w.heap[k]? := fun k hk => World.putObj_heap_other hk
  have hlt : D < w.heap.size := (Array.getElem?_eq_some_iff.1 hD).1
  refine ⟨⟨h.ext.os, h.ext.tape, h.ext.output, by rw [World.putObj_size, World.putObj_size]; exact h.ext.size, fun k hk => ?_⟩, h.nxt, fun b ob p hb hp' => ?_, h.inj, fun b p hp' => by rw [World.putObj_size]; exact h.bd b p hp', h.fr, fun p hp' => ?_⟩
  · rw [World.putObj_size] at hk
    by_cases e : k = D
    · subst e
      rw [World.putObj_heap_same hlt, World.putObj_heap_same hk]
    · rw [World.putObj_heap_other e, World.putObj_heap_other e]; exact h.ext.block k hk
  · have h1 := h.ob b ob p hb hp'
    have hne : p.g ≠ D := fun e => by
      cases ob with
      | cells z l =>
        obtain ⟨⟨_, _, _, cs, el, h4, _⟩, _⟩ := h1
        rw [e, hD] at h4
        exact ho _ _ _ (Option.some.inj h4)
      | glob z l =>
        obtain ⟨_, _, _, cs, el, h4, _⟩ := h1
        rw [e, hD] at h4
        exact ho _ _ _ (Option.some.inj h4)
      | map es =>
        obtain ⟨_, ms, h4, _⟩ := h1
        rw [e, hD] at h4
        exact ho2 _ _ (Option.some.inj h4)
      | iter m n seen =>
        obtain ⟨_, _, _, pm, arr, _, h4, _⟩ := h1
        rw [e, hD] at h4
        exact ho3 _ _ _ _ (Option.some.inj h4)
    have h2 := h1.mono MLe.rfl' (hsame p.g hne)
    cases ob with
    | cells z l => exact ⟨h2.1, by rw [World.putObj_size]; exact h2.2⟩
    | glob z l => exact h2
    | map es => exact ⟨by rw [World.putObj_size]; exact h2.1, h2.2⟩
    | iter m n seen => exact ⟨by rw [World.putObj_size]; exact h2.1, h2.2⟩
  · rw [World.putObj_heap_other (ht p hp')]; exact h.tb p hp'
theorem it_calls {c : Clo} (hc : Ok c) {w0 w : World} {s : St} {μ : Mu} (hr : R w0 s w μ) (g0 : ∃ p, μ (gl 0) = some p ∧ p.g = 0 ∧ p.sh = 0) (g2 : ∃ p, μ (gl 2) = some p ∧ p.g = 2 ∧ p.sh = 0) {p : AV} {x y : Value} (hp : VRel μ p x) (h : it120 c p s = true) :
    Calls Tryz.prog 120 #[y, x] w fun e w' => (∃ v, e = .returned v) ∧ Below w0.heap.size w0 w' := by
  obtain ⟨B, hB⟩ : ∃ B, Tryz.f120.body = some B := ⟨_, rfl⟩
  have hB' : Tryz.f120.body.getD .skip = B := by rw [hB]; rfl
  unfold it120 at h
  rw [hB'] at h
  let act : Act := { tmps := #[y, x] ++ Array.replicate (Tryz.f120.ntmps - 2) undef, defers := [] }
  have hn : Tryz.f120.ntmps = 19 := by kernel_rfl
  have hsz : act.tmps.size = 19 := by simp [act, hn]
  have hf : Fm μ (put [] (some 1) p) act := ⟨fun t v ht => by
    have ht' : lk [(1, some p)] t = some v := ht
    have e : (Bool.rec none (some p) (Nat.beq 1 t) : Option AV) = some v := ht'
    cases e1 : Nat.beq 1 t with
    | false => rw [e1] at e; cases e
    | true =>
      rw [e1] at e
      obtain rfl := Option.some.inj e
      obtain rfl := neq_true e1
      exact ⟨x, by simp [act], hp⟩, g0, g2⟩
  have hK : Known Tryz.prog (fun _ => nof) noInv eqsT c := ⟨fun f => snd_nof f, (no_known (P := Tryz.prog)).1, eqs_ok, hc⟩
  have hwp := cmpC_sound hK (no_known (P := Tryz.prog)).2 mix h hr hf hsz
  refine calls_of_wp Tryz.func120 hB (wp_mono hwp fun z a' w' hq => ?_)
  obtain ⟨o, e', s', μ', rfl, hk, hnx⟩ := hq
  have fin : a'.defers = [] ∧ ∃ v, (results Tryz.f120 a'.tmps).run Tryz.prog w' = .ok v w' ∧ (∃ u, Ending.returned v = .returned u) ∧ Below w0.heap.size w0 w' := by
    refine ⟨hnx.defers, _, results_run (xs := []) ?_, ⟨_, rfl⟩, hnx.r.ext⟩
    rw [hf120]; rfl
  cases o with
  | nor => exact fin
  | ret => exact fin
  | ex i => cases hk
theorem ent37 {call : Nat → Fn} {c : Clo} (hk : Kn Tryz.prog call c) (hS : Start S0) {ts : List Tr} {t : Tr} (h : layL ts S0 (fun vs s => run37 call c vs s fun v s' => mt true t v s' true false) = true) : Ent Tryz.prog 37 ts t := fun w xs hT hd => by
  obtain ⟨μ0, hr0, ⟨p0, g0, g0'⟩, ⟨p2, g2, g2'⟩⟩ := hS.r w hT
  obtain ⟨vs, s, μ, h1, _, h3, hv, hr, _⟩ := layL_sound (B := 0) hr0 (fun b o q hb hg _ => by rw [hS.lo b o hb] at hg; cases hg) hd h
  have hle := hr0.mle h3
  have G0 : ∃ p, μ (gl 0) = some p ∧ p.g = 0 ∧ p.sh = 0 := ⟨p0, hle _ _ g0, g0'⟩
  have G2 : ∃ p, μ (gl 2) = some p ∧ p.g = 2 ∧ p.sh = 0 := ⟨p2, hle _ _ g2, g2'⟩
  unfold run37 at h1
  obtain ⟨hlen, e, h2, he⟩ := args_true h1
  have hxs : xs.size = 1 := by have := hv.1; simp at this; omega
  have hn : Tryz.f37.ntmps = 80 := by kernel_rfl
  let act : Act := { tmps := xs ++ Array.replicate (Tryz.f37.ntmps - xs.size) undef, defers := [] }
  have hsz : act.tmps.size = 80 := by simp [act, hn]; omega
  have hfr : ∀ t v, lk e t = some v → ∃ x, act.tmps[t]? = some x ∧ VRel μ v x := fun t v ht => by
    rcases he t v ht with ⟨_, h2⟩ | h2
    · rw [Nat.sub_zero] at h2
      obtain ⟨y, hy, hyr⟩ := hv.get h2
      have hlt := (List.getElem?_eq_some_iff.1 hy).1
      refine ⟨y, ?_, hyr⟩
      have hlt' : t < xs.size := by simpa using hlt
      simp only [act, Array.getElem?_append, hlt', if_true]
      simpa using hy
    · cases h2
  have hf : Fm μ e act := ⟨hfr, G0, G2⟩
  have hK : Known Tryz.prog call noInv eqsT c := ⟨hk.call, (no_known (P := Tryz.prog)).1, eqs_ok, hk.clo⟩
  have snd := fun {b : Code} {x : An} {e : Env} {s : St} {μ : Mu} {a : Act} {w0 w : World} {k : Out → Env → St → Bool} (h : cmpC Tryz.prog call noInv eqsT c 80 b x e s k = true) (hr : R w0 s w μ) (hf : Fm μ e a) (hs : a.tmps.size = 80) => cmpC_sound hK (no_known (P := Tryz.prog)).2 mix h hr hf hs
  have hrun : (callFunc 37 xs).run Tryz.prog w = .ok (.enter 37 xs) w := by
    have hn : ¬ Tryz.f37.name = "runtime.NumGoroutine" := by
      have : (Tryz.f37.name == "runtime.NumGoroutine") = false := by kernel_rfl
      simpa using this
    unfold callFunc
    simp [program, Sem.run, Tryz.func37, hn, body37]
  rw [hrun]
  show Calls _ _ _ _ _
  refine callsIn_wide.1 (callsIn_of_wp_marks (n := 1) Tryz.func37 body37 trivial ?_ rfl)
  rw [wpIn_wide]
  refine wp_seq (wp_mono (snd h2 hr hf hsz) fun z a1 w1 hq => ?_)
  obtain ⟨o, e1, s1, μ1, rfl, hk1, hx1⟩ := hq
  obtain ⟨rfl, h4⟩ := nor_true hk1
  show Code.wp _ _ _ _ _
  refine wp_scope_straight (wp_seq (wp_mono (snd h4 hx1.r hx1.f (hx1.size.trans hsz)) fun z a2 w2 hq => ?_))
  obtain ⟨o, e2, s2, μ2, rfl, hk2, hx2⟩ := hq
  obtain ⟨rfl, h5⟩ := nor_true hk2
  have hx2 := hx1.tr hx2
  show Code.wp _ _ _ _ _
  refine wp_seq (wp_mono (snd h5 hx2.r hx2.f (hx2.size.trans hsz)) fun z a3 w3 hq => ?_)
  obtain ⟨o, e3, s3, μ3, rfl, hk3, hx3⟩ := hq
  obtain ⟨rfl, h6⟩ := nor_true hk3
  have hx3 := hx2.tr hx3
  show Code.wp _ _ _ _ _
  refine wp_seq (wp_mono (snd h6 hx3.r hx3.f (hx3.size.trans hsz)) fun z a4 w4 hq => ?_)
  obtain ⟨o, e4, s4, μ4, rfl, hk4, hx4⟩ := hq
  obtain ⟨rfl, h7⟩ := nor_true hk4
  have hx4 := hx3.tr hx4
  show Code.wp _ _ _ _ _
  refine wp_seq (wp_seq (wp_mono (snd h7 hx4.r hx4.f (hx4.size.trans hsz)) fun z a5 w5 hq => ?_))
  obtain ⟨o, e5, s5, μ5, rfl, hk5, hx5⟩ := hq
  obtain ⟨rfl, h8⟩ := nor_true hk5
  have hx5 := hx4.tr hx5
  show Code.wp _ _ _ _ _
  have hsz5 : a5.tmps.size = 80 := hx5.size.trans hsz
  have hd5 : a5.defers = [] := hx5.defers
  have hx5r := hx5.r
  have hx5f := hx5.f
  clear hx1 hx2 hx3 hx4 hk1 hk2 hk3 hk4 hk5 h4 h5 h6 h7
  unfold it37 at h8
  split at h8
  rotate_left
  · cases h8
  rename_i p hlk
  obtain ⟨hit, h9⟩ := brec_true h8
  obtain ⟨x45, hx45, hv45⟩ := hx5f.fr 45 _ hlk
  obtain ⟨fa, fc, rfl, hfa, hfc⟩ := fn_inv hv45
  have hfa0 : fa = #[] := by have := hfa.inv_nil; apply Array.ext'; rw [this]
  obtain ⟨pv, fcs, hfc1, hpv, hfc2⟩ := hfc.inv
  have hfc0 : fc = #[pv] := by have := hfc2.inv_nil; subst this; apply Array.ext'; rw [hfc1]
  subst hfa0; subst hfc0
  have hev : a5.eval (.tmp 45) = .func (.func 120) #[] #[pv] := by
    simp [Act.eval, hx45]
  refine wp_block ?_
  rw [← wpIn_wide (n := 1)]
  refine wpIn_rangeFunc ?_
  intro fn _
  obtain ⟨W1, hW1⟩ : ∃ W1, (w5.alloc (.deferred (some []))).alloc (.loop { state := .ready, pending := none, fn := fn, tmps := a5.tmps, params := #[46, 47], assign := rA, body := rB, defers := w5.heap.size }) = W1 := ⟨_, rfl⟩
  have hb1 : Below w5.heap.size w5 W1 := by rw [← hW1]; exact ((Below.refl _ w5).alloc (Nat.le_refl _) _).alloc (by simp) _
  have hs1 : W1.heap.size = w5.heap.size + 2 := by rw [← hW1]; simp
  have hL1 : W1.heap[w5.heap.size + 1]? = some (.loop { state := .ready, pending := none, fn := fn, tmps := a5.tmps, params := #[46, 47], assign := rA, body := rB, defers := w5.heap.size }) := by
    rw [← hW1]
    have := World.alloc_heap_new (w5.alloc (.deferred (some []))) (.loop { state := .ready, pending := none, fn := fn, tmps := a5.tmps, params := #[46, 47], assign := rA, body := rB, defers := w5.heap.size })
    rwa [World.size_alloc] at this
  have hK1 : W1.heap[w5.heap.size]? = some (.deferred (some [])) := by
    rw [← hW1]; exact (Below.heap_alloc _ _ _ (by simp)).trans (World.alloc_heap_new w5 _)
  refine ⟨w5.heap.size + 1, [{ target := .collected w5.heap.size, args := #[] }], W1, { target := .fn (.func 120) #[pv], args := #[.func (.yield (w5.heap.size + 1)) #[] #[]] }, W1, 120,
    #[.func (.yield (w5.heap.size + 1)) #[] #[], pv], W1, ?_, ?_, fun _ _ => trivial, ?_, fun _ => Nat.le_refl _, ?_⟩
  · rw [← hW1]; exact run_enterLoop_outer _ _ _ _ _
  · simp [resolve, go_sem, Act.eval, hx45]
  · simp [invoke, go_sem]
  have hrW : R W1 (frz s5) W1 μ5 := (hx5r.below hb1).frz
  refine callsIn_wide.2 ((it_calls hk.clo hrW hx5f.g0 hx5f.g2 hpv hit).mono ?_)
  rintro ez w6 ⟨⟨v0, rfl⟩, hb6⟩
  have hL6 := (hb6.block (w5.heap.size + 1) (by omega)).trans hL1
  have hK6 := (hb6.block w5.heap.size (by omega)).trans hK1
  refine ⟨none, _, run_endLoop hL6 (by simp), ?_⟩
  obtain ⟨W4, hW4⟩ : ∃ W4, w6.putObj (w5.heap.size + 1) (.loop { state := .exhausted, pending := none, fn := fn, tmps := a5.tmps, params := #[46, 47], assign := rA, body := rB, defers := w5.heap.size }) = W4 := ⟨_, rfl⟩
  show Exit.inBlock 0 _ .normal _ _
  have hb4 : Below w5.heap.size w5 W4 := by rw [← hW4]; exact putO_below (hb1.trans (hb6.mono (by omega))) (by omega)
  have hK4 : W4.heap[w5.heap.size]? = some (.deferred (some [])) := by rw [← hW4, World.putObj_heap_other (by omega)]; exact hK6
  show Code.wp _ _ _ _ _
  rw [hW4]
  have hrZ : R W4 (frz s5) W4 μ5 := (hx5r.below hb4).frz
  have hfZ : Fm μ5 e5 { a5 with defers := [{ target := .collected w5.heap.size, args := #[] }] ++ a5.defers } := ⟨hx5f.fr, hx5f.g0, hx5f.g2⟩
  refine wp_mono (snd h9 hrZ hfZ hsz5) fun z a6 w7 hq => ?_
  obtain ⟨o, e6, s6, μ6, rfl, hk6, hx6⟩ := hq
  have hd6 : a6.defers = [{ target := .collected w5.heap.size, args := #[] }] := by rw [hx6.defers]; show _ ++ a5.defers = _; rw [hd5]; rfl
  have hK7 : w7.heap[w5.heap.size]? = some (.deferred (some [])) := (hx6.r.ext.block _ (Array.getElem?_eq_some_iff.1 hK4).1).trans hK4
  have hwle : w.heap.size ≤ w5.heap.size := hx5r.ext.size
  have fin : (resX Tryz.prog Tryz.f37.results.toList e6 s6 fun vs => mt true t (tupOf vs) s6 true false) = true → LeavesInM Fence.wide 1 Tryz.prog Tryz.f37 a6.tmps (fun e w'' => ∃ v, e = Ending.returned v ∧ Deep w.heap.size w'' t v ∧ Below w.heap.size w w'') a6.defers .returning w7 := fun hres => by
    rw [hd6]
    refine ⟨by simp, .inl ⟨_, _, rfl, run_takeDeferred hK7, ?_⟩⟩
    have hR := hx6.r.shut (o' := .deferred none) hK7 (fun _ _ _ h => by cases h) (fun _ _ h => by cases h) (fun _ _ _ _ h => by cases h) (fun q hq e => by
      have h1 := hT q hq
      have h2 := (Array.getElem?_eq_some_iff.1 h1).1
      omega)
    obtain ⟨vs', ys, g1, g3, g4⟩ := resX_true (P := Tryz.prog) hR hx6.f hres
    refine ⟨_, results_run g4, _, rfl, ?_⟩
    rcases mt_sound (own := true) hR t _ _ true false (tup_rel g3) g1 with ⟨d1, _⟩ | d1
    · refine ⟨d1.mono ?_ (fun _ _ => rfl), ?_⟩
      · show _ ≤ (World.putObj _ _ _).heap.size
        rw [World.putObj_size]; exact Nat.le_trans hwle hb4.size
      · exact putO_below ((hx5r.ext.trans (hb4.mono hwle)).trans (hx6.r.ext.mono (Nat.le_trans hwle hb4.size))) hwle
    · cases d1
  cases o with
  | nor => exact fin hk6
  | ret => exact fin hk6
  | ex i => cases hk6
end
end X
