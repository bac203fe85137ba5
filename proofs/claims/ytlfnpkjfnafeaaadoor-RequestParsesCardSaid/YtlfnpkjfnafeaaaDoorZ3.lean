/-  -/
import Derived.Test.YtlfnpkjfnafeaaaDoorZ1
/- Plain: the grammar of requests: which request, or which error at which offset, a list of tokens means. No program in sight. -/
namespace CL
/-- where the parser is: how many nodes have begun, the different atoms so far, the tokens that are left -/
structure PS where
  n : Nat
  l : List At
  r : List Tk
/-- an error is an offset and a code -/
abbrev PR (α : Type) := Except (Int × Int) (α × PS)
def hdT (r : List Tk) : Tk := r.headD ⟨5, [], 0, 0⟩
def PS.hd (s : PS) : Tk := hdT s.r
def PS.next (s : PS) : PS := ⟨s.n, s.l, s.r.tail⟩
def sees (k : Int) (t : List UInt8) (s : PS) : Bool := decide (s.hd.kind = k ∧ s.hd.text = t)
def expectP (k : Int) (t : List UInt8) (s : PS) : PR Unit := if sees k t s = true then .ok ((), s.next) else .error (s.hd.pos, 8)
def wAll : List UInt8 := [97, 108, 108]
def wAny : List UInt8 := [97, 110, 121]
def wOf : List UInt8 := [111, 102]
def wPrio : List UInt8 := [112, 114, 105, 111]
def wLimit : List UInt8 := [108, 105, 109, 105, 116]
def beginsT (t : Tk) : Bool := decide (t.kind = 3 ∨ (t.kind = 1 ∧ (t.text = wAll ∨ t.text = wAny ∨ rsv t.text = false)))
/-- an atom joins the different ones -/
def addA (nm : Tk) (a : At) (s : PS) : PR Ex := if (note s.l a).1 = 0 then .ok (.mk 0 a [], ⟨s.n, (note s.l a).2, s.r⟩) else .error (nm.pos, (note s.l a).1)
/-- what follows the name of an atom -/
def atomP (nm : Tk) (s : PS) : PR Ex :=
  if sees 4 [58] s = true then (if s.next.hd.kind = 2 then addA nm ⟨nm.text, ⟨s.next.hd.num, 0⟩⟩ s.next.next else .error (s.next.hd.pos, 8))
  else if sees 4 [42] s = true then
    (if s.next.hd.kind = 3 then (if s.next.hd.num < 1 ∨ 8 < s.next.hd.num then .error (s.next.hd.pos, 12) else addA nm ⟨nm.text, ⟨0, s.next.hd.num⟩⟩ s.next.next) else .error (s.next.hd.pos, 8))
  else .error (s.hd.pos, 8)
/-- one after the other -/
def bindP {α γ : Type} (x : PR α) (f : α → PS → Except (Int × Int) γ) : Except (Int × Int) γ :=
  match x with
  | .error e => .error e
  | .ok v => f v.1 v.2
/-- the kids behind the first one -/
def moreP (p : PS → PR Ex) : Nat → List Ex → PS → PR (List Ex)
  | 0, acc, s => .ok (acc, s)
  | m + 1, acc, s => if sees 4 [44] s = true then bindP (p s.next) (fun x s' => moreP p m (acc ++ [x]) s') else .ok (acc, s)
/-- a list in brackets -/
def listP (p : PS → PR Ex) (s : PS) : PR (List Ex) :=
  bindP (expectP 4 [40] s) fun _ s1 => bindP (p s1) fun x s2 => bindP (moreP p 25 [x] s2) fun l s3 => bindP (expectP 4 [41] s3) fun _ s4 => .ok (l, s4)
/-- an expression; d levels may still begin -/
def exprP : Nat → PS → PR Ex
  | 0, s => if beginsT s.hd = true then .error (s.hd.pos, 4) else .error (s.hd.pos, 8)
  | d + 1, s =>
    if beginsT s.hd = false then .error (s.hd.pos, 8)
    else if 24 < s.n + 1 then .error (s.hd.pos, 4)
    else if s.hd.kind = 3 then
      bindP (expectP 1 wOf ⟨s.n + 1, s.l, s.r.tail⟩) fun _ s1 => bindP (listP (exprP d) s1) fun l s2 => if s.hd.num < 1 ∨ (l.length : Int) < s.hd.num then .error (s.hd.pos, 1) else .ok (.mk s.hd.num noAt l, s2)
    else if s.hd.text = wAll then bindP (listP (exprP d) ⟨s.n + 1, s.l, s.r.tail⟩) fun l s2 => .ok (.mk l.length noAt l, s2)
    else if s.hd.text = wAny then bindP (listP (exprP d) ⟨s.n + 1, s.l, s.r.tail⟩) fun l s2 => .ok (.mk 1 noAt l, s2)
    else atomP s.hd ⟨s.n + 1, s.l, s.r.tail⟩
/-- a word and a number -/
def optP (w : List UInt8) (most : Int) (s : PS) : PR Int :=
  if sees 1 w s = true then (if s.next.hd.kind = 3 then (if most < s.next.hd.num then .error (s.next.hd.pos, 1) else .ok (s.next.hd.num, s.next.next)) else .error (s.next.hd.pos, 8))
  else .ok (0, s)
structure Rq where
  e : Ex
  p : Int
  m : Int
def noRq : Rq := ⟨.mk 0 noAt [], 0, 0⟩
def parseT (ts : List Tk) : Except (Int × Int) Rq :=
  bindP (exprP 4 ⟨0, [], ts⟩) fun x s1 => bindP (optP wPrio 7 s1) fun p s2 => bindP (optP wLimit 1000 s2) fun m s3 => if s3.hd.kind = 5 then .ok ⟨x, p, m⟩ else .error (s3.hd.pos, 8)
/-- what Parse returns: the request, the offset, the error -/
def parseS (s : List UInt8) : Rq × Int × Int :=
  if (tokens s).2.2 ≠ 0 then (noRq, (tokens s).2.1, (tokens s).2.2)
  else match parseT (tokens s).1 with
    | .error e => (noRq, e.1, e.2)
    | .ok q => (q, 0, 0)
end CL
/- Plain: what is parsed is valid. No program in sight. -/
namespace CL
set_option linter.unusedSimpArgs false
/-- what the lexer promises of a token -/
def TkOk (t : Tk) : Prop := (t.kind = 1 → ∃ c r, t.text = c :: r ∧ r.length ≤ 11 ∧ at8 ltr c = true ∧ r.all (at8 prt) = true) ∧ (t.kind = 2 → 1 ≤ t.num ∧ t.num ≤ 5) ∧ (t.kind = 3 → 0 ≤ t.num ∧ t.num ≤ 9999)
def Tks (s : PS) : Prop := ∀ t ∈ s.r, TkOk t
theorem TkOk.dflt : TkOk ⟨5, [], 0, 0⟩ := ⟨fun h => by simp at h, fun h => by simp at h, fun h => by simp at h⟩
theorem Tks.hd {s : PS} (h : Tks s) : TkOk s.hd := by
  unfold PS.hd hdT
  cases hr : s.r with
  | nil => exact TkOk.dflt
  | cons t r => exact h t (by rw [hr]; simp)
theorem Tks.suf {s s' : PS} (h : Tks s) (k : s'.r <:+ s.r) : Tks s' := fun t ht => h t (k.subset ht)
theorem next_suf (s : PS) : s.next.r <:+ s.r := List.tail_suffix _
/-- from s to s' an expression of at most d levels has been read -/
structure Read (d : Nat) (e : Ex) (s s' : PS) : Prop where
  dep : depth e ≤ d
  n : s'.n = s.n + size e
  le : s'.n ≤ 24
  add : radd e s.l = some s'.l
  good : Good s'.l
  suf : s'.r <:+ s.r
structure ReadL (d : Nat) (r : List Ex) (s s' : PS) : Prop where
  dep : depthL r ≤ d
  n : s'.n = s.n + sizeL r
  le : s'.n ≤ 24
  add : raddL r s.l = some s'.l
  good : Good s'.l
  suf : s'.r <:+ s.r
theorem note_ok {l : List At} {a : At} (hg : Good l) (h : (note l a).1 = 0) : (note l a).2 = (if a ∈ l then l else l ++ [a]) ∧ Good (note l a).2 := by
  have := note_good (a := a) hg
  by_cases hG : Good (if a ∈ l then l else l ++ [a])
  · rw [if_pos hG] at this
    rw [this]; exact ⟨rfl, hG⟩
  · rw [if_neg hG] at this
    exact absurd h this
theorem expectP_ok {k : Int} {t : List UInt8} {s s' : PS} {u : Unit} (h : expectP k t s = .ok (u, s')) : s' = s.next ∧ sees k t s = true := by
  unfold expectP at h
  by_cases hs : sees k t s = true
  · rw [if_pos hs] at h
    injection h with h
    injection h with _ h
    exact ⟨h.symm, hs⟩
  · rw [if_neg hs] at h; cases h
theorem addA_ok {nm : Tk} {a : At} {s s' : PS} {e : Ex} (hg : Good s.l) (ha : vatom a = true) (h : addA nm a s = .ok (e, s')) : e = .mk 0 a [] ∧ s'.n = s.n ∧ s'.r = s.r ∧ radd e s.l = some s'.l ∧ Good s'.l := by
  unfold addA at h
  by_cases h0 : (note s.l a).1 = 0
  · rw [if_pos h0] at h
    injection h with h
    injection h with h1 h2
    subst h1 h2
    obtain ⟨k1, k2⟩ := note_ok hg h0
    refine ⟨rfl, rfl, rfl, ?_, k2⟩
    simp [radd, ha, k1]
  · rw [if_neg h0] at h; cases h
theorem name_vname {t : Tk} (h : TkOk t) (hk : t.kind = 1) (hr : rsv t.text = false) : vname t.text = true := by
  obtain ⟨c, r, e, h1, h2, h3⟩ := h.1 hk
  rw [e] at hr ⊢
  simp [vname, h1, hr, h2]
  simpa using h3
theorem atomP_ok {nm : Tk} {s s' : PS} {e : Ex} (hT : Tks s) (hg : Good s.l) (hn : vname nm.text = true) (h : atomP nm s = .ok (e, s')) : (∃ a, e = .mk 0 a []) ∧ s'.n = s.n ∧ s'.r <:+ s.r ∧ radd e s.l = some s'.l ∧ Good s'.l := by
  unfold atomP at h
  have hT1 := (hT.suf (next_suf s)).hd
  have hs2 : s.next.next.r <:+ s.r := (next_suf _).trans (next_suf _)
  by_cases h1 : sees 4 [58] s = true
  · rw [if_pos h1] at h
    by_cases h2 : s.next.hd.kind = 2
    · rw [if_pos h2] at h
      obtain ⟨k1, k2⟩ := hT1.2.1 h2
      obtain ⟨e1, e2, e3, e4, e5⟩ := addA_ok (s := s.next.next) (a := ⟨nm.text, ⟨s.next.hd.num, 0⟩⟩) hg (by show (vname nm.text && usable _) = true; rw [hn]; simp [usable, vld]; omega) h
      exact ⟨⟨_, e1⟩, e2, by rw [e3]; exact hs2, e4, e5⟩
    · rw [if_neg h2] at h; cases h
  · rw [if_neg h1] at h
    by_cases h3 : sees 4 [42] s = true
    · rw [if_pos h3] at h
      by_cases h2 : s.next.hd.kind = 3
      · rw [if_pos h2] at h
        by_cases h4 : s.next.hd.num < 1 ∨ 8 < s.next.hd.num
        · rw [if_pos h4] at h; cases h
        · rw [if_neg h4] at h
          obtain ⟨e1, e2, e3, e4, e5⟩ := addA_ok (s := s.next.next) (a := ⟨nm.text, ⟨0, s.next.hd.num⟩⟩) hg (by show (vname nm.text && usable _) = true; rw [hn]; simp [usable, vld]; omega) h
          exact ⟨⟨_, e1⟩, e2, by rw [e3]; exact hs2, e4, e5⟩
      · rw [if_neg h2] at h; cases h
    · rw [if_neg h3] at h; cases h
/-- a parser of expressions of at most d levels -/
def Sound (d : Nat) (p : PS → PR Ex) : Prop := ∀ s e s', Tks s → Good s.l → s.n ≤ 24 → p s = .ok (e, s') → Read d e s s'
theorem moreP_ok {d : Nat} {p : PS → PR Ex} (hp : Sound d p) : ∀ (m : Nat) (acc : List Ex) (s : PS) (l : List Ex) (s' : PS), Tks s → Good s.l → s.n ≤ 24 → moreP p m acc s = .ok (l, s') → ∃ r, l = acc ++ r ∧ ReadL d r s s'
  | 0, acc, s, l, s', hT, hg, hn, h => by
    unfold moreP at h
    injection h with h
    injection h with h1 h2
    subst h1 h2
    exact ⟨[], by simp, ⟨by simp [depthL], by simp [sizeL], hn, by simp [raddL], hg, List.suffix_refl _⟩⟩
  | m + 1, acc, s, l, s', hT, hg, hn, h => by
    unfold moreP at h
    by_cases h1 : sees 4 [44] s = true
    · rw [if_pos h1] at h
      cases hx : p s.next with
      | error e => rw [hx] at h; simp [bindP] at h
      | ok v =>
        obtain ⟨x, s1⟩ := v
        rw [hx] at h
        simp only [bindP] at h
        have hR := hp s.next x s1 (hT.suf (next_suf s)) hg hn hx
        obtain ⟨r, e1, e2⟩ := moreP_ok hp m (acc ++ [x]) s1 l s' ((hT.suf (next_suf s)).suf hR.suf) hR.good hR.le h
        refine ⟨x :: r, by rw [e1]; simp, ⟨?_, ?_, e2.le, ?_, e2.good, e2.suf.trans (hR.suf.trans (next_suf s))⟩⟩
        · simp only [depthL]; have := hR.dep; have := e2.dep; omega
        · have a1 := hR.n; have a2 := e2.n; have a3 : s.next.n = s.n := rfl; simp only [sizeL]; omega
        · have a1 : radd x s.l = some s1.l := hR.add
          simp only [raddL, a1]
          exact e2.add
    · rw [if_neg h1] at h
      injection h with h
      injection h with h1 h2
      subst h1 h2
      exact ⟨[], by simp, ⟨by simp [depthL], by simp [sizeL], hn, by simp [raddL], hg, List.suffix_refl _⟩⟩
theorem listP_ok {d : Nat} {p : PS → PR Ex} (hp : Sound d p) {s s' : PS} {l : List Ex} (hT : Tks s) (hg : Good s.l) (hn : s.n ≤ 24) (h : listP p s = .ok (l, s')) : l ≠ [] ∧ ReadL d l s s' := by
  unfold listP at h
  cases h1 : expectP 4 [40] s with
  | error e => rw [h1] at h; simp [bindP] at h
  | ok v1 =>
    obtain ⟨u1, s1⟩ := v1
    rw [h1] at h
    simp only [bindP] at h
    obtain ⟨e1, _⟩ := expectP_ok h1
    subst e1
    cases h2 : p s.next with
    | error e => rw [h2] at h; simp [bindP] at h
    | ok v2 =>
      obtain ⟨x, s2⟩ := v2
      rw [h2] at h
      simp only [bindP] at h
      have hR := hp s.next x s2 (hT.suf (next_suf s)) hg hn h2
      cases h3 : moreP p 25 [x] s2 with
      | error e => rw [h3] at h; simp [bindP] at h
      | ok v3 =>
        obtain ⟨l3, s3⟩ := v3
        rw [h3] at h
        simp only [bindP] at h
        obtain ⟨r, er, hL⟩ := moreP_ok hp 25 [x] s2 l3 s3 ((hT.suf (next_suf s)).suf hR.suf) hR.good hR.le h3
        cases h4 : expectP 4 [41] s3 with
        | error e => rw [h4] at h; simp [bindP] at h
        | ok v4 =>
          obtain ⟨u4, s4⟩ := v4
          rw [h4] at h
          simp only [bindP] at h
          obtain ⟨e4, _⟩ := expectP_ok h4
          subst e4
          injection h with h
          injection h with h5 h6
          subst h5 h6 er
          refine ⟨by simp, ⟨?_, ?_, hL.le, ?_, hL.good, (next_suf s3).trans (hL.suf.trans (hR.suf.trans (next_suf s)))⟩⟩
          · have := hR.dep; have := hL.dep; simp only [List.cons_append, List.nil_append, depthL]; omega
          · have a1 := hR.n; have a2 := hL.n; have a3 : s.next.n = s.n := rfl; have a4 : s3.next.n = s3.n := rfl; simp only [List.cons_append, List.nil_append, sizeL]; omega
          · have a1 : radd x s.l = some s2.l := hR.add
            simp only [List.cons_append, List.nil_append, raddL, a1]
            exact hL.add
theorem group_ok {d : Nat} {s0 s1 s' : PS} {k : Int} {l : List Ex} (h0 : s1.n = s0.n + 1) (h1 : s1.l = s0.l) (h2 : s1.r <:+ s0.r) (hne : l ≠ []) (hL : ReadL d l s1 s') (hk : ¬ (k < 1 ∨ (l.length : Int) < k)) : Read (d + 1) (.mk k noAt l) s0 s' := by
  refine ⟨?_, ?_, hL.le, ?_, hL.good, hL.suf.trans h2⟩
  · have := hL.dep; simp only [depth]; omega
  · have := hL.n; simp only [size]; omega
  · simp only [radd, if_neg hne]
    rw [if_neg (by
      rintro (c | c | c)
      · exact hk (.inl c)
      · exact hk (.inr c)
      · exact c rfl), ← h1]
    exact hL.add
theorem exprP_ok : ∀ d, Sound d (exprP d)
  | 0, s, e, s', hT, hg, hn, h => by
    unfold exprP at h
    split at h <;> cases h
  | d + 1, s, e, s', hT, hg, hn, h => by
    have ih := exprP_ok d
    have hr1 : (⟨s.n + 1, s.l, s.r.tail⟩ : PS).r <:+ s.r := List.tail_suffix _
    have hT1 : Tks ⟨s.n + 1, s.l, s.r.tail⟩ := hT.suf hr1
    have hH := hT.hd
    unfold exprP at h
    by_cases hb : beginsT s.hd = false
    · rw [if_pos hb] at h; cases h
    · rw [if_neg hb] at h
      by_cases h24 : 24 < s.n + 1
      · rw [if_pos h24] at h; cases h
      · rw [if_neg h24] at h
        have hn1 : (⟨s.n + 1, s.l, s.r.tail⟩ : PS).n ≤ 24 := by simp only; omega
        by_cases h3 : s.hd.kind = 3
        · rw [if_pos h3] at h
          cases h1 : expectP 1 wOf ⟨s.n + 1, s.l, s.r.tail⟩ with
          | error e => rw [h1] at h; simp [bindP] at h
          | ok v1 =>
            obtain ⟨u1, s1⟩ := v1
            rw [h1] at h
            simp only [bindP] at h
            obtain ⟨e1, _⟩ := expectP_ok h1
            subst e1
            cases h2 : listP (exprP d) (PS.next ⟨s.n + 1, s.l, s.r.tail⟩) with
            | error e => rw [h2] at h; simp [bindP] at h
            | ok v2 =>
              obtain ⟨l, s2⟩ := v2
              rw [h2] at h
              simp only [bindP] at h
              obtain ⟨hne, hL⟩ := listP_ok ih (hT1.suf (next_suf _)) hg hn1 h2
              by_cases hk : s.hd.num < 1 ∨ (l.length : Int) < s.hd.num
              · rw [if_pos hk] at h; cases h
              · rw [if_neg hk] at h
                injection h with h
                injection h with h5 h6
                subst h5 h6
                exact group_ok (s0 := s) (s1 := PS.next ⟨s.n + 1, s.l, s.r.tail⟩) rfl rfl ((next_suf _).trans hr1) hne hL hk
        · rw [if_neg h3] at h
          have hlen : ∀ {l : List Ex}, l ≠ [] → 1 ≤ l.length := fun {l} hl => by cases l <;> simp at *
          by_cases ha : s.hd.text = wAll
          · rw [if_pos ha] at h
            cases h2 : listP (exprP d) ⟨s.n + 1, s.l, s.r.tail⟩ with
            | error e => rw [h2] at h; simp [bindP] at h
            | ok v2 =>
              obtain ⟨l, s2⟩ := v2
              rw [h2] at h
              simp only [bindP] at h
              obtain ⟨hne, hL⟩ := listP_ok ih hT1 hg hn1 h2
              injection h with h
              injection h with h5 h6
              subst h5 h6
              have := hlen hne
              exact group_ok (s0 := s) (s1 := ⟨s.n + 1, s.l, s.r.tail⟩) rfl rfl hr1 hne hL (by omega)
          · rw [if_neg ha] at h
            by_cases hy : s.hd.text = wAny
            · rw [if_pos hy] at h
              cases h2 : listP (exprP d) ⟨s.n + 1, s.l, s.r.tail⟩ with
              | error e => rw [h2] at h; simp [bindP] at h
              | ok v2 =>
                obtain ⟨l, s2⟩ := v2
                rw [h2] at h
                simp only [bindP] at h
                obtain ⟨hne, hL⟩ := listP_ok ih hT1 hg hn1 h2
                injection h with h
                injection h with h5 h6
                subst h5 h6
                have := hlen hne
                exact group_ok (s0 := s) (s1 := ⟨s.n + 1, s.l, s.r.tail⟩) rfl rfl hr1 hne hL (by omega)
            · rw [if_neg hy] at h
              have hb' : s.hd.kind = 1 ∧ rsv s.hd.text = false := by
                simp [beginsT, h3, ha, hy] at hb; exact hb
              obtain ⟨⟨a, e1⟩, e2, e3, e4, e5⟩ := atomP_ok hT1 hg (name_vname hH hb'.1 hb'.2) h
              subst e1
              refine ⟨by simp [depth, depthL], ?_, ?_, e4, e5, e3.trans hr1⟩
              · simp only [size, sizeL]; simp only at e2; omega
              · simp only at e2; omega
/-- what is parsed is valid -/
theorem parse_valid {ts : List Tk} {q : Rq} (hT : ∀ t ∈ ts, TkOk t) (h : parseT ts = .ok q) : valid q.e = true ∧ (0 ≤ q.p ∧ q.p ≤ 7) ∧ (0 ≤ q.m ∧ q.m ≤ 1000) := by
  have hO : ∀ {w : List UInt8} {most : Int} {s s' : PS} {v : Int}, 0 ≤ most → Tks s → optP w most s = .ok (v, s') → (0 ≤ v ∧ v ≤ most) ∧ Tks s' := by
    intro w most s s' v hm hT h
    unfold optP at h
    have hT1 := (hT.suf (next_suf s)).hd
    by_cases h1 : sees 1 w s = true
    · rw [if_pos h1] at h
      by_cases h2 : s.next.hd.kind = 3
      · rw [if_pos h2] at h
        by_cases h3 : most < s.next.hd.num
        · rw [if_pos h3] at h; cases h
        · rw [if_neg h3] at h
          injection h with h
          injection h with h5 h6
          subst h5 h6
          exact ⟨⟨(hT1.2.2 h2).1, by omega⟩, (hT.suf (next_suf s)).suf (next_suf _)⟩
      · rw [if_neg h2] at h; cases h
    · rw [if_neg h1] at h
      injection h with h
      injection h with h5 h6
      subst h5 h6
      exact ⟨⟨by omega, hm⟩, hT⟩
  unfold parseT at h
  have hT0 : Tks ⟨0, [], ts⟩ := hT
  cases h1 : exprP 4 ⟨0, [], ts⟩ with
  | error e => rw [h1] at h; simp [bindP] at h
  | ok v1 =>
    obtain ⟨x, s1⟩ := v1
    rw [h1] at h
    simp only [bindP] at h
    have hR := exprP_ok 4 _ _ _ hT0 good_nil (by simp) h1
    cases h2 : optP wPrio 7 s1 with
    | error e => rw [h2] at h; simp [bindP] at h
    | ok v2 =>
      obtain ⟨p, s2⟩ := v2
      rw [h2] at h
      simp only [bindP] at h
      obtain ⟨hp, hT2⟩ := hO (by omega) (hT0.suf hR.suf) h2
      cases h3 : optP wLimit 1000 s2 with
      | error e => rw [h3] at h; simp [bindP] at h
      | ok v3 =>
        obtain ⟨m, s3⟩ := v3
        rw [h3] at h
        simp only [bindP] at h
        obtain ⟨hm, _⟩ := hO (by omega) hT2 h3
        by_cases h5 : s3.hd.kind = 5
        · rw [if_pos h5] at h
          injection h with h
          subst h
          refine ⟨?_, hp, hm⟩
          have a1 := hR.add
          have a2 := hR.good
          have a3 := hR.n
          have a4 := hR.le
          have a5 := hR.dep
          simp only at a1 a3
          simp only [valid, small, a1, Bool.and_eq_true, decide_eq_true_eq]
          exact ⟨⟨a5, by omega⟩, a2⟩
        · rw [if_neg h5] at h; cases h
end CL
/- Plain: where tokens stand changes neither a request nor the error. No program in sight. -/
namespace CL
/-- a token without its place -/
def er (t : Tk) : Int × List UInt8 × Int := (t.kind, t.text, t.num)
structure Sim (s s' : PS) : Prop where
  n : s.n = s'.n
  l : s.l = s'.l
  r : s.r.map er = s'.r.map er
def SimR {α : Type} (x y : PR α) : Prop :=
  match x, y with
  | .ok (a, s), .ok (b, t) => a = b ∧ Sim s t
  | .error e, .error f => e.2 = f.2
  | _, _ => False
theorem Sim.hd {s s' : PS} (h : Sim s s') : er s.hd = er s'.hd := by
  have hr := h.r
  unfold PS.hd hdT
  cases h1 : s.r <;> cases h2 : s'.r <;> rw [h1, h2] at hr <;> simp at hr ⊢
  exact hr.1
theorem Sim.kind {s s' : PS} (h : Sim s s') : s.hd.kind = s'.hd.kind := congrArg (·.1) h.hd
theorem Sim.text {s s' : PS} (h : Sim s s') : s.hd.text = s'.hd.text := congrArg (·.2.1) h.hd
theorem Sim.num {s s' : PS} (h : Sim s s') : s.hd.num = s'.hd.num := congrArg (·.2.2) h.hd
theorem Sim.next {s s' : PS} (h : Sim s s') : Sim s.next s'.next := ⟨h.n, h.l, by
  show s.r.tail.map er = s'.r.tail.map er
  rw [List.map_tail, List.map_tail, h.r]⟩
theorem sees_sim {s s' : PS} (h : Sim s s') (k : Int) (t : List UInt8) : sees k t s = sees k t s' := by
  unfold sees; rw [h.kind, h.text]
theorem expectP_sim {s s' : PS} (h : Sim s s') (k : Int) (t : List UInt8) : SimR (expectP k t s) (expectP k t s') := by
  unfold expectP
  rw [sees_sim h]
  split
  · exact ⟨rfl, h.next⟩
  · exact rfl
theorem addA_sim {s s' : PS} (h : Sim s s') (nm nm' : Tk) (a : At) : SimR (addA nm a s) (addA nm' a s') := by
  unfold addA
  rw [h.l]
  split
  · exact ⟨rfl, ⟨h.n, rfl, h.r⟩⟩
  · exact rfl
theorem atomP_sim {s s' : PS} (h : Sim s s') {nm nm' : Tk} (ht : nm.text = nm'.text) : SimR (atomP nm s) (atomP nm' s') := by
  unfold atomP
  rw [sees_sim h, sees_sim h, h.next.kind, h.next.num, ht]
  split
  · split
    · exact addA_sim h.next.next _ _ _
    · exact rfl
  · split
    · split
      · split
        · exact rfl
        · exact addA_sim h.next.next _ _ _
      · exact rfl
    · exact rfl
theorem SimR.bind {α β : Type} {x y : PR α} (h : SimR x y) {f g : α → PS → PR β} (hf : ∀ a s t, Sim s t → SimR (f a s) (g a t)) : SimR (bindP x f) (bindP y g) := by
  cases x with
  | error e => cases y with
    | error e' => exact h
    | ok v => exact h.elim
  | ok v => cases y with
    | error e' => exact h.elim
    | ok v' =>
      obtain ⟨a, s⟩ := v
      obtain ⟨b, t⟩ := v'
      obtain ⟨rfl, hs⟩ := (show a = b ∧ Sim s t from h)
      exact hf _ _ _ hs
def SimP (p q : PS → PR Ex) : Prop := ∀ s t, Sim s t → SimR (p s) (q t)
theorem moreP_sim {p : PS → PR Ex} (hp : SimP p p) : ∀ (m : Nat) (acc : List Ex) (s s' : PS), Sim s s' → SimR (moreP p m acc s) (moreP p m acc s')
  | 0, acc, s, s', h => by unfold moreP; exact ⟨rfl, h⟩
  | m + 1, acc, s, s', h => by
    unfold moreP
    rw [sees_sim h]
    split
    · exact (hp _ _ h.next).bind (fun a s t hs => moreP_sim hp m _ _ _ hs)
    · exact ⟨rfl, h⟩
theorem listP_sim {p : PS → PR Ex} (hp : SimP p p) {s s' : PS} (h : Sim s s') : SimR (listP p s) (listP p s') :=
  (expectP_sim h 4 [40]).bind fun _ _ _ h1 => (hp _ _ h1).bind fun x _ _ h2 => (moreP_sim hp 25 [x] _ _ h2).bind fun _ _ _ h3 => (expectP_sim h3 4 [41]).bind fun _ _ _ h4 => ⟨rfl, h4⟩
theorem beginsT_sim {s s' : PS} (h : Sim s s') : beginsT s.hd = beginsT s'.hd := by unfold beginsT; rw [h.kind, h.text]
theorem exprP_sim : ∀ d, SimP (exprP d) (exprP d)
  | 0, s, s', h => by
    unfold exprP
    rw [beginsT_sim h]
    split <;> exact rfl
  | d + 1, s, s', h => by
    have ih := exprP_sim d
    have h1 : Sim ⟨s.n + 1, s.l, s.r.tail⟩ ⟨s'.n + 1, s'.l, s'.r.tail⟩ := ⟨by simp only [h.n], h.l, h.next.r⟩
    unfold exprP
    rw [beginsT_sim h, h.kind, h.text, h.num, h.n, h.l] at *
    split
    · exact rfl
    · split
      · exact rfl
      · split
        · refine (expectP_sim h1 1 wOf).bind fun _ s1 t1 h2 => (listP_sim ih h2).bind fun l s2 t2 h3 => ?_
          split
          · exact rfl
          · exact ⟨rfl, h3⟩
        · split
          · exact (listP_sim ih h1).bind fun _ _ _ h3 => ⟨rfl, h3⟩
          · split
            · exact (listP_sim ih h1).bind fun _ _ _ h3 => ⟨rfl, h3⟩
            · exact atomP_sim h1 h.text
theorem optP_sim {s s' : PS} (h : Sim s s') (w : List UInt8) (most : Int) : SimR (optP w most s) (optP w most s') := by
  unfold optP
  rw [sees_sim h, h.next.kind, h.next.num]
  split
  · split
    · split
      · exact rfl
      · exact ⟨rfl, h.next.next⟩
    · exact rfl
  · exact ⟨rfl, h⟩
/-- the same request, or the same error -/
def SameR (x y : Except (Int × Int) Rq) : Prop :=
  match x, y with
  | .ok a, .ok b => a = b
  | .error e, .error f => e.2 = f.2
  | _, _ => False
theorem SimR.end' {α : Type} {x y : PR α} (h : SimR x y) {f g : α → PS → Except (Int × Int) Rq} (hf : ∀ a s t, Sim s t → SameR (f a s) (g a t)) : SameR (bindP x f) (bindP y g) := by
  cases x with
  | error e => cases y with
    | error e' => exact h
    | ok v => exact h.elim
  | ok v => cases y with
    | error e' => exact h.elim
    | ok v' =>
      obtain ⟨a, s⟩ := v
      obtain ⟨b, t⟩ := v'
      obtain ⟨rfl, hs⟩ := (show a = b ∧ Sim s t from h)
      exact hf _ _ _ hs
theorem parseT_sim {ts ts' : List Tk} (h : ts.map er = ts'.map er) : SameR (parseT ts) (parseT ts') := by
  refine (exprP_sim 4 _ _ (show Sim ⟨0, [], ts⟩ ⟨0, [], ts'⟩ from ⟨rfl, rfl, h⟩)).end' fun x _ _ h1 => (optP_sim h1 wPrio 7).end' fun p _ _ h2 => (optP_sim h2 wLimit 1000).end' fun m s3 t3 h3 => ?_
  rw [h3.kind]
  split
  · exact rfl
  · exact rfl
end CL
/- Plain law of the lexer, second part: where a run stops; space is passed over. -/
namespace CL
theorem span_stop {p : Int → Bool} {s : List UInt8} {i : Nat} (h : i + spanN p (s.drop i) < s.length) : at8 p (s[i + spanN p (s.drop i)]) = false := by
  have e : (s.drop i)[spanN p (s.drop i)]? = some (s[i + spanN p (s.drop i)]) := by
    rw [List.getElem?_drop]; simp [h]
  have hh : ∀ (r : List UInt8) (c : UInt8), r[spanN p r]? = some c → at8 p c = false := by
    intro r
    induction r with
    | nil => intro c h; simp at h
    | cons d r ih =>
      intro c h
      by_cases hd : at8 p d = true
      · simp only [spanN, List.takeWhile_cons, hd, if_true, List.length_cons, List.getElem?_cons_succ] at h
        exact ih c h
      · simp only [spanN, List.takeWhile_cons, hd, Bool.false_eq_true, if_false, List.length_nil, List.getElem?_cons_zero, Option.some.injEq] at h
        subst h; simpa using hd
  exact hh _ _ e
theorem span_in {p : Int → Bool} {s : List UInt8} {i k : Nat} (h1 : i ≤ k) (h2 : k < i + spanN p (s.drop i)) (h : k < s.length) : at8 p s[k] = true := by
  have e : (s.drop i)[k - i]? = some s[k] := by rw [List.getElem?_drop]; simp [show i + (k - i) = k by omega, h]
  have hh : ∀ (r : List UInt8) (n : Nat) (c : UInt8), n < spanN p r → r[n]? = some c → at8 p c = true := by
    intro r
    induction r with
    | nil => intro n c h; simp [spanN] at h
    | cons d r ih =>
      intro n c h hc
      by_cases hd : at8 p d = true
      · cases n with
        | zero => simp at hc; subst hc; exact hd
        | succ n =>
          simp only [spanN, List.takeWhile_cons, hd, if_true, List.length_cons] at h
          exact ih n c (by unfold spanN; omega) (by simpa using hc)
      · simp [spanN, hd] at h
  exact hh _ _ _ (by omega) e
theorem tokF_skip {s : List UInt8} {acc : List Tk} {i j : Nat} (hij : i ≤ j) (hj : j ≤ s.length) (h : ∀ k, i ≤ k → k < j → (hk : k < s.length) → at8 spc s[k] = true) : tokF s i acc = tokF s j acc := by
  induction hn : j - i generalizing i with
  | zero => rw [show i = j by omega]
  | succ n ih =>
    rw [tokF_space (by omega) (h i (Nat.le_refl _) (by omega) (by omega))]
    exact ih (by omega) (fun k h1 h2 h3 => h k (by omega) h2 h3) (by omega)
end CL
/- Plain law of the lexer, third part: what holds of all tokens of a text; tokens behind space; where tokens stand. -/
namespace CL
/-- what is collected on the way is in front; what holds at the end and is kept by space and by tokens holds of the rest -/
theorem toks_ind {s : List UInt8} (P : Nat → List Tk → Prop) (hend : P s.length [⟨5, [], 0, s.length⟩])
    (hspace : ∀ i l, (h : i < s.length) → at8 spc s[i] = true → P (i + 1) l → P i l)
    (htok : ∀ i l t n, (h : i < s.length) → at8 spc s[i] = false → one (s.drop i) i = (0, t, n) → 1 ≤ n → i + n ≤ s.length → P (i + n) l → P i (t :: l)) :
    ∀ (f i : Nat) (acc l : List Tk) (a : Int), i ≤ s.length → s.length - i < f → toks f i (s.drop i) acc = (l, a, 0) → ∃ l', l = acc ++ l' ∧ a = 0 ∧ P i l' := by
  intro f
  induction f with
  | zero => intro i acc l a hi hf; omega
  | succ f ih =>
    intro i acc l a hi hf h
    by_cases hlt : i < s.length
    · rw [List.drop_eq_getElem_cons hlt] at h
      simp only [toks] at h
      rw [← List.drop_eq_getElem_cons hlt] at h
      by_cases hsp : at8 spc s[i] = true
      · rw [if_pos hsp] at h
        obtain ⟨l', e1, e2, hp⟩ := ih (i + 1) acc l a (by omega) (by omega) h
        exact ⟨l', e1, e2, hspace i l' hlt hsp hp⟩
      · rw [if_neg hsp] at h
        by_cases ho : (one (s.drop i) i).1 = 0
        · rw [if_pos ho] at h
          have hl := one_len ho
          simp only [List.length_drop] at hl
          rw [List.drop_drop] at h
          obtain ⟨l', e1, e2, hp⟩ := ih _ _ l a (by omega) (by omega) h
          refine ⟨(one (s.drop i) i).2.1 :: l', by rw [e1]; simp, e2, htok i l' _ (one (s.drop i) i).2.2 hlt (by simpa using hsp) ?_ hl.1 (by omega) hp⟩
          rw [← ho]
        · rw [if_neg ho] at h
          injection h with _ h
          injection h with _ h
          exact absurd h ho
    · obtain rfl : i = s.length := by omega
      rw [List.drop_of_length_le (Nat.le_refl _)] at h
      simp only [toks] at h
      injection h with h1 h2
      injection h2 with h2 _
      exact ⟨_, h1.symm, h2.symm, hend⟩
theorem tokens_ind {s : List UInt8} (P : Nat → List Tk → Prop) (hend : P s.length [⟨5, [], 0, s.length⟩])
    (hspace : ∀ i l, (h : i < s.length) → at8 spc s[i] = true → P (i + 1) l → P i l)
    (htok : ∀ i l t n, (h : i < s.length) → at8 spc s[i] = false → one (s.drop i) i = (0, t, n) → 1 ≤ n → i + n ≤ s.length → P (i + n) l → P i (t :: l))
    (h : (tokens s).2.2 = 0) : P 0 (tokens s).1 ∧ (tokens s).2.1 = 0 ∧ s.length ≤ 1024 := by
  unfold tokens at h ⊢
  by_cases hl : 1024 < s.length
  · rw [if_pos hl] at h; simp at h
  · rw [if_neg hl] at h ⊢
    obtain ⟨l', e1, e2, hp⟩ := toks_ind P hend hspace htok (s.length + 1) 0 [] (tokF s 0 []).1 (tokF s 0 []).2.1 (by omega) (by omega) (by
      show tokF s 0 [] = _
      rw [← h])
    simp only [List.nil_append] at e1
    rw [e1]
    exact ⟨hp, e2, by omega⟩
theorem tokens_err {s : List UInt8} (h : (tokens s).2.2 ≠ 0) : (tokens s).1 = [] := by
  have key : ∀ (f i : Nat) (r : List UInt8) (acc : List Tk), (toks f i r acc).2.2 ≠ 0 → (toks f i r acc).1 = [] := by
    intro f
    induction f with
    | zero => intro i r acc h; simp [toks]
    | succ f ih =>
      intro i r acc h
      cases r with
      | nil => simp [toks] at h
      | cons c r =>
        simp only [toks] at h ⊢
        split
        · rename_i hc; rw [if_pos hc] at h; exact ih _ _ _ h
        · rename_i hc
          rw [if_neg hc] at h
          split
          · rename_i ho; rw [if_pos ho] at h; exact ih _ _ _ h
          · rfl
  unfold tokens at h ⊢
  split
  · rfl
  · rename_i hl
    rw [if_neg hl] at h
    exact key _ _ _ _ h
/-- a token that is not the end, as it stands in s -/
def okTok (s : List UInt8) (t : Tk) : Prop :=
  t.kind ≠ 5 ∧ 0 ≤ t.pos ∧ t.pos.toNat < s.length ∧ (t.kind = 1 → 1 ≤ t.text.length ∧ t.text.length ≤ 12 ∧ t.pos.toNat + t.text.length ≤ s.length ∧ (s.drop t.pos.toNat).take t.text.length = t.text)
def Pl (s : List UInt8) : Nat → List Tk → Prop
  | _, [] => False
  | i, [t] => t = ⟨5, [], 0, s.length⟩ ∧ i ≤ s.length
  | i, t :: u :: l => okTok s t ∧ (i : Int) ≤ t.pos ∧ Pl s (t.pos.toNat + 1) (u :: l)
theorem Pl.mono {s : List UInt8} {i j : Nat} {l : List Tk} (h : Pl s j l) (hij : i ≤ j) : Pl s i l := by
  match l, h with
  | [t], h => exact ⟨h.1, by have := h.2; omega⟩
  | t :: u :: l, h => exact ⟨h.1, by have := h.2.1; omega, h.2.2⟩
theorem one_ok {s : List UInt8} {i n : Nat} {t : Tk} (hi : i < s.length) (h : one (s.drop i) i = (0, t, n)) : okTok s t ∧ t.pos = i := by
  by_cases h0 : at8 ltr s[i] = true
  · rw [one_word hi h0] at h
    split at h
    · simp at h
    · rename_i hl
      simp only [Prod.mk.injEq, true_and] at h
      obtain ⟨rfl, rfl⟩ := h
      have h1 := spanN_le prt (s.drop i)
      have h2 : 0 < spanN prt (s.drop i) := by rw [List.drop_eq_getElem_cons hi]; exact spanN_pos (prt_ltr h0)
      simp only [List.length_drop] at h1
      refine ⟨⟨by simp, by simp, by simpa using hi, fun _ => ?_⟩, rfl⟩
      simp
      omega
  · simp only [Bool.not_eq_true] at h0
    by_cases h1 : at8 cap s[i] = true
    · rw [one_mode hi h0 h1] at h
      split at h
      · simp at h
      · simp only [Prod.mk.injEq, true_and] at h
        obtain ⟨rfl, rfl⟩ := h
        exact ⟨⟨by simp, by simp, by simpa using hi, by simp⟩, rfl⟩
    · simp only [Bool.not_eq_true] at h1
      by_cases h2 : at8 dig s[i] = true
      · rw [one_num hi h0 h1 h2] at h
        split at h
        · simp at h
        · simp only [Prod.mk.injEq, true_and] at h
          obtain ⟨rfl, rfl⟩ := h
          exact ⟨⟨by simp, by simp, by simpa using hi, by simp⟩, rfl⟩
      · simp only [Bool.not_eq_true] at h2
        rw [one_pun hi h0 h1 h2] at h
        split at h
        · simp only [Prod.mk.injEq, true_and] at h
          obtain ⟨rfl, rfl⟩ := h
          exact ⟨⟨by simp, by simp, by simpa using hi, by simp⟩, rfl⟩
        · simp at h
theorem tokens_Pl {s : List UInt8} (h : (tokens s).2.2 = 0) : Pl s 0 (tokens s).1 := by
  refine (tokens_ind (Pl s) ⟨rfl, Nat.le_refl _⟩ (fun i l _ _ hp => hp.mono (by omega)) (fun i l t n hi _ ho hn _ hp => ?_) h).1
  obtain ⟨h1, h2⟩ := one_ok hi ho
  match l, hp with
  | u :: l, hp => exact ⟨h1, by omega, hp.mono (by omega)⟩
theorem Pl.at_ {s : List UInt8} : ∀ {l : List Tk} {i k : Nat}, Pl s i l → (h : k + 1 < l.length) → okTok s l[k] ∧ l[k].pos < l[k + 1].pos
  | [t], i, k, _, h => by simp at h
  | [t, u], i, 0, hp, _ => by
    refine ⟨hp.1, ?_⟩
    have h2 := hp.2.2
    have h1 := hp.1.2.1
    show t.pos < u.pos
    rw [h2.1]
    have := h2.2
    show t.pos < (s.length : Int)
    omega
  | t :: u :: v :: l, i, 0, hp, _ => by
    refine ⟨hp.1, ?_⟩
    have h1 := hp.1.2.1
    have h2 := hp.2.2.2.1
    show t.pos < u.pos
    omega
  | t :: u :: l, i, k + 1, hp, h => by
    have := Pl.at_ (k := k) hp.2.2 (by simpa using h)
    simpa using this
theorem Pl.last {s : List UInt8} : ∀ {l : List Tk} {i : Nat}, Pl s i l → ∃ h : 0 < l.length, l[l.length - 1] = ⟨5, [], 0, s.length⟩
  | [t], _, hp => ⟨by simp, hp.1⟩
  | t :: u :: l, _, hp => by
    obtain ⟨h, e⟩ := Pl.last hp.2.2
    exact ⟨by simp, by simpa using e⟩
/-- tokens moved by n bytes -/
def sh (n : Nat) (t : Tk) : Tk := ⟨t.kind, t.text, t.num, t.pos + n⟩
theorem one_sh (r : List UInt8) (i n : Nat) (h : (one r i).1 = 0) : one r (i + n) = (0, sh n (one r i).2.1, (one r i).2.2) := by
  unfold one at h ⊢
  cases r with
  | nil => simp at h
  | cons c r =>
    simp only at h ⊢
    by_cases a : at8 ltr c = true
    · simp only [if_pos a] at h ⊢
      by_cases b : 12 < spanN prt (c :: r)
      · simp [if_pos b] at h
      · simp only [if_neg b]; simp [sh]
    · simp only [if_neg a] at h ⊢
      by_cases a2 : at8 cap c = true
      · simp only [if_pos a2] at h ⊢
        by_cases b : prs ((c :: r).take (spanN cap (c :: r))) = 0
        · simp [if_pos b] at h
        · simp only [if_neg b]; simp [sh]
      · simp only [if_neg a2] at h ⊢
        by_cases a3 : at8 dig c = true
        · simp only [if_pos a3] at h ⊢
          by_cases b : 4 < spanN dig (c :: r) ∨ (1 < spanN dig (c :: r) ∧ c = 48)
          · simp [if_pos b] at h
          · simp only [if_neg b]; simp [sh]
        · simp only [if_neg a3] at h ⊢
          by_cases b : at8 pun c = true
          · simp only [if_pos b]; simp [sh]
          · simp [if_neg b] at h
theorem one_sh_err (r : List UInt8) (i n : Nat) : (one r (i + n)).1 = (one r i).1 := by
  unfold one
  cases r with
  | nil => rfl
  | cons c r =>
    simp only
    repeat' split
    all_goals rfl
theorem toks_sh (n : Nat) : ∀ (f i : Nat) (r : List UInt8) (acc : List Tk), toks f (i + n) r (acc.map (sh n)) = ((toks f i r acc).1.map (sh n), (if (toks f i r acc).2.2 = 0 then (toks f i r acc).2.1 else (toks f i r acc).2.1 + n), (toks f i r acc).2.2) := by
  intro f
  induction f with
  | zero => intro i r acc; simp [toks]
  | succ f ih =>
    intro i r acc
    cases r with
    | nil => simp [toks, sh]
    | cons c r =>
      simp only [toks]
      split
      · rw [show i + n + 1 = (i + 1) + n by omega]; exact ih _ _ _
      · by_cases ho : (one (c :: r) i).1 = 0
        · have h1 := one_sh (c :: r) i n ho
          rw [if_pos (by rw [h1]), if_pos ho, h1]
          have := ih (i + (one (c :: r) i).2.2) ((c :: r).drop (one (c :: r) i).2.2) (acc ++ [(one (c :: r) i).2.1])
          rw [List.map_append, List.map_cons, List.map_nil] at this
          rw [← this, show i + n + (one (c :: r) i).2.2 = i + (one (c :: r) i).2.2 + n by omega]
        · rw [if_neg (by rw [one_sh_err]; exact ho), if_neg ho, one_sh_err]
          simp [ho]
theorem tokens_pad {p s : List UInt8} (hp : ∀ c ∈ p, at8 spc c = true) (hl : p.length + s.length ≤ 1024) :
    tokens (p ++ s) = ((tokens s).1.map (sh p.length), (if (tokens s).2.2 = 0 then (tokens s).2.1 else (tokens s).2.1 + p.length), (tokens s).2.2) := by
  unfold tokens
  rw [if_neg (by simp; omega), if_neg (by omega)]
  rw [tokF_skip (s := p ++ s) (i := 0) (j := p.length) (by omega) (by simp) (fun k _ h2 h3 => by
    rw [List.getElem_append_left h2]; exact hp _ (List.getElem_mem _))]
  unfold tokF
  rw [List.drop_left, List.drop_zero, toks_fuel _ (s.length + 1) _ _ _ (by simp; omega) (by omega)]
  have := toks_sh p.length (s.length + 1) 0 s []
  simpa using this
end CL
/- Plain: what the lexer promises of its tokens. No program in sight. -/
namespace CL
theorem take_span (p : Int → Bool) (r : List UInt8) : r.take (spanN p r) = r.takeWhile (at8 p) := by
  unfold spanN
  induction r with
  | nil => rfl
  | cons c r ih =>
    by_cases h : at8 p c = true
    · simp [h, ih]
    · simp [h]
theorem prs_in {s : List UInt8} (h : prs s ≠ 0) : 1 ≤ prs s ∧ prs s ≤ 5 := by
  unfold prs at h ⊢
  by_cases h1 : s = [73, 83] <;> by_cases h2 : s = [73, 88] <;> by_cases h3 : s = [83] <;> by_cases h4 : s = [83, 73, 88] <;> by_cases h5 : s = [88] <;> simp_all
theorem val_bound : ∀ (l : List UInt8) (n : Int), (∀ c ∈ l, at8 dig c = true) → 0 ≤ n → 0 ≤ l.foldl (fun n c => 10 * n + ((c.toNat : Int) - 48)) n ∧ l.foldl (fun n c => 10 * n + ((c.toNat : Int) - 48)) n < (n + 1) * 10 ^ l.length
  | [], n, _, h0 => by simp; omega
  | c :: l, n, h, h0 => by
    have hc := h c (by simp)
    simp only [at8, dig, decide_eq_true_eq] at hc
    obtain ⟨k1, k2⟩ := val_bound l (10 * n + ((c.toNat : Int) - 48)) (fun x hx => h x (by simp [hx])) (by omega)
    refine ⟨k1, Int.lt_of_lt_of_le k2 ?_⟩
    have h10 : (0 : Int) ≤ 10 ^ l.length := by exact Int.pow_nonneg (by omega)
    calc (10 * n + ((c.toNat : Int) - 48) + 1) * 10 ^ l.length ≤ ((n + 1) * 10) * 10 ^ l.length := Int.mul_le_mul_of_nonneg_right (by omega) h10
      _ = (n + 1) * 10 ^ (c :: l).length := by rw [List.length_cons, Int.pow_succ, Int.mul_assoc, Int.mul_comm 10]
theorem one_TkOk {r : List UInt8} {i n : Nat} {t : Tk} (h : one r i = (0, t, n)) : TkOk t := by
  unfold one at h
  cases r with
  | nil => simp at h
  | cons c r =>
    simp only at h
    by_cases h1 : at8 ltr c = true
    · rw [if_pos h1] at h
      by_cases h2 : 12 < spanN prt (c :: r)
      · rw [if_pos h2] at h; simp at h
      · rw [if_neg h2] at h
        injection h with _ h
        injection h with h _
        subst h
        refine ⟨fun _ => ?_, fun h => by simp at h, fun h => by simp at h⟩
        have e := take_span prt (c :: r)
        have e2 : (c :: r).takeWhile (at8 prt) = c :: r.takeWhile (at8 prt) := by simp [prt_ltr h1]
        have e3 : spanN prt (c :: r) = (r.takeWhile (at8 prt)).length + 1 := by simp [spanN, prt_ltr h1]
        refine ⟨c, r.takeWhile (at8 prt), by simp only; rw [e, e2], by omega, h1, ?_⟩
        exact List.all_takeWhile
    · rw [if_neg h1] at h
      by_cases h2 : at8 cap c = true
      · rw [if_pos h2] at h
        by_cases h3 : prs ((c :: r).take (spanN cap (c :: r))) = 0
        · rw [if_pos h3] at h; simp at h
        · rw [if_neg h3] at h
          injection h with _ h
          injection h with h _
          subst h
          exact ⟨fun h => by simp at h, fun _ => prs_in h3, fun h => by simp at h⟩
      · rw [if_neg h2] at h
        by_cases h3 : at8 dig c = true
        · rw [if_pos h3] at h
          by_cases h4 : 4 < spanN dig (c :: r) ∨ (1 < spanN dig (c :: r) ∧ c = 48)
          · rw [if_pos h4] at h; simp at h
          · rw [if_neg h4] at h
            injection h with _ h
            injection h with h _
            subst h
            refine ⟨fun h => by simp at h, fun h => by simp at h, fun _ => ?_⟩
            simp only
            rw [take_span]
            have hl : ((c :: r).takeWhile (at8 dig)).length ≤ 4 := by have : spanN dig (c :: r) = ((c :: r).takeWhile (at8 dig)).length := rfl; omega
            have hd : ∀ x ∈ (c :: r).takeWhile (at8 dig), at8 dig x = true := fun x hx => List.all_eq_true.1 List.all_takeWhile x hx
            generalize (c :: r).takeWhile (at8 dig) = ds at hl hd
            obtain ⟨k1, k2⟩ := val_bound ds 0 hd (by omega)
            refine ⟨k1, ?_⟩
            have : (10 : Int) ^ ds.length ≤ 10 ^ 4 := by
              match ds.length, hl with
              | 0, _ => decide
              | 1, _ => decide
              | 2, _ => decide
              | 3, _ => decide
              | 4, _ => decide
            show val ds ≤ 9999
            unfold val
            omega
        · rw [if_neg h3] at h
          by_cases h4 : at8 pun c = true
          · rw [if_pos h4] at h
            injection h with _ h
            injection h with h _
            subst h
            exact ⟨fun h => by simp at h, fun h => by simp at h, fun h => by simp at h⟩
          · rw [if_neg h4] at h; simp at h
theorem tokens_TkOk {s : List UInt8} (h : (tokens s).2.2 = 0) : ∀ t ∈ (tokens s).1, TkOk t :=
  (tokens_ind (fun _ l => ∀ t ∈ l, TkOk t) (fun t ht => by
    simp at ht; subst ht
    exact ⟨fun h => by simp at h, fun h => by simp at h, fun h => by simp at h⟩) (fun _ _ _ _ h => h) (fun _ _ _ _ _ _ ho _ _ h t ht => by
    rcases List.mem_cons.1 ht with rfl | ht
    · exact one_TkOk ho
    · exact h t ht) h).1
/-- an error is not 0 -/
def NZ {γ : Type} (x : Except (Int × Int) γ) : Prop := ∀ e, x = .error e → e.2 ≠ 0
theorem NZ.ok {γ : Type} {v : γ} : NZ (.ok v) := fun e h => by cases h
theorem NZ.er {γ : Type} {a c : Int} (h : c ≠ 0) : NZ (.error (a, c) : Except (Int × Int) γ) := fun e he => by injection he with he; subst he; exact h
theorem NZ.bind {α γ : Type} {x : PR α} {f : α → PS → Except (Int × Int) γ} (h : NZ x) (hf : ∀ a s, NZ (f a s)) : NZ (bindP x f) := by
  cases x with
  | error e => exact fun e' he => h e' (by simpa [bindP] using he)
  | ok v => exact hf _ _
theorem expectP_nz (k : Int) (t : List UInt8) (s : PS) : NZ (expectP k t s) := by
  unfold expectP; split
  · exact NZ.ok
  · exact NZ.er (by decide)
theorem addA_nz (nm : Tk) (a : At) (s : PS) : NZ (addA nm a s) := by
  unfold addA; split
  · exact NZ.ok
  · rename_i h; exact NZ.er h
theorem atomP_nz (nm : Tk) (s : PS) : NZ (atomP nm s) := by
  unfold atomP
  repeat' split
  all_goals first | exact addA_nz _ _ _ | exact NZ.er (by decide)
theorem moreP_nz {p : PS → PR Ex} (hp : ∀ s, NZ (p s)) : ∀ (m : Nat) (acc : List Ex) (s : PS), NZ (moreP p m acc s)
  | 0, acc, s => by unfold moreP; exact NZ.ok
  | m + 1, acc, s => by
    unfold moreP
    split
    · exact (hp _).bind fun x s' => moreP_nz hp m _ _
    · exact NZ.ok
theorem listP_nz {p : PS → PR Ex} (hp : ∀ s, NZ (p s)) (s : PS) : NZ (listP p s) :=
  (expectP_nz _ _ _).bind fun _ _ => (hp _).bind fun _ _ => (moreP_nz hp _ _ _).bind fun _ _ => (expectP_nz _ _ _).bind fun _ _ => NZ.ok
theorem exprP_nz : ∀ d s, NZ (exprP d s)
  | 0, s => by unfold exprP; split <;> exact NZ.er (by decide)
  | d + 1, s => by
    have ih := exprP_nz d
    unfold exprP
    split
    · exact NZ.er (by decide)
    · split
      · exact NZ.er (by decide)
      · split
        · refine (expectP_nz _ _ _).bind fun _ _ => (listP_nz ih _).bind fun _ _ => ?_
          split
          · exact NZ.er (by decide)
          · exact NZ.ok
        · split
          · exact (listP_nz ih _).bind fun _ _ => NZ.ok
          · split
            · exact (listP_nz ih _).bind fun _ _ => NZ.ok
            · exact atomP_nz _ _
theorem optP_nz (w : List UInt8) (most : Int) (s : PS) : NZ (optP w most s) := by
  unfold optP
  repeat' split
  all_goals first | exact NZ.ok | exact NZ.er (by decide)
theorem parseT_nz (ts : List Tk) : NZ (parseT ts) :=
  (exprP_nz _ _).bind fun _ _ => (optP_nz _ _ _).bind fun _ _ => (optP_nz _ _ _).bind fun _ _ => by
    split
    · exact NZ.ok
    · exact NZ.er (by decide)
theorem parseS_valid {s : List UInt8} (h : (parseS s).2.2 = 0) : valid (parseS s).1.e = true ∧ (0 ≤ (parseS s).1.p ∧ (parseS s).1.p ≤ 7) ∧ (0 ≤ (parseS s).1.m ∧ (parseS s).1.m ≤ 1000) := by
  unfold parseS at h ⊢
  by_cases ht : (tokens s).2.2 ≠ 0
  · rw [if_pos ht] at h; exact absurd h ht
  · rw [if_neg ht] at h ⊢
    have ht' : (tokens s).2.2 = 0 := Classical.not_not.1 ht
    cases hp : parseT (tokens s).1 with
    | error e =>
      rw [hp] at h
      simp only at h
      exact absurd h (parseT_nz _ e hp)
    | ok q =>
      simp only
      exact parse_valid (tokens_TkOk ht') hp
end CL
/- Plain law of the lexer, fourth part: digits become a number. -/
namespace CL
theorem tokens_digits {ds : List UInt8} (hd : ∀ c ∈ ds, at8 dig c = true) (h0 : 0 < ds.length) (hl : ds.length ≤ 1024) :
    tokens ds = if 4 < ds.length ∨ (1 < ds.length ∧ ds[0] = 48) then ([], 0, 8) else ([⟨3, [], val ds, 0⟩, ⟨5, [], 0, ds.length⟩], 0, 0) := by
  have hall : ∀ k, (h : k < ds.length) → at8 dig ds[k] = true := fun k h => hd _ (List.getElem_mem _)
  have h1 : at8 ltr ds[0] = false := by have := hall 0 h0; simp only [at8, dig, ltr, decide_eq_true_eq, decide_eq_false_iff_not] at *; omega
  have h2 : at8 cap ds[0] = false := by have := hall 0 h0; simp only [at8, dig, cap, decide_eq_true_eq, decide_eq_false_iff_not] at *; omega
  have h3 : at8 spc ds[0] = false := by
    have := hall 0 h0
    simp only [at8, dig, spc, decide_eq_true_eq] at *
    have e : ∀ v : Int, v < 48 → (((ds[0].toNat : Int) == v) = false) := fun v hv => by simp; omega
    simp [e 9 (by decide), e 10 (by decide), e 13 (by decide), e 32 (by decide)]
  have hsp : spanN dig (ds.drop 0) = ds.length := by
    have := spanN_of (p := dig) (s := ds) (i := 0) (j := ds.length) (by omega) (by omega) (fun k _ h => hall k h) (fun h => by omega)
    simpa using this
  have ho := one_num (i := 0) h0 h1 h2 (hall 0 h0)
  rw [hsp] at ho
  unfold tokens
  rw [if_neg (by omega)]
  by_cases hc : 4 < ds.length ∨ (1 < ds.length ∧ ds[0] = 48)
  · rw [if_pos hc] at ho ⊢
    rw [tokF_err h0 h3 (by rw [ho]; decide), ho]; rfl
  · rw [if_neg hc] at ho ⊢
    rw [tokF_tok h0 h3 (by rw [ho]), ho]
    simp only [Nat.zero_add, List.nil_append, List.drop_zero, List.take_length]
    rw [tokF_end rfl]; rfl
/-- the decimal digits of a positive number, none of zero -/
def D : Nat → Nat → List UInt8
  | 0, _ => []
  | f + 1, k => if k = 0 then [] else D f (k / 10) ++ [UInt8.ofNat (48 + k % 10)]
def digits (n : Nat) : List UInt8 := if n = 0 then [48] else D 6 n
theorem byte_dig (k : Nat) : at8 dig (UInt8.ofNat (48 + k % 10)) = true := by
  have h : k % 10 < 10 := Nat.mod_lt _ (by omega)
  simp only [at8, dig, decide_eq_true_eq, UInt8.toNat_ofNat']
  omega
theorem D_dig : ∀ (f k : Nat), ∀ c ∈ D f k, at8 dig c = true
  | 0, _, c, h => by simp [D] at h
  | f + 1, k, c, h => by
    unfold D at h
    split at h
    · simp at h
    · rw [List.mem_append] at h
      rcases h with h | h
      · exact D_dig f _ c h
      · simp only [List.mem_singleton] at h; subst h; exact byte_dig k
theorem val_snoc (l : List UInt8) (c : UInt8) : val (l ++ [c]) = 10 * val l + ((c.toNat : Int) - 48) := by simp [val, List.foldl_append]
theorem D_val : ∀ (f k : Nat), k < 10 ^ f → val (D f k) = k
  | 0, k, h => by simp at h; subst h; rfl
  | f + 1, k, h => by
    unfold D
    split
    · rename_i h0; subst h0; rfl
    · rw [val_snoc, D_val f (k / 10) (by rw [Nat.pow_succ] at h; omega), UInt8.toNat_ofNat']
      have : k % 10 < 10 := Nat.mod_lt _ (by omega)
      omega
theorem D_len : ∀ (f k : Nat), (D f k).length ≤ f
  | 0, _ => by simp [D]
  | f + 1, k => by
    unfold D
    split
    · simp
    · have := D_len f (k / 10); simp; omega
theorem D_len_le : ∀ (f k m : Nat), k < 10 ^ m → (D f k).length ≤ m
  | 0, _, _, _ => by simp [D]
  | f + 1, k, m, h => by
    unfold D
    split
    · simp
    · rename_i h0
      cases m with
      | zero => simp at h; omega
      | succ m =>
        have := D_len_le f (k / 10) m (by rw [Nat.pow_succ] at h; omega)
        simp; omega
theorem D_len_ge : ∀ (f k m : Nat), 10 ^ m ≤ k → m < f → m < (D f k).length
  | 0, _, _, _, h => by omega
  | f + 1, k, m, h, hf => by
    have hp : 0 < 10 ^ m := Nat.pow_pos (by omega)
    unfold D
    rw [if_neg (by omega)]
    cases m with
    | zero => simp
    | succ m =>
      have := D_len_ge f (k / 10) m (by rw [Nat.pow_succ] at h; omega) (by omega)
      simp; omega
theorem D_head : ∀ (f k : Nat), (h : 0 < (D f k).length) → k < 10 ^ f → (D f k)[0] ≠ 48
  | 0, _, h, _ => by simp [D] at h
  | f + 1, k, h, hk => by
    by_cases h0 : k = 0
    · subst h0; simp [D] at h
    · have e : D (f + 1) k = D f (k / 10) ++ [UInt8.ofNat (48 + k % 10)] := by simp [D, h0]
      by_cases h1 : 0 < (D f (k / 10)).length
      · have := D_head f (k / 10) h1 (by rw [Nat.pow_succ] at hk; omega)
        simp only [e]
        rw [List.getElem_append_left h1]; exact this
      · have hz : k / 10 = 0 := by
          by_cases hz : k / 10 = 0
          · exact hz
          · exfalso
            have hv := D_val f (k / 10) (by rw [Nat.pow_succ] at hk; omega)
            have hn : D f (k / 10) = [] := List.eq_nil_of_length_eq_zero (by omega)
            rw [hn] at hv
            simp [val] at hv; omega
        have hn : D f (k / 10) = [] := List.eq_nil_of_length_eq_zero (by omega)
        simp only [e, hn]
        simp only [List.nil_append, List.getElem_cons_zero]
        intro hh
        have := congrArg UInt8.toNat hh
        simp only [UInt8.toNat_ofNat'] at this
        have h48 : (48 : UInt8).toNat = 48 := rfl
        omega
theorem zero_dig : at8 dig 48 = true := by decide
theorem tokens_number (n z : Nat) (hn : n ≤ 99999) (hz : z ≤ 3) :
    tokens (List.replicate z 48 ++ digits n) = if 9999 < n ∨ 0 < z then ([], 0, 8) else ([⟨3, [], n, 0⟩, ⟨5, [], 0, (digits n).length⟩], 0, 0) := by
  have hdl : 0 < (digits n).length := by
    unfold digits
    split
    · simp
    · have := D_len_ge 6 n 0 (by omega) (by omega); omega
  have hdl2 : (digits n).length ≤ 6 := by
    unfold digits
    split
    · simp
    · exact D_len 6 n
  have hd : ∀ c ∈ List.replicate z 48 ++ digits n, at8 dig c = true := by
    intro c hc
    rw [List.mem_append] at hc
    rcases hc with hc | hc
    · rw [List.eq_of_mem_replicate hc]; exact zero_dig
    · unfold digits at hc
      split at hc
      · simp at hc; subst hc; exact zero_dig
      · exact D_dig 6 n c hc
  rw [tokens_digits hd (by simp; omega) (by simp; omega)]
  by_cases hz0 : 0 < z
  · rw [if_pos (show 9999 < n ∨ 0 < z from .inr hz0), if_pos]
    exact .inr ⟨by simp; omega, by rw [List.getElem_append_left (by simpa using hz0)]; simp⟩
  · obtain rfl : z = 0 := by omega
    simp only [List.replicate_zero, List.nil_append]
    by_cases h9 : 9999 < n
    · rw [if_pos (show 9999 < n ∨ 0 < 0 from .inl h9), if_pos]
      refine .inl ?_
      unfold digits
      rw [if_neg (by omega)]
      exact D_len_ge 6 n 4 (by omega) (by omega)
    · rw [if_neg (show ¬ (9999 < n ∨ 0 < 0) by omega)]
      by_cases h0 : n = 0
      · subst h0; rfl
      · have e : digits n = D 6 n := by simp [digits, h0]
        have h4 : (D 6 n).length ≤ 4 := D_len_le 6 n 4 (by omega)
        have hv : val (digits n) = n := by rw [e]; exact D_val 6 n (by omega)
        rw [if_neg ?_, hv]
        rintro (h | ⟨_, h⟩)
        · rw [e] at h; omega
        · exact D_head 6 n (by rw [← e]; exact hdl) (by omega) (by simpa [e] using h)
end CL
/- Plain: lexemes; texts that are put together of lexemes and spaces; a text of tokens comes apart into lexemes and spaces. No program in sight. -/
namespace CL
/-- a token without its place -/
abbrev Et := Int × List UInt8 × Int
/-- the lexeme x means t -/
def IsLx (x : List UInt8) (t : Et) : Prop :=
  ∃ c l, x = c :: l ∧
   ((at8 ltr c = true ∧ l.all (at8 prt) = true ∧ x.length ≤ 12 ∧ t = (1, x, 0)) ∨
    (at8 ltr c = false ∧ at8 cap c = true ∧ l.all (at8 cap) = true ∧ prs x ≠ 0 ∧ t = (2, x, prs x)) ∨
    (at8 ltr c = false ∧ at8 cap c = false ∧ at8 dig c = true ∧ l.all (at8 dig) = true ∧ ¬ (4 < x.length ∨ (1 < x.length ∧ c = 48)) ∧ t = (3, [], val x)) ∨
    (at8 ltr c = false ∧ at8 cap c = false ∧ at8 dig c = false ∧ at8 pun c = true ∧ l = [] ∧ t = (4, [c], 0)))
/-- a byte does not go on with what begins with c -/
def goesOn (c d : UInt8) : Bool := (at8 ltr c && at8 prt d) || (!at8 ltr c && at8 cap c && at8 cap d) || (!at8 ltr c && !at8 cap c && at8 dig c && at8 dig d)
def Stop (x r : List UInt8) : Prop := ∀ c l d q, x = c :: l → r = d :: q → goesOn c d = false
theorem takeWhile_app {p : UInt8 → Bool} {x r : List UInt8} (h1 : x.all p = true) (h2 : ∀ d q, r = d :: q → p d = false) : (x ++ r).takeWhile p = x := by
  induction x with
  | nil =>
    cases r with
    | nil => rfl
    | cons d q => simp [h2 d q rfl]
  | cons c x ih =>
    simp only [List.all_cons, Bool.and_eq_true] at h1
    simp [h1.1, ih h1.2]
theorem spanN_app {p : Int → Bool} {x r : List UInt8} (h1 : x.all (at8 p) = true) (h2 : ∀ d q, r = d :: q → at8 p d = false) : spanN p (x ++ r) = x.length := by
  unfold spanN; rw [takeWhile_app h1 h2]
theorem one_lx {x r : List UInt8} {t : Et} {i : Nat} (h : IsLx x t) (hs : Stop x r) : one (x ++ r) i = (0, ⟨t.1, t.2.1, t.2.2, i⟩, x.length) := by
  obtain ⟨c, l, rfl, h⟩ := h
  have hstop : ∀ d q, r = d :: q → goesOn c d = false := fun d q e => hs c l d q rfl e
  unfold one
  rw [List.cons_append]
  simp only
  rcases h with ⟨h1, h2, h3, rfl⟩ | ⟨h0, h1, h2, h3, rfl⟩ | ⟨h0, h0', h1, h2, h3, rfl⟩ | ⟨h0, h0', h1, h2, rfl, rfl⟩
  · have hsp : spanN prt (c :: (l ++ r)) = (c :: l).length := by
      rw [← List.cons_append]
      refine spanN_app (by simp [prt_ltr h1, h2]) (fun d q e => ?_)
      have := hstop d q e
      simp [goesOn, h1] at this
      exact this
    rw [if_pos h1, hsp, if_neg (by omega), ← List.cons_append, List.take_left]
  · have hsp : spanN cap (c :: (l ++ r)) = (c :: l).length := by
      rw [← List.cons_append]
      refine spanN_app (by simp [h1, h2]) (fun d q e => ?_)
      have := hstop d q e
      simp [goesOn, h1, h0] at this
      exact this
    rw [if_neg (by simp [h0]), if_pos h1, hsp, ← List.cons_append, List.take_left, if_neg h3]
  · have hsp : spanN dig (c :: (l ++ r)) = (c :: l).length := by
      rw [← List.cons_append]
      refine spanN_app (by simp [h1, h2]) (fun d q e => ?_)
      have := hstop d q e
      simp [goesOn, h1, h0, h0'] at this
      exact this
    rw [if_neg (by simp [h0]), if_neg (by simp [h0']), if_pos h1, hsp, ← List.cons_append, List.take_left, if_neg h3]
  · rw [if_neg (by simp [h0]), if_neg (by simp [h0']), if_neg (by simp [h1]), if_pos h2]
    rfl
theorem lx_pos {x : List UInt8} {t : Et} (h : IsLx x t) : 1 ≤ x.length := by
  obtain ⟨c, l, rfl, _⟩ := h; simp
theorem lx_nspc {x : List UInt8} {t : Et} (h : IsLx x t) : ∃ c l, x = c :: l ∧ at8 spc c = false := by
  obtain ⟨c, l, e, h⟩ := h
  refine ⟨c, l, e, ?_⟩
  have key : at8 ltr c = true ∨ at8 cap c = true ∨ at8 dig c = true ∨ at8 pun c = true := by
    rcases h with h | h | h | h
    · exact .inl h.1
    · exact .inr (.inl h.2.1)
    · exact .inr (.inr (.inl h.2.2.1))
    · exact .inr (.inr (.inr h.2.2.2.1))
  simp only [at8, ltr, cap, dig, pun, spc, decide_eq_true_eq, Bool.or_eq_true, beq_iff_eq] at *
  generalize (c.toNat : Int) = z at *
  simp only [Bool.or_eq_false_iff, beq_eq_false_iff_ne]
  omega
/-- space ends whatever was begun -/
theorem space_stops {c d : UInt8} (h : at8 spc d = true) : goesOn c d = false := by
  simp only [at8, spc, Bool.or_eq_true, beq_iff_eq] at h
  have h1 : at8 prt d = false := by
    simp only [at8, prt, ltr, dig, Bool.or_eq_false_iff, decide_eq_false_iff_not, beq_eq_false_iff_ne]; omega
  have h2 : at8 cap d = false := by simp only [at8, cap, decide_eq_false_iff_not]; omega
  have h3 : at8 dig d = false := by simp only [at8, dig, decide_eq_false_iff_not]; omega
  simp [goesOn, h1, h2, h3]
/-- a text is read as these tokens -/
inductive Lexes : List UInt8 → List Et → Prop
  | done : Lexes [] [(5, [], 0)]
  | space (c : UInt8) (r : List UInt8) (L : List Et) : at8 spc c = true → Lexes r L → Lexes (c :: r) L
  | tok (x : List UInt8) (t : Et) (r : List UInt8) (L : List Et) : IsLx x t → Stop x r → Lexes r L → Lexes (x ++ r) (t :: L)
theorem Lexes.toks {r : List UInt8} {L : List Et} (h : Lexes r L) : ∀ (f i : Nat) (acc : List Tk), r.length < f → ∃ l, toks f i r acc = (acc ++ l, 0, 0) ∧ l.map er = L := by
  induction h with
  | done =>
    intro f i acc hf
    cases f with
    | zero => simp at hf
    | succ f => exact ⟨_, rfl, rfl⟩
  | space c r L hc _ ih =>
    intro f i acc hf
    cases f with
    | zero => simp at hf
    | succ f =>
      obtain ⟨l, h1, h2⟩ := ih f (i + 1) acc (by simpa using hf)
      refine ⟨l, ?_, h2⟩
      unfold CL.toks
      rw [if_pos hc, h1]
  | tok x t r L hx hs _ ih =>
    intro f i acc hf
    have hp := lx_pos hx
    obtain ⟨c, l0, e, hsp⟩ := lx_nspc hx
    have ho := one_lx (i := i) hx hs
    cases f with
    | zero => simp at hf
    | succ f =>
      obtain ⟨l, h1, h2⟩ := ih f (i + x.length) (acc ++ [⟨t.1, t.2.1, t.2.2, i⟩]) (by simp only [List.length_append] at hf; omega)
      refine ⟨⟨t.1, t.2.1, t.2.2, i⟩ :: l, ?_, by rw [List.map_cons, h2]; rfl⟩
      rw [e, List.cons_append] at ho ⊢
      unfold CL.toks
      rw [if_neg (by simp [hsp]), ho]
      simp only [if_true]
      rw [← List.cons_append, ← e, List.drop_left, h1]
      simp
theorem Lexes.tokens {s : List UInt8} {L : List Et} (h : Lexes s L) (hl : s.length ≤ 1024) : (tokens s).2 = (0, 0) ∧ (tokens s).1.map er = L := by
  obtain ⟨l, h1, h2⟩ := h.toks (s.length + 1) 0 [] (by omega)
  unfold CL.tokens tokF
  rw [if_neg (by omega), List.drop_zero, h1]
  exact ⟨rfl, h2⟩
theorem Lexes.spaces {p r : List UInt8} {L : List Et} (hp : p.all (at8 spc) = true) (h : Lexes r L) : Lexes (p ++ r) L := by
  induction p with
  | nil => exact h
  | cons c p ih =>
    simp only [List.all_cons, Bool.and_eq_true] at hp
    exact .space c _ L hp.1 (ih hp.2)
/-- lexemes, each with space behind it -/
theorem Lexes.joins : ∀ (ps : List (List UInt8 × List UInt8 × Et)), (∀ p ∈ ps, IsLx p.1 p.2.2 ∧ p.2.1 ≠ [] ∧ p.2.1.all (at8 spc) = true) →
    Lexes (ps.flatMap fun p => p.1 ++ p.2.1) (ps.map (·.2.2) ++ [(5, [], 0)])
  | [], _ => .done
  | p :: ps, h => by
    obtain ⟨h1, h2, h3⟩ := h p (by simp)
    have ih := Lexes.joins ps (fun q hq => h q (by simp [hq]))
    rw [List.flatMap_cons, List.map_cons, List.cons_append, List.append_assoc]
    refine .tok p.1 p.2.2 _ _ h1 ?_ (ih.spaces h3)
    intro c l d q _ e
    cases hp : p.2.1 with
    | nil => exact absurd hp h2
    | cons z zs =>
      rw [hp] at e h3
      simp only [List.cons_append, List.cons.injEq] at e
      simp only [List.all_cons, Bool.and_eq_true] at h3
      rw [← e.1]
      exact space_stops h3.1
/-- the other way round: what was read as a token is a lexeme -/
theorem one_is {r : List UInt8} {i n : Nat} {t : Tk} (h : one r i = (0, t, n)) : ∃ x r', r = x ++ r' ∧ x.length = n ∧ IsLx x (er t) ∧ t.pos = i := by
  unfold one at h
  cases r with
  | nil => simp at h
  | cons c r =>
    simp only at h
    by_cases h1 : at8 ltr c = true
    · rw [if_pos h1] at h
      by_cases h2 : 12 < spanN prt (c :: r)
      · rw [if_pos h2] at h; simp at h
      · rw [if_neg h2] at h
        injection h with _ h
        injection h with h hn
        subst h hn
        have e := take_span prt (c :: r)
        have e2 : (c :: r).takeWhile (at8 prt) = c :: r.takeWhile (at8 prt) := by simp [prt_ltr h1]
        refine ⟨(c :: r).takeWhile (at8 prt), (c :: r).dropWhile (at8 prt), List.takeWhile_append_dropWhile.symm, rfl, ⟨c, r.takeWhile (at8 prt), e2, .inl ⟨h1, List.all_takeWhile, ?_, ?_⟩⟩, rfl⟩
        · have : spanN prt (c :: r) = ((c :: r).takeWhile (at8 prt)).length := rfl; omega
        · simp only [er]; rw [e]
    · rw [if_neg h1] at h
      simp only [Bool.not_eq_true] at h1
      by_cases h2 : at8 cap c = true
      · rw [if_pos h2] at h
        by_cases h3 : prs ((c :: r).take (spanN cap (c :: r))) = 0
        · rw [if_pos h3] at h; simp at h
        · rw [if_neg h3] at h
          injection h with _ h
          injection h with h hn
          subst h hn
          have e := take_span cap (c :: r)
          have e2 : (c :: r).takeWhile (at8 cap) = c :: r.takeWhile (at8 cap) := by simp [h2]
          rw [e] at h3
          refine ⟨(c :: r).takeWhile (at8 cap), (c :: r).dropWhile (at8 cap), List.takeWhile_append_dropWhile.symm, rfl, ⟨c, r.takeWhile (at8 cap), e2, .inr (.inl ⟨h1, h2, List.all_takeWhile, h3, ?_⟩)⟩, rfl⟩
          simp only [er]; rw [e]
      · rw [if_neg h2] at h
        simp only [Bool.not_eq_true] at h2
        by_cases h3 : at8 dig c = true
        · rw [if_pos h3] at h
          by_cases h4 : 4 < spanN dig (c :: r) ∨ (1 < spanN dig (c :: r) ∧ c = 48)
          · rw [if_pos h4] at h; simp at h
          · rw [if_neg h4] at h
            injection h with _ h
            injection h with h hn
            subst h hn
            have e := take_span dig (c :: r)
            have e2 : (c :: r).takeWhile (at8 dig) = c :: r.takeWhile (at8 dig) := by simp [h3]
            refine ⟨(c :: r).takeWhile (at8 dig), (c :: r).dropWhile (at8 dig), List.takeWhile_append_dropWhile.symm, rfl, ⟨c, r.takeWhile (at8 dig), e2, .inr (.inr (.inl ⟨h1, h2, h3, List.all_takeWhile, h4, ?_⟩))⟩, rfl⟩
            simp only [er]; rw [e]
        · rw [if_neg h3] at h
          simp only [Bool.not_eq_true] at h3
          by_cases h4 : at8 pun c = true
          · rw [if_pos h4] at h
            injection h with _ h
            injection h with h hn
            subst h hn
            exact ⟨[c], r, rfl, rfl, ⟨c, [], rfl, .inr (.inr (.inr ⟨h1, h2, h3, h4, rfl, rfl⟩))⟩, rfl⟩
          · rw [if_neg h4] at h; simp at h
/-- the piece of s from a to b -/
def piece (s : List UInt8) (a b : Nat) : List UInt8 := (s.drop a).take (b - a)
theorem piece_app (s : List UInt8) {a b c : Nat} (h1 : a ≤ b) (h2 : b ≤ c) : piece s a c = piece s a b ++ piece s b c := by
  unfold piece
  rw [show c - a = (b - a) + (c - b) by omega, List.take_add, List.drop_drop]
  congr 3
  omega
/-- the k-th token as it stands in s: a lexeme, with space behind it up to the next token -/
def Apart (s : List UInt8) (l : List Tk) : Prop := ∀ k, (h : k + 1 < l.length) → ∃ x p, piece s l[k].pos.toNat l[k + 1].pos.toNat = x ++ p ∧ IsLx x (er l[k]) ∧ p.all (at8 spc) = true
def ApartI (s : List UInt8) (i : Nat) (l : List Tk) : Prop := Apart s l ∧ ∃ h : 0 < l.length, i ≤ l[0].pos.toNat ∧ l[0].pos.toNat ≤ s.length ∧ (piece s i l[0].pos.toNat).all (at8 spc) = true
theorem tokens_apart {s : List UInt8} (h : (tokens s).2.2 = 0) : Apart s (tokens s).1 := by
  refine (tokens_ind (ApartI s) ?_ ?_ ?_ h).1.1
  · refine ⟨fun k hk => by simp at hk, by simp, ?_⟩
    simp [piece]
  · intro i l hi hsp hp
    obtain ⟨h1, h2, h3, h4, h5⟩ := hp
    refine ⟨h1, h2, by omega, h4, ?_⟩
    rw [piece_app s (show i ≤ i + 1 by omega) h3, List.all_append, h5, Bool.and_true]
    have e : piece s i (i + 1) = [s[i]] := by
      unfold piece
      rw [List.drop_eq_getElem_cons hi, show i + 1 - i = 1 by omega]
      rfl
    rw [e]
    simp [hsp]
  · intro i l t n hi hns ho hn hin hp
    obtain ⟨h1, h2, h3, h4, h5⟩ := hp
    obtain ⟨x, r', e1, e2, e3, e4⟩ := one_is ho
    have e5 : t.pos.toNat = i := by omega
    refine ⟨fun k hk => ?_, by simp, by simp [e5], by simp [e5]; omega, ?_⟩
    · cases k with
      | zero =>
        simp only [List.getElem_cons_zero, Nat.zero_add, List.getElem_cons_succ]
        refine ⟨x, piece s (i + n) l[0].pos.toNat, ?_, e3, h5⟩
        rw [e5, piece_app s (show i ≤ i + n by omega) h3]
        congr 1
        unfold piece
        rw [e1, show i + n - i = x.length by omega, List.take_left]
      | succ k =>
        have := h1 k (by simpa using hk)
        simpa using this
    · simp only [List.getElem_cons_zero]
      rw [e5]
      simp [piece]
/-- the text of a number -/
theorem digits_lx {n : Nat} (h : n ≤ 9999) : IsLx (digits n) (3, [], (n : Int)) := by
  have hd : ∀ c ∈ digits n, at8 dig c = true := by
    intro c hc
    unfold digits at hc
    split at hc
    · simp at hc; subst hc; decide
    · exact D_dig 6 n c hc
  have hv : val (digits n) = n := by
    unfold digits
    split
    · rename_i h0; subst h0; decide
    · exact D_val 6 n (by omega)
  have hl : (digits n).length ≤ 4 := by
    unfold digits
    split
    · simp
    · exact D_len_le 6 n 4 (by omega)
  have hh : 1 < (digits n).length → ∀ c l, digits n = c :: l → c ≠ 48 := by
    intro h1 c l e
    unfold digits at e h1
    split at e
    · rename_i h0; rw [if_pos h0] at h1; simp at h1
    · rename_i h0
      have h2 : 0 < (D 6 n).length := by rw [e]; simp
      have := D_head 6 n h2 (by omega)
      simp only [e, List.getElem_cons_zero] at this
      exact this
  have h0 : 0 < (digits n).length := by
    unfold digits
    split
    · simp
    · have := D_len_ge 6 n 0 (by omega) (by omega); omega
  cases hx : digits n with
  | nil => rw [hx] at h0; simp at h0
  | cons c l =>
    have hc := hd c (by rw [hx]; simp)
    refine ⟨c, l, rfl, .inr (.inr (.inl ⟨?_, ?_, hc, ?_, ?_, by rw [← hx, hv]⟩))⟩
    · simp only [at8, dig, ltr, decide_eq_true_eq, decide_eq_false_iff_not] at *; omega
    · simp only [at8, dig, cap, decide_eq_true_eq, decide_eq_false_iff_not] at *; omega
    · exact List.all_eq_true.2 (fun z hz => hd z (by rw [hx]; simp [hz]))
    · rw [← hx]
      rintro (h1 | ⟨h1, h2⟩)
      · omega
      · exact hh h1 c l hx h2
end CL
/- Plain: the text of a request; it is read as its tokens; its tokens are parsed to the request. No program in sight. -/
namespace CL
set_option linter.unusedSimpArgs false
/-- texts, one behind the other, with a comma and a space between -/
def sj : List (List UInt8) → List UInt8
  | [] => []
  | x :: r => x ++ r.flatMap fun y => [44, 32] ++ y
theorem sj_snoc (l : List (List UInt8)) (x : List UInt8) : sj (l ++ [x]) = sj l ++ ((if l = [] then [] else [44, 32]) ++ x) := by
  cases l with
  | nil => simp [sj]
  | cons y l => simp [sj, List.flatMap_append]
def atxt (a : At) : List UInt8 := a.n ++ (if a.a.m ≠ 0 then 58 :: nm a.a.m else 42 :: dg1 a.a.u)
/-- what stands ahead of the kids -/
def ghead (k : Int) (n : Nat) : List UInt8 := if k = n then [97, 108, 108, 40] else if k = 1 then [97, 110, 121, 40] else digits k.toNat ++ [32, 111, 102, 32, 40]
mutual
def fmtE : Ex → List UInt8
  | .mk k a kids => if kids = [] then atxt a else ghead k kids.length ++ sj (fmtK kids) ++ [41]
def fmtK : List Ex → List (List UInt8)
  | [] => []
  | e :: r => fmtE e :: fmtK r
end
theorem fmtK_map : ∀ l : List Ex, fmtK l = l.map fmtE
  | [] => rfl
  | e :: r => by simp [fmtK, fmtK_map r]
def numTxt (w : List UInt8) (n : Int) : List UInt8 := if n = 0 then [] else [32] ++ w ++ [32] ++ digits n.toNat
def fmtQ (q : Rq) : List UInt8 := fmtE q.e ++ numTxt wPrio q.p ++ numTxt wLimit q.m
/-- which requests are valid -/
def validQ (q : Rq) : Bool := valid q.e && decide (0 ≤ q.p ∧ q.p ≤ 7 ∧ 0 ≤ q.m ∧ q.m ≤ 1000)
def fmt? (q : Rq) : List UInt8 := if validQ q then fmtQ q else []
def fmtX? (e : Ex) : List UInt8 := if valid e then fmtE e else []
/-- the tokens of a text, without their places -/
def atk (a : At) : List Et := (1, a.n, 0) :: (if a.a.m ≠ 0 then [(4, [58], 0), (2, nm a.a.m, a.a.m)] else [(4, [42], 0), (3, [], a.a.u)])
def hdk (k : Int) (n : Nat) : List Et := if k = n then [(1, wAll, 0)] else if k = 1 then [(1, wAny, 0)] else [(3, [], k), (1, wOf, 0)]
def sjk : List (List Et) → List Et
  | [] => []
  | x :: r => x ++ r.flatMap fun y => (4, [44], 0) :: y
mutual
def tkE : Ex → List Et
  | .mk k a kids => if kids = [] then atk a else hdk k kids.length ++ (4, [40], 0) :: (sjk (tkK kids) ++ [(4, [41], 0)])
def tkK : List Ex → List (List Et)
  | [] => []
  | e :: r => tkE e :: tkK r
end
theorem tkK_map : ∀ l : List Ex, tkK l = l.map tkE
  | [] => rfl
  | e :: r => by simp [tkK, tkK_map r]
def numTk (w : List UInt8) (n : Int) : List Et := if n = 0 then [] else [(1, w, 0), (3, [], n)]
def tkQ (q : Rq) : List Et := tkE q.e ++ numTk wPrio q.p ++ numTk wLimit q.m ++ [(5, [], 0)]
/-- a text may go on with r behind whatever token -/
def Ends (r : List UInt8) : Prop := ∀ d q, r = d :: q → at8 prt d = false ∧ at8 cap d = false ∧ at8 dig d = false
theorem Ends.stop {x r : List UInt8} (h : Ends r) : Stop x r := fun c l d q _ e => by
  obtain ⟨h1, h2, h3⟩ := h d q e
  simp [goesOn, h1, h2, h3]
theorem Ends.cons {d : UInt8} {q : List UInt8} (h : (at8 prt d = false ∧ at8 cap d = false) ∧ at8 dig d = false) : Ends (d :: q) := fun d' q' e => by
  injection e with e1 e2; subst e1; exact ⟨h.1.1, h.1.2, h.2⟩
theorem Ends.nil : Ends [] := fun d q e => by cases e
theorem pun_lx {c : UInt8} (h : at8 pun c = true) : IsLx [c] (4, [c], 0) := by
  have h' := h
  simp only [at8, pun, Bool.or_eq_true, beq_iff_eq] at h'
  refine ⟨c, [], rfl, .inr (.inr (.inr ⟨?_, ?_, ?_, h, rfl, rfl⟩))⟩
  · simp only [at8, ltr, decide_eq_false_iff_not]; omega
  · simp only [at8, cap, decide_eq_false_iff_not]; omega
  · simp only [at8, dig, decide_eq_false_iff_not]; omega
theorem pun_stop {c : UInt8} {r : List UInt8} (h : at8 pun c = true) : Stop [c] r := fun c' l d q e _ => by
  injection e with e1 e2
  subst e1
  simp only [at8, pun, Bool.or_eq_true, beq_iff_eq] at h
  have h1 : at8 ltr c = false := by simp only [at8, ltr, decide_eq_false_iff_not]; omega
  have h2 : at8 cap c = false := by simp only [at8, cap, decide_eq_false_iff_not]; omega
  have h3 : at8 dig c = false := by simp only [at8, dig, decide_eq_false_iff_not]; omega
  simp [goesOn, h1, h2, h3]
theorem Lexes.pun {c : UInt8} {r : List UInt8} {L : List Et} (hc : at8 pun c = true) (h : Lexes r L) : Lexes (c :: r) ((4, [c], 0) :: L) := .tok [c] _ r L (pun_lx hc) (pun_stop hc) h
theorem vname_lx {n : List UInt8} (h : vname n = true) : IsLx n (1, n, 0) := by
  cases n with
  | nil => simp [vname] at h
  | cons c r =>
    simp only [vname, Bool.and_eq_true, decide_eq_true_eq] at h
    exact ⟨c, r, rfl, .inl ⟨h.1.2, h.2, by simp only [List.length_cons]; omega, rfl⟩⟩
theorem nm_lx {m : Int} (h : vld m = true) : IsLx (nm m) (2, nm m, m) := by
  rcases vld_cases h with rfl | rfl | rfl | rfl | rfl
  · exact ⟨73, [83], rfl, .inr (.inl (by decide))⟩
  · exact ⟨73, [88], rfl, .inr (.inl (by decide))⟩
  · exact ⟨83, [], rfl, .inr (.inl (by decide))⟩
  · exact ⟨83, [73, 88], rfl, .inr (.inl (by decide))⟩
  · exact ⟨88, [], rfl, .inr (.inl (by decide))⟩
theorem dg1_digits {u : Int} (h1 : 1 ≤ u) (h2 : u ≤ 8) : dg1 u = digits u.toNat := by
  have : u = 1 ∨ u = 2 ∨ u = 3 ∨ u = 4 ∨ u = 5 ∨ u = 6 ∨ u = 7 ∨ u = 8 := by omega
  rcases this with rfl | rfl | rfl | rfl | rfl | rfl | rfl | rfl <;> decide
theorem num_lx {u : Int} (h1 : 0 ≤ u) (h2 : u ≤ 9999) : IsLx (digits u.toNat) (3, [], u) := by
  have := digits_lx (n := u.toNat) (by omega)
  rwa [Int.toNat_of_nonneg h1] at this
theorem usable_cases {a : Am} (h : usable a = true) : (vld a.m = true ∧ a.m ≠ 0 ∧ a.u = 0) ∨ (a.m = 0 ∧ 1 ≤ a.u ∧ a.u ≤ 8) := by
  simp only [usable, Bool.or_eq_true, Bool.and_eq_true, beq_iff_eq, decide_eq_true_eq] at h
  rcases h with h | h
  · exact .inl ⟨h.1, vld_ne h.1, h.2⟩
  · exact .inr h
theorem atom_lexes {a : At} {r : List UInt8} {L : List Et} (h : vatom a = true) (hr : Ends r) (hL : Lexes r L) : Lexes (atxt a ++ r) (atk a ++ L) := by
  simp only [vatom, Bool.and_eq_true] at h
  unfold atxt atk
  rcases usable_cases h.2 with ⟨h1, h2, h3⟩ | ⟨h1, h2, h3⟩
  · rw [if_pos h2, if_pos h2]
    simp only [List.append_assoc, List.cons_append, List.nil_append]
    exact .tok a.n _ _ _ (vname_lx h.1) (Ends.cons (by decide)).stop (.pun (by decide) (.tok (nm a.a.m) _ r L (nm_lx h1) hr.stop hL))
  · rw [if_neg (by omega), if_neg (by omega)]
    simp only [List.append_assoc, List.cons_append, List.nil_append]
    refine .tok a.n _ _ _ (vname_lx h.1) (Ends.cons (by decide)).stop (.pun (by decide) (.tok (dg1 a.a.u) _ r L ?_ hr.stop hL))
    rw [dg1_digits h2 h3]
    exact num_lx (by omega) (by omega)
theorem word_lx {w : List UInt8} (h : w = wAll ∨ w = wAny ∨ w = wOf ∨ w = wPrio ∨ w = wLimit) : IsLx w (1, w, 0) := by
  rcases h with rfl | rfl | rfl | rfl | rfl
  · exact ⟨97, [108, 108], rfl, .inl (by decide)⟩
  · exact ⟨97, [110, 121], rfl, .inl (by decide)⟩
  · exact ⟨111, [102], rfl, .inl (by decide)⟩
  · exact ⟨112, [114, 105, 111], rfl, .inl (by decide)⟩
  · exact ⟨108, [105, 109, 105, 116], rfl, .inl (by decide)⟩
theorem head_lexes {k : Int} {n : Nat} {r : List UInt8} {L : List Et} (h1 : 1 ≤ k) (h2 : k ≤ 9999) (hL : Lexes r L) : Lexes (ghead k n ++ r) (hdk k n ++ (4, [40], 0) :: L) := by
  have hp : Lexes (40 :: r) ((4, [40], 0) :: L) := .pun (by decide) hL
  unfold ghead hdk
  split
  · exact .tok wAll _ (40 :: r) _ (word_lx (.inl rfl)) (Ends.cons (by decide)).stop hp
  · split
    · exact .tok wAny _ (40 :: r) _ (word_lx (.inr (.inl rfl))) (Ends.cons (by decide)).stop hp
    · simp only [List.append_assoc, List.cons_append, List.nil_append]
      refine .tok (digits k.toNat) _ _ _ (num_lx (by omega) h2) (Ends.cons (by decide)).stop (.space 32 _ _ (by decide) ?_)
      exact .tok wOf _ (32 :: 40 :: r) _ (word_lx (.inr (.inr (.inl rfl)))) (Ends.cons (by decide)).stop (.space 32 _ _ (by decide) hp)
/-- every node is an atom or a group with a number of at most 9999 -/
inductive Wf : Ex → Prop
  | atom (a : At) : vatom a = true → Wf (.mk 0 a [])
  | group (k : Int) (kids : List Ex) : kids ≠ [] → 1 ≤ k → k ≤ kids.length → kids.length ≤ 24 → (∀ e ∈ kids, Wf e) → Wf (.mk k noAt kids)
theorem sj_lexes : ∀ (kids : List Ex), (∀ e ∈ kids, ∀ r L, Ends r → Lexes r L → Lexes (fmtE e ++ r) (tkE e ++ L)) → ∀ r L, Ends r → Lexes r L →
    Lexes ((kids.flatMap fun e => [44, 32] ++ fmtE e) ++ r) ((kids.flatMap fun e => (4, [44], 0) :: tkE e) ++ L)
  | [], _, r, L, _, h => h
  | e :: kids, hk, r, L, he, h => by
    have ih := sj_lexes kids (fun x hx => hk x (by simp [hx])) r L he h
    rw [List.flatMap_cons, List.flatMap_cons]
    rw [show [44, 32] ++ fmtE e ++ (kids.flatMap fun e => [44, 32] ++ fmtE e) ++ r = 44 :: 32 :: (fmtE e ++ ((kids.flatMap fun e => [44, 32] ++ fmtE e) ++ r)) by simp,
      show (4, [44], 0) :: tkE e ++ (kids.flatMap fun e => (4, [44], 0) :: tkE e) ++ L = (4, [44], 0) :: (tkE e ++ ((kids.flatMap fun e => (4, [44], 0) :: tkE e) ++ L)) by simp]
    refine .pun (by decide) (.space 32 _ _ (by decide) (hk e (by simp) _ _ ?_ ih))
    cases kids with
    | nil => exact he
    | cons e' kids => rw [List.flatMap_cons]; simp only [List.cons_append, List.nil_append]; exact Ends.cons (by decide)
theorem fmtE_lexes {e : Ex} (h : Wf e) : ∀ r L, Ends r → Lexes r L → Lexes (fmtE e ++ r) (tkE e ++ L) := by
  induction h with
  | atom a ha =>
    intro r L he hL
    simp only [fmtE, tkE, if_true]
    exact atom_lexes ha he hL
  | group k kids hne h1 h2 h3 _ ih =>
    intro r L he hL
    simp only [fmtE, tkE, if_neg hne]
    rw [List.append_assoc, List.append_assoc, show hdk k kids.length ++ (4, [40], 0) :: (sjk (tkK kids) ++ [(4, [41], 0)]) ++ L = hdk k kids.length ++ (4, [40], 0) :: ((sjk (tkK kids) ++ [(4, [41], 0)]) ++ L) by simp]
    refine head_lexes h1 (by omega) ?_
    cases kids with
    | nil => exact absurd rfl hne
    | cons e kids =>
      simp only [fmtK, tkK, sj, sjk]
      rw [fmtK_map, tkK_map, List.flatMap_map, List.flatMap_map]
      simp only [List.append_assoc]
      have ht : Lexes ([41] ++ r) ([(4, [41], 0)] ++ L) := .pun (by decide) hL
      have := sj_lexes kids (fun x hx => ih x (by simp [hx])) ([41] ++ r) ([(4, [41], 0)] ++ L) (Ends.cons (by decide)) ht
      simp only [List.cons_append, List.nil_append] at this ⊢
      refine ih e (by simp) _ _ ?_ this
      cases kids with
      | nil => exact Ends.cons (by decide)
      | cons e' kids => rw [List.flatMap_cons]; simp only [List.cons_append, List.nil_append]; exact Ends.cons (by decide)
theorem num_lexes {w : List UInt8} {n : Int} {r : List UInt8} {L : List Et} (hw : w = wPrio ∨ w = wLimit) (h1 : 0 ≤ n) (h2 : n ≤ 9999) (he : Ends r) (hL : Lexes r L) : Lexes (numTxt w n ++ r) (numTk w n ++ L) ∧ Ends (numTxt w n ++ r) := by
  unfold numTxt numTk
  split
  · exact ⟨hL, he⟩
  · simp only [List.append_assoc, List.cons_append, List.nil_append]
    refine ⟨.space 32 _ _ (by decide) (.tok w _ _ _ (word_lx (by rcases hw with h | h <;> simp [h])) (Ends.cons (by decide)).stop (.space 32 _ _ (by decide) (.tok (digits n.toNat) _ r L (num_lx h1 h2) he.stop hL))), Ends.cons (by decide)⟩
theorem fmtQ_lexes {q : Rq} (h : Wf q.e) (hp : 0 ≤ q.p ∧ q.p ≤ 7) (hm : 0 ≤ q.m ∧ q.m ≤ 1000) : Lexes (fmtQ q) (tkQ q) := by
  obtain ⟨l1, e1⟩ := num_lexes (w := wLimit) (n := q.m) (.inr rfl) hm.1 (by omega) Ends.nil .done
  obtain ⟨l2, e2⟩ := num_lexes (w := wPrio) (n := q.p) (.inl rfl) hp.1 (by omega) e1 l1
  have := fmtE_lexes h _ _ e2 l2
  unfold fmtQ tkQ
  simpa using this
/-- a valid expression is well formed -/
theorem radd_wf (e : Ex) : ∀ l x, radd e l = some x → size e ≤ 24 → Wf e := by
  induction e using Ex.ind with
  | h k a kids ih =>
    have hL : ∀ (ks : List Ex), (∀ e ∈ ks, ∀ l x, radd e l = some x → size e ≤ 24 → Wf e) → ∀ l x, raddL ks l = some x → sizeL ks ≤ 24 → ∀ e ∈ ks, Wf e := by
      intro ks
      induction ks with
      | nil => intro _ l x _ _ e he; simp at he
      | cons e ks ihk =>
        intro hk l x h hs
        simp only [sizeL] at hs
        simp only [raddL] at h
        split at h
        · cases h
        · rename_i y hy
          intro z hz
          rcases List.mem_cons.1 hz with rfl | hz
          · exact hk z (by simp) l y hy (by omega)
          · exact ihk (fun x hx => hk x (by simp [hx])) _ _ h (by omega) z hz
    intro l x h hs
    simp only [radd] at h
    simp only [size] at hs
    split at h
    · rename_i hk
      subst hk
      split at h
      · rename_i hv
        obtain ⟨rfl, hv⟩ := hv
        exact .atom a hv
      · cases h
    · rename_i hk
      split at h
      · cases h
      · rename_i hb
        simp only [not_or, ne_eq, Classical.not_not] at hb
        obtain ⟨h1, h2, rfl⟩ := hb
        have := len_sizeL kids
        exact .group k kids hk (by omega) (by omega) (by omega) (hL kids ih l x h (by omega))
theorem valid_wf {e : Ex} (h : valid e = true) : Wf e := by
  obtain ⟨h1, _, h3⟩ := valid_coll h
  exact radd_wf e _ _ h1 (by simp [small] at h3; omega)
/-- how long a text is -/
theorem sj_len : ∀ (kids : List Ex), (∀ e ∈ kids, (fmtE e).length + 2 ≤ 20 * size e) → (kids.flatMap fun e => [44, 32] ++ fmtE e).length ≤ 20 * sizeL kids
  | [], _ => by simp
  | e :: kids, h => by
    have ih := sj_len kids (fun x hx => h x (by simp [hx]))
    have := h e (by simp)
    simp only [List.flatMap_cons, List.length_append, sizeL, List.length_cons, List.length_nil] at *
    omega
theorem fmtE_len {e : Ex} (h : Wf e) : (fmtE e).length + 2 ≤ 20 * size e := by
  induction h with
  | atom a ha =>
    simp only [fmtE, if_true, size, sizeL]
    simp only [vatom, Bool.and_eq_true] at ha
    have hn : a.n.length ≤ 12 := by
      cases hx : a.n with
      | nil => simp
      | cons c r => have := ha.1; rw [hx] at this; simp only [vname, Bool.and_eq_true, decide_eq_true_eq] at this; simp only [List.length_cons]; omega
    have h2 : (nm a.a.m).length ≤ 3 := by
      unfold nm
      repeat' split
      all_goals simp
    unfold atxt
    split <;> simp [dg1] <;> omega
  | group k kids hne h1 h2 h3 _ ih =>
    simp only [fmtE, if_neg hne, size, List.length_append]
    have hg : (ghead k kids.length).length ≤ 9 := by
      unfold ghead
      split
      · simp
      · split
        · simp
        · have : (digits k.toNat).length ≤ 4 := by
            unfold digits
            split
            · simp
            · exact D_len_le 6 _ 4 (by omega)
          simp; omega
    cases kids with
    | nil => exact absurd rfl hne
    | cons e kids =>
      have e1 := ih e (by simp)
      have e2 := sj_len kids (fun x hx => ih x (by simp [hx]))
      simp only [fmtK, sj, fmtK_map, List.flatMap_map, sizeL, List.length_append, List.length_cons, List.length_nil] at *
      omega
theorem fmtQ_len {q : Rq} (h : validQ q = true) : (fmtQ q).length ≤ 600 := by
  simp only [validQ, Bool.and_eq_true, decide_eq_true_eq] at h
  have hw := fmtE_len (valid_wf h.1)
  have hs := (valid_coll h.1).2.2
  simp only [small, decide_eq_true_eq] at hs
  have hd : ∀ n : Int, 0 ≤ n → n ≤ 9999 → (digits n.toNat).length ≤ 4 := by
    intro n h0 h9
    unfold digits
    split
    · simp
    · exact D_len_le 6 _ 4 (by omega)
  have d1 := hd q.p (by omega) (by omega)
  have d2 := hd q.m (by omega) (by omega)
  have n1 : (numTxt wPrio q.p).length ≤ 12 := by unfold numTxt; split <;> simp [wPrio]; omega
  have n2 : (numTxt wLimit q.m).length ≤ 12 := by unfold numTxt; split <;> simp [wLimit]; omega
  unfold fmtQ
  simp only [List.length_append]
  omega
end CL
/- Plain: how many nodes a parser has begun behind what it has read; the fuel of a list suffices. No program in sight. -/
namespace CL
/-- what is read has a node, and not too many -/
def Cnt (p : PS → PR Ex) : Prop := ∀ s x s', s.n ≤ 24 → p s = .ok (x, s') → s.n < s'.n ∧ s'.n ≤ 24
theorem bind_inv {α γ : Type} {x : PR α} {f : α → PS → Except (Int × Int) γ} {r : γ} (h : bindP x f = .ok r) : ∃ a s, x = .ok (a, s) ∧ f a s = .ok r := by
  cases x with
  | error e => simp [bindP] at h
  | ok v => exact ⟨v.1, v.2, rfl, h⟩
theorem expect_n {k : Int} {t : List UInt8} {s s' : PS} {u : Unit} (h : expectP k t s = .ok (u, s')) : s'.n = s.n ∧ s' = s.next ∧ sees k t s = true := by
  unfold expectP at h
  split at h
  · rename_i hs
    injection h with h
    injection h with _ h
    subst h; exact ⟨rfl, rfl, hs⟩
  · cases h
theorem add_n {nm : Tk} {a : At} {s s' : PS} {e : Ex} (h : addA nm a s = .ok (e, s')) : s'.n = s.n := by
  unfold addA at h
  split at h
  · injection h with h
    injection h with _ h
    subst h; rfl
  · cases h
theorem atom_n {nm : Tk} {s s' : PS} {e : Ex} (h : atomP nm s = .ok (e, s')) : s'.n = s.n := by
  unfold atomP at h
  split at h
  · split at h
    · exact (add_n h : s'.n = s.next.next.n)
    · cases h
  · split at h
    · split at h
      · split at h
        · cases h
        · exact (add_n h : s'.n = s.next.next.n)
      · cases h
    · cases h
theorem more_n {p : PS → PR Ex} (hp : Cnt p) : ∀ (m : Nat) (acc : List Ex) (s : PS) (l : List Ex) (s' : PS), s.n ≤ 24 → moreP p m acc s = .ok (l, s') → s.n ≤ s'.n ∧ s'.n ≤ 24
  | 0, acc, s, l, s', hn, h => by
    unfold moreP at h
    injection h with h
    injection h with _ h
    subst h; exact ⟨Nat.le_refl _, hn⟩
  | m + 1, acc, s, l, s', hn, h => by
    unfold moreP at h
    split at h
    · obtain ⟨x, s1, h1, h2⟩ := bind_inv h
      have h3 := hp s.next x s1 hn h1
      have h3' : s.n < s1.n := h3.1
      have := more_n hp m _ s1 l s' h3.2 h2
      omega
    · injection h with h
      injection h with _ h
      subst h; exact ⟨Nat.le_refl _, hn⟩
theorem list_n {p : PS → PR Ex} (hp : Cnt p) {s s' : PS} {l : List Ex} (hn : s.n ≤ 24) (h : listP p s = .ok (l, s')) : s.n < s'.n ∧ s'.n ≤ 24 := by
  unfold listP at h
  obtain ⟨_, s1, h1, h2⟩ := bind_inv h
  obtain ⟨x, s2, h3, h4⟩ := bind_inv h2
  obtain ⟨l2, s3, h5, h6⟩ := bind_inv h4
  obtain ⟨_, s4, h7, h8⟩ := bind_inv h6
  injection h8 with h8
  injection h8 with _ h8
  subst h8
  have e1 := (expect_n h1).1
  have e2 := hp s1 x s2 (by omega) h3
  have e3 := more_n hp 25 _ s2 l2 s3 e2.2 h5
  have e4 := (expect_n h7).1
  omega
theorem expr_n : ∀ d, Cnt (exprP d)
  | 0 => by
    intro s x s' _ h
    unfold exprP at h
    split at h <;> cases h
  | d + 1 => by
    intro s x s' hn h
    have ih := expr_n d
    unfold exprP at h
    split at h
    · cases h
    · split at h
      · cases h
      · rename_i hb
        split at h
        · obtain ⟨_, s1, h1, h2⟩ := bind_inv h
          obtain ⟨l, s2, h3, h4⟩ := bind_inv h2
          have e1 := (expect_n h1).1
          simp only at e1
          have e2 := list_n ih (by omega) h3
          split at h4
          · cases h4
          · injection h4 with h4
            injection h4 with _ h4
            subst h4
            omega
        · split at h
          · obtain ⟨l, s2, h3, h4⟩ := bind_inv h
            have e2 := list_n ih (by show s.n + 1 ≤ 24; omega) h3
            simp only at e2
            injection h4 with h4
            injection h4 with _ h4
            subst h4
            omega
          · split at h
            · obtain ⟨l, s2, h3, h4⟩ := bind_inv h
              have e2 := list_n ih (by show s.n + 1 ≤ 24; omega) h3
              simp only at e2
              injection h4 with h4
              injection h4 with _ h4
              subst h4
              omega
            · have := atom_n h
              simp only at this
              omega
end CL
/- Plain: the tokens of a valid request are parsed to it. No program in sight. -/
namespace CL
set_option linter.unusedSimpArgs false
theorem hd_er {s : PS} {t : Et} {L : List Et} (h : s.r.map er = t :: L) : er s.hd = t ∧ s.next.r.map er = L := by
  unfold PS.hd hdT PS.next
  cases hr : s.r with
  | nil => rw [hr] at h; simp at h
  | cons x r => rw [hr] at h; simp at h; exact ⟨h.1, h.2⟩
theorem sees_er {s : PS} {t : Et} {L : List Et} (h : s.r.map er = t :: L) (k : Int) (x : List UInt8) : sees k x s = decide (t.1 = k ∧ t.2.1 = x) := by
  obtain ⟨h1, _⟩ := hd_er h
  unfold sees
  rw [show s.hd.kind = t.1 from congrArg (·.1) h1, show s.hd.text = t.2.1 from congrArg (·.2.1) h1]
theorem expectP_er {s : PS} {k : Int} {x : List UInt8} {n : Int} {L : List Et} (h : s.r.map er = (k, x, n) :: L) : expectP k x s = .ok ((), s.next) := by
  unfold expectP
  rw [sees_er h]
  simp
theorem bind_ok {α γ : Type} (a : α) (s : PS) (f : α → PS → Except (Int × Int) γ) : bindP (.ok (a, s)) f = f a s := rfl
/-- s' is s, behind e -/
structure Done (e : Ex) (s s' : PS) (L : List Et) : Prop where
  n : s'.n = s.n + size e
  l : radd e s.l = some s'.l
  r : s'.r.map er = L
def Full (d : Nat) (p : PS → PR Ex) : Prop := ∀ e s L x, Wf e → depth e ≤ d → radd e s.l = some x → Good x → s.n + size e ≤ 24 → s.r.map er = tkE e ++ L → ∃ s', p s = .ok (e, s') ∧ Done e s s' L
theorem raddL_pre : ∀ (ks : List Ex) l x, raddL ks l = some x → ∃ r, x = l ++ r
  | [], l, x, h => by simp [raddL] at h; exact ⟨[], by simp [h]⟩
  | e :: ks, l, x, h => by
    simp only [raddL] at h
    split at h
    · cases h
    · rename_i y hy
      obtain ⟨r1, rfl⟩ := radd_pre e l y hy
      obtain ⟨r2, rfl⟩ := raddL_pre ks _ _ h
      exact ⟨r1 ++ r2, by simp⟩
theorem moreP_full {d : Nat} {p : PS → PR Ex} (hp : Full d p) : ∀ (kids : List Ex) (m : Nat) (acc : List Ex) (s : PS) (L : List Et) (x : List At), kids.length < m → (∀ e ∈ kids, Wf e ∧ depth e ≤ d) → raddL kids s.l = some x → Good x → s.n + sizeL kids ≤ 24 →
    s.r.map er = (kids.flatMap fun e => (4, [44], 0) :: tkE e) ++ (4, [41], 0) :: L → ∃ s', moreP p m acc s = .ok (acc ++ kids, s') ∧ s'.n = s.n + sizeL kids ∧ s'.l = x ∧ s'.r.map er = (4, [41], 0) :: L
  | [], m, acc, s, L, x, hm, _, hr, _, _, h => by
    cases m with
    | zero => simp at hm
    | succ m =>
      unfold moreP
      rw [List.flatMap_nil, List.nil_append] at h
      rw [sees_er h]
      simp only [raddL, Option.some.injEq] at hr
      exact ⟨s, by simp, by simp [sizeL], hr, h⟩
  | e :: kids, m, acc, s, L, x, hm, hw, hr, hg, hn, h => by
    cases m with
    | zero => simp at hm
    | succ m =>
      unfold moreP
      rw [List.flatMap_cons, List.cons_append, List.cons_append, List.append_assoc] at h
      obtain ⟨_, h2⟩ := hd_er h
      rw [sees_er h]
      simp only [and_self, decide_true, if_true]
      simp only [sizeL] at hn
      simp only [raddL] at hr
      split at hr
      · cases hr
      · rename_i y hy
        obtain ⟨r2, e2⟩ := raddL_pre kids y x hr
        obtain ⟨s1, k1, k2⟩ := hp e s.next _ y (hw e (by simp)).1 (hw e (by simp)).2 hy (by rw [e2] at hg; exact hg.pre) (by show s.n + _ ≤ _; omega) h2
        have k2l := k2.l
        have k2n := k2.n
        rw [show s.next.l = s.l from rfl, hy] at k2l
        injection k2l with k2l
        rw [show s.next.n = s.n from rfl] at k2n
        obtain ⟨s', q1, q2, q3, q4⟩ := moreP_full hp kids m (acc ++ [e]) s1 L x (by simpa using hm) (fun z hz => hw z (by simp [hz])) (by rw [← k2l]; exact hr) hg (by omega) k2.r
        refine ⟨s', ?_, ?_, q3, q4⟩
        · rw [k1]
          show moreP p m (acc ++ [e]) s1 = _
          rw [q1]; simp
        · simp only [sizeL]; omega
theorem listP_full {d : Nat} {p : PS → PR Ex} (hp : Full d p) {kids : List Ex} (hne : kids ≠ []) {s : PS} {L : List Et} {x : List At} (hw : ∀ e ∈ kids, Wf e ∧ depth e ≤ d) (hr : raddL kids s.l = some x) (hg : Good x) (hn : s.n + sizeL kids ≤ 24)
    (h : s.r.map er = (4, [40], 0) :: (sjk (tkK kids) ++ (4, [41], 0) :: L)) : ∃ s', listP p s = .ok (kids, s') ∧ s'.n = s.n + sizeL kids ∧ s'.l = x ∧ s'.r.map er = L := by
  cases kids with
  | nil => exact absurd rfl hne
  | cons e kids =>
    unfold listP
    rw [expectP_er h]
    obtain ⟨_, h2⟩ := hd_er h
    simp only [tkK, sjk, tkK_map, List.flatMap_map, List.append_assoc] at h2
    simp only [sizeL] at hn
    simp only [raddL] at hr
    split at hr
    · cases hr
    · rename_i y hy
      obtain ⟨r2, e2⟩ := raddL_pre kids y x hr
      obtain ⟨s1, k1, k2⟩ := hp e s.next _ y (hw e (by simp)).1 (hw e (by simp)).2 hy (by rw [e2] at hg; exact hg.pre) (by show s.n + _ ≤ _; omega) h2
      have k2l := k2.l
      have k2n := k2.n
      rw [show s.next.l = s.l from rfl, hy] at k2l
      injection k2l with k2l
      rw [show s.next.n = s.n from rfl] at k2n
      have hlen := len_sizeL kids
      obtain ⟨s', q1, q2, q3, q4⟩ := moreP_full hp kids 25 [e] s1 L x (by omega) (fun z hz => hw z (by simp [hz])) (by rw [← k2l]; exact hr) hg (by omega) k2.r
      obtain ⟨_, q5⟩ := hd_er q4
      refine ⟨s'.next, ?_, ?_, q3, q5⟩
      · rw [bind_ok, k1, bind_ok, q1, bind_ok, List.cons_append, List.nil_append, expectP_er q4, bind_ok]
      · show s'.n = _
        simp only [sizeL]; omega
theorem note_add {l : List At} {a : At} {x : List At} (h : (if a ∈ l then l else l ++ [a]) = x) (hg : Good x) : note l a = (0, x) := by
  have hl : Good l := by
    split at h
    · rw [← h] at hg; exact hg
    · rw [← h] at hg; exact hg.pre
  have := note_good (a := a) hl
  rw [h, if_pos hg] at this
  exact this
theorem name_not_word {n : List UInt8} (h : vname n = true) : rsv n = false := by
  cases hr : rsv n with
  | false => rfl
  | true => rw [vname_rsv hr] at h; cases h
theorem rsv_no {n : List UInt8} (h : rsv n = false) : n ≠ wAll ∧ n ≠ wAny ∧ n ≠ wOf ∧ n ≠ wPrio ∧ n ≠ wLimit := by
  simp only [rsv, decide_eq_false_iff_not, not_or] at h
  exact ⟨h.1, h.2.1, h.2.2.1, h.2.2.2.1, h.2.2.2.2⟩
theorem atomP_full {a : At} {s : PS} {nm' : Tk} {L : List Et} {x : List At} (ha : vatom a = true) (hn : nm'.text = a.n) (hr : (if a ∈ s.l then s.l else s.l ++ [a]) = x) (hg : Good x) (h : s.r.map er = (atk a).tail ++ L) :
    ∃ s', atomP nm' s = .ok (.mk 0 a [], s') ∧ s'.n = s.n ∧ s'.l = x ∧ s'.r.map er = L := by
  have hnote := note_add hr hg
  simp only [vatom, Bool.and_eq_true] at ha
  unfold atk at h
  obtain ⟨an, am, au⟩ := a
  simp only at hn ha h
  rcases usable_cases ha.2 with ⟨h1, h2, h3⟩ | ⟨h1, h2, h3⟩
  · simp only at h1 h2 h3
    subst h3
    rw [if_pos h2] at h
    simp only [List.tail_cons, List.cons_append, List.nil_append] at h
    obtain ⟨_, h4⟩ := hd_er h
    obtain ⟨e5, h5⟩ := hd_er h4
    have k1 : s.next.hd.kind = 2 := congrArg (·.1) e5
    have k2 : s.next.hd.num = am := congrArg (·.2.2) e5
    refine ⟨⟨s.n, x, s.next.next.r⟩, ?_, rfl, rfl, h5⟩
    unfold atomP
    rw [sees_er h]
    simp only [and_self, decide_true, if_true, k1, k2]
    unfold addA
    rw [hn, show s.next.next.l = s.l from rfl, hnote]
    simp only [if_true]
    rfl
  · simp only at h1 h2 h3
    subst h1
    rw [if_neg (by simp)] at h
    simp only [List.tail_cons, List.cons_append, List.nil_append] at h
    obtain ⟨_, h4⟩ := hd_er h
    obtain ⟨e5, h5⟩ := hd_er h4
    have k1 : s.next.hd.kind = 3 := congrArg (·.1) e5
    have k2 : s.next.hd.num = au := congrArg (·.2.2) e5
    refine ⟨⟨s.n, x, s.next.next.r⟩, ?_, rfl, rfl, h5⟩
    unfold atomP
    rw [sees_er h, sees_er h]
    simp only [and_self, decide_true, if_true, k1, k2]
    rw [if_neg (by simp), if_neg (by omega)]
    unfold addA
    rw [hn, show s.next.next.l = s.l from rfl, hnote]
    simp only [if_true]
    rfl
theorem exprP_full : ∀ d, Full d (exprP d)
  | 0 => fun e s L x _ hd => by have := depth_pos e; omega
  | d + 1 => by
    intro e s L x hw hd hr hg hn h
    have ih := exprP_full d
    cases hw with
    | atom a ha =>
      simp only [tkE, if_true] at h
      have hva := ha
      simp only [vatom, Bool.and_eq_true] at hva
      have h' : s.r.map er = (1, a.n, 0) :: ((atk a).tail ++ L) := by rw [h]; simp [atk]
      obtain ⟨e1, h2⟩ := hd_er h'
      have k1 : s.hd.kind = 1 := congrArg (·.1) e1
      have k2 : s.hd.text = a.n := congrArg (·.2.1) e1
      have hrv := name_not_word hva.1
      obtain ⟨w1, w2, _⟩ := rsv_no hrv
      simp only [size, sizeL] at hn
      simp only [radd, if_true, true_and, ha] at hr
      injection hr with hr
      obtain ⟨s', q1, q2, q3, q4⟩ := atomP_full (s := ⟨s.n + 1, s.l, s.r.tail⟩) (nm' := s.hd) (L := L) ha k2 hr hg h2
      refine ⟨s', ?_, by simp only [size, sizeL]; rw [q2], by rw [q3]; simp only [radd, if_true, true_and, ha]; rw [hr], q4⟩
      have hb : beginsT s.hd = true := by simp [beginsT, k1, k2, hrv]
      unfold exprP
      rw [hb, k1, k2]
      simp only [Bool.true_eq_false, if_false]
      rw [if_neg (by omega), if_neg (by decide), if_neg w1, if_neg w2, q1]
    | group k kids hne h1 h2 h3 hkids =>
      simp only [tkE, if_neg hne] at h
      simp only [size] at hn
      simp only [depth] at hd
      have hr' : raddL kids s.l = some x := by
        simp only [radd, if_neg hne] at hr
        rwa [if_neg (by simp; omega)] at hr
      have hdl : ∀ e ∈ kids, Wf e ∧ depth e ≤ d := by
        intro z hz
        refine ⟨hkids z hz, ?_⟩
        have : ∀ (l : List Ex), z ∈ l → depth z ≤ depthL l := by
          intro l
          induction l with
          | nil => intro hz; simp at hz
          | cons y l ihl =>
            intro hz
            simp only [depthL]
            rcases List.mem_cons.1 hz with rfl | hz
            · omega
            · have := ihl hz; omega
        have := this kids hz
        omega
      have hfin : ∀ s' : PS, s'.n = s.n + 1 + sizeL kids → s'.l = x → s'.r.map er = L → Done (.mk k noAt kids) s s' L := fun s' a b c =>
        ⟨by simp only [size]; omega, by simp only [radd, if_neg hne]; rw [if_neg (by simp; omega), hr', b], c⟩
      have hb1 : ¬ 24 < s.n + 1 := by omega
      unfold hdk at h
      by_cases ka : k = kids.length
      · rw [if_pos ka] at h
        simp only [List.cons_append, List.nil_append, List.append_assoc] at h
        obtain ⟨e1, h4⟩ := hd_er h
        have k1 : s.hd.kind = 1 := congrArg (·.1) e1
        have k2 : s.hd.text = wAll := congrArg (·.2.1) e1
        obtain ⟨s', q1, q2, q3, q4⟩ := listP_full ih hne (s := ⟨s.n + 1, s.l, s.r.tail⟩) hdl hr' hg (by show s.n + 1 + _ ≤ _; omega) h4
        refine ⟨s', ?_, hfin s' q2 q3 q4⟩
        have hb : beginsT s.hd = true := by simp [beginsT, k1, k2]
        unfold exprP
        rw [hb, k1, k2]
        simp only [Bool.true_eq_false, if_false]
        rw [if_neg hb1, if_neg (by decide), if_pos trivial, q1, ka]
        rfl
      · rw [if_neg ka] at h
        by_cases kb : k = 1
        · rw [if_pos kb] at h
          simp only [List.cons_append, List.nil_append, List.append_assoc] at h
          obtain ⟨e1, h4⟩ := hd_er h
          have k1 : s.hd.kind = 1 := congrArg (·.1) e1
          have k2 : s.hd.text = wAny := congrArg (·.2.1) e1
          obtain ⟨s', q1, q2, q3, q4⟩ := listP_full ih hne (s := ⟨s.n + 1, s.l, s.r.tail⟩) hdl hr' hg (by show s.n + 1 + _ ≤ _; omega) h4
          refine ⟨s', ?_, hfin s' q2 q3 q4⟩
          have hb : beginsT s.hd = true := by simp [beginsT, k1, k2]
          unfold exprP
          rw [hb, k1, k2]
          simp only [Bool.true_eq_false, if_false]
          rw [if_neg hb1, if_neg (by decide), if_neg (by decide), if_pos trivial, q1, kb]
          rfl
        · rw [if_neg kb] at h
          simp only [List.cons_append, List.nil_append, List.append_assoc] at h
          obtain ⟨e1, h4⟩ := hd_er h
          have k1 : s.hd.kind = 3 := congrArg (·.1) e1
          have k2 : s.hd.num = k := congrArg (·.2.2) e1
          have hx := expectP_er (s := ⟨s.n + 1, s.l, s.r.tail⟩) h4
          obtain ⟨_, h5⟩ := hd_er (s := ⟨s.n + 1, s.l, s.r.tail⟩) h4
          obtain ⟨s', q1, q2, q3, q4⟩ := listP_full ih hne (s := (⟨s.n + 1, s.l, s.r.tail⟩ : PS).next) hdl hr' hg (by show s.n + 1 + _ ≤ _; omega) h5
          refine ⟨s', ?_, hfin s' q2 q3 q4⟩
          have hb : beginsT s.hd = true := by simp [beginsT, k1]
          unfold exprP
          rw [hb, k1, k2]
          simp only [Bool.true_eq_false, if_false]
          rw [if_neg hb1, if_pos trivial, hx, bind_ok, q1]
          show (if k < 1 ∨ (kids.length : Int) < k then _ else _) = _
          rw [if_neg (by omega)]
theorem optP_full {w : List UInt8} {most n : Int} {s : PS} {L : List Et} (h0 : 0 ≤ n) (h1 : n ≤ most) (h : s.r.map er = numTk w n ++ L) (hL : n = 0 → ∀ t L', L = t :: L' → ¬ (t.1 = 1 ∧ t.2.1 = w)) (hne : L ≠ []) : ∃ s', optP w most s = .ok (n, s') ∧ s'.r.map er = L := by
  unfold optP
  unfold numTk at h
  by_cases hn : n = 0
  · subst hn
    rw [if_pos rfl, List.nil_append] at h
    cases L with
    | nil => exact absurd rfl hne
    | cons t L =>
      rw [sees_er h, if_neg (by simpa using hL rfl t L rfl)]
      exact ⟨s, rfl, h⟩
  · rw [if_neg hn] at h
    simp only [List.cons_append, List.nil_append] at h
    obtain ⟨_, h2⟩ := hd_er h
    obtain ⟨e3, h3⟩ := hd_er h2
    have k1 : s.next.hd.kind = 3 := congrArg (·.1) e3
    have k2 : s.next.hd.num = n := congrArg (·.2.2) e3
    rw [sees_er h]
    simp only [and_self, decide_true, if_true, k1, k2]
    rw [if_neg (by omega)]
    exact ⟨_, rfl, h3⟩
theorem parseT_full {q : Rq} (h : validQ q = true) {ts : List Tk} (ht : ts.map er = tkQ q) : parseT ts = .ok q := by
  simp only [validQ, Bool.and_eq_true, decide_eq_true_eq] at h
  obtain ⟨hv, hp1, hp2, hm1, hm2⟩ := h
  obtain ⟨h1, h2, h3⟩ := valid_coll hv
  simp only [small, decide_eq_true_eq] at h3
  obtain ⟨s1, k1, k2⟩ := exprP_full 4 q.e ⟨0, [], ts⟩ (numTk wPrio q.p ++ (numTk wLimit q.m ++ [(5, [], 0)])) _ (valid_wf hv) (by omega) h1 h2 (by show 0 + _ ≤ _; omega) (by show ts.map er = _; rw [ht]; simp [tkQ])
  obtain ⟨s2, k3, k4⟩ := optP_full (w := wPrio) (most := 7) (n := q.p) hp1 hp2 k2.r (fun _ t L' e => by
    unfold numTk at e
    split at e
    · injection e with e1 e2; subst e1; simp
    · injection e with e1 e2; subst e1; simp [wPrio, wLimit]) (by simp)
  obtain ⟨s3, k5, k6⟩ := optP_full (w := wLimit) (most := 1000) (n := q.m) hm1 hm2 k4 (fun _ t L' e => by
    injection e with e1 e2; subst e1; simp) (by simp)
  obtain ⟨e7, _⟩ := hd_er k6
  have k7 : s3.hd.kind = 5 := congrArg (·.1) e7
  unfold parseT
  rw [k1, bind_ok, k3, bind_ok, k5, bind_ok, if_pos k7]
/-- what is written is read back -/
theorem parse_back {q : Rq} (h : validQ q = true) : parseS (fmtQ q) = (q, 0, 0) := by
  have hv := h
  simp only [validQ, Bool.and_eq_true, decide_eq_true_eq] at hv
  obtain ⟨h1, h2⟩ := (fmtQ_lexes (valid_wf hv.1) (by omega) (by omega)).tokens (by have := fmtQ_len h; omega)
  unfold parseS
  rw [h1]
  simp only [ne_eq, not_true, if_false]
  rw [parseT_full h h2]
theorem parseS_validQ {s : List UInt8} (h : (parseS s).2.2 = 0) : validQ (parseS s).1 = true := by
  obtain ⟨h1, h2, h3⟩ := parseS_valid h
  simp only [validQ, Bool.and_eq_true, decide_eq_true_eq]
  exact ⟨h1, by omega⟩
/-- texts of the same tokens mean the same -/
theorem parse_same {s t : List UInt8} (hs : (tokens s).2.2 = 0) (ht : (tokens t).2.2 = 0) (h : (tokens s).1.map er = (tokens t).1.map er) : (parseS s).1 = (parseS t).1 ∧ (parseS s).2.2 = (parseS t).2.2 := by
  unfold parseS
  rw [if_neg (by simp [hs]), if_neg (by simp [ht])]
  have := parseT_sim h
  unfold SameR at this
  revert this
  cases parseT (tokens s).1 <;> cases parseT (tokens t).1 <;> intro this
  · exact ⟨rfl, this⟩
  · exact this.elim
  · exact this.elim
  · exact ⟨this, rfl⟩
theorem parseS_err {s : List UInt8} (h : (parseS s).2.2 ≠ 0) : (parseS s).1 = noRq := by
  unfold parseS at h ⊢
  split
  · rfl
  · rename_i ht
    rw [if_neg ht] at h
    revert h
    cases parseT (tokens s).1 with
    | error e => intro _; rfl
    | ok q => intro h; exact absurd rfl h
end CL
