
/- Plain: what is parsed is valid. No program in sight. -/
import Derived.Test.YtklpfhkcbhkofaaPq
namespace CL
set_option linter.unusedSimpArgs false
/-- what the lexer promises of a token -/
def TkOk (t : Tk) : Prop := (t.kind = 1 → ∃ c r, t.text = c :: r ∧ r.length ≤ 11 ∧ at8 ltr c = true ∧ r.all (at8 prt) = true) ∧ (t.kind = 2 → 1 ≤ t.num ∧ t.num ≤ 5) ∧ (t.kind = 3 → 0 ≤ t.num ∧ t.num ≤ 9999)
def Tks (s : PS) : Prop := ∀ t ∈ s.r, TkOk t
theorem TkOk.dflt : TkOk ⟨5, [], 0, 0⟩ := ⟨fun h => by simp at h, fun h => by simp at h, fun h => by simp at h⟩
theorem Tks.hd {s : PS} (h : Tks s) : TkOk s.hd := by
  unfold PS.hd hdT
  cases hr : s.r with
  | nil => exact TkOk.dflt
  | cons t r => exact h t (by rw [hr]; simp)
theorem Tks.suf {s s' : PS} (h : Tks s) (k : s'.r <:+ s.r) : Tks s' := fun t ht => h t (k.subset ht)
theorem next_suf (s : PS) : s.next.r <:+ s.r := List.tail_suffix _
/-- from s to s' an expression of at most d levels has been read -/
structure Read (d : Nat) (e : Ex) (s s' : PS) : Prop where
  dep : depth e ≤ d
  n : s'.n = s.n + size e
  le : s'.n ≤ 24
  add : radd e s.l = some s'.l
  good : Good s'.l
  suf : s'.r <:+ s.r
structure ReadL (d : Nat) (r : List Ex) (s s' : PS) : Prop where
  dep : depthL r ≤ d
  n : s'.n = s.n + sizeL r
  le : s'.n ≤ 24
  add : raddL r s.l = some s'.l
  good : Good s'.l
  suf : s'.r <:+ s.r
theorem note_ok {l : List At} {a : At} (hg : Good l) (h : (note l a).1 = 0) : (note l a).2 = (if a ∈ l then l else l ++ [a]) ∧ Good (note l a).2 := by
  have := note_good (a := a) hg
  by_cases hG : Good (if a ∈ l then l else l ++ [a])
  · rw [if_pos hG] at this
    rw [this]; exact ⟨rfl, hG⟩
  · rw [if_neg hG] at this
    exact absurd h this
theorem expectP_ok {k : Int} {t : List UInt8} {s s' : PS} {u : Unit} (h : expectP k t s = .ok (u, s')) : s' = s.next ∧ sees k t s = true := by
  unfold expectP at h
  by_cases hs : sees k t s = true
  · rw [if_pos hs] at h
    injection h with h
    injection h with _ h
    exact ⟨h.symm, hs⟩
  · rw [if_neg hs] at h; cases h
theorem addA_ok {nm : Tk} {a : At} {s s' : PS} {e : Ex} (hg : Good s.l) (ha : vatom a = true) (h : addA nm a s = .ok (e, s')) : e = .mk 0 a [] ∧ s'.n = s.n ∧ s'.r = s.r ∧ radd e s.l = some s'.l ∧ Good s'.l := by
  unfold addA at h
  by_cases h0 : (note s.l a).1 = 0
  · rw [if_pos h0] at h
    injection h with h
    injection h with h1 h2
    subst h1 h2
    obtain ⟨k1, k2⟩ := note_ok hg h0
    refine ⟨rfl, rfl, rfl, ?_, k2⟩
    simp [radd, ha, k1]
  · rw [if_neg h0] at h; cases h
theorem name_vname {t : Tk} (h : TkOk t) (hk : t.kind = 1) (hr : rsv t.text = false) : vname t.text = true := by
  obtain ⟨c, r, e, h1, h2, h3⟩ := h.1 hk
  rw [e] at hr ⊢
  simp [vname, h1, hr, h2]
  simpa using h3
theorem atomP_ok {nm : Tk} {s s' : PS} {e : Ex} (hT : Tks s) (hg : Good s.l) (hn : vname nm.text = true) (h : atomP nm s = .ok (e, s')) : (∃ a, e = .mk 0 a []) ∧ s'.n = s.n ∧ s'.r <:+ s.r ∧ radd e s.l = some s'.l ∧ Good s'.l := by
  unfold atomP at h
  have hT1 := (hT.suf (next_suf s)).hd
  have hs2 : s.next.next.r <:+ s.r := (next_suf _).trans (next_suf _)
  by_cases h1 : sees 4 [58] s = true
  · rw [if_pos h1] at h
    by_cases h2 : s.next.hd.kind = 2
    · rw [if_pos h2] at h
      obtain ⟨k1, k2⟩ := hT1.2.1 h2
      obtain ⟨e1, e2, e3, e4, e5⟩ := addA_ok (s := s.next.next) (a := ⟨nm.text, ⟨s.next.hd.num, 0⟩⟩) hg (by show (vname nm.text && usable _) = true; rw [hn]; simp [usable, vld]; omega) h
      exact ⟨⟨_, e1⟩, e2, by rw [e3]; exact hs2, e4, e5⟩
    · rw [if_neg h2] at h; cases h
  · rw [if_neg h1] at h
    by_cases h3 : sees 4 [42] s = true
    · rw [if_pos h3] at h
      by_cases h2 : s.next.hd.kind = 3
      · rw [if_pos h2] at h
        by_cases h4 : s.next.hd.num < 1 ∨ 8 < s.next.hd.num
        · rw [if_pos h4] at h; cases h
        · rw [if_neg h4] at h
          obtain ⟨e1, e2, e3, e4, e5⟩ := addA_ok (s := s.next.next) (a := ⟨nm.text, ⟨0, s.next.hd.num⟩⟩) hg (by show (vname nm.text && usable _) = true; rw [hn]; simp [usable, vld]; omega) h
          exact ⟨⟨_, e1⟩, e2, by rw [e3]; exact hs2, e4, e5⟩
      · rw [if_neg h2] at h; cases h
    · rw [if_neg h3] at h; cases h
/-- a parser of expressions of at most d levels -/
def Sound (d : Nat) (p : PS → PR Ex) : Prop := ∀ s e s', Tks s → Good s.l → s.n ≤ 24 → p s = .ok (e, s') → Read d e s s'
theorem moreP_ok {d : Nat} {p : PS → PR Ex} (hp : Sound d p) : ∀ (m : Nat) (acc : List Ex) (s : PS) (l : List Ex) (s' : PS), Tks s → Good s.l → s.n ≤ 24 → moreP p m acc s = .ok (l, s') → ∃ r, l = acc ++ r ∧ ReadL d r s s'
  | 0, acc, s, l, s', hT, hg, hn, h => by
    unfold moreP at h
    injection h with h
    injection h with h1 h2
    subst h1 h2
    exact ⟨[], by simp, ⟨by simp [depthL], by simp [sizeL], hn, by simp [raddL], hg, List.suffix_refl _⟩⟩
  | m + 1, acc, s, l, s', hT, hg, hn, h => by
    unfold moreP at h
    by_cases h1 : sees 4 [44] s = true
    · rw [if_pos h1] at h
      cases hx : p s.next with
      | error e => rw [hx] at h; simp [bindP] at h
      | ok v =>
        obtain ⟨x, s1⟩ := v
        rw [hx] at h
        simp only [bindP] at h
        have hR := hp s.next x s1 (hT.suf (next_suf s)) hg hn hx
        obtain ⟨r, e1, e2⟩ := moreP_ok hp m (acc ++ [x]) s1 l s' ((hT.suf (next_suf s)).suf hR.suf) hR.good hR.le h
        refine ⟨x :: r, by rw [e1]; simp, ⟨?_, ?_, e2.le, ?_, e2.good, e2.suf.trans (hR.suf.trans (next_suf s))⟩⟩
        · simp only [depthL]; have := hR.dep; have := e2.dep; omega
        · have a1 := hR.n; have a2 := e2.n; have a3 : s.next.n = s.n := rfl; simp only [sizeL]; omega
        · have a1 : radd x s.l = some s1.l := hR.add
          simp only [raddL, a1]
          exact e2.add
    · rw [if_neg h1] at h
      injection h with h
      injection h with h1 h2
      subst h1 h2
      exact ⟨[], by simp, ⟨by simp [depthL], by simp [sizeL], hn, by simp [raddL], hg, List.suffix_refl _⟩⟩
theorem listP_ok {d : Nat} {p : PS → PR Ex} (hp : Sound d p) {s s' : PS} {l : List Ex} (hT : Tks s) (hg : Good s.l) (hn : s.n ≤ 24) (h : listP p s = .ok (l, s')) : l ≠ [] ∧ ReadL d l s s' := by
  unfold listP at h
  cases h1 : expectP 4 [40] s with
  | error e => rw [h1] at h; simp [bindP] at h
  | ok v1 =>
    obtain ⟨u1, s1⟩ := v1
    rw [h1] at h
    simp only [bindP] at h
    obtain ⟨e1, _⟩ := expectP_ok h1
    subst e1
    cases h2 : p s.next with
    | error e => rw [h2] at h; simp [bindP] at h
    | ok v2 =>
      obtain ⟨x, s2⟩ := v2
      rw [h2] at h
      simp only [bindP] at h
      have hR := hp s.next x s2 (hT.suf (next_suf s)) hg hn h2
      cases h3 : moreP p 25 [x] s2 with
      | error e => rw [h3] at h; simp [bindP] at h
      | ok v3 =>
        obtain ⟨l3, s3⟩ := v3
        rw [h3] at h
        simp only [bindP] at h
        obtain ⟨r, er, hL⟩ := moreP_ok hp 25 [x] s2 l3 s3 ((hT.suf (next_suf s)).suf hR.suf) hR.good hR.le h3
        cases h4 : expectP 4 [41] s3 with
        | error e => rw [h4] at h; simp [bindP] at h
        | ok v4 =>
          obtain ⟨u4, s4⟩ := v4
          rw [h4] at h
          simp only [bindP] at h
          obtain ⟨e4, _⟩ := expectP_ok h4
          subst e4
          injection h with h
          injection h with h5 h6
          subst h5 h6 er
          refine ⟨by simp, ⟨?_, ?_, hL.le, ?_, hL.good, (next_suf s3).trans (hL.suf.trans (hR.suf.trans (next_suf s)))⟩⟩
          · have := hR.dep; have := hL.dep; simp only [List.cons_append, List.nil_append, depthL]; omega
          · have a1 := hR.n; have a2 := hL.n; have a3 : s.next.n = s.n := rfl; have a4 : s3.next.n = s3.n := rfl; simp only [List.cons_append, List.nil_append, sizeL]; omega
          · have a1 : radd x s.l = some s2.l := hR.add
            simp only [List.cons_append, List.nil_append, raddL, a1]
            exact hL.add
theorem group_ok {d : Nat} {s0 s1 s' : PS} {k : Int} {l : List Ex} (h0 : s1.n = s0.n + 1) (h1 : s1.l = s0.l) (h2 : s1.r <:+ s0.r) (hne : l ≠ []) (hL : ReadL d l s1 s') (hk : ¬ (k < 1 ∨ (l.length : Int) < k)) : Read (d + 1) (.mk k noAt l) s0 s' := by
  refine ⟨?_, ?_, hL.le, ?_, hL.good, hL.suf.trans h2⟩
  · have := hL.dep; simp only [depth]; omega
  · have := hL.n; simp only [size]; omega
  · simp only [radd, if_neg hne]
    rw [if_neg (by
      rintro (c | c | c)
      · exact hk (.inl c)
      · exact hk (.inr c)
      · exact c rfl), ← h1]
    exact hL.add
theorem exprP_ok : ∀ d, Sound d (exprP d)
  | 0, s, e, s', hT, hg, hn, h => by
    unfold exprP at h
    split at h <;> cases h
  | d + 1, s, e, s', hT, hg, hn, h => by
    have ih := exprP_ok d
    have hr1 : (⟨s.n + 1, s.l, s.r.tail⟩ : PS).r <:+ s.r := List.tail_suffix _
    have hT1 : Tks ⟨s.n + 1, s.l, s.r.tail⟩ := hT.suf hr1
    have hH := hT.hd
    unfold exprP at h
    by_cases hb : beginsT s.hd = false
    · rw [if_pos hb] at h; cases h
    · rw [if_neg hb] at h
      by_cases h24 : 24 < s.n + 1
      · rw [if_pos h24] at h; cases h
      · rw [if_neg h24] at h
        have hn1 : (⟨s.n + 1, s.l, s.r.tail⟩ : PS).n ≤ 24 := by simp only; omega
        by_cases h3 : s.hd.kind = 3
        · rw [if_pos h3] at h
          cases h1 : expectP 1 wOf ⟨s.n + 1, s.l, s.r.tail⟩ with
          | error e => rw [h1] at h; simp [bindP] at h
          | ok v1 =>
            obtain ⟨u1, s1⟩ := v1
            rw [h1] at h
            simp only [bindP] at h
            obtain ⟨e1, _⟩ := expectP_ok h1
            subst e1
            cases h2 : listP (exprP d) (PS.next ⟨s.n + 1, s.l, s.r.tail⟩) with
            | error e => rw [h2] at h; simp [bindP] at h
            | ok v2 =>
              obtain ⟨l, s2⟩ := v2
              rw [h2] at h
              simp only [bindP] at h
              obtain ⟨hne, hL⟩ := listP_ok ih (hT1.suf (next_suf _)) hg hn1 h2
              by_cases hk : s.hd.num < 1 ∨ (l.length : Int) < s.hd.num
              · rw [if_pos hk] at h; cases h
              · rw [if_neg hk] at h
                injection h with h
                injection h with h5 h6
                subst h5 h6
                exact group_ok (s0 := s) (s1 := PS.next ⟨s.n + 1, s.l, s.r.tail⟩) rfl rfl ((next_suf _).trans hr1) hne hL hk
        · rw [if_neg h3] at h
          have hlen : ∀ {l : List Ex}, l ≠ [] → 1 ≤ l.length := fun {l} hl => by cases l <;> simp at *
          by_cases ha : s.hd.text = wAll
          · rw [if_pos ha] at h
            cases h2 : listP (exprP d) ⟨s.n + 1, s.l, s.r.tail⟩ with
            | error e => rw [h2] at h; simp [bindP] at h
            | ok v2 =>
              obtain ⟨l, s2⟩ := v2
              rw [h2] at h
              simp only [bindP] at h
              obtain ⟨hne, hL⟩ := listP_ok ih hT1 hg hn1 h2
              injection h with h
              injection h with h5 h6
              subst h5 h6
              have := hlen hne
              exact group_ok (s0 := s) (s1 := ⟨s.n + 1, s.l, s.r.tail⟩) rfl rfl hr1 hne hL (by omega)
          · rw [if_neg ha] at h
            by_cases hy : s.hd.text = wAny
            · rw [if_pos hy] at h
              cases h2 : listP (exprP d) ⟨s.n + 1, s.l, s.r.tail⟩ with
              | error e => rw [h2] at h; simp [bindP] at h
              | ok v2 =>
                obtain ⟨l, s2⟩ := v2
                rw [h2] at h
                simp only [bindP] at h
                obtain ⟨hne, hL⟩ := listP_ok ih hT1 hg hn1 h2
                injection h with h
                injection h with h5 h6
                subst h5 h6
                have := hlen hne
                exact group_ok (s0 := s) (s1 := ⟨s.n + 1, s.l, s.r.tail⟩) rfl rfl hr1 hne hL (by omega)
            · rw [if_neg hy] at h
              have hb' : s.hd.kind = 1 ∧ rsv s.hd.text = false := by
                simp [beginsT, h3, ha, hy] at hb; exact hb
              obtain ⟨⟨a, e1⟩, e2, e3, e4, e5⟩ := atomP_ok hT1 hg (name_vname hH hb'.1 hb'.2) h
              subst e1
              refine ⟨by simp [depth, depthL], ?_, ?_, e4, e5, e3.trans hr1⟩
              · simp only [size, sizeL]; simp only at e2; omega
              · simp only at e2; omega
/-- what is parsed is valid -/
theorem parse_valid {ts : List Tk} {q : Rq} (hT : ∀ t ∈ ts, TkOk t) (h : parseT ts = .ok q) : valid q.e = true ∧ (0 ≤ q.p ∧ q.p ≤ 7) ∧ (0 ≤ q.m ∧ q.m ≤ 1000) := by
  have hO : ∀ {w : List UInt8} {most : Int} {s s' : PS} {v : Int}, 0 ≤ most → Tks s → optP w most s = .ok (v, s') → (0 ≤ v ∧ v ≤ most) ∧ Tks s' := by
    intro w most s s' v hm hT h
    unfold optP at h
    have hT1 := (hT.suf (next_suf s)).hd
    by_cases h1 : sees 1 w s = true
    · rw [if_pos h1] at h
      by_cases h2 : s.next.hd.kind = 3
      · rw [if_pos h2] at h
        by_cases h3 : most < s.next.hd.num
        · rw [if_pos h3] at h; cases h
        · rw [if_neg h3] at h
          injection h with h
          injection h with h5 h6
          subst h5 h6
          exact ⟨⟨(hT1.2.2 h2).1, by omega⟩, (hT.suf (next_suf s)).suf (next_suf _)⟩
      · rw [if_neg h2] at h; cases h
    · rw [if_neg h1] at h
      injection h with h
      injection h with h5 h6
      subst h5 h6
      exact ⟨⟨by omega, hm⟩, hT⟩
  unfold parseT at h
  have hT0 : Tks ⟨0, [], ts⟩ := hT
  cases h1 : exprP 4 ⟨0, [], ts⟩ with
  | error e => rw [h1] at h; simp [bindP] at h
  | ok v1 =>
    obtain ⟨x, s1⟩ := v1
    rw [h1] at h
    simp only [bindP] at h
    have hR := exprP_ok 4 _ _ _ hT0 good_nil (by simp) h1
    cases h2 : optP wPrio 7 s1 with
    | error e => rw [h2] at h; simp [bindP] at h
    | ok v2 =>
      obtain ⟨p, s2⟩ := v2
      rw [h2] at h
      simp only [bindP] at h
      obtain ⟨hp, hT2⟩ := hO (by omega) (hT0.suf hR.suf) h2
      cases h3 : optP wLimit 1000 s2 with
      | error e => rw [h3] at h; simp [bindP] at h
      | ok v3 =>
        obtain ⟨m, s3⟩ := v3
        rw [h3] at h
        simp only [bindP] at h
        obtain ⟨hm, _⟩ := hO (by omega) hT2 h3
        by_cases h5 : s3.hd.kind = 5
        · rw [if_pos h5] at h
          injection h with h
          subst h
          refine ⟨?_, hp, hm⟩
          have a1 := hR.add
          have a2 := hR.good
          have a3 := hR.n
          have a4 := hR.le
          have a5 := hR.dep
          simp only at a1 a3
          simp only [valid, small, a1, Bool.and_eq_true, decide_eq_true_eq]
          exact ⟨⟨a5, by omega⟩, a2⟩
        · rw [if_neg h5] at h; cases h
end CL
