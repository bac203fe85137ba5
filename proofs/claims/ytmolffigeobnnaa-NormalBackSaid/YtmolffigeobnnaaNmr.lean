
/- The walk of normal's merge. -/
import Derived.Test.YtmolffigeobnnaaNmg
namespace Go.Proofs.Ytmolffigeobnnaa
open Go.RowKit
set_option linter.unusedVariables false
set_option linter.unusedSimpArgs false
set_option maxRecDepth 100000
/-- kids in blocks from lo to H -/
def KidsH (w : World) (lo H : Nat) (A : Option Addr) (kids : List CL.Ex) : Prop := ∃ vs : List (List Value), vs.length = kids.length ∧ SitsIn w lo H A vs.flatten ∧ ∀ i (h1 : i < kids.length) (h2 : i < vs.length), RdI w lo H kids[i] vs[i]
theorem KidsH.same {w w' : World} {lo H : Nat} {A : Option Addr} {kids : List CL.Ex} (h : KidsH w lo H A kids) (hs : Same w w' lo H) : KidsH w' lo H A kids :=
  let ⟨vs, h1, h2, h3⟩ := h
  ⟨vs, h1, h2.same hs, fun i a b => (h3 i a b).same hs⟩
theorem Same.below {w w' : World} {B lo hi : Nat} (h : Below B w w') (hb : hi ≤ B) : Same w w' lo hi := fun i _ h2 => h.block i (by omega)
theorem KidsH.wide {w : World} {lo H lo' H' : Nat} {A : Option Addr} {kids : List CL.Ex} (h : KidsH w lo H A kids) (h1 : lo' ≤ lo) (h2 : H ≤ H') : KidsH w lo' H' A kids :=
  let ⟨vs, k1, k2, k3⟩ := h
  ⟨vs, k1, k2.wide h1 h2, fun i a b => (k3 i a b).wide h1 h2⟩
theorem KidsH.get {w : World} {lo H : Nat} {A : Option Addr} {kids : List CL.Ex} (h : KidsH w lo H A kids) {j : Nat} (hj : j < kids.length) :
    ∃ b o k n m u A' l c, A = some ⟨b, o, none⟩ ∧ b < H ∧ RdI w lo H kids[j] [.int .i64 k, .string n, .int .i64 m, .int .i64 u, .slice A' l c] ∧
      w.cell? ⟨b, o + j * 5, none⟩ = some (.int .i64 k) ∧ w.cell? ⟨b, o + j * 5 + 1, none⟩ = some (.string n) ∧ w.cell? ⟨b, o + j * 5 + 2, none⟩ = some (.int .i64 m) ∧ w.cell? ⟨b, o + j * 5 + 3, none⟩ = some (.int .i64 u) ∧ w.cell? ⟨b, o + j * 5 + 4, none⟩ = some (.slice A' l c) := by
  obtain ⟨vs, h1, h3, h4⟩ := h
  have h2 : ∀ v ∈ vs, v.length = 5 := fun v hv => by
    obtain ⟨i, hi, rfl⟩ := List.mem_iff_getElem.1 hv
    exact (h4 i (by omega) hi).len
  obtain ⟨b, o, e, hb, hc⟩ := h3.sitsB.get h2 (by omega)
  have hr := h4 j hj (by omega)
  obtain ⟨k, n, m, u, A', l, c, he⟩ := hr.shape
  obtain ⟨v0, v1, v2, v3, v4, e5, c0, c1, c2, c3, c4⟩ := five h2 hc (i := j) (by omega)
  rw [he] at e5 hr
  simp only [List.cons.injEq, and_true] at e5
  obtain ⟨rfl, rfl, rfl, rfl, rfl⟩ := e5
  exact ⟨b, o, k, n, m, u, A', l, c, e, hb, hr, c0, c1, c2, c3, c4⟩
theorem RdI.kids {w : World} {lo hi : Nat} {k : Int} {a : CL.At} {kids : List CL.Ex} {v0 v1 v2 v3 : Value} {A : Option Addr} {l c : Nat} (h : RdI w lo hi (.mk k a kids) [v0, v1, v2, v3, .slice A l c]) : KidsH w lo hi A kids ∧ l = kids.length ∧ kids.length ≤ maxLen := by
  obtain ⟨A', c', vs, e, h1, h2, h3, h4, h5, h6, h7⟩ := h.inv
  simp only [List.cons.injEq, Value.slice.injEq, and_true] at e
  obtain ⟨_, _, _, _, rfl, rfl, _⟩ := e
  exact ⟨⟨vs, h4, h6, h7⟩, rfl, h2⟩
theorem opn_take {p : CL.Ex → Bool} {l : List CL.Ex} {j : Nat} (hj : j < l.length) : CL.opn p (l.take (j + 1)) = CL.opn p (l.take j) ++ (if l[j].kids = [] ∨ p l[j] = false then [l[j]] else l[j].kids) := by
  rw [List.take_succ_eq_append_getElem hj]
  unfold CL.opn
  rw [List.flatMap_append, List.flatMap_cons, List.flatMap_nil, List.append_nil]
/-- what merge has gathered of the first kids -/
def mrT (p : CL.Ex → Bool) (l : List CL.Ex) (j : Nat) : List CL.Ex := CL.uniq (CL.opn p (l.take j))
theorem mrT_one {p : CL.Ex → Bool} {l : List CL.Ex} {j : Nat} (hj : j < l.length) (h : l[j].kids = [] ∨ p l[j] = false) : mrT p l (j + 1) = CL.addU (mrT p l j) l[j] := by
  unfold mrT CL.uniq
  rw [opn_take hj, if_pos h, List.foldl_append]; rfl
theorem mrT_all {p : CL.Ex → Bool} {l : List CL.Ex} {j : Nat} (hj : j < l.length) (h1 : l[j].kids ≠ []) (h2 : p l[j] = true) : mrT p l (j + 1) = l[j].kids.foldl CL.addU (mrT p l j) := by
  unfold mrT CL.uniq
  rw [opn_take hj, if_neg (by simp [h1, h2]), List.foldl_append]
theorem addU_len (l : List CL.Ex) (x : CL.Ex) : (CL.addU l x).length ≤ l.length + 1 := by unfold CL.addU; split <;> simp
theorem foldU_len (m : List CL.Ex) : ∀ l : List CL.Ex, (m.foldl CL.addU l).length ≤ l.length + m.length := by
  induction m with
  | nil => intro l; simp
  | cons x m ih => intro l; have := ih (CL.addU l x); have := addU_len l x; simp only [List.foldl_cons, List.length_cons]; omega
theorem mrT_len (p : CL.Ex → Bool) (l : List CL.Ex) (j : Nat) : (mrT p l j).length ≤ CL.sizeL l := by
  have h1 := foldU_len (CL.opn p (l.take j)) []
  have h2 := CL.len_sizeL (CL.opn p (l.take j))
  have h3 := CL.opn_size p (l.take j)
  have h4 : CL.sizeL (l.take j) ≤ CL.sizeL l := by
    conv => rhs; rw [← List.take_append_drop j l]
    rw [CL.sizeL_app]; omega
  unfold mrT CL.uniq
  simp only [List.length_nil, Nat.zero_add] at h1
  omega
theorem fold_take {l0 ks : List CL.Ex} {m : Nat} (hm : m < ks.length) : (ks.take (m + 1)).foldl CL.addU l0 = CL.addU ((ks.take m).foldl CL.addU l0) ks[m] := by
  rw [List.take_succ_eq_append_getElem hm, List.foldl_append]; rfl
/-- what merge gives back -/
def MergeAt (lo H : Nat) (l : List CL.Ex) (w : World) (r : Ending) (w' : World) : Prop := ∃ A c, r = .returned (.slice A l.length c) ∧ l.length ≤ c ∧ KidsH w' lo w'.heap.size A l ∧ Ext w w'
theorem MgS.kidsH {w : World} {p lo : Nat} {l : List CL.Ex} {A : Option Addr} {c : Nat} {vs : List (List Value)} (h : MgS w p lo l A c vs) (hlo : lo ≤ p) : KidsH w lo w.heap.size A l :=
  ⟨vs, h.len, (SitsIn.of (Sits.of_own h.own) (fun b o _ e => own_base h.own e)).wide (by omega) (Nat.le_refl _), fun i a b => (h.kids i a b).wide (Nat.le_refl _) (Nat.le_of_lt h.blk.lt)⟩
set_option maxHeartbeats 3200000 in
theorem mergeAny_c (kids : List CL.Ex) (A0 : Option Addr) (c0 lo : Nat) (w : World) (hK : KidsH w lo w.heap.size A0 kids) (hlo : lo ≤ w.heap.size) (hs : CL.sizeL kids ≤ 100) :
    Calls Try.prog 78 #[.slice A0 kids.length c0, .func (.func 79) #[] #[]] w (MergeAt lo w.heap.size (CL.mrg CL.pAny kids) w) := by
  have hkl : kids.length ≤ 100 := by have := CL.len_sizeL kids; omega
  have HL := Lib.hid (fun j => mrT_len CL.pAny kids j)
  have HMR := Lib.hid (show mrT CL.pAny kids kids.length = CL.mrg CL.pAny kids by unfold mrT CL.mrg; rw [List.take_length])
  have HSZ := Lib.hid hs
  clear hs
  have hbP := Blk.new w 26 #[.slice none 0 0]
  have hxP := Ext.new w (.cells #[.slice none 0 0] 26)
  have hzP : (w.alloc (.cells #[.slice none 0 0] 26)).heap.size = w.heap.size + 1 := by simp
  go_enter Try.func78, Try.ntmps78
  go_wp2
  generalize hW : w.heap.size = p at *
  generalize (w.alloc (.cells #[.slice none 0 0] 26)) = W at *
  go_loopw [14] (fun i wr => ∃ (j : Nat) (A : Option Addr) (c : Nat) (vs : List (List Value)), j ≤ kids.length ∧ i = .int .i64 j ∧ Hid (MgS wr p lo (mrT CL.pAny kids j) A c vs) ∧ Below p w wr) (fun i _ => kids.length - (intOf i).toNat)
  case atStart => exact ⟨0, none, 0, [], by omega, rfl, Lib.hid ⟨hbP, ⟨rfl, .inl ⟨rfl, rfl⟩⟩, rfl, fun i h => by simp [mrT, CL.uniq, CL.opn] at h⟩, hxP.mono (by omega)⟩
  case round =>
    obtain ⟨j, A, c, vs, hj, rfl, HS, hbw⟩ := hrel
    obtain ⟨wo, rfl⟩ : ∃ wo : World, wo = wr := ⟨_, rfl⟩
    have hzo := hbw.size
    have hlj := HL.out j
    have hsz := HSZ.out
    have hpl := HS.out.blk.lt
    by_cases hlt : j < kids.length
    · obtain ⟨b1, o1, k1, s1, m1, u1, A1, l1, x1, rfl, hb1, hR1, d0, d1, d2, d3, d4⟩ := (hK.same (Same.below hbw (by omega))).get hlt
      have HONE := Lib.hid (mrT_one (p := CL.pAny) hlt)
      have HALL := Lib.hid (mrT_all (p := CL.pAny) hlt)
      have hji : (j : Int) < (kids.length : Int) := by omega
      generalize hl0 : mrT CL.pAny kids j = l0 at *
      clear hl0
      obtain ⟨hbB, hxB⟩ := box1 wo #[.int .i64 k1, .string s1, .int .i64 m1, .int .i64 u1, .slice A1 l1 x1] 28
      have hzB : (wo.alloc (.cells #[.int .i64 k1, .string s1, .int .i64 m1, .int .i64 u1, .slice A1 l1 x1] 28)).heap.size = wo.heap.size + 1 := by simp
      have HSB := Lib.hid (HS.out.ext hxB)
      have HRB := Lib.hid (hR1.ext hxB (by omega))
      have hbwB := hbw.trans (hxB.mono (by omega))
      have hst : CL.size kids[j] ≤ 100 := by have := size_mem (List.getElem_mem hlt); omega
      generalize kids[j] = x at *
      obtain ⟨kx, ax, ks⟩ := x
      obtain ⟨hKs, rfl, hkm⟩ := hR1.kids
      have hkl1 : ks.length ≤ 100 := by simp only [CL.size] at hst; have := CL.len_sizeL ks; omega
      by_cases hk0 : ks = []
      · subst hk0
        have hl0 : (([] : List CL.Ex).length : Int) = 0 := rfl
        have HE := Lib.hid (HONE.out (.inl rfl))
        simp only [List.length_nil] at *
        go_wp2_with (go_at_call 93; (with_reducible refine (add_c l0 _ p lo c A vs _ _ HSB.out HRB.out (by omega)).mono ?_); rintro r w3 ⟨rfl, A3, c3, vs3, hS3, hb3⟩)
        exact ⟨⟨j + 1, A3, c3, vs3, by omega, by go_num, by rw [HE.out]; exact Lib.hid hS3, hbwB.trans hb3⟩, by simp [intOf]; omega⟩
      · have hkz : ((ks.length : Int) == 0) = false := beq_eq_false_iff_ne.2 (fun h => hk0 (List.eq_nil_of_length_eq_zero (by omega)))
        have HP := Lib.hid (pAny_c (.mk kx ax ks) (wo.alloc (.cells #[.int .i64 k1, .string s1, .int .i64 m1, .int .i64 u1, .slice A1 ks.length x1] 28)) _ _ HRB.out.rd)
        cases hpp : CL.pAny (.mk kx ax ks)
        · rw [hpp] at HP
          have HE := Lib.hid (HONE.out (.inr hpp))
          clear hpp hk0
          go_wp2_with fail
          refine HP.out.mono ?_
          rintro r w2 ⟨rfl, hx2⟩
          have hz2 := hx2.size
          obtain ⟨e0, e1, e2, e3, e4⟩ := (hbB.ext hx2).c5
          go_wp2_with (go_at_call 93; (with_reducible refine (add_c l0 _ p lo c A vs _ _ (HSB.out.ext hx2) (HRB.out.ext hx2 (by omega)) (by omega)).mono ?_); rintro r w3 ⟨rfl, A3, c3, vs3, hS3, hb3⟩)
          exact ⟨⟨j + 1, A3, c3, vs3, by omega, by go_num, by rw [HE.out]; exact Lib.hid hS3, (hbwB.trans (hx2.mono (by omega))).trans hb3⟩, by simp [intOf]; omega⟩
        · rw [hpp] at HP
          have HE := Lib.hid (show mrT CL.pAny kids (j + 1) = ks.foldl CL.addU l0 from HALL.out hk0 hpp)
          clear hpp hk0
          go_wp2_with fail
          refine HP.out.mono ?_
          rintro r w2 ⟨rfl, hx2⟩
          have hz2 := hx2.size
          obtain ⟨e0, e1, e2, e3, e4⟩ := (hbB.ext hx2).c5
          have HS2 := Lib.hid (HSB.out.ext hx2)
          have hbw2 := hbwB.trans (hx2.mono (by omega))
          have HK2 := Lib.hid (hKs.same (Same.below ((hxB.tr hx2).mono (show p ≤ wo.heap.size by omega)) (Nat.le_refl _)))
          clear e0 e1 e2 e3
          go_wp2
          go_loopw [34] (fun i wi => ∃ (m : Nat) (A : Option Addr) (c : Nat) (vs : List (List Value)), m ≤ ks.length ∧ i = .int .i64 m ∧ Hid (MgS wi p lo ((ks.take m).foldl CL.addU l0) A c vs) ∧ Below p w2 wi) (fun i _ => ks.length - (intOf i).toNat)
          case atStart => exact ⟨0, A, c, vs, by omega, rfl, by simpa using HS2, Below.refl _ _⟩
          case round =>
            obtain ⟨m, A4, c4, vs4, hm, rfl, HS4, hbi⟩ := hrel
            obtain ⟨wi, rfl⟩ : ∃ wi : World, wi = wr := ⟨_, rfl⟩
            have hzi := hbi.size
            have hfl := foldU_len (ks.take m) l0
            have htl := List.length_take_le m ks
            by_cases hlt2 : m < ks.length
            · obtain ⟨b2, o2, k2, s2, m2, u2, A2, l2, x2, rfl, hb2, hR2, g0, g1, g2, g3, g4⟩ := (HK2.out.same (Same.below hbi (Nat.le_refl _))).get hlt2
              have HFT := Lib.hid (fold_take (l0 := l0) hlt2)
              have hmi : (m : Int) < (ks.length : Int) := by omega
              generalize ks[m] = y at *
              have hxC := Ext.new wi (.cells #[.int .i64 k2, .string s2, .int .i64 m2, .int .i64 u2, .slice A2 l2 x2] 28)
              have hpi := HS4.out.blk.lt
              go_wp2_with (go_at_call 93; (with_reducible refine (add_c _ _ p lo c4 A4 vs4 _ _ (HS4.out.ext hxC) (hR2.ext hxC (by omega)) (by omega)).mono ?_); rintro r w3 ⟨rfl, A3, c3, vs3, hS3, hb3⟩)
              exact ⟨⟨m + 1, A3, c3, vs3, by omega, by go_num, by rw [HFT.out]; exact Lib.hid hS3, (hbi.trans (hxC.mono (by omega))).trans hb3⟩, by simp [intOf]; omega⟩
            · obtain rfl : m = ks.length := by omega
              have HS5 := HS4
              rw [List.take_length, ← HE.out] at HS5
              go_wp2
              exact ⟨⟨j + 1, A4, c4, vs4, by omega, by go_num, HS5, hbw2.trans hbi⟩, by simp [intOf]; omega⟩
    · obtain rfl : j = kids.length := by omega
      have hq := HS.out.blk.cell 0
      rw [HMR.out] at HS hq
      obtain ⟨A', c', ev, hcc, _⟩ := own_form HS.out.own
      injection ev with ev1 _ ev3
      subst ev1 ev3
      go_wp2
      go_ret
      exact ⟨A, c, rfl, hcc, HS.out.kidsH hlo, by rw [← hW] at hbw; exact hbw⟩
set_option maxHeartbeats 3200000 in
theorem mergeAll_c (kids : List CL.Ex) (A0 : Option Addr) (c0 lo : Nat) (w : World) (hK : KidsH w lo w.heap.size A0 kids) (hlo : lo ≤ w.heap.size) (hs : CL.sizeL kids ≤ 100) :
    Calls Try.prog 78 #[.slice A0 kids.length c0, .func (.func 80) #[] #[]] w (MergeAt lo w.heap.size (CL.mrg CL.pAll kids) w) := by
  have hkl : kids.length ≤ 100 := by have := CL.len_sizeL kids; omega
  have HL := Lib.hid (fun j => mrT_len CL.pAll kids j)
  have HMR := Lib.hid (show mrT CL.pAll kids kids.length = CL.mrg CL.pAll kids by unfold mrT CL.mrg; rw [List.take_length])
  have HSZ := Lib.hid hs
  clear hs
  have hbP := Blk.new w 26 #[.slice none 0 0]
  have hxP := Ext.new w (.cells #[.slice none 0 0] 26)
  have hzP : (w.alloc (.cells #[.slice none 0 0] 26)).heap.size = w.heap.size + 1 := by simp
  go_enter Try.func78, Try.ntmps78
  go_wp2
  generalize hW : w.heap.size = p at *
  generalize (w.alloc (.cells #[.slice none 0 0] 26)) = W at *
  go_loopw [14] (fun i wr => ∃ (j : Nat) (A : Option Addr) (c : Nat) (vs : List (List Value)), j ≤ kids.length ∧ i = .int .i64 j ∧ Hid (MgS wr p lo (mrT CL.pAll kids j) A c vs) ∧ Below p w wr) (fun i _ => kids.length - (intOf i).toNat)
  case atStart => exact ⟨0, none, 0, [], by omega, rfl, Lib.hid ⟨hbP, ⟨rfl, .inl ⟨rfl, rfl⟩⟩, rfl, fun i h => by simp [mrT, CL.uniq, CL.opn] at h⟩, hxP.mono (by omega)⟩
  case round =>
    obtain ⟨j, A, c, vs, hj, rfl, HS, hbw⟩ := hrel
    obtain ⟨wo, rfl⟩ : ∃ wo : World, wo = wr := ⟨_, rfl⟩
    have hzo := hbw.size
    have hlj := HL.out j
    have hsz := HSZ.out
    have hpl := HS.out.blk.lt
    by_cases hlt : j < kids.length
    · obtain ⟨b1, o1, k1, s1, m1, u1, A1, l1, x1, rfl, hb1, hR1, d0, d1, d2, d3, d4⟩ := (hK.same (Same.below hbw (by omega))).get hlt
      have HONE := Lib.hid (mrT_one (p := CL.pAll) hlt)
      have HALL := Lib.hid (mrT_all (p := CL.pAll) hlt)
      have hji : (j : Int) < (kids.length : Int) := by omega
      generalize hl0 : mrT CL.pAll kids j = l0 at *
      clear hl0
      obtain ⟨hbB, hxB⟩ := box1 wo #[.int .i64 k1, .string s1, .int .i64 m1, .int .i64 u1, .slice A1 l1 x1] 28
      have hzB : (wo.alloc (.cells #[.int .i64 k1, .string s1, .int .i64 m1, .int .i64 u1, .slice A1 l1 x1] 28)).heap.size = wo.heap.size + 1 := by simp
      have HSB := Lib.hid (HS.out.ext hxB)
      have HRB := Lib.hid (hR1.ext hxB (by omega))
      have hbwB := hbw.trans (hxB.mono (by omega))
      have hst : CL.size kids[j] ≤ 100 := by have := size_mem (List.getElem_mem hlt); omega
      generalize kids[j] = x at *
      obtain ⟨kx, ax, ks⟩ := x
      obtain ⟨hKs, rfl, hkm⟩ := hR1.kids
      have hkl1 : ks.length ≤ 100 := by simp only [CL.size] at hst; have := CL.len_sizeL ks; omega
      by_cases hk0 : ks = []
      · subst hk0
        have hl0 : (([] : List CL.Ex).length : Int) = 0 := rfl
        have HE := Lib.hid (HONE.out (.inl rfl))
        simp only [List.length_nil] at *
        go_wp2_with (go_at_call 93; (with_reducible refine (add_c l0 _ p lo c A vs _ _ HSB.out HRB.out (by omega)).mono ?_); rintro r w3 ⟨rfl, A3, c3, vs3, hS3, hb3⟩)
        exact ⟨⟨j + 1, A3, c3, vs3, by omega, by go_num, by rw [HE.out]; exact Lib.hid hS3, hbwB.trans hb3⟩, by simp [intOf]; omega⟩
      · have hkz : ((ks.length : Int) == 0) = false := beq_eq_false_iff_ne.2 (fun h => hk0 (List.eq_nil_of_length_eq_zero (by omega)))
        have HP := Lib.hid (pAll_c (.mk kx ax ks) (wo.alloc (.cells #[.int .i64 k1, .string s1, .int .i64 m1, .int .i64 u1, .slice A1 ks.length x1] 28)) _ _ HRB.out.rd)
        cases hpp : CL.pAll (.mk kx ax ks)
        · rw [hpp] at HP
          have HE := Lib.hid (HONE.out (.inr hpp))
          clear hpp hk0
          go_wp2_with fail
          refine HP.out.mono ?_
          rintro r w2 ⟨rfl, hx2⟩
          have hz2 := hx2.size
          obtain ⟨e0, e1, e2, e3, e4⟩ := (hbB.ext hx2).c5
          go_wp2_with (go_at_call 93; (with_reducible refine (add_c l0 _ p lo c A vs _ _ (HSB.out.ext hx2) (HRB.out.ext hx2 (by omega)) (by omega)).mono ?_); rintro r w3 ⟨rfl, A3, c3, vs3, hS3, hb3⟩)
          exact ⟨⟨j + 1, A3, c3, vs3, by omega, by go_num, by rw [HE.out]; exact Lib.hid hS3, (hbwB.trans (hx2.mono (by omega))).trans hb3⟩, by simp [intOf]; omega⟩
        · rw [hpp] at HP
          have HE := Lib.hid (show mrT CL.pAll kids (j + 1) = ks.foldl CL.addU l0 from HALL.out hk0 hpp)
          clear hpp hk0
          go_wp2_with fail
          refine HP.out.mono ?_
          rintro r w2 ⟨rfl, hx2⟩
          have hz2 := hx2.size
          obtain ⟨e0, e1, e2, e3, e4⟩ := (hbB.ext hx2).c5
          have HS2 := Lib.hid (HSB.out.ext hx2)
          have hbw2 := hbwB.trans (hx2.mono (by omega))
          have HK2 := Lib.hid (hKs.same (Same.below ((hxB.tr hx2).mono (show p ≤ wo.heap.size by omega)) (Nat.le_refl _)))
          clear e0 e1 e2 e3
          go_wp2
          go_loopw [34] (fun i wi => ∃ (m : Nat) (A : Option Addr) (c : Nat) (vs : List (List Value)), m ≤ ks.length ∧ i = .int .i64 m ∧ Hid (MgS wi p lo ((ks.take m).foldl CL.addU l0) A c vs) ∧ Below p w2 wi) (fun i _ => ks.length - (intOf i).toNat)
          case atStart => exact ⟨0, A, c, vs, by omega, rfl, by simpa using HS2, Below.refl _ _⟩
          case round =>
            obtain ⟨m, A4, c4, vs4, hm, rfl, HS4, hbi⟩ := hrel
            obtain ⟨wi, rfl⟩ : ∃ wi : World, wi = wr := ⟨_, rfl⟩
            have hzi := hbi.size
            have hfl := foldU_len (ks.take m) l0
            have htl := List.length_take_le m ks
            by_cases hlt2 : m < ks.length
            · obtain ⟨b2, o2, k2, s2, m2, u2, A2, l2, x2, rfl, hb2, hR2, g0, g1, g2, g3, g4⟩ := (HK2.out.same (Same.below hbi (Nat.le_refl _))).get hlt2
              have HFT := Lib.hid (fold_take (l0 := l0) hlt2)
              have hmi : (m : Int) < (ks.length : Int) := by omega
              generalize ks[m] = y at *
              have hxC := Ext.new wi (.cells #[.int .i64 k2, .string s2, .int .i64 m2, .int .i64 u2, .slice A2 l2 x2] 28)
              have hpi := HS4.out.blk.lt
              go_wp2_with (go_at_call 93; (with_reducible refine (add_c _ _ p lo c4 A4 vs4 _ _ (HS4.out.ext hxC) (hR2.ext hxC (by omega)) (by omega)).mono ?_); rintro r w3 ⟨rfl, A3, c3, vs3, hS3, hb3⟩)
              exact ⟨⟨m + 1, A3, c3, vs3, by omega, by go_num, by rw [HFT.out]; exact Lib.hid hS3, (hbi.trans (hxC.mono (by omega))).trans hb3⟩, by simp [intOf]; omega⟩
            · obtain rfl : m = ks.length := by omega
              have HS5 := HS4
              rw [List.take_length, ← HE.out] at HS5
              go_wp2
              exact ⟨⟨j + 1, A4, c4, vs4, by omega, by go_num, HS5, hbw2.trans hbi⟩, by simp [intOf]; omega⟩
    · obtain rfl : j = kids.length := by omega
      have hq := HS.out.blk.cell 0
      rw [HMR.out] at HS hq
      obtain ⟨A', c', ev, hcc, _⟩ := own_form HS.out.own
      injection ev with ev1 _ ev3
      subst ev1 ev3
      go_wp2
      go_ret
      exact ⟨A, c, rfl, hcc, HS.out.kidsH hlo, by rw [← hW] at hbw; exact hbw⟩
end Go.Proofs.Ytmolffigeobnnaa
