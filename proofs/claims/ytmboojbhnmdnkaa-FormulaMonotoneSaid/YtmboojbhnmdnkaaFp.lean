
/- The walk of formula.Prune. -/
import Derived.Test.YtmboojbhnmdnkaaFo
import Derived.Laws.CopyOwn
namespace Go.Proofs.Ytmboojbhnmdnkaa
open Go.RowKit
set_option linter.unusedVariables false
def pgo (f : List Bool → Bool) : Nat → List Bool → List Bool
  | 0, r => r
  | i + 1, r => pgo f i (if r.getD i false = true ∧ f (r.set i false) = true then r.set i false else r)
theorem pgo_len (f : List Bool → Bool) : ∀ (i : Nat) (r : List Bool), (pgo f i r).length = r.length
  | 0, r => rfl
  | i + 1, r => by
    simp only [pgo]
    rw [pgo_len f i]
    split <;> simp
def takeOf (n : Nat) (set : List Bool) : List Bool := (List.range n).map (fun i => set.getD i false)
theorem takeOf_len (n : Nat) (set : List Bool) : (takeOf n set).length = n := by simp [takeOf]
def prn (e : CL.Ex) (set : List Bool) : List Bool :=
  if CL.valid e = true ∧ ev (hasA (CL.atoms e) set) e = true then pgo (fun s => ev (hasA (CL.atoms e) s) e) (CL.atoms e).length (takeOf (CL.atoms e).length set) else List.replicate (CL.atoms e).length false
theorem prn_len (e : CL.Ex) (set : List Bool) : (prn e set).length = (CL.atoms e).length := by
  unfold prn
  split
  · rw [pgo_len, takeOf_len]
  · simp
/-- a list of truth values in a block of its own -/
def OwnBls (l : List Bool) (w : World) (r : Ending) (w' : World) : Prop := ∃ g, r = .returned (.slice (some ⟨g, 0, none⟩) l.length l.length) ∧ Blk w' g 4 (bls l).toArray ∧ w.heap.size ≤ g ∧ Ext w w'
theorem splice_bools (n : Nat) (set : List Bool) : splice (bls (List.replicate n false)) 0 (bls (set.take n)) = bls (takeOf n set) := by
  unfold splice
  simp only [List.take_zero, List.nil_append, Nat.zero_add]
  rw [show (bls (set.take n)).length = (set.take n).length by simp [bls]]
  apply List.ext_getElem
  · simp [bls, takeOf]; omega
  · intro i h1 h2
    have hn : i < n := by simpa [bls, takeOf] using h2
    by_cases h : i < set.length
    · rw [List.getElem_append_left (by simp [bls]; omega)]
      simp [bls, takeOf, List.getD, h]
    · rw [List.getElem_append_right (by simp [bls]; omega)]
      simp [bls, takeOf, List.getD, List.getElem?_eq_none (show set.length ≤ i by omega)]
theorem set_back {L : List Bool} {q : Nat} (hq : q < L.length) (h : L[q] = true) : (L.set q false).set q true = L := by
  rw [List.set_set]
  apply List.ext_getElem
  · simp
  · intro i h1 h2
    rw [List.getElem_set]
    split
    · rename_i e; subst e; exact h.symm
    · rfl
theorem pgo_f {f : List Bool → Bool} {q : Nat} {L : List Bool} (hq : q < L.length) (h : L[q] = false) : pgo f (q + 1) L = pgo f q L := by
  simp only [pgo]
  rw [if_neg (by simp [List.getD, hq, h])]
theorem pgo_t {f : List Bool → Bool} {q : Nat} {L : List Bool} (hq : q < L.length) (h : L[q] = true) (hf : f (L.set q false) = true) : pgo f (q + 1) L = pgo f q (L.set q false) := by
  simp only [pgo]
  rw [if_pos ⟨by simp [List.getD, hq, h], hf⟩]
theorem pgo_b {f : List Bool → Bool} {q : Nat} {L : List Bool} (hf : f (L.set q false) = false) : pgo f (q + 1) L = pgo f q L := by
  simp only [pgo]
  rw [if_neg (fun h => by rw [hf] at h; exact absurd h.2 (by simp))]
theorem Blk.below {w w' : World} {g B : Nat} {t : TypeId} {cs : Array Value} (h : Blk w g t cs) (hb : Below B w w') (hg : g < B) : Blk w' g t cs := (hb.block g hg).trans h
theorem SitsB.sits {w : World} {B : Nat} {A : Option Addr} {xs : List Value} (h : SitsB w B A xs) : Sits w A xs := fun hn =>
  let ⟨b, o, e, _, hc⟩ := h hn
  ⟨b, o, e, hc⟩
theorem copy_bools {w : World} {ops : Array Oper} {rest : List Oper} {o : Oper} {a : Act} {Q : Exit → Act → World → Prop} (hgd : o.guard = none) (d s : Operand)
    (ho : o.op = .call { callee := .builtin .copy, args := #[d, s], argTypes := #[33, 33] }) (g n : Nat) (S : Option Addr) (set : List Bool) (sc : Nat) (hd : a.eval d = .slice (some ⟨g, 0, none⟩) n n) (hs : a.eval s = .slice S set.length sc)
    (hb : Blk w g 4 (bls (List.replicate n false)).toArray) (hr : Sits w S (bls set))
    (h : ∀ w' v, Blk w' g 4 (bls (takeOf n set)).toArray → Below g w w' → wpList Try.prog ops Q rest (a.put o.dst v) w') : wpList Try.prog ops Q (o :: rest) a w := by
  refine wpList_copy_splice hgd d s _ _ ho 4 Try.underlying33 (by kernel_rfl) (some ⟨g, 0, none⟩) S n n set.length sc hd hs g 0 (bls (List.replicate n false)) 4 hb (bls (set.take n)) (by simp only [bls, List.length_map, List.length_take]; exact Nat.min_comm _ _) ?_ (by simp [bls]; omega) (by intro v hv; simp only [bls, List.mem_map] at hv; obtain ⟨b, _, rfl⟩ := hv; rfl) g w (Below.refl _ _) (Nat.le_refl _) ?_
  · intro h0
    refine ⟨rfl, ?_⟩
    obtain ⟨b, o, e, hc⟩ := hr.get (by simp [bls] at h0 ⊢; omega)
    refine ⟨_, e, fun j v hj => ?_⟩
    rw [Addr.add_lit]
    refine hc j v ?_
    have hj2 := (List.getElem?_eq_some_iff.1 hj).1
    rw [← hj, show bls (set.take n) = (bls set).take n by simp [bls, List.map_take], List.getElem?_take_of_lt (by simp [bls] at hj2; omega)]
  · intro w' hw' hb'
    refine h w' _ ?_ hb'
    have := hw'.out
    rwa [splice_bools] at this
set_option maxHeartbeats 1600000 in
theorem formula.Prune_c (e : CL.Ex) (set : List Bool) (S : Option Addr) (d : Nat) (hs : set.length ≤ maxLen) (w : World) (B : Nat) (cs : List Value) (hR : Rd w B e cs) (hB : B ≤ w.heap.size) (hrs : Sits w S (bls set)) :
    Calls Try.prog 25 #[.agg cs.toArray, .slice S set.length d] w (OwnBls (prn e set) w) := by
  obtain ⟨k, s, m, u, A1, l1, c1, rfl⟩ := hR.shape
  obtain ⟨bE, hx0⟩ := box1 w #[.int .i64 k, .string s, .int .i64 m, .int .i64 u, .slice A1 l1 c1] 28
  have hz0 := hx0.size
  have hl8 := atoms_len e
  unfold maxLen at hs
  have HAT := Lib.hid (formula.Atoms_c e _ B _ (hR.ext hx0 hB) (by omega))
  have HV := Lib.hid (fun (h : CL.valid e = false) => atoms_nil h)
  have HNE := Lib.hid (fun (h : CL.valid e = true) => atoms_ne h)
  have HPR := Lib.hid (show prn e set = if CL.valid e = true ∧ ev (hasA (CL.atoms e) set) e = true then pgo (fun s => ev (hasA (CL.atoms e) s) e) (CL.atoms e).length (takeOf (CL.atoms e).length set) else List.replicate (CL.atoms e).length false from rfl)
  generalize CL.atoms e = L0 at *
  have hmk := mk_bools L0.length (by omega)
  cases hv : CL.valid e
  · obtain rfl := HV.out hv
    have hmk0 : ∀ W : World, (Instr.makeSlice 33 (.int .i64 0) (.int .i64 0)).run Try.prog W = .ok (.slice (some ⟨W.heap.size, 0, none⟩) 0 0) (W.alloc (.cells #[] 4)) := mk_bools 0 (by decide)
    clear hmk
    have HP := Lib.hid (show prn e set = [] by rw [HPR.out, hv]; simp)
    go_enter Try.func25, Try.ntmps25
    go_wp2_with (go_at_call 13; (with_reducible refine HAT.out.mono ?_); intro r w' hp; obtain ⟨A2, c2, rfl, hr2, hx⟩ := hp.get)
    go_ret
    rw [HP.out]
    exact ⟨w'.heap.size, rfl, Blk.new _ _ _, by have := hx.size; omega, (hx0.tr hx).tr (Ext.new _ _)⟩
  · have hn : 0 < L0.length := List.length_pos_iff.2 (HNE.out hv)
    have hn0 : ((L0.length : Int) == 0) = false := beq_eq_false_iff_ne.2 (by omega)
    clear HV HNE
    cases hev : ev (hasA L0 set) e
    · have HP := Lib.hid (show prn e set = List.replicate L0.length false by rw [HPR.out, hv, hev]; simp)
      go_enter Try.func25, Try.ntmps25
      go_wp2_with (first
        | (go_at_call 13; (with_reducible refine HAT.out.mono ?_); intro r w' hp; obtain ⟨A2, c2, rfl, hr2, hx⟩ := hp.get; obtain ⟨e0, e1, e2, e3, e4⟩ := ((bE.ext hx).alloc (.cells (bls (List.replicate L0.length false)).toArray 4)).c5; have hz1 := hx.size; have hx2 := Ext.tr hx (Ext.new w' (.cells (bls (List.replicate L0.length false)).toArray 4)))
        | (go_at_call 35; (with_reducible refine (formula.holds_c L0 set _ S _ d (by unfold maxLen; omega) (by unfold maxLen; omega) e _ B _ ((hR.ext hx0 hB).ext hx2 (by omega)) (by simp; omega) (hr2.ext (Ext.new _ _)) ((hrs.ext hx0).ext hx2)).mono ?_); rintro r w'' ⟨rfl, hx1⟩))
      go_ret
      rw [HP.out]
      refine ⟨w'.heap.size, by simp, (Blk.new w' _ _).ext hx1, by omega, hx0.tr (Ext.tr hx2 hx1)⟩
    · have HP := Lib.hid (show prn e set = pgo (fun s => ev (hasA L0 s) e) L0.length (takeOf L0.length set) by rw [HPR.out, hv, hev]; simp)
      go_enter Try.func25, Try.ntmps25
      go_wp2_with (first
        | (go_at_call 13; (with_reducible refine HAT.out.mono ?_); intro r w' hp; obtain ⟨A2, c2, rfl, hr2, hx⟩ := hp.get; obtain ⟨e0, e1, e2, e3, e4⟩ := ((bE.ext hx).alloc (.cells (bls (List.replicate L0.length false)).toArray 4)).c5; have hz1 := hx.size; have hx2 := Ext.tr hx (Ext.new w' (.cells (bls (List.replicate L0.length false)).toArray 4)))
        | (go_at_call 35; (with_reducible refine (formula.holds_c L0 set _ S _ d (by unfold maxLen; omega) (by unfold maxLen; omega) e _ B _ ((hR.ext hx0 hB).ext hx2 (by omega)) (by simp; omega) (hr2.ext (Ext.new _ _)) ((hrs.ext hx0).ext hx2)).mono ?_); rintro r w'' ⟨rfl, hx1⟩)
        | (refine copy_bools rfl (.tmp 24) (.tmp 25) rfl w'.heap.size L0.length S set d rfl rfl ((Blk.new w' _ _).ext hx1) (((hrs.ext hx0).ext hx2).ext hx1) ?_; intro w3 v3 hw3 hb3))
      have hgE := (bE.ext hx).lt
      have hbE := bE.ext hx
      have hRw := (hR.ext hx0 hB).ext hx (by omega)
      have hr2w := SitsB.of hr2
      have hbw : Below w'.heap.size w' w3 := (Below.trans (Ext.new w' (.cells (bls (List.replicate L0.length false)).toArray 4)) (hx1.mono (by simp))).trans hb3
      have hxw : Ext w w' := hx0.tr hx
      have hBg : B ≤ w'.heap.size := by omega
      have htl := takeOf_len L0.length set
      clear hx1 hx2 hx hx0 bE e0 e1 e2 e3 e4 HAT hmk hev hr2 hrs hb3 hz1
      have hxz := hxw.size
      generalize hG : w'.heap.size = g at *
      have HH := Lib.hid (show ∀ (W : World) (c : Nat) (L : List Bool), L.length = L0.length → Below g w' W → Blk W g 4 (bls L).toArray → Calls Try.prog 35 #[.agg #[.int .i64 k, .string s, .int .i64 m, .int .i64 u, .slice A1 l1 c1], .slice A2 L0.length c, .slice (some ⟨g, 0, none⟩) L0.length L0.length] W fun r w' => r = .returned (.bool (ev (hasA L0 L) e)) ∧ Ext W w' by
        intro W c L hL hb hB2
        have h := formula.holds_c L0 L A2 (some ⟨g, 0, none⟩) c L0.length (by unfold maxLen; omega) (by unfold maxLen; omega) e W B _ (hRw.kept (hb.mono hBg)) (by have := hb.size; omega) (hr2w.below hb).sits hB2.sits
        rw [hL] at h
        exact h)
      generalize hn2 : L0.length = n at *
      have HTL := Lib.hid htl
      clear htl hG hn2
      have hT := Lib.hid hw3
      go_loopw [7] (fun i wr => ∃ (j : Nat) (z : Int) (L : List Bool), j ≤ n ∧ z = (j : Int) - 1 ∧ i = .int .i64 z ∧ L.length = n ∧ Below g w' wr ∧ Blk wr g 4 (bls L).toArray ∧ Hid (pgo (fun s => ev (hasA L0 s) e) n (takeOf n set) = pgo (fun s => ev (hasA L0 s) e) j L)) (fun i _ => (intOf i + 1).toNat)
      case atStart => exact ⟨n, _, _, by omega, rfl, rfl, HTL.out, hbw, hw3, Lib.hid rfl⟩
      case round =>
        obtain ⟨j, z, L, hj, hz, rfl, hL, hbl, hbk, HL⟩ := hrel
        have hszr := hbl.size
        have hgw2 := hbk.lt
        have hL1 : L.length ≤ n := by omega
        have hL2 : n ≤ L.length := by omega
        have HLn := Lib.hid hL
        clear hL
        rcases Nat.eq_zero_or_pos j with hj0 | hj0
        · obtain rfl : z = -1 := by omega
          subst hj0
          clear hz
          go_wp2
          go_ret
          rw [HP.out, HL.out]
          refine ⟨g, by rw [pgo_len, HLn.out]; rfl, hbk, by omega, ?_⟩
          exact hxw.trans (hbl.mono (by omega))
        · obtain ⟨q, rfl⟩ : ∃ q, j = q + 1 := ⟨j - 1, by omega⟩
          obtain rfl : z = (q : Int) := by omega
          clear hz
          have hql : q < L.length := by omega
          have s0 : wr.cell? ⟨g, q, none⟩ = some (.bool L[q]) := by rw [hbk.cell]; simp [bls, hql]
          have z0 := hbk.frozen q
          have hqi : (q : Int) < (n : Int) := by omega
          cases hlq : L[q]
          · have HF := Lib.hid (pgo_f (f := fun s => ev (hasA L0 s) e) hql hlq)
            rw [hlq] at s0
            go_wp2
            exact ⟨⟨q, _, L, by omega, rfl, rfl, HLn.out, hbl, hbk, Lib.hid (HL.out.trans HF.out)⟩, by simp [intOf]⟩
          · have HB := Lib.hid (set_back hql hlq)
            have HT := Lib.hid (fun h => pgo_t (f := fun s => ev (hasA L0 s) e) hql hlq h)
            have HB2 := Lib.hid (fun h => pgo_b (f := fun s => ev (hasA L0 s) e) (q := q) (L := L) h)
            rw [hlq] at s0
            have hb1 := hbk.set q (.bool false)
            rw [bls_set] at hb1
            have hbl1 := hbl.setCell (p := ⟨g, q, none⟩) (Nat.le_refl _) (.bool false)
            obtain ⟨e0, e1, e2, e3, e4⟩ := (hbE.below hbl1 (by omega)).c5
            clear hlq
            cases hev : ev (hasA L0 (L.set q false)) e
            all_goals
              go_wp2_with (go_at_call 35; (with_reducible refine (HH.out _ _ (L.set q false) (by simp [HLn.out]) hbl1 hb1).mono ?_); rintro r w4 ⟨rfl, hx1⟩; have s1 : w4.cell? ⟨g, q, none⟩ = some (.bool false) := hx1.cell (by rw [hb1.cell]; simp [bls, hql]); have z1 := (hb1.ext hx1).frozen q)
              first
                | exact ⟨⟨q, _, L.set q false, by omega, rfl, rfl, by simp [HLn.out], hbl1.trans (hx1.mono (by simp; omega)), hb1.ext hx1, Lib.hid (HL.out.trans (HT.out hev))⟩, by simp [intOf]⟩
                | exact ⟨⟨q, _, L, by omega, rfl, rfl, HLn.out, (hbl1.trans (hx1.mono (by simp; omega))).setCell (p := ⟨g, q, none⟩) (Nat.le_refl _) _, by have := (hb1.ext hx1).set q (.bool true); rw [bls_set, HB.out] at this; exact this, Lib.hid (HL.out.trans (HB2.out hev))⟩, by simp [intOf]⟩
end Go.Proofs.Ytmboojbhnmdnkaa
