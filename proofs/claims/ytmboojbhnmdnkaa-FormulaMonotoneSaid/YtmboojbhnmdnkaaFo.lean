
/- The walks of formula's Holds, Hopeless, Prune, Class. -/
import Derived.Test.YtmboojbhnmdnkaaEv
namespace Go.Proofs.Ytmboojbhnmdnkaa
open Go.RowKit
set_option linter.unusedVariables false
theorem radd_ne (e : CL.Ex) : ∀ l x : List CL.At, CL.radd e l = some x → x ≠ [] := by
  induction e using CL.Ex.ind with
  | h k a kids ih =>
    intro l x h
    simp only [CL.radd] at h
    split at h
    · split at h
      · injection h with h
        subst h
        split
        · rename_i hm; intro e; rw [e] at hm; simp at hm
        · simp
      · cases h
    · rename_i hk
      split at h
      · cases h
      · cases kids with
        | nil => exact absurd rfl hk
        | cons e ks =>
          simp only [CL.raddL] at h
          split at h
          · cases h
          · rename_i y hy
            have h1 := ih e (by simp) l y hy
            have hpre : ∀ (ks : List CL.Ex) (l x : List CL.At), CL.raddL ks l = some x → ∃ r, x = l ++ r := by
              intro ks
              induction ks with
              | nil => intro l x h; simp [CL.raddL] at h; exact ⟨[], by simp [h]⟩
              | cons e ks ihk =>
                intro l x h
                simp only [CL.raddL] at h
                split at h
                · cases h
                · rename_i y hy
                  obtain ⟨r1, rfl⟩ := CL.radd_pre e l y hy
                  obtain ⟨r2, rfl⟩ := ihk _ _ h
                  exact ⟨r1 ++ r2, by simp⟩
            obtain ⟨r, rfl⟩ := hpre ks y x h
            intro e0
            rw [List.append_eq_nil_iff] at e0
            exact h1 e0.1
theorem atoms_ne {e : CL.Ex} (h : CL.valid e = true) : CL.atoms e ≠ [] := by
  have h1 := CL.valid_coll h
  have h2 := radd_ne e [] _ h1.1
  simpa [CL.atoms, h] using h2
theorem atoms_len (e : CL.Ex) : (CL.atoms e).length ≤ 8 := by
  unfold CL.atoms
  split
  · rename_i h; exact (CL.valid_coll h).2.1.1
  · simp
theorem atoms_nil {e : CL.Ex} (h : CL.valid e = false) : CL.atoms e = [] := by simp [CL.atoms, h]
def holdsE (e : CL.Ex) (set : List Bool) : Bool := CL.valid e && ev (hasA (CL.atoms e) set) e
def restOf (n : Nat) (dead : List Bool) : List Bool := (List.range n).map (fun i => !(dead.getD i false))
def hpl (e : CL.Ex) (dead : List Bool) : Bool := CL.valid e && !ev (hasA (CL.atoms e) (restOf (CL.atoms e).length dead)) e
theorem OwnAts.get {base : Nat} {l : List CL.At} {w w' : World} {r : Ending} (h : OwnAts base l w r w') : ∃ A c, r = .returned (.slice A l.length c) ∧ Sits w' A (ats l) ∧ Below base w w' := by
  obtain ⟨v, rfl, ho, hb⟩ := h
  obtain ⟨A, c, rfl, _, _⟩ := own_form ho
  exact ⟨A, c, rfl, Sits.of_own ho, hb⟩
theorem formula.Holds_c (e : CL.Ex) (set : List Bool) (S : Option Addr) (d : Nat) (hs : set.length ≤ maxLen) (w : World) (B : Nat) (cs : List Value) (hR : Rd w B e cs) (hB : B ≤ w.heap.size) (hrs : Sits w S (bls set)) :
    Calls Try.prog 16 #[.agg cs.toArray, .slice S set.length d] w fun r w' => r = .returned (.bool (holdsE e set)) ∧ Ext w w' := by
  obtain ⟨k, s, m, u, A1, l1, c1, rfl⟩ := hR.shape
  obtain ⟨bE, hx0⟩ := box1 w #[.int .i64 k, .string s, .int .i64 m, .int .i64 u, .slice A1 l1 c1] 28
  have hz0 := hx0.size
  have hl8 := atoms_len e
  cases hv : CL.valid e
  · have HV := Lib.hid (show holdsE e set = false by simp [holdsE, hv])
    have hn := atoms_nil hv
    have hat := formula.Atoms_c e _ B _ (hR.ext hx0 hB) (by omega)
    rw [hn] at hat
    have HAT := Lib.hid hat
    clear hat hn hl8
    go_enter Try.func16, Try.ntmps16
    go_wp2_with (go_at_call 13; (with_reducible refine HAT.out.mono ?_); intro r w' hp; obtain ⟨A2, c2, rfl, hr2, hx⟩ := hp.get)
    go_ret
    exact ⟨ret_bool HV.out.symm, hx0.tr hx⟩
  · have HV := Lib.hid (show holdsE e set = ev (hasA (CL.atoms e) set) e by simp [holdsE, hv])
    have hn : 0 < (CL.atoms e).length := List.length_pos_iff.2 (atoms_ne hv)
    go_enter Try.func16, Try.ntmps16
    go_wp2_with (first
      | (go_at_call 13; (with_reducible refine (formula.Atoms_c e _ B _ (hR.ext hx0 hB) (by omega)).mono ?_); intro r w' hp; obtain ⟨A2, c2, rfl, hr2, hx⟩ := hp.get; obtain ⟨e0, e1, e2, e3, e4⟩ := (bE.ext hx).c5; have hz1 := hx.size)
      | (go_at_call 35; (with_reducible refine (formula.holds_c (CL.atoms e) set _ S _ d (by unfold maxLen; omega) hs e _ B _ ((hR.ext hx0 hB).ext hx (by omega)) (by omega) hr2 ((hrs.ext hx0).ext hx)).mono ?_); rintro r w'' ⟨rfl, hx1⟩))
    go_ret
    exact ⟨ret_bool HV.out.symm, hx0.tr (Ext.tr hx hx1)⟩
theorem bls_set {L : List Bool} {j : Nat} {b : Bool} : (bls L).toArray.setIfInBounds j (.bool b) = (bls (L.set j b)).toArray := by simp [bls, List.map_set]
theorem Blk.sits {w : World} {g : Nat} {t : TypeId} {xs : List Value} (h : Blk w g t xs.toArray) : Sits w (some ⟨g, 0, none⟩) xs := fun _ =>
  ⟨g, 0, rfl, fun j u hu => by rw [Nat.zero_add, h.cell]; simpa using hu⟩
theorem bool_info : (Try.prog.info? 4).map (fun i => (i.zero, i.size, i.bytes)) = some (some (.bool false), 1, 1) := by kernel_rfl
theorem mk_bools (n : Nat) (hn : n ≤ 1000) (W : World) : (Instr.makeSlice 33 (.int .i64 (n : Int)) (.int .i64 (n : Int))).run Try.prog W = .ok (.slice (some ⟨W.heap.size, 0, none⟩) n n) (W.alloc (.cells (bls (List.replicate n false)).toArray 4)) := by
  obtain ⟨i, hi, hz, hsz, hby⟩ := info_parts bool_info
  have h := run_make (P := Try.prog) W 33 4 i _ Try.underlying33 hi hz .i64 .i64 (n : Int) (n : Int) (by omega) (by omega) (by rw [hby]; omega) (by omega)
  rw [h, hsz]
  simp only [Int.toNat_natCast, Nat.mul_one]
  have e : madeCells (Value.bool false).cells n = (bls (List.replicate n false)).toArray := by
    apply Array.ext
    · simp [madeCells, bls]
    · intro j h1 h2
      simp [madeCells, bls, Value.cells, Nat.mod_one]
  rw [e]
/-- the truth values written so far are those of f -/
def Filled (f : Nat → Bool) (L : List Bool) (n j : Nat) : Prop := L.length = n ∧ ∀ i, i < j → (hi : i < L.length) → L[i] = f i
theorem Filled.zero (f : Nat → Bool) (n : Nat) : Filled f (List.replicate n false) n 0 := ⟨by simp, fun i h => by omega⟩
theorem Filled.step {f : Nat → Bool} {L : List Bool} {n j : Nat} (h : Filled f L n j) : Filled f (L.set j (f j)) n (j + 1) := by
  refine ⟨by simp [h.1], fun i hi hl => ?_⟩
  rw [List.getElem_set]
  split
  · rename_i e; rw [e]
  · exact h.2 i (by omega) (by simpa using hl)
theorem Filled.done {f : Nat → Bool} {L : List Bool} {n j : Nat} (h : Filled f L n j) (hj : n ≤ j) : L = (List.range n).map f := by
  apply List.ext_getElem
  · simp [h.1]
  · intro i h1 h2
    rw [h.2 i (by have := h.1; omega) h1]; simp
set_option maxHeartbeats 1600000 in
theorem formula.Hopeless_c (e : CL.Ex) (dead : List Bool) (S : Option Addr) (d : Nat) (hs : dead.length ≤ maxLen) (w : World) (B : Nat) (cs : List Value) (hR : Rd w B e cs) (hB : B ≤ w.heap.size) (hrs : Sits w S (bls dead)) :
    Calls Try.prog 18 #[.agg cs.toArray, .slice S dead.length d] w fun r w' => r = .returned (.bool (hpl e dead)) ∧ Ext w w' := by
  obtain ⟨k, s, m, u, A1, l1, c1, rfl⟩ := hR.shape
  obtain ⟨bE, hx0⟩ := box1 w #[.int .i64 k, .string s, .int .i64 m, .int .i64 u, .slice A1 l1 c1] 28
  have hz0 := hx0.size
  have hl8 := atoms_len e
  unfold maxLen at hs
  cases hv : CL.valid e
  · have HV := Lib.hid (show hpl e dead = false by simp [hpl, hv])
    have hn := atoms_nil hv
    have hat := formula.Atoms_c e _ B _ (hR.ext hx0 hB) (by omega)
    rw [hn] at hat
    have HAT := Lib.hid hat
    clear hat hn hl8
    go_enter Try.func18, Try.ntmps18
    go_wp2_with (go_at_call 13; (with_reducible refine HAT.out.mono ?_); intro r w' hp; obtain ⟨A2, c2, rfl, hr2, hx⟩ := hp.get)
    go_ret
    exact ⟨ret_bool HV.out.symm, hx0.tr hx⟩
  · have HV := Lib.hid (show hpl e dead = !ev (hasA (CL.atoms e) (restOf (CL.atoms e).length dead)) e by simp [hpl, hv])
    have hn : 0 < (CL.atoms e).length := List.length_pos_iff.2 (atoms_ne hv)
    have hn0 : (((CL.atoms e).length : Int) == 0) = false := beq_eq_false_iff_ne.2 (by omega)
    have HAT := Lib.hid (formula.Atoms_c e _ B _ (hR.ext hx0 hB) (by omega))
    generalize hN : CL.atoms e = L0 at *
    have HN := Lib.hid hN
    clear hN
    have hmk := mk_bools L0.length (by omega)
    go_enter Try.func18, Try.ntmps18
    go_wp2_with (go_at_call 13; (with_reducible refine HAT.out.mono ?_); intro r w' hp; obtain ⟨A2, c2, rfl, hr2, hx⟩ := hp.get)
    have hbE := bE.ext hx
    have HRA := Lib.hid hr2
    have hxw := hx0.tr hx
    have hz1 := hx.size
    have HXW := Lib.hid hx
    clear hx hr2 HAT hmk
    generalize hn2 : L0.length = n at *
    have hbS := Blk.new w' 4 (bls (List.replicate n false)).toArray
    have hxS := Ext.new w' (.cells (bls (List.replicate n false)).toArray 4)
    have hg : w.heap.size < w'.heap.size := hbE.lt
    generalize hG : w'.heap.size = g at *
    generalize (w'.alloc (.cells (bls (List.replicate n false)).toArray 4)) = w2 at *
    go_loopw [18] (fun i wr => ∃ (j : Nat) (L : List Bool), j ≤ n ∧ i = .int .i64 j ∧ Only g w2 wr ∧ Blk wr g 4 (bls L).toArray ∧ Hid (Filled (fun i => !(dead.getD i false)) L n j)) (fun i _ => n - (intOf i).toNat)
    case atStart => exact ⟨0, _, by omega, rfl, Only.rf, hbS, Filled.zero _ _⟩
    case round =>
      obtain ⟨j, L, hj, rfl, ho, hb, HF⟩ := hrel
      have hlen := HF.out.1
      have hsz := ho.size
      by_cases hlt : j < n
      · have hbs := hb.set j (.bool (!(dead.getD j false)))
        rw [bls_set] at hbs
        have s0 : wr.cell? ⟨g, j, none⟩ = some (.bool (L[j]'(by omega))) := by rw [hb.cell]; simp [bls, show j < L.length by omega]
        have z0 := hb.frozen j
        have hji : (j : Int) < (n : Int) := by omega
        by_cases hd : j < dead.length
        · have hgd : dead.getD j false = dead[j] := by simp [List.getD, hd]
          rw [hgd] at hbs
          obtain ⟨b, o, rfl, hc⟩ := (hrs.ext hxw).bool hd
          have hbw := World.block_lt_of_cell? _ _ hc
          have hc2 : wr.cell? ⟨b, o + j, none⟩ = some (.bool dead[j]) := ho.cell (hxS.cell hc) (by intro e; injection e with e; simp at hbw e; omega)
          have hjd : ¬ (dead.length : Int) ≤ (j : Int) := by omega
          have HF2 := Lib.hid HF.out.step
          rw [hgd] at HF2
          clear hc hgd
          go_wp2
          exact ⟨⟨j + 1, _, by omega, by go_num, ho.set _ _, hbs, HF2⟩, by simp [intOf]; omega⟩
        · have hgd : dead.getD j false = false := by simp [List.getD, List.getElem?_eq_none (show dead.length ≤ j by omega)]
          rw [hgd] at hbs
          have hjd : (dead.length : Int) ≤ (j : Int) := by omega
          have HF2 := Lib.hid HF.out.step
          rw [hgd] at HF2
          clear hgd
          go_wp2
          exact ⟨⟨j + 1, _, by omega, by go_num, ho.set _ _, hbs, HF2⟩, by simp [intOf]; omega⟩
      · have hL := HF.out.done (by omega)
        obtain ⟨e0, e1, e2, e3, e4⟩ := ((hbE.ext hxS).only ho (by omega)).c5
        have hxr : Ext w' wr := Ext.only hxS ho (by omega)
        have hsl : Sits wr (some ⟨g, 0, none⟩) (bls L) := hb.sits
        have HSL := Lib.hid hsl
        have HLL := Lib.hid (show ev (hasA L0 (restOf n dead)) e = ev (hasA L0 L) e by rw [hL]; rfl)
        have HX := Lib.hid hxr
        have hsL : L.length ≤ maxLen := by unfold maxLen; omega
        have hzr := hxr.size
        obtain rfl := hlen
        clear hsl hL hxr HF
        have hc := fun c2 => formula.holds_c L0 L A2 (some ⟨g, 0, none⟩) c2 L.length (by unfold maxLen; omega) hsL e wr B _ ((hR.ext hx0 hB).ext (Ext.tr HXW.out HX.out) (by omega)) (by omega) (HRA.out.ext HX.out) HSL.out
        rw [hn2] at hc
        have HC := Lib.hid hc
        clear hc
        go_wp2_with (go_at_call 35; (with_reducible refine (HC.out _).mono ?_); rintro r w'' ⟨rfl, hx1⟩)
        go_ret
        exact ⟨ret_bool (by rw [HV.out, HLL.out]), hxw.tr (HX.out.tr hx1)⟩
end Go.Proofs.Ytmboojbhnmdnkaa
