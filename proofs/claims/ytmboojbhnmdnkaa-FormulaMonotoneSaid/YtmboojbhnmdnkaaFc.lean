
/- The walk of formula.Class. -/
import Derived.Test.YtmboojbhnmdnkaaFp
namespace Go.Proofs.Ytmboojbhnmdnkaa
open Go.RowKit
set_option linter.unusedVariables false
def alone (n i : Nat) : List Bool := (List.range n).map (fun j : Nat => ((j : Int) == (i : Int)))
def without (n i : Nat) : List Bool := (List.range n).map (fun j : Nat => ((j : Int) != (i : Int)))
def conjB (f : List Bool → Bool) (n : Nat) : Nat → Bool
  | 0 => true
  | i + 1 => conjB f n i && !f (without n i)
def disjB (f : List Bool → Bool) (n : Nat) : Nat → Bool
  | 0 => true
  | i + 1 => disjB f n i && f (alone n i)
def clsN (f : List Bool → Bool) (n : Nat) : Int := if conjB f n n = true then 2 else if disjB f n n = true then 3 else 4
def cls (e : CL.Ex) : Int := if (CL.atoms e).length < 2 then (CL.atoms e).length else clsN (fun s => ev (hasA (CL.atoms e) s) e) (CL.atoms e).length
theorem bls_at {w : World} {g : Nat} {L : List Bool} (h : Blk w g 4 (bls L).toArray) {q : Nat} (hq : q < L.length) : w.cell? ⟨g, q, none⟩ = some (.bool L[q]) := by rw [h.cell]; simp [bls, hq]
theorem two_rows (w : World) (c1 : Array Value) (t1 : TypeId) (c2 : Array Value) (t2 : TypeId) : Blk ((w.alloc (.cells c1 t1)).alloc (.cells c2 t2)) w.heap.size t1 c1 ∧ Blk ((w.alloc (.cells c1 t1)).alloc (.cells c2 t2)) (w.heap.size + 1) t2 c2 :=
  ⟨(Blk.new _ _ _).alloc _, by have h := Blk.new (w.alloc (.cells c1 t1)) t2 c2; rw [World.size_alloc] at h; exact h⟩
set_option maxHeartbeats 3200000 in
theorem formula.Class_c (e : CL.Ex) (w : World) (B : Nat) (cs : List Value) (hR : Rd w B e cs) (hB : B ≤ w.heap.size) :
    Calls Try.prog 27 #[.agg cs.toArray] w fun r w' => r = .returned (.int .i64 (cls e)) ∧ Ext w w' := by
  obtain ⟨k, s, m, u, A1, l1, c1, rfl⟩ := hR.shape
  obtain ⟨bE, hx0⟩ := box1 w #[.int .i64 k, .string s, .int .i64 m, .int .i64 u, .slice A1 l1 c1] 28
  have hz0 := hx0.size
  have hl8 := atoms_len e
  have HAT := Lib.hid (formula.Atoms_c e _ B _ (hR.ext hx0 hB) (by omega))
  have HPR := Lib.hid (show cls e = if (CL.atoms e).length < 2 then ((CL.atoms e).length : Int) else clsN (fun s => ev (hasA (CL.atoms e) s) e) (CL.atoms e).length from rfl)
  generalize CL.atoms e = L0 at *
  have hmk := mk_bools L0.length (by omega)
  by_cases h2 : L0.length < 2
  · have HP := Lib.hid (show cls e = (L0.length : Int) by rw [HPR.out, if_pos h2])
    go_enter Try.func27, Try.ntmps27
    go_wp2_with (go_at_call 13; (with_reducible refine HAT.out.mono ?_); intro r w' hp; obtain ⟨A2, c2, rfl, hr2, hx⟩ := hp.get)
    go_ret
    exact ⟨ret_int HP.out.symm, hx0.tr hx⟩
  · have HP := Lib.hid (show cls e = clsN (fun s => ev (hasA L0 s) e) L0.length by rw [HPR.out, if_neg h2])
    go_enter Try.func27, Try.ntmps27
    go_wp2_with (go_at_call 13; (with_reducible refine HAT.out.mono ?_); intro r w' hp; obtain ⟨A2, c2, rfl, hr2, hx⟩ := hp.get)
    have hRw := (hR.ext hx0 hB).ext hx (by omega)
    have hbE := bE.ext hx
    have hgE := hbE.lt
    have hxw : Ext w w' := hx0.tr hx
    have hBg : B ≤ w'.heap.size := by have := hx.size; omega
    clear hx hx0 bE HAT
    have HH := Lib.hid (show ∀ (W : World) (c g : Nat) (L : List Bool), L.length = L0.length → Ext w' W → Blk W g 4 (bls L).toArray → Calls Try.prog 35 #[.agg #[.int .i64 k, .string s, .int .i64 m, .int .i64 u, .slice A1 l1 c1], .slice A2 L0.length c, .slice (some ⟨g, 0, none⟩) L0.length L0.length] W fun r w' => r = .returned (.bool (ev (hasA L0 L) e)) ∧ Ext W w' by
      intro W c g L hL hb hB2
      have h := formula.holds_c L0 L A2 (some ⟨g, 0, none⟩) c L0.length (by unfold maxLen; omega) (by unfold maxLen; omega) e W B _ (hRw.ext hb hBg) (by have := hb.size; omega) (hr2.ext hb) hB2.sits
      rw [hL] at h
      exact h)
    go_loopw [4, 5, 19] (fun cj dj i wr => ∃ j : Nat, j ≤ L0.length ∧ i = .int .i64 j ∧ cj = .bool (conjB (fun s => ev (hasA L0 s) e) L0.length j) ∧ dj = .bool (disjB (fun s => ev (hasA L0 s) e) L0.length j) ∧ Ext w' wr) (fun _ _ i _ => L0.length - (intOf i).toNat)
    case atStart => exact ⟨0, by omega, rfl, rfl, rfl, Ext.rfl'⟩
    case round =>
      obtain ⟨j, hj, rfl, rfl, rfl, hy⟩ := hrel
      obtain ⟨WO, rfl⟩ : ∃ WO : World, WO = wr := ⟨_, rfl⟩
      have hsr := hy.size
      by_cases hlt : j < L0.length
      · have HC := Lib.hid (show conjB (fun s => ev (hasA L0 s) e) L0.length (j + 1) = (conjB (fun s => ev (hasA L0 s) e) L0.length j && !ev (hasA L0 (without L0.length j)) e) from rfl)
        have HD := Lib.hid (show disjB (fun s => ev (hasA L0 s) e) L0.length (j + 1) = (disjB (fun s => ev (hasA L0 s) e) L0.length j && ev (hasA L0 (alone L0.length j)) e) from rfl)
        generalize conjB (fun s => ev (hasA L0 s) e) L0.length j = cj at *
        generalize disjB (fun s => ev (hasA L0 s) e) L0.length j = dj at *
        obtain ⟨b7, b8⟩ := two_rows WO (bls (List.replicate L0.length false)).toArray 4 (bls (List.replicate L0.length false)).toArray 4
        have hx2 : Ext WO ((WO.alloc (.cells (bls (List.replicate L0.length false)).toArray 4)).alloc (.cells (bls (List.replicate L0.length false)).toArray 4)) := by go_grown
        go_wp2
        generalize ((WO.alloc (.cells (bls (List.replicate L0.length false)).toArray 4)).alloc (.cells (bls (List.replicate L0.length false)).toArray 4)) = w2 at *
        go_loopw [30] (fun i2 wi => ∃ (q : Nat) (La Lb : List Bool), q ≤ L0.length ∧ i2 = .int .i64 q ∧ Ext WO wi ∧ Blk wi WO.heap.size 4 (bls La).toArray ∧ Blk wi (WO.heap.size + 1) 4 (bls Lb).toArray ∧ Hid (Filled (fun p : Nat => ((p : Int) == (j : Int))) La L0.length q) ∧ Hid (Filled (fun p : Nat => ((p : Int) != (j : Int))) Lb L0.length q)) (fun i2 _ => L0.length - (intOf i2).toNat)
        case atStart => exact ⟨0, _, _, by omega, rfl, hx2, b7, b8, Filled.zero _ _, Filled.zero _ _⟩
        case round =>
          obtain ⟨q, La, Lb, hq, rfl, hxi, hba, hbb, HA, HB⟩ := hrel
          have hla1 : La.length ≤ L0.length := by rw [HA.out.1]; exact Nat.le_refl _
          have hla2 : L0.length ≤ La.length := by rw [HA.out.1]; exact Nat.le_refl _
          have hlb1 : Lb.length ≤ L0.length := by rw [HB.out.1]; exact Nat.le_refl _
          have hlb2 : L0.length ≤ Lb.length := by rw [HB.out.1]; exact Nat.le_refl _
          by_cases hlt2 : q < L0.length
          · have s0 := bls_at hba (q := q) (by omega)
            have z0 := hba.frozen q
            have hba2 := hba.set q (.bool ((q : Int) == (j : Int)))
            rw [bls_set] at hba2
            have hbb2 := hbb.only (Only.rf.set (g := WO.heap.size) (w := wr) q (.bool ((q : Int) == (j : Int)))) (by omega)
            have s1 := bls_at hbb2 (q := q) (by omega)
            have z1 := hbb2.frozen q
            have hbb3 := hbb2.set q (.bool ((q : Int) != (j : Int)))
            rw [bls_set] at hbb3
            have hba3 := hba2.only (Only.rf.set (g := WO.heap.size + 1) (w := (wr.setCell ⟨WO.heap.size, q, none⟩ (.bool ((q : Int) == (j : Int))))) q (.bool ((q : Int) != (j : Int)))) (by omega)
            have hx3 : Ext WO _ := (hxi.setCell (p := ⟨WO.heap.size, q, none⟩) (Nat.le_refl _) (.bool ((q : Int) == (j : Int)))).setCell (p := ⟨WO.heap.size + 1, q, none⟩) (by simp) (.bool ((q : Int) != (j : Int)))
            have hqi : (q : Int) < (L0.length : Int) := by omega
            have HA2 := Lib.hid HA.out.step
            have HB2 := Lib.hid HB.out.step
            go_wp2
            exact ⟨⟨q + 1, _, _, by omega, by go_num, hx3, hba3, hbb3, HA2, HB2⟩, by simp [intOf]; omega⟩
          · have HLA := Lib.hid (HA.out.done (by omega))
            have HLB := Lib.hid (HB.out.done (by omega))
            have hxf := hy.tr hxi
            obtain ⟨e0, e1, e2, e3, e4⟩ := (hbE.ext hxf).c5
            have HLa := Lib.hid HA.out.1
            have HLb := Lib.hid HB.out.1
            cases cj <;> cases dj
            all_goals
              go_wp2_with (first
                | (go_at_call 35; (with_reducible refine (HH.out _ _ (WO.heap.size + 1) Lb HLb.out hxf hbb).mono ?_); rintro r w4 ⟨rfl, hx4⟩; replace hxf := hxf.tr hx4; replace hba := hba.ext hx4; clear hx4; obtain ⟨e0, e1, e2, e3, e4⟩ := (hbE.ext hxf).c5)
                | (go_at_call 35; (with_reducible refine (HH.out _ _ WO.heap.size La HLa.out hxf hba).mono ?_); rintro r w4 ⟨rfl, hx4⟩; replace hxf := hxf.tr hx4; clear hx4))
              refine ⟨⟨j + 1, by omega, by go_num, ?_, ?_, hxf⟩, by simp [intOf]; omega⟩
              · rw [HC.out]; first | rfl | (rw [HLB.out]; rfl)
              · rw [HD.out]; first | rfl | (rw [HLA.out]; rfl)
      · obtain rfl : j = L0.length := by omega
        have HF := Lib.hid (show cls e = if conjB (fun s => ev (hasA L0 s) e) L0.length L0.length = true then 2 else if disjB (fun s => ev (hasA L0 s) e) L0.length L0.length = true then 3 else 4 from HP.out)
        cases hc : conjB (fun s => ev (hasA L0 s) e) L0.length L0.length
        all_goals cases hd : disjB (fun s => ev (hasA L0 s) e) L0.length L0.length
        all_goals
          go_wp2
          go_ret
          exact ⟨ret_int (by rw [HF.out, hc, hd]; rfl), hxw.tr hy⟩
end Go.Proofs.Ytmboojbhnmdnkaa
