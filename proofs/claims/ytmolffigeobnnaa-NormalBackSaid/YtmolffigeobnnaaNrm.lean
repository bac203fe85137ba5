
/- The walk of the reference's Minimal. -/
import Derived.Test.YtmolffigeobnnaaNr
import Derived.Deep.DrawnRows
import Derived.Deep.RegionHeld3
namespace Go.Proofs.Ytmolffigeobnnaa
open Go.RowKit
set_option linter.unusedVariables false
set_option linter.unusedSimpArgs false
set_option maxRecDepth 100000
attribute [local go_sem ↓] Go.wp_at_zero Go.wp_at_succ
/-- x on its way to its place in a list -/
def stI {α : Type} (pre : List α) (x : α) (q : Nat) : List α := pre.take q ++ x :: pre.drop q
theorem stI_len {α : Type} (pre : List α) (x : α) (q : Nat) : (stI pre x q).length = pre.length + 1 := by
  have := congrArg List.length (List.take_append_drop q pre)
  simp only [List.length_append] at this
  simp only [stI, List.length_append, List.length_cons]; omega
theorem stI_end {α : Type} (pre : List α) (x : α) : stI pre x pre.length = pre ++ [x] := by simp [stI]
theorem stI_at {α : Type} {pre : List α} {x : α} {q : Nat} (hq : q ≤ pre.length) : (stI pre x q)[q]? = some x := by
  simp only [stI]
  rw [List.getElem?_append_right (by simp; omega)]
  simp [Nat.min_eq_left hq]
theorem stI_pred {α : Type} {pre : List α} {x : α} {q : Nat} (hq : q + 1 ≤ pre.length) : (stI pre x (q + 1))[q]? = some (pre[q]'(by omega)) := by
  simp only [stI]
  rw [List.getElem?_append_left (by simp; omega)]
  simp [List.getElem?_take, hq]
theorem stI_swap {α : Type} {pre : List α} {x : α} {q : Nat} (hq : q + 1 ≤ pre.length) : ((stI pre x (q + 1)).set (q + 1) (pre[q]'(by omega))).set q x = stI pre x q := by
  have e1 : pre.take (q + 1) = pre.take q ++ [pre[q]'(by omega)] := (List.take_append_getElem (by omega)).symm
  have e2 : pre.drop q = pre[q]'(by omega) :: pre.drop (q + 1) := List.drop_eq_getElem_cons (by omega)
  simp only [stI]
  rw [e2, e1]
  have hl : (pre.take q).length = q := by simp; omega
  rw [List.set_append_right _ _ (by simp; omega), List.append_assoc, List.set_append_right _ _ (by omega), hl]
  simp [hl, Nat.min_eq_left hq]
theorem stI_perm {α : Type} (pre : List α) (x : α) (q : Nat) : (stI pre x q).Perm (pre ++ [x]) := by
  have h : (stI pre x q).Perm (x :: (pre.take q ++ pre.drop q)) := List.perm_middle
  rw [List.take_append_drop] at h
  exact h.trans (List.perm_append_singleton x pre).symm
theorem stI_asc {pre : List (List Int)} {x : List Int} {q : Nat} (h : Asc pre) (hx : ∀ y ∈ pre.drop q, slt x y = true) (hq : ∀ y ∈ pre.take q, slt x y = false) : Asc (stI pre x q) := by
  unfold Asc stI at *
  rw [List.pairwise_append, List.pairwise_cons]
  refine ⟨h.sublist (List.take_sublist _ _), ⟨fun y hy => slt_asym (hx y hy), h.sublist (List.drop_sublist _ _)⟩, fun a ha b hb => ?_⟩
  rcases List.mem_cons.1 hb with rfl | hb
  · exact hq a ha
  · have h2 := h
    rw [← List.take_append_drop q pre, List.pairwise_append] at h2
    exact h2.2.2 a ha b hb
/-- where no earlier one is greater, none of those before is -/
theorem asc_pre {pre : List (List Int)} {x : List Int} {q : Nat} (h : Asc pre) (hq : q + 1 ≤ pre.length) (hx : slt x (pre[q]'(by omega)) = false) : ∀ y ∈ pre.take (q + 1), slt x y = false := by
  intro y hy
  obtain ⟨i, hi, rfl⟩ := List.mem_iff_getElem.1 hy
  simp only [List.length_take] at hi
  rw [List.getElem_take]
  rcases Nat.lt_or_ge i q with hlt | hge
  · have := List.pairwise_iff_getElem.1 h i q (by omega) (by omega) hlt
    exact slt_ntr this hx
  · obtain rfl : i = q := by omega
    exact hx
theorem Mats.app {w : World} {base : Nat} {u : Option Nat} {vs vs' : List Value} {ls ls' : List (List Int)} (h : Mats w base u vs ls) (h' : Mats w base u vs' ls') : Mats w base u (vs ++ vs') (ls ++ ls') := by
  obtain ⟨hl, h⟩ := h
  obtain ⟨hl', h'⟩ := h'
  refine ⟨by simp [hl, hl'], fun i h1 h2 => ?_⟩
  rcases Nat.lt_or_ge i ls.length with hlt | hge
  · rw [List.getElem_append_left hlt, List.getElem_append_left (by omega)]; exact h i hlt (by omega)
  · rw [List.getElem_append_right hge, List.getElem_append_right (by omega)]
    have := h' (i - ls.length) (by simp at h1; omega) (by simp at h1; omega)
    simp only [hl]; exact this
theorem Mats.stI {w : World} {base : Nat} {u : Option Nat} {vs : List Value} {ls : List (List Int)} {v : Value} {l : List Int} (h : Mats w base u vs ls) (hv : RowS w base u v l) (q : Nat) : Mats w base u (Ytmolffigeobnnaa.stI vs v q) (Ytmolffigeobnnaa.stI ls l q) := by
  have h1 : Mats w base u (vs.take q) (ls.take q) := ⟨by simp [h.1], fun i a b => by rw [List.getElem_take, List.getElem_take]; exact h.2 _ _ _⟩
  have h2 : Mats w base u (vs.drop q) (ls.drop q) := ⟨by simp [h.1], fun i a b => by rw [List.getElem_drop, List.getElem_drop]; exact h.2 _ _ _⟩
  have h3 : Mats w base u [v] [l] := ⟨rfl, fun i a b => by simp at a; subst a; exact hv⟩
  exact h1.app (h3.app h2)
/-- what the reference has gathered -/
def Got (n : Nat) (h : List Bool → Bool) (k : Nat) (ls : List (List Int)) : Prop := Asc ls ∧ ls.Perm (rawM n h k)
theorem Got.zero (n : Nat) (h : List Bool → Bool) : Got n h 0 [] := ⟨List.Pairwise.nil, by simp [rawM]⟩
theorem Got.same {n : Nat} {h : List Bool → Bool} {k : Nat} {ls : List (List Int)} (H : Got n h k ls) (hm : minS h (bsOf n k) = false) : Got n h (k + 1) ls := ⟨H.1, by rw [rawM_succ, hm]; simpa using H.2⟩
theorem Got.step {n : Nat} {h : List Bool → Bool} {k : Nat} {ls : List (List Int)} {q : Nat} (H : Got n h k ls) (hm : minS h (bsOf n k) = true) (h1 : ∀ y ∈ ls.drop q, slt (lsOf n k) y = true) (h2 : ∀ y ∈ ls.take q, slt (lsOf n k) y = false) : Got n h (k + 1) (stI ls (lsOf n k) q) :=
  ⟨stI_asc H.1 h1 h2, by rw [rawM_succ, if_pos hm]; exact (stI_perm _ _ _).trans (H.2.append_right _)⟩
theorem Got.done {n : Nat} {h : List Bool → Bool} {ls : List (List Int)} (H : Got n h (2 ^ n) ls) : ls = minsN n h := asc_srt H.1 H.2
theorem rHolds_n (e : CL.Ex) (set : List Bool) (n : Nat) (hl : set.length = n) (hn : n ≤ 8) (S : Option Addr) (d : Nat) (w : World) (B : Nat) (cs : List Value) (hR : Rd w B e cs) (hB : B ≤ w.heap.size) (hrs : Sits w S (bls set)) :
    Calls Try.prog 22 #[.agg cs.toArray, .slice S n d] w fun r w' => r = .returned (.bool (holdsE e set)) ∧ Ext w w' := by
  subst hl; exact clusterlocksref08.Holds_c e set S d (by unfold maxLen; omega) w B cs hR hB hrs
theorem bit_clr2 (b j : Nat) (hb : b < 256) (hj : j < 8) (h : b.testBit j = true) : bits BinOp.andNot IntKind.i64 (b : Int) (IntKind.i64.wrap (2 ^ j)) = ((b - 2 ^ j : Nat) : Int) ∧ ∀ n : Nat, n ≤ 8 → bsOf n (b - 2 ^ j) = (bsOf n b).set j false := by
  have h1 : ∀ b : Fin 256, ∀ j : Fin 8, b.val.testBit j.val = true → bits BinOp.andNot IntKind.i64 (b.val : Int) (IntKind.i64.wrap (2 ^ j.val)) = ((b.val - 2 ^ j.val : Nat) : Int) ∧ ∀ n : Fin 9, bsOf n.val (b.val - 2 ^ j.val) = (bsOf n.val b.val).set j.val false := by decide +kernel
  obtain ⟨a, k⟩ := h1 ⟨b, hb⟩ ⟨j, hj⟩ h
  exact ⟨a, fun n hn => k ⟨n, by omega⟩⟩
theorem Set_z (n b : Nat) (z : Int) (hz : z = (b : Int)) (hn : n ≤ 8) (hb0 : b < 256) (w : World) :
    Calls Try.prog 38 #[.int .i64 z, .int .i64 n] w fun r w' => r = .returned (.slice (some ⟨w.heap.size, 0, none⟩) n n) ∧ Blk w' w.heap.size 4 (bls (bsOf n b)).toArray ∧ Ext w w' := by
  rw [hz]; exact clusterlocksref09.Set_c n b hn hb0 w
theorem cells5' {w w' : World} {g : Nat} {v0 v1 v2 v3 v4 : Value} (h : w.cell? ⟨g, 0, none⟩ = some v0 ∧ w.cell? ⟨g, 1, none⟩ = some v1 ∧ w.cell? ⟨g, 2, none⟩ = some v2 ∧ w.cell? ⟨g, 3, none⟩ = some v3 ∧ w.cell? ⟨g, 4, none⟩ = some v4) (hx : Ext w w') :
    w'.cell? ⟨g, 0, none⟩ = some v0 ∧ w'.cell? ⟨g, 1, none⟩ = some v1 ∧ w'.cell? ⟨g, 2, none⟩ = some v2 ∧ w'.cell? ⟨g, 3, none⟩ = some v3 ∧ w'.cell? ⟨g, 4, none⟩ = some v4 :=
  ⟨hx.cell h.1, hx.cell h.2.1, hx.cell h.2.2.1, hx.cell h.2.2.2.1, hx.cell h.2.2.2.2⟩
theorem own_some {w : World} {base n c size : Nat} {E : TypeId} {A : Option Addr} {xs : List Value} (h : w.ownsRow base E size (.slice A n c) n xs) (hn : 0 < n) : ∃ g, A = some ⟨g, 0, none⟩ ∧ base ≤ g := by
  rcases h.2 with ⟨e, hz⟩ | ⟨g, cap, cur, e, h1, _⟩
  · injection e with e1 e2 e3; omega
  · injection e with e1 e2 e3; exact ⟨g, e1, h1⟩
theorem stI_pred' {α : Type} {pre : List α} {x : α} {q : Nat} (h0 : 0 < q) (hq : q ≤ pre.length) : (stI pre x q)[q - 1]? = some (pre[q - 1]'(by omega)) := by
  obtain ⟨p, rfl⟩ : ∃ p, q = p + 1 := ⟨q - 1, by omega⟩
  exact stI_pred hq
theorem stI_swap' {α : Type} {pre : List α} {x : α} {q : Nat} (h0 : 0 < q) (hq : q ≤ pre.length) : ((stI pre x q).set q (pre[q - 1]'(by omega))).set (q - 1) x = stI pre x (q - 1) := by
  obtain ⟨p, rfl⟩ : ∃ p, q = p + 1 := ⟨q - 1, by omega⟩
  exact stI_swap hq
theorem asc_pre' {pre : List (List Int)} {x : List Int} {q : Nat} (h : Asc pre) (h0 : 0 < q) (hq : q ≤ pre.length) (hx : slt x (pre[q - 1]'(by omega)) = false) : ∀ y ∈ pre.take q, slt x y = false := by
  obtain ⟨p, rfl⟩ : ∃ p, q = p + 1 := ⟨q - 1, by omega⟩
  exact asc_pre h hq hx
theorem drop_pred {α : Type} {pre : List α} {q : Nat} (h0 : 0 < q) (hq : q ≤ pre.length) : pre.drop (q - 1) = pre[q - 1]'(by omega) :: pre.drop q := by
  obtain ⟨p, rfl⟩ : ∃ p, q = p + 1 := ⟨q - 1, by omega⟩
  exact List.drop_eq_getElem_cons (by omega)
set_option maxHeartbeats 6400000 in
theorem clusterlocksref09.Minimal_c (e : CL.Ex) (w : World) (B : Nat) (cs : List Value) (hR : Rd w B e cs) (hB : B ≤ w.heap.size) : Calls Try.prog 17 #[.agg cs.toArray] w (SetsAt (minsE e) w) := by
  obtain ⟨k0, s0, m0, u0, A0, l0, c0, rfl⟩ := hR.shape
  obtain ⟨bE, hx0⟩ := box1 w #[.int .i64 k0, .string s0, .int .i64 m0, .int .i64 u0, .slice A0 l0 c0] 28
  have hz0 := hx0.size
  have hat := clusterlocksref08.Atoms_c e (w.alloc (.cells #[.int .i64 k0, .string s0, .int .i64 m0, .int .i64 u0, .slice A0 l0 c0] 28)) B _ (hR.ext hx0 hB) (by omega)
  cases hv : CL.valid e
  · have HA := Lib.hid (show minsE e = [] by simp [minsE, hv])
    rw [atoms_nil hv] at hat
    have HAT := Lib.hid hat
    clear hat
    go_enter Try.func17, Try.ntmps17
    go_wp2_with (go_at_call 37; (with_reducible refine HAT.out.mono ?_); intro r w' hp; obtain ⟨A2, c2, rfl, hr2, hx⟩ := hp.get)
    go_ret
    rw [HA.out]
    exact SetsAt.nil _ _ (hx0.tr hx)
  · have HA := Lib.hid (show minsE e = minsN (CL.atoms e).length (holdsE e) by simp [minsE, hv])
    have hn8 := atoms_len e
    have hn0 : 0 < (CL.atoms e).length := List.length_pos_iff.2 (atoms_ne hv)
    have HAT := Lib.hid hat
    clear hat
    have hn' : (((CL.atoms e).length : Int) == 0) = false := beq_eq_false_iff_ne.2 (by omega)
    go_enter Try.func17, Try.ntmps17
    go_wp2_with (go_at_call 37; (with_reducible refine HAT.out.mono ?_); intro r w2 hp; obtain ⟨A2, c2, rfl, _, hx2⟩ := hp.get)
    have hRD := (hR.ext hx0 hB).ext hx2 (by omega)
    have hbE := bE.ext hx2
    have hx02 := hx0.tr hx2
    have hz2 := hx2.size
    clear hp HAT hx2 bE hR
    generalize hN : (CL.atoms e).length = n at *
    have HN := Lib.hid hN
    clear hN
    obtain ⟨hp1, hp2⟩ := pow_le n hn8
    have hG0 := fun ls => Got.done (n := n) (h := holdsE e) (ls := ls)
    generalize hM : 2 ^ n = M at *
    have HM := Lib.hid hM
    have HG0 := Lib.hid hG0
    have HP := Lib.hid hp2
    clear hp2 hM hG0
    have HRD := Lib.hid hRD
    clear hRD
    go_loopw [4, 5] (fun v i wr => ∃ (k : Nat) (vs : List Value) (A : Option Addr) (c : Nat) (ls : List (List Int)), k ≤ M ∧ ls.length ≤ k ∧ i = .int .i64 k ∧ v = .slice A ls.length c ∧ Ext w2 wr ∧ Hid (wr.ownsRow w2.heap.size 38 1 (.slice A ls.length c) ls.length vs) ∧ Hid (Mats wr w2.heap.size (Value.slice A 0 0).ownBlock vs ls) ∧ Hid (Got n (holdsE e) k ls)) (fun _ i _ => M - (intOf i).toNat)
    case atStart => exact ⟨0, [], none, 0, [], by omega, by simp, rfl, rfl, Ext.rfl', ⟨rfl, .inl ⟨rfl, rfl⟩⟩, Mats.nil _ _ _, Got.zero _ _⟩
    case round =>
      obtain ⟨k, vs, A, c, ls, hk, hlk, rfl, rfl, hx, HO, HMt, HG⟩ := hrel
      obtain ⟨wo, rfl⟩ : ∃ wo : World, wo = wr := ⟨_, rfl⟩
      have hszr := hx.size
      have hbR := hbE.ext hx
      by_cases hlt : k < M
      · obtain ⟨e0, e1, e2, e3, e4⟩ := hbR.c5
        have HC5 := Lib.hid hbR.c5
        have hx1 : Ext wo wo.drew := Ext.drawn wo
        have hd : decide ((k : Int) < wrap64 (2 ^ n)) = true := by rw [HP.out]; simp; omega
        go_wp2_with fail
        go_region_held3 (fun w' => w'.cell? ⟨w.heap.size, 0, none⟩ = some (.int .i64 k0) ∧ w'.cell? ⟨w.heap.size, 1, none⟩ = some (.string s0) ∧ w'.cell? ⟨w.heap.size, 2, none⟩ = some (.int .i64 m0) ∧ w'.cell? ⟨w.heap.size, 3, none⟩ = some (.int .i64 u0) ∧ w'.cell? ⟨w.heap.size, 4, none⟩ = some (.slice A0 l0 c0))
          (first | go_keep | exact cells5' HC5.out hx1)
          (first
            | (go_at_call 38; refine (clusterlocksref09.Set_c n k hn8 (by omega) _).mono ?_; rintro r w3 ⟨rfl, hS3, hx3⟩; replace hx1 := Ext.tr hx1 hx3)
            | (go_at_call 22; refine (rHolds_n e (bsOf n k) n (bsOf_len n k) hn8 _ n _ B _ (HRD.out.ext (hx.tr hx1) (by omega)) (by have := hx1.size; omega) hS3.sits).mono ?_; rintro r w4 ⟨rfl, hx4⟩; replace hx1 := Ext.tr hx1 hx4))
        have HX1 := Lib.hid (hx.tr hx1)
        have hsz4 := hx1.size
        have HE4 := Lib.hid (hbR.ext hx1)
        have HO4 := Lib.hid (own_ext HO.out hx1)
        have HM4 := Lib.hid (HMt.out.ext hx1)
        clear HO HMt hS3 hx3 hx4 hx1 e0 e1 e2 e3 e4 HC5 hbR
        cases hh : holdsE e (bsOf n k)
        · have HG1 := Lib.hid (HG.out.same (by rw [minS_pmin, hh]; rfl))
          clear hh
          go_wp2
          exact ⟨⟨k + 1, vs, A, c, ls, by omega, by omega, by go_num, rfl, HX1.out, HO4, HM4, HG1⟩, by simp [intOf]; omega⟩
        · have HMS := Lib.hid (show minS (holdsE e) (bsOf n k) = pmin n (holdsE e) k n by rw [minS_pmin, hh]; rfl)
          clear hh
          simp only [Bool.not_true]
          go_wp2
          go_loopw [6, 7] (fun m i wi => ∃ j : Nat, j ≤ n ∧ i = .int .i64 j ∧ m = .bool (pmin n (holdsE e) k j) ∧ Ext w4 wi) (fun _ i _ => n - (intOf i).toNat)
          case atStart => exact ⟨0, by omega, rfl, rfl, Ext.rfl'⟩
          case round =>
            obtain ⟨j, hj, rfl, rfl, hy⟩ := hrel
            obtain ⟨wi, rfl⟩ : ∃ wi : World, wi = wr := ⟨_, rfl⟩
            have hsi := hy.size
            have HEi := Lib.hid (HE4.out.ext hy)
            by_cases hlt2 : j < n
            · have hji : (j : Int) < (n : Int) := by omega
              have HB := bit_shr k j (by omega) (by omega)
              have HPM := Lib.hid (pmin_succ n (holdsE e) k j)
              obtain ⟨e0, e1, e2, e3, e4⟩ := HEi.out.c5
              have HC5 := Lib.hid HEi.out.c5
              have hx1 : Ext wi wi.drew := Ext.drawn wi
              cases hbit : k.testBit j
              · rw [hbit] at HB
                have HPE := Lib.hid (show pmin n (holdsE e) k (j + 1) = pmin n (holdsE e) k j by rw [HPM.out, hbit]; simp)
                clear hbit
                have q0 := ExtOf.cell e0
                have q1 := ExtOf.cell e1
                have q2 := ExtOf.cell e2
                have q3 := ExtOf.cell e3
                have q4 := ExtOf.cell e4
                clear e0 e1 e2 e3 e4
                go_wp2_with fail
                refine wp_region_ext_lit (by kernel_rfl) (by kernel_rfl) ?_
                repeat (go_big_quiet_step (fail))
                refine wpQuiet_nil ?_
                intro wq hw'
                obtain ⟨⟨wq', hxq⟩, hw''⟩ := hw'
                subst hw''
                go_wp2
                exact ⟨⟨j + 1, by omega, by go_num, by rw [HPE.out], hy.tr hxq⟩, by simp [intOf]; omega⟩
              · rw [hbit] at HB
                obtain ⟨hz1, hz2'⟩ := bit_clr2 k j (by omega) (by omega) hbit
                have HPE := Lib.hid (show pmin n (holdsE e) k (j + 1) = (pmin n (holdsE e) k j && !holdsE e (bsOf n (k - 2 ^ j))) by rw [HPM.out, hbit, hz2' n hn8]; simp)
                have HZ := Lib.hid hz1
                clear hbit hz1 hz2'
                have hu1 : IntKind.u64.wrap (j : Int) = (j : Int) := IntWalk.u64_in _ (by omega)
                have hu2 : min j 64 = j := by omega
                go_wp2_with fail
                go_region_held3 (fun w' => w'.cell? ⟨w.heap.size, 0, none⟩ = some (.int .i64 k0) ∧ w'.cell? ⟨w.heap.size, 1, none⟩ = some (.string s0) ∧ w'.cell? ⟨w.heap.size, 2, none⟩ = some (.int .i64 m0) ∧ w'.cell? ⟨w.heap.size, 3, none⟩ = some (.int .i64 u0) ∧ w'.cell? ⟨w.heap.size, 4, none⟩ = some (.slice A0 l0 c0))
                  (first | go_keep | exact cells5' HC5.out hx1)
                  (first
                    | (go_at_call 38; refine (Set_z n (k - 2 ^ j) _ HZ.out hn8 (Nat.lt_of_le_of_lt (Nat.sub_le _ _) (by omega)) _).mono ?_; rintro r w5 ⟨rfl, hS5, hx5⟩; replace hx1 := Ext.tr hx1 hx5)
                    | (go_at_call 22; refine (rHolds_n e (bsOf n (k - 2 ^ j)) n (bsOf_len n _) hn8 _ n _ B _ (HRD.out.ext ((HX1.out.tr hy).tr hx1) (by omega)) (by have := hx1.size; omega) hS5.sits).mono ?_; rintro r w6 ⟨rfl, hx6⟩; replace hx1 := Ext.tr hx1 hx6))
                have hy6 := hy.tr hx1
                clear hx1 hx5 hx6 hS5 e0 e1 e2 e3 e4
                cases hh : holdsE e (bsOf n (k - 2 ^ j))
                · have HPF := Lib.hid (show pmin n (holdsE e) k (j + 1) = pmin n (holdsE e) k j by rw [HPE.out, hh]; simp)
                  clear hh
                  go_wp2
                  go_roundw
                  case rel => exact ⟨j + 1, by omega, by go_num, by rw [HPF.out], hy6⟩
                  case measure => simp [intOf]; omega
                · have HPF := Lib.hid (show pmin n (holdsE e) k (j + 1) = false by rw [HPE.out, hh]; simp)
                  clear hh
                  go_wp2
                  go_roundw
                  case rel => exact ⟨j + 1, by omega, by go_num, by rw [HPF.out], hy6⟩
                  case measure => simp [intOf]; omega
            · obtain rfl : j = n := by omega
              have HXi := Lib.hid (HX1.out.tr hy)
              have HOi := Lib.hid (own_ext HO4.out hy)
              have HMi := Lib.hid (HM4.out.ext hy)
              clear HO4 HM4 HE4 HX1
              cases hpm : pmin j (holdsE e) k j
              · have HG1 := Lib.hid (HG.out.same (by rw [HMS.out, hpm]))
                clear hpm
                go_wp2
                exact ⟨⟨k + 1, vs, A, c, ls, by omega, by omega, by go_num, rfl, HXi.out, HOi, HMi, HG1⟩, by simp [intOf]; omega⟩
              · have HMT := Lib.hid (show minS (holdsE e) (bsOf j k) = true by rw [HMS.out, hpm])
                clear hpm
                have hsl := HOi.out
                go_wp2_with fail
                refine (clusterlocksref09.list_c j k hn8 (by omega) wi).mono ?_
                intro r w5 hp5
                obtain ⟨A5, c5, rfl, hc5, ho5, hx5⟩ := hp5.get
                have hlj := lsOf_le j k
                have hro := rowS_own (base := w2.heap.size) (u := (Value.slice A 0 0).ownBlock) ho5 (by omega) (by simp only [maxLen]; omega) (fun g hg => (HOi.out.lt g ((own_of _ _ _ _).trans hg)).2)
                generalize hl5 : lsOf j k = l5 at *
                have HL5 := Lib.hid hl5
                clear hl5
                have HM5 := Lib.hid ((HMi.out.ext hx5).ext (Ext.new w5 (.cells #[.slice A5 l5.length c5] 38)))
                have HR5 := Lib.hid (hro.ext (Ext.new w5 (.cells #[.slice A5 l5.length c5] 38)))
                have HO5 := Lib.hid ((own_ext HOi.out hx5).alloc (.cells #[.slice A5 l5.length c5] 38))
                have hs5 := hx5.size
                clear hro ho5 hsl
                go_wp2_with (at_builtin; refine wpList_append_row _ rfl (.tmp 52) (.tmp 56) _ rfl w2.heap.size 38 1 24 _ Try.underlying31 sets_info rfl (by omega) _ _ _ rfl HO5.out _ _ _ [.slice A5 l5.length c5] rfl rfl (Sits.new _ _ _) (by intro u hu; simp at hu; subst hu; rfl) (by simp only [maxLen]; omega) (by omega) (by simp; omega) ?_; intro v6 w6 hown6 hb6 hg6 hrow6; obtain ⟨A6, c6, rfl, hc6, _⟩ := own_form hown6)
                have hxe := hrow6
                have HM6 := Lib.hid (HM5.out.grown (u' := (Value.slice A6 0 0).ownBlock) hg6 (.inl (own_of _ _ _ _)) (by
                  rcases hrow6 with e | e
                  · exact .inl ((own_of _ _ _ _).trans (e.trans (own_of _ _ _ _)))
                  · exact .inr ⟨_, (own_of _ _ _ _).trans e, Nat.le_refl _⟩))
                have HR6 := Lib.hid (HR5.out.grown (u' := (Value.slice A6 0 0).ownBlock) hg6 (.inl (own_of _ _ _ _)) (by
                  rcases hrow6 with e | e
                  · exact .inl ((own_of _ _ _ _).trans (e.trans (own_of _ _ _ _)))
                  · exact .inr ⟨_, (own_of _ _ _ _).trans e, Nat.le_refl _⟩))
                have HX6 := Lib.hid (((HXi.out.tr hx5).alloc (by omega) (.cells #[.slice A5 l5.length c5] 38)).trans hb6)
                clear HM5 HR5 HO5 hrow6 hxe hg6 hb6
                obtain ⟨g6, rfl, hg6⟩ := own_some hown6 (by omega)
                have hvl : vs.length = ls.length := HM6.out.1
                rw [show (Value.slice (some ⟨g6, 0, none⟩) 0 0).ownBlock = some g6 from rfl] at HM6 HR6
                have HO6 := Lib.hid (show w6.ownsRow w2.heap.size 38 1 (.slice (some ⟨g6, 0, none⟩) (ls.length + 1) c6) (ls.length + 1) (stI vs (.slice A5 l5.length c5) ls.length) by rw [← hvl, stI_end, hvl]; exact hown6)
                clear hown6
                go_wp2
                go_loopw [8] (fun q wr => ∃ p : Nat, p ≤ ls.length ∧ q = .int .i64 p ∧ Ext w2 wr ∧ Hid (wr.ownsRow w2.heap.size 38 1 (.slice (some ⟨g6, 0, none⟩) (ls.length + 1) c6) (ls.length + 1) (stI vs (.slice A5 l5.length c5) p)) ∧ Hid (Mats wr w2.heap.size (some g6) vs ls) ∧ Hid (RowS wr w2.heap.size (some g6) (.slice A5 l5.length c5) l5) ∧ Hid (∀ y ∈ ls.drop p, slt l5 y = true)) (fun q _ => (intOf q).toNat)
                case atStart => exact ⟨ls.length, by omega, by simp, HX6.out, HO6, HM6, HR6, Lib.hid (by simp)⟩
                case round =>
                  obtain ⟨p, hp, rfl, hxr, HOr, HMr, HRr, HDr⟩ := hrel
                  have hszr2 := hxr.size
                  by_cases hp0 : 0 < p
                  · have hd1 : decide ((p : Int) > 0) = true := by simp; omega
                    obtain ⟨B5, d5, e5, hlm5, hs5', _⟩ := HRr.out
                    injection e5 with e51 e52 e53
                    subst e51 e53
                    obtain ⟨Bp, dp, ep, hlmp, hsp, _⟩ := HMr.out.2 (p - 1) (by omega) (by omega)
                    have c1 : wr.cell? ⟨g6, p, none⟩ = some (.slice A5 l5.length c5) := by rw [HOr.out.cellAt p (by omega), stI_at (by omega)]
                    have c2' : wr.cell? ⟨g6, p - 1, none⟩ = some (.slice Bp (ls[p - 1]'(by omega)).length dp) := by rw [HOr.out.cellAt (p - 1) (by omega), stI_pred' hp0 (by omega), ep]
                    have f1 := HOr.out.frozenAt p
                    have f2 := HOr.out.frozenAt (p - 1)
                    have HDp := Lib.hid (drop_pred hp0 hp)
                    have HSW := Lib.hid (stI_swap' (x := Value.slice A5 l5.length c5) hp0 (by omega : p ≤ vs.length))
                    rw [ep] at HSW
                    have HAP := Lib.hid (asc_pre' (pre := ls) (x := l5) (q := p) HG.out.1 hp0 hp)
                    clear ep
                    generalize ls[p - 1]'(by omega) = lp at *
                    have q1 := ExtOf.cell c1
                    have q2 := ExtOf.cell c2'
                    have g1 : IntKind.i64.wrap ((p : Int) - 1) = (p : Int) - 1 := IntWalk.i64_in _ (by omega)
                    have g2 : (1 : Int) ≤ (p : Int) := by omega
                    have g3 : ((p : Int) - 1).toNat = p - 1 := by omega
                    have g4 : (p : Int) - 1 < ((ls.length + 1 : Nat) : Int) := by omega
                    have g5 : 0 ≤ (p : Int) - 1 := by omega
                    have g6' : (p : Int) < ((ls.length + 1 : Nat) : Int) := by omega
                    have HLS := Lib.hid (fun (x : ExtOf wr) => less_c l5 lp A5 Bp c5 dp hlm5 hlmp x.val (hs5'.ext x.ext) (hsp.ext x.ext))
                    cases hsl : slt l5 lp
                    · rw [hsl] at HLS HAP
                      have HA2 := Lib.hid (HAP.out rfl)
                      clear hsl HAP
                      go_wp2_with fail
                      refine wp_region_ext_lit (by kernel_rfl) (by kernel_rfl) ?_
                      repeat (go_big_quiet_step ((go_at_call 50; exact xqX (HLS.out _))))
                      refine wpQuiet_nil ?_
                      intro wq hw'
                      obtain ⟨⟨wq', hxq⟩, hw''⟩ := hw'
                      subst hw''
                      go_wp2
                      exact ⟨⟨k + 1, stI vs (.slice A5 l5.length c5) p, some ⟨g6, 0, none⟩, c6, stI ls l5 p, by omega, by rw [stI_len]; omega, by go_num, by rw [stI_len], hxr.tr hxq, by rw [stI_len]; exact own_ext HOr hxq, Lib.hid ((HMr.out.stI HRr.out p).ext hxq), by rw [← HL5.out]; exact HG.out.step HMT.out (by rw [HL5.out]; exact HDr.out) (by rw [HL5.out]; exact HA2.out)⟩, by simp [intOf]; omega⟩
                    · rw [hsl] at HLS
                      have HDN := Lib.hid (show ∀ y ∈ ls.drop (p - 1), slt l5 y = true by
                        rw [HDp.out]; intro y hy
                        rcases List.mem_cons.1 hy with rfl | hy
                        · exact hsl
                        · exact HDr.out y hy)
                      clear hsl HAP HDp
                      go_wp2_with fail
                      refine wp_region_ext_lit (by kernel_rfl) (by kernel_rfl) ?_
                      repeat (go_big_quiet_step ((go_at_call 50; exact xqX (HLS.out _))))
                      refine wpQuiet_nil ?_
                      intro wq hw'
                      obtain ⟨⟨wq', hxq⟩, hw''⟩ := hw'
                      subst hw''
                      have d1 := hxq.cell c1
                      have d2 := hxq.cell c2'
                      have HOq := Lib.hid (own_ext HOr.out hxq)
                      have HMq := Lib.hid (HMr.out.ext hxq)
                      have HRq := Lib.hid (HRr.out.ext hxq)
                      have f1 := HOq.out.frozenAt p
                      have f2 := HOq.out.frozenAt (p - 1)
                      clear q1 q2 c1 c2' HLS
                      have hne : p ≠ p - 1 := by omega
                      go_wp2
                      have hgr : wq.grownBy ((wq.setCell ⟨g6, p, none⟩ (.slice Bp lp.length dp)).setCell ⟨g6, p - 1, none⟩ (.slice A5 l5.length c5)) (some g6) := (Only.rf.set p _).set (p - 1) _
                      have hst := ((HOq.out.stored p (.slice Bp lp.length dp)).1.stored (p - 1) (.slice A5 l5.length c5)).1
                      rw [HSW.out] at hst
                      exact ⟨⟨p - 1, by omega, by simp; omega, (hxr.tr hxq).trans (grown_below hgr (by have := hxq.size; omega) (fun g e => by injection e; omega)), Lib.hid hst, Lib.hid (HMq.out.grown (u' := some g6) hgr (.inl rfl) (.inl rfl)), Lib.hid (HRq.out.grown (u' := some g6) hgr (.inl rfl) (.inl rfl)), HDN⟩, by simp [intOf]; omega⟩
                  · obtain rfl : p = 0 := by omega
                    have hd1 : decide ((((0 : Nat) : Int)) > 0) = false := rfl
                    go_wp2_with fail
                    refine wp_region_ext_lit (by kernel_rfl) (by kernel_rfl) ?_
                    repeat (go_big_quiet_step (fail))
                    refine wpQuiet_nil ?_
                    intro wq hw'
                    obtain ⟨⟨wq', hxq⟩, hw''⟩ := hw'
                    subst hw''
                    go_wp2
                    exact ⟨⟨k + 1, stI vs (.slice A5 l5.length c5) 0, some ⟨g6, 0, none⟩, c6, stI ls l5 0, by omega, by rw [stI_len]; omega, by go_num, by rw [stI_len], hxr.tr hxq, by rw [stI_len]; exact own_ext HOr hxq, Lib.hid ((HMr.out.stI HRr.out 0).ext hxq), by rw [← HL5.out]; exact HG.out.step HMT.out (by rw [HL5.out]; exact HDr.out) (by simp)⟩, by simp [intOf]; omega⟩
      · obtain rfl : k = M := by omega
        have hd : decide ((k : Int) < wrap64 (2 ^ n)) = false := by rw [HP.out]; simp
        go_wp2
        go_ret
        have hE := HG0.out ls HG.out
        exact ⟨A, c, vs, (show Ending.returned (.slice A ls.length c) = .returned (.slice A (minsE e).length c) by rw [HA.out, ← hE]), Sits.of_own HO.out, (by rw [HA.out, ← hE]; exact ⟨HMt.out.1, fun i p q => by
          obtain ⟨A', c', e', k1, k2, k3⟩ := HMt.out.2 i p q
          exact ⟨A', c', e', k1, k2, fun b o e => ⟨by have := (k3 b o e).1; omega, (k3 b o e).2⟩⟩⟩), hx02.tr hx⟩
end Go.Proofs.Ytmolffigeobnnaa
