/- The knots, whole. -/
import Derived.Test.YtapflcgnihdmoaaGreatDoorK4
import Derived.Test.YtapflcgnihdmoaaGreatDoorK5
namespace X
open Go Go.Proofs Go.RowKit
set_option linter.unusedVariables false
set_option linter.unusedSectionVars false
set_option maxRecDepth 100000
theorem chkS : (psS.all fun n => okA (t59e n none) (t93e n none) (t108i n none)) = true := by kernel_rfl
theorem chkSE : (psK.all fun p => psS.elem p.1 && okE p.1 p.2.1 (tEe p.1 none)) = true := by kernel_rfl
theorem chkT : (psT.all fun p => okA (t59e p.1 (some p.2)) (t93e p.1 (some p.2)) (t108i p.1 (some p.2)) && okE p.1 1 (tEe p.1 (some p.2))) = true := by kernel_rfl
theorem chkF : (psT.all fun p => (List.range (p.1 + 1)).all fun c => psF.elem (p.1, p.2, c)) = true := by kernel_rfl
theorem chkG : (psT.all fun p => (List.range p.1).all fun c => psG.elem (p.1, p.2, c)) = true := by kernel_rfl
def okK (p : Nat × Nat × Nat) : Bool := psT.elem (p.1, p.2.2) && (List.range p.1).all fun i => psT.elem (p.1, i) && psK.elem (p.1, p.2.1, i) && psK.elem (p.1, 1, i) && (not (Nat.ble p.2.2 i) || psL.elem (p.1, p.2.2, i))
theorem chkK : psK.all okK = true := by kernel_rfl
theorem chkN : ((List.range 8).all fun n => (List.range n).all fun k => (List.range n).all fun r => Nat.blt n 2 || (Nat.blt k 1 || psK.elem (n, k, r))) = true := by kernel_rfl
theorem memK {n k r : Nat} (h1 : 2 ≤ n) (h2 : n < 8) (h3 : 1 ≤ k) (h4 : k < n) (h5 : r < n) : psK.elem (n, k, r) = true := by
  have h := List.all_eq_true.1 (List.all_eq_true.1 (List.all_eq_true.1 chkN n (List.mem_range.2 h2)) k (List.mem_range.2 h4)) r (List.mem_range.2 h5)
  have e1 : Nat.blt n 2 = false := by cases e : Nat.blt n 2 with
    | false => rfl
    | true => exact absurd (Nat.le_of_ble_eq_true (show Nat.ble (n + 1) 2 = true from e)) (by omega)
  have e2 : Nat.blt k 1 = false := by cases e : Nat.blt k 1 with
    | false => rfl
    | true => exact absurd (Nat.le_of_ble_eq_true (show Nat.ble (k + 1) 1 = true from e)) (by omega)
  rw [e1, e2] at h
  exact h
section
variable [L : Luck]
theorem SY (hS : Start S0) {n k i : Nat} (hS' : @Start ⟨.ofNat k, L.tab⟩ S0) (hK : psK.elem (n, k, i) = true) : Ent Tryz.prog 9 (sbE (.ofNat k) (aS n .y)).1 (sbE (.ofNat k) (aS n .y)).2 := by
  have hK := List.mem_of_elem_eq_true hK
  have h0 := List.all_eq_true.1 chkSE _ hK
  rw [Bool.and_eq_true] at h0
  have hn := List.mem_of_elem_eq_true h0.1
  have ht : @TbOk ⟨.ofNat k, L.tab⟩ (tbsS n .y none) := @mkT_ok ⟨.ofNat k, L.tab⟩ hS' n .y _ _ _ _ (List.all_eq_true.1 chkS n hn) (E94Y L hS h0.2)
  have h1 := @entX ⟨.ofNat k, L.tab⟩ 9 h9 (fun {c m} a b => @snd9 ⟨.ofNat k, L.tab⟩ c m a b) _ (@lE_ok ⟨.ofNat k, L.tab⟩ hS' _ ht) hS' _ (allB_one (RS n hn))
  exact (ent_sb L (.ofNat k)).1 h1
theorem ST (hS : Start S0) {n r : Nat} (hT : psT.elem (n, r) = true) : Ent Tryz.prog 9 (aT n r).1 (aT n r).2 := by
  have hT := List.mem_of_elem_eq_true hT
  have hc := List.all_eq_true.1 chkT _ hT
  rw [Bool.and_eq_true] at hc
  have ht : TbOk (tbsS n (kI 1) (some r)) := mkT_ok hS hc.1 (E94L hS hc.2)
  have h44 : EntL 44 [e44 n r] := fun p hp => by
    rw [List.mem_singleton] at hp; rw [hp]
    exact entX snd44 (lE_ok hS ht) hS (allB_one (RV (n, r) hT))
  have h95 : EntL 95 ((List.range (n + 1)).map (e95 n r)) := entL_map fun c hcn => entX snd95 (m1_ok hS) hS (allB_one (RF (n, r, c) (List.mem_of_elem_eq_true (List.all_eq_true.1 (List.all_eq_true.1 chkF _ hT) c hcn))))
  have h153 : EntL 153 ((List.range n).flatMap fun c => (inQ n r c).map (e153 n r c)) := fun p hp => by
    obtain ⟨c, hcn, hp⟩ := List.mem_flatMap.1 hp
    obtain ⟨j, hj, rfl⟩ := List.mem_map.1 hp
    exact entX snd153 (lD_ok hS tb0) hS (allB_map (RG (n, r, c) (List.mem_of_elem_eq_true (List.all_eq_true.1 (List.all_eq_true.1 chkG _ hT) c hcn))) j hj)
  have ht2 : TbOk (tbsT n r) := { ht with h95 := h95, h153 := h153, h44 := h44 }
  exact entX snd9 (lE_ok hS ht2) hS (allB_one (RT (n, r) hT))
theorem knot_in {t0 t2 : TypeId} (hL : Luck.tab = [(0, objN t0), (2, objB t2)]) {n k r : Nat} (hn : 1 ≤ n) (hn2 : n ≤ 1048576) (hK : psK.elem (n, k, r) = true) (hv : mdv Luck.val (.ofNat n) = .ofNat r) (w : World) (hT : TabOk w) :
    Calls Tryz.prog 4 #[.int .i64 (.ofNat n), .int .i64 (.ofNat k), .int .i64 Luck.val] w fun e w' => e = .returned (.bool true) ∧ Below w.heap.size w w' := by
  have hS : Start S0 := start hL
  have hS' : ∀ q : Int, @Start ⟨q, L.tab⟩ S0 := fun q => @start ⟨q, L.tab⟩ t0 t2 hL
  have hm := List.mem_of_elem_eq_true hK
  have hc := List.all_eq_true.1 chkK _ hm
  unfold okK at hc
  rw [Bool.and_eq_true] at hc
  obtain ⟨hc0, hc⟩ := hc
  have hi : ∀ i ∈ List.range n, psT.elem (n, i) = true ∧ psK.elem (n, k, i) = true ∧ psK.elem (n, 1, i) = true ∧ (Nat.ble r i = true → psL.elem (n, r, i) = true) := fun i hi => by
    have h := List.all_eq_true.1 hc i hi
    simp only [Bool.and_eq_true, Bool.or_eq_true, Bool.not_eq_true'] at h
    exact ⟨h.1.1.1, h.1.1.2, h.1.2, fun e => h.2.elim (fun f => by simp [e] at f) id⟩
  have h22 : EntL 22 (tOp n ++ tA n ++ (tBy n).map (sbE (.ofNat k)) ++ tBl n r) := by
    refine entL_app (entL_app (entL_app (entL_map fun i h => DO hS (hi i h).1) (entL_map fun i h => DA hS (hi i h).1)) (entL_map fun p hp => ?_)) (entL_map fun i h => ?_)
    · obtain ⟨i, h, rfl⟩ := List.mem_map.1 hp
      exact DY hS (hS' _) (hi i h).1 (hi i h).2.1
    · unfold eBl
      cases e : Nat.ble r i with
      | true => exact DL hS ((hi i h).2.2.2 e)
      | false => exact DY (k := 1) hS (hS' _) (hi i h).1 (hi i h).2.2.1
  have h9 : EntL 9 [sbE (.ofNat k) (aS n .y), aT n r] := fun p hp => by
    rcases List.mem_cons.1 hp with rfl | hp
    · exact SY hS (hS' _) hK
    · rw [List.mem_singleton] at hp; subst hp; exact ST hS hc0
  have h5 : EntL 5 [([], .b true)] := fun p hp => by
    rw [List.mem_singleton] at hp; subst hp; exact awake_ent hS
  have hOk : Ok (lTop (tOp n ++ tA n ++ (tBy n).map (sbE (.ofNat k)) ++ tBl n r) [sbE (.ofNat k) (aS n .y), aT n r] n r) :=
    up1_ok (up1_ok (pm_ok (upM_ok (upM_ok (upM_ok (m1_ok hS) h22) h9) h5) (snd_mod (snd13 (clo_ok (m1_ok hS)) (m1_ok hS)) hn hn2 hv)) snd8) snd6
  obtain ⟨μ, hr, g0, g2⟩ := hS.r w hT
  have hrun : runKK n k r = true := allB_one (RK (n, k, r) hm)
  have h := snd4 (clo_ok hOk) hOk [.int .i64 (.ofNat n), .int .i64 (.ofNat k), .sym] S0 (fun v s' => wB v true false) hrun w w μ #[.int .i64 (.ofNat n), .int .i64 (.ofNat k), .int .i64 Luck.val] hr (VL.cons (.int _ _) (VL.cons (.int _ _) (VL.cons .sym VL.nil))) g0 g2
  unfold Op1 at h
  rw [run_own Tryz.func4 (by kernel_rfl) ⟨_, rfl⟩] at h
  refine Calls.mono h fun e w' ⟨y, he, v, s', μ', _, h1, _, h2, h3⟩ => ?_
  rcases wB_true h1 with ⟨rfl, _⟩ | ⟨_, h4⟩
  · rw [bool_inv h2] at he
    exact ⟨he, h3.ext⟩
  · cases h4
end
/-- the law, walked -/
theorem TopKnot_w (n k l : Int) (w : World) {t0 t2 : TypeId} (h0 : w.heap[0]? = some (objN t0)) (h2 : w.heap[2]? = some (objB t2)) : Calls Tryz.prog 4 #[.int .i64 n, .int .i64 k, .int .i64 l] w fun e w' => e = .returned (.bool true) ∧ Below w.heap.size w w' := by
  letI : Luck := ⟨l, [(0, objN t0), (2, objB t2)]⟩
  have hT : TabOk w := fun p hp => by
    have hp : p ∈ [(0, objN t0), (2, objB t2)] := hp
    rcases List.mem_cons.1 hp with rfl | hp
    · exact h0
    · rw [List.mem_singleton] at hp; subst hp; exact h2
  by_cases ho : n < 2 ∨ 8 ≤ n ∨ k < 1 ∨ n ≤ k
  · exact knot_out (start rfl) n k l w hT ho
  · simp only [not_or, Int.not_lt, Int.not_le] at ho
    obtain ⟨a1, a2, a3, a4⟩ := ho
    obtain ⟨m, rfl⟩ := Int.eq_ofNat_of_zero_le (show 0 ≤ n by omega)
    obtain ⟨j, rfl⟩ := Int.eq_ofNat_of_zero_le (show 0 ≤ k by omega)
    obtain ⟨b1, b2⟩ := mdv_in l (show (1 : Int) ≤ (m : Int) by omega)
    obtain ⟨r, hr⟩ := Int.eq_ofNat_of_zero_le b1
    have hrm : r < m := by rw [hr] at b2; omega
    exact knot_in rfl (by omega) (by omega) (memK (by omega) (by omega) (by omega) (by omega) hrm) hr w hT
theorem TopKnot_c (n k l : Int) (w : World) (hL : laidMetH Tryz.prog [("clusterlocks/mode.together", Go.Proofs.YtapflcgnihdmoaaGreatDoor.Rows.laid_clusterlocks_mode_together), ("math/bits.deBruijn64tab", Go.Proofs.YtapflcgnihdmoaaGreatDoor.Rows.laid_math_bits_deBruijn64tab)] w) : Calls Tryz.prog 4 #[.int .i64 n, .int .i64 k, .int .i64 l] w fun e w' => e = .returned (.bool true) ∧ Below w.heap.size w w' := by
  obtain ⟨t0, t2, h0, h2⟩ := tab_of_laid hL
  exact TopKnot_w n k l w h0 h2
end X
