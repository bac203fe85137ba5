/- The bankers' entries; the bankers, whole. -/
import Derived.Test.YtapflcgnihdmoaaGreatDoorD3
import Derived.Test.YtapflcgnihdmoaaGreatDoorC1
namespace X
open Go Go.Proofs Go.RowKit
set_option linter.unusedVariables false
set_option linter.unusedSectionVars false
set_option maxRecDepth 100000
def okB (u : Nat) (ts : List Nat) (ls : List (Nat × Nat)) (cs : List (Nat × Nat × Nat)) : Bool := ts.all psBt.elem && (ts.map fun t => (u, t)).all psBut.elem && ls.all psBl.elem && cs.all psBc.elem && (ts.flatMap fun t => [(t, false), (t, true)]).all psBtz.elem
def okU (p : Nat × Nat × Nat) : Bool := psH.elem (p.1, p.2.2) && psA.elem p.1 && okB p.1 [p.2.2] [(p.2.2, 0)] [(p.1, 0, p.2.2), (p.1, p.2.2, p.2.2), (p.1, p.2.2, 0)] && (List.range p.2.1).all fun i => Nat.ble i (p.1 / p.2.2)
def okP (p : Nat × Nat × Nat × Nat) : Bool := psU.elem (p.1, p.2.1, p.2.2.1) && okB p.1 [p.2.2.2, p.2.2.1] [(p.2.2.1, 0), (p.2.2.1, p.2.2.2)] [(p.1, p.2.2.1, p.2.2.2), (p.1, p.2.2.2, p.2.2.1), (p.1, 0, p.2.2.2), (p.1, p.2.2.2, p.2.2.2), (p.1, p.2.2.1, p.2.2.1)] && [(p.1, p.2.2.1), (p.1, p.2.2.2)].all psBut.elem && (List.range (p.2.1 + 1)).all fun i => (s100T p i).all psBs.elem
theorem chkU : psU.all okU = true := by kernel_rfl
theorem chkP : psB.all okP = true := by kernel_rfl
theorem chkH : (psH.all fun p => psBut.elem p) = true := by kernel_rfl
section
variable [L : Luck]
theorem F94 (hS : Start S0) (t : Nat) (h : psBt.elem t = true) : Ent Tryz.prog 94 (b94 t).1 (b94 t).2 := entX snd94 (m1_ok hS) hS (allB_map Rb94 t (List.mem_of_elem_eq_true h))
theorem F122 (hS : Start S0) (t : Nat) (h : psBt.elem t = true) : Ent Tryz.prog 122 (b122 t).1 (b122 t).2 := entX snd122 (m1_ok hS) hS (allB_map Rb122 t (List.mem_of_elem_eq_true h))
theorem F140 (hS : Start S0) (t : Nat × Nat) (h : psBut.elem t = true) : Ent Tryz.prog 140 (b140 t).1 (b140 t).2 := entX snd140 (m1_ok hS) hS (allB_map Rb140 t (List.mem_of_elem_eq_true h))
theorem F170 (hS : Start S0) (t : Nat × Bool) (h : psBtz.elem t = true) : Ent Tryz.prog 170 (b170 t).1 (b170 t).2 := entX snd170 (m1_ok hS) hS (allB_map Rb170 t (List.mem_of_elem_eq_true h))
theorem F108 (hS : Start S0) (t : Nat × Nat) (h : psBl.elem t = true) : Ent Tryz.prog 108 (b108 t).1 (b108 t).2 := entX snd108 (m1_ok hS) hS (allB_map Rb108 t (List.mem_of_elem_eq_true h))
theorem F66 (hS : Start S0) (t : Nat × Nat) (h : psBl.elem t = true) : Ent Tryz.prog 66 (b66 t).1 (b66 t).2 := entX snd66 (m1_ok hS) hS (allB_map Rb66 t (List.mem_of_elem_eq_true h))
theorem F110 (hS : Start S0) (t : Nat × Nat) (h : psBut.elem t = true) : Ent Tryz.prog 110 (b110 t).1 (b110 t).2 := entX snd110 (m1_ok hS) hS (allB_map Rb110 t (List.mem_of_elem_eq_true h))
theorem F164 (hS : Start S0) (t : Nat × Nat × Nat) (h : psBc.elem t = true) : Ent Tryz.prog 164 (b164 t).1 (b164 t).2 := entX snd164 (m1_ok hS) hS (allB_map Rb164 t (List.mem_of_elem_eq_true h))
theorem F100 (hS : Start S0) (t : Nat × Nat × Nat) (h : psBs.elem t = true) : Ent Tryz.prog 100 (b100 t).1 (b100 t).2 := entX snd100 (l1_ok hS tb0) hS (allB_one (Rb100 t (List.mem_of_elem_eq_true h)))
theorem lV_ok (hS : Start S0) {l : List (Nat × Nat)} (h : l.all psBut.elem = true) : Ok (lV' l) :=
  up1_ok (up1_ok (up1_ok (up1_ok (up1_ok (up1_ok (up1_ok (upT_ok (lA_ok hS) (entL_all (F110 hS) h) snd110) snd164) snd66) snd220) snd207) snd108) snd113) snd59
theorem lQ_ok (hS : Start S0) {l : List (Nat × Nat × Nat)} (h : l.all psBs.elem = true) : Ok (lQ l) := up1_ok (upT_ok (l1_ok hS tb0) (entL_all (F100 hS) h) snd100) snd113
theorem VH (hS : Start S0) {u h i : Nat} (hp : (u, h) ∈ psH) (hi : i ≤ u / h) : Ent Tryz.prog 93 (b93 (qHb u h i)).1 (b93 (qHb u h i)).2 :=
  entX snd93 (lV_ok hS (show ([(u, h)] : List (Nat × Nat)).all psBut.elem = true by simp only [List.all_cons, List.all_nil, Bool.and_true]; exact List.all_eq_true.1 chkH _ hp)) hS (allB_map (RbVH (u, h) hp) i (List.mem_range.2 (by show i < u / h + 1; omega)))
theorem PH (hS : Start S0) {u h i : Nat} (hp : (u, h) ∈ psH) (hi : i ≤ u / h) : Ent Tryz.prog 59 (b59 (qHb u h i) i).1 (b59 (qHb u h i) i).2 :=
  entX snd59 (lQ_ok hS (l := []) rfl) hS (allB_map (RbPH (u, h) hp) i (List.mem_range.2 (by show i < u / h + 1; omega)))
theorem okP_of {p : Nat × Nat × Nat × Nat} (hp : p ∈ psB) : psU.elem (p.1, p.2.1, p.2.2.1) = true ∧ okB p.1 [p.2.2.2, p.2.2.1] [(p.2.2.1, 0), (p.2.2.1, p.2.2.2)] [(p.1, p.2.2.1, p.2.2.2), (p.1, p.2.2.2, p.2.2.1), (p.1, 0, p.2.2.2), (p.1, p.2.2.2, p.2.2.2), (p.1, p.2.2.1, p.2.2.1)] = true ∧ [(p.1, p.2.2.1), (p.1, p.2.2.2)].all psBut.elem = true ∧ ∀ i, i ≤ p.2.1 → (s100T p i).all psBs.elem = true := by
  have h := List.all_eq_true.1 chkP p hp
  unfold okP at h
  rw [Bool.and_eq_true, Bool.and_eq_true, Bool.and_eq_true] at h
  exact ⟨h.1.1.1, h.1.1.2, h.1.2, fun i hi => List.all_eq_true.1 h.2 i (List.mem_range.2 (by omega))⟩
theorem VT (hS : Start S0) {p : Nat × Nat × Nat × Nat} {i : Nat} (hp : p ∈ psB) (hi : i ≤ p.2.1) : Ent Tryz.prog 93 (b93 (qT p.1 p.2.1 p.2.2.1 p.2.2.2 i)).1 (b93 (qT p.1 p.2.1 p.2.2.1 p.2.2.2 i)).2 :=
  entX snd93 (lV_ok hS (okP_of hp).2.2.1) hS (allB_map (RbVT p hp) i (List.mem_range.2 (by omega)))
theorem PT (hS : Start S0) {p : Nat × Nat × Nat × Nat} {i : Nat} (hp : p ∈ psB) (hi : i ≤ p.2.1) : Ent Tryz.prog 59 (b59 (qT p.1 p.2.1 p.2.2.1 p.2.2.2 i) p.2.1).1 (b59 (qT p.1 p.2.1 p.2.2.1 p.2.2.2 i) p.2.1).2 :=
  entX snd59 (lQ_ok hS ((okP_of hp).2.2.2 i hi)) hS (allB_map (RbPT p hp) i (List.mem_range.2 (by omega)))
theorem mkB_ok (hS : Start S0) {q : List Tr} {a u : Nat} {ts : List Nat} {ls : List (Nat × Nat)} {cs : List (Nat × Nat × Nat)} (hB : okB u ts ls cs = true) (h93 : Ent Tryz.prog 93 (b93 q).1 (b93 q).2) (h59 : Ent Tryz.prog 59 (b59 q a).1 (b59 q a).2) : TbOk (mkB q a u ts ls cs) := by
  unfold okB at hB
  simp only [Bool.and_eq_true] at hB
  obtain ⟨⟨⟨⟨h1, h2⟩, h3⟩, h4⟩, h5⟩ := hB
  exact ⟨entL_all (F110 hS) h2, entL_all (F164 hS) h4, entL_all (F66 hS) h3, entL_nil _, entL_nil _, entL_all (F108 hS) h3, entL_nil _, fun p hp => by
    have hp : p ∈ [b59 q a] := hp
    rw [List.mem_singleton] at hp; subst hp; exact h59, entL_all (F94 hS) h1, fun p hp => by
    have hp : p ∈ [b93 q] := hp
    rw [List.mem_singleton] at hp; subst hp; exact h93, entL_all (F122 hS) h1, entL_all (F140 hS) h2, entL_all (F170 hS) h5, entL_nil _, entL_nil _, entL_nil _⟩
theorem okU_of {p : Nat × Nat × Nat} (hp : p ∈ psU) : (p.1, p.2.2) ∈ psH ∧ p.1 ∈ psA ∧ okB p.1 [p.2.2] [(p.2.2, 0)] [(p.1, 0, p.2.2), (p.1, p.2.2, p.2.2), (p.1, p.2.2, 0)] = true ∧ ∀ i, i < p.2.1 → i ≤ p.1 / p.2.2 := by
  have h := List.all_eq_true.1 chkU p hp
  unfold okU at h
  rw [Bool.and_eq_true, Bool.and_eq_true, Bool.and_eq_true] at h
  exact ⟨List.mem_of_elem_eq_true h.1.1.1, List.mem_of_elem_eq_true h.1.1.2, h.1.2, fun i hi => Nat.le_of_ble_eq_true (List.all_eq_true.1 h.2 i (List.mem_range.2 hi))⟩
theorem BO (hS : Start S0) {u i : Nat} (hu : u ∈ psA) (hi : i < 8) : Ent Tryz.prog 22 (entO u i).1 (entO u i).2 := by
  have hm : i ∈ (List.range 8).take 4 ∨ i ∈ (List.range 8).drop 4 := by
    have h := List.mem_range.2 hi
    rw [← List.take_append_drop 4 (List.range 8)] at h
    exact List.mem_append.1 h
  rcases hm with hm | hm
  · exact entX snd22 (m1_ok hS) hS (allB_map (RbO0 u hu) i hm)
  · exact entX snd22 (m1_ok hS) hS (allB_map (RbO1 u hu) i hm)
theorem BH (hS : Start S0) {u n h i : Nat} (hp : (u, n, h) ∈ psU) (hi : i < n) : Ent Tryz.prog 22 (entH u n h i).1 (entH u n h i).2 := by
  obtain ⟨h1, _, h2, h3⟩ := okU_of hp
  have ht : TbOk (tbsH u h i) := mkB_ok hS h2 (VH hS h1 (h3 i hi)) (PH hS h1 (h3 i hi))
  exact entX snd22 (lE_ok hS ht) hS (allB_map (RbDH (u, n, h) hp) i (List.mem_range.2 hi))
theorem tbsB_ok (hS : Start S0) {u n h t i : Nat} (hp : (u, n, h, t) ∈ psB) (hi : i ≤ n) : TbOk (tbsB u n h t i) := mkB_ok hS (okP_of hp).2.1 (VT hS hp hi) (PT hS hp hi)
theorem BT (hS : Start S0) {u n h t i : Nat} (hp : (u, n, h, t) ∈ psB) (hi : i < n) : Ent Tryz.prog 22 (entT' u n h t i).1 (entT' u n h t i).2 := by
  have ht := tbsB_ok hS hp (Nat.le_of_lt hi)
  have hm : i ∈ (List.range n).take 4 ∨ i ∈ (List.range n).drop 4 := by
    have h := List.mem_range.2 hi
    rw [← List.take_append_drop 4 (List.range n)] at h
    exact List.mem_append.1 h
  rcases hm with hm | hm
  · exact entX snd22 (lE_ok hS ht) hS (allB_map (RbDT0 (u, n, h, t) hp) i hm)
  · exact entX snd22 (lE_ok hS ht) hS (allB_map (RbDT1 (u, n, h, t) hp) i hm)
theorem BS (hS : Start S0) {u n h t : Nat} (hp : (u, n, h, t) ∈ psB) : Ent Tryz.prog 9 (bS (u, n, h, t)).1 (bS (u, n, h, t)).2 := entX snd9 (lE_ok hS (tbsB_ok hS hp (Nat.le_refl n))) hS (allB_one (RbSB (u, n, h, t) hp))
theorem bank_in {t0 t2 : TypeId} (hL : Luck.tab = [(0, objN t0), (2, objB t2)]) {u n h t : Nat} (hp : (u, n, h, t) ∈ psB) (hn : n ≤ 8) (w : World) (hT : TabOk w) :
    Calls Tryz.prog 3 #[.int .i64 (.ofNat u), .int .i64 (.ofNat n), .int .i64 (.ofNat h), .int .i64 (.ofNat t)] w fun e w' => e = .returned (.bool true) ∧ Below w.heap.size w w' := by
  have hS : Start S0 := start hL
  have hU := List.mem_of_elem_eq_true (okP_of hp).1
  have hA := (okU_of hU).2.1
  have h22 : EntL 22 (t22B (u, n, h, t)) := entL_app (entL_app (entL_map fun i hi => BO hS hA (by have : i < n := List.mem_range.1 hi; omega)) (entL_map fun i hi => BH hS hU (List.mem_range.1 hi))) (entL_map fun i hi => BT hS hp (List.mem_range.1 hi))
  have h9 : EntL 9 [bS (u, n, h, t)] := fun p hp' => by rw [List.mem_singleton] at hp'; subst hp'; exact BS hS hp
  have h5 : EntL 5 [([], .b true)] := fun p hp => by rw [List.mem_singleton] at hp; subst hp; exact awake_ent hS
  have hOk : Ok (lTopB (t22B (u, n, h, t)) [bS (u, n, h, t)]) := up1_ok (up1_ok (upM_ok (upM_ok (upM_ok (m1_ok hS) h22) h9) h5) snd8) snd6
  obtain ⟨μ, hr, g0, g2⟩ := hS.r w hT
  have hrun : runTB (u, n, h, t) = true := allB_one (RbTB (u, n, h, t) hp)
  have h := snd3 (clo_ok hOk) hOk [.int .i64 (.ofNat u), .int .i64 (.ofNat n), .int .i64 (.ofNat h), .int .i64 (.ofNat t)] S0 (fun v s' => wB v true false) hrun w w μ #[.int .i64 (.ofNat u), .int .i64 (.ofNat n), .int .i64 (.ofNat h), .int .i64 (.ofNat t)] hr (VL.cons (.int _ _) (VL.cons (.int _ _) (VL.cons (.int _ _) (VL.cons (.int _ _) VL.nil)))) g0 g2
  unfold Op1 at h
  rw [run_own Tryz.func3 (by kernel_rfl) ⟨_, rfl⟩] at h
  refine Calls.mono h fun e w' ⟨y, he, v, s', μ', _, h1, _, h2, h3⟩ => ?_
  rcases wB_true h1 with ⟨rfl, _⟩ | ⟨_, h4⟩
  · rw [bool_inv h2] at he
    exact ⟨he, h3.ext⟩
  · cases h4
end
theorem chkM : ((List.range 9).all fun u => (List.range 9).all fun n => (List.range 9).all fun h => (List.range 9).all fun t => Nat.beq n 0 || (Nat.beq h 0 || (Nat.blt u (n * h) || (Nat.ble t h || (Nat.blt u t || psB.elem (u, n, h, t)))))) = true := by kernel_rfl
theorem nblt {a b : Nat} (h : b ≤ a) : Nat.blt a b = false := by
  cases e : Nat.blt a b with
  | false => rfl
  | true => exact absurd (Nat.le_of_ble_eq_true (show Nat.ble (a + 1) b = true from e)) (by omega)
theorem inPsB {u n h t : Nat} (h1 : u ≤ 8) (h2 : 1 ≤ n) (h3 : n ≤ 8) (h4 : 1 ≤ h) (h5 : h ≤ 8) (h6 : n * h ≤ u) (h7 : h < t) (h8 : t ≤ u) : (u, n, h, t) ∈ psB := by
  have q := List.all_eq_true.1 (List.all_eq_true.1 (List.all_eq_true.1 (List.all_eq_true.1 chkM u (List.mem_range.2 (by omega))) n (List.mem_range.2 (by omega))) h (List.mem_range.2 (by omega))) t (List.mem_range.2 (by omega))
  have e1 : Nat.beq n 0 = false := by cases n with
    | zero => omega
    | succ n => rfl
  have e2 : Nat.beq h 0 = false := by cases h with
    | zero => omega
    | succ h => rfl
  have e3 : Nat.ble t h = false := by
    cases e : Nat.ble t h with
    | false => rfl
    | true => exact absurd (Nat.le_of_ble_eq_true e) (by omega)
  rw [e1, e2, nblt h6, e3, nblt h8] at q
  exact List.mem_of_elem_eq_true q
/-- the law, walked -/
theorem TopBankers_w (u n h t : Int) (w : World) {t0 t2 : TypeId} (h0 : w.heap[0]? = some (objN t0)) (h2 : w.heap[2]? = some (objB t2)) : Calls Tryz.prog 3 #[.int .i64 u, .int .i64 n, .int .i64 h, .int .i64 t] w fun e w' => e = .returned (.bool true) ∧ Below w.heap.size w w' := by
  letI : Luck := ⟨0, [(0, objN t0), (2, objB t2)]⟩
  have hT : TabOk w := fun p hp => by
    have hp : p ∈ [(0, objN t0), (2, objB t2)] := hp
    rcases List.mem_cons.1 hp with rfl | hp
    · exact h0
    · rw [List.mem_singleton] at hp; subst hp; exact h2
  by_cases ho : u < 1 ∨ 8 < u ∨ n < 1 ∨ 8 < n ∨ h < 1 ∨ 8 < h ∨ u < n * h ∨ t ≤ h ∨ u < t
  · exact bank_out (start rfl) u n h t w hT ho
  · simp only [not_or, Int.not_lt, Int.not_le] at ho
    obtain ⟨a1, a2, a3, a4, a5, a6, a7, a8, a9⟩ := ho
    obtain ⟨u, rfl⟩ := Int.eq_ofNat_of_zero_le (show 0 ≤ u by omega)
    obtain ⟨n, rfl⟩ := Int.eq_ofNat_of_zero_le (show 0 ≤ n by omega)
    obtain ⟨h, rfl⟩ := Int.eq_ofNat_of_zero_le (show 0 ≤ h by omega)
    obtain ⟨t, rfl⟩ := Int.eq_ofNat_of_zero_le (show 0 ≤ t by omega)
    exact bank_in rfl (inPsB (by omega) (by omega) (by omega) (by omega) (by omega) (by exact_mod_cast a7) (by omega) (by omega)) (by omega) w hT
theorem TopBankers_c (u n h t : Int) (w : World) (hL : laidMetH Tryz.prog [("clusterlocks/mode.together", Go.Proofs.YtapflcgnihdmoaaGreatDoor.Rows.laid_clusterlocks_mode_together), ("math/bits.deBruijn64tab", Go.Proofs.YtapflcgnihdmoaaGreatDoor.Rows.laid_math_bits_deBruijn64tab)] w) : Calls Tryz.prog 3 #[.int .i64 u, .int .i64 n, .int .i64 h, .int .i64 t] w fun e w' => e = .returned (.bool true) ∧ Below w.heap.size w w' := by
  obtain ⟨t0, t2, h0, h2⟩ := tab_of_laid hL
  exact TopBankers_w u n h t w h0 h2
end X
