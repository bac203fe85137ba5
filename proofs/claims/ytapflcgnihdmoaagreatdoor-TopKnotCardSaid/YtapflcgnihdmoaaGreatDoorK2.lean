/- From runs to entries: the knots. -/
import Derived.Test.YtapflcgnihdmoaaGreatDoorC2
import Derived.Test.YtapflcgnihdmoaaGreatDoorK1
namespace X
open Go Go.Proofs Go.RowKit
set_option linter.unusedVariables false
set_option linter.unusedSectionVars false
set_option maxRecDepth 100000
/-- the piece that a place lies in -/
def pcO : Q4 → Nat × Nat
  | (0, _, j, _) => (0, j)
  | (1, l, j, _) => (l + 1, j)
  | (2, l, _, _) => (8, l)
  | _ => (9, 0)
def ok93 (ps : List (Nat × Nat)) (q : Q4) : Bool := ps.elem (pcO q) && (pc93 (pcO q)).elem q
theorem ok93_mem {ps : List (Nat × Nat)} {P : Q4 → Prop} (h : ∀ p ∈ ps, ∀ q ∈ pc93 p, P q) {q : Q4} (hq : ok93 ps q = true) : P q := by
  unfold ok93 at hq
  rw [Bool.and_eq_true] at hq
  exact h _ (List.mem_of_elem_eq_true hq.1) q (List.mem_of_elem_eq_true hq.2)
/-! the unknown int in the trees of requests -/
theorem sb_flat (k : Int) {α : Type} (l : List α) (g : α → List Tr) (h : ∀ a, (g a).map (sb k) = g a) : sbL k (l.flatMap g) = l.flatMap g := by
  rw [sbL_map, List.map_flatMap]
  congr 1
  funext a
  exact h a
theorem sb_ex (k n i : Nat) (m : Bool) : sbL (.ofNat k) (exK n .y i m) = exK n (kI k) i m := by
  have h := sb_flat (.ofNat k) (kidsK n i m) (fun j => atE (nmK j) 5 0) (fun j => rfl)
  show [Tr.i (.ofNat k), .s [], .i 0, .i 0, .r 5 _ (sbL (.ofNat k) ((kidsK n i m).flatMap fun j => atE (nmK j) 5 0))] = _
  rw [h]; rfl
theorem sb_94 (k n i : Nat) (m : Bool) : sbE (.ofNat k) (e94 n m .y i) = e94 n m (kI k) i := by
  show ([Tr.a (sbL (.ofNat k) (exK n .y i m))], Tr.b true) = _
  rw [sb_ex]; rfl
theorem sb_122 (k n i : Nat) (m : Bool) : sbE (.ofNat k) (e122 n m .y i) = e122 n m (kI k) i := by
  show ([Tr.a (sbL (.ofNat k) (exK n .y i m))], Tr.r 3 _ (sbL (.ofNat k) ((kidsK n i m).flatMap fun j => [.s (nmK j)] ++ amT 5 0))) = _
  rw [sb_ex, sb_flat (.ofNat k) (kidsK n i m) (fun j => [Tr.s (nmK j)] ++ amT 5 0) (fun j => rfl)]; rfl
theorem sb_140 (k n i : Nat) (m : Bool) : sbE (.ofNat k) (e140 n m .y i) = e140 n m (kI k) i := by
  show ([Tr.r 4 _ (sbL (.ofNat k) ((List.range (n + 1)).flatMap fun j => [.s (nmK j), .i 1, .i 1, .i 0])), Tr.a (sbL (.ofNat k) (exK n .y i m))], Tr.i 0) = _
  rw [sb_ex, sb_flat (.ofNat k) _ (fun j => [.s (nmK j), .i 1, .i 1, .i 0]) (fun j => rfl)]; rfl
theorem sb_170 (k n i : Nat) (m : Bool) : sbE (.ofNat k) (e170 n m .y i) = e170 n m (kI k) i := by
  show ([Tr.a (sbL (.ofNat k) (exK n .y i m)), Tr.r 1 _ (sbL (.ofNat k) (List.replicate _ (.b false)))], Tr.b false) = _
  rw [sb_ex, sbL_map, List.map_replicate]; rfl
theorem ent_sb' (L : Luck) (k : Int) {P : Program} {f : Nat} {p q : List Tr × Tr} (e : sbE k p = q) (h : @Ent L P f q.1 q.2) : @Ent ⟨k, L.tab⟩ P f p.1 p.2 := (ent_sb L k).2 (by subst e; exact h)
end X
