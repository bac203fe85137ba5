
/- The statements about expressions (chapter 8): the check that the package is awake, and the first walks of the laws. -/
import Derived.Test.YtmboojbhnmdnkaaRg
namespace Go.Proofs.Ytmboojbhnmdnkaa
open Go.RowKit
set_option linter.unusedVariables false
def atomE (s : List UInt8) : CL.Ex := .mk 0 ⟨s, ⟨3, 0⟩⟩ []
def exA : CL.Ex := .mk 2 CL.noAt [atomE [97], atomE [98], atomE [99]]
theorem exA_valid : CL.valid exA = true := by decide
theorem exA_atoms : CL.atoms exA = [⟨[97], ⟨3, 0⟩⟩, ⟨[98], ⟨3, 0⟩⟩, ⟨[99], ⟨3, 0⟩⟩] := by decide
theorem exA_prn : prn exA [true, true, true] = [true, true, false] := by decide
theorem exA_holds : holdsE exA [true, false, true] = true := by decide
theorem exA_cls : cls exA = 4 := by decide
theorem exA_hpl : hpl exA [true, true] = true := by decide
/-- an atom in mode S, as cells -/
def atcs (s : List UInt8) : List Value := [.int .i64 0, .string ⟨s.toArray⟩, .int .i64 3, .int .i64 0, .slice none 0 0]
theorem clusterlockslaw08.atom_c (s : List UInt8) (w : World) : Calls Try.prog 29 #[.string ⟨s.toArray⟩] w fun r w' => r = .returned (.agg #[.int .i64 0, .string ⟨s.toArray⟩, .int .i64 3, .int .i64 0, .slice none 0 0]) ∧ Ext w w' := by
  go_enter Try.func29, Try.ntmps29
  go_wp2
  exact bodyPost_ret (v := .agg #[.int .i64 0, .string ⟨s.toArray⟩, .int .i64 3, .int .i64 0, .slice none 0 0]) (by simp [results, Try.results29, go_sem]) rfl ⟨rfl, Ext.new _ _⟩
theorem rd_atom (w : World) (B : Nat) (s : List UInt8) (hs : s.length ≤ maxLen) : Rd w B (atomE s) (atcs s) :=
  .mk 0 s 3 0 [] none 0 [] hs (by simp [maxLen]) (by simp) rfl (by simp) (fun h => absurd rfl h) (fun i h => by simp at h)
theorem rd_exA (w : World) (B g : Nat) (t : TypeId) (hg : g < B) (hb : Blk w g t (atcs [97] ++ atcs [98] ++ atcs [99]).toArray) :
    Rd w B exA [.int .i64 2, .string ⟨#[]⟩, .int .i64 0, .int .i64 0, .slice (some ⟨g, 0, none⟩) 3 3] :=
  .mk 2 [] 0 0 [atomE [97], atomE [98], atomE [99]] (some ⟨g, 0, none⟩) 3 [atcs [97], atcs [98], atcs [99]] (by simp [maxLen]) (by simp [maxLen]) (by simp) rfl (by simp [atcs])
    (fun _ => ⟨g, 0, rfl, hg, fun j u hu => by rw [Nat.zero_add, hb.cell]; simpa using hu⟩)
    (fun i h1 h2 => by
      have : i = 0 ∨ i = 1 ∨ i = 2 := by simp at h1; omega
      rcases this with rfl | rfl | rfl <;> exact rd_atom w B _ (by simp [maxLen]))
theorem pr_exA (w : World) (B : Nat) (cs : List Value) (S : Option Addr) (d : Nat) (hR : Rd w B exA cs) (hB : B ≤ w.heap.size) (hrs : Sits w S (bls [true, true, true])) : Calls Try.prog 25 #[.agg cs.toArray, .slice S 3 d] w (OwnBls [true, true, false] w) := by
  have h := formula.Prune_c exA [true, true, true] S d (by simp [maxLen]) w B cs hR hB hrs
  rwa [exA_prn] at h
theorem ho_exA (w : World) (B : Nat) (cs : List Value) (S : Option Addr) (d : Nat) (hR : Rd w B exA cs) (hB : B ≤ w.heap.size) (hrs : Sits w S (bls [true, false, true])) : Calls Try.prog 16 #[.agg cs.toArray, .slice S 3 d] w fun r w' => r = .returned (.bool true) ∧ Ext w w' := by
  have h := formula.Holds_c exA [true, false, true] S d (by simp [maxLen]) w B cs hR hB hrs
  rwa [exA_holds] at h
theorem cl_exA (w : World) (B : Nat) (cs : List Value) (hR : Rd w B exA cs) (hB : B ≤ w.heap.size) : Calls Try.prog 27 #[.agg cs.toArray] w fun r w' => r = .returned (.int .i64 4) ∧ Ext w w' := by
  have h := formula.Class_c exA w B cs hR hB
  rwa [exA_cls] at h
theorem hp_exA (w : World) (B : Nat) (cs : List Value) (S : Option Addr) (d : Nat) (hR : Rd w B exA cs) (hB : B ≤ w.heap.size) (hrs : Sits w S (bls [true, true])) : Calls Try.prog 18 #[.agg cs.toArray, .slice S 2 d] w fun r w' => r = .returned (.bool true) ∧ Ext w w' := by
  have h := formula.Hopeless_c exA [true, true] S d (by simp [maxLen]) w B cs hR hB hrs
  rwa [exA_hpl] at h
theorem at_exA (w : World) (B : Nat) (cs : List Value) (hR : Rd w B exA cs) (hB : B ≤ w.heap.size) : Calls Try.prog 13 #[.agg cs.toArray] w fun r w' => ∃ A c, r = .returned (.slice A 3 c) ∧ Ext w w' := by
  have h := formula.Atoms_c exA w B cs hR hB
  rw [exA_atoms] at h
  refine h.mono fun r w' hp => ?_
  obtain ⟨A, c, e, _, hx⟩ := hp.get
  exact ⟨A, c, e, hx⟩
theorem sits_tft (w : World) : Sits (w.alloc (.cells #[.bool true, .bool false, .bool true] 4)) (some ⟨w.heap.size, 0, none⟩) (bls [true, false, true]) := Sits.new w (bls [true, false, true]) 4
theorem sits_tt (w : World) : Sits (w.alloc (.cells #[.bool true, .bool true] 4)) (some ⟨w.heap.size, 0, none⟩) (bls [true, true]) := Sits.new w (bls [true, true]) 4
set_option maxHeartbeats 1600000 in
theorem awake8_c (w : World) : Calls Try.prog 15 #[] w fun r w' => r = .returned (.bool true) ∧ Ext w w' := by
  go_enter Try.func15, Try.ntmps15
  go_wp2_with (first
    | (go_at_call 29; (with_reducible refine (clusterlockslaw08.atom_c [97] _).mono ?_); rintro r w1 ⟨rfl, hx1⟩)
    | (go_at_call 29; (with_reducible refine (clusterlockslaw08.atom_c [98] _).mono ?_); rintro r w2 ⟨rfl, hx2⟩)
    | (go_at_call 29; (with_reducible refine (clusterlockslaw08.atom_c [99] _).mono ?_); rintro r w3 ⟨rfl, hx3⟩; have hx := hx1.tr (hx2.tr hx3); clear hx1 hx2 hx3))
  obtain ⟨b0, b1⟩ := two_rows w3 #[.int .i64 0, .string ⟨#[97]⟩, .int .i64 3, .int .i64 0, .slice none 0 0, .int .i64 0, .string ⟨#[98]⟩, .int .i64 3, .int .i64 0, .slice none 0 0, .int .i64 0, .string ⟨#[99]⟩, .int .i64 3, .int .i64 0, .slice none 0 0] 28 #[.int .i64 2, .string ⟨#[]⟩, .int .i64 0, .int .i64 0, .slice (some ⟨w3.heap.size, 0, none⟩) 3 3] 28
  have hz2 : w3.heap.size + 1 + 1 = ((w3.alloc (.cells #[.int .i64 0, .string ⟨#[97]⟩, .int .i64 3, .int .i64 0, .slice none 0 0, .int .i64 0, .string ⟨#[98]⟩, .int .i64 3, .int .i64 0, .slice none 0 0, .int .i64 0, .string ⟨#[99]⟩, .int .i64 3, .int .i64 0, .slice none 0 0] 28)).alloc (.cells #[.int .i64 2, .string ⟨#[]⟩, .int .i64 0, .int .i64 0, .slice (some ⟨w3.heap.size, 0, none⟩) 3 3] 28)).heap.size := by rw [World.size_alloc, World.size_alloc]
  have hx4 : Ext w3 ((w3.alloc (.cells #[.int .i64 0, .string ⟨#[97]⟩, .int .i64 3, .int .i64 0, .slice none 0 0, .int .i64 0, .string ⟨#[98]⟩, .int .i64 3, .int .i64 0, .slice none 0 0, .int .i64 0, .string ⟨#[99]⟩, .int .i64 3, .int .i64 0, .slice none 0 0] 28)).alloc (.cells #[.int .i64 2, .string ⟨#[]⟩, .int .i64 0, .int .i64 0, .slice (some ⟨w3.heap.size, 0, none⟩) 3 3] 28)) := by go_grown
  generalize ((w3.alloc (.cells #[.int .i64 0, .string ⟨#[97]⟩, .int .i64 3, .int .i64 0, .slice none 0 0, .int .i64 0, .string ⟨#[98]⟩, .int .i64 3, .int .i64 0, .slice none 0 0, .int .i64 0, .string ⟨#[99]⟩, .int .i64 3, .int .i64 0, .slice none 0 0] 28)).alloc (.cells #[.int .i64 2, .string ⟨#[]⟩, .int .i64 0, .int .i64 0, .slice (some ⟨w3.heap.size, 0, none⟩) 3 3] 28)) = W at *
  have hR : Rd W (w3.heap.size + 1 + 1) exA [.int .i64 2, .string ⟨#[]⟩, .int .i64 0, .int .i64 0, .slice (some ⟨w3.heap.size, 0, none⟩) 3 3] := rd_exA W _ _ _ (by omega) b0
  have hBW : w3.heap.size + 1 + 1 ≤ W.heap.size := by omega
  have hT1 : Sits (W.alloc (.cells #[.bool true, .bool true, .bool true] 4)) (some ⟨w3.heap.size + 1 + 1, 0, none⟩) (bls [true, true, true]) := by rw [hz2]; exact Sits.new W (bls [true, true, true]) 4
  clear hz2
  have hxa := Ext.new W (.cells #[.bool true, .bool true, .bool true] 4)
  have hBa := hxa.size
  go_wp2_with (first
    | (go_at_call 25; (with_reducible refine (pr_exA _ (w3.heap.size + 1 + 1) _ _ _ (hR.ext hxa hBW) (by omega) hT1).mono ?_); rintro r w5 ⟨g, rfl, hbg, hgs, hx5⟩; have hy := hxa.tr hx5; have hBy := hy.size; obtain ⟨e0, e1, e2, e3, e4⟩ := (b1.ext hy).c5)
    | (go_at_call 16; (with_reducible refine (ho_exA _ (w3.heap.size + 1 + 1) _ _ _ ((hR.ext hy hBW).ext (Ext.new _ _) (by omega)) (by simp; omega) (sits_tft w5)).mono ?_); rintro r w6 ⟨rfl, hx6⟩; have hbg6 := (hbg.alloc _).ext hx6; have g0 : w6.cell? ⟨g, 0, none⟩ = some (.bool true) := hbg6.cell 0; have g1 : w6.cell? ⟨g, 1, none⟩ = some (.bool true) := hbg6.cell 1; have g2 : w6.cell? ⟨g, 2, none⟩ = some (.bool false) := hbg6.cell 2; replace hy := hy.tr ((Ext.new _ _).tr hx6); have hBy6 := hy.size; obtain ⟨e0, e1, e2, e3, e4⟩ := (b1.ext hy).c5; clear hx6)
    | (go_at_call 27; (with_reducible refine (cl_exA _ (w3.heap.size + 1 + 1) _ (hR.ext hy hBW) (by omega)).mono ?_); rintro r w7 ⟨rfl, hx7⟩; replace hy := hy.tr hx7; have hBy7 := hy.size; obtain ⟨e0, e1, e2, e3, e4⟩ := (b1.ext hy).c5; clear hx7)
    | (go_at_call 13; (with_reducible refine (at_exA _ (w3.heap.size + 1 + 1) _ (hR.ext hy hBW) (by omega)).mono ?_); rintro r w8 ⟨A, c, rfl, hx8⟩; replace hy := hy.tr hx8; have hBy8 := hy.size; obtain ⟨e0, e1, e2, e3, e4⟩ := (b1.ext hy).c5; clear hx8)
    | (go_at_call 18; (with_reducible refine (hp_exA _ (w3.heap.size + 1 + 1) _ _ _ ((hR.ext hy hBW).ext (Ext.new _ _) (by omega)) (by simp; omega) (sits_tt w8)).mono ?_); rintro r w9 ⟨rfl, hx9⟩; replace hy := hy.tr ((Ext.new _ _).tr hx9)))
  go_ret
  exact ⟨rfl, hx.tr (hx4.tr hy)⟩
end Go.Proofs.Ytmboojbhnmdnkaa
