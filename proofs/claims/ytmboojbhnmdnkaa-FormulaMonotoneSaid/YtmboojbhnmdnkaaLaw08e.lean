
/- The statements about expressions (chapter 8): the walk of FormulaPure. -/
import Derived.Test.YtmboojbhnmdnkaaLaw08
import Derived.Test.YtmboojbhnmdnkaaCv
import Derived.IntWalk
import Derived.Deep.DrawnRows
namespace Go.Proofs.Ytmboojbhnmdnkaa
open Go.RowKit
set_option linter.unusedVariables false
attribute [local go_sem ↓] Go.wp_at_zero Go.wp_at_succ
def lets (n : Nat) : List CL.Ex := (List.range n).map fun i => atomE [UInt8.ofNat (97 + i)]
def pureE (n k : Nat) : CL.Ex := .mk k CL.noAt (lets n)
def pureW (n k : Nat) : Int := if k = n then 2 else if k = 1 then 3 else 4
theorem pure_cls {n k : Nat} (h1 : 2 ≤ n) (h2 : n ≤ 8) (h3 : 1 ≤ k) (h4 : k ≤ n) : cls (pureE n k) = pureW n k := by
  have h : ∀ n : Fin 9, ∀ k : Fin 9, 2 ≤ n.val → 1 ≤ k.val → k.val ≤ n.val → cls (pureE n.val k.val) = pureW n.val k.val := by decide +kernel
  exact h ⟨n, by omega⟩ ⟨k, by omega⟩ h1 h3 h4
def letc (j : Nat) : List Value := (List.range j).flatMap fun i => atcs [UInt8.ofNat (97 + i)]
theorem letc_len (j : Nat) : (letc j).length = j * 5 := by rw [letc, fm_len (c := fun i => atcs [UInt8.ofNat (97 + i)]) (sz := 5) (fun _ => rfl)]; simp
theorem letc_succ (j : Nat) : letc (j + 1) = letc j ++ atcs [UInt8.ofNat (97 + j)] := by simp [letc, List.range_succ]
theorem ex_info : (Try.prog.info? 28).map (fun i => (i.zero, i.size, i.bytes)) = some (some (.agg #[.int .i64 0, .string ⟨#[]⟩, .int .i64 0, .int .i64 0, .slice none 0 0]), 5, 64) := by kernel_rfl
theorem ex_ne : 28 = 28 := rfl
theorem rd_pure (w : World) (n k : Nat) (A : Option Addr) (c : Nat) (hn : n ≤ 8) (hc : n ≤ c) (hs : Sits w A (letc n)) :
    Rd w w.heap.size (pureE n k) [.int .i64 (k : Int), .string ⟨#[]⟩, .int .i64 0, .int .i64 0, .slice A n c] := by
  have hl : (lets n).length = n := by simp [lets]
  have h := Rd.mk (w := w) (B := w.heap.size) (k : Int) [] 0 0 (lets n) A c ((List.range n).map fun i => atcs [UInt8.ofNat (97 + i)]) (by simp [maxLen]) (by rw [hl]; unfold maxLen; omega) (by omega) (by simp [lets])
    (by intro v hv; simp only [List.mem_map] at hv; obtain ⟨i, _, rfl⟩ := hv; rfl) (by rw [← List.flatMap_def]; exact SitsB.of hs)
    (fun i h1 h2 => by simp only [lets, List.getElem_map]; exact rd_atom w _ _ (by simp [maxLen]))
  rw [hl] at h
  exact h
theorem conv_drew (W : World) (v : Int) : (convert 48 9 (.slice (some ⟨W.heap.size, 0, none⟩) 1 1)).run Try.prog (W.alloc (.cells #[.int .u8 v] 5)).drew = .ok (.string ⟨#[UInt8.ofNat v.toNat]⟩) (W.alloc (.cells #[.int .u8 v] 5)).drew := by
  rw [run_convert_bytes_string _ _ _ 5 _ _ _ Try.underlying48 Try.underlying5 Try.underlying9, run_bytesToString _ _ _ _ [v]]
  · rfl
  · have hc : (W.alloc (.cells #[.int .u8 v] 5)).drew.cell? ⟨W.heap.size, 0, none⟩ = some (.int .u8 v) := by
      show (W.alloc (.cells #[.int .u8 v] 5)).cell? ⟨W.heap.size, 0, none⟩ = _
      rw [cell_of_row _ _ _ _ _ _ (heap_alloc_new W _)]; rfl
    simp [loadCells, go_sem, hc]
set_option maxHeartbeats 3200000 in
theorem FormulaPure_w (n k : Int) (w : World) : Calls Try.prog 10 #[.int .i64 n, .int .i64 k] w fun r w' => r = .returned (.bool true) ∧ Ext w w' := by
  by_cases hin : 2 ≤ n ∧ n ≤ 8 ∧ 1 ≤ k ∧ k ≤ n
  · obtain ⟨h1, h2, h3, h4⟩ := hin
    obtain ⟨N, rfl⟩ : ∃ N : Nat, n = (N : Int) := ⟨n.toNat, by omega⟩
    obtain ⟨K, rfl⟩ : ∃ K : Nat, k = (K : Int) := ⟨k.toNat, by omega⟩
    have HPC := Lib.hid (pure_cls (n := N) (k := K) (by omega) (by omega) (by omega) (by omega))
    have hconv := conv_drew
    have hNK : decide (N < K) = false := by simp; omega
    go_enter Try.func10, Try.ntmps10
    go_wp2
    obtain ⟨b1, hx0⟩ := box1 w #[.int .i64 (K : Int), .string ⟨#[]⟩, .int .i64 0, .int .i64 0, .slice none 0 0] 28
    generalize (w.alloc (.cells #[.int .i64 (K : Int), .string ⟨#[]⟩, .int .i64 0, .int .i64 0, .slice none 0 0] 28)) = w1 at *
    go_loopw [6] (fun i wr => ∃ (j : Nat) (A : Option Addr) (c : Nat), j ≤ N ∧ i = .int .i64 j ∧ j ≤ c ∧ Blk wr w.heap.size 28 #[.int .i64 (K : Int), .string ⟨#[]⟩, .int .i64 0, .int .i64 0, .slice A j c] ∧ Hid (wr.ownsRow (w.heap.size + 1) 28 5 (.slice A j c) j (letc j)) ∧ Ext w wr) (fun i _ => N - (intOf i).toNat)
    case atStart => exact ⟨0, none, 0, by omega, rfl, by omega, b1, ⟨rfl, .inl ⟨rfl, rfl⟩⟩, hx0⟩
    case round =>
      obtain ⟨j, A, c, hj, rfl, hjc, hb, HO, hx⟩ := hrel
      have hbl := hb.lt
      have hszr := hx.size
      by_cases hlt : j < N
      · obtain ⟨e0, e1, e2, e3, e4⟩ := hb.c5
        have f4 := hb.frozen 4
        have hw1 : IntKind.i64.wrap (97 + (j : Int)) = 97 + (j : Int) := IntWalk.i64_in _ (by omega)
        have hw2 : IntKind.u8.wrap (97 + (j : Int)) = 97 + (j : Int) := IntWalk.u8_in _ (by omega)
        go_wp2_with fail
        have n0 : w.heap.size < wr.heap.size := hbl
        have n1 : some w.heap.size ≠ (Value.slice A j c).ownBlock := fun e => by have := (HO.out.lt _ e.symm).1; omega
        have HB := Lib.hid hb
        have x1 : ((wr.alloc (.cells #[.int .u8 (97 + (j : Int))] 5)).drew).cell? ⟨w.heap.size, 4, none⟩ = some (.slice A j c) := (hb.alloc _).cell 4
        have hconv1 := hconv wr (97 + (j : Int))
        clear hconv
        go_region_law
          (first
            | (refine step_append_sits _ (by rfl) (.tmp 32) (.tmp 39) _ (by rfl) (w.heap.size + 1) 28 5 64 _ Try.underlying26 ex_info rfl (by omega) _ _ _ (by rfl) (HO2.out.alloc _) _ _ _ (atcs [UInt8.ofNat (97 + (j : Int)).toNat]) (by rfl) (by rfl) (Sits.new _ _ _) (by intro u hu; simp only [atcs, List.mem_cons, List.not_mem_nil, or_false] at hu; rcases hu with rfl | rfl | rfl | rfl | rfl <;> rfl) (by simp only [maxLen]; omega) (by omega) (by simp; omega) ?_; intro v3 w3 hown3 hb3 hg3; obtain ⟨A3, c3, rfl, hc3, _⟩ := own_form hown3; have hb4 := hg3.blk (HB2.out.alloc _) n1; have e43 : w3.cell? ⟨w.heap.size, 4, none⟩ = some (.slice A j c) := hb4.cell 4; have f43 := hb4.frozen 4)
            | (go_simp; go_at_call 29; refine (clusterlockslaw08.atom_c [UInt8.ofNat (97 + (j : Int)).toNat] _).mono ?_; rintro r w2 ⟨rfl, hx1⟩; have hxe : Ext wr w2 := Ext.tr (Below.drew (Ext.new _ _)) hx1; have HO2 := Lib.hid (own_ext HO.out hxe); have HB2 := Lib.hid (HB.out.ext hxe); have e42 : w2.cell? ⟨w.heap.size, 4, none⟩ = some (.slice A j c) := HB2.out.cell 4; have hz2 := hxe.size; have n2 : w.heap.size ≠ w2.heap.size := (by omega); have e42' : (w2.alloc (.cells #[.int .i64 0, .string ⟨#[UInt8.ofNat (97 + (j : Int)).toNat]⟩, .int .i64 3, .int .i64 0, .slice none 0 0] 28)).cell? ⟨w.heap.size, 4, none⟩ = some (.slice A j c) := (HB2.out.alloc _).cell 4))
        all_goals
          have hb5 := hb4.set 4 (.slice A3 (j + 1) c3)
          have hx5 : Ext w (w3.setCell ⟨w.heap.size, 4, none⟩ (.slice A3 (j + 1) c3)) := (((Ext.tr hx hxe).alloc (by omega) _).trans (hb3.mono (by omega))).setCell (p := ⟨w.heap.size, 4, none⟩) (Nat.le_refl _) _
          have ho5 : (w3.setCell ⟨w.heap.size, 4, none⟩ (.slice A3 (j + 1) c3)).ownsRow (w.heap.size + 1) 28 5 (.slice A3 (j + 1) c3) (j + 1) (letc (j + 1)) := by
            rw [letc_succ, show 97 + j = (97 + (j : Int)).toNat by omega]
            exact own_only hown3 (Only.rf.set 4 _) (fun e => by have := (hown3.lt _ e).1; omega)
          have HO5 := Lib.hid ho5
          clear ho5 hown3 hb4 e43 f43
          go_wp2
          exact ⟨⟨j + 1, A3, c3, by omega, by go_num, hc3, by simpa using hb5, HO5, hx5⟩, by simp [intOf]; omega⟩
      · obtain rfl : j = N := by omega
        have hRd := rd_pure wr j K A c (by omega) hjc (Sits.of_own HO.out)
        have HRD := Lib.hid hRd
        have hcc := fun W B cs (h1 : Rd W B (pureE j K) cs) (h2 : B ≤ W.heap.size) => formula.Class_c (pureE j K) W B cs h1 h2
        rw [HPC.out] at hcc
        have HCC := Lib.hid hcc
        clear hcc hRd hconv
        have hk : (K = j ∧ pureW j K = 2) ∨ (K ≠ j ∧ K = 1 ∧ pureW j K = 3) ∨ (K ≠ j ∧ K ≠ 1 ∧ pureW j K = 4) := by
          unfold pureW
          by_cases e1 : K = j
          · exact .inl ⟨e1, by rw [if_pos e1]⟩
          · by_cases e2 : K = 1
            · exact .inr (.inl ⟨e1, e2, by rw [if_neg e1, if_pos e2]⟩)
            · exact .inr (.inr ⟨e1, e2, by rw [if_neg e1, if_neg e2]⟩)
        rcases hk with ⟨k1, k2⟩ | ⟨k1, k2, k3⟩ | ⟨k1, k2, k3⟩
        · skip
          have z1 : ((K : Int) == (j : Int)) = true := by simp [k1]
          clear k1
          go_wp2_with (first
            | (go_at_call 15; (with_reducible refine (awake8_c _).mono ?_); rintro r w2 ⟨rfl, hxa⟩; obtain ⟨e0, e1, e2, e3, e4⟩ := (hb.ext hxa).c5; have hza := hxa.size)
            | (go_at_call 27; (with_reducible refine (HCC.out _ wr.heap.size _ (HRD.out.ext hxa (Nat.le_refl _)) (by omega)).mono ?_); rintro r w4 ⟨rfl, hx4⟩))
          go_ret
          exact ⟨rfl, hx.tr (hxa.tr hx4)⟩
        · skip
          have z1 : ((K : Int) == (j : Int)) = false := beq_eq_false_iff_ne.2 (by omega)
          have z2 : ((K : Int) == 1) = true := by simp [k2]
          clear k1 k2
          go_wp2_with (first
            | (go_at_call 15; (with_reducible refine (awake8_c _).mono ?_); rintro r w2 ⟨rfl, hxa⟩; obtain ⟨e0, e1, e2, e3, e4⟩ := (hb.ext hxa).c5; have hza := hxa.size)
            | (go_at_call 27; (with_reducible refine (HCC.out _ wr.heap.size _ (HRD.out.ext hxa (Nat.le_refl _)) (by omega)).mono ?_); rintro r w4 ⟨rfl, hx4⟩))
          go_ret
          exact ⟨rfl, hx.tr (hxa.tr hx4)⟩
        · skip
          have z1 : ((K : Int) == (j : Int)) = false := beq_eq_false_iff_ne.2 (by omega)
          have z2 : ((K : Int) == 1) = false := beq_eq_false_iff_ne.2 (by omega)
          clear k1 k2
          go_wp2_with (first
            | (go_at_call 15; (with_reducible refine (awake8_c _).mono ?_); rintro r w2 ⟨rfl, hxa⟩; obtain ⟨e0, e1, e2, e3, e4⟩ := (hb.ext hxa).c5; have hza := hxa.size)
            | (go_at_call 27; (with_reducible refine (HCC.out _ wr.heap.size _ (HRD.out.ext hxa (Nat.le_refl _)) (by omega)).mono ?_); rintro r w4 ⟨rfl, hx4⟩))
          go_ret
          exact ⟨rfl, hx.tr (hxa.tr hx4)⟩
  · have h2 : n < 2 ∨ (2 ≤ n ∧ 8 < n) ∨ (2 ≤ n ∧ n ≤ 8 ∧ k < 1) ∨ (2 ≤ n ∧ n ≤ 8 ∧ 1 ≤ k ∧ n < k) := by omega
    clear hin
    rcases h2 with h1 | ⟨h1, h2⟩ | ⟨h1, h2, h3⟩ | ⟨h1, h2, h3, h4⟩
    all_goals
      go_enter Try.func10, Try.ntmps10
      go_wp2_with (go_at_call 15; (with_reducible refine (awake8_c _).mono ?_); rintro r w2 ⟨rfl, hxa⟩)
      go_ret
      exact ⟨rfl, hxa⟩
end Go.Proofs.Ytmboojbhnmdnkaa
