
/- The walk of the reference's Decimal, for numbers below 10000 (a region that draws its order, makes memory and calls: by Rl). -/
import Derived.Test.YtlfnpkjfnafeaaaDoorZ2
import Derived.Test.YtlfnpkjfnafeaaaDoorZ6
import Derived.Test.YtlfnpkjfnafeaaaDoorZ3
namespace Go.Proofs.YtlfnpkjfnafeaaaDoor
open Go.RowKit
set_option linter.unusedVariables false
set_option linter.unusedSimpArgs false
set_option maxRecDepth 100000
theorem conv_blk {P : Program} (src dst e : TypeId) (hs : P.underlying src = some (.slice e)) (he : P.underlying e = some (.int .u8)) (hd : P.underlying dst = some .string) (W : World) (g : Nat) (v : Int) (hb : Blk W g e #[.int .u8 v]) :
    (convert src dst (.slice (some ⟨g, 0, none⟩) 1 1)).run P W = .ok (.string ⟨#[UInt8.ofNat v.toNat]⟩) W := by
  rw [run_convert_bytes_string _ _ _ e _ _ _ hs he hd, run_bytesToString _ _ _ _ [v]]
  · rfl
  · have hc : W.cell? ⟨g, 0, none⟩ = some (.int .u8 v) := hb.cell 0
    simp [loadCells, go_sem, hc]
theorem dg_step' {k : Nat} (h1 : 10 ≤ k) (h2 : k ≤ 9999) : CL.digits k = CL.digits (k / 10) ++ [UInt8.ofNat (48 + k % 10)] := by
  have e1 : CL.digits k = CL.D 6 k := by unfold CL.digits; rw [if_neg (by omega)]
  have e2 : CL.digits (k / 10) = CL.D 5 (k / 10) := by
    have : ∀ i : Nat, i < 1000 → i ≠ 0 → CL.digits i = CL.D 5 i := by decide +kernel
    exact this _ (by omega) (by omega)
  rw [e1, e2]
  simp only [CL.D]
  rw [if_neg (by omega)]
set_option maxHeartbeats 1600000 in
theorem clusterlocksref02.Decimal_n : ∀ (f k : Nat) (w : World), k < 10 ^ f → f ≤ 4 → Calls Tryd.prog 49 #[.int .i64 (k : Int)] w fun e w' => e = .returned (.string ⟨(CL.digits k).toArray⟩) ∧ Ext w w' := by
  intro f
  induction f with
  | zero =>
    intro k w hk _
    obtain rfl : k = 0 := by simpa using hk
    exact Decimal_d 0 (by omega) (by omega) w
  | succ f ih =>
    intro k w hk hf
    by_cases h9 : k ≤ 9
    · have h := Decimal_d (k : Int) (by omega) (by omega) w
      have e : ∀ i : Nat, i < 10 → CL.dg1 (i : Int) = CL.digits i := by decide +kernel
      rwa [e k (by omega)] at h
    · have hp : 10 ^ (f + 1) ≤ 10000 := by
        have := Nat.pow_le_pow_right (n := 10) (by omega) hf
        simpa using this
      have hk2 : k / 10 < 10 ^ f := by rw [Nat.pow_succ] at hk; omega
      have HI : ∀ w', Calls Tryd.prog 49 #[.int .i64 ((k : Int) / 10)] w' fun e w'' => e = .returned (.string ⟨(CL.digits (k / 10)).toArray⟩) ∧ Ext w' w'' := fun w' => ih (k / 10) w' hk2 (by omega)
      have hs := Lib.hid (dg_step' (k := k) (by omega) (by omega))
      have hlt : decide ((k : Int) < 10) = false := by simp; omega
      have hq : IntKind.i64.wrap ((k : Int) / 10) = (k : Int) / 10 := IntWalk.i64_in _ (by omega)
      have hm : IntKind.i64.wrap ((k : Int) % 10) = (k : Int) % 10 := IntWalk.i64_in _ (by omega)
      have ha : IntKind.i64.wrap (48 + (k : Int) % 10) = 48 + (k : Int) % 10 := IntWalk.i64_in _ (by omega)
      have hb : IntKind.u8.wrap (48 + (k : Int) % 10) = 48 + (k : Int) % 10 := by
        have e : ∀ i : Nat, i < 10 → IntKind.u8.wrap (48 + (i : Int)) = 48 + (i : Int) := by decide +kernel
        exact e (k % 10) (by omega)
      have hbt : UInt8.ofNat (48 + (k : Int) % 10).toNat = UInt8.ofNat (48 + k % 10) := by congr 1
      have ht : Int.tmod (k : Int) 10 = (k : Int) % 10 := Int.tmod_eq_emod_of_nonneg (by omega)
      generalize UInt8.ofNat (48 + k % 10) = bt at *
      have hl6 : (CL.digits (k / 10)).length ≤ 6 := by
        unfold CL.digits
        split
        · simp
        · exact CL.D_len 6 _
      have hnl : ¬ (9223372036854775807 < (CL.digits (k / 10)).length + 1) := by omega
      have hap : (⟨(CL.digits (k / 10)).toArray⟩ : ByteArray) ++ ⟨#[bt]⟩ = ⟨(CL.digits (k / 10) ++ [bt]).toArray⟩ := bytes_append _ [bt]
      have hcv := fun W g (hb : Blk W g 5 #[.int .u8 (48 + (k : Int) % 10)]) => conv_blk (P := Tryd.prog) 80 9 5 Tryd.underlying80 Tryd.underlying5 Tryd.underlying9 W g _ hb
      go_enter Tryd.func49, Tryd.ntmps49
      go_wp2_with fail
      refine Rl.wp_region_rel (fun _ => False) (fun _ h => h.elim) (by kernel_rfl) (by kernel_rfl) (by kernel_rfl) ?_
      refine Rl.RelW.quiet (fun _ => .int .i64 (k : Int)) [] [] rfl rfl (fun _ _ _ => rfl) (by simp) (by simp) ?_ ?_
      · intro xs Ss wr hC hH
        simp [Rl.outAt, Rl.outR, go_sem, True]
      (conv => arg 8; simp only [List.nil_append, List.cons_append]); (conv => arg 9; intro xs; simp [Act.put])
      refine Rl.RelW.quiet (fun _ => .int .i64 ((k : Int) / 10)) [] [] rfl rfl (fun _ _ _ => rfl) (by simp) (by simp) ?_ ?_
      · intro xs Ss wr hC hH
        simp [Rl.outAt, Rl.outR, go_sem, hq]
      (conv => arg 8; simp only [List.nil_append, List.cons_append]); (conv => arg 9; intro xs; simp [Act.put])
      refine Rl.RelW.callX (fun _ => .string ⟨(CL.digits (k / 10)).toArray⟩) [] [] rfl rfl (fun _ _ _ => rfl) (by simp) (by simp) ?_ ?_
      · intro xs Ss wr hC hH
        refine Rl.out_of_calls (f := 49) (args := #[.int .i64 ((k : Int) / 10)]) (by simp [go_sem]) ((HI wr).mono ?_)
        rintro r w2 ⟨rfl, hx⟩
        exact ⟨_, rfl, rfl, hx⟩
      (conv => arg 8; simp only [List.nil_append, List.cons_append]); (conv => arg 9; intro xs; simp [Act.put])
      refine Rl.RelW.quiet (fun _ => .int .i64 (k : Int)) [] [] rfl rfl (fun _ _ _ => rfl) (by simp) (by simp) ?_ ?_
      · intro xs Ss wr hC hH
        simp [Rl.outAt, Rl.outR, go_sem, True]
      (conv => arg 8; simp only [List.nil_append, List.cons_append]); (conv => arg 9; intro xs; simp [Act.put])
      refine Rl.RelW.quiet (fun _ => .int .i64 ((k : Int) % 10)) [] [] rfl rfl (fun _ _ _ => rfl) (by simp) (by simp) ?_ ?_
      · intro xs Ss wr hC hH
        simp [Rl.outAt, Rl.outR, go_sem, hm, ht]
      (conv => arg 8; simp only [List.nil_append, List.cons_append]); (conv => arg 9; intro xs; simp [Act.put])
      refine Rl.RelW.quiet (fun _ => .int .i64 (48 + (k : Int) % 10)) [] [] rfl rfl (fun _ _ _ => rfl) (by simp) (by simp) ?_ ?_
      · intro xs Ss wr hC hH
        simp [Rl.outAt, Rl.outR, go_sem, ha]
      (conv => arg 8; simp only [List.nil_append, List.cons_append]); (conv => arg 9; intro xs; simp [Act.put])
      refine Rl.RelW.quiet (fun _ => .int .u8 (48 + (k : Int) % 10)) [] [] rfl rfl (fun _ _ _ => rfl) (by simp) (by simp) ?_ ?_
      · intro xs Ss wr hC hH
        simp [Rl.outAt, Rl.outR, go_sem, hb]
      (conv => arg 8; simp only [List.nil_append, List.cons_append]); (conv => arg 9; intro xs; simp [Act.put])
      refine Rl.RelW.box (fun g => .slice (some ⟨g, 0, none⟩) 1 1) 5 (fun _ => #[.int .u8 (48 + (k : Int) % 10)]) [] [] rfl rfl (by simp) (by simp) (fun _ _ _ => rfl) ?_ ?_
      · intro xs Ss wr hC hH
        simp [Rl.outAt, Rl.outR, go_sem]
      (conv => arg 8; simp only [List.nil_append, List.cons_append]); (conv => arg 9; intro xs; simp [Act.put])
      refine Rl.RelW.quiet (fun _ => .string ⟨#[bt]⟩) [] [7] rfl rfl (fun _ _ _ => rfl) (by simp) (by simp) ?_ ?_
      · intro xs Ss wr hC hH
        obtain ⟨⟨g, hg, hbl, _⟩, _⟩ := hH.get (i := 7) (by simp) rfl
        have hc := hcv wr g hbl
        rw [hbt] at hc
        simp [Rl.outAt, Rl.outR, go_sem, hg, hc]
      (conv => arg 8; simp only [List.nil_append, List.cons_append]); (conv => arg 9; intro xs; simp [Act.put])
      refine Rl.RelW.quiet (fun _ => .string ⟨(CL.digits (k / 10) ++ [bt]).toArray⟩) [] [] rfl rfl (fun _ _ _ => rfl) (by simp) (by simp) ?_ ?_
      · intro xs Ss wr hC hH
        simp [Rl.outAt, Rl.outR, go_sem, hnl, hap]
      (conv => arg 8; simp only [List.nil_append, List.cons_append]); (conv => arg 9; intro xs; simp [Act.put])
      refine Rl.RelW.quiet (fun _ => .string ⟨(CL.digits (k / 10) ++ [bt]).toArray⟩) [] [] rfl rfl (fun _ _ _ => rfl) (by simp) (by simp) ?_ ?_
      · intro xs Ss wr hC hH
        simp [Rl.outAt, Rl.outR, go_sem, hnl, hap]
      (conv => arg 8; simp only [List.nil_append, List.cons_append]); (conv => arg 9; intro xs; simp [Act.put])
      refine ⟨by kernel_rfl, ?_⟩
      intro xs Ss wr hC hF hD
      have hA := hC.ext (fun _ h => h)
      clear hF hD
      go_wp2
      go_ret
      exact ⟨by rw [hs.out]; rfl, hA⟩
theorem clusterlocksref02.Decimal_c (n : Int) (h1 : 0 ≤ n) (h2 : n ≤ 9999) (w : World) : Calls Tryd.prog 49 #[.int .i64 n] w fun e w' => e = .returned (.string ⟨(CL.digits n.toNat).toArray⟩) ∧ Ext w w' := by
  obtain ⟨k, rfl⟩ := Int.eq_ofNat_of_zero_le h1
  exact clusterlocksref02.Decimal_n 4 k w (by omega) (by omega)
end Go.Proofs.YtlfnpkjfnafeaaaDoor
