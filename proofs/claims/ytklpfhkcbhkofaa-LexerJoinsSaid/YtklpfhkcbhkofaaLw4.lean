
/- The walks of the lexer, fourth part: numbers; scan as a whole. -/
import Derived.Test.YtklpfhkcbhkofaaLw3
namespace Go.Proofs.Ytklpfhkcbhkofaa
open Go.RowKit
theorem val_step {l : List UInt8} {k : Nat} (h : k < l.length) : CL.val (l.take (k + 1)) = 10 * CL.val (l.take k) + ((l[k].toNat : Int) - 48) := by
  unfold CL.val
  rw [List.take_succ_eq_append_getElem h, List.foldl_append]; rfl
theorem val_bd {l : List UInt8} (hd : ∀ k, (h : k < l.length) → CL.at8 CL.dig l[k] = true) (k : Nat) (hk : k ≤ l.length) : 0 ≤ CL.val (l.take k) ∧ CL.val (l.take k) < 10 ^ k := by
  induction k with
  | zero => simp [CL.val]
  | succ k ih =>
    have h1 := ih (by omega)
    have h2 := hd k (by omega)
    simp only [CL.at8, CL.dig, decide_eq_true_eq] at h2
    rw [val_step (by omega), Int.pow_succ]
    omega
theorem span_all {p : Int → Bool} {r : List UInt8} (k : Nat) (h : k < (r.take (CL.spanN p r)).length) : CL.at8 p (r.take (CL.spanN p r))[k] = true := by
  have e : r.take (CL.spanN p r) = r.takeWhile (CL.at8 p) := by
    unfold CL.spanN
    exact (List.prefix_iff_eq_take.1 (List.takeWhile_prefix _)).symm
  have h2 : ∀ x ∈ r.takeWhile (CL.at8 p), CL.at8 p x = true := by
    intro x hx
    have := List.all_takeWhile (p := CL.at8 p) (l := r)
    exact (List.all_eq_true.1 this) x hx
  exact h2 _ (by rw [← e]; exact List.getElem_mem _)
set_option maxRecDepth 100000 in
set_option maxHeartbeats 1600000 in
theorem scan_num (B b : Nat) (t : TypeId) (s : List UInt8) (j : Nat) (tv : Value) (acc : List CL.Tk) (w : World) (hs : s.length ≤ 1024) (hj : j < s.length) (ht : t ≠ 32) (hB : B ≤ b) (hb : Blk w b t (cur s j [tv]))
    (hown : w.ownsRow B 32 4 tv acc.length (tks acc)) (ha : acc.length ≤ s.length) (hc0 : CL.at8 CL.ltr s[j] = false) (hc1 : CL.at8 CL.cap s[j] = false) (hc : CL.at8 CL.dig s[j] = true) :
    Calls Try.prog 18 #[.pointer (some ⟨b, 0, none⟩)] w (ScanPost B b t s j acc w) := by
  have h0 : w.cell? ⟨b, 0, none⟩ = some (.string ⟨s.toArray⟩) := hb.cell 0
  have h1 : w.cell? ⟨b, 1, none⟩ = some (.int .i64 j) := hb.cell 1
  have hlt := hb.lt
  have hne : b ≠ w.heap.size := by omega
  have hBw : B ≤ w.heap.size := by omega
  have hlt' : tv.ownBlock ≠ some w.heap.size := fun e => by have := (hown.lt _ e).2; omega
  have c0 : CL.ltr (((⟨s.toArray⟩ : ByteArray)[j]'hj).toNat : Int) = false := hc0
  have c1 : CL.cap (((⟨s.toArray⟩ : ByteArray)[j]'hj).toNat : Int) = false := hc1
  have c2 : CL.dig (((⟨s.toArray⟩ : ByteArray)[j]'hj).toNat : Int) = true := hc
  have HO := Lib.hid (CL.one_num (i := j) hj hc0 hc1 hc)
  have HD := Lib.hid (span_all (p := CL.dig) (r := s.drop j))
  go_enter Try.func18, Try.ntmps18
  go_wp2
  go_quiet (fail)
  go_wp2_with (first
    | (go_at_call 22; refine (letter_c _ _).mono ?_; rintro e w' ⟨rfl, rfl⟩)
    | (go_at_call 26; refine (digit_c _ _).mono ?_; rintro e w' ⟨rfl, rfl⟩)
    | (go_at_call 24; refine (capital_c _ _).mono ?_; rintro e w' ⟨rfl, rfl⟩))
  refine (run_digit b t s j [tv] _ (by unfold maxLen; omega) (by omega) ((hb.alloc _).drewN _)).mono ?_
  rintro e w1 ⟨rfl, hb1, ho1⟩
  have hT' : Blk w1 w.heap.size 32 #[.int .i64 0, .string ⟨#[]⟩, .int .i64 0, .int .i64 j] := Blk.only ((Blk.new w _ _).drewN _) ho1 (by omega)
  have hown1 := own_only (own_drewN (hown.alloc _) _) ho1 (own_ne hown hb (Ne.symm ht))
  have hbel : Below B w w1 := below_only (below_drewN ((Below.refl B w).alloc (by omega) _) _) ho1 hB (by simp; omega)
  have e0 : w1.cell? ⟨b, 0, none⟩ = some (.string ⟨s.toArray⟩) := hb1.cell 0
  have e2 : w1.cell? ⟨b, 2, none⟩ = some tv := hb1.cell 2
  have f2 := hb1.frozen 2
  have t0 : w1.cell? ⟨w.heap.size, 0, none⟩ = some (.int .i64 0) := hT'.cell 0
  have t1 : w1.cell? ⟨w.heap.size, 1, none⟩ = some (.string ⟨#[]⟩) := hT'.cell 1
  have t2 : w1.cell? ⟨w.heap.size, 2, none⟩ = some (.int .i64 0) := hT'.cell 2
  have t3 : w1.cell? ⟨w.heap.size, 3, none⟩ = some (.int .i64 j) := hT'.cell 3
  have u0 := hT'.frozen 0
  have u1 := hT'.frozen 1
  have u2 := hT'.frozen 2
  clear h0 h1 hb hown ho1
  have hnl := CL.spanN_le CL.dig (s.drop j)
  generalize hn : CL.spanN CL.dig (s.drop j) = n at *
  have HN := Lib.hid hn
  clear hn
  simp only [List.length_drop] at hnl
  have hwl : ((s.drop j).take n).length = n := by simp; omega
  generalize hwd : (s.drop j).take n = wd at *
  have HW := Lib.hid hwd
  clear hwd
  have hz : ((((⟨s.toArray⟩ : ByteArray)[j]'hj).toNat : Int) == 48) = decide (s[j] = 48) := by
    rw [Bool.eq_iff_iff]; simp only [beq_iff_eq, decide_eq_true_eq]
    exact ⟨fun h => UInt8.toNat_inj.1 (by have : s[j].toNat = 48 := by exact_mod_cast h
                                          simpa using this), fun h => by show ((s[j]).toNat : Int) = 48; rw [h]; rfl⟩
  have s2 : w.heap.size < w1.heap.size := hT'.lt
  by_cases hlen : 4 < wd.length ∨ (1 < wd.length ∧ s[j] = 48)
  · replace HO := Lib.hid (HO.out.trans (if_pos (by rw [← hwl]; exact hlen)))
    clear HD HN HW
    by_cases h4 : 4 < wd.length
    · clear hz hlen
      go_wp2
      go_ret
      exact scan_bad (by decide) HO.out hbel
    · have h1 : 1 < wd.length := by rcases hlen with h | h; exact absurd h h4; exact h.1
      have hz1 : ((((⟨s.toArray⟩ : ByteArray)[j]'hj).toNat : Int) == 48) = true := by
        rw [hz]; rcases hlen with h | h; exact absurd h h4; simp [h.2]
      clear hz hlen
      go_wp2
      go_ret
      exact scan_bad (by decide) HO.out hbel
  · replace HO := Lib.hid (HO.out.trans (if_neg (by rw [← hwl]; exact hlen)))
    have hl4 : wd.length ≤ 4 := by omega
    have hT2 := hT'.set 0 (.int .i64 3)
    have ho2 : Only w.heap.size w1 (w1.setCell ⟨w.heap.size, 0, none⟩ (.int .i64 3)) := Only.rf.set 0 _
    have hb2 := hb1.only ho2 hne
    have hown2 := own_only hown1 ho2 hlt'
    have hbel2 := below_only hbel ho2 hBw (Nat.le_trans hBw hbel.size)
    have HV : ∀ k, k ≤ wd.length → 0 ≤ CL.val (wd.take k) ∧ CL.val (wd.take k) < 10 ^ k := by
      intro k hk
      exact val_bd HD.out k hk
    have HV := Lib.hid HV
    have HD2 : ∀ k, (h : k < wd.length) → CL.at8 CL.dig wd[k] = true := HD.out
    have HD2 := Lib.hid HD2
    clear hT' hown1 hbel ho2 HD
    have hg1 : wd.length ≤ 1 ∨ (1 < wd.length ∧ ((((⟨s.toArray⟩ : ByteArray)[j]'hj).toNat : Int) == 48) = false) := by
      rcases Nat.lt_or_ge 1 wd.length with h | h
      · exact .inr ⟨h, by rw [hz]; simp; intro h'; exact hlen (.inr ⟨h, h'⟩)⟩
      · exact .inl h
    clear hz hlen
    rcases hg1 with hg1 | ⟨hg0, hg1⟩
    all_goals
      go_wp2
      generalize w1.setCell ⟨w.heap.size, 0, none⟩ (.int .i64 3) = w2 at *
      clear e0 e2 f2 t0 t1 t2 t3 u0 u1 u2 hb1
      go_loopw [80] (fun i wr => ∃ k : Nat, k ≤ wd.length ∧ i = .int .i64 k ∧ Blk wr w.heap.size 32 #[.int .i64 3, .string ⟨#[]⟩, .int .i64 (CL.val (wd.take k)), .int .i64 j] ∧ Only w.heap.size w2 wr) (fun i _ => wd.length - (intOf i).toNat)
      case atStart => exact ⟨0, by omega, rfl, hT2, Only.rf⟩
      case round =>
        obtain ⟨k, hk, rfl, hTk, hok⟩ := hrel
        obtain ⟨wo, rfl⟩ : ∃ wo : World, wo = wr := ⟨_, rfl⟩
        by_cases hlt2 : k < wd.length
        · have x2 : wo.cell? ⟨w.heap.size, 2, none⟩ = some (.int .i64 (CL.val (wd.take k))) := hTk.cell 2
          have y2 := hTk.frozen 2
          have HS := Lib.hid (val_step hlt2)
          have hv1 := (HV.out k hk).1
          have hv2 : CL.val (wd.take k) < 1000 := by
            have := (HV.out k hk).2
            have hk3 : k ≤ 3 := by omega
            have : (10 : Int) ^ k ≤ 10 ^ 3 := by
              rcases (show k = 0 ∨ k = 1 ∨ k = 2 ∨ k = 3 by omega) with rfl | rfl | rfl | rfl <;> decide
            omega
          have hd := HD2.out k hlt2
          simp only [CL.at8, CL.dig, decide_eq_true_eq] at hd
          obtain ⟨hd1, hd2⟩ := hd
          generalize hv : CL.val (wd.take k) = v at *
          have HVV := Lib.hid hv
          clear hv
          have hcb : (((⟨wd.toArray⟩ : ByteArray)[k]'hlt2).toNat : Int) = (wd[k].toNat : Int) := rfl
          have g1 : IntKind.u8.wrap ((((⟨wd.toArray⟩ : ByteArray)[k]'hlt2).toNat : Int) - 48) = (((⟨wd.toArray⟩ : ByteArray)[k]'hlt2).toNat : Int) - 48 := IntWalk.u8_in _ (by rw [hcb]; omega)
          have g2 : IntKind.i64.wrap (10 * v) = 10 * v := IntWalk.i64_in _ (by omega)
          have g3 : IntKind.i64.wrap (10 * v + ((((⟨wd.toArray⟩ : ByteArray)[k]'hlt2).toNat : Int) - 48)) = 10 * v + ((((⟨wd.toArray⟩ : ByteArray)[k]'hlt2).toNat : Int) - 48) := IntWalk.i64_in _ (by rw [hcb]; omega)
          have g4 : IntKind.i64.wrap ((((⟨wd.toArray⟩ : ByteArray)[k]'hlt2).toNat : Int) - 48) = (((⟨wd.toArray⟩ : ByteArray)[k]'hlt2).toNat : Int) - 48 := IntWalk.i64_in _ (by rw [hcb]; omega)
          clear hcb
          go_wp2
          go_region
          go_wp2
          refine ⟨⟨k + 1, by omega, by go_num, ?_, ?_⟩, by simp [intOf]; omega⟩
          · rw [HS.out]; exact hTk.set 2 _
          · exact Only.drew (hok.set 2 _)
        · have hT3 : Blk wo w.heap.size 32 #[.int .i64 3, .string ⟨#[]⟩, .int .i64 (CL.val wd), .int .i64 j] := by
            rw [show CL.val wd = CL.val (wd.take k) by rw [List.take_of_length_le (by omega)]]; exact hTk
          have hb3 := hb2.only hok hne
          have hown3 := own_only hown2 hok hlt'
          have hbel3 := below_only hbel2 hok hBw (Nat.le_trans hBw hbel2.size)
          clear hT2 hTk hb2 hown2 hbel2 hok
          have hT2 := hT3
          have hb2 := hb3
          have hown2 := hown3
          have hbel2 := hbel3
          have s3 := hT3.lt
          clear hT3 hb3 hown3 hbel3
          go_wp2
          have e2 : wo.cell? ⟨b, 2, none⟩ = some tv := hb2.cell 2
          have f2 := hb2.frozen 2
          have x2 : (wo.alloc (.cells #[.int .i64 3, .string ⟨#[]⟩, .int .i64 (CL.val wd), .int .i64 j] 32)).cell? ⟨b, 2, none⟩ = some tv := (hb2.alloc _).cell 2
          have t0 : wo.cell? ⟨w.heap.size, 0, none⟩ = some (.int .i64 3) := hT2.cell 0
          have t1 : wo.cell? ⟨w.heap.size, 1, none⟩ = some (.string ⟨#[]⟩) := hT2.cell 1
          have t2 : wo.cell? ⟨w.heap.size, 2, none⟩ = some (.int .i64 (CL.val wd)) := hT2.cell 2
          have t3 : wo.cell? ⟨w.heap.size, 3, none⟩ = some (.int .i64 j) := hT2.cell 3
          have n1 : some b ≠ tv.ownBlock := Ne.symm (own_ne hown2 hb2 (Ne.symm ht))
          have n2 : some w.heap.size ≠ tv.ownBlock := Ne.symm hlt'
          have hne2 : b ≠ wo.heap.size := by have := hb2.lt; omega
          go_region_law
            ((refine step_append_sits _ (by rfl) _ _ _ (by rfl) B 32 4 40 _ Try.underlying22 tok_info rfl (by omega) tv acc.length (tks acc) (by rfl) ((hown2.alloc _).drew) _ _ _ [.int .i64 3, .string ⟨#[]⟩, .int .i64 (CL.val wd), .int .i64 j] (by rfl) (by rfl) (Sits.drew (Sits.new _ _ _)) (by simp [Value.oneCell']) (by simp only [maxLen]; omega) (by omega) (by simp; omega) ?_; intro v3 w3 hown3 hb3 hg3; obtain ⟨A3, c3, rfl, hc3, hc4⟩ := own_form hown3; have e3 : w3.cell? ⟨b, 2, none⟩ = some tv := hg3.cell ((hb2.alloc _).cell 2) n1; have f3 : w3.frozen? ⟨b, 2, none⟩ = false := hg3.frozenB ((hb2.alloc _)) n1 2))
          all_goals (go_wp2; go_ret; exact scan_good HO.out (scan_end (tok := ⟨3, [], (CL.val wd), j⟩) hB ht (by omega) hbel2 hb2 n1 hg3 hb3 hown3))
theorem scan_c (B b : Nat) (t : TypeId) (s : List UInt8) (j : Nat) (tv : Value) (acc : List CL.Tk) (w : World) (hs : s.length ≤ 1024) (hj : j < s.length) (ht : t ≠ 32) (hB : B ≤ b) (hb : Blk w b t (cur s j [tv]))
    (hown : w.ownsRow B 32 4 tv acc.length (tks acc)) (ha : acc.length ≤ s.length) :
    Calls Try.prog 18 #[.pointer (some ⟨b, 0, none⟩)] w (ScanPost B b t s j acc w) := by
  by_cases h0 : CL.at8 CL.ltr s[j] = true
  · exact scan_word B b t s j tv acc w hs hj ht hB hb hown ha h0
  · simp only [Bool.not_eq_true] at h0
    by_cases h1 : CL.at8 CL.cap s[j] = true
    · exact scan_mode B b t s j tv acc w hs hj ht hB hb hown ha h0 h1
    · simp only [Bool.not_eq_true] at h1
      by_cases h2 : CL.at8 CL.dig s[j] = true
      · exact scan_num B b t s j tv acc w hs hj ht hB hb hown ha h0 h1 h2
      · simp only [Bool.not_eq_true] at h2
        by_cases h3 : CL.at8 CL.pun s[j] = true
        · exact scan_punt B b t s j tv acc w hs hj ht hB hb hown ha h0 h1 h2 h3
        · exact scan_punf B b t s j tv acc w hj hB hb h0 h1 h2 h3
end Go.Proofs.Ytklpfhkcbhkofaa
