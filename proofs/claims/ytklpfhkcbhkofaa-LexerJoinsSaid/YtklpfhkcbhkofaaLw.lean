
/- The walks of the lexer: classes of bytes, the cursor. -/
import Derived.Test.YtklpfhkcbhkofaaMw2
import Derived.Test.YtklpfhkcbhkofaaBk
import Derived.Test.YtklpfhkcbhkofaaLx
namespace Go.Proofs.Ytklpfhkcbhkofaa
open Go.RowKit
theorem Space_c (n : Int) (w : World) : Calls Try.prog 13 #[.int .u8 n] w fun e w' => e = .returned (.bool (CL.spc n)) ∧ w = w' := by
  go_enter Try.func13, Try.ntmps13
  go_wp2
  all_goals (go_ret; refine ⟨ret_bool ?_, rfl⟩; go_tidy; simp_all [CL.spc])
theorem RSpace_c (n : Int) (w : World) : Calls Try.prog 14 #[.int .u8 n] w fun e w' => e = .returned (.bool (CL.spc n)) ∧ w = w' := by
  go_enter Try.func14, Try.ntmps14
  go_wp2
  all_goals (go_ret; refine ⟨ret_bool ?_, rfl⟩; go_tidy; simp_all [CL.spc])
theorem letter_c (n : Int) (w : World) : Calls Try.prog 22 #[.int .u8 n] w fun e w' => e = .returned (.bool (CL.ltr n)) ∧ w = w' := by
  go_enter Try.func22, Try.ntmps22
  go_wp2
  all_goals (go_ret; refine ⟨ret_bool ?_, rfl⟩; simp [CL.ltr]; try omega)
theorem capital_c (n : Int) (w : World) : Calls Try.prog 24 #[.int .u8 n] w fun e w' => e = .returned (.bool (CL.cap n)) ∧ w = w' := by
  go_enter Try.func24, Try.ntmps24
  go_wp2
  all_goals (go_ret; refine ⟨ret_bool ?_, rfl⟩; simp [CL.cap]; try omega)
theorem digit_c (n : Int) (w : World) : Calls Try.prog 26 #[.int .u8 n] w fun e w' => e = .returned (.bool (CL.dig n)) ∧ w = w' := by
  go_enter Try.func26, Try.ntmps26
  go_wp2
  all_goals (go_ret; refine ⟨ret_bool ?_, rfl⟩; simp [CL.dig]; try omega)
theorem inWord_c (n : Int) (w : World) : Calls Try.prog 23 #[.int .u8 n] w fun e w' => e = .returned (.bool (CL.prt n)) ∧ w = w' := by
  go_enter Try.func23, Try.ntmps23
  go_wp2_with (first
    | (go_at_call 22; refine (letter_c _ _).mono ?_; rintro e w' ⟨rfl, rfl⟩)
    | (go_at_call 26; refine (digit_c _ _).mono ?_; rintro e w' ⟨rfl, rfl⟩))
  all_goals (go_ret; refine ⟨ret_bool ?_, rfl⟩; go_tidy; simp_all [CL.prt])
theorem RLetter_c (n : Int) (w : World) : Calls Try.prog 19 #[.int .u8 n] w fun e w' => e = .returned (.bool (CL.ltr n)) ∧ w = w' := by
  go_enter Try.func19, Try.ntmps19
  go_wp2
  all_goals (go_ret; refine ⟨ret_bool ?_, rfl⟩; simp [CL.ltr]; try omega)
theorem RPart_c (n : Int) (w : World) : Calls Try.prog 20 #[.int .u8 n] w fun e w' => e = .returned (.bool (CL.prt n)) ∧ w = w' := by
  go_enter Try.func20, Try.ntmps20
  go_wp2_with (go_at_call 19; refine (RLetter_c _ _).mono ?_; rintro e w' ⟨rfl, rfl⟩)
  all_goals (go_ret; refine ⟨ret_bool ?_, rfl⟩; go_tidy; first | (simp_all [CL.prt, CL.dig]; done) | (simp_all [CL.prt, CL.dig]; grind))
/-- the cursor's cells -/
def cur (s : List UInt8) (j : Nat) (rest : List Value) : Array Value := (.string ⟨s.toArray⟩ :: .int .i64 j :: rest).toArray
theorem more_c (b : Nat) (t : TypeId) (s : List UInt8) (j : Nat) (rest : List Value) (w : World) (hb : Blk w b t (cur s j rest)) :
    Calls Try.prog 17 #[.pointer (some ⟨b, 0, none⟩)] w fun e w' => e = .returned (.bool (decide (j < s.length))) ∧ ∃ n, w' = w.drewN n := by
  have h0 : w.cell? ⟨b, 0, none⟩ = some (.string ⟨s.toArray⟩) := hb.cell 0
  have h1 : w.cell? ⟨b, 1, none⟩ = some (.int .i64 j) := hb.cell 1
  clear hb
  go_enter Try.func17, Try.ntmps17
  go_wp2
  go_quiet (fail)
  go_wp2
  go_ret
  exact ⟨rfl, _, rfl⟩
theorem more_f (b : Nat) (t : TypeId) (s : List UInt8) (j : Nat) (rest : List Value) (w : World) (h : ¬ j < s.length) (hb : Blk w b t (cur s j rest)) :
    Calls Try.prog 17 #[.pointer (some ⟨b, 0, none⟩)] w fun e w' => e = .returned (.bool false) ∧ ∃ n, w' = w.drewN n :=
  (more_c b t s j rest w hb).mono fun _ _ ⟨he, hn⟩ => ⟨by rw [he, decide_eq_false h], hn⟩
theorem cur_set {s : List UInt8} {k : Nat} {rest : List Value} : (cur s k rest).setIfInBounds 1 (.int .i64 ((k : Int) + 1)) = cur s (k + 1) rest := by simp [cur]
theorem all_step {p : Int → Bool} {s : List UInt8} {j k : Nat} (h : ∀ i, j ≤ i → i < k → (h' : i < s.length) → CL.at8 p s[i] = true) (hk : k < s.length) (hc : CL.at8 p s[k] = true) :
    ∀ i, j ≤ i → i < k + 1 → (h' : i < s.length) → CL.at8 p s[i] = true := by
  intro i h1 h2 h3
  by_cases e : i = k
  · subst e; exact hc
  · exact h i h1 (by omega) h3
set_option maxHeartbeats 400000 in
theorem run_Space (b : Nat) (t : TypeId) (s : List UInt8) (j : Nat) (rest : List Value) (w : World) (hs : s.length ≤ maxLen) (hj : j ≤ s.length) (hb : Blk w b t (cur s j rest)) :
    Calls Try.prog 16 #[.pointer (some ⟨b, 0, none⟩), .func (.func 13) #[] #[]] w fun e w' =>
      e = .returned (.string ⟨((s.drop j).take (CL.spanN CL.spc (s.drop j))).toArray⟩) ∧ Blk w' b t (cur s (j + CL.spanN CL.spc (s.drop j)) rest) ∧ Only b w w' := by
  have h0 : w.cell? ⟨b, 0, none⟩ = some (.string ⟨s.toArray⟩) := hb.cell 0
  have h1 : w.cell? ⟨b, 1, none⟩ = some (.int .i64 j) := hb.cell 1
  unfold maxLen at hs
  go_enter Try.func16, Try.ntmps16
  go_wp2
  clear h0 h1
  go_loopw [] (fun wr => ∃ k : Nat, j ≤ k ∧ k ≤ s.length ∧ (∀ i, j ≤ i → (h : i < k) → (h' : i < s.length) → CL.at8 CL.spc s[i] = true) ∧ Blk wr b t (cur s k rest) ∧ Only b w wr) (fun wr => match wr.cell? ⟨b, 1, none⟩ with | some (.int _ n) => s.length - n.toNat | _ => 0)
  case atStart => exact ⟨j, Nat.le_refl _, hj, fun i h1 h2 => by omega, hb, Only.rf⟩
  case round =>
    obtain ⟨k, hjk, hk, hall, hb1, ho⟩ := hrel
    obtain ⟨wo, rfl⟩ : ∃ wo : World, wo = wr := ⟨_, rfl⟩
    have h0 : wo.cell? ⟨b, 0, none⟩ = some (.string ⟨s.toArray⟩) := hb1.cell 0
    have h1 : wo.cell? ⟨b, 1, none⟩ = some (.int .i64 k) := hb1.cell 1
    have h2 := hb1.frozen 1
    have HA := Lib.hid hall; clear hall
    have HB := Lib.hid hb; clear hb
    by_cases hlt : k < s.length
    · go_wp2_with fail
      go_quiet ((first | (go_at_call 17; exact quietD (more_c b t s k rest _ (hb1.drewN _))) | (go_at_call 13; first | exact quietL (Space_c _ _) | exact quietR (Space_c _ _))))
      go_wp2
      · have hc : CL.at8 CL.spc s[k] = true := by assumption
        refine ⟨?_, ?measure⟩
        · exact ⟨k + 1, by omega, by omega, all_step HA.out hlt hc, cur_set ▸ (hb1.drewN _).set 1 _, (ho.drewN _).set 1 _⟩
        case measure =>
          have h1' : ((wo.drewN nq).setCell ⟨b, 1, none⟩ (.int .i64 ((k : Int) + 1))).cell? ⟨b, 1, none⟩ = some (.int .i64 ((k : Int) + 1)) := ((hb1.drewN nq).set 1 _).cell 1
          rw [h1', h1]
          simp; omega
      · have hc : CL.at8 CL.spc s[k] = false := by assumption
        have hk1 := CL.spanN_of hjk hk (fun i h1 h => HA.out i h1 h (by omega)) (fun _ => hc)
        have HK := Lib.hid hk1; clear hk1
        go_quiet (fail)
        go_wp2
        go_ret
        rw [HK.out]
        exact ⟨ret_ext hk, by rw [show j + (k - j) = k by omega]; exact hb1, (ho.drewN _).drewN _⟩
    · have hk1 := CL.spanN_of (p := CL.spc) hjk hk (fun i h1 h => HA.out i h1 h (by omega)) (fun h => absurd h hlt)
      have HK := Lib.hid hk1; clear hk1
      go_wp2_with fail
      go_quiet ((go_at_call 17; exact quietD (more_f b t s k rest _ hlt (hb1.drewN _))))
      go_wp2
      go_quiet (fail)
      go_wp2
      go_ret
      rw [HK.out]
      exact ⟨ret_ext hk, by rw [show j + (k - j) = k by omega]; exact hb1, (ho.drewN _).drewN _⟩
set_option maxHeartbeats 400000 in
theorem run_inWord (b : Nat) (t : TypeId) (s : List UInt8) (j : Nat) (rest : List Value) (w : World) (hs : s.length ≤ maxLen) (hj : j ≤ s.length) (hb : Blk w b t (cur s j rest)) :
    Calls Try.prog 16 #[.pointer (some ⟨b, 0, none⟩), .func (.func 23) #[] #[]] w fun e w' =>
      e = .returned (.string ⟨((s.drop j).take (CL.spanN CL.prt (s.drop j))).toArray⟩) ∧ Blk w' b t (cur s (j + CL.spanN CL.prt (s.drop j)) rest) ∧ Only b w w' := by
  have h0 : w.cell? ⟨b, 0, none⟩ = some (.string ⟨s.toArray⟩) := hb.cell 0
  have h1 : w.cell? ⟨b, 1, none⟩ = some (.int .i64 j) := hb.cell 1
  unfold maxLen at hs
  go_enter Try.func16, Try.ntmps16
  go_wp2
  clear h0 h1
  go_loopw [] (fun wr => ∃ k : Nat, j ≤ k ∧ k ≤ s.length ∧ (∀ i, j ≤ i → (h : i < k) → (h' : i < s.length) → CL.at8 CL.prt s[i] = true) ∧ Blk wr b t (cur s k rest) ∧ Only b w wr) (fun wr => match wr.cell? ⟨b, 1, none⟩ with | some (.int _ n) => s.length - n.toNat | _ => 0)
  case atStart => exact ⟨j, Nat.le_refl _, hj, fun i h1 h2 => by omega, hb, Only.rf⟩
  case round =>
    obtain ⟨k, hjk, hk, hall, hb1, ho⟩ := hrel
    obtain ⟨wo, rfl⟩ : ∃ wo : World, wo = wr := ⟨_, rfl⟩
    have h0 : wo.cell? ⟨b, 0, none⟩ = some (.string ⟨s.toArray⟩) := hb1.cell 0
    have h1 : wo.cell? ⟨b, 1, none⟩ = some (.int .i64 k) := hb1.cell 1
    have h2 := hb1.frozen 1
    have HA := Lib.hid hall; clear hall
    have HB := Lib.hid hb; clear hb
    by_cases hlt : k < s.length
    · go_wp2_with fail
      go_quiet ((first | (go_at_call 17; exact quietD (more_c b t s k rest _ (hb1.drewN _))) | (go_at_call 23; first | exact quietL (inWord_c _ _) | exact quietR (inWord_c _ _))))
      go_wp2
      · have hc : CL.at8 CL.prt s[k] = true := by assumption
        refine ⟨?_, ?measure⟩
        · exact ⟨k + 1, by omega, by omega, all_step HA.out hlt hc, cur_set ▸ (hb1.drewN _).set 1 _, (ho.drewN _).set 1 _⟩
        case measure =>
          have h1' : ((wo.drewN nq).setCell ⟨b, 1, none⟩ (.int .i64 ((k : Int) + 1))).cell? ⟨b, 1, none⟩ = some (.int .i64 ((k : Int) + 1)) := ((hb1.drewN nq).set 1 _).cell 1
          rw [h1', h1]
          simp; omega
      · have hc : CL.at8 CL.prt s[k] = false := by assumption
        have hk1 := CL.spanN_of hjk hk (fun i h1 h => HA.out i h1 h (by omega)) (fun _ => hc)
        have HK := Lib.hid hk1; clear hk1
        go_quiet (fail)
        go_wp2
        go_ret
        rw [HK.out]
        exact ⟨ret_ext hk, by rw [show j + (k - j) = k by omega]; exact hb1, (ho.drewN _).drewN _⟩
    · have hk1 := CL.spanN_of (p := CL.prt) hjk hk (fun i h1 h => HA.out i h1 h (by omega)) (fun h => absurd h hlt)
      have HK := Lib.hid hk1; clear hk1
      go_wp2_with fail
      go_quiet ((go_at_call 17; exact quietD (more_f b t s k rest _ hlt (hb1.drewN _))))
      go_wp2
      go_quiet (fail)
      go_wp2
      go_ret
      rw [HK.out]
      exact ⟨ret_ext hk, by rw [show j + (k - j) = k by omega]; exact hb1, (ho.drewN _).drewN _⟩
set_option maxHeartbeats 400000 in
theorem run_capital (b : Nat) (t : TypeId) (s : List UInt8) (j : Nat) (rest : List Value) (w : World) (hs : s.length ≤ maxLen) (hj : j ≤ s.length) (hb : Blk w b t (cur s j rest)) :
    Calls Try.prog 16 #[.pointer (some ⟨b, 0, none⟩), .func (.func 24) #[] #[]] w fun e w' =>
      e = .returned (.string ⟨((s.drop j).take (CL.spanN CL.cap (s.drop j))).toArray⟩) ∧ Blk w' b t (cur s (j + CL.spanN CL.cap (s.drop j)) rest) ∧ Only b w w' := by
  have h0 : w.cell? ⟨b, 0, none⟩ = some (.string ⟨s.toArray⟩) := hb.cell 0
  have h1 : w.cell? ⟨b, 1, none⟩ = some (.int .i64 j) := hb.cell 1
  unfold maxLen at hs
  go_enter Try.func16, Try.ntmps16
  go_wp2
  clear h0 h1
  go_loopw [] (fun wr => ∃ k : Nat, j ≤ k ∧ k ≤ s.length ∧ (∀ i, j ≤ i → (h : i < k) → (h' : i < s.length) → CL.at8 CL.cap s[i] = true) ∧ Blk wr b t (cur s k rest) ∧ Only b w wr) (fun wr => match wr.cell? ⟨b, 1, none⟩ with | some (.int _ n) => s.length - n.toNat | _ => 0)
  case atStart => exact ⟨j, Nat.le_refl _, hj, fun i h1 h2 => by omega, hb, Only.rf⟩
  case round =>
    obtain ⟨k, hjk, hk, hall, hb1, ho⟩ := hrel
    obtain ⟨wo, rfl⟩ : ∃ wo : World, wo = wr := ⟨_, rfl⟩
    have h0 : wo.cell? ⟨b, 0, none⟩ = some (.string ⟨s.toArray⟩) := hb1.cell 0
    have h1 : wo.cell? ⟨b, 1, none⟩ = some (.int .i64 k) := hb1.cell 1
    have h2 := hb1.frozen 1
    have HA := Lib.hid hall; clear hall
    have HB := Lib.hid hb; clear hb
    by_cases hlt : k < s.length
    · go_wp2_with fail
      go_quiet ((first | (go_at_call 17; exact quietD (more_c b t s k rest _ (hb1.drewN _))) | (go_at_call 24; first | exact quietL (capital_c _ _) | exact quietR (capital_c _ _))))
      go_wp2
      · have hc : CL.at8 CL.cap s[k] = true := by assumption
        refine ⟨?_, ?measure⟩
        · exact ⟨k + 1, by omega, by omega, all_step HA.out hlt hc, cur_set ▸ (hb1.drewN _).set 1 _, (ho.drewN _).set 1 _⟩
        case measure =>
          have h1' : ((wo.drewN nq).setCell ⟨b, 1, none⟩ (.int .i64 ((k : Int) + 1))).cell? ⟨b, 1, none⟩ = some (.int .i64 ((k : Int) + 1)) := ((hb1.drewN nq).set 1 _).cell 1
          rw [h1', h1]
          simp; omega
      · have hc : CL.at8 CL.cap s[k] = false := by assumption
        have hk1 := CL.spanN_of hjk hk (fun i h1 h => HA.out i h1 h (by omega)) (fun _ => hc)
        have HK := Lib.hid hk1; clear hk1
        go_quiet (fail)
        go_wp2
        go_ret
        rw [HK.out]
        exact ⟨ret_ext hk, by rw [show j + (k - j) = k by omega]; exact hb1, (ho.drewN _).drewN _⟩
    · have hk1 := CL.spanN_of (p := CL.cap) hjk hk (fun i h1 h => HA.out i h1 h (by omega)) (fun h => absurd h hlt)
      have HK := Lib.hid hk1; clear hk1
      go_wp2_with fail
      go_quiet ((go_at_call 17; exact quietD (more_f b t s k rest _ hlt (hb1.drewN _))))
      go_wp2
      go_quiet (fail)
      go_wp2
      go_ret
      rw [HK.out]
      exact ⟨ret_ext hk, by rw [show j + (k - j) = k by omega]; exact hb1, (ho.drewN _).drewN _⟩
set_option maxHeartbeats 400000 in
theorem run_digit (b : Nat) (t : TypeId) (s : List UInt8) (j : Nat) (rest : List Value) (w : World) (hs : s.length ≤ maxLen) (hj : j ≤ s.length) (hb : Blk w b t (cur s j rest)) :
    Calls Try.prog 16 #[.pointer (some ⟨b, 0, none⟩), .func (.func 26) #[] #[]] w fun e w' =>
      e = .returned (.string ⟨((s.drop j).take (CL.spanN CL.dig (s.drop j))).toArray⟩) ∧ Blk w' b t (cur s (j + CL.spanN CL.dig (s.drop j)) rest) ∧ Only b w w' := by
  have h0 : w.cell? ⟨b, 0, none⟩ = some (.string ⟨s.toArray⟩) := hb.cell 0
  have h1 : w.cell? ⟨b, 1, none⟩ = some (.int .i64 j) := hb.cell 1
  unfold maxLen at hs
  go_enter Try.func16, Try.ntmps16
  go_wp2
  clear h0 h1
  go_loopw [] (fun wr => ∃ k : Nat, j ≤ k ∧ k ≤ s.length ∧ (∀ i, j ≤ i → (h : i < k) → (h' : i < s.length) → CL.at8 CL.dig s[i] = true) ∧ Blk wr b t (cur s k rest) ∧ Only b w wr) (fun wr => match wr.cell? ⟨b, 1, none⟩ with | some (.int _ n) => s.length - n.toNat | _ => 0)
  case atStart => exact ⟨j, Nat.le_refl _, hj, fun i h1 h2 => by omega, hb, Only.rf⟩
  case round =>
    obtain ⟨k, hjk, hk, hall, hb1, ho⟩ := hrel
    obtain ⟨wo, rfl⟩ : ∃ wo : World, wo = wr := ⟨_, rfl⟩
    have h0 : wo.cell? ⟨b, 0, none⟩ = some (.string ⟨s.toArray⟩) := hb1.cell 0
    have h1 : wo.cell? ⟨b, 1, none⟩ = some (.int .i64 k) := hb1.cell 1
    have h2 := hb1.frozen 1
    have HA := Lib.hid hall; clear hall
    have HB := Lib.hid hb; clear hb
    by_cases hlt : k < s.length
    · go_wp2_with fail
      go_quiet ((first | (go_at_call 17; exact quietD (more_c b t s k rest _ (hb1.drewN _))) | (go_at_call 26; first | exact quietL (digit_c _ _) | exact quietR (digit_c _ _))))
      go_wp2
      · have hc : CL.at8 CL.dig s[k] = true := by assumption
        refine ⟨?_, ?measure⟩
        · exact ⟨k + 1, by omega, by omega, all_step HA.out hlt hc, cur_set ▸ (hb1.drewN _).set 1 _, (ho.drewN _).set 1 _⟩
        case measure =>
          have h1' : ((wo.drewN nq).setCell ⟨b, 1, none⟩ (.int .i64 ((k : Int) + 1))).cell? ⟨b, 1, none⟩ = some (.int .i64 ((k : Int) + 1)) := ((hb1.drewN nq).set 1 _).cell 1
          rw [h1', h1]
          simp; omega
      · have hc : CL.at8 CL.dig s[k] = false := by assumption
        have hk1 := CL.spanN_of hjk hk (fun i h1 h => HA.out i h1 h (by omega)) (fun _ => hc)
        have HK := Lib.hid hk1; clear hk1
        go_quiet (fail)
        go_wp2
        go_ret
        rw [HK.out]
        exact ⟨ret_ext hk, by rw [show j + (k - j) = k by omega]; exact hb1, (ho.drewN _).drewN _⟩
    · have hk1 := CL.spanN_of (p := CL.dig) hjk hk (fun i h1 h => HA.out i h1 h (by omega)) (fun h => absurd h hlt)
      have HK := Lib.hid hk1; clear hk1
      go_wp2_with fail
      go_quiet ((go_at_call 17; exact quietD (more_f b t s k rest _ hlt (hb1.drewN _))))
      go_wp2
      go_quiet (fail)
      go_wp2
      go_ret
      rw [HK.out]
      exact ⟨ret_ext hk, by rw [show j + (k - j) = k by omega]; exact hb1, (ho.drewN _).drewN _⟩
end Go.Proofs.Ytklpfhkcbhkofaa
