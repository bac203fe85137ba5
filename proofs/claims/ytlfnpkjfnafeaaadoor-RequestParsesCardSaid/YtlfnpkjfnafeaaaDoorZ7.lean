/-  -/
import Derived.Test.YtlfnpkjfnafeaaaDoorZ1
import Derived.Deep.RegionHeld3
import Derived.Deep.RegionLaw
import Derived.Deep.DeepCutAuto
import Derived.Laws.DeepStrings4
import Derived.Test.YtlfnpkjfnafeaaaDoorZ3
/- The walks of the lexer: classes of bytes, the cursor. -/
namespace Go.Proofs.YtlfnpkjfnafeaaaDoor
open Go.RowKit
theorem Space_c (n : Int) (w : World) : Calls Tryd.prog 60 #[.int .u8 n] w fun e w' => e = .returned (.bool (CL.spc n)) ∧ w = w' := by
  go_enter Tryd.func60, Tryd.ntmps60
  go_wp2
  all_goals (go_ret; refine ⟨ret_bool ?_, rfl⟩; go_tidy; simp_all [CL.spc])
theorem RSpace_c (n : Int) (w : World) : Calls Tryd.prog 50 #[.int .u8 n] w fun e w' => e = .returned (.bool (CL.spc n)) ∧ w = w' := by
  go_enter Tryd.func50, Tryd.ntmps50
  go_wp2
  all_goals (go_ret; refine ⟨ret_bool ?_, rfl⟩; go_tidy; simp_all [CL.spc])
theorem letter_c (n : Int) (w : World) : Calls Tryd.prog 86 #[.int .u8 n] w fun e w' => e = .returned (.bool (CL.ltr n)) ∧ w = w' := by
  go_enter Tryd.func86, Tryd.ntmps86
  go_wp2
  all_goals (go_ret; refine ⟨ret_bool ?_, rfl⟩; simp [CL.ltr]; try omega)
theorem capital_c (n : Int) (w : World) : Calls Tryd.prog 88 #[.int .u8 n] w fun e w' => e = .returned (.bool (CL.cap n)) ∧ w = w' := by
  go_enter Tryd.func88, Tryd.ntmps88
  go_wp2
  all_goals (go_ret; refine ⟨ret_bool ?_, rfl⟩; simp [CL.cap]; try omega)
theorem digit_c (n : Int) (w : World) : Calls Tryd.prog 90 #[.int .u8 n] w fun e w' => e = .returned (.bool (CL.dig n)) ∧ w = w' := by
  go_enter Tryd.func90, Tryd.ntmps90
  go_wp2
  all_goals (go_ret; refine ⟨ret_bool ?_, rfl⟩; simp [CL.dig]; try omega)
theorem inWord_c (n : Int) (w : World) : Calls Tryd.prog 87 #[.int .u8 n] w fun e w' => e = .returned (.bool (CL.prt n)) ∧ w = w' := by
  go_enter Tryd.func87, Tryd.ntmps87
  go_wp2_with (first
    | (go_at_call 86; refine (letter_c _ _).mono ?_; rintro e w' ⟨rfl, rfl⟩)
    | (go_at_call 90; refine (digit_c _ _).mono ?_; rintro e w' ⟨rfl, rfl⟩))
  all_goals (go_ret; refine ⟨ret_bool ?_, rfl⟩; go_tidy; simp_all [CL.prt])
theorem RLetter_c (n : Int) (w : World) : Calls Tryd.prog 51 #[.int .u8 n] w fun e w' => e = .returned (.bool (CL.ltr n)) ∧ w = w' := by
  go_enter Tryd.func51, Tryd.ntmps51
  go_wp2
  all_goals (go_ret; refine ⟨ret_bool ?_, rfl⟩; simp [CL.ltr]; try omega)
theorem RPart_c (n : Int) (w : World) : Calls Tryd.prog 52 #[.int .u8 n] w fun e w' => e = .returned (.bool (CL.prt n)) ∧ w = w' := by
  go_enter Tryd.func52, Tryd.ntmps52
  go_wp2_with (go_at_call 51; refine (RLetter_c _ _).mono ?_; rintro e w' ⟨rfl, rfl⟩)
  all_goals (go_ret; refine ⟨ret_bool ?_, rfl⟩; go_tidy; first | (simp_all [CL.prt, CL.dig]; done) | (simp_all [CL.prt, CL.dig]; grind))
/-- the cursor's cells -/
def cur (s : List UInt8) (j : Nat) (rest : List Value) : Array Value := (.string ⟨s.toArray⟩ :: .int .i64 j :: rest).toArray
theorem more_c (b : Nat) (t : TypeId) (s : List UInt8) (j : Nat) (rest : List Value) (w : World) (hb : Blk w b t (cur s j rest)) :
    Calls Tryd.prog 61 #[.pointer (some ⟨b, 0, none⟩)] w fun e w' => e = .returned (.bool (decide (j < s.length))) ∧ ∃ n, w' = w.drewN n := by
  have h0 : w.cell? ⟨b, 0, none⟩ = some (.string ⟨s.toArray⟩) := hb.cell 0
  have h1 : w.cell? ⟨b, 1, none⟩ = some (.int .i64 j) := hb.cell 1
  clear hb
  go_enter Tryd.func61, Tryd.ntmps61
  go_wp2
  go_quiet (fail)
  go_wp2
  go_ret
  exact ⟨rfl, _, rfl⟩
theorem more_f (b : Nat) (t : TypeId) (s : List UInt8) (j : Nat) (rest : List Value) (w : World) (h : ¬ j < s.length) (hb : Blk w b t (cur s j rest)) :
    Calls Tryd.prog 61 #[.pointer (some ⟨b, 0, none⟩)] w fun e w' => e = .returned (.bool false) ∧ ∃ n, w' = w.drewN n :=
  (more_c b t s j rest w hb).mono fun _ _ ⟨he, hn⟩ => ⟨by rw [he, decide_eq_false h], hn⟩
theorem cur_set {s : List UInt8} {k : Nat} {rest : List Value} : (cur s k rest).setIfInBounds 1 (.int .i64 ((k : Int) + 1)) = cur s (k + 1) rest := by simp [cur]
theorem all_step {p : Int → Bool} {s : List UInt8} {j k : Nat} (h : ∀ i, j ≤ i → i < k → (h' : i < s.length) → CL.at8 p s[i] = true) (hk : k < s.length) (hc : CL.at8 p s[k] = true) :
    ∀ i, j ≤ i → i < k + 1 → (h' : i < s.length) → CL.at8 p s[i] = true := by
  intro i h1 h2 h3
  by_cases e : i = k
  · subst e; exact hc
  · exact h i h1 (by omega) h3
set_option maxHeartbeats 400000 in
theorem run_Space (b : Nat) (t : TypeId) (s : List UInt8) (j : Nat) (rest : List Value) (w : World) (hs : s.length ≤ maxLen) (hj : j ≤ s.length) (hb : Blk w b t (cur s j rest)) :
    Calls Tryd.prog 59 #[.pointer (some ⟨b, 0, none⟩), .func (.func 60) #[] #[]] w fun e w' =>
      e = .returned (.string ⟨((s.drop j).take (CL.spanN CL.spc (s.drop j))).toArray⟩) ∧ Blk w' b t (cur s (j + CL.spanN CL.spc (s.drop j)) rest) ∧ Only b w w' := by
  have h0 : w.cell? ⟨b, 0, none⟩ = some (.string ⟨s.toArray⟩) := hb.cell 0
  have h1 : w.cell? ⟨b, 1, none⟩ = some (.int .i64 j) := hb.cell 1
  unfold maxLen at hs
  go_enter Tryd.func59, Tryd.ntmps59
  go_wp2
  clear h0 h1
  go_loopw [] (fun wr => ∃ k : Nat, j ≤ k ∧ k ≤ s.length ∧ (∀ i, j ≤ i → (h : i < k) → (h' : i < s.length) → CL.at8 CL.spc s[i] = true) ∧ Blk wr b t (cur s k rest) ∧ Only b w wr) (fun wr => match wr.cell? ⟨b, 1, none⟩ with | some (.int _ n) => s.length - n.toNat | _ => 0)
  case atStart => exact ⟨j, Nat.le_refl _, hj, fun i h1 h2 => by omega, hb, Only.rf⟩
  case round =>
    obtain ⟨k, hjk, hk, hall, hb1, ho⟩ := hrel
    obtain ⟨wo, rfl⟩ : ∃ wo : World, wo = wr := ⟨_, rfl⟩
    have h0 : wo.cell? ⟨b, 0, none⟩ = some (.string ⟨s.toArray⟩) := hb1.cell 0
    have h1 : wo.cell? ⟨b, 1, none⟩ = some (.int .i64 k) := hb1.cell 1
    have h2 := hb1.frozen 1
    have HA := Lib.hid hall; clear hall
    have HB := Lib.hid hb; clear hb
    by_cases hlt : k < s.length
    · go_wp2_with fail
      go_quiet ((first | (go_at_call 61; exact quietD (more_c b t s k rest _ (hb1.drewN _))) | (go_at_call 60; first | exact quietL (Space_c _ _) | exact quietR (Space_c _ _))))
      go_wp2
      · have hc : CL.at8 CL.spc s[k] = true := by assumption
        refine ⟨?_, ?measure⟩
        · exact ⟨k + 1, by omega, by omega, all_step HA.out hlt hc, cur_set ▸ (hb1.drewN _).set 1 _, (ho.drewN _).set 1 _⟩
        case measure =>
          have h1' : ((wo.drewN nq).setCell ⟨b, 1, none⟩ (.int .i64 ((k : Int) + 1))).cell? ⟨b, 1, none⟩ = some (.int .i64 ((k : Int) + 1)) := ((hb1.drewN nq).set 1 _).cell 1
          rw [h1', h1]
          simp; omega
      · have hc : CL.at8 CL.spc s[k] = false := by assumption
        have hk1 := CL.spanN_of hjk hk (fun i h1 h => HA.out i h1 h (by omega)) (fun _ => hc)
        have HK := Lib.hid hk1; clear hk1
        go_quiet (fail)
        go_wp2
        go_ret
        rw [HK.out]
        exact ⟨ret_ext hk, by rw [show j + (k - j) = k by omega]; exact hb1, (ho.drewN _).drewN _⟩
    · have hk1 := CL.spanN_of (p := CL.spc) hjk hk (fun i h1 h => HA.out i h1 h (by omega)) (fun h => absurd h hlt)
      have HK := Lib.hid hk1; clear hk1
      go_wp2_with fail
      go_quiet ((go_at_call 61; exact quietD (more_f b t s k rest _ hlt (hb1.drewN _))))
      go_wp2
      go_quiet (fail)
      go_wp2
      go_ret
      rw [HK.out]
      exact ⟨ret_ext hk, by rw [show j + (k - j) = k by omega]; exact hb1, (ho.drewN _).drewN _⟩
set_option maxHeartbeats 400000 in
theorem run_inWord (b : Nat) (t : TypeId) (s : List UInt8) (j : Nat) (rest : List Value) (w : World) (hs : s.length ≤ maxLen) (hj : j ≤ s.length) (hb : Blk w b t (cur s j rest)) :
    Calls Tryd.prog 59 #[.pointer (some ⟨b, 0, none⟩), .func (.func 87) #[] #[]] w fun e w' =>
      e = .returned (.string ⟨((s.drop j).take (CL.spanN CL.prt (s.drop j))).toArray⟩) ∧ Blk w' b t (cur s (j + CL.spanN CL.prt (s.drop j)) rest) ∧ Only b w w' := by
  have h0 : w.cell? ⟨b, 0, none⟩ = some (.string ⟨s.toArray⟩) := hb.cell 0
  have h1 : w.cell? ⟨b, 1, none⟩ = some (.int .i64 j) := hb.cell 1
  unfold maxLen at hs
  go_enter Tryd.func59, Tryd.ntmps59
  go_wp2
  clear h0 h1
  go_loopw [] (fun wr => ∃ k : Nat, j ≤ k ∧ k ≤ s.length ∧ (∀ i, j ≤ i → (h : i < k) → (h' : i < s.length) → CL.at8 CL.prt s[i] = true) ∧ Blk wr b t (cur s k rest) ∧ Only b w wr) (fun wr => match wr.cell? ⟨b, 1, none⟩ with | some (.int _ n) => s.length - n.toNat | _ => 0)
  case atStart => exact ⟨j, Nat.le_refl _, hj, fun i h1 h2 => by omega, hb, Only.rf⟩
  case round =>
    obtain ⟨k, hjk, hk, hall, hb1, ho⟩ := hrel
    obtain ⟨wo, rfl⟩ : ∃ wo : World, wo = wr := ⟨_, rfl⟩
    have h0 : wo.cell? ⟨b, 0, none⟩ = some (.string ⟨s.toArray⟩) := hb1.cell 0
    have h1 : wo.cell? ⟨b, 1, none⟩ = some (.int .i64 k) := hb1.cell 1
    have h2 := hb1.frozen 1
    have HA := Lib.hid hall; clear hall
    have HB := Lib.hid hb; clear hb
    by_cases hlt : k < s.length
    · go_wp2_with fail
      go_quiet ((first | (go_at_call 61; exact quietD (more_c b t s k rest _ (hb1.drewN _))) | (go_at_call 87; first | exact quietL (inWord_c _ _) | exact quietR (inWord_c _ _))))
      go_wp2
      · have hc : CL.at8 CL.prt s[k] = true := by assumption
        refine ⟨?_, ?measure⟩
        · exact ⟨k + 1, by omega, by omega, all_step HA.out hlt hc, cur_set ▸ (hb1.drewN _).set 1 _, (ho.drewN _).set 1 _⟩
        case measure =>
          have h1' : ((wo.drewN nq).setCell ⟨b, 1, none⟩ (.int .i64 ((k : Int) + 1))).cell? ⟨b, 1, none⟩ = some (.int .i64 ((k : Int) + 1)) := ((hb1.drewN nq).set 1 _).cell 1
          rw [h1', h1]
          simp; omega
      · have hc : CL.at8 CL.prt s[k] = false := by assumption
        have hk1 := CL.spanN_of hjk hk (fun i h1 h => HA.out i h1 h (by omega)) (fun _ => hc)
        have HK := Lib.hid hk1; clear hk1
        go_quiet (fail)
        go_wp2
        go_ret
        rw [HK.out]
        exact ⟨ret_ext hk, by rw [show j + (k - j) = k by omega]; exact hb1, (ho.drewN _).drewN _⟩
    · have hk1 := CL.spanN_of (p := CL.prt) hjk hk (fun i h1 h => HA.out i h1 h (by omega)) (fun h => absurd h hlt)
      have HK := Lib.hid hk1; clear hk1
      go_wp2_with fail
      go_quiet ((go_at_call 61; exact quietD (more_f b t s k rest _ hlt (hb1.drewN _))))
      go_wp2
      go_quiet (fail)
      go_wp2
      go_ret
      rw [HK.out]
      exact ⟨ret_ext hk, by rw [show j + (k - j) = k by omega]; exact hb1, (ho.drewN _).drewN _⟩
set_option maxHeartbeats 400000 in
theorem run_capital (b : Nat) (t : TypeId) (s : List UInt8) (j : Nat) (rest : List Value) (w : World) (hs : s.length ≤ maxLen) (hj : j ≤ s.length) (hb : Blk w b t (cur s j rest)) :
    Calls Tryd.prog 59 #[.pointer (some ⟨b, 0, none⟩), .func (.func 88) #[] #[]] w fun e w' =>
      e = .returned (.string ⟨((s.drop j).take (CL.spanN CL.cap (s.drop j))).toArray⟩) ∧ Blk w' b t (cur s (j + CL.spanN CL.cap (s.drop j)) rest) ∧ Only b w w' := by
  have h0 : w.cell? ⟨b, 0, none⟩ = some (.string ⟨s.toArray⟩) := hb.cell 0
  have h1 : w.cell? ⟨b, 1, none⟩ = some (.int .i64 j) := hb.cell 1
  unfold maxLen at hs
  go_enter Tryd.func59, Tryd.ntmps59
  go_wp2
  clear h0 h1
  go_loopw [] (fun wr => ∃ k : Nat, j ≤ k ∧ k ≤ s.length ∧ (∀ i, j ≤ i → (h : i < k) → (h' : i < s.length) → CL.at8 CL.cap s[i] = true) ∧ Blk wr b t (cur s k rest) ∧ Only b w wr) (fun wr => match wr.cell? ⟨b, 1, none⟩ with | some (.int _ n) => s.length - n.toNat | _ => 0)
  case atStart => exact ⟨j, Nat.le_refl _, hj, fun i h1 h2 => by omega, hb, Only.rf⟩
  case round =>
    obtain ⟨k, hjk, hk, hall, hb1, ho⟩ := hrel
    obtain ⟨wo, rfl⟩ : ∃ wo : World, wo = wr := ⟨_, rfl⟩
    have h0 : wo.cell? ⟨b, 0, none⟩ = some (.string ⟨s.toArray⟩) := hb1.cell 0
    have h1 : wo.cell? ⟨b, 1, none⟩ = some (.int .i64 k) := hb1.cell 1
    have h2 := hb1.frozen 1
    have HA := Lib.hid hall; clear hall
    have HB := Lib.hid hb; clear hb
    by_cases hlt : k < s.length
    · go_wp2_with fail
      go_quiet ((first | (go_at_call 61; exact quietD (more_c b t s k rest _ (hb1.drewN _))) | (go_at_call 88; first | exact quietL (capital_c _ _) | exact quietR (capital_c _ _))))
      go_wp2
      · have hc : CL.at8 CL.cap s[k] = true := by assumption
        refine ⟨?_, ?measure⟩
        · exact ⟨k + 1, by omega, by omega, all_step HA.out hlt hc, cur_set ▸ (hb1.drewN _).set 1 _, (ho.drewN _).set 1 _⟩
        case measure =>
          have h1' : ((wo.drewN nq).setCell ⟨b, 1, none⟩ (.int .i64 ((k : Int) + 1))).cell? ⟨b, 1, none⟩ = some (.int .i64 ((k : Int) + 1)) := ((hb1.drewN nq).set 1 _).cell 1
          rw [h1', h1]
          simp; omega
      · have hc : CL.at8 CL.cap s[k] = false := by assumption
        have hk1 := CL.spanN_of hjk hk (fun i h1 h => HA.out i h1 h (by omega)) (fun _ => hc)
        have HK := Lib.hid hk1; clear hk1
        go_quiet (fail)
        go_wp2
        go_ret
        rw [HK.out]
        exact ⟨ret_ext hk, by rw [show j + (k - j) = k by omega]; exact hb1, (ho.drewN _).drewN _⟩
    · have hk1 := CL.spanN_of (p := CL.cap) hjk hk (fun i h1 h => HA.out i h1 h (by omega)) (fun h => absurd h hlt)
      have HK := Lib.hid hk1; clear hk1
      go_wp2_with fail
      go_quiet ((go_at_call 61; exact quietD (more_f b t s k rest _ hlt (hb1.drewN _))))
      go_wp2
      go_quiet (fail)
      go_wp2
      go_ret
      rw [HK.out]
      exact ⟨ret_ext hk, by rw [show j + (k - j) = k by omega]; exact hb1, (ho.drewN _).drewN _⟩
set_option maxHeartbeats 400000 in
theorem run_digit (b : Nat) (t : TypeId) (s : List UInt8) (j : Nat) (rest : List Value) (w : World) (hs : s.length ≤ maxLen) (hj : j ≤ s.length) (hb : Blk w b t (cur s j rest)) :
    Calls Tryd.prog 59 #[.pointer (some ⟨b, 0, none⟩), .func (.func 90) #[] #[]] w fun e w' =>
      e = .returned (.string ⟨((s.drop j).take (CL.spanN CL.dig (s.drop j))).toArray⟩) ∧ Blk w' b t (cur s (j + CL.spanN CL.dig (s.drop j)) rest) ∧ Only b w w' := by
  have h0 : w.cell? ⟨b, 0, none⟩ = some (.string ⟨s.toArray⟩) := hb.cell 0
  have h1 : w.cell? ⟨b, 1, none⟩ = some (.int .i64 j) := hb.cell 1
  unfold maxLen at hs
  go_enter Tryd.func59, Tryd.ntmps59
  go_wp2
  clear h0 h1
  go_loopw [] (fun wr => ∃ k : Nat, j ≤ k ∧ k ≤ s.length ∧ (∀ i, j ≤ i → (h : i < k) → (h' : i < s.length) → CL.at8 CL.dig s[i] = true) ∧ Blk wr b t (cur s k rest) ∧ Only b w wr) (fun wr => match wr.cell? ⟨b, 1, none⟩ with | some (.int _ n) => s.length - n.toNat | _ => 0)
  case atStart => exact ⟨j, Nat.le_refl _, hj, fun i h1 h2 => by omega, hb, Only.rf⟩
  case round =>
    obtain ⟨k, hjk, hk, hall, hb1, ho⟩ := hrel
    obtain ⟨wo, rfl⟩ : ∃ wo : World, wo = wr := ⟨_, rfl⟩
    have h0 : wo.cell? ⟨b, 0, none⟩ = some (.string ⟨s.toArray⟩) := hb1.cell 0
    have h1 : wo.cell? ⟨b, 1, none⟩ = some (.int .i64 k) := hb1.cell 1
    have h2 := hb1.frozen 1
    have HA := Lib.hid hall; clear hall
    have HB := Lib.hid hb; clear hb
    by_cases hlt : k < s.length
    · go_wp2_with fail
      go_quiet ((first | (go_at_call 61; exact quietD (more_c b t s k rest _ (hb1.drewN _))) | (go_at_call 90; first | exact quietL (digit_c _ _) | exact quietR (digit_c _ _))))
      go_wp2
      · have hc : CL.at8 CL.dig s[k] = true := by assumption
        refine ⟨?_, ?measure⟩
        · exact ⟨k + 1, by omega, by omega, all_step HA.out hlt hc, cur_set ▸ (hb1.drewN _).set 1 _, (ho.drewN _).set 1 _⟩
        case measure =>
          have h1' : ((wo.drewN nq).setCell ⟨b, 1, none⟩ (.int .i64 ((k : Int) + 1))).cell? ⟨b, 1, none⟩ = some (.int .i64 ((k : Int) + 1)) := ((hb1.drewN nq).set 1 _).cell 1
          rw [h1', h1]
          simp; omega
      · have hc : CL.at8 CL.dig s[k] = false := by assumption
        have hk1 := CL.spanN_of hjk hk (fun i h1 h => HA.out i h1 h (by omega)) (fun _ => hc)
        have HK := Lib.hid hk1; clear hk1
        go_quiet (fail)
        go_wp2
        go_ret
        rw [HK.out]
        exact ⟨ret_ext hk, by rw [show j + (k - j) = k by omega]; exact hb1, (ho.drewN _).drewN _⟩
    · have hk1 := CL.spanN_of (p := CL.dig) hjk hk (fun i h1 h => HA.out i h1 h (by omega)) (fun h => absurd h hlt)
      have HK := Lib.hid hk1; clear hk1
      go_wp2_with fail
      go_quiet ((go_at_call 61; exact quietD (more_f b t s k rest _ hlt (hb1.drewN _))))
      go_wp2
      go_quiet (fail)
      go_wp2
      go_ret
      rw [HK.out]
      exact ⟨ret_ext hk, by rw [show j + (k - j) = k by omega]; exact hb1, (ho.drewN _).drewN _⟩
end Go.Proofs.YtlfnpkjfnafeaaaDoor
/- The walks of the lexer, second part: one token. -/
namespace Go.Proofs.YtlfnpkjfnafeaaaDoor
open Go.RowKit
/-- a token as cells -/
def tkc (t : CL.Tk) : List Value := [.int .i64 t.kind, .string ⟨t.text.toArray⟩, .int .i64 t.num, .int .i64 t.pos]
def tks (l : List CL.Tk) : List Value := l.flatMap tkc
theorem tks_len (l : List CL.Tk) : (tks l).length = l.length * 4 := by
  unfold tks
  induction l with
  | nil => rfl
  | cons t l ih => simp [tkc, ih]; omega
theorem tks_snoc (l : List CL.Tk) (t : CL.Tk) : tks (l ++ [t]) = tks l ++ tkc t := by simp [tks]
theorem tok_info : (Tryd.prog.info? 52).map (fun i => (i.zero, i.size, i.bytes)) = some (some (.agg #[.int .i64 0, .string ⟨#[]⟩, .int .i64 0, .int .i64 0]), 4, 40) := by kernel_rfl
/-- what a good scan leaves -/
def ScanOk (B b : Nat) (t : TypeId) (s : List UInt8) (k : Nat) (l : List CL.Tk) (w w' : World) : Prop :=
  ∃ tv', Blk w' b t (cur s k [tv']) ∧ w'.ownsRow B 52 4 tv' l.length (tks l) ∧ Below B w w'
theorem scan_end {B b : Nat} {t : TypeId} {s : List UInt8} {k : Nat} {acc : List CL.Tk} {tok : CL.Tk} {tv : Value} {w w2 w3 : World} {A3 : Option Addr} {c3 : Nat} {o : Obj} (hB : B ≤ b) (ht : t ≠ 52) (hBs : B ≤ w2.heap.size)
    (hbel2 : Below B w w2) (hb2 : Blk w2 b t (cur s k [tv])) (n1 : some b ≠ tv.ownBlock) (hg3 : ((w2.alloc o).drew).grownBy w3 tv.ownBlock) (hb3 : Below B ((w2.alloc o).drew) w3)
    (hown3 : w3.ownsRow B 52 4 (.slice A3 (acc.length + 1) c3) (acc.length + 1) (tks acc ++ tkc tok)) :
    ScanOk B b t s k (acc ++ [tok]) w (w3.setCell ⟨b, 2, none⟩ (.slice A3 (acc.length + 1) c3)) := by
  have hb4 := hg3.blk (hb2.alloc _) n1
  refine ⟨.slice A3 (acc.length + 1) c3, ?_, ?_, ?_⟩
  · have := hb4.set 2 (.slice A3 (acc.length + 1) c3)
    simpa [cur] using this
  · rw [tks_snoc, List.length_append]
    exact own_only hown3 (Only.rf.set 2 _) (own_ne hown3 hb4 (Ne.symm ht))
  · exact below_only (((hbel2.alloc hBs o).drew).trans hb3) (Only.rf.set 2 _) hB (Nat.le_trans hBs (Nat.le_trans (by simp) hb3.size))
def ScanPost (B b : Nat) (t : TypeId) (s : List UInt8) (j : Nat) (acc : List CL.Tk) (w : World) (e : Ending) (w' : World) : Prop :=
  e = .returned (.int .i64 (CL.one (s.drop j) j).1) ∧
    ((CL.one (s.drop j) j).1 = 0 → ScanOk B b t s (j + (CL.one (s.drop j) j).2.2) (acc ++ [(CL.one (s.drop j) j).2.1]) w w') ∧ Below B w w'
theorem scan_good {B b : Nat} {t : TypeId} {s : List UInt8} {j n : Nat} {acc : List CL.Tk} {w w' : World} {tok : CL.Tk} (h : CL.one (s.drop j) j = (0, tok, n)) (hok : ScanOk B b t s (j + n) (acc ++ [tok]) w w') :
    ScanPost B b t s j acc w (.returned (.int .i64 0)) w' := by
  unfold ScanPost; rw [h]; exact ⟨rfl, fun _ => hok, hok.choose_spec.2.2⟩
theorem scan_bad {B b : Nat} {t : TypeId} {s : List UInt8} {j n : Nat} {acc : List CL.Tk} {w w' : World} {tok : CL.Tk} {k : Int} (hk : k ≠ 0) (h : CL.one (s.drop j) j = (k, tok, n)) (hb : Below B w w') :
    ScanPost B b t s j acc w (.returned (.int .i64 k)) w' := by
  unfold ScanPost; rw [h]; exact ⟨rfl, fun h => absurd h hk, hb⟩
set_option maxRecDepth 100000 in
set_option maxHeartbeats 1600000 in
theorem scan_word (B b : Nat) (t : TypeId) (s : List UInt8) (j : Nat) (tv : Value) (acc : List CL.Tk) (w : World) (hs : s.length ≤ 1024) (hj : j < s.length) (ht : t ≠ 52) (hB : B ≤ b) (hb : Blk w b t (cur s j [tv]))
    (hown : w.ownsRow B 52 4 tv acc.length (tks acc)) (ha : acc.length ≤ s.length) (hc : CL.at8 CL.ltr s[j] = true) :
    Calls Tryd.prog 62 #[.pointer (some ⟨b, 0, none⟩)] w (ScanPost B b t s j acc w) := by
  have h0 : w.cell? ⟨b, 0, none⟩ = some (.string ⟨s.toArray⟩) := hb.cell 0
  have h1 : w.cell? ⟨b, 1, none⟩ = some (.int .i64 j) := hb.cell 1
  have hlt := hb.lt
  have hne : b ≠ w.heap.size := by omega
  have hBw : B ≤ w.heap.size := by omega
  have hlt' : tv.ownBlock ≠ some w.heap.size := fun e => by have := (hown.lt _ e).2; omega
  have c1 : CL.ltr (((⟨s.toArray⟩ : ByteArray)[j]'hj).toNat : Int) = true := hc
  have HO := Lib.hid (CL.one_word (i := j) hj hc)
  go_enter Tryd.func62, Tryd.ntmps62
  go_wp2
  go_quiet (fail)
  go_wp2_with (first
    | (go_at_call 86; refine (letter_c _ _).mono ?_; rintro e w' ⟨rfl, rfl⟩))
  refine (run_inWord b t s j [tv] _ (by unfold maxLen; omega) (by omega) ((hb.alloc _).drewN _)).mono ?_
  rintro e w1 ⟨rfl, hb1, ho1⟩
  have hT' : Blk w1 w.heap.size 52 #[.int .i64 0, .string ⟨#[]⟩, .int .i64 0, .int .i64 j] := Blk.only ((Blk.new w _ _).drewN _) ho1 (by omega)
  have hown1 := own_only (own_drewN (hown.alloc _) _) ho1 (own_ne hown hb (Ne.symm ht))
  have hbel : Below B w w1 := below_only (below_drewN ((Below.refl B w).alloc (by omega) _) _) ho1 hB (by simp; omega)
  have e0 : w1.cell? ⟨b, 0, none⟩ = some (.string ⟨s.toArray⟩) := hb1.cell 0
  have e2 : w1.cell? ⟨b, 2, none⟩ = some tv := hb1.cell 2
  have f2 := hb1.frozen 2
  have t0 : w1.cell? ⟨w.heap.size, 0, none⟩ = some (.int .i64 0) := hT'.cell 0
  have t1 : w1.cell? ⟨w.heap.size, 1, none⟩ = some (.string ⟨#[]⟩) := hT'.cell 1
  have t2 : w1.cell? ⟨w.heap.size, 2, none⟩ = some (.int .i64 0) := hT'.cell 2
  have t3 : w1.cell? ⟨w.heap.size, 3, none⟩ = some (.int .i64 j) := hT'.cell 3
  have u0 := hT'.frozen 0
  have u1 := hT'.frozen 1
  have u2 := hT'.frozen 2
  clear h0 h1 hb hown ho1
  have hnl := CL.spanN_le CL.prt (s.drop j)
  generalize hn : CL.spanN CL.prt (s.drop j) = n at *
  have HN := Lib.hid hn
  clear hn
  simp only [List.length_drop] at hnl
  have hwl : ((s.drop j).take n).length = n := by simp; omega
  generalize hwd : (s.drop j).take n = wd at *
  have HW := Lib.hid hwd
  clear hwd
  have hT2 := (hT'.set 0 (.int .i64 1)).set 1 (.string ⟨wd.toArray⟩)
  have ho2 : Only w.heap.size w1 ((w1.setCell ⟨w.heap.size, 0, none⟩ (.int .i64 1)).setCell ⟨w.heap.size, 1, none⟩ (.string ⟨wd.toArray⟩)) := (Only.rf.set 0 _).set 1 _
  have hb2 := hb1.only ho2 hne
  have hown2 := own_only hown1 ho2 hlt'
  have hbel2 := below_only hbel ho2 hBw (Nat.le_trans hBw hbel.size)
  have s2 : w.heap.size < w1.heap.size := hT'.lt
  have s3 := hT2.lt
  clear hT' hown1 hbel ho2
  by_cases hlen : 12 < wd.length
  · go_wp2
    go_ret
    exact scan_bad (by decide) (HO.out.trans (if_pos (by omega))) hbel2
  · replace HO := Lib.hid (HO.out.trans (if_neg (show ¬ 12 < n by omega)))
    go_wp2
    generalize (w1.setCell ⟨w.heap.size, 0, none⟩ (.int .i64 1)).setCell ⟨w.heap.size, 1, none⟩ (.string ⟨wd.toArray⟩) = w2 at *
    clear e0 e2 f2 t0 t1 t2 t3 u0 u1 u2
    have e2 : w2.cell? ⟨b, 2, none⟩ = some tv := hb2.cell 2
    have f2 := hb2.frozen 2
    have x2 : (w2.alloc (.cells #[.int .i64 1, .string ⟨wd.toArray⟩, .int .i64 0, .int .i64 j] 52)).cell? ⟨b, 2, none⟩ = some tv := (hb2.alloc _).cell 2
    have t0 : w2.cell? ⟨w.heap.size, 0, none⟩ = some (.int .i64 1) := hT2.cell 0
    have t1 : w2.cell? ⟨w.heap.size, 1, none⟩ = some (.string ⟨wd.toArray⟩) := hT2.cell 1
    have t2 : w2.cell? ⟨w.heap.size, 2, none⟩ = some (.int .i64 0) := hT2.cell 2
    have t3 : w2.cell? ⟨w.heap.size, 3, none⟩ = some (.int .i64 j) := hT2.cell 3
    have n1 : some b ≠ tv.ownBlock := Ne.symm (own_ne hown2 hb2 (Ne.symm ht))
    have n2 : some w.heap.size ≠ tv.ownBlock := Ne.symm hlt'
    have hne2 : b ≠ w2.heap.size := by have := hb2.lt; omega
    go_region_law
      ((refine step_append_sits _ (by rfl) _ _ _ (by rfl) B 52 4 40 _ Tryd.underlying48 tok_info rfl (by omega) tv acc.length (tks acc) (by rfl) ((hown2.alloc _).drew) _ _ _ [.int .i64 1, .string ⟨wd.toArray⟩, .int .i64 0, .int .i64 j] (by rfl) (by rfl) (Sits.drew (Sits.new _ _ _)) (by simp [Value.oneCell']) (by simp only [maxLen]; omega) (by omega) (by simp; omega) ?_; intro v3 w3 hown3 hb3 hg3; obtain ⟨A3, c3, rfl, hc3, hc4⟩ := own_form hown3; have e3 : w3.cell? ⟨b, 2, none⟩ = some tv := hg3.cell ((hb2.alloc _).cell 2) n1; have f3 : w3.frozen? ⟨b, 2, none⟩ = false := hg3.frozenB ((hb2.alloc _)) n1 2))
    all_goals (go_wp2; go_ret; exact scan_good HO.out (scan_end (tok := ⟨1, wd, 0, j⟩) hB ht (by omega) hbel2 hb2 n1 hg3 hb3 hown3))
set_option maxRecDepth 100000 in
set_option maxHeartbeats 1600000 in
theorem scan_mode (B b : Nat) (t : TypeId) (s : List UInt8) (j : Nat) (tv : Value) (acc : List CL.Tk) (w : World) (hs : s.length ≤ 1024) (hj : j < s.length) (ht : t ≠ 52) (hB : B ≤ b) (hb : Blk w b t (cur s j [tv]))
    (hown : w.ownsRow B 52 4 tv acc.length (tks acc)) (ha : acc.length ≤ s.length) (hc0 : CL.at8 CL.ltr s[j] = false) (hc : CL.at8 CL.cap s[j] = true) :
    Calls Tryd.prog 62 #[.pointer (some ⟨b, 0, none⟩)] w (ScanPost B b t s j acc w) := by
  have h0 : w.cell? ⟨b, 0, none⟩ = some (.string ⟨s.toArray⟩) := hb.cell 0
  have h1 : w.cell? ⟨b, 1, none⟩ = some (.int .i64 j) := hb.cell 1
  have hlt := hb.lt
  have hne : b ≠ w.heap.size := by omega
  have hBw : B ≤ w.heap.size := by omega
  have hlt' : tv.ownBlock ≠ some w.heap.size := fun e => by have := (hown.lt _ e).2; omega
  have c0 : CL.ltr (((⟨s.toArray⟩ : ByteArray)[j]'hj).toNat : Int) = false := hc0
  have c1 : CL.cap (((⟨s.toArray⟩ : ByteArray)[j]'hj).toNat : Int) = true := hc
  have HO := Lib.hid (CL.one_mode (i := j) hj hc0 hc)
  go_enter Tryd.func62, Tryd.ntmps62
  go_wp2
  go_quiet (fail)
  go_wp2_with (first
    | (go_at_call 86; refine (letter_c _ _).mono ?_; rintro e w' ⟨rfl, rfl⟩)
    | (go_at_call 88; refine (capital_c _ _).mono ?_; rintro e w' ⟨rfl, rfl⟩))
  refine (run_capital b t s j [tv] _ (by unfold maxLen; omega) (by omega) ((hb.alloc _).drewN _)).mono ?_
  rintro e w1 ⟨rfl, hb1, ho1⟩
  have hT' : Blk w1 w.heap.size 52 #[.int .i64 0, .string ⟨#[]⟩, .int .i64 0, .int .i64 j] := Blk.only ((Blk.new w _ _).drewN _) ho1 (by omega)
  have hown1 := own_only (own_drewN (hown.alloc _) _) ho1 (own_ne hown hb (Ne.symm ht))
  have hbel : Below B w w1 := below_only (below_drewN ((Below.refl B w).alloc (by omega) _) _) ho1 hB (by simp; omega)
  have e0 : w1.cell? ⟨b, 0, none⟩ = some (.string ⟨s.toArray⟩) := hb1.cell 0
  have e2 : w1.cell? ⟨b, 2, none⟩ = some tv := hb1.cell 2
  have f2 := hb1.frozen 2
  have t0 : w1.cell? ⟨w.heap.size, 0, none⟩ = some (.int .i64 0) := hT'.cell 0
  have t1 : w1.cell? ⟨w.heap.size, 1, none⟩ = some (.string ⟨#[]⟩) := hT'.cell 1
  have t2 : w1.cell? ⟨w.heap.size, 2, none⟩ = some (.int .i64 0) := hT'.cell 2
  have t3 : w1.cell? ⟨w.heap.size, 3, none⟩ = some (.int .i64 j) := hT'.cell 3
  have u0 := hT'.frozen 0
  have u1 := hT'.frozen 1
  have u2 := hT'.frozen 2
  clear h0 h1 hb hown ho1
  have hnl := CL.spanN_le CL.cap (s.drop j)
  generalize hn : CL.spanN CL.cap (s.drop j) = n at *
  have HN := Lib.hid hn
  clear hn
  simp only [List.length_drop] at hnl
  have hwl : ((s.drop j).take n).length = n := by simp; omega
  generalize hwd : (s.drop j).take n = wd at *
  have HW := Lib.hid hwd
  clear hwd
  have hT2 := ((hT'.set 0 (.int .i64 2)).set 1 (.string ⟨wd.toArray⟩))
  have ho2 : Only w.heap.size w1 ((w1.setCell ⟨w.heap.size, 0, none⟩ (.int .i64 2)).setCell ⟨w.heap.size, 1, none⟩ (.string ⟨wd.toArray⟩)) := (Only.rf.set 0 _).set 1 _
  by_cases hp : CL.prs wd = 0
  · have hbel2 := below_only hbel ho2 hBw (Nat.le_trans hBw hbel.size)
    replace HO := Lib.hid (HO.out.trans (if_pos hp))
    have hq : (CL.prs wd != 0) = false := by simp [hp]
    clear hT' hown1 hbel ho2 hT2 hp
    go_wp2_with (go_at_call 89; refine (Parse_c wd _).mono ?_; rintro e w' ⟨rfl, rfl⟩)
    go_ret
    exact scan_bad (by decide) HO.out hbel2
  · have hT3 := hT2.set 2 (.int .i64 (CL.prs wd))
    have ho3 := ho2.set 2 (.int .i64 (CL.prs wd))
    have hb2 := hb1.only ho3 hne
    have hown2 := own_only hown1 ho3 hlt'
    have hbel2 := below_only hbel ho3 hBw (Nat.le_trans hBw hbel.size)
    replace HO := Lib.hid (HO.out.trans (if_neg hp))
    have hq : (CL.prs wd != 0) = true := by simpa using hp
    have s2 : w.heap.size < w1.heap.size := hT'.lt
    have s3 := hT3.lt
    clear hT' hown1 hbel ho2 ho3 hT2 hp
    go_wp2_with (go_at_call 89; refine (Parse_c wd _).mono ?_; rintro e w' ⟨rfl, rfl⟩)
    generalize ((w1.setCell ⟨w.heap.size, 0, none⟩ (.int .i64 2)).setCell ⟨w.heap.size, 1, none⟩ (.string ⟨wd.toArray⟩)).setCell ⟨w.heap.size, 2, none⟩ (.int .i64 (CL.prs wd)) = w2 at *
    clear e0 e2 f2 t0 t1 t2 t3 u0 u1 u2
    have hT2 := hT3
    have e2 : w2.cell? ⟨b, 2, none⟩ = some tv := hb2.cell 2
    have f2 := hb2.frozen 2
    have x2 : (w2.alloc (.cells #[.int .i64 2, .string ⟨wd.toArray⟩, .int .i64 (CL.prs wd), .int .i64 j] 52)).cell? ⟨b, 2, none⟩ = some tv := (hb2.alloc _).cell 2
    have t0 : w2.cell? ⟨w.heap.size, 0, none⟩ = some (.int .i64 2) := hT2.cell 0
    have t1 : w2.cell? ⟨w.heap.size, 1, none⟩ = some (.string ⟨wd.toArray⟩) := hT2.cell 1
    have t2 : w2.cell? ⟨w.heap.size, 2, none⟩ = some (.int .i64 (CL.prs wd)) := hT2.cell 2
    have t3 : w2.cell? ⟨w.heap.size, 3, none⟩ = some (.int .i64 j) := hT2.cell 3
    have n1 : some b ≠ tv.ownBlock := Ne.symm (own_ne hown2 hb2 (Ne.symm ht))
    have n2 : some w.heap.size ≠ tv.ownBlock := Ne.symm hlt'
    have hne2 : b ≠ w2.heap.size := by have := hb2.lt; omega
    go_region_law
      ((refine step_append_sits _ (by rfl) _ _ _ (by rfl) B 52 4 40 _ Tryd.underlying48 tok_info rfl (by omega) tv acc.length (tks acc) (by rfl) ((hown2.alloc _).drew) _ _ _ [.int .i64 2, .string ⟨wd.toArray⟩, .int .i64 (CL.prs wd), .int .i64 j] (by rfl) (by rfl) (Sits.drew (Sits.new _ _ _)) (by simp [Value.oneCell']) (by simp only [maxLen]; omega) (by omega) (by simp; omega) ?_; intro v3 w3 hown3 hb3 hg3; obtain ⟨A3, c3, rfl, hc3, hc4⟩ := own_form hown3; have e3 : w3.cell? ⟨b, 2, none⟩ = some tv := hg3.cell ((hb2.alloc _).cell 2) n1; have f3 : w3.frozen? ⟨b, 2, none⟩ = false := hg3.frozenB ((hb2.alloc _)) n1 2))
    all_goals (go_wp2; go_ret; exact scan_good HO.out (scan_end (tok := ⟨2, wd, (CL.prs wd), j⟩) hB ht (by omega) hbel2 hb2 n1 hg3 hb3 hown3))
end Go.Proofs.YtlfnpkjfnafeaaaDoor
/- The walks of the lexer, third part: punctuation, numbers, and scan as a whole. -/
namespace Go.Proofs.YtlfnpkjfnafeaaaDoor
open Go.RowKit
theorem slice_one {P : Program} (t : TypeId) (ht : P.underlying t = some .string) (s : List UInt8) (j : Nat) (hj : j < s.length) (W : World) :
    (Instr.slice t (.string ⟨s.toArray⟩) (some (.int .i64 (j : Int))) (some (.int .i64 ((j : Int) + 1))) none).run P W = .ok (.string ⟨#[s[j]]⟩) W := by
  have hz : ((⟨s.toArray⟩ : ByteArray).size : Int) = (s.length : Int) := by simp [ByteArray.size]
  rw [run_slice_string_if (P := P) (h := ht), if_pos (by rw [hz]; omega), if_pos (by omega), bytes_extract]
  have e : (s.drop (j : Int).toNat).take (((j : Int) + 1).toNat - (j : Int).toNat) = [s[j]] := by
    rw [show ((j : Int) + 1).toNat - (j : Int).toNat = 1 by omega, show (j : Int).toNat = j by omega, List.drop_eq_getElem_cons hj]; rfl
  rw [e]
set_option maxRecDepth 100000 in
set_option maxHeartbeats 1600000 in
theorem scan_pun0 (B b : Nat) (t : TypeId) (s : List UInt8) (j : Nat) (tv : Value) (acc : List CL.Tk) (w : World) (hs : s.length ≤ 1024) (hj : j < s.length) (ht : t ≠ 52) (hB : B ≤ b) (hb : Blk w b t (cur s j [tv]))
    (hown : w.ownsRow B 52 4 tv acc.length (tks acc)) (ha : acc.length ≤ s.length) (hc0 : CL.at8 CL.ltr s[j] = false) (hc1 : CL.at8 CL.cap s[j] = false) (hc2 : CL.at8 CL.dig s[j] = false) (hp : CL.at8 CL.pun s[j] = true)
    (hq : ((s[j].toNat : Int) == 40) = true ∧ ((s[j].toNat : Int) == 41) = false ∧ ((s[j].toNat : Int) == 44) = false ∧ ((s[j].toNat : Int) == 58) = false ∧ ((s[j].toNat : Int) == 42) = false) :
    Calls Tryd.prog 62 #[.pointer (some ⟨b, 0, none⟩)] w (ScanPost B b t s j acc w) := by
  have h0 : w.cell? ⟨b, 0, none⟩ = some (.string ⟨s.toArray⟩) := hb.cell 0
  have h1 : w.cell? ⟨b, 1, none⟩ = some (.int .i64 j) := hb.cell 1
  have hlt := hb.lt
  have hne : b ≠ w.heap.size := by omega
  have hBw : B ≤ w.heap.size := by omega
  have hlt' : tv.ownBlock ≠ some w.heap.size := fun e => by have := (hown.lt _ e).2; omega
  have c0 : CL.ltr (((⟨s.toArray⟩ : ByteArray)[j]'hj).toNat : Int) = false := hc0
  have c1 : CL.cap (((⟨s.toArray⟩ : ByteArray)[j]'hj).toNat : Int) = false := hc1
  have c2 : CL.dig (((⟨s.toArray⟩ : ByteArray)[j]'hj).toNat : Int) = false := hc2
  have d1 : ((((⟨s.toArray⟩ : ByteArray)[j]'hj).toNat : Int) == 40) = true := hq.1
  have d2 : ((((⟨s.toArray⟩ : ByteArray)[j]'hj).toNat : Int) == 41) = false := hq.2.1
  have d3 : ((((⟨s.toArray⟩ : ByteArray)[j]'hj).toNat : Int) == 44) = false := hq.2.2.1
  have d4 : ((((⟨s.toArray⟩ : ByteArray)[j]'hj).toNat : Int) == 58) = false := hq.2.2.2.1
  have d5 : ((((⟨s.toArray⟩ : ByteArray)[j]'hj).toNat : Int) == 42) = false := hq.2.2.2.2
  have HO := Lib.hid ((CL.one_pun (i := j) hj hc0 hc1 hc2).trans (if_pos hp))
  clear hq hp
  have f1 := hb.frozen 1
  have g1 : IntKind.i64.wrap ((j : Int) + 1) = (j : Int) + 1 := IntWalk.i64_in _ (by omega)
  have g2 : 0 ≤ (j : Int) + 1 := by omega
  have g3 : ((j : Int) + 1).toNat = j + 1 := by omega
  have g4 : (j : Int) + 1 ≤ (s.length : Int) := by omega
  have g5 : j + 1 ≤ s.length := by omega
  have hsl := slice_one (P := Tryd.prog) 9 Tryd.underlying9 s j hj
  go_enter Tryd.func62, Tryd.ntmps62
  go_wp2
  go_quiet (fail)
  have hb1 := (hb.alloc (.cells #[.int .i64 0, .string ⟨#[]⟩, .int .i64 0, .int .i64 j] 52)).drewN nq
  have hT' := (Blk.new w 52 #[.int .i64 0, .string ⟨#[]⟩, .int .i64 0, .int .i64 j]).drewN nq
  have hown1 := own_drewN (hown.alloc (.cells #[.int .i64 0, .string ⟨#[]⟩, .int .i64 0, .int .i64 j] 52)) nq
  have hbel := below_drewN ((Below.refl B w).alloc (by omega) (.cells #[.int .i64 0, .string ⟨#[]⟩, .int .i64 0, .int .i64 j] 52)) nq
  clear h0 h1 f1 hb hown
  generalize (w.alloc (.cells #[.int .i64 0, .string ⟨#[]⟩, .int .i64 0, .int .i64 j] 52)).drewN nq = w1 at *
  have e0 : w1.cell? ⟨b, 0, none⟩ = some (.string ⟨s.toArray⟩) := hb1.cell 0
  have e1 : w1.cell? ⟨b, 1, none⟩ = some (.int .i64 j) := hb1.cell 1
  have f1 := hb1.frozen 1
  have t0 : w1.cell? ⟨w.heap.size, 0, none⟩ = some (.int .i64 0) := hT'.cell 0
  have t1 : w1.cell? ⟨w.heap.size, 1, none⟩ = some (.string ⟨#[]⟩) := hT'.cell 1
  have u0 := hT'.frozen 0
  have u1 := hT'.frozen 1
  have s2 : w.heap.size < w1.heap.size := hT'.lt
  go_wp2_with (first
    | (go_at_call 86; refine (letter_c _ _).mono ?_; rintro e w' ⟨rfl, rfl⟩)
    | (go_at_call 90; refine (digit_c _ _).mono ?_; rintro e w' ⟨rfl, rfl⟩)
    | (go_at_call 88; refine (capital_c _ _).mono ?_; rintro e w' ⟨rfl, rfl⟩))
  go_region
  clear g1 g2 g3 g4 g5 hsl
  go_wp2
  have ho2 : Only w.heap.size w1 ((w1.setCell ⟨w.heap.size, 0, none⟩ (.int .i64 4)).setCell ⟨w.heap.size, 1, none⟩ (.string ⟨#[s[j]]⟩)) := (Only.rf.set 0 _).set 1 _
  have hb2' := hb1.only ho2 hne
  have hT2' := (hT'.set 0 (.int .i64 4)).set 1 (.string ⟨#[s[j]]⟩)
  have hown2' := own_only hown1 ho2 hlt'
  have hbel2' := below_only hbel ho2 hBw (Nat.le_trans hBw hbel.size)
  have ho3 : Only b ((w1.setCell ⟨w.heap.size, 0, none⟩ (.int .i64 4)).setCell ⟨w.heap.size, 1, none⟩ (.string ⟨#[s[j]]⟩)) (((w1.setCell ⟨w.heap.size, 0, none⟩ (.int .i64 4)).setCell ⟨w.heap.size, 1, none⟩ (.string ⟨#[s[j]]⟩)).setCell ⟨b, 1, none⟩ (.int .i64 ((j : Int) + 1))) := Only.rf.set 1 _
  have hb2 : Blk (((w1.setCell ⟨w.heap.size, 0, none⟩ (.int .i64 4)).setCell ⟨w.heap.size, 1, none⟩ (.string ⟨#[s[j]]⟩)).setCell ⟨b, 1, none⟩ (.int .i64 ((j : Int) + 1))).drew b t (cur s (j + 1) [tv]) := cur_set ▸ hb2'.set 1 (.int .i64 ((j : Int) + 1))
  have hT2 : Blk (((w1.setCell ⟨w.heap.size, 0, none⟩ (.int .i64 4)).setCell ⟨w.heap.size, 1, none⟩ (.string ⟨#[s[j]]⟩)).setCell ⟨b, 1, none⟩ (.int .i64 ((j : Int) + 1))).drew w.heap.size 52 _ := hT2'.only (Only.drew ho3) (Ne.symm hne)
  have hown2 := (own_only hown2' ho3 (own_ne hown2' hb2' (Ne.symm ht))).drew
  have hbel2 := (below_only hbel2' ho3 hB (Nat.le_trans hBw hbel2'.size)).drew
  have s3 := hT2.lt
  clear hb2' hT2' hown2' hbel2' ho2 ho3 hb1 hT' hown1 hbel e0 e1 f1 t0 t1 u0 u1
  generalize (((w1.setCell ⟨w.heap.size, 0, none⟩ (.int .i64 4)).setCell ⟨w.heap.size, 1, none⟩ (.string ⟨#[s[j]]⟩)).setCell ⟨b, 1, none⟩ (.int .i64 ((j : Int) + 1))).drew = w2 at *
  have e2 : w2.cell? ⟨b, 2, none⟩ = some tv := hb2.cell 2
  have f2 := hb2.frozen 2
  have x2 : (w2.alloc (.cells #[.int .i64 4, .string ⟨#[s[j]]⟩, .int .i64 0, .int .i64 j] 52)).cell? ⟨b, 2, none⟩ = some tv := (hb2.alloc _).cell 2
  have t0 : w2.cell? ⟨w.heap.size, 0, none⟩ = some (.int .i64 4) := hT2.cell 0
  have t1 : w2.cell? ⟨w.heap.size, 1, none⟩ = some (.string ⟨#[s[j]]⟩) := hT2.cell 1
  have t2 : w2.cell? ⟨w.heap.size, 2, none⟩ = some (.int .i64 0) := hT2.cell 2
  have t3 : w2.cell? ⟨w.heap.size, 3, none⟩ = some (.int .i64 j) := hT2.cell 3
  have n1 : some b ≠ tv.ownBlock := Ne.symm (own_ne hown2 hb2 (Ne.symm ht))
  have n2 : some w.heap.size ≠ tv.ownBlock := Ne.symm hlt'
  have hne2 : b ≠ w2.heap.size := by have := hb2.lt; omega
  go_region_law
    ((refine step_append_sits _ (by rfl) _ _ _ (by rfl) B 52 4 40 _ Tryd.underlying48 tok_info rfl (by omega) tv acc.length (tks acc) (by rfl) ((hown2.alloc _).drew) _ _ _ [.int .i64 4, .string ⟨#[s[j]]⟩, .int .i64 0, .int .i64 j] (by rfl) (by rfl) (Sits.drew (Sits.new _ _ _)) (by simp [Value.oneCell']) (by simp only [maxLen]; omega) (by omega) (by simp; omega) ?_; intro v3 w3 hown3 hb3 hg3; obtain ⟨A3, c3, rfl, hc3, hc4⟩ := own_form hown3; have e3 : w3.cell? ⟨b, 2, none⟩ = some tv := hg3.cell ((hb2.alloc _).cell 2) n1; have f3 : w3.frozen? ⟨b, 2, none⟩ = false := hg3.frozenB ((hb2.alloc _)) n1 2))
  all_goals (go_wp2; go_ret; exact scan_good HO.out (scan_end (tok := ⟨4, [s[j]], 0, j⟩) hB ht (by omega) hbel2 hb2 n1 hg3 hb3 hown3))
set_option maxRecDepth 100000 in
set_option maxHeartbeats 1600000 in
theorem scan_pun1 (B b : Nat) (t : TypeId) (s : List UInt8) (j : Nat) (tv : Value) (acc : List CL.Tk) (w : World) (hs : s.length ≤ 1024) (hj : j < s.length) (ht : t ≠ 52) (hB : B ≤ b) (hb : Blk w b t (cur s j [tv]))
    (hown : w.ownsRow B 52 4 tv acc.length (tks acc)) (ha : acc.length ≤ s.length) (hc0 : CL.at8 CL.ltr s[j] = false) (hc1 : CL.at8 CL.cap s[j] = false) (hc2 : CL.at8 CL.dig s[j] = false) (hp : CL.at8 CL.pun s[j] = true)
    (hq : ((s[j].toNat : Int) == 40) = false ∧ ((s[j].toNat : Int) == 41) = true ∧ ((s[j].toNat : Int) == 44) = false ∧ ((s[j].toNat : Int) == 58) = false ∧ ((s[j].toNat : Int) == 42) = false) :
    Calls Tryd.prog 62 #[.pointer (some ⟨b, 0, none⟩)] w (ScanPost B b t s j acc w) := by
  have h0 : w.cell? ⟨b, 0, none⟩ = some (.string ⟨s.toArray⟩) := hb.cell 0
  have h1 : w.cell? ⟨b, 1, none⟩ = some (.int .i64 j) := hb.cell 1
  have hlt := hb.lt
  have hne : b ≠ w.heap.size := by omega
  have hBw : B ≤ w.heap.size := by omega
  have hlt' : tv.ownBlock ≠ some w.heap.size := fun e => by have := (hown.lt _ e).2; omega
  have c0 : CL.ltr (((⟨s.toArray⟩ : ByteArray)[j]'hj).toNat : Int) = false := hc0
  have c1 : CL.cap (((⟨s.toArray⟩ : ByteArray)[j]'hj).toNat : Int) = false := hc1
  have c2 : CL.dig (((⟨s.toArray⟩ : ByteArray)[j]'hj).toNat : Int) = false := hc2
  have d1 : ((((⟨s.toArray⟩ : ByteArray)[j]'hj).toNat : Int) == 40) = false := hq.1
  have d2 : ((((⟨s.toArray⟩ : ByteArray)[j]'hj).toNat : Int) == 41) = true := hq.2.1
  have d3 : ((((⟨s.toArray⟩ : ByteArray)[j]'hj).toNat : Int) == 44) = false := hq.2.2.1
  have d4 : ((((⟨s.toArray⟩ : ByteArray)[j]'hj).toNat : Int) == 58) = false := hq.2.2.2.1
  have d5 : ((((⟨s.toArray⟩ : ByteArray)[j]'hj).toNat : Int) == 42) = false := hq.2.2.2.2
  have HO := Lib.hid ((CL.one_pun (i := j) hj hc0 hc1 hc2).trans (if_pos hp))
  clear hq hp
  have f1 := hb.frozen 1
  have g1 : IntKind.i64.wrap ((j : Int) + 1) = (j : Int) + 1 := IntWalk.i64_in _ (by omega)
  have g2 : 0 ≤ (j : Int) + 1 := by omega
  have g3 : ((j : Int) + 1).toNat = j + 1 := by omega
  have g4 : (j : Int) + 1 ≤ (s.length : Int) := by omega
  have g5 : j + 1 ≤ s.length := by omega
  have hsl := slice_one (P := Tryd.prog) 9 Tryd.underlying9 s j hj
  go_enter Tryd.func62, Tryd.ntmps62
  go_wp2
  go_quiet (fail)
  have hb1 := (hb.alloc (.cells #[.int .i64 0, .string ⟨#[]⟩, .int .i64 0, .int .i64 j] 52)).drewN nq
  have hT' := (Blk.new w 52 #[.int .i64 0, .string ⟨#[]⟩, .int .i64 0, .int .i64 j]).drewN nq
  have hown1 := own_drewN (hown.alloc (.cells #[.int .i64 0, .string ⟨#[]⟩, .int .i64 0, .int .i64 j] 52)) nq
  have hbel := below_drewN ((Below.refl B w).alloc (by omega) (.cells #[.int .i64 0, .string ⟨#[]⟩, .int .i64 0, .int .i64 j] 52)) nq
  clear h0 h1 f1 hb hown
  generalize (w.alloc (.cells #[.int .i64 0, .string ⟨#[]⟩, .int .i64 0, .int .i64 j] 52)).drewN nq = w1 at *
  have e0 : w1.cell? ⟨b, 0, none⟩ = some (.string ⟨s.toArray⟩) := hb1.cell 0
  have e1 : w1.cell? ⟨b, 1, none⟩ = some (.int .i64 j) := hb1.cell 1
  have f1 := hb1.frozen 1
  have t0 : w1.cell? ⟨w.heap.size, 0, none⟩ = some (.int .i64 0) := hT'.cell 0
  have t1 : w1.cell? ⟨w.heap.size, 1, none⟩ = some (.string ⟨#[]⟩) := hT'.cell 1
  have u0 := hT'.frozen 0
  have u1 := hT'.frozen 1
  have s2 : w.heap.size < w1.heap.size := hT'.lt
  go_wp2_with (first
    | (go_at_call 86; refine (letter_c _ _).mono ?_; rintro e w' ⟨rfl, rfl⟩)
    | (go_at_call 90; refine (digit_c _ _).mono ?_; rintro e w' ⟨rfl, rfl⟩)
    | (go_at_call 88; refine (capital_c _ _).mono ?_; rintro e w' ⟨rfl, rfl⟩))
  go_region
  clear g1 g2 g3 g4 g5 hsl
  go_wp2
  have ho2 : Only w.heap.size w1 ((w1.setCell ⟨w.heap.size, 0, none⟩ (.int .i64 4)).setCell ⟨w.heap.size, 1, none⟩ (.string ⟨#[s[j]]⟩)) := (Only.rf.set 0 _).set 1 _
  have hb2' := hb1.only ho2 hne
  have hT2' := (hT'.set 0 (.int .i64 4)).set 1 (.string ⟨#[s[j]]⟩)
  have hown2' := own_only hown1 ho2 hlt'
  have hbel2' := below_only hbel ho2 hBw (Nat.le_trans hBw hbel.size)
  have ho3 : Only b ((w1.setCell ⟨w.heap.size, 0, none⟩ (.int .i64 4)).setCell ⟨w.heap.size, 1, none⟩ (.string ⟨#[s[j]]⟩)) (((w1.setCell ⟨w.heap.size, 0, none⟩ (.int .i64 4)).setCell ⟨w.heap.size, 1, none⟩ (.string ⟨#[s[j]]⟩)).setCell ⟨b, 1, none⟩ (.int .i64 ((j : Int) + 1))) := Only.rf.set 1 _
  have hb2 : Blk (((w1.setCell ⟨w.heap.size, 0, none⟩ (.int .i64 4)).setCell ⟨w.heap.size, 1, none⟩ (.string ⟨#[s[j]]⟩)).setCell ⟨b, 1, none⟩ (.int .i64 ((j : Int) + 1))).drew b t (cur s (j + 1) [tv]) := cur_set ▸ hb2'.set 1 (.int .i64 ((j : Int) + 1))
  have hT2 : Blk (((w1.setCell ⟨w.heap.size, 0, none⟩ (.int .i64 4)).setCell ⟨w.heap.size, 1, none⟩ (.string ⟨#[s[j]]⟩)).setCell ⟨b, 1, none⟩ (.int .i64 ((j : Int) + 1))).drew w.heap.size 52 _ := hT2'.only (Only.drew ho3) (Ne.symm hne)
  have hown2 := (own_only hown2' ho3 (own_ne hown2' hb2' (Ne.symm ht))).drew
  have hbel2 := (below_only hbel2' ho3 hB (Nat.le_trans hBw hbel2'.size)).drew
  have s3 := hT2.lt
  clear hb2' hT2' hown2' hbel2' ho2 ho3 hb1 hT' hown1 hbel e0 e1 f1 t0 t1 u0 u1
  generalize (((w1.setCell ⟨w.heap.size, 0, none⟩ (.int .i64 4)).setCell ⟨w.heap.size, 1, none⟩ (.string ⟨#[s[j]]⟩)).setCell ⟨b, 1, none⟩ (.int .i64 ((j : Int) + 1))).drew = w2 at *
  have e2 : w2.cell? ⟨b, 2, none⟩ = some tv := hb2.cell 2
  have f2 := hb2.frozen 2
  have x2 : (w2.alloc (.cells #[.int .i64 4, .string ⟨#[s[j]]⟩, .int .i64 0, .int .i64 j] 52)).cell? ⟨b, 2, none⟩ = some tv := (hb2.alloc _).cell 2
  have t0 : w2.cell? ⟨w.heap.size, 0, none⟩ = some (.int .i64 4) := hT2.cell 0
  have t1 : w2.cell? ⟨w.heap.size, 1, none⟩ = some (.string ⟨#[s[j]]⟩) := hT2.cell 1
  have t2 : w2.cell? ⟨w.heap.size, 2, none⟩ = some (.int .i64 0) := hT2.cell 2
  have t3 : w2.cell? ⟨w.heap.size, 3, none⟩ = some (.int .i64 j) := hT2.cell 3
  have n1 : some b ≠ tv.ownBlock := Ne.symm (own_ne hown2 hb2 (Ne.symm ht))
  have n2 : some w.heap.size ≠ tv.ownBlock := Ne.symm hlt'
  have hne2 : b ≠ w2.heap.size := by have := hb2.lt; omega
  go_region_law
    ((refine step_append_sits _ (by rfl) _ _ _ (by rfl) B 52 4 40 _ Tryd.underlying48 tok_info rfl (by omega) tv acc.length (tks acc) (by rfl) ((hown2.alloc _).drew) _ _ _ [.int .i64 4, .string ⟨#[s[j]]⟩, .int .i64 0, .int .i64 j] (by rfl) (by rfl) (Sits.drew (Sits.new _ _ _)) (by simp [Value.oneCell']) (by simp only [maxLen]; omega) (by omega) (by simp; omega) ?_; intro v3 w3 hown3 hb3 hg3; obtain ⟨A3, c3, rfl, hc3, hc4⟩ := own_form hown3; have e3 : w3.cell? ⟨b, 2, none⟩ = some tv := hg3.cell ((hb2.alloc _).cell 2) n1; have f3 : w3.frozen? ⟨b, 2, none⟩ = false := hg3.frozenB ((hb2.alloc _)) n1 2))
  all_goals (go_wp2; go_ret; exact scan_good HO.out (scan_end (tok := ⟨4, [s[j]], 0, j⟩) hB ht (by omega) hbel2 hb2 n1 hg3 hb3 hown3))
set_option maxRecDepth 100000 in
set_option maxHeartbeats 1600000 in
theorem scan_pun2 (B b : Nat) (t : TypeId) (s : List UInt8) (j : Nat) (tv : Value) (acc : List CL.Tk) (w : World) (hs : s.length ≤ 1024) (hj : j < s.length) (ht : t ≠ 52) (hB : B ≤ b) (hb : Blk w b t (cur s j [tv]))
    (hown : w.ownsRow B 52 4 tv acc.length (tks acc)) (ha : acc.length ≤ s.length) (hc0 : CL.at8 CL.ltr s[j] = false) (hc1 : CL.at8 CL.cap s[j] = false) (hc2 : CL.at8 CL.dig s[j] = false) (hp : CL.at8 CL.pun s[j] = true)
    (hq : ((s[j].toNat : Int) == 40) = false ∧ ((s[j].toNat : Int) == 41) = false ∧ ((s[j].toNat : Int) == 44) = true ∧ ((s[j].toNat : Int) == 58) = false ∧ ((s[j].toNat : Int) == 42) = false) :
    Calls Tryd.prog 62 #[.pointer (some ⟨b, 0, none⟩)] w (ScanPost B b t s j acc w) := by
  have h0 : w.cell? ⟨b, 0, none⟩ = some (.string ⟨s.toArray⟩) := hb.cell 0
  have h1 : w.cell? ⟨b, 1, none⟩ = some (.int .i64 j) := hb.cell 1
  have hlt := hb.lt
  have hne : b ≠ w.heap.size := by omega
  have hBw : B ≤ w.heap.size := by omega
  have hlt' : tv.ownBlock ≠ some w.heap.size := fun e => by have := (hown.lt _ e).2; omega
  have c0 : CL.ltr (((⟨s.toArray⟩ : ByteArray)[j]'hj).toNat : Int) = false := hc0
  have c1 : CL.cap (((⟨s.toArray⟩ : ByteArray)[j]'hj).toNat : Int) = false := hc1
  have c2 : CL.dig (((⟨s.toArray⟩ : ByteArray)[j]'hj).toNat : Int) = false := hc2
  have d1 : ((((⟨s.toArray⟩ : ByteArray)[j]'hj).toNat : Int) == 40) = false := hq.1
  have d2 : ((((⟨s.toArray⟩ : ByteArray)[j]'hj).toNat : Int) == 41) = false := hq.2.1
  have d3 : ((((⟨s.toArray⟩ : ByteArray)[j]'hj).toNat : Int) == 44) = true := hq.2.2.1
  have d4 : ((((⟨s.toArray⟩ : ByteArray)[j]'hj).toNat : Int) == 58) = false := hq.2.2.2.1
  have d5 : ((((⟨s.toArray⟩ : ByteArray)[j]'hj).toNat : Int) == 42) = false := hq.2.2.2.2
  have HO := Lib.hid ((CL.one_pun (i := j) hj hc0 hc1 hc2).trans (if_pos hp))
  clear hq hp
  have f1 := hb.frozen 1
  have g1 : IntKind.i64.wrap ((j : Int) + 1) = (j : Int) + 1 := IntWalk.i64_in _ (by omega)
  have g2 : 0 ≤ (j : Int) + 1 := by omega
  have g3 : ((j : Int) + 1).toNat = j + 1 := by omega
  have g4 : (j : Int) + 1 ≤ (s.length : Int) := by omega
  have g5 : j + 1 ≤ s.length := by omega
  have hsl := slice_one (P := Tryd.prog) 9 Tryd.underlying9 s j hj
  go_enter Tryd.func62, Tryd.ntmps62
  go_wp2
  go_quiet (fail)
  have hb1 := (hb.alloc (.cells #[.int .i64 0, .string ⟨#[]⟩, .int .i64 0, .int .i64 j] 52)).drewN nq
  have hT' := (Blk.new w 52 #[.int .i64 0, .string ⟨#[]⟩, .int .i64 0, .int .i64 j]).drewN nq
  have hown1 := own_drewN (hown.alloc (.cells #[.int .i64 0, .string ⟨#[]⟩, .int .i64 0, .int .i64 j] 52)) nq
  have hbel := below_drewN ((Below.refl B w).alloc (by omega) (.cells #[.int .i64 0, .string ⟨#[]⟩, .int .i64 0, .int .i64 j] 52)) nq
  clear h0 h1 f1 hb hown
  generalize (w.alloc (.cells #[.int .i64 0, .string ⟨#[]⟩, .int .i64 0, .int .i64 j] 52)).drewN nq = w1 at *
  have e0 : w1.cell? ⟨b, 0, none⟩ = some (.string ⟨s.toArray⟩) := hb1.cell 0
  have e1 : w1.cell? ⟨b, 1, none⟩ = some (.int .i64 j) := hb1.cell 1
  have f1 := hb1.frozen 1
  have t0 : w1.cell? ⟨w.heap.size, 0, none⟩ = some (.int .i64 0) := hT'.cell 0
  have t1 : w1.cell? ⟨w.heap.size, 1, none⟩ = some (.string ⟨#[]⟩) := hT'.cell 1
  have u0 := hT'.frozen 0
  have u1 := hT'.frozen 1
  have s2 : w.heap.size < w1.heap.size := hT'.lt
  go_wp2_with (first
    | (go_at_call 86; refine (letter_c _ _).mono ?_; rintro e w' ⟨rfl, rfl⟩)
    | (go_at_call 90; refine (digit_c _ _).mono ?_; rintro e w' ⟨rfl, rfl⟩)
    | (go_at_call 88; refine (capital_c _ _).mono ?_; rintro e w' ⟨rfl, rfl⟩))
  go_region
  clear g1 g2 g3 g4 g5 hsl
  go_wp2
  have ho2 : Only w.heap.size w1 ((w1.setCell ⟨w.heap.size, 0, none⟩ (.int .i64 4)).setCell ⟨w.heap.size, 1, none⟩ (.string ⟨#[s[j]]⟩)) := (Only.rf.set 0 _).set 1 _
  have hb2' := hb1.only ho2 hne
  have hT2' := (hT'.set 0 (.int .i64 4)).set 1 (.string ⟨#[s[j]]⟩)
  have hown2' := own_only hown1 ho2 hlt'
  have hbel2' := below_only hbel ho2 hBw (Nat.le_trans hBw hbel.size)
  have ho3 : Only b ((w1.setCell ⟨w.heap.size, 0, none⟩ (.int .i64 4)).setCell ⟨w.heap.size, 1, none⟩ (.string ⟨#[s[j]]⟩)) (((w1.setCell ⟨w.heap.size, 0, none⟩ (.int .i64 4)).setCell ⟨w.heap.size, 1, none⟩ (.string ⟨#[s[j]]⟩)).setCell ⟨b, 1, none⟩ (.int .i64 ((j : Int) + 1))) := Only.rf.set 1 _
  have hb2 : Blk (((w1.setCell ⟨w.heap.size, 0, none⟩ (.int .i64 4)).setCell ⟨w.heap.size, 1, none⟩ (.string ⟨#[s[j]]⟩)).setCell ⟨b, 1, none⟩ (.int .i64 ((j : Int) + 1))).drew b t (cur s (j + 1) [tv]) := cur_set ▸ hb2'.set 1 (.int .i64 ((j : Int) + 1))
  have hT2 : Blk (((w1.setCell ⟨w.heap.size, 0, none⟩ (.int .i64 4)).setCell ⟨w.heap.size, 1, none⟩ (.string ⟨#[s[j]]⟩)).setCell ⟨b, 1, none⟩ (.int .i64 ((j : Int) + 1))).drew w.heap.size 52 _ := hT2'.only (Only.drew ho3) (Ne.symm hne)
  have hown2 := (own_only hown2' ho3 (own_ne hown2' hb2' (Ne.symm ht))).drew
  have hbel2 := (below_only hbel2' ho3 hB (Nat.le_trans hBw hbel2'.size)).drew
  have s3 := hT2.lt
  clear hb2' hT2' hown2' hbel2' ho2 ho3 hb1 hT' hown1 hbel e0 e1 f1 t0 t1 u0 u1
  generalize (((w1.setCell ⟨w.heap.size, 0, none⟩ (.int .i64 4)).setCell ⟨w.heap.size, 1, none⟩ (.string ⟨#[s[j]]⟩)).setCell ⟨b, 1, none⟩ (.int .i64 ((j : Int) + 1))).drew = w2 at *
  have e2 : w2.cell? ⟨b, 2, none⟩ = some tv := hb2.cell 2
  have f2 := hb2.frozen 2
  have x2 : (w2.alloc (.cells #[.int .i64 4, .string ⟨#[s[j]]⟩, .int .i64 0, .int .i64 j] 52)).cell? ⟨b, 2, none⟩ = some tv := (hb2.alloc _).cell 2
  have t0 : w2.cell? ⟨w.heap.size, 0, none⟩ = some (.int .i64 4) := hT2.cell 0
  have t1 : w2.cell? ⟨w.heap.size, 1, none⟩ = some (.string ⟨#[s[j]]⟩) := hT2.cell 1
  have t2 : w2.cell? ⟨w.heap.size, 2, none⟩ = some (.int .i64 0) := hT2.cell 2
  have t3 : w2.cell? ⟨w.heap.size, 3, none⟩ = some (.int .i64 j) := hT2.cell 3
  have n1 : some b ≠ tv.ownBlock := Ne.symm (own_ne hown2 hb2 (Ne.symm ht))
  have n2 : some w.heap.size ≠ tv.ownBlock := Ne.symm hlt'
  have hne2 : b ≠ w2.heap.size := by have := hb2.lt; omega
  go_region_law
    ((refine step_append_sits _ (by rfl) _ _ _ (by rfl) B 52 4 40 _ Tryd.underlying48 tok_info rfl (by omega) tv acc.length (tks acc) (by rfl) ((hown2.alloc _).drew) _ _ _ [.int .i64 4, .string ⟨#[s[j]]⟩, .int .i64 0, .int .i64 j] (by rfl) (by rfl) (Sits.drew (Sits.new _ _ _)) (by simp [Value.oneCell']) (by simp only [maxLen]; omega) (by omega) (by simp; omega) ?_; intro v3 w3 hown3 hb3 hg3; obtain ⟨A3, c3, rfl, hc3, hc4⟩ := own_form hown3; have e3 : w3.cell? ⟨b, 2, none⟩ = some tv := hg3.cell ((hb2.alloc _).cell 2) n1; have f3 : w3.frozen? ⟨b, 2, none⟩ = false := hg3.frozenB ((hb2.alloc _)) n1 2))
  all_goals (go_wp2; go_ret; exact scan_good HO.out (scan_end (tok := ⟨4, [s[j]], 0, j⟩) hB ht (by omega) hbel2 hb2 n1 hg3 hb3 hown3))
set_option maxRecDepth 100000 in
set_option maxHeartbeats 1600000 in
theorem scan_pun3 (B b : Nat) (t : TypeId) (s : List UInt8) (j : Nat) (tv : Value) (acc : List CL.Tk) (w : World) (hs : s.length ≤ 1024) (hj : j < s.length) (ht : t ≠ 52) (hB : B ≤ b) (hb : Blk w b t (cur s j [tv]))
    (hown : w.ownsRow B 52 4 tv acc.length (tks acc)) (ha : acc.length ≤ s.length) (hc0 : CL.at8 CL.ltr s[j] = false) (hc1 : CL.at8 CL.cap s[j] = false) (hc2 : CL.at8 CL.dig s[j] = false) (hp : CL.at8 CL.pun s[j] = true)
    (hq : ((s[j].toNat : Int) == 40) = false ∧ ((s[j].toNat : Int) == 41) = false ∧ ((s[j].toNat : Int) == 44) = false ∧ ((s[j].toNat : Int) == 58) = true ∧ ((s[j].toNat : Int) == 42) = false) :
    Calls Tryd.prog 62 #[.pointer (some ⟨b, 0, none⟩)] w (ScanPost B b t s j acc w) := by
  have h0 : w.cell? ⟨b, 0, none⟩ = some (.string ⟨s.toArray⟩) := hb.cell 0
  have h1 : w.cell? ⟨b, 1, none⟩ = some (.int .i64 j) := hb.cell 1
  have hlt := hb.lt
  have hne : b ≠ w.heap.size := by omega
  have hBw : B ≤ w.heap.size := by omega
  have hlt' : tv.ownBlock ≠ some w.heap.size := fun e => by have := (hown.lt _ e).2; omega
  have c0 : CL.ltr (((⟨s.toArray⟩ : ByteArray)[j]'hj).toNat : Int) = false := hc0
  have c1 : CL.cap (((⟨s.toArray⟩ : ByteArray)[j]'hj).toNat : Int) = false := hc1
  have c2 : CL.dig (((⟨s.toArray⟩ : ByteArray)[j]'hj).toNat : Int) = false := hc2
  have d1 : ((((⟨s.toArray⟩ : ByteArray)[j]'hj).toNat : Int) == 40) = false := hq.1
  have d2 : ((((⟨s.toArray⟩ : ByteArray)[j]'hj).toNat : Int) == 41) = false := hq.2.1
  have d3 : ((((⟨s.toArray⟩ : ByteArray)[j]'hj).toNat : Int) == 44) = false := hq.2.2.1
  have d4 : ((((⟨s.toArray⟩ : ByteArray)[j]'hj).toNat : Int) == 58) = true := hq.2.2.2.1
  have d5 : ((((⟨s.toArray⟩ : ByteArray)[j]'hj).toNat : Int) == 42) = false := hq.2.2.2.2
  have HO := Lib.hid ((CL.one_pun (i := j) hj hc0 hc1 hc2).trans (if_pos hp))
  clear hq hp
  have f1 := hb.frozen 1
  have g1 : IntKind.i64.wrap ((j : Int) + 1) = (j : Int) + 1 := IntWalk.i64_in _ (by omega)
  have g2 : 0 ≤ (j : Int) + 1 := by omega
  have g3 : ((j : Int) + 1).toNat = j + 1 := by omega
  have g4 : (j : Int) + 1 ≤ (s.length : Int) := by omega
  have g5 : j + 1 ≤ s.length := by omega
  have hsl := slice_one (P := Tryd.prog) 9 Tryd.underlying9 s j hj
  go_enter Tryd.func62, Tryd.ntmps62
  go_wp2
  go_quiet (fail)
  have hb1 := (hb.alloc (.cells #[.int .i64 0, .string ⟨#[]⟩, .int .i64 0, .int .i64 j] 52)).drewN nq
  have hT' := (Blk.new w 52 #[.int .i64 0, .string ⟨#[]⟩, .int .i64 0, .int .i64 j]).drewN nq
  have hown1 := own_drewN (hown.alloc (.cells #[.int .i64 0, .string ⟨#[]⟩, .int .i64 0, .int .i64 j] 52)) nq
  have hbel := below_drewN ((Below.refl B w).alloc (by omega) (.cells #[.int .i64 0, .string ⟨#[]⟩, .int .i64 0, .int .i64 j] 52)) nq
  clear h0 h1 f1 hb hown
  generalize (w.alloc (.cells #[.int .i64 0, .string ⟨#[]⟩, .int .i64 0, .int .i64 j] 52)).drewN nq = w1 at *
  have e0 : w1.cell? ⟨b, 0, none⟩ = some (.string ⟨s.toArray⟩) := hb1.cell 0
  have e1 : w1.cell? ⟨b, 1, none⟩ = some (.int .i64 j) := hb1.cell 1
  have f1 := hb1.frozen 1
  have t0 : w1.cell? ⟨w.heap.size, 0, none⟩ = some (.int .i64 0) := hT'.cell 0
  have t1 : w1.cell? ⟨w.heap.size, 1, none⟩ = some (.string ⟨#[]⟩) := hT'.cell 1
  have u0 := hT'.frozen 0
  have u1 := hT'.frozen 1
  have s2 : w.heap.size < w1.heap.size := hT'.lt
  go_wp2_with (first
    | (go_at_call 86; refine (letter_c _ _).mono ?_; rintro e w' ⟨rfl, rfl⟩)
    | (go_at_call 90; refine (digit_c _ _).mono ?_; rintro e w' ⟨rfl, rfl⟩)
    | (go_at_call 88; refine (capital_c _ _).mono ?_; rintro e w' ⟨rfl, rfl⟩))
  go_region
  clear g1 g2 g3 g4 g5 hsl
  go_wp2
  have ho2 : Only w.heap.size w1 ((w1.setCell ⟨w.heap.size, 0, none⟩ (.int .i64 4)).setCell ⟨w.heap.size, 1, none⟩ (.string ⟨#[s[j]]⟩)) := (Only.rf.set 0 _).set 1 _
  have hb2' := hb1.only ho2 hne
  have hT2' := (hT'.set 0 (.int .i64 4)).set 1 (.string ⟨#[s[j]]⟩)
  have hown2' := own_only hown1 ho2 hlt'
  have hbel2' := below_only hbel ho2 hBw (Nat.le_trans hBw hbel.size)
  have ho3 : Only b ((w1.setCell ⟨w.heap.size, 0, none⟩ (.int .i64 4)).setCell ⟨w.heap.size, 1, none⟩ (.string ⟨#[s[j]]⟩)) (((w1.setCell ⟨w.heap.size, 0, none⟩ (.int .i64 4)).setCell ⟨w.heap.size, 1, none⟩ (.string ⟨#[s[j]]⟩)).setCell ⟨b, 1, none⟩ (.int .i64 ((j : Int) + 1))) := Only.rf.set 1 _
  have hb2 : Blk (((w1.setCell ⟨w.heap.size, 0, none⟩ (.int .i64 4)).setCell ⟨w.heap.size, 1, none⟩ (.string ⟨#[s[j]]⟩)).setCell ⟨b, 1, none⟩ (.int .i64 ((j : Int) + 1))).drew b t (cur s (j + 1) [tv]) := cur_set ▸ hb2'.set 1 (.int .i64 ((j : Int) + 1))
  have hT2 : Blk (((w1.setCell ⟨w.heap.size, 0, none⟩ (.int .i64 4)).setCell ⟨w.heap.size, 1, none⟩ (.string ⟨#[s[j]]⟩)).setCell ⟨b, 1, none⟩ (.int .i64 ((j : Int) + 1))).drew w.heap.size 52 _ := hT2'.only (Only.drew ho3) (Ne.symm hne)
  have hown2 := (own_only hown2' ho3 (own_ne hown2' hb2' (Ne.symm ht))).drew
  have hbel2 := (below_only hbel2' ho3 hB (Nat.le_trans hBw hbel2'.size)).drew
  have s3 := hT2.lt
  clear hb2' hT2' hown2' hbel2' ho2 ho3 hb1 hT' hown1 hbel e0 e1 f1 t0 t1 u0 u1
  generalize (((w1.setCell ⟨w.heap.size, 0, none⟩ (.int .i64 4)).setCell ⟨w.heap.size, 1, none⟩ (.string ⟨#[s[j]]⟩)).setCell ⟨b, 1, none⟩ (.int .i64 ((j : Int) + 1))).drew = w2 at *
  have e2 : w2.cell? ⟨b, 2, none⟩ = some tv := hb2.cell 2
  have f2 := hb2.frozen 2
  have x2 : (w2.alloc (.cells #[.int .i64 4, .string ⟨#[s[j]]⟩, .int .i64 0, .int .i64 j] 52)).cell? ⟨b, 2, none⟩ = some tv := (hb2.alloc _).cell 2
  have t0 : w2.cell? ⟨w.heap.size, 0, none⟩ = some (.int .i64 4) := hT2.cell 0
  have t1 : w2.cell? ⟨w.heap.size, 1, none⟩ = some (.string ⟨#[s[j]]⟩) := hT2.cell 1
  have t2 : w2.cell? ⟨w.heap.size, 2, none⟩ = some (.int .i64 0) := hT2.cell 2
  have t3 : w2.cell? ⟨w.heap.size, 3, none⟩ = some (.int .i64 j) := hT2.cell 3
  have n1 : some b ≠ tv.ownBlock := Ne.symm (own_ne hown2 hb2 (Ne.symm ht))
  have n2 : some w.heap.size ≠ tv.ownBlock := Ne.symm hlt'
  have hne2 : b ≠ w2.heap.size := by have := hb2.lt; omega
  go_region_law
    ((refine step_append_sits _ (by rfl) _ _ _ (by rfl) B 52 4 40 _ Tryd.underlying48 tok_info rfl (by omega) tv acc.length (tks acc) (by rfl) ((hown2.alloc _).drew) _ _ _ [.int .i64 4, .string ⟨#[s[j]]⟩, .int .i64 0, .int .i64 j] (by rfl) (by rfl) (Sits.drew (Sits.new _ _ _)) (by simp [Value.oneCell']) (by simp only [maxLen]; omega) (by omega) (by simp; omega) ?_; intro v3 w3 hown3 hb3 hg3; obtain ⟨A3, c3, rfl, hc3, hc4⟩ := own_form hown3; have e3 : w3.cell? ⟨b, 2, none⟩ = some tv := hg3.cell ((hb2.alloc _).cell 2) n1; have f3 : w3.frozen? ⟨b, 2, none⟩ = false := hg3.frozenB ((hb2.alloc _)) n1 2))
  all_goals (go_wp2; go_ret; exact scan_good HO.out (scan_end (tok := ⟨4, [s[j]], 0, j⟩) hB ht (by omega) hbel2 hb2 n1 hg3 hb3 hown3))
set_option maxRecDepth 100000 in
set_option maxHeartbeats 1600000 in
theorem scan_pun4 (B b : Nat) (t : TypeId) (s : List UInt8) (j : Nat) (tv : Value) (acc : List CL.Tk) (w : World) (hs : s.length ≤ 1024) (hj : j < s.length) (ht : t ≠ 52) (hB : B ≤ b) (hb : Blk w b t (cur s j [tv]))
    (hown : w.ownsRow B 52 4 tv acc.length (tks acc)) (ha : acc.length ≤ s.length) (hc0 : CL.at8 CL.ltr s[j] = false) (hc1 : CL.at8 CL.cap s[j] = false) (hc2 : CL.at8 CL.dig s[j] = false) (hp : CL.at8 CL.pun s[j] = true)
    (hq : ((s[j].toNat : Int) == 40) = false ∧ ((s[j].toNat : Int) == 41) = false ∧ ((s[j].toNat : Int) == 44) = false ∧ ((s[j].toNat : Int) == 58) = false ∧ ((s[j].toNat : Int) == 42) = true) :
    Calls Tryd.prog 62 #[.pointer (some ⟨b, 0, none⟩)] w (ScanPost B b t s j acc w) := by
  have h0 : w.cell? ⟨b, 0, none⟩ = some (.string ⟨s.toArray⟩) := hb.cell 0
  have h1 : w.cell? ⟨b, 1, none⟩ = some (.int .i64 j) := hb.cell 1
  have hlt := hb.lt
  have hne : b ≠ w.heap.size := by omega
  have hBw : B ≤ w.heap.size := by omega
  have hlt' : tv.ownBlock ≠ some w.heap.size := fun e => by have := (hown.lt _ e).2; omega
  have c0 : CL.ltr (((⟨s.toArray⟩ : ByteArray)[j]'hj).toNat : Int) = false := hc0
  have c1 : CL.cap (((⟨s.toArray⟩ : ByteArray)[j]'hj).toNat : Int) = false := hc1
  have c2 : CL.dig (((⟨s.toArray⟩ : ByteArray)[j]'hj).toNat : Int) = false := hc2
  have d1 : ((((⟨s.toArray⟩ : ByteArray)[j]'hj).toNat : Int) == 40) = false := hq.1
  have d2 : ((((⟨s.toArray⟩ : ByteArray)[j]'hj).toNat : Int) == 41) = false := hq.2.1
  have d3 : ((((⟨s.toArray⟩ : ByteArray)[j]'hj).toNat : Int) == 44) = false := hq.2.2.1
  have d4 : ((((⟨s.toArray⟩ : ByteArray)[j]'hj).toNat : Int) == 58) = false := hq.2.2.2.1
  have d5 : ((((⟨s.toArray⟩ : ByteArray)[j]'hj).toNat : Int) == 42) = true := hq.2.2.2.2
  have HO := Lib.hid ((CL.one_pun (i := j) hj hc0 hc1 hc2).trans (if_pos hp))
  clear hq hp
  have f1 := hb.frozen 1
  have g1 : IntKind.i64.wrap ((j : Int) + 1) = (j : Int) + 1 := IntWalk.i64_in _ (by omega)
  have g2 : 0 ≤ (j : Int) + 1 := by omega
  have g3 : ((j : Int) + 1).toNat = j + 1 := by omega
  have g4 : (j : Int) + 1 ≤ (s.length : Int) := by omega
  have g5 : j + 1 ≤ s.length := by omega
  have hsl := slice_one (P := Tryd.prog) 9 Tryd.underlying9 s j hj
  go_enter Tryd.func62, Tryd.ntmps62
  go_wp2
  go_quiet (fail)
  have hb1 := (hb.alloc (.cells #[.int .i64 0, .string ⟨#[]⟩, .int .i64 0, .int .i64 j] 52)).drewN nq
  have hT' := (Blk.new w 52 #[.int .i64 0, .string ⟨#[]⟩, .int .i64 0, .int .i64 j]).drewN nq
  have hown1 := own_drewN (hown.alloc (.cells #[.int .i64 0, .string ⟨#[]⟩, .int .i64 0, .int .i64 j] 52)) nq
  have hbel := below_drewN ((Below.refl B w).alloc (by omega) (.cells #[.int .i64 0, .string ⟨#[]⟩, .int .i64 0, .int .i64 j] 52)) nq
  clear h0 h1 f1 hb hown
  generalize (w.alloc (.cells #[.int .i64 0, .string ⟨#[]⟩, .int .i64 0, .int .i64 j] 52)).drewN nq = w1 at *
  have e0 : w1.cell? ⟨b, 0, none⟩ = some (.string ⟨s.toArray⟩) := hb1.cell 0
  have e1 : w1.cell? ⟨b, 1, none⟩ = some (.int .i64 j) := hb1.cell 1
  have f1 := hb1.frozen 1
  have t0 : w1.cell? ⟨w.heap.size, 0, none⟩ = some (.int .i64 0) := hT'.cell 0
  have t1 : w1.cell? ⟨w.heap.size, 1, none⟩ = some (.string ⟨#[]⟩) := hT'.cell 1
  have u0 := hT'.frozen 0
  have u1 := hT'.frozen 1
  have s2 : w.heap.size < w1.heap.size := hT'.lt
  go_wp2_with (first
    | (go_at_call 86; refine (letter_c _ _).mono ?_; rintro e w' ⟨rfl, rfl⟩)
    | (go_at_call 90; refine (digit_c _ _).mono ?_; rintro e w' ⟨rfl, rfl⟩)
    | (go_at_call 88; refine (capital_c _ _).mono ?_; rintro e w' ⟨rfl, rfl⟩))
  go_region
  clear g1 g2 g3 g4 g5 hsl
  go_wp2
  have ho2 : Only w.heap.size w1 ((w1.setCell ⟨w.heap.size, 0, none⟩ (.int .i64 4)).setCell ⟨w.heap.size, 1, none⟩ (.string ⟨#[s[j]]⟩)) := (Only.rf.set 0 _).set 1 _
  have hb2' := hb1.only ho2 hne
  have hT2' := (hT'.set 0 (.int .i64 4)).set 1 (.string ⟨#[s[j]]⟩)
  have hown2' := own_only hown1 ho2 hlt'
  have hbel2' := below_only hbel ho2 hBw (Nat.le_trans hBw hbel.size)
  have ho3 : Only b ((w1.setCell ⟨w.heap.size, 0, none⟩ (.int .i64 4)).setCell ⟨w.heap.size, 1, none⟩ (.string ⟨#[s[j]]⟩)) (((w1.setCell ⟨w.heap.size, 0, none⟩ (.int .i64 4)).setCell ⟨w.heap.size, 1, none⟩ (.string ⟨#[s[j]]⟩)).setCell ⟨b, 1, none⟩ (.int .i64 ((j : Int) + 1))) := Only.rf.set 1 _
  have hb2 : Blk (((w1.setCell ⟨w.heap.size, 0, none⟩ (.int .i64 4)).setCell ⟨w.heap.size, 1, none⟩ (.string ⟨#[s[j]]⟩)).setCell ⟨b, 1, none⟩ (.int .i64 ((j : Int) + 1))).drew b t (cur s (j + 1) [tv]) := cur_set ▸ hb2'.set 1 (.int .i64 ((j : Int) + 1))
  have hT2 : Blk (((w1.setCell ⟨w.heap.size, 0, none⟩ (.int .i64 4)).setCell ⟨w.heap.size, 1, none⟩ (.string ⟨#[s[j]]⟩)).setCell ⟨b, 1, none⟩ (.int .i64 ((j : Int) + 1))).drew w.heap.size 52 _ := hT2'.only (Only.drew ho3) (Ne.symm hne)
  have hown2 := (own_only hown2' ho3 (own_ne hown2' hb2' (Ne.symm ht))).drew
  have hbel2 := (below_only hbel2' ho3 hB (Nat.le_trans hBw hbel2'.size)).drew
  have s3 := hT2.lt
  clear hb2' hT2' hown2' hbel2' ho2 ho3 hb1 hT' hown1 hbel e0 e1 f1 t0 t1 u0 u1
  generalize (((w1.setCell ⟨w.heap.size, 0, none⟩ (.int .i64 4)).setCell ⟨w.heap.size, 1, none⟩ (.string ⟨#[s[j]]⟩)).setCell ⟨b, 1, none⟩ (.int .i64 ((j : Int) + 1))).drew = w2 at *
  have e2 : w2.cell? ⟨b, 2, none⟩ = some tv := hb2.cell 2
  have f2 := hb2.frozen 2
  have x2 : (w2.alloc (.cells #[.int .i64 4, .string ⟨#[s[j]]⟩, .int .i64 0, .int .i64 j] 52)).cell? ⟨b, 2, none⟩ = some tv := (hb2.alloc _).cell 2
  have t0 : w2.cell? ⟨w.heap.size, 0, none⟩ = some (.int .i64 4) := hT2.cell 0
  have t1 : w2.cell? ⟨w.heap.size, 1, none⟩ = some (.string ⟨#[s[j]]⟩) := hT2.cell 1
  have t2 : w2.cell? ⟨w.heap.size, 2, none⟩ = some (.int .i64 0) := hT2.cell 2
  have t3 : w2.cell? ⟨w.heap.size, 3, none⟩ = some (.int .i64 j) := hT2.cell 3
  have n1 : some b ≠ tv.ownBlock := Ne.symm (own_ne hown2 hb2 (Ne.symm ht))
  have n2 : some w.heap.size ≠ tv.ownBlock := Ne.symm hlt'
  have hne2 : b ≠ w2.heap.size := by have := hb2.lt; omega
  go_region_law
    ((refine step_append_sits _ (by rfl) _ _ _ (by rfl) B 52 4 40 _ Tryd.underlying48 tok_info rfl (by omega) tv acc.length (tks acc) (by rfl) ((hown2.alloc _).drew) _ _ _ [.int .i64 4, .string ⟨#[s[j]]⟩, .int .i64 0, .int .i64 j] (by rfl) (by rfl) (Sits.drew (Sits.new _ _ _)) (by simp [Value.oneCell']) (by simp only [maxLen]; omega) (by omega) (by simp; omega) ?_; intro v3 w3 hown3 hb3 hg3; obtain ⟨A3, c3, rfl, hc3, hc4⟩ := own_form hown3; have e3 : w3.cell? ⟨b, 2, none⟩ = some tv := hg3.cell ((hb2.alloc _).cell 2) n1; have f3 : w3.frozen? ⟨b, 2, none⟩ = false := hg3.frozenB ((hb2.alloc _)) n1 2))
  all_goals (go_wp2; go_ret; exact scan_good HO.out (scan_end (tok := ⟨4, [s[j]], 0, j⟩) hB ht (by omega) hbel2 hb2 n1 hg3 hb3 hown3))
theorem scan_punt (B b : Nat) (t : TypeId) (s : List UInt8) (j : Nat) (tv : Value) (acc : List CL.Tk) (w : World) (hs : s.length ≤ 1024) (hj : j < s.length) (ht : t ≠ 52) (hB : B ≤ b) (hb : Blk w b t (cur s j [tv]))
    (hown : w.ownsRow B 52 4 tv acc.length (tks acc)) (ha : acc.length ≤ s.length) (hc0 : CL.at8 CL.ltr s[j] = false) (hc1 : CL.at8 CL.cap s[j] = false) (hc2 : CL.at8 CL.dig s[j] = false) (hp : CL.at8 CL.pun s[j] = true) :
    Calls Tryd.prog 62 #[.pointer (some ⟨b, 0, none⟩)] w (ScanPost B b t s j acc w) := by
  rcases CL.pun_yes hp with hq | hq | hq | hq | hq
  · exact scan_pun0 B b t s j tv acc w hs hj ht hB hb hown ha hc0 hc1 hc2 hp hq
  · exact scan_pun1 B b t s j tv acc w hs hj ht hB hb hown ha hc0 hc1 hc2 hp hq
  · exact scan_pun2 B b t s j tv acc w hs hj ht hB hb hown ha hc0 hc1 hc2 hp hq
  · exact scan_pun3 B b t s j tv acc w hs hj ht hB hb hown ha hc0 hc1 hc2 hp hq
  · exact scan_pun4 B b t s j tv acc w hs hj ht hB hb hown ha hc0 hc1 hc2 hp hq
set_option maxRecDepth 100000 in
set_option maxHeartbeats 1600000 in
theorem scan_punf (B b : Nat) (t : TypeId) (s : List UInt8) (j : Nat) (tv : Value) (acc : List CL.Tk) (w : World) (hj : j < s.length) (hB : B ≤ b) (hb : Blk w b t (cur s j [tv]))
    (hc0 : CL.at8 CL.ltr s[j] = false) (hc1 : CL.at8 CL.cap s[j] = false) (hc2 : CL.at8 CL.dig s[j] = false) (hp : ¬ CL.at8 CL.pun s[j] = true) :
    Calls Tryd.prog 62 #[.pointer (some ⟨b, 0, none⟩)] w (ScanPost B b t s j acc w) := by
  have h0 : w.cell? ⟨b, 0, none⟩ = some (.string ⟨s.toArray⟩) := hb.cell 0
  have h1 : w.cell? ⟨b, 1, none⟩ = some (.int .i64 j) := hb.cell 1
  have hlt := hb.lt
  have c0 : CL.ltr (((⟨s.toArray⟩ : ByteArray)[j]'hj).toNat : Int) = false := hc0
  have c1 : CL.cap (((⟨s.toArray⟩ : ByteArray)[j]'hj).toNat : Int) = false := hc1
  have c2 : CL.dig (((⟨s.toArray⟩ : ByteArray)[j]'hj).toNat : Int) = false := hc2
  have d1 : ((((⟨s.toArray⟩ : ByteArray)[j]'hj).toNat : Int) == 40) = false := by have := CL.pun_no hp; exact this.1
  have d2 : ((((⟨s.toArray⟩ : ByteArray)[j]'hj).toNat : Int) == 41) = false := by have := CL.pun_no hp; exact this.2.1
  have d3 : ((((⟨s.toArray⟩ : ByteArray)[j]'hj).toNat : Int) == 44) = false := by have := CL.pun_no hp; exact this.2.2.1
  have d4 : ((((⟨s.toArray⟩ : ByteArray)[j]'hj).toNat : Int) == 58) = false := by have := CL.pun_no hp; exact this.2.2.2.1
  have d5 : ((((⟨s.toArray⟩ : ByteArray)[j]'hj).toNat : Int) == 42) = false := by have := CL.pun_no hp; exact this.2.2.2.2
  have HO := Lib.hid ((CL.one_pun (i := j) hj hc0 hc1 hc2).trans (if_neg hp))
  clear hp
  go_enter Tryd.func62, Tryd.ntmps62
  go_wp2
  go_quiet (fail)
  go_wp2_with (first
    | (go_at_call 86; refine (letter_c _ _).mono ?_; rintro e w' ⟨rfl, rfl⟩)
    | (go_at_call 90; refine (digit_c _ _).mono ?_; rintro e w' ⟨rfl, rfl⟩)
    | (go_at_call 88; refine (capital_c _ _).mono ?_; rintro e w' ⟨rfl, rfl⟩))
  go_ret
  exact scan_bad (by decide) HO.out (below_drewN ((Below.refl B w).alloc (by omega) _) _)
end Go.Proofs.YtlfnpkjfnafeaaaDoor
/- The walks of the lexer, fourth part: numbers; scan as a whole. -/
namespace Go.Proofs.YtlfnpkjfnafeaaaDoor
open Go.RowKit
theorem val_step {l : List UInt8} {k : Nat} (h : k < l.length) : CL.val (l.take (k + 1)) = 10 * CL.val (l.take k) + ((l[k].toNat : Int) - 48) := by
  unfold CL.val
  rw [List.take_succ_eq_append_getElem h, List.foldl_append]; rfl
theorem val_bd {l : List UInt8} (hd : ∀ k, (h : k < l.length) → CL.at8 CL.dig l[k] = true) (k : Nat) (hk : k ≤ l.length) : 0 ≤ CL.val (l.take k) ∧ CL.val (l.take k) < 10 ^ k := by
  induction k with
  | zero => simp [CL.val]
  | succ k ih =>
    have h1 := ih (by omega)
    have h2 := hd k (by omega)
    simp only [CL.at8, CL.dig, decide_eq_true_eq] at h2
    rw [val_step (by omega), Int.pow_succ]
    omega
theorem span_all {p : Int → Bool} {r : List UInt8} (k : Nat) (h : k < (r.take (CL.spanN p r)).length) : CL.at8 p (r.take (CL.spanN p r))[k] = true := by
  have e : r.take (CL.spanN p r) = r.takeWhile (CL.at8 p) := by
    unfold CL.spanN
    exact (List.prefix_iff_eq_take.1 (List.takeWhile_prefix _)).symm
  have h2 : ∀ x ∈ r.takeWhile (CL.at8 p), CL.at8 p x = true := by
    intro x hx
    have := List.all_takeWhile (p := CL.at8 p) (l := r)
    exact (List.all_eq_true.1 this) x hx
  exact h2 _ (by rw [← e]; exact List.getElem_mem _)
set_option maxRecDepth 100000 in
set_option maxHeartbeats 1600000 in
theorem scan_num (B b : Nat) (t : TypeId) (s : List UInt8) (j : Nat) (tv : Value) (acc : List CL.Tk) (w : World) (hs : s.length ≤ 1024) (hj : j < s.length) (ht : t ≠ 52) (hB : B ≤ b) (hb : Blk w b t (cur s j [tv]))
    (hown : w.ownsRow B 52 4 tv acc.length (tks acc)) (ha : acc.length ≤ s.length) (hc0 : CL.at8 CL.ltr s[j] = false) (hc1 : CL.at8 CL.cap s[j] = false) (hc : CL.at8 CL.dig s[j] = true) :
    Calls Tryd.prog 62 #[.pointer (some ⟨b, 0, none⟩)] w (ScanPost B b t s j acc w) := by
  have h0 : w.cell? ⟨b, 0, none⟩ = some (.string ⟨s.toArray⟩) := hb.cell 0
  have h1 : w.cell? ⟨b, 1, none⟩ = some (.int .i64 j) := hb.cell 1
  have hlt := hb.lt
  have hne : b ≠ w.heap.size := by omega
  have hBw : B ≤ w.heap.size := by omega
  have hlt' : tv.ownBlock ≠ some w.heap.size := fun e => by have := (hown.lt _ e).2; omega
  have c0 : CL.ltr (((⟨s.toArray⟩ : ByteArray)[j]'hj).toNat : Int) = false := hc0
  have c1 : CL.cap (((⟨s.toArray⟩ : ByteArray)[j]'hj).toNat : Int) = false := hc1
  have c2 : CL.dig (((⟨s.toArray⟩ : ByteArray)[j]'hj).toNat : Int) = true := hc
  have HO := Lib.hid (CL.one_num (i := j) hj hc0 hc1 hc)
  have HD := Lib.hid (span_all (p := CL.dig) (r := s.drop j))
  go_enter Tryd.func62, Tryd.ntmps62
  go_wp2
  go_quiet (fail)
  go_wp2_with (first
    | (go_at_call 86; refine (letter_c _ _).mono ?_; rintro e w' ⟨rfl, rfl⟩)
    | (go_at_call 90; refine (digit_c _ _).mono ?_; rintro e w' ⟨rfl, rfl⟩)
    | (go_at_call 88; refine (capital_c _ _).mono ?_; rintro e w' ⟨rfl, rfl⟩))
  refine (run_digit b t s j [tv] _ (by unfold maxLen; omega) (by omega) ((hb.alloc _).drewN _)).mono ?_
  rintro e w1 ⟨rfl, hb1, ho1⟩
  have hT' : Blk w1 w.heap.size 52 #[.int .i64 0, .string ⟨#[]⟩, .int .i64 0, .int .i64 j] := Blk.only ((Blk.new w _ _).drewN _) ho1 (by omega)
  have hown1 := own_only (own_drewN (hown.alloc _) _) ho1 (own_ne hown hb (Ne.symm ht))
  have hbel : Below B w w1 := below_only (below_drewN ((Below.refl B w).alloc (by omega) _) _) ho1 hB (by simp; omega)
  have e0 : w1.cell? ⟨b, 0, none⟩ = some (.string ⟨s.toArray⟩) := hb1.cell 0
  have e2 : w1.cell? ⟨b, 2, none⟩ = some tv := hb1.cell 2
  have f2 := hb1.frozen 2
  have t0 : w1.cell? ⟨w.heap.size, 0, none⟩ = some (.int .i64 0) := hT'.cell 0
  have t1 : w1.cell? ⟨w.heap.size, 1, none⟩ = some (.string ⟨#[]⟩) := hT'.cell 1
  have t2 : w1.cell? ⟨w.heap.size, 2, none⟩ = some (.int .i64 0) := hT'.cell 2
  have t3 : w1.cell? ⟨w.heap.size, 3, none⟩ = some (.int .i64 j) := hT'.cell 3
  have u0 := hT'.frozen 0
  have u1 := hT'.frozen 1
  have u2 := hT'.frozen 2
  clear h0 h1 hb hown ho1
  have hnl := CL.spanN_le CL.dig (s.drop j)
  generalize hn : CL.spanN CL.dig (s.drop j) = n at *
  have HN := Lib.hid hn
  clear hn
  simp only [List.length_drop] at hnl
  have hwl : ((s.drop j).take n).length = n := by simp; omega
  generalize hwd : (s.drop j).take n = wd at *
  have HW := Lib.hid hwd
  clear hwd
  have hz : ((((⟨s.toArray⟩ : ByteArray)[j]'hj).toNat : Int) == 48) = decide (s[j] = 48) := by
    rw [Bool.eq_iff_iff]; simp only [beq_iff_eq, decide_eq_true_eq]
    exact ⟨fun h => UInt8.toNat_inj.1 (by have : s[j].toNat = 48 := by exact_mod_cast h
                                          simpa using this), fun h => by show ((s[j]).toNat : Int) = 48; rw [h]; rfl⟩
  have s2 : w.heap.size < w1.heap.size := hT'.lt
  by_cases hlen : 4 < wd.length ∨ (1 < wd.length ∧ s[j] = 48)
  · replace HO := Lib.hid (HO.out.trans (if_pos (by rw [← hwl]; exact hlen)))
    clear HD HN HW
    by_cases h4 : 4 < wd.length
    · clear hz hlen
      go_wp2
      go_ret
      exact scan_bad (by decide) HO.out hbel
    · have h1 : 1 < wd.length := by rcases hlen with h | h; exact absurd h h4; exact h.1
      have hz1 : ((((⟨s.toArray⟩ : ByteArray)[j]'hj).toNat : Int) == 48) = true := by
        rw [hz]; rcases hlen with h | h; exact absurd h h4; simp [h.2]
      clear hz hlen
      go_wp2
      go_ret
      exact scan_bad (by decide) HO.out hbel
  · replace HO := Lib.hid (HO.out.trans (if_neg (by rw [← hwl]; exact hlen)))
    have hl4 : wd.length ≤ 4 := by omega
    have hT2 := hT'.set 0 (.int .i64 3)
    have ho2 : Only w.heap.size w1 (w1.setCell ⟨w.heap.size, 0, none⟩ (.int .i64 3)) := Only.rf.set 0 _
    have hb2 := hb1.only ho2 hne
    have hown2 := own_only hown1 ho2 hlt'
    have hbel2 := below_only hbel ho2 hBw (Nat.le_trans hBw hbel.size)
    have HV : ∀ k, k ≤ wd.length → 0 ≤ CL.val (wd.take k) ∧ CL.val (wd.take k) < 10 ^ k := by
      intro k hk
      exact val_bd HD.out k hk
    have HV := Lib.hid HV
    have HD2 : ∀ k, (h : k < wd.length) → CL.at8 CL.dig wd[k] = true := HD.out
    have HD2 := Lib.hid HD2
    clear hT' hown1 hbel ho2 HD
    have hg1 : wd.length ≤ 1 ∨ (1 < wd.length ∧ ((((⟨s.toArray⟩ : ByteArray)[j]'hj).toNat : Int) == 48) = false) := by
      rcases Nat.lt_or_ge 1 wd.length with h | h
      · exact .inr ⟨h, by rw [hz]; simp; intro h'; exact hlen (.inr ⟨h, h'⟩)⟩
      · exact .inl h
    clear hz hlen
    rcases hg1 with hg1 | ⟨hg0, hg1⟩
    all_goals
      go_wp2
      generalize w1.setCell ⟨w.heap.size, 0, none⟩ (.int .i64 3) = w2 at *
      clear e0 e2 f2 t0 t1 t2 t3 u0 u1 u2 hb1
      go_loopw [80] (fun i wr => ∃ k : Nat, k ≤ wd.length ∧ i = .int .i64 k ∧ Blk wr w.heap.size 52 #[.int .i64 3, .string ⟨#[]⟩, .int .i64 (CL.val (wd.take k)), .int .i64 j] ∧ Only w.heap.size w2 wr) (fun i _ => wd.length - (intOf i).toNat)
      case atStart => exact ⟨0, by omega, rfl, hT2, Only.rf⟩
      case round =>
        obtain ⟨k, hk, rfl, hTk, hok⟩ := hrel
        obtain ⟨wo, rfl⟩ : ∃ wo : World, wo = wr := ⟨_, rfl⟩
        by_cases hlt2 : k < wd.length
        · have x2 : wo.cell? ⟨w.heap.size, 2, none⟩ = some (.int .i64 (CL.val (wd.take k))) := hTk.cell 2
          have y2 := hTk.frozen 2
          have HS := Lib.hid (val_step hlt2)
          have hv1 := (HV.out k hk).1
          have hv2 : CL.val (wd.take k) < 1000 := by
            have := (HV.out k hk).2
            have hk3 : k ≤ 3 := by omega
            have : (10 : Int) ^ k ≤ 10 ^ 3 := by
              rcases (show k = 0 ∨ k = 1 ∨ k = 2 ∨ k = 3 by omega) with rfl | rfl | rfl | rfl <;> decide
            omega
          have hd := HD2.out k hlt2
          simp only [CL.at8, CL.dig, decide_eq_true_eq] at hd
          obtain ⟨hd1, hd2⟩ := hd
          generalize hv : CL.val (wd.take k) = v at *
          have HVV := Lib.hid hv
          clear hv
          have hcb : (((⟨wd.toArray⟩ : ByteArray)[k]'hlt2).toNat : Int) = (wd[k].toNat : Int) := rfl
          have g1 : IntKind.u8.wrap ((((⟨wd.toArray⟩ : ByteArray)[k]'hlt2).toNat : Int) - 48) = (((⟨wd.toArray⟩ : ByteArray)[k]'hlt2).toNat : Int) - 48 := IntWalk.u8_in _ (by rw [hcb]; omega)
          have g2 : IntKind.i64.wrap (10 * v) = 10 * v := IntWalk.i64_in _ (by omega)
          have g3 : IntKind.i64.wrap (10 * v + ((((⟨wd.toArray⟩ : ByteArray)[k]'hlt2).toNat : Int) - 48)) = 10 * v + ((((⟨wd.toArray⟩ : ByteArray)[k]'hlt2).toNat : Int) - 48) := IntWalk.i64_in _ (by rw [hcb]; omega)
          have g4 : IntKind.i64.wrap ((((⟨wd.toArray⟩ : ByteArray)[k]'hlt2).toNat : Int) - 48) = (((⟨wd.toArray⟩ : ByteArray)[k]'hlt2).toNat : Int) - 48 := IntWalk.i64_in _ (by rw [hcb]; omega)
          clear hcb
          go_wp2
          go_region
          go_wp2
          refine ⟨⟨k + 1, by omega, by go_num, ?_, ?_⟩, by simp [intOf]; omega⟩
          · rw [HS.out]; exact hTk.set 2 _
          · exact Only.drew (hok.set 2 _)
        · have hT3 : Blk wo w.heap.size 52 #[.int .i64 3, .string ⟨#[]⟩, .int .i64 (CL.val wd), .int .i64 j] := by
            rw [show CL.val wd = CL.val (wd.take k) by rw [List.take_of_length_le (by omega)]]; exact hTk
          have hb3 := hb2.only hok hne
          have hown3 := own_only hown2 hok hlt'
          have hbel3 := below_only hbel2 hok hBw (Nat.le_trans hBw hbel2.size)
          clear hT2 hTk hb2 hown2 hbel2 hok
          have hT2 := hT3
          have hb2 := hb3
          have hown2 := hown3
          have hbel2 := hbel3
          have s3 := hT3.lt
          clear hT3 hb3 hown3 hbel3
          go_wp2
          have e2 : wo.cell? ⟨b, 2, none⟩ = some tv := hb2.cell 2
          have f2 := hb2.frozen 2
          have x2 : (wo.alloc (.cells #[.int .i64 3, .string ⟨#[]⟩, .int .i64 (CL.val wd), .int .i64 j] 52)).cell? ⟨b, 2, none⟩ = some tv := (hb2.alloc _).cell 2
          have t0 : wo.cell? ⟨w.heap.size, 0, none⟩ = some (.int .i64 3) := hT2.cell 0
          have t1 : wo.cell? ⟨w.heap.size, 1, none⟩ = some (.string ⟨#[]⟩) := hT2.cell 1
          have t2 : wo.cell? ⟨w.heap.size, 2, none⟩ = some (.int .i64 (CL.val wd)) := hT2.cell 2
          have t3 : wo.cell? ⟨w.heap.size, 3, none⟩ = some (.int .i64 j) := hT2.cell 3
          have n1 : some b ≠ tv.ownBlock := Ne.symm (own_ne hown2 hb2 (Ne.symm ht))
          have n2 : some w.heap.size ≠ tv.ownBlock := Ne.symm hlt'
          have hne2 : b ≠ wo.heap.size := by have := hb2.lt; omega
          go_region_law
            ((refine step_append_sits _ (by rfl) _ _ _ (by rfl) B 52 4 40 _ Tryd.underlying48 tok_info rfl (by omega) tv acc.length (tks acc) (by rfl) ((hown2.alloc _).drew) _ _ _ [.int .i64 3, .string ⟨#[]⟩, .int .i64 (CL.val wd), .int .i64 j] (by rfl) (by rfl) (Sits.drew (Sits.new _ _ _)) (by simp [Value.oneCell']) (by simp only [maxLen]; omega) (by omega) (by simp; omega) ?_; intro v3 w3 hown3 hb3 hg3; obtain ⟨A3, c3, rfl, hc3, hc4⟩ := own_form hown3; have e3 : w3.cell? ⟨b, 2, none⟩ = some tv := hg3.cell ((hb2.alloc _).cell 2) n1; have f3 : w3.frozen? ⟨b, 2, none⟩ = false := hg3.frozenB ((hb2.alloc _)) n1 2))
          all_goals (go_wp2; go_ret; exact scan_good HO.out (scan_end (tok := ⟨3, [], (CL.val wd), j⟩) hB ht (by omega) hbel2 hb2 n1 hg3 hb3 hown3))
theorem scan_c (B b : Nat) (t : TypeId) (s : List UInt8) (j : Nat) (tv : Value) (acc : List CL.Tk) (w : World) (hs : s.length ≤ 1024) (hj : j < s.length) (ht : t ≠ 52) (hB : B ≤ b) (hb : Blk w b t (cur s j [tv]))
    (hown : w.ownsRow B 52 4 tv acc.length (tks acc)) (ha : acc.length ≤ s.length) :
    Calls Tryd.prog 62 #[.pointer (some ⟨b, 0, none⟩)] w (ScanPost B b t s j acc w) := by
  by_cases h0 : CL.at8 CL.ltr s[j] = true
  · exact scan_word B b t s j tv acc w hs hj ht hB hb hown ha h0
  · simp only [Bool.not_eq_true] at h0
    by_cases h1 : CL.at8 CL.cap s[j] = true
    · exact scan_mode B b t s j tv acc w hs hj ht hB hb hown ha h0 h1
    · simp only [Bool.not_eq_true] at h1
      by_cases h2 : CL.at8 CL.dig s[j] = true
      · exact scan_num B b t s j tv acc w hs hj ht hB hb hown ha h0 h1 h2
      · simp only [Bool.not_eq_true] at h2
        by_cases h3 : CL.at8 CL.pun s[j] = true
        · exact scan_punt B b t s j tv acc w hs hj ht hB hb hown ha h0 h1 h2 h3
        · exact scan_punf B b t s j tv acc w hj hB hb h0 h1 h2 h3
end Go.Proofs.YtlfnpkjfnafeaaaDoor
/- The walks of the lexer, fifth part: all tokens, by the program and by the reference. -/
namespace Go.Proofs.YtlfnpkjfnafeaaaDoor
open Go.RowKit
/-- what Tokens leaves -/
def TokPost (s : List UInt8) (w : World) (e : Ending) (w' : World) : Prop :=
  ∃ v, e = .returned (.tuple #[v, .int .i64 (CL.tokens s).2.1, .int .i64 (CL.tokens s).2.2]) ∧ w'.ownsRow w.heap.size 52 4 v (CL.tokens s).1.length (tks (CL.tokens s).1) ∧ Ext w w'
theorem tokPost_err {s : List UInt8} {w w' : World} {a k : Int} (h : CL.tokens s = ([], a, k)) (hx : Ext w w') : TokPost s w (.returned (.tuple #[.slice none 0 0, .int .i64 a, .int .i64 k])) w' := by
  unfold TokPost; rw [h]; exact ⟨_, rfl, World.ownsRow_nil _ _ _ _, hx⟩
theorem tokPost_ok {s : List UInt8} {w w' : World} {acc : List CL.Tk} {v : Value} {tok : CL.Tk} (h : CL.tokens s = (acc ++ [tok], 0, 0)) (ho : w'.ownsRow w.heap.size 52 4 v (acc.length + 1) (tks acc ++ tkc tok)) (hx : Ext w w') :
    TokPost s w (.returned (.tuple #[v, .int .i64 0, .int .i64 0])) w' := by
  unfold TokPost; rw [h]; exact ⟨_, rfl, by rw [tks_snoc, List.length_append]; exact ho, hx⟩
set_option maxHeartbeats 1600000 in
theorem Tokens_c (s : List UInt8) (w : World) (hs : s.length ≤ maxLen) : Calls Tryd.prog 33 #[.string ⟨s.toArray⟩] w (TokPost s w) := by
  unfold maxLen at hs
  by_cases hlong : 1024 < s.length
  · have HT := Lib.hid (show CL.tokens s = ([], 0, 3) by simp [CL.tokens, hlong])
    go_enter Tryd.func33, Tryd.ntmps33
    go_wp2
    go_ret3
    exact tokPost_err HT.out (Below.refl _ _)
  · have HT := Lib.hid (show CL.tokens s = CL.tokF s 0 [] by simp [CL.tokens, hlong])
    have hs1 : s.length ≤ 1024 := by omega
    go_enter Tryd.func33, Tryd.ntmps33
    go_wp2
    go_loopw [] (fun wr => ∃ (i : Nat) (acc : List CL.Tk) (tv : Value), i ≤ s.length ∧ acc.length ≤ i ∧ Blk wr w.heap.size 105 (cur s i [tv]) ∧ wr.ownsRow w.heap.size 52 4 tv acc.length (tks acc) ∧ Below w.heap.size w wr ∧ Hid (CL.tokens s = CL.tokF s i acc))
      (fun wr => match wr.cell? ⟨w.heap.size, 1, none⟩ with | some (.int _ n) => s.length - n.toNat | _ => 0)
    case atStart => exact ⟨0, [], .slice none 0 0, by omega, by simp, Blk.new _ _ _, World.ownsRow_nil _ _ _ _, (Below.refl _ _).alloc (Nat.le_refl _) _, HT⟩
    case round =>
      obtain ⟨i, acc, tv, hi, ha, hb, hown, hx, HI⟩ := hrel
      obtain ⟨wo, rfl⟩ : ∃ wo : World, wo = wr := ⟨_, rfl⟩
      have h1 : wo.cell? ⟨w.heap.size, 1, none⟩ = some (.int .i64 i) := hb.cell 1
      have HH := Lib.hid h1
      have hsp := CL.spanN_le CL.spc (s.drop i)
      simp only [List.length_drop] at hsp
      have HI2 : CL.tokens s = CL.tokF s (i + CL.spanN CL.spc (s.drop i)) acc := HI.out.trans (CL.tokF_skip (by omega) (by omega) (fun k h1 h2 h3 => CL.span_in h1 h2 h3))
      have HST := Lib.hid (@CL.span_stop CL.spc s i)
      clear h1
      go_wp2_with fail
      refine (run_Space w.heap.size 105 s i [tv] _ (by unfold maxLen; omega) hi hb).mono ?_
      rintro e w1 ⟨rfl, hb1, ho1⟩
      have hown1 := own_only hown ho1 (own_ne hown hb (by decide))
      have hx1 := below_only hx ho1 (Nat.le_refl _) hx.size
      generalize CL.spanN CL.spc (s.drop i) = n at *
      generalize hj : i + n = j at *
      have HJ := Lib.hid hj
      have HI3 := Lib.hid HI2
      have hij : i ≤ j := by omega
      have hjl : j ≤ s.length := by omega
      clear hj HI2 HI hb hown ho1 hx
      by_cases hlt : j < s.length
      · have hnsp := HST.out hlt
        have e1 : w1.cell? ⟨w.heap.size, 1, none⟩ = some (.int .i64 j) := hb1.cell 1
        go_wp2_with fail
        refine (more_c w.heap.size 105 s j [tv] _ hb1).mono ?_
        rintro e w2 ⟨rfl, m, rfl⟩
        rw [decide_eq_true hlt]
        go_wp2_with fail
        refine (scan_c w.heap.size w.heap.size 105 s j tv acc _ hs1 hlt (by decide) (Nat.le_refl _) (hb1.drewN m) (own_drewN hown1 m) (by omega)).mono ?_
        rintro e w3 ⟨rfl, hok, hbel⟩
        have hx3 := (below_drewN hx1 m).trans hbel
        by_cases ho : (CL.one (s.drop j) j).1 = 0
        · have hoB : ((CL.one (s.drop j) j).1 != 0) = false := by simp [ho]
          obtain ⟨tv', hb3, hown3, _⟩ := hok ho
          have hlen := CL.one_len ho
          simp only [List.length_drop] at hlen
          have HT2 := Lib.hid (HI3.out.trans (CL.tokF_tok hlt hnsp ho))
          have hz : (CL.one (s.drop j) j).1 = 0 := ho
          rw [hz] at *
          clear ho hok hz
          generalize (CL.one (s.drop j) j).2.2 = n2 at *
          generalize (CL.one (s.drop j) j).2.1 = tok at *
          have h3 : w3.cell? ⟨w.heap.size, 1, none⟩ = some (.int .i64 ((j + n2 : Nat) : Int)) := hb3.cell 1
          have H3 := Lib.hid h3
          clear h3
          go_wp2
          refine ⟨⟨j + n2, acc ++ [tok], tv', by omega, by simp; omega, hb3, hown3, hx3, HT2⟩, ?_⟩
          rw [H3.out, HH.out]
          simp; omega
        · have hoB : ((CL.one (s.drop j) j).1 != 0) = true := by simpa using ho
          have HT2 := Lib.hid (HI3.out.trans (CL.tokF_err hlt hnsp ho))
          clear hok
          generalize (CL.one (s.drop j) j).1 = k at *
          clear ho
          go_wp2
          go_ret3
          exact tokPost_err HT2.out hx3
      · obtain rfl : j = s.length := by omega
        have HT2 := Lib.hid (HI3.out.trans (CL.tokF_end rfl))
        go_wp2_with fail
        refine (more_f w.heap.size 105 s s.length [tv] _ (by omega) hb1).mono ?_
        rintro e w2 ⟨rfl, m, rfl⟩
        have e2 : w1.cell? ⟨w.heap.size, 2, none⟩ = some tv := hb1.cell 2
        have hl1 := hx1.size
        go_wp2_with (at_builtin; refine wpList_append_sits _ rfl (.tmp 28) (.tmp 32) _ rfl w.heap.size 52 4 40 _ Tryd.underlying48 tok_info rfl (by omega) _ _ _ rfl ((own_drewN hown1 m).alloc _) _ _ _ [.int .i64 5, .string ⟨#[]⟩, .int .i64 0, .int .i64 s.length] rfl rfl ?_ ?_ ?_ ?_ ?_ ?_)
        · exact Sits.new (w1.drewN m) _ _
        · simp [Value.oneCell']
        · simp only [maxLen]; omega
        · omega
        · simp; omega
        · intro v' w' hown' hb' _
          have hx4 := ((below_drewN hx1 m).alloc hl1 (.cells #[.int .i64 5, .string ⟨#[]⟩, .int .i64 0, .int .i64 s.length] 52)).trans hb'
          clear hb'
          go_wp2
          go_ret3
          exact tokPost_ok HT2.out hown' hx4
theorem tks_get {l : List CL.Tk} {k : Nat} (h : k < l.length) (j : Nat) (hj : j < 4) : (tks l)[k * 4 + j]? = (tkc l[k])[j]? := by
  unfold tks
  induction l generalizing k with
  | nil => simp at h
  | cons t l ih =>
    cases k with
    | zero =>
      rw [List.flatMap_cons, List.getElem?_append_left (by simp [tkc]; omega)]; simp
    | succ k =>
      rw [List.flatMap_cons, List.getElem?_append_right (by simp [tkc]; omega)]
      have := ih (k := k) (by simpa using h)
      simp only [List.getElem_cons_succ, tkc, List.length_cons, List.length_nil] at this ⊢
      rw [← this]; congr 1; omega
theorem tok_cells {w : World} {l : List CL.Tk} {p o k : Nat} (hc : ∀ j u, (tks l)[j]? = some u → w.cell? ⟨p, o + j, none⟩ = some u) (h : k < l.length) :
    w.cell? ⟨p, o + k * 4, none⟩ = some (.int .i64 l[k].kind) ∧ w.cell? ⟨p, o + k * 4 + 1, none⟩ = some (.string ⟨l[k].text.toArray⟩) ∧ w.cell? ⟨p, o + k * 4 + 2, none⟩ = some (.int .i64 l[k].num) ∧ w.cell? ⟨p, o + k * 4 + 3, none⟩ = some (.int .i64 l[k].pos) := by
  refine ⟨?_, ?_, ?_, ?_⟩
  · exact hc (k * 4 + 0) _ (tks_get h 0 (by omega))
  · exact hc (k * 4 + 1) _ (tks_get h 1 (by omega))
  · exact hc (k * 4 + 2) _ (tks_get h 2 (by omega))
  · exact hc (k * 4 + 3) _ (tks_get h 3 (by omega))
theorem tok_eqIn (x y : CL.Tk) (W : World) : (Op.equalIn 10000 52 (.agg #[.int .i64 x.kind, .string ⟨x.text.toArray⟩, .int .i64 x.num, .int .i64 x.pos]) (.agg #[.int .i64 y.kind, .string ⟨y.text.toArray⟩, .int .i64 y.num, .int .i64 y.pos])).run Tryd.prog W = .ok (decide (x = y)) W := by
  have h1 : Tryd.prog.stoodInHeld 52 = false := by kernel_rfl
  rw [run_equalIn_struct (d := 9999) _ _ _ _ (by simp [Program.fieldsOf, Tryd.underlying52]) h1]
  simp [Program.fieldsOf, Tryd.underlying52, Op.eqFields, go_sem, Tryd.underlying3, Tryd.underlying9]
  obtain ⟨k, t, n, p⟩ := x
  obtain ⟨k', t', n', p'⟩ := y
  by_cases e1 : k = k' <;> by_cases e2 : t = t' <;> by_cases e3 : n = n' <;> by_cases e4 : p = p' <;> simp [e1, e2, e3, e4]
theorem tok_neq (x y : CL.Tk) (W : World) : (binOp .neq 52 (.agg #[.int .i64 x.kind, .string ⟨x.text.toArray⟩, .int .i64 x.num, .int .i64 x.pos]) (.agg #[.int .i64 y.kind, .string ⟨y.text.toArray⟩, .int .i64 y.num, .int .i64 y.pos])).run Tryd.prog W = .ok (.bool (!decide (x = y))) W := by
  rw [run_neq_struct, tok_eqIn]; rfl
theorem tok_eql (x y : CL.Tk) (W : World) : (binOp .eql 52 (.agg #[.int .i64 x.kind, .string ⟨x.text.toArray⟩, .int .i64 x.num, .int .i64 x.pos]) (.agg #[.int .i64 y.kind, .string ⟨y.text.toArray⟩, .int .i64 y.num, .int .i64 y.pos])).run Tryd.prog W = .ok (.bool (decide (x = y))) W := by
  rw [run_eql_struct, tok_eqIn]; rfl
theorem tok_guard : Tryd.prog.eqGuardType Tryd.prog.depth 52 = false := by kernel_rfl
end Go.Proofs.YtlfnpkjfnafeaaaDoor
