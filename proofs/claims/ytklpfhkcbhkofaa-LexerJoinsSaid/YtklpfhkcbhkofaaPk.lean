
/- Plain: what the lexer promises of its tokens. No program in sight. -/
import Derived.Test.YtklpfhkcbhkofaaPe
import Derived.Test.YtklpfhkcbhkofaaLx3
namespace CL
theorem take_span (p : Int → Bool) (r : List UInt8) : r.take (spanN p r) = r.takeWhile (at8 p) := by
  unfold spanN
  induction r with
  | nil => rfl
  | cons c r ih =>
    by_cases h : at8 p c = true
    · simp [h, ih]
    · simp [h]
theorem prs_in {s : List UInt8} (h : prs s ≠ 0) : 1 ≤ prs s ∧ prs s ≤ 5 := by
  unfold prs at h ⊢
  by_cases h1 : s = [73, 83] <;> by_cases h2 : s = [73, 88] <;> by_cases h3 : s = [83] <;> by_cases h4 : s = [83, 73, 88] <;> by_cases h5 : s = [88] <;> simp_all
theorem val_bound : ∀ (l : List UInt8) (n : Int), (∀ c ∈ l, at8 dig c = true) → 0 ≤ n → 0 ≤ l.foldl (fun n c => 10 * n + ((c.toNat : Int) - 48)) n ∧ l.foldl (fun n c => 10 * n + ((c.toNat : Int) - 48)) n < (n + 1) * 10 ^ l.length
  | [], n, _, h0 => by simp; omega
  | c :: l, n, h, h0 => by
    have hc := h c (by simp)
    simp only [at8, dig, decide_eq_true_eq] at hc
    obtain ⟨k1, k2⟩ := val_bound l (10 * n + ((c.toNat : Int) - 48)) (fun x hx => h x (by simp [hx])) (by omega)
    refine ⟨k1, Int.lt_of_lt_of_le k2 ?_⟩
    have h10 : (0 : Int) ≤ 10 ^ l.length := by exact Int.pow_nonneg (by omega)
    calc (10 * n + ((c.toNat : Int) - 48) + 1) * 10 ^ l.length ≤ ((n + 1) * 10) * 10 ^ l.length := Int.mul_le_mul_of_nonneg_right (by omega) h10
      _ = (n + 1) * 10 ^ (c :: l).length := by rw [List.length_cons, Int.pow_succ, Int.mul_assoc, Int.mul_comm 10]
theorem one_TkOk {r : List UInt8} {i n : Nat} {t : Tk} (h : one r i = (0, t, n)) : TkOk t := by
  unfold one at h
  cases r with
  | nil => simp at h
  | cons c r =>
    simp only at h
    by_cases h1 : at8 ltr c = true
    · rw [if_pos h1] at h
      by_cases h2 : 12 < spanN prt (c :: r)
      · rw [if_pos h2] at h; simp at h
      · rw [if_neg h2] at h
        injection h with _ h
        injection h with h _
        subst h
        refine ⟨fun _ => ?_, fun h => by simp at h, fun h => by simp at h⟩
        have e := take_span prt (c :: r)
        have e2 : (c :: r).takeWhile (at8 prt) = c :: r.takeWhile (at8 prt) := by simp [prt_ltr h1]
        have e3 : spanN prt (c :: r) = (r.takeWhile (at8 prt)).length + 1 := by simp [spanN, prt_ltr h1]
        refine ⟨c, r.takeWhile (at8 prt), by simp only; rw [e, e2], by omega, h1, ?_⟩
        exact List.all_takeWhile
    · rw [if_neg h1] at h
      by_cases h2 : at8 cap c = true
      · rw [if_pos h2] at h
        by_cases h3 : prs ((c :: r).take (spanN cap (c :: r))) = 0
        · rw [if_pos h3] at h; simp at h
        · rw [if_neg h3] at h
          injection h with _ h
          injection h with h _
          subst h
          exact ⟨fun h => by simp at h, fun _ => prs_in h3, fun h => by simp at h⟩
      · rw [if_neg h2] at h
        by_cases h3 : at8 dig c = true
        · rw [if_pos h3] at h
          by_cases h4 : 4 < spanN dig (c :: r) ∨ (1 < spanN dig (c :: r) ∧ c = 48)
          · rw [if_pos h4] at h; simp at h
          · rw [if_neg h4] at h
            injection h with _ h
            injection h with h _
            subst h
            refine ⟨fun h => by simp at h, fun h => by simp at h, fun _ => ?_⟩
            simp only
            rw [take_span]
            have hl : ((c :: r).takeWhile (at8 dig)).length ≤ 4 := by have : spanN dig (c :: r) = ((c :: r).takeWhile (at8 dig)).length := rfl; omega
            have hd : ∀ x ∈ (c :: r).takeWhile (at8 dig), at8 dig x = true := fun x hx => List.all_eq_true.1 List.all_takeWhile x hx
            generalize (c :: r).takeWhile (at8 dig) = ds at hl hd
            obtain ⟨k1, k2⟩ := val_bound ds 0 hd (by omega)
            refine ⟨k1, ?_⟩
            have : (10 : Int) ^ ds.length ≤ 10 ^ 4 := by
              match ds.length, hl with
              | 0, _ => decide
              | 1, _ => decide
              | 2, _ => decide
              | 3, _ => decide
              | 4, _ => decide
            show val ds ≤ 9999
            unfold val
            omega
        · rw [if_neg h3] at h
          by_cases h4 : at8 pun c = true
          · rw [if_pos h4] at h
            injection h with _ h
            injection h with h _
            subst h
            exact ⟨fun h => by simp at h, fun h => by simp at h, fun h => by simp at h⟩
          · rw [if_neg h4] at h; simp at h
theorem tokens_TkOk {s : List UInt8} (h : (tokens s).2.2 = 0) : ∀ t ∈ (tokens s).1, TkOk t :=
  (tokens_ind (fun _ l => ∀ t ∈ l, TkOk t) (fun t ht => by
    simp at ht; subst ht
    exact ⟨fun h => by simp at h, fun h => by simp at h, fun h => by simp at h⟩) (fun _ _ _ _ h => h) (fun _ _ _ _ _ _ ho _ _ h t ht => by
    rcases List.mem_cons.1 ht with rfl | ht
    · exact one_TkOk ho
    · exact h t ht) h).1
/-- an error is not 0 -/
def NZ {γ : Type} (x : Except (Int × Int) γ) : Prop := ∀ e, x = .error e → e.2 ≠ 0
theorem NZ.ok {γ : Type} {v : γ} : NZ (.ok v) := fun e h => by cases h
theorem NZ.er {γ : Type} {a c : Int} (h : c ≠ 0) : NZ (.error (a, c) : Except (Int × Int) γ) := fun e he => by injection he with he; subst he; exact h
theorem NZ.bind {α γ : Type} {x : PR α} {f : α → PS → Except (Int × Int) γ} (h : NZ x) (hf : ∀ a s, NZ (f a s)) : NZ (bindP x f) := by
  cases x with
  | error e => exact fun e' he => h e' (by simpa [bindP] using he)
  | ok v => exact hf _ _
theorem expectP_nz (k : Int) (t : List UInt8) (s : PS) : NZ (expectP k t s) := by
  unfold expectP; split
  · exact NZ.ok
  · exact NZ.er (by decide)
theorem addA_nz (nm : Tk) (a : At) (s : PS) : NZ (addA nm a s) := by
  unfold addA; split
  · exact NZ.ok
  · rename_i h; exact NZ.er h
theorem atomP_nz (nm : Tk) (s : PS) : NZ (atomP nm s) := by
  unfold atomP
  repeat' split
  all_goals first | exact addA_nz _ _ _ | exact NZ.er (by decide)
theorem moreP_nz {p : PS → PR Ex} (hp : ∀ s, NZ (p s)) : ∀ (m : Nat) (acc : List Ex) (s : PS), NZ (moreP p m acc s)
  | 0, acc, s => by unfold moreP; exact NZ.ok
  | m + 1, acc, s => by
    unfold moreP
    split
    · exact (hp _).bind fun x s' => moreP_nz hp m _ _
    · exact NZ.ok
theorem listP_nz {p : PS → PR Ex} (hp : ∀ s, NZ (p s)) (s : PS) : NZ (listP p s) :=
  (expectP_nz _ _ _).bind fun _ _ => (hp _).bind fun _ _ => (moreP_nz hp _ _ _).bind fun _ _ => (expectP_nz _ _ _).bind fun _ _ => NZ.ok
theorem exprP_nz : ∀ d s, NZ (exprP d s)
  | 0, s => by unfold exprP; split <;> exact NZ.er (by decide)
  | d + 1, s => by
    have ih := exprP_nz d
    unfold exprP
    split
    · exact NZ.er (by decide)
    · split
      · exact NZ.er (by decide)
      · split
        · refine (expectP_nz _ _ _).bind fun _ _ => (listP_nz ih _).bind fun _ _ => ?_
          split
          · exact NZ.er (by decide)
          · exact NZ.ok
        · split
          · exact (listP_nz ih _).bind fun _ _ => NZ.ok
          · split
            · exact (listP_nz ih _).bind fun _ _ => NZ.ok
            · exact atomP_nz _ _
theorem optP_nz (w : List UInt8) (most : Int) (s : PS) : NZ (optP w most s) := by
  unfold optP
  repeat' split
  all_goals first | exact NZ.ok | exact NZ.er (by decide)
theorem parseT_nz (ts : List Tk) : NZ (parseT ts) :=
  (exprP_nz _ _).bind fun _ _ => (optP_nz _ _ _).bind fun _ _ => (optP_nz _ _ _).bind fun _ _ => by
    split
    · exact NZ.ok
    · exact NZ.er (by decide)
theorem parseS_valid {s : List UInt8} (h : (parseS s).2.2 = 0) : valid (parseS s).1.e = true ∧ (0 ≤ (parseS s).1.p ∧ (parseS s).1.p ≤ 7) ∧ (0 ≤ (parseS s).1.m ∧ (parseS s).1.m ≤ 1000) := by
  unfold parseS at h ⊢
  by_cases ht : (tokens s).2.2 ≠ 0
  · rw [if_pos ht] at h; exact absurd h ht
  · rw [if_neg ht] at h ⊢
    have ht' : (tokens s).2.2 = 0 := Classical.not_not.1 ht
    cases hp : parseT (tokens s).1 with
    | error e =>
      rw [hp] at h
      simp only at h
      exact absurd h (parseT_nz _ e hp)
    | ok q =>
      simp only
      exact parse_valid (tokens_TkOk ht') hp
end CL
