
/- Plain: a number token has no text. -/
import Derived.Test.YtlfnpkjfnafeaaaDoorZ3
namespace CL
theorem one_t3 {r : List UInt8} {i n : Nat} {t : Tk} (h : one r i = (0, t, n)) (h3 : t.kind = 3) : t.text = [] := by
  unfold one at h
  cases r with
  | nil => simp at h
  | cons c r =>
    simp only at h
    repeat' split at h
    all_goals first
      | (simp at h; done)
      | (injection h with _ h; injection h with h _; subst h; first | rfl | (simp at h3; done))
theorem tokens_t3 {s : List UInt8} (h : (tokens s).2.2 = 0) : ∀ t ∈ (tokens s).1, t.kind = 3 → t.text = [] :=
  (tokens_ind (fun _ l => ∀ t ∈ l, t.kind = 3 → t.text = []) (fun t ht h3 => by
    simp at ht; subst ht; simp at h3) (fun _ _ _ _ h => h) (fun _ _ _ _ _ _ ho _ _ h t ht => by
    rcases List.mem_cons.1 ht with rfl | ht
    · exact one_t3 ho
    · exact h t ht) h).1
end CL
