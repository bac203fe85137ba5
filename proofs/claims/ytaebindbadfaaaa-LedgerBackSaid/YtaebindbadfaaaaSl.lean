
/- Slices of slices: what x[k:] and x[:k] give, and which cells stand there. -/
import Derived.Test.YtaebindbadfaaaaBk
namespace Go.Proofs.Ytaebindbadfaaaa
open Go.RowKit
section
variable {P : Program}
theorem run_slice_low (t e : TypeId) (i : TypeInfo) (ht : P.underlying t = some (.slice e)) (hi : P.info? e = some i) (b o len cap k : Nat) (hk : k ≤ len) (w : World) :
    (Instr.slice t (.slice (some ⟨b, o, none⟩) len cap) (some (.int .i64 (k : Int))) none none).run P w = .ok (.slice (some (if k = cap then ⟨b, o, none⟩ else ⟨b, o + k * i.size, none⟩)) (len - k) (cap - k)) w := by
  have h1 : (k : Int) ≤ (len : Int) := by omega
  simp [Instr.slice, run_underlying ht, Instr.sliceBounds, go_sem, h1, sizeOf, typeInfo, hi]
  by_cases h : k = cap
  · simp [h]
  · simp [h, Ne.symm h]
theorem run_slice_high (t e : TypeId) (i : TypeInfo) (ht : P.underlying t = some (.slice e)) (hi : P.info? e = some i) (b o len cap k : Nat) (hk : k ≤ cap) (w : World) :
    (Instr.slice t (.slice (some ⟨b, o, none⟩) len cap) none (some (.int .i64 (k : Int))) none).run P w = .ok (.slice (some ⟨b, o, none⟩) k cap) w := by
  have h1 : (k : Int) ≤ (cap : Int) := by omega
  simp [Instr.slice, run_underlying ht, Instr.sliceBounds, go_sem, h1, sizeOf, typeInfo, hi]
end
theorem Sits.left {w : World} {b o : Nat} {xs ys : List Value} (h : Sits w (some ⟨b, o, none⟩) (xs ++ ys)) : Sits w (some ⟨b, o, none⟩) xs := by
  intro hn
  obtain ⟨b', o', e, hc⟩ := h (by simp [hn])
  refine ⟨b', o', e, fun j u hu => hc j u ?_⟩
  rw [List.getElem?_append_left (List.getElem?_eq_some_iff.1 hu).1]; exact hu
theorem Sits.right {w : World} {b o : Nat} {xs ys : List Value} (h : Sits w (some ⟨b, o, none⟩) (xs ++ ys)) : Sits w (some ⟨b, o + xs.length, none⟩) ys := by
  intro hn
  obtain ⟨b', o', e, hc⟩ := h (by simp [hn])
  injection e with e
  injection e with e1 e2
  subst e1 e2
  refine ⟨b, _, rfl, fun j u hu => ?_⟩
  have := hc (xs.length + j) u (by rw [List.getElem?_append_right (by omega)]; simpa using hu)
  rwa [← Nat.add_assoc] at this
end Go.Proofs.Ytaebindbadfaaaa
