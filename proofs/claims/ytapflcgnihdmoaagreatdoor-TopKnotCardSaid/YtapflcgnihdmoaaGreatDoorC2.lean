/- From runs to entries. -/
import Derived.Test.YtapflcgnihdmoaaGreatDoorB9
import Derived.Test.YtapflcgnihdmoaaGreatDoorA6
import Derived.Test.YtapflcgnihdmoaaGreatDoorA9
namespace X
open Go Go.Proofs Go.RowKit
set_option linter.unusedVariables false
set_option linter.unusedSectionVars false
set_option maxRecDepth 100000
theorem al_nil {α : Type} {P : α → Prop} : ∀ x ∈ ([] : List α), P x := fun x h => by cases h
theorem al_cons {α : Type} {P : α → Prop} {a : α} {l : List α} (h : P a) (t : ∀ x ∈ l, P x) : ∀ x ∈ a :: l, P x := fun x hx => by
  rcases List.mem_cons.1 hx with e | e
  · rw [e]; exact h
  · exact t x e
section
variable [Luck]
theorem entX {f : Nat} {h : Clo → Clo → Fn} (hh : ∀ {c m : Clo}, Ok c → Ok m → Snd Tryz.prog f (h c m)) {m : Clo} (hm : Ok m) (hS : Start S0) {p : List Tr × Tr} (hr : runX h m p = true) : Ent Tryz.prog f p.1 p.2 := ent_run (hh (clo_ok hm) hm) hS hr
theorem allB_one {b : Bool} (h : allB [b] = true) : b = true := allB_mem h b (by simp)
theorem allB_map {α : Type} {g : α → Bool} {l : List α} (h : allB (l.map g) = true) : ∀ a ∈ l, g a = true := fun a ha => allB_mem h _ (List.mem_map.2 ⟨a, ha, rfl⟩)
theorem entL_map {α : Type} {f : Nat} {g : α → List Tr × Tr} {l : List α} (h : ∀ a ∈ l, Ent Tryz.prog f (g a).1 (g a).2) : EntL f (l.map g) := fun p hp => by
  obtain ⟨a, ha, rfl⟩ := List.mem_map.1 hp
  exact h a ha
theorem entL_app {f : Nat} {l l' : List (List Tr × Tr)} (h : EntL f l) (h' : EntL f l') : EntL f (l ++ l') := ents_app h h'
theorem entL_all {α : Type} {f : Nat} {g : α → List Tr × Tr} {l : List α} {ok : α → Bool} (h : ∀ a, ok a = true → Ent Tryz.prog f (g a).1 (g a).2) (hl : l.all ok = true) : EntL f (l.map g) := entL_map fun a ha => h a (List.all_eq_true.1 hl a ha)
end
end X
