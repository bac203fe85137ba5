
/- Plain facts on the mill's expressions: small, valid, their atoms are those of the catalog, true for all atoms, false for none. -/
import Derived.Test.YtmboojbhnmdnkaaMj
import Derived.Test.YtmboojbhnmdnkaaLaw08f
import Derived.Test.YtmboojbhnmdnkaaMn
namespace CL
theorem len_sub {α : Type} [DecidableEq α] : ∀ (x l : List α), x.Nodup → (∀ a ∈ x, a ∈ l) → x.length ≤ l.length
  | [], l, _, _ => by simp
  | a :: x, l, hn, hs => by
    rw [List.nodup_cons] at hn
    have ha := hs a (by simp)
    have h1 := len_sub x (l.erase a) hn.2 (fun b hb => (List.mem_erase_of_ne (fun e : b = a => hn.1 (by rw [← e]; exact hb))).2 (hs b (by simp [hb])))
    rw [List.length_erase_of_mem ha] at h1
    have := List.length_pos_of_mem ha
    simp only [List.length_cons]; omega
def gsz : Nat → Nat
  | 0 => 1
  | d + 1 => 1 + 3 * gsz d
theorem Grp.small {l : List At} : ∀ (d : Nat) (e : Ex), Grp l d e → depth e ≤ d + 1 ∧ size e ≤ gsz d := by
  have hg : ∀ d, 1 ≤ gsz d := fun d => by cases d <;> simp [gsz]
  intro d
  induction d with
  | zero => intro e h; cases h with | leaf _ a ha => simp [depth, depthL, size, sizeL, gsz]
  | succ d ih =>
    intro e h
    cases h with
    | leaf _ a ha => have := hg (d + 1); simp [depth, depthL, size, sizeL]; omega
    | node _ k kids h1 h2 h3 h4 h =>
      have hk : ∀ ks : List Ex, (∀ e ∈ ks, Grp l d e) → depthL ks ≤ d + 1 ∧ sizeL ks ≤ ks.length * gsz d := by
        intro ks
        induction ks with
        | nil => intro _; simp [depthL, sizeL]
        | cons e ks ihk =>
          intro hks
          have a := ih e (hks e (by simp))
          have b := ihk (fun x hx => hks x (by simp [hx]))
          simp only [depthL, sizeL, List.length_cons, Nat.add_mul, Nat.one_mul]
          omega
      have := hk kids h
      simp only [depth, size, gsz]
      have h3 : kids.length * gsz d ≤ 3 * gsz d := Nat.mul_le_mul_right _ h2
      omega
/-- what radd makes of a mill's expression -/
theorem Grp.radd {l : List At} (hv : ∀ a ∈ l, vatom a = true) : ∀ (d : Nat) (e : Ex), Grp l d e → ∀ x : List At, x.Nodup → (∀ a ∈ x, a ∈ l) → ∃ y, CL.radd e x = some y ∧ y.Nodup ∧ (∀ a ∈ y, a ∈ l) ∧ 0 < y.length := by
  intro d
  have hleaf : ∀ a ∈ l, ∀ x : List At, x.Nodup → (∀ a ∈ x, a ∈ l) → ∃ y, CL.radd (.mk 0 a []) x = some y ∧ y.Nodup ∧ (∀ a ∈ y, a ∈ l) ∧ 0 < y.length := by
    intro a ha x hx hs
    refine ⟨if a ∈ x then x else x ++ [a], by simp [CL.radd, hv a ha], ?_⟩
    split
    · rename_i h; exact ⟨hx, hs, List.length_pos_of_mem h⟩
    · rename_i h
      refine ⟨List.nodup_append.2 ⟨hx, by simp, fun b hb c hc => by simp at hc; subst hc; exact fun e => h (e ▸ hb)⟩, fun b hb => ?_, by simp⟩
      rcases List.mem_append.1 hb with hb | hb
      · exact hs b hb
      · simp at hb; exact hb ▸ ha
  induction d with
  | zero => intro e h; cases h with | leaf _ a ha => exact hleaf a ha
  | succ d ih =>
    intro e h
    cases h with
    | leaf _ a ha => exact hleaf a ha
    | node _ k kids h1 h2 h3 h4 h =>
      intro x hx hs
      have hk : ∀ ks : List Ex, (∀ e ∈ ks, Grp l d e) → ∀ x : List At, x.Nodup → (∀ a ∈ x, a ∈ l) → ∃ y, CL.raddL ks x = some y ∧ y.Nodup ∧ (∀ a ∈ y, a ∈ l) ∧ (0 < x.length ∨ 0 < ks.length → 0 < y.length) := by
        intro ks
        induction ks with
        | nil => intro _ x hx hs; exact ⟨x, by simp [CL.raddL], hx, hs, by simp⟩
        | cons e ks ihk =>
          intro hks x hx hs
          obtain ⟨y, e1, e2, e3, e4⟩ := ih e (hks e (by simp)) x hx hs
          obtain ⟨z, f1, f2, f3, f4⟩ := ihk (fun x hx => hks x (by simp [hx])) y e2 e3
          exact ⟨z, by simp [CL.raddL, e1, f1], f2, f3, fun _ => f4 (.inl e4)⟩
      obtain ⟨y, e1, e2, e3, e4⟩ := hk kids h x hx hs
      have hne : kids ≠ [] := by rintro rfl; simp at h1
      refine ⟨y, ?_, e2, e3, e4 (.inr h1)⟩
      simp only [CL.radd, if_neg hne]
      rw [if_neg (by simp only [noAt, not_or]; exact ⟨by omega, by omega, by simp⟩), e1]
theorem Grp.valid {l : List At} (hv : ∀ a ∈ l, vatom a = true) (hl : l.length = 6) (hd : ∀ a ∈ l, ∀ b ∈ l, a ≠ b → a.n ≠ b.n) {e : Ex} (h : Grp l 2 e) : CL.valid e = true ∧ (∀ a ∈ atoms e, a ∈ l) ∧ 0 < (atoms e).length := by
  obtain ⟨y, e1, e2, e3, e4⟩ := h.radd hv 2 e [] (by simp) (by simp)
  have hs := h.small 2 e
  have hlen := len_sub y l e2 e3
  have hgood : Good y := ⟨by omega, by
    unfold Dist
    refine List.Pairwise.imp_of_mem (fun {a b} ha hb hab => hd a (e3 a ha) b (e3 b hb) hab) e2⟩
  have hval : CL.valid e = true := by
    unfold CL.valid
    rw [e1]
    simp only [CL.small, gsz] at hs ⊢
    simp only [Bool.and_eq_true, decide_eq_true_eq]
    exact ⟨by omega, hgood⟩
  have hc := (valid_coll hval).1
  rw [e1] at hc
  injection hc with hc
  have ha : atoms e = y := by unfold atoms; rw [if_pos hval, hc]
  rw [ha]; exact ⟨hval, e3, e4⟩
theorem Grp.evT {l : List At} (h : At → Bool) (hh : ∀ a ∈ l, h a = true) : ∀ (d : Nat) (e : Ex), Grp l d e → Go.Proofs.Ytmboojbhnmdnkaa.ev h e = true := by
  intro d
  induction d with
  | zero => intro e he; cases he with | leaf _ a ha => simp [Go.Proofs.Ytmboojbhnmdnkaa.ev, hh a ha]
  | succ d ih =>
    intro e he
    cases he with
    | leaf _ a ha => simp [Go.Proofs.Ytmboojbhnmdnkaa.ev, hh a ha]
    | node _ k kids h1 h2 h3 h4 hk =>
      have hc : ∀ ks : List Ex, (∀ e ∈ ks, Grp l d e) → Go.Proofs.Ytmboojbhnmdnkaa.cnt h ks = ks.length := by
        intro ks
        induction ks with
        | nil => intro _; simp [Go.Proofs.Ytmboojbhnmdnkaa.cnt]
        | cons e ks ihk =>
          intro hks
          have a := ih e (hks e (by simp))
          have b := ihk (fun x hx => hks x (by simp [hx]))
          simp only [Go.Proofs.Ytmboojbhnmdnkaa.cnt, a, if_true, b, List.length_cons]; omega
      have := hc kids hk
      have hne : kids ≠ [] := by rintro rfl; simp at h1
      simp only [Go.Proofs.Ytmboojbhnmdnkaa.ev, if_neg hne, decide_eq_true_eq]
      omega
theorem Grp.evF {l : List At} (h : At → Bool) (hh : ∀ a ∈ l, h a = false) : ∀ (d : Nat) (e : Ex), Grp l d e → Go.Proofs.Ytmboojbhnmdnkaa.ev h e = false := by
  intro d
  induction d with
  | zero => intro e he; cases he with | leaf _ a ha => simp [Go.Proofs.Ytmboojbhnmdnkaa.ev, hh a ha]
  | succ d ih =>
    intro e he
    cases he with
    | leaf _ a ha => simp [Go.Proofs.Ytmboojbhnmdnkaa.ev, hh a ha]
    | node _ k kids h1 h2 h3 h4 hk =>
      have hc : ∀ ks : List Ex, (∀ e ∈ ks, Grp l d e) → Go.Proofs.Ytmboojbhnmdnkaa.cnt h ks = 0 := by
        intro ks
        induction ks with
        | nil => intro _; simp [Go.Proofs.Ytmboojbhnmdnkaa.cnt]
        | cons e ks ihk =>
          intro hks
          have a := ih e (hks e (by simp))
          have b := ihk (fun x hx => hks x (by simp [hx]))
          simp [Go.Proofs.Ytmboojbhnmdnkaa.cnt, a, b]
      have := hc kids hk
      have hne : kids ≠ [] := by rintro rfl; simp at h1
      simp only [Go.Proofs.Ytmboojbhnmdnkaa.ev, if_neg hne, decide_eq_false_iff_not]
      omega
end CL
namespace Go.Proofs.Ytmboojbhnmdnkaa
theorem amv_fits {r : CL.Re} (h : CL.shaped r.k r.u = true) (n : Int) : CL.fits r.k r.u (amv r n) = true ∧ CL.usable (amv r n) = true := by
  have h0 := modev_in n
  simp only [CL.shaped, decide_eq_true_eq] at h
  rcases h with ⟨h1, h2⟩ | ⟨h1, h2, h3⟩
  · have e : amv r n = ⟨modev n, 0⟩ := by unfold amv; rw [if_pos h1]
    rw [e, h1, h2]
    simp only [CL.fits, CL.shaped, CL.usable, CL.vld]
    simp; omega
  · have h4 := mdv_in n h2
    have e : amv r n = ⟨0, 1 + mdv n r.u⟩ := by unfold amv; rw [if_neg (by omega)]
    rw [e]
    simp only [CL.fits, CL.shaped, CL.usable, CL.vld, h1]
    simp; omega
theorem cat_facts {L : List CL.Re} (hL : CL.GoodCat L) : CL.vcat L = true ∧ (∀ i (h : i < L.length), CL.vres L[i] = true ∧ CL.fnd L L[i].n = some L[i]) ∧ (∀ i j (h1 : i < L.length) (h2 : j < L.length), L[i].n = L[j].n → i = j) := by
  obtain ⟨h0, h1, h2, h3, u4, h4, u5, h5, rfl, b0, b1, b2, b3, b4, b5, b6, b7⟩ := hL
  have hv : ∀ i (h : i < ([⟨[97], 1, 1, h0⟩, ⟨[98], 1, 1, h1⟩, ⟨[99], 1, 1, h2⟩, ⟨[100], 1, 1, h3⟩, ⟨[112], 2, u4, h4⟩, ⟨[113], 2, u5, h5⟩] : List CL.Re).length), CL.vres ([⟨[97], 1, 1, h0⟩, ⟨[98], 1, 1, h1⟩, ⟨[99], 1, 1, h2⟩, ⟨[100], 1, 1, h3⟩, ⟨[112], 2, u4, h4⟩, ⟨[113], 2, u5, h5⟩] : List CL.Re)[i] = true := by
    intro i h
    have hi : i = 0 ∨ i = 1 ∨ i = 2 ∨ i = 3 ∨ i = 4 ∨ i = 5 := by simp at h; omega
    have n0 : CL.vname [97] = true := by decide
    have n1 : CL.vname [98] = true := by decide
    have n2 : CL.vname [99] = true := by decide
    have n3 : CL.vname [100] = true := by decide
    have n4 : CL.vname [112] = true := by decide
    have n5 : CL.vname [113] = true := by decide
    rcases hi with rfl | rfl | rfl | rfl | rfl | rfl <;> simp [CL.vres, CL.shaped, *] <;> omega
  refine ⟨decide_eq_true ⟨by simp, fun i h hi => ⟨hv i h, fun hp => ?_⟩⟩, fun i h => ⟨hv i h, ?_⟩, fun i j hi hj e => ?_⟩
  · have hi : i = 1 ∨ i = 2 ∨ i = 3 ∨ i = 4 ∨ i = 5 := by simp at h; omega
    rcases hi with rfl | rfl | rfl | rfl | rfl <;> simp only [Nat.reduceSub, List.getElem_cons_zero, List.getElem_cons_succ] <;> decide
  · have hi : i = 0 ∨ i = 1 ∨ i = 2 ∨ i = 3 ∨ i = 4 ∨ i = 5 := by simp at h; omega
    rcases hi with rfl | rfl | rfl | rfl | rfl | rfl <;> simp [CL.fnd]
  · have hi : i = 0 ∨ i = 1 ∨ i = 2 ∨ i = 3 ∨ i = 4 ∨ i = 5 := by simp at hi; omega
    have hj : j = 0 ∨ j = 1 ∨ j = 2 ∨ j = 3 ∨ j = 4 ∨ j = 5 := by simp at hj; omega
    rcases hi with rfl | rfl | rfl | rfl | rfl | rfl <;> rcases hj with rfl | rfl | rfl | rfl | rfl | rfl <;> simp at e ⊢
theorem vres_parts {r : CL.Re} (h : CL.vres r = true) : CL.vname r.n = true ∧ CL.shaped r.k r.u = true := by
  simp only [CL.vres, Bool.and_eq_true] at h
  exact h.1
/-- atoms that the mill made for a catalog: good, of different names, claimable -/
theorem GoodAts.facts {L : List CL.Re} {l : List CL.At} (hL : CL.GoodCat L) (h : GoodAts L l 6) : (∀ a ∈ l, CL.vatom a = true) ∧ (∀ a ∈ l, ∀ b ∈ l, a ≠ b → a.n ≠ b.n) ∧ (∀ a ∈ l, CL.cres L a = 0) ∧ (∀ a, CL.cres [] a = 10) := by
  obtain ⟨hv, hf, hd⟩ := cat_facts hL
  have hl6 := hL.mem.1
  have hx : ∀ a ∈ l, ∃ i, ∃ h1 : i < L.length, ∃ h2 : i < l.length, a = l[i] ∧ a.n = L[i].n ∧ ∃ n, a.a = amv L[i] n := fun a ha => by
    obtain ⟨i, hi, rfl⟩ := List.mem_iff_getElem.1 ha
    have := h.1
    exact ⟨i, by omega, hi, rfl, (h.2 i hi (by omega)).1, (h.2 i hi (by omega)).2⟩
  refine ⟨fun a ha => ?_, fun a ha b hb hab e => ?_, fun a ha => ?_, fun a => ?_⟩
  · obtain ⟨i, h1, h2, _, e1, n, e2⟩ := hx a ha
    have p := vres_parts (hf i h1).1
    simp only [CL.vatom, e1, e2, p.1, (amv_fits p.2 n).2, Bool.and_self]
  · obtain ⟨i, h1, h2, e0, e1, _⟩ := hx a ha
    obtain ⟨j, h3, h4, f0, f1, _⟩ := hx b hb
    have := hd i j h1 h3 (by rw [← e1, ← f1, e])
    subst this
    exact hab (e0.trans f0.symm)
  · obtain ⟨i, h1, h2, _, e1, n, e2⟩ := hx a ha
    have p := vres_parts (hf i h1).1
    unfold CL.cres
    rw [if_pos hv, e1, (hf i h1).2, e2]
    simp only [(amv_fits p.2 n).1, if_true]
  · have : CL.vcat [] = true := CL.vcat_all (j := 0) (by simp) (by simp) (CL.VTo.zero [])
    unfold CL.cres
    rw [if_pos this]
    simp [CL.fnd]
theorem frs_all {L : List CL.Re} : ∀ {x : List CL.At}, (∀ a ∈ x, CL.cres L a = 0) → frs L x = 0
  | [], _ => rfl
  | a :: x, h => by simp only [frs]; rw [if_pos (h a (by simp))]; exact frs_all (fun b hb => h b (by simp [hb]))
theorem frs_nil {x : List CL.At} (h : ∀ a, CL.cres [] a = 10) (hx : 0 < x.length) : frs [] x = 10 := by
  cases x with
  | nil => simp at hx
  | cons a x => simp only [frs]; rw [if_neg (by rw [h a]; decide), h a]
end Go.Proofs.Ytmboojbhnmdnkaa
