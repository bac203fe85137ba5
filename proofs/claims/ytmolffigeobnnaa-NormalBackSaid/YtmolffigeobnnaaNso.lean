
/- Lists of number lists in memory; the library's sort of such lists, laid at this program (the first part of this text was printed by a program: tools/layplain.py), and its contract. -/
import Derived.Test.YtmolffigeobnnaaNc
import Derived.Shelf.SlSortCmp.Whole1
import Derived.Shelf.SlSortCmp.NoneTotal
namespace Go.Proofs.Ytmolffigeobnnaa
open Go.Shelf Go.RowKit
set_option linter.unusedVariables false
set_option linter.unusedSimpArgs false
def sortSets_ren : Go.Shelf.Ren := ⟨fun | 6 => 67 | 15 => 85 | 14 => 84 | 28 => 107 | 29 => 108 | 20 => 99 | 21 => 100 | 22 => 101 | 23 => 102 | 24 => 103 | 25 => 104 | 26 => 105 | 27 => 106 | 46 => 118 | 47 => 119 | 48 => 120 | 49 => 121 | 50 => 122 | 57 => 123 | n => n, fun | 22 => 31 | 24 => 38 | 25 => 74 | 3 => 3 | 39 => 48 | 0 => 0 | 53 => 110 | 55 => 112 | 4 => 4 | 46 => 103 | 45 => 102 | 50 => 107 | 5 => 5 | 9 => 9 | 66 => 117 | 70 => 85 | 76 => 122 | 77 => 68 | n => n, fun | n => n⟩
theorem sortSets : Go.Proofs.SlLaysF.n6 Try.prog sortSets_ren := {
  mixed := by kernel_rfl
  f6 := ⟨Try.f67.name, by decide, Try.func67.trans (congrArg some (by kernel_rfl))⟩
  f14 := ⟨Try.f84.name, by decide, Try.func84.trans (congrArg some (by kernel_rfl))⟩
  f15 := Try.func85.trans (congrArg some (by kernel_rfl))
  f20 := ⟨Try.f99.name, by decide, Try.func99.trans (congrArg some (by kernel_rfl))⟩
  f21 := ⟨Try.f100.name, by decide, Try.func100.trans (congrArg some (by kernel_rfl))⟩
  f22 := ⟨Try.f101.name, by decide, Try.func101.trans (congrArg some (by kernel_rfl))⟩
  f23 := ⟨Try.f102.name, by decide, Try.func102.trans (congrArg some (by kernel_rfl))⟩
  f24 := ⟨Try.f103.name, by decide, Try.func103.trans (congrArg some (by kernel_rfl))⟩
  f25 := ⟨Try.f104.name, by decide, Try.func104.trans (congrArg some (by kernel_rfl))⟩
  f26 := ⟨Try.f105.name, by decide, Try.func105.trans (congrArg some (by kernel_rfl))⟩
  f27 := ⟨Try.f106.name, by decide, Try.func106.trans (congrArg some (by kernel_rfl))⟩
  f28 := Try.func107.trans (congrArg some (by kernel_rfl))
  f29 := Try.func108.trans (congrArg some (by kernel_rfl))
  f46 := ⟨Try.f118.name, by decide, Try.func118.trans (congrArg some (by kernel_rfl))⟩
  f47 := Try.func119.trans (congrArg some (by kernel_rfl))
  f48 := Try.func120.trans (congrArg some (by kernel_rfl))
  f49 := ⟨Try.f121.name, by decide, Try.func121.trans (congrArg some (by kernel_rfl))⟩
  f50 := ⟨Try.f122.name, by decide, Try.func122.trans (congrArg some (by kernel_rfl))⟩
  f57 := ⟨Try.f123.name, by decide, Try.func123.trans (congrArg some (by kernel_rfl))⟩
  t0 := Try.underlying0
  a0 := Try.isAgg0
  z0 := Try.sizeOf0
  v0 := Try.zeroValue0
  t3 := Try.underlying3
  a3 := Try.isAgg3
  z3 := Try.sizeOf3
  v3 := Try.zeroValue3
  t4 := Try.underlying4
  a4 := Try.isAgg4
  z4 := Try.sizeOf4
  v4 := Try.zeroValue4
  t5 := Try.underlying5
  a5 := Try.isAgg5
  z5 := Try.sizeOf5
  v5 := Try.zeroValue5
  t9 := Try.underlying9
  a9 := Try.isAgg9
  z9 := Try.sizeOf9
  v9 := Try.zeroValue9
  t22 := Try.underlying31
  a22 := Try.isAgg31
  z22 := Try.sizeOf31
  v22 := Try.zeroValue31
  a24 := Try.isAgg38
  z24 := Try.sizeOf38
  t25 := Try.underlying74
  a25 := Try.isAgg74
  z25 := Try.sizeOf74
  v25 := Try.zeroValue74
  t39 := Try.underlying48
  a39 := Try.isAgg48
  z39 := Try.sizeOf48
  v39 := Try.zeroValue48
  t45 := Try.underlying102
  a45 := Try.isAgg102
  z45 := Try.sizeOf102
  v45 := Try.zeroValue102
  t46 := Try.underlying103
  a46 := Try.isAgg103
  z46 := Try.sizeOf103
  v46 := Try.zeroValue103
  t50 := Try.underlying107
  a50 := Try.isAgg107
  z50 := Try.sizeOf107
  v50 := Try.zeroValue107
  t53 := Try.underlying110
  a53 := Try.isAgg110
  z53 := Try.sizeOf110
  v53 := Try.zeroValue110
  t55 := Try.underlying112
  a55 := Try.isAgg112
  z55 := Try.sizeOf112
  v55 := Try.zeroValue112
  t66 := Try.underlying117
  a66 := Try.isAgg117
  z66 := Try.sizeOf117
  v66 := Try.zeroValue117
  t70 := Try.underlying85
  a70 := Try.isAgg85
  z70 := Try.sizeOf85
  v70 := Try.zeroValue85
  t76 := Try.underlying122
  a76 := Try.isAgg122
  z76 := Try.sizeOf122
  v76 := Try.zeroValue122
  t77 := Try.underlying68
  a77 := Try.isAgg68
  z77 := Try.sizeOf68
  v77 := Try.zeroValue68 }
open Go.Lib Go.Sort
/-- a slice of numbers, in a block from base on that is not the row u -/
def RowS (w : World) (base : Nat) (u : Option Nat) (v : Value) (l : List Int) : Prop :=
  ∃ A c, v = .slice A l.length c ∧ l.length ≤ maxLen ∧ Sits w A (ints l) ∧ ∀ b o, A = some ⟨b, o, none⟩ → base ≤ b ∧ b < w.heap.size ∧ some b ≠ u
theorem RowS.nil (w : World) (base : Nat) (u : Option Nat) : RowS w base u (.slice none 0 0) [] := ⟨none, 0, rfl, by simp, Sits.nil, fun b o e => by cases e⟩
theorem RowS.grown {w w' : World} {base : Nat} {u u' r : Option Nat} {v : Value} {l : List Int} (h : RowS w base u v l) (hg : w.grownBy w' r) (hr : r = u ∨ ∃ x, r = some x ∧ w.heap.size ≤ x) (hu : u' = u ∨ ∃ x, u' = some x ∧ w.heap.size ≤ x) : RowS w' base u' v l := by
  obtain ⟨A, c, rfl, hl, hs, hb⟩ := h
  refine ⟨A, c, rfl, hl, fun hn => ?_, fun b o e => ?_⟩
  · obtain ⟨b, o, rfl, hc⟩ := hs hn
    refine ⟨b, o, rfl, fun j x hx => ?_⟩
    obtain ⟨h1, h2, h3⟩ := hb b o rfl
    have h4 := hg.block b h2 (fun e => by
      rcases hr with rfl | ⟨x, rfl, hx⟩
      · exact h3 e
      · injection e; omega)
    rw [← hc j x hx]; unfold World.cell?; simp only [h4]
  · obtain ⟨h1, h2, h3⟩ := hb b o e
    refine ⟨h1, Nat.lt_of_lt_of_le h2 hg.size, ?_⟩
    rcases hu with rfl | ⟨x, rfl, hx⟩
    · exact h3
    · intro e; injection e; omega
theorem RowS.ext {w w' : World} {base : Nat} {u : Option Nat} {v : Value} {l : List Int} (h : RowS w base u v l) (hx : Ext w w') : RowS w' base u v l := h.grown (r := u) (grown_ext hx) (.inl rfl) (.inl rfl)
/-- a row of such slices -/
def Mats (w : World) (base : Nat) (u : Option Nat) (vs : List Value) (ls : List (List Int)) : Prop :=
  vs.length = ls.length ∧ ∀ i (h1 : i < ls.length) (h2 : i < vs.length), RowS w base u vs[i] ls[i]
theorem Mats.nil (w : World) (base : Nat) (u : Option Nat) : Mats w base u [] [] := ⟨rfl, fun i h => by simp at h⟩
theorem Mats.grown {w w' : World} {base : Nat} {u u' r : Option Nat} {vs : List Value} {ls : List (List Int)} (h : Mats w base u vs ls) (hg : w.grownBy w' r) (hr : r = u ∨ ∃ x, r = some x ∧ w.heap.size ≤ x) (hu : u' = u ∨ ∃ x, u' = some x ∧ w.heap.size ≤ x) : Mats w' base u' vs ls :=
  ⟨h.1, fun i h1 h2 => (h.2 i h1 h2).grown hg hr hu⟩
theorem Mats.ext {w w' : World} {base : Nat} {u : Option Nat} {vs : List Value} {ls : List (List Int)} (h : Mats w base u vs ls) (hx : Ext w w') : Mats w' base u vs ls := ⟨h.1, fun i h1 h2 => (h.2 i h1 h2).ext hx⟩
theorem Mats.snoc {w : World} {base : Nat} {u : Option Nat} {vs : List Value} {ls : List (List Int)} {v : Value} {l : List Int} (h : Mats w base u vs ls) (hv : RowS w base u v l) : Mats w base u (vs ++ [v]) (ls ++ [l]) := by
  obtain ⟨hl, h⟩ := h
  refine ⟨by simp [hl], fun i h1 h2 => ?_⟩
  rcases Nat.lt_or_ge i ls.length with hlt | hge
  · rw [List.getElem_append_left hlt, List.getElem_append_left (by omega)]; exact h i hlt (by omega)
  · have e0 : i = ls.length := by simp at h1; omega
    have e1 : (ls ++ [l])[i] = l := by simp [e0]
    have e2 : (vs ++ [v])[i] = v := by simp [e0, ← hl]
    rw [e1, e2]; exact hv
theorem Mats.one {w : World} {base : Nat} {u : Option Nat} {vs : List Value} {ls : List (List Int)} (h : Mats w base u vs ls) : ∀ v ∈ vs, v.oneCell' = true := fun v hv => by
  obtain ⟨i, hi, rfl⟩ := List.mem_iff_getElem.1 hv
  obtain ⟨A, c, e, _⟩ := h.2 i (by have := h.1; omega) hi
  rw [e]; rfl
section
variable {w : World} {base : Nat} {u : Option Nat}
abbrev SetV (w : World) (base : Nat) (u : Option Nat) : Type := { p : Value × List Int // RowS w base u p.1 p.2 }
instance : Inhabited (SetV w base u) := ⟨⟨(.slice none 0 0, []), RowS.nil w base u⟩⟩
def setE (x : SetV w base u) : Value := x.1.1
def setF (x y : SetV w base u) : Int := cfS x.1.2 y.1.2
theorem setF_lt (x y : SetV w base u) : ltOf setF x y = slt x.1.2 y.1.2 := cfS_slt _ _
theorem setSW : SWO (ltOf (setF (w := w) (base := base) (u := u))) where
  irrefl x := by rw [setF_lt]; exact slt_irr _
  trans x y z h1 h2 := by rw [setF_lt] at *; exact slt_tr h1 h2
  ntrans x y z h1 h2 := by rw [setF_lt] at *; exact slt_ntr (a := z.1.2) (b := y.1.2) (c := x.1.2) h2 h1
end
theorem sort_grown1 {α : Type} [Inhabited α] (enc : α → Value) (w : World) (blk off n : Nat) (d : Array α) (os : Array Obj) : w.grownBy (sortWorld enc w blk off n d os) (some blk) := by
  unfold sortWorld
  refine ⟨rfl, rfl, rfl, by simp [grow, putRow, mapBlock], fun i hi hne => ?_⟩
  rw [heap_grow_old _ _ (by simpa [putRow, mapBlock] using hi)]
  show (mapBlock (Sort.ahead w n) blk _).heap[i]? = _
  simp only [mapBlock, Array.getElem?_modify]
  rw [if_neg (fun e => hne (by rw [e]))]
  rfl
/-- a sorted row of slices -/
def SortedAt (ls : List (List Int)) (A : Option Addr) (base : Nat) (w : World) (r : Ending) (w' : World) : Prop :=
  r = .returned (.tuple #[]) ∧ ∃ vs, Sits w' A vs ∧ Mats w' base (Value.slice A 0 0).ownBlock vs (srt ls) ∧ w.grownBy w' (Value.slice A 0 0).ownBlock
theorem SortSets_c (ls : List (List Int)) (vs : List Value) (A : Option Addr) (c base : Nat) (w : World) (hown : w.ownsRow base 38 1 (.slice A ls.length c) ls.length vs) (hM : Mats w base (Value.slice A 0 0).ownBlock vs ls) (hl : ls.length ≤ 1000) :
    Calls Try.prog 67 #[.slice A ls.length c, .func (.func 68) #[] #[]] w (SortedAt ls A base w) := by
  have hown' := hown
  rcases hown.2 with ⟨e, hz⟩ | ⟨g, cap, cur, e, hb, hh, hn, hcap, hcs, htake⟩
  · injection e with e1 e2 e3
    subst e1 e3
    have hl0 : ls = [] := List.eq_nil_of_length_eq_zero e2
    subst hl0
    have h := AnyF.slices_SortFunc_none (P := Try.prog) (ρ := sortSets_ren) { sortSets with } none 0 (.func (.func 68) #[] #[]) w
    change Calls Try.prog 67 _ _ _ at h
    refine h.mono ?_
    rintro r w' ⟨rfl, rfl⟩
    exact ⟨rfl, [], Sits.nil, by rw [show srt [] = [] by simp [srt]]; exact Mats.nil _ _ _, World.grownBy.refl _ _⟩
  · injection e with e1 e2 e3
    subst e1 e3
    have hblk : g < w.heap.size := (Array.getElem?_eq_some_iff.1 hh).1
    have hB : Blk w g 38 cur := hh
    have hg0 : (Value.slice (some ⟨g, 0, none⟩) 0 0).ownBlock = some g := rfl
    rw [hg0] at hM
    have hvl := hM.1
    let d : Array (SetV w base (some g)) := Array.ofFn fun i : Fin ls.length => ⟨(vs[i.val]'(by have := i.2; omega), ls[i.val]), hM.2 i.val i.2 (by have := i.2; omega)⟩
    have hds : d.size = ls.length := by simp [d]
    have hdi : ∀ i (h : i < ls.length), d[i]! = ⟨(vs[i]'(by omega), ls[i]), hM.2 i h (by omega)⟩ := fun i h => by
      rw [getElem!_pos d i (by omega)]; simp [d]
    have hS := Sits.of_own hown
    have hH : Holds setE w g 0 d := by
      intro j hj
      rw [hds] at hj
      refine ⟨?_, hB.frozen _⟩
      rw [hdi j hj]
      obtain ⟨b', o', e', hc⟩ := hS (fun e => by rw [e] at hvl; simp at hvl; omega)
      injection e' with e'
      injection e' with e1 e2
      subst e1 e2
      exact hc j _ (by simp [show j < vs.length by omega, setE])
    have eg : ∀ args w, (callFunc 68 args).run Try.prog w = .ok (.enter 68 args) w := enters_of Try.func68 (by kernel_rfl) rfl
    have hcmp : CmpLays1 Try.prog 68 #[] (setE (w := w) (base := base) (u := some g)) setF g 0 d.size w := by
      intro m os dk hs x y
      obtain ⟨⟨xv, xl⟩, A1, c1, e1, l1, s1, b1⟩ := x
      obtain ⟨⟨yv, yl⟩, A2, c2, e2, l2, s2, b2⟩ := y
      simp only at e1 e2
      subst e1 e2
      have hx := sort_grown1 setE w g 0 m dk os
      have k1 := (show RowS w base (some g) (.slice A1 xl.length c1) xl from ⟨A1, c1, rfl, l1, s1, b1⟩).grown (u' := some g) hx (.inl rfl) (.inl rfl)
      have k2 := (show RowS w base (some g) (.slice A2 yl.length c2) yl from ⟨A2, c2, rfl, l2, s2, b2⟩).grown (u' := some g) hx (.inl rfl) (.inl rfl)
      obtain ⟨B1, d1, f1, _, q1, _⟩ := k1
      obtain ⟨B2, d2, f2, _, q2, _⟩ := k2
      injection f1 with f1 _ _
      injection f2 with f2 _ _
      subst f1 f2
      refine (least1_c xl yl A1 A2 c1 c2 l1 l2 _ q1 q2).mono ?_
      rintro r w' ⟨rfl, rfl⟩
      exact ⟨rfl, 0, _, by rw [alloc_eq_grow]; rfl⟩
    have h := Any.slices_SortFunc (P := Try.prog) sortSets setE (fun x => by obtain ⟨⟨xv, xl⟩, A1, c1, e1, _⟩ := x; simp only at e1; subst e1; rfl) setF setSW 68 #[] g 0 c d w eg hcmp hH hblk (by rw [hds]; omega)
    change Calls Try.prog 67 _ _ _ at h
    rw [hds] at h
    refine h.mono ?_
    rintro r w' ⟨rfl, d', n, os, ⟨hs, _, hp⟩, hsort, rfl⟩
    have hx := sort_grown1 setE w g 0 n d' os
    have hsz : d'.size = ls.length := by rw [hs, hds]
    have hd'i : ∀ i (h : i < d'.toList.length), d'[i]! = d'.toList[i] := fun i h => by rw [getElem!_pos d' i (by simpa using h)]; simp
    have hHs : Holds setE (sortWorld setE w g 0 n d' os) g 0 d' := SW.holds ⟨n, os, rfl⟩ hblk hH hs
    have hls : d'.toList.map (fun x => x.1.2) = srt ls := by
      refine asc_srt ?_ ?_
      · unfold Asc
        rw [List.pairwise_map, List.pairwise_iff_getElem]
        intro i j hi hj hij
        have := hsort i j (Nat.zero_le _) hij (by simpa [hsz] using hj)
        rw [setF_lt, hd'i i hi, hd'i j hj] at this
        exact this
      · have e1 : d'.extract 0 ls.length = d' := by rw [← hsz]; simp
        have e2 : d.extract 0 ls.length = d := by rw [← hds]; simp
        rw [e1, e2] at hp
        have hp2 : (d'.toList.map fun x => x.1.2).Perm (d.toList.map fun x => x.1.2) := hp.map _
        refine hp2.trans ?_
        have : d.toList.map (fun x => x.1.2) = ls := by
          apply List.ext_getElem
          · simp [hds]
          · intro i h1 h2; simp [d]
        rw [this]
    refine ⟨rfl, d'.toList.map setE, ?_, ?_, hx⟩
    · intro hn
      refine ⟨g, 0, rfl, fun j x hj => ?_⟩
      have hj' : j < d'.toList.length := by have := (List.getElem?_eq_some_iff.1 hj).1; simpa using this
      rw [(hHs j (by simpa using hj')).1, hd'i j hj']
      rw [List.getElem?_eq_getElem (by simpa using hj'), List.getElem_map] at hj
      exact hj
    · rw [hg0, ← hls]
      refine ⟨by simp, fun i h1 h2 => ?_⟩
      simp only [List.getElem_map]
      exact (d'.toList[i]'(by simpa using h1)).2.grown (u' := some g) hx (.inl rfl) (.inl rfl)
end Go.Proofs.Ytmolffigeobnnaa
