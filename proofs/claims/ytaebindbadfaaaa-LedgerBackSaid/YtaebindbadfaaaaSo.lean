
/- The library's sort of atoms by a comparison, laid at this program (this text was printed by a program: tools/layplain.py), and its contract for a list whose names differ. -/
import Derived.Test.YtaebindbadfaaaaLf
import Derived.Shelf.SlSortCmp.WholeK
import Derived.Shelf.SlSortCmp.NoneTotal
import Derived.Lib.Strings
import Derived.Lib.Slices
import Derived.Lib.Walk
import Derived.Lib.Bytealg
namespace Go.Proofs.Ytaebindbadfaaaa
open Go.Shelf Go.RowKit
set_option linter.unusedVariables false
def sortAt_ren : Go.Shelf.Ren := ⟨fun | 6 => 49 | 15 => 58 | 14 => 57 | 28 => 72 | 29 => 73 | 20 => 64 | 21 => 65 | 22 => 66 | 23 => 67 | 24 => 68 | 25 => 69 | 26 => 70 | 27 => 71 | 46 => 75 | 47 => 76 | 48 => 77 | 49 => 78 | 50 => 79 | 57 => 81 | n => n, fun | 22 => 41 | 24 => 56 | 25 => 73 | 3 => 3 | 39 => 81 | 0 => 0 | 53 => 93 | 55 => 95 | 4 => 4 | 46 => 86 | 45 => 85 | 50 => 90 | 5 => 5 | 9 => 9 | 66 => 96 | 70 => 100 | 76 => 102 | 77 => 103 | n => n, fun | n => n⟩
theorem sortAt : Go.Proofs.SlLaysF0.n6 Try.prog sortAt_ren := {
  mixed := by kernel_rfl
  f6 := ⟨Try.f49.name, by decide, Try.func49.trans (congrArg some (by kernel_rfl))⟩
  f14 := ⟨Try.f57.name, by decide, Try.func57.trans (congrArg some (by kernel_rfl))⟩
  f15 := Try.func58.trans (congrArg some (by kernel_rfl))
  f20 := ⟨Try.f64.name, by decide, Try.func64.trans (congrArg some (by kernel_rfl))⟩
  f21 := ⟨Try.f65.name, by decide, Try.func65.trans (congrArg some (by kernel_rfl))⟩
  f22 := ⟨Try.f66.name, by decide, Try.func66.trans (congrArg some (by kernel_rfl))⟩
  f23 := ⟨Try.f67.name, by decide, Try.func67.trans (congrArg some (by kernel_rfl))⟩
  f24 := ⟨Try.f68.name, by decide, Try.func68.trans (congrArg some (by kernel_rfl))⟩
  f25 := ⟨Try.f69.name, by decide, Try.func69.trans (congrArg some (by kernel_rfl))⟩
  f26 := ⟨Try.f70.name, by decide, Try.func70.trans (congrArg some (by kernel_rfl))⟩
  f27 := ⟨Try.f71.name, by decide, Try.func71.trans (congrArg some (by kernel_rfl))⟩
  f28 := Try.func72.trans (congrArg some (by kernel_rfl))
  f29 := Try.func73.trans (congrArg some (by kernel_rfl))
  f46 := ⟨Try.f75.name, by decide, Try.func75.trans (congrArg some (by kernel_rfl))⟩
  f47 := Try.func76.trans (congrArg some (by kernel_rfl))
  f48 := Try.func77.trans (congrArg some (by kernel_rfl))
  f49 := ⟨Try.f78.name, by decide, Try.func78.trans (congrArg some (by kernel_rfl))⟩
  f50 := ⟨Try.f79.name, by decide, Try.func79.trans (congrArg some (by kernel_rfl))⟩
  f57 := ⟨Try.f81.name, by decide, Try.func81.trans (congrArg some (by kernel_rfl))⟩
  t0 := Try.underlying0
  a0 := Try.isAgg0
  z0 := Try.sizeOf0
  v0 := Try.zeroValue0
  t3 := Try.underlying3
  a3 := Try.isAgg3
  z3 := Try.sizeOf3
  v3 := Try.zeroValue3
  t4 := Try.underlying4
  a4 := Try.isAgg4
  z4 := Try.sizeOf4
  v4 := Try.zeroValue4
  t5 := Try.underlying5
  a5 := Try.isAgg5
  z5 := Try.sizeOf5
  v5 := Try.zeroValue5
  t9 := Try.underlying9
  a9 := Try.isAgg9
  z9 := Try.sizeOf9
  v9 := Try.zeroValue9
  t22 := Try.underlying41
  a22 := Try.isAgg41
  z22 := Try.sizeOf41
  v22 := Try.zeroValue41
  t25 := Try.underlying73
  a25 := Try.isAgg73
  z25 := Try.sizeOf73
  v25 := Try.zeroValue73
  t39 := Try.underlying81
  a39 := Try.isAgg81
  z39 := Try.sizeOf81
  v39 := Try.zeroValue81
  t45 := Try.underlying85
  a45 := Try.isAgg85
  z45 := Try.sizeOf85
  v45 := Try.zeroValue85
  t46 := Try.underlying86
  a46 := Try.isAgg86
  z46 := Try.sizeOf86
  v46 := Try.zeroValue86
  t50 := Try.underlying90
  a50 := Try.isAgg90
  z50 := Try.sizeOf90
  v50 := Try.zeroValue90
  t53 := Try.underlying93
  a53 := Try.isAgg93
  z53 := Try.sizeOf93
  v53 := Try.zeroValue93
  t55 := Try.underlying95
  a55 := Try.isAgg95
  z55 := Try.sizeOf95
  v55 := Try.zeroValue95
  t66 := Try.underlying96
  a66 := Try.isAgg96
  z66 := Try.sizeOf96
  v66 := Try.zeroValue96
  t70 := Try.underlying100
  a70 := Try.isAgg100
  z70 := Try.sizeOf100
  v70 := Try.zeroValue100
  t76 := Try.underlying102
  a76 := Try.isAgg102
  z76 := Try.sizeOf102
  v76 := Try.zeroValue102
  t77 := Try.underlying103
  a77 := Try.isAgg103
  z77 := Try.sizeOf103
  v77 := Try.zeroValue103 }

open Go.Lib Go.Sort
theorem cb_lt : ∀ a b : List UInt8, decide (compareBytes a b < 0) = Op.bytesLess a b
  | [], [] => by simp [compareBytes, Op.bytesLess]
  | [], _ :: _ => by simp [compareBytes, Op.bytesLess]
  | _ :: _, [] => by simp [compareBytes, Op.bytesLess]
  | a :: x, b :: y => by
    have ih := cb_lt x y
    unfold compareBytes Op.bytesLess
    by_cases h1 : a < b
    · simp [h1]
    · by_cases h2 : b < a
      · have : ¬ a = b := fun e => by subst e; exact h1 h2
        simp [h1, h2, this]
      · have : a = b := UInt8.le_antisymm (UInt8.not_lt.1 h2) (UInt8.not_lt.1 h1)
        subst this
        simp [h1]
        simpa using ih
theorem CompareString_c (a b : List UInt8) (w : World) : Calls Try.prog 74 #[.string ⟨a.toArray⟩, .string ⟨b.toArray⟩] w fun e w' => e = .returned (.int .i64 (compareBytes a b)) ∧ w = w' := by
  go_enter Try.func74, Try.ntmps74
  go_wp2
  rw [run_callFunc_extern Try.func80 (by kernel_rfl) (by kernel_rfl) (by kernel_rfl) (e := Extern.BytealgCompare.compare) (by kernel_rfl), Lib.run_compareString]
  simp only [Result.andThen]
  rw [Oper.upon_value]
  go_wp2
  go_ret
  exact ⟨rfl, rfl⟩
theorem StrCompare_c (a b : List UInt8) (w : World) : Calls Try.prog 59 #[.string ⟨a.toArray⟩, .string ⟨b.toArray⟩] w fun e w' => e = .returned (.int .i64 (compareBytes a b)) ∧ w = w' := by
  go_enter Try.func59, Try.ntmps59
  go_wp2_with (go_at_call 74; refine (CompareString_c _ _ _).mono ?_; rintro e w' ⟨rfl, rfl⟩)
  go_ret
  exact ⟨rfl, rfl⟩
instance : Inhabited CL.At := ⟨⟨[], ⟨0, 0⟩⟩⟩
def cfA (x y : CL.At) : Int := compareBytes x.n y.n
theorem byName_c (x y : CL.At) (W : World) : Calls Try.prog 50 #[.agg (atc x).toArray, .agg (atc y).toArray] W fun e w' => e = .returned (.int .i64 (cfA x y)) ∧ ∃ q os', w' = grow (W.drewN q) os' := by
  have hcon := fun W' => StrCompare_c x.n y.n W'
  unfold cfA
  generalize compareBytes x.n y.n = r at hcon ⊢
  unfold atc
  go_enter Try.func50, Try.ntmps50
  go_wp2_with (go_at_call 59; refine (hcon _).mono ?_; rintro e w' ⟨rfl, rfl⟩)
  go_ret
  exact ⟨rfl, 0, _, by rw [alloc_eq_grow, alloc_eq_grow, grow_grow]; rfl⟩
theorem ltA (x y : CL.At) : ltOf cfA x y = Op.bytesLess x.n y.n := cb_lt _ _
theorem swoA : SWO (ltOf cfA) where
  irrefl x := by rw [ltA]; exact CL.bs_irr _
  trans x y z h1 h2 := by rw [ltA] at *; exact CL.bs_tr h1 h2
  ntrans x y z h1 h2 := by
    rw [ltA] at *
    cases k : Op.bytesLess x.n z.n
    · rfl
    · rcases CL.bs_tot x.n y.n with h | h | h
      · rw [h] at h1; cases h1
      · rw [h, h2] at k; cases k
      · rw [CL.bs_tr h k] at h2; cases h2
theorem sort_grown {α : Type} [Inhabited α] (enc : α → List Value) (k : Nat) (w : World) (blk off n : Nat) (d : Array α) (os : Array Obj) : w.grownBy (sortWorldK enc k w blk off n d os) (some blk) := by
  unfold sortWorldK
  refine ⟨rfl, rfl, rfl, by simp [grow, putRowK, putRow, mapBlock], fun i hi hne => ?_⟩
  rw [heap_grow_old _ _ (by simpa [putRowK, putRow, mapBlock] using hi)]
  show (mapBlock (Sort.ahead w n) blk _).heap[i]? = _
  simp only [mapBlock, Array.getElem?_modify]
  rw [if_neg (fun e => hne (by rw [e]))]
  rfl
theorem holds_ats {w : World} {b : Nat} {l : List CL.At} (h : Sits w (some ⟨b, 0, none⟩) (ats l)) (hf : ∀ j, w.frozen? ⟨b, j, none⟩ = false) : HoldsK atc 3 w b 0 l.toArray := by
  intro j hj
  rw [size_flatK] at hj
  simp at hj
  refine ⟨?_, hf _⟩
  rw [get_flatK _ _ _ _ (by simpa using hj)]
  have hi : j / 3 < l.length := by omega
  have hn : ats l ≠ [] := by intro e; have := congrArg List.length e; rw [ats_len] at this; simp at this; omega
  obtain ⟨b', o', e, hc⟩ := h hn
  injection e with e
  injection e with e1 e2
  subst e1 e2
  have h1 := fm_get (c := atc) (sz := 3) (fun _ => rfl) hi (j % 3) (by omega)
  have h2 : l.toArray[j / 3]! = l[j / 3] := by simp [hi]
  rw [h2, id]
  refine hc j _ ?_
  have h3 : j / 3 * 3 + j % 3 = j := by omega
  rw [h3] at h1
  show (l.flatMap atc)[j]? = _
  rw [h1]
  have h4 : j % 3 < (atc l[j / 3]).length := by simp [atc]; omega
  rw [List.getElem?_eq_getElem h4, getElem!_pos (atc l[j / 3]) (j % 3) h4]
theorem ats_holds {w : World} {b : Nat} {d : Array CL.At} (h : HoldsK atc 3 w b 0 d) : Sits w (some ⟨b, 0, none⟩) (ats d.toList) := by
  intro hn
  refine ⟨b, 0, rfl, fun j u hu => ?_⟩
  have hj : j < d.size * 3 := by
    have := (List.getElem?_eq_some_iff.1 hu).1
    rw [ats_len] at this
    simpa using this
  have h1 := h.cell (i := j / 3) (c := j % 3) (by omega) (by omega)
  have e1 : 0 + j / 3 * 3 + j % 3 = 0 + j := by omega
  rw [e1] at h1
  rw [h1.1]
  have hi : j / 3 < d.toList.length := by simp; omega
  have h2 := fm_get (c := atc) (sz := 3) (fun _ => rfl) hi (j % 3) (by omega)
  have h3 : j / 3 * 3 + j % 3 = j := by omega
  rw [h3] at h2
  have h4 : (ats d.toList)[j]? = (atc d.toList[j / 3])[j % 3]? := h2
  rw [h4] at hu
  have h5 : d[j / 3]! = d.toList[j / 3] := by simp at hi; simp [hi]
  rw [h5]
  have h6 : j % 3 < (atc d.toList[j / 3]).length := by simp [atc]; omega
  rw [List.getElem?_eq_getElem h6] at hu
  rw [getElem!_pos (atc d.toList[j / 3]) (j % 3) h6]
  exact hu
/-- slices.SortFunc of a row of the call's own: a permutation, ascending by name -/
def SortPost (l : List CL.At) (A : Option Addr) (w : World) (r : Ending) (w' : World) : Prop :=
  r = .returned (.tuple #[]) ∧ ∃ l' : List CL.At, l'.Perm l ∧ l'.Pairwise (fun a b => Op.bytesLess b.n a.n = false) ∧ Sits w' A (ats l') ∧ w.grownBy w' (Value.slice A 0 0).ownBlock
theorem atc_one (x : CL.At) : ∀ v ∈ atc x, v.oneCell' = true := by
  intro v hv
  simp only [atc, List.mem_cons, List.not_mem_nil, or_false] at hv
  rcases hv with rfl | rfl | rfl <;> rfl
theorem SortAts_c (l : List CL.At) (A : Option Addr) (c base : Nat) (w : World) (hown : w.ownsRow base 56 3 (.slice A l.length c) l.length (ats l)) (hl : l.length ≤ 1000) :
    Calls Try.prog 49 #[.slice A l.length c, .func (.func 50) #[] #[]] w (SortPost l A w) := by
  rcases hown.2 with ⟨e, hz⟩ | ⟨g, cap, cur, e, hb, hh, hn, hcap, hcs, htake⟩
  · injection e with e1 e2 e3
    subst e1 e3
    have hl0 : l = [] := List.eq_nil_of_length_eq_zero hz
    subst hl0
    have h := AnyF.slices_SortFunc_none sortAt none 0 (.func (.func 50) #[] #[]) w
    change Calls Try.prog 49 _ _ _ at h
    refine h.mono ?_
    rintro r w' ⟨rfl, rfl⟩
    exact ⟨rfl, [], List.Perm.refl _, List.Pairwise.nil, Sits.nil, World.grownBy.refl _ _⟩
  · injection e with e1 e2 e3
    subst e1 e3
    have hblk : g < w.heap.size := (Array.getElem?_eq_some_iff.1 hh).1
    have hB : Blk w g 56 cur := hh
    have hH : HoldsK atc 3 w g 0 l.toArray := holds_ats (Sits.of_own hown) (fun j => hB.frozen j)
    have eg : ∀ args w, (callFunc 50 args).run Try.prog w = .ok (.enter 50 args) w := enters_of Try.func50 (by kernel_rfl) rfl
    have h := AnyQ.slices_SortFunc sortAt 3 Try.isAgg56 Try.sizeOf56 atc (fun _ => rfl) atc_one cfA swoA 50 #[] g 0 c l.toArray w eg (fun _ _ _ _ x y => byName_c x y _) hH hblk (by simp; omega)
    change Calls Try.prog 49 _ _ _ at h
    refine h.mono ?_
    rintro r w' ⟨rfl, d', n, os, ⟨hs, _, hp⟩, hsort, rfl⟩
    refine ⟨rfl, d'.toList, ?_, ?_, ?_, sort_grown _ _ _ _ _ _ _ _⟩
    · have e1 : d'.extract 0 l.toArray.size = d' := by rw [← hs]; simp
      rw [e1] at hp
      simpa using hp
    · rw [List.pairwise_iff_getElem]
      intro i j hi hj hij
      have := hsort i j (Nat.zero_le _) hij (by rw [← hs]; simpa using hj)
      rw [ltA] at this
      have a1 : d'[i]! = d'.toList[i] := by simp at hi; simp [hi]
      have a2 : d'[j]! = d'.toList[j] := by simp at hj; simp [hj]
      rwa [a1, a2] at this
    · exact ats_holds (holdsK_sortWorldK_c atc 3 w g 0 l.toArray d' n os hH hblk hs)
end Go.Proofs.Ytaebindbadfaaaa
