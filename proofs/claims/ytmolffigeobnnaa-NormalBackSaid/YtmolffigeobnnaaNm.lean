
/- The walks of normal's members and of the reference's Set, list, less, SameSets. -/
import Derived.Test.YtmolffigeobnnaaNi
import Derived.IntWalk
namespace Go.Proofs.Ytmolffigeobnnaa
open Go.RowKit
set_option linter.unusedVariables false
set_option linter.unusedSimpArgs false
set_option maxRecDepth 100000
theorem bit_and (b j : Nat) (hb : b < 256) (hj : j < 8) : (bits BinOp.and IntKind.i64 (b : Int) (wrap64 (2 ^ j)) != 0) = b.testBit j := by
  have h : ∀ b : Fin 256, ∀ j : Fin 8, (bits BinOp.and IntKind.i64 (b.val : Int) (wrap64 (2 ^ j.val)) != 0) = b.val.testBit j.val := by decide +kernel
  exact h ⟨b, hb⟩ ⟨j, hj⟩
set_option maxHeartbeats 1600000 in
theorem normal.members_c (n b : Nat) (hn : n ≤ 8) (hb0 : b < 256) (w : World) :
    Calls Try.prog 66 #[.int .i64 b, .int .i64 n] w fun r w' => r = .returned (.slice (some ⟨w.heap.size, 0, none⟩) n n) ∧ Blk w' w.heap.size 4 (bls (bsOf n b)).toArray ∧ Ext w w' := by
  have hmk := mk_bools n (by omega)
  go_enter Try.func66, Try.ntmps66
  go_wp2
  have hbS := Blk.new w 4 (bls (List.replicate n false)).toArray
  have hxS := Ext.new w (.cells (bls (List.replicate n false)).toArray 4)
  generalize hG : w.heap.size = g at *
  generalize (w.alloc (.cells (bls (List.replicate n false)).toArray 4)) = w2 at *
  go_loopw [10] (fun i wr => ∃ (j : Nat) (L : List Bool), j ≤ n ∧ i = .int .i64 j ∧ Only g w2 wr ∧ Blk wr g 4 (bls L).toArray ∧ Hid (Filled (fun i => b.testBit i) L n j)) (fun i _ => n - (intOf i).toNat)
  case atStart => exact ⟨0, _, by omega, rfl, Only.rf, hbS, Filled.zero _ _⟩
  case round =>
    obtain ⟨j, L, hj, rfl, ho, hb, HF⟩ := hrel
    have hlen := HF.out.1
    by_cases hlt : j < n
    · have s0 : wr.cell? ⟨g, j, none⟩ = some (.bool (L[j]'(by omega))) := by rw [hb.cell]; simp [bls, show j < L.length by omega]
      have z0 := hb.frozen j
      have hji : (j : Int) < (n : Int) := by omega
      have hbs := hb.set j (.bool (b.testBit j))
      rw [bls_set] at hbs
      have HB := Lib.hid (bit_and b j hb0 (by omega))
      have HS := Lib.hid HF.out.step
      have HBS := Lib.hid hbs
      clear hbs
      go_wp2
      refine ⟨⟨j + 1, _, by omega, by go_num, ho.set _ _, ?_, HS⟩, by simp [intOf]; omega⟩
      rw [HB.out]; exact HBS.out
    · have hL := HF.out.done (by omega)
      subst hL
      go_wp2
      go_ret
      subst hG
      exact ⟨rfl, hb, Ext.only hxS ho (by omega)⟩
theorem bit_shr (b j : Nat) (hb : b < 256) (hj : j < 8) : (bits BinOp.and IntKind.i64 (b / 2 ^ j : Int) 1 == 1) = b.testBit j := by
  have h : ∀ b : Fin 256, ∀ j : Fin 8, (bits BinOp.and IntKind.i64 (b.val / 2 ^ j.val : Int) 1 == 1) = b.val.testBit j.val := by decide +kernel
  exact h ⟨b, hb⟩ ⟨j, hj⟩
set_option maxHeartbeats 1600000 in
theorem clusterlocksref09.Set_c (n b : Nat) (hn : n ≤ 8) (hb0 : b < 256) (w : World) :
    Calls Try.prog 38 #[.int .i64 b, .int .i64 n] w fun r w' => r = .returned (.slice (some ⟨w.heap.size, 0, none⟩) n n) ∧ Blk w' w.heap.size 4 (bls (bsOf n b)).toArray ∧ Ext w w' := by
  have hmk := mk_bools n (by omega)
  go_enter Try.func38, Try.ntmps38
  go_wp2
  have hbS := Blk.new w 4 (bls (List.replicate n false)).toArray
  have hxS := Ext.new w (.cells (bls (List.replicate n false)).toArray 4)
  generalize hG : w.heap.size = g at *
  generalize (w.alloc (.cells (bls (List.replicate n false)).toArray 4)) = w2 at *
  go_loopw [6] (fun i wr => ∃ (j : Nat) (L : List Bool), j ≤ n ∧ i = .int .i64 j ∧ Only g w2 wr ∧ Blk wr g 4 (bls L).toArray ∧ Hid (Filled (fun i => b.testBit i) L n j)) (fun i _ => n - (intOf i).toNat)
  case atStart => exact ⟨0, _, by omega, rfl, Only.rf, hbS, Filled.zero _ _⟩
  case round =>
    obtain ⟨j, L, hj, rfl, ho, hb, HF⟩ := hrel
    have hlen := HF.out.1
    by_cases hlt : j < n
    · have s0 : wr.cell? ⟨g, j, none⟩ = some (.bool (L[j]'(by omega))) := by rw [hb.cell]; simp [bls, show j < L.length by omega]
      have z0 := hb.frozen j
      have hji : (j : Int) < (n : Int) := by omega
      have hbs := hb.set j (.bool (b.testBit j))
      rw [bls_set] at hbs
      have HB := Lib.hid (bit_shr b j hb0 (by omega))
      have HS := Lib.hid HF.out.step
      have HBS := Lib.hid hbs
      clear hbs
      go_wp2
      refine ⟨⟨j + 1, _, by omega, by go_num, ho.set _ _, ?_, HS⟩, by simp [intOf]; omega⟩
      rw [HB.out]; exact HBS.out
    · have hL := HF.out.done (by omega)
      subst hL
      go_wp2
      go_ret
      subst hG
      exact ⟨rfl, hb, Ext.only hxS ho (by omega)⟩
theorem int_info : (Try.prog.info? 3).map (fun i => (i.zero, i.size, i.bytes)) = some (some (.int .i64 0), 1, 8) := by kernel_rfl
theorem Sits.int {w : World} {l : List Int} {A : Option Addr} (hr : Sits w A (ints l)) {k : Nat} (h : k < l.length) : ∃ b o, A = some ⟨b, o, none⟩ ∧ w.cell? ⟨b, o + k, none⟩ = some (.int .i64 l[k]) :=
  let ⟨b, o, e, hc⟩ := hr.get (by rw [ints_len]; omega)
  ⟨b, o, e, hc k _ (ints_get h)⟩
theorem lsOf_succ (j b : Nat) : lsOf (j + 1) b = lsOf j b ++ (if b.testBit j = true then [(j : Int)] else []) := by
  simp only [lsOf, List.range_succ, List.filter_append, List.map_append]
  congr 1
  by_cases h : b.testBit j = true <;> simp [h]
theorem lsOf_le (j b : Nat) : (lsOf j b).length ≤ j := by
  simp only [lsOf, List.length_map]
  have := List.length_filter_le (fun i => b.testBit i) (List.range j)
  simpa using this
/-- a list of numbers that a walk gives back, a row of its own -/
def OwnInts (base : Nat) (l : List Int) (w : World) (r : Ending) (w' : World) : Prop := ∃ v, r = .returned v ∧ w'.ownsRow base 3 1 v l.length (ints l) ∧ Below base w w'
theorem OwnInts.get {base : Nat} {l : List Int} {w w' : World} {r : Ending} (h : OwnInts base l w r w') : ∃ A c, r = .returned (.slice A l.length c) ∧ l.length ≤ c ∧ w'.ownsRow base 3 1 (.slice A l.length c) l.length (ints l) ∧ Below base w w' := by
  obtain ⟨v, rfl, ho, hb⟩ := h
  obtain ⟨A, c, rfl, h1, _⟩ := own_form ho
  exact ⟨A, c, rfl, h1, ho, hb⟩
set_option maxHeartbeats 1600000 in
theorem clusterlocksref09.list_c (n b : Nat) (hn : n ≤ 8) (hb0 : b < 256) (w : World) :
    Calls Try.prog 49 #[.int .i64 b, .int .i64 n] w (OwnInts w.heap.size (lsOf n b) w) := by
  go_enter Try.func49, Try.ntmps49
  go_wp2
  go_loopw [5, 6] (fun v i wr => ∃ (j : Nat) (A : Option Addr) (c : Nat), j ≤ n ∧ i = .int .i64 j ∧ v = .slice A (lsOf j b).length c ∧ Ext w wr ∧ Hid (wr.ownsRow w.heap.size 3 1 (.slice A (lsOf j b).length c) (lsOf j b).length (ints (lsOf j b)))) (fun _ i _ => n - (intOf i).toNat)
  case atStart => exact ⟨0, none, 0, by omega, rfl, rfl, Ext.rfl', ⟨rfl, .inl ⟨rfl, rfl⟩⟩⟩
  case round =>
    obtain ⟨j, A, c, hj, rfl, rfl, hx, HO⟩ := hrel
    have hszr := hx.size
    have hlj := lsOf_le j b
    by_cases hlt : j < n
    · have hji : (j : Int) < (n : Int) := by omega
      have HB := bit_shr b j hb0 (by omega)
      have HS := Lib.hid (lsOf_succ j b)
      cases hbit : b.testBit j
      · rw [hbit] at HB
        have HE := Lib.hid (show lsOf (j + 1) b = lsOf j b by rw [HS.out, hbit]; simp)
        clear hbit
        go_wp2
        exact ⟨⟨j + 1, A, c, by omega, by go_num, by rw [HE.out], hx, by rw [HE.out]; exact HO⟩, by simp [intOf]; omega⟩
      · rw [hbit] at HB
        have HE := Lib.hid (show lsOf (j + 1) b = lsOf j b ++ [(j : Int)] by rw [HS.out, hbit]; simp)
        clear hbit
        generalize lsOf j b = l at *
        go_wp2_with (at_builtin; refine wpList_append_sits _ rfl (.tmp 18) (.tmp 20) _ rfl w.heap.size 3 1 8 _ Try.underlying38 int_info rfl (by omega) _ _ _ rfl (HO.out.alloc _) _ _ _ (ints [(j : Int)]) rfl rfl (Sits.new _ _ _) (ints_one _) (by simp only [maxLen]; omega) (by omega) (by simp; omega) ?_; intro v3 w3 hown3 hb3 hg3; obtain ⟨A3, c3, rfl, hc3, _⟩ := own_form hown3)
        refine ⟨⟨j + 1, A3, c3, by omega, by go_num, by rw [HE.out]; simp, (hx.alloc (by omega) _).trans hb3, ?_⟩, by simp [intOf]; omega⟩
        rw [HE.out]
        simp only [List.length_append, List.length_cons, List.length_nil, ints, List.map_append] at hown3 ⊢
        exact hown3
    · obtain rfl : j = n := by omega
      go_wp2
      go_ret
      exact ⟨_, rfl, HO.out, hx⟩
end Go.Proofs.Ytmolffigeobnnaa
