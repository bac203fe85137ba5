
/- The walk of normal's least: the minimal sets that have a property, in order. -/
import Derived.Test.YtmolffigeobnnaaNso
import Derived.Test.YtmolffigeobnnaaZ5
namespace Go.Proofs.Ytmolffigeobnnaa
open Go.RowKit
set_option linter.unusedVariables false
set_option linter.unusedSimpArgs false
set_option maxRecDepth 100000
theorem sets_info : (Try.prog.info? 38).map (fun i => (i.zero, i.size, i.bytes)) = some (some (.slice none 0 0), 1, 24) := by kernel_rfl
/-- a function that tells whether a set has a property -/
def Asks (f : FuncId) (g n : Nat) (h : List Bool → Bool) (w : World) : Prop :=
  ∀ (w' : World), Ext w w' → ∀ (s : List Bool) (S : Option Addr) (c : Nat), s.length = n → Sits w' S (bls s) → Calls Try.prog f #[.slice S n c, .pointer (some ⟨g, 0, none⟩)] w' fun r w'' => r = .returned (.bool (h s)) ∧ Ext w' w''
theorem bit_clr (b j : Nat) (hb : b < 256) (hj : j < 8) (h : b.testBit j = true) : bits BinOp.andNot IntKind.i64 (b : Int) (wrap64 (2 ^ j)) = ((b - 2 ^ j : Nat) : Int) ∧ ∀ n : Nat, n ≤ 8 → bsOf n (b - 2 ^ j) = (bsOf n b).set j false := by
  have h1 : ∀ b : Fin 256, ∀ j : Fin 8, b.val.testBit j.val = true → bits BinOp.andNot IntKind.i64 (b.val : Int) (wrap64 (2 ^ j.val)) = ((b.val - 2 ^ j.val : Nat) : Int) ∧ ∀ n : Fin 9, bsOf n.val (b.val - 2 ^ j.val) = (bsOf n.val b.val).set j.val false := by decide +kernel
  obtain ⟨a, k⟩ := h1 ⟨b, hb⟩ ⟨j, hj⟩ h
  exact ⟨a, fun n hn => k ⟨n, by omega⟩⟩
/-- no set with one of the first atoms less has the property -/
def pmin (n : Nat) (h : List Bool → Bool) (b j : Nat) : Bool := (List.range j).all fun i => !b.testBit i || !h ((bsOf n b).set i false)
theorem pmin_succ (n : Nat) (h : List Bool → Bool) (b j : Nat) : pmin n h b (j + 1) = (pmin n h b j && (!b.testBit j || !h ((bsOf n b).set j false))) := by
  simp [pmin, List.range_succ]
theorem minS_pmin (n : Nat) (h : List Bool → Bool) (b : Nat) : minS h (bsOf n b) = (h (bsOf n b) && pmin n h b n) := by
  unfold minS pmin
  rw [bsOf_len]
  congr 1
  rw [Bool.eq_iff_iff]
  simp only [List.all_eq_true, List.mem_range]
  constructor <;> intro H i hi <;> have := H i hi <;> rw [bsOf_get] at * <;> simp only [hi, decide_true, Bool.true_and] at * <;> exact this
theorem members_z (n b : Nat) (z : Int) (hz : z = (b : Int)) (hn : n ≤ 8) (hb0 : b < 256) (w : World) :
    Calls Try.prog 66 #[.int .i64 z, .int .i64 n] w fun r w' => r = .returned (.slice (some ⟨w.heap.size, 0, none⟩) n n) ∧ Blk w' w.heap.size 4 (bls (bsOf n b)).toArray ∧ Ext w w' := by
  rw [hz]; exact normal.members_c n b hn hb0 w
theorem own_of {A : Option Addr} (n m c d : Nat) : (Value.slice A n c).ownBlock = (Value.slice A m d).ownBlock := by cases A <;> rfl
theorem rowS_own {w : World} {base b : Nat} {u : Option Nat} {A : Option Addr} {c : Nat} {l : List Int} (h : w.ownsRow b 3 1 (.slice A l.length c) l.length (ints l)) (hb : base ≤ b) (hl : l.length ≤ maxLen) (hu : ∀ g, u = some g → g < b) : RowS w base u (.slice A l.length c) l :=
  ⟨A, c, rfl, hl, Sits.of_own h, fun x o e => by
    subst e
    obtain ⟨h1, h2⟩ := h.lt x rfl
    exact ⟨by omega, h2, fun e => by have := hu x e.symm; omega⟩⟩
theorem rawM_len (n : Nat) (h : List Bool → Bool) (k : Nat) : (rawM n h k).length ≤ k := by
  simp only [rawM, List.length_map]
  have := List.length_filter_le (fun b => minS h (bsOf n b)) (List.range k)
  simpa using this
theorem pow_le (n : Nat) (hn : n ≤ 8) : 2 ^ n ≤ 256 ∧ wrap64 (2 ^ n) = ((2 ^ n : Nat) : Int) := by
  have h : ∀ n : Fin 9, 2 ^ n.val ≤ 256 ∧ wrap64 (2 ^ n.val) = ((2 ^ n.val : Nat) : Int) := by decide +kernel
  exact h ⟨n, by omega⟩
/-- a slice of slices of numbers that a walk gives back -/
def SetsAt (ls : List (List Int)) (w : World) (r : Ending) (w' : World) : Prop :=
  ∃ A c vs, r = .returned (.slice A ls.length c) ∧ Sits w' A vs ∧ Mats w' w.heap.size (Value.slice A 0 0).ownBlock vs ls ∧ Ext w w'
theorem srt_len (l : List (List Int)) : (srt l).length = l.length := (srt_perm l).length_eq
set_option maxHeartbeats 3200000 in
theorem least_m (n g : Nat) (h : List Bool → Bool) (hn : n ≤ 8) (w : World) (hA : Asks 47 g n h w) :
    Calls Try.prog 45 #[.int .i64 n, .func (.func 47) #[] #[.pointer (some ⟨g, 0, none⟩)]] w (SetsAt (minsN n h) w) := by
  have HA := Lib.hid hA
  obtain ⟨hp1, hp2⟩ := pow_le n hn
  have HP := Lib.hid hp2
  have HM := Lib.hid (show minsN n h = srt (rawM n h (2 ^ n)) from rfl)
  clear hA hp2
  go_enter Try.func45, Try.ntmps45
  go_wp2
  rw [HP.out]
  generalize hMN : 2 ^ n = M at *
  have HMN := Lib.hid hMN
  clear hMN
  go_loopw [5, 13] (fun v i wr => ∃ (k : Nat) (vs : List Value) (A : Option Addr) (c : Nat), k ≤ M ∧ i = .int .i64 k ∧ v = .slice A (rawM n h k).length c ∧ Ext w wr ∧ Hid (wr.ownsRow w.heap.size 38 1 (.slice A (rawM n h k).length c) (rawM n h k).length vs) ∧ Hid (Mats wr w.heap.size (Value.slice A 0 0).ownBlock vs (rawM n h k))) (fun _ i _ => M - (intOf i).toNat)
  case atStart => exact ⟨0, [], none, 0, by omega, rfl, rfl, Ext.rfl', ⟨rfl, .inl ⟨rfl, rfl⟩⟩, Mats.nil _ _ _⟩
  case round =>
    obtain ⟨k, vs, A, c, hk, rfl, rfl, hx, HO, HMt⟩ := hrel
    have hszr := hx.size
    have hlk := rawM_len n h k
    by_cases hlt : k < M
    · have hki : (k : Int) < (M : Int) := by omega
      go_wp2_with fail
      refine (normal.members_c n k hn (by omega) wr).mono ?_
      rintro r w2 ⟨rfl, hS2, hx2⟩
      have hs2 := hx2.size
      go_wp2_with fail
      have hask := HA.out w2 (hx.tr hx2) (bsOf n k) _ n (bsOf_len n k) hS2.sits
      cases hh : h (bsOf n k)
      · rw [hh] at hask
        refine hask.mono ?_
        rintro r w3 ⟨rfl, hx3⟩
        have HR := Lib.hid (show rawM n h (k + 1) = rawM n h k by rw [rawM_succ, minS_pmin, hh]; simp)
        clear hh hask
        go_wp2
        exact ⟨⟨k + 1, vs, A, c, by omega, by go_num, by rw [HR.out], (hx.tr hx2).tr hx3, by rw [HR.out]; exact own_ext (own_ext HO hx2) hx3, by rw [HR.out]; exact (Mats.ext HMt hx2).ext hx3⟩, by simp [intOf]; omega⟩
      · rw [hh] at hask
        refine hask.mono ?_
        rintro r w3 ⟨rfl, hx3⟩
        clear hask
        have hS3 := hS2.ext hx3
        have hx23 := hx2.tr hx3
        have hs3 := hx3.size
        go_wp2
        obtain ⟨wo, rfl⟩ : ∃ wo : World, wo = wr := ⟨_, rfl⟩
        have HR := Lib.hid (show rawM n h (k + 1) = rawM n h k ++ (if pmin n h k n = true then [lsOf n k] else []) by rw [rawM_succ, minS_pmin, hh]; simp)
        clear hh
        go_loopw [8, 9, 24] (fun m v i wi => ∃ (j : Nat) (A' : Option Addr) (c' : Nat), j ≤ n ∧ i = .int .i64 j ∧ m = .bool (pmin n h k j) ∧ v = .slice A' (lsOf j k).length c' ∧ Ext w3 wi ∧ Hid (wi.ownsRow w3.heap.size 3 1 (.slice A' (lsOf j k).length c') (lsOf j k).length (ints (lsOf j k)))) (fun _ _ i _ => n - (intOf i).toNat)
        case atStart => exact ⟨0, none, 0, by omega, rfl, rfl, rfl, Ext.rfl', ⟨rfl, .inl ⟨rfl, rfl⟩⟩⟩
        case round =>
          obtain ⟨j, A', c', hj, rfl, rfl, rfl, hy, HO2⟩ := hrel
          obtain ⟨wi, rfl⟩ : ∃ wi : World, wi = wr := ⟨_, rfl⟩
          have hsi := hy.size
          have hlj := lsOf_le j k
          by_cases hlt2 : j < n
          · have hji : (j : Int) < (n : Int) := by omega
            have hbi := hS3.ext hy
            have q0 : wi.cell? ⟨wo.heap.size, j, none⟩ = some (.bool (k.testBit j)) := by rw [hbi.cell]; simp [bls, bsOf, hlt2]
            have HS := Lib.hid (lsOf_succ j k)
            have HPM := Lib.hid (pmin_succ n h k j)
            cases hbit : k.testBit j
            · rw [hbit] at q0
              have HE := Lib.hid (show lsOf (j + 1) k = lsOf j k by rw [HS.out, hbit]; simp)
              have HPE := Lib.hid (show pmin n h k (j + 1) = pmin n h k j by rw [HPM.out, hbit]; simp)
              clear hbit
              go_wp2
              exact ⟨⟨j + 1, A', c', by omega, by go_num, by rw [HPE.out], by rw [HE.out], hy, by rw [HE.out]; exact HO2⟩, by simp [intOf]; omega⟩
            · rw [hbit] at q0
              have HE := Lib.hid (show lsOf (j + 1) k = lsOf j k ++ [(j : Int)] by rw [HS.out, hbit]; simp)
              obtain ⟨hz1, hz2⟩ := bit_clr k j (by omega) (by omega) hbit
              have HPE := Lib.hid (show pmin n h k (j + 1) = (pmin n h k j && !h (bsOf n (k - 2 ^ j))) by rw [HPM.out, hbit, hz2 n hn]; simp)
              have HZ := Lib.hid hz1
              clear hbit hz1 hz2
              have hLE : (ints (lsOf j k) ++ ints [(j : Int)]) = ints (lsOf (j + 1) k) := by rw [HE.out]; simp [ints]
              have hLN : (lsOf j k).length + 1 = (lsOf (j + 1) k).length := by rw [HE.out]; simp
              have HLE := Lib.hid hLE
              have HLN := Lib.hid hLN
              clear hLE hLN
              generalize lsOf j k = l at *
              generalize hL2 : lsOf (j + 1) k = l2 at *
              have HL2 := Lib.hid hL2
              clear hL2
              cases hpm : pmin n h k j
              · have HPF := Lib.hid (show pmin n h k (j + 1) = false by rw [HPE.out, hpm]; rfl)
                clear hpm
                go_wp2_with (at_builtin; refine wpList_append_sits _ rfl (.tmp 32) (.tmp 34) _ rfl w3.heap.size 3 1 8 _ Try.underlying38 int_info rfl (by omega) _ _ _ rfl (HO2.out.alloc _) _ _ _ (ints [(j : Int)]) rfl rfl (Sits.new _ _ _) (ints_one _) (by simp only [maxLen]; omega) (by omega) (by simp; omega) ?_; intro v4 w4 hown4 hb4 hg4; rw [HLE.out, HLN.out] at hown4; obtain ⟨A4, c4, rfl, hc4, _⟩ := own_form hown4)
                exact ⟨⟨j + 1, A4, c4, by omega, by go_num, by rw [HPF.out], by rw [HL2.out], (hy.alloc (by omega) _).trans hb4, by rw [HL2.out]; exact hown4⟩, by simp [intOf]; omega⟩
              · have HPT := Lib.hid (show pmin n h k (j + 1) = !h (bsOf n (k - 2 ^ j)) by rw [HPE.out, hpm]; rfl)
                clear hpm
                go_wp2_with (at_builtin; refine wpList_append_sits _ rfl (.tmp 32) (.tmp 34) _ rfl w3.heap.size 3 1 8 _ Try.underlying38 int_info rfl (by omega) _ _ _ rfl (HO2.out.alloc _) _ _ _ (ints [(j : Int)]) rfl rfl (Sits.new _ _ _) (ints_one _) (by simp only [maxLen]; omega) (by omega) (by simp; omega) ?_; intro v4 w4 hown4 hb4 hg4; rw [HLE.out, HLN.out] at hown4; obtain ⟨A4, c4, rfl, hc4, _⟩ := own_form hown4)
                have hy4 : Ext w3 w4 := (hy.alloc (by omega) _).trans hb4
                refine (members_z n (k - 2 ^ j) _ HZ.out hn (Nat.lt_of_le_of_lt (Nat.sub_le _ _) (by omega)) w4).mono ?_
                rintro r w5 ⟨rfl, hS5, hx5⟩
                go_wp2_with fail
                refine (HA.out w5 ((((hx.tr hx23).tr hy4)).tr hx5) (bsOf n (k - 2 ^ j)) _ n (bsOf_len _ _) hS5.sits).mono ?_
                rintro r w6 ⟨rfl, hx6⟩
                go_wp2
                exact ⟨⟨j + 1, A4, c4, by omega, by go_num, by rw [HPT.out], by rw [HL2.out], (hy4.tr hx5).tr hx6, by rw [HL2.out]; exact own_ext (own_ext hown4 hx5) hx6⟩, by simp [intOf]; omega⟩
          · obtain rfl : j = n := by omega
            cases hpm : pmin j h k j
            · have HRF := Lib.hid (show rawM j h (k + 1) = rawM j h k by rw [HR.out, hpm]; simp)
              clear hpm
              go_wp2
              exact ⟨⟨k + 1, vs, A, c, by omega, by go_num, by rw [HRF.out], (hx.tr hx23).tr hy, by rw [HRF.out]; exact own_ext (own_ext HO hx23) hy, by rw [HRF.out]; exact (Mats.ext HMt hx23).ext hy⟩, by simp [intOf]; omega⟩
            · have HRT := Lib.hid (show rawM j h (k + 1) = rawM j h k ++ [lsOf j k] by rw [HR.out, hpm]; simp)
              clear hpm
              have hlk2 := rawM_len j h k
              have hOw := own_ext (own_ext HO.out hx23) hy
              have hmm := (Mats.ext HMt.out hx23).ext hy
              have hrow := rowS_own (base := w.heap.size) (u := (Value.slice A 0 0).ownBlock) HO2.out (by omega) (by simp only [maxLen]; omega) (fun g hg => by
                have := (HO.out.lt g ((own_of _ _ _ _).trans hg)).2; omega)
              have hm2 := (hmm.snoc hrow).ext (Ext.new wi (.cells #[.slice A' (lsOf j k).length c'] 38))
              have HM2 := Lib.hid hm2
              have HOw := Lib.hid (hOw.alloc (.cells #[.slice A' (lsOf j k).length c'] 38))
              clear hmm hrow hm2 hOw
              have hRN : (rawM j h k).length + 1 = (rawM j h (k + 1)).length := by rw [HRT.out]; simp
              have HRN := Lib.hid hRN
              clear hRN
              go_wp2_with (at_builtin; refine wpList_append_row _ rfl (.tmp 50) (.tmp 52) _ rfl w.heap.size 38 1 24 _ Try.underlying31 sets_info rfl (by omega) _ _ _ rfl HOw.out _ _ _ [.slice A' (lsOf j k).length c'] rfl rfl (Sits.new _ _ _) (by intro u hu; simp at hu; subst hu; rfl) (by simp only [maxLen]; omega) (by omega) (by simp; omega) ?_; intro v4 w4 hown4 hb4 hg4 hrow4; rw [HRN.out] at hown4; obtain ⟨A4, c4, rfl, hc4, _⟩ := own_form hown4)
              have hm4 := HM2.out.grown (u' := (Value.slice A4 0 0).ownBlock) hg4 (.inl (own_of _ _ _ _)) (by
                rcases hrow4 with e | e
                · exact .inl ((own_of _ _ _ _).trans (e.trans (own_of _ _ _ _)))
                · exact .inr ⟨_, (own_of _ _ _ _).trans e, Nat.le_refl _⟩)
              exact ⟨⟨k + 1, vs ++ [.slice A' (lsOf j k).length c'], A4, c4, by omega, by go_num, rfl, (((hx.tr hx23).tr hy).alloc (by omega) _).trans hb4, Lib.hid hown4, Lib.hid (by rw [HRT.out]; exact hm4)⟩, by simp [intOf]; omega⟩
    · obtain rfl : k = M := by omega
      go_wp2_with fail
      refine (SortSets_c (rawM n h k) vs A c w.heap.size wr HO.out HMt.out (by omega)).mono ?_
      rintro r w2 ⟨rfl, vs2, hs2, hm2, hg2⟩
      go_wp2
      go_ret
      exact ⟨A, c, vs2, (show Ending.returned (.slice A (rawM n h k).length c) = .returned (.slice A (minsN n h).length c) by rw [HM.out, srt_len]), hs2, by rw [HM.out]; exact hm2, hx.trans (grown_below hg2 hszr (fun g hg => (HO.out.lt g ((own_of _ _ _ _).trans hg)).1))⟩
set_option maxHeartbeats 3200000 in
theorem least_b (n g : Nat) (h : List Bool → Bool) (hn : n ≤ 8) (w : World) (hA : Asks 62 g n h w) :
    Calls Try.prog 45 #[.int .i64 n, .func (.func 62) #[] #[.pointer (some ⟨g, 0, none⟩)]] w (SetsAt (minsN n h) w) := by
  have HA := Lib.hid hA
  obtain ⟨hp1, hp2⟩ := pow_le n hn
  have HP := Lib.hid hp2
  have HM := Lib.hid (show minsN n h = srt (rawM n h (2 ^ n)) from rfl)
  clear hA hp2
  go_enter Try.func45, Try.ntmps45
  go_wp2
  rw [HP.out]
  generalize hMN : 2 ^ n = M at *
  have HMN := Lib.hid hMN
  clear hMN
  go_loopw [5, 13] (fun v i wr => ∃ (k : Nat) (vs : List Value) (A : Option Addr) (c : Nat), k ≤ M ∧ i = .int .i64 k ∧ v = .slice A (rawM n h k).length c ∧ Ext w wr ∧ Hid (wr.ownsRow w.heap.size 38 1 (.slice A (rawM n h k).length c) (rawM n h k).length vs) ∧ Hid (Mats wr w.heap.size (Value.slice A 0 0).ownBlock vs (rawM n h k))) (fun _ i _ => M - (intOf i).toNat)
  case atStart => exact ⟨0, [], none, 0, by omega, rfl, rfl, Ext.rfl', ⟨rfl, .inl ⟨rfl, rfl⟩⟩, Mats.nil _ _ _⟩
  case round =>
    obtain ⟨k, vs, A, c, hk, rfl, rfl, hx, HO, HMt⟩ := hrel
    have hszr := hx.size
    have hlk := rawM_len n h k
    by_cases hlt : k < M
    · have hki : (k : Int) < (M : Int) := by omega
      go_wp2_with fail
      refine (normal.members_c n k hn (by omega) wr).mono ?_
      rintro r w2 ⟨rfl, hS2, hx2⟩
      have hs2 := hx2.size
      go_wp2_with fail
      have hask := HA.out w2 (hx.tr hx2) (bsOf n k) _ n (bsOf_len n k) hS2.sits
      cases hh : h (bsOf n k)
      · rw [hh] at hask
        refine hask.mono ?_
        rintro r w3 ⟨rfl, hx3⟩
        have HR := Lib.hid (show rawM n h (k + 1) = rawM n h k by rw [rawM_succ, minS_pmin, hh]; simp)
        clear hh hask
        go_wp2
        exact ⟨⟨k + 1, vs, A, c, by omega, by go_num, by rw [HR.out], (hx.tr hx2).tr hx3, by rw [HR.out]; exact own_ext (own_ext HO hx2) hx3, by rw [HR.out]; exact (Mats.ext HMt hx2).ext hx3⟩, by simp [intOf]; omega⟩
      · rw [hh] at hask
        refine hask.mono ?_
        rintro r w3 ⟨rfl, hx3⟩
        clear hask
        have hS3 := hS2.ext hx3
        have hx23 := hx2.tr hx3
        have hs3 := hx3.size
        go_wp2
        obtain ⟨wo, rfl⟩ : ∃ wo : World, wo = wr := ⟨_, rfl⟩
        have HR := Lib.hid (show rawM n h (k + 1) = rawM n h k ++ (if pmin n h k n = true then [lsOf n k] else []) by rw [rawM_succ, minS_pmin, hh]; simp)
        clear hh
        go_loopw [8, 9, 24] (fun m v i wi => ∃ (j : Nat) (A' : Option Addr) (c' : Nat), j ≤ n ∧ i = .int .i64 j ∧ m = .bool (pmin n h k j) ∧ v = .slice A' (lsOf j k).length c' ∧ Ext w3 wi ∧ Hid (wi.ownsRow w3.heap.size 3 1 (.slice A' (lsOf j k).length c') (lsOf j k).length (ints (lsOf j k)))) (fun _ _ i _ => n - (intOf i).toNat)
        case atStart => exact ⟨0, none, 0, by omega, rfl, rfl, rfl, Ext.rfl', ⟨rfl, .inl ⟨rfl, rfl⟩⟩⟩
        case round =>
          obtain ⟨j, A', c', hj, rfl, rfl, rfl, hy, HO2⟩ := hrel
          obtain ⟨wi, rfl⟩ : ∃ wi : World, wi = wr := ⟨_, rfl⟩
          have hsi := hy.size
          have hlj := lsOf_le j k
          by_cases hlt2 : j < n
          · have hji : (j : Int) < (n : Int) := by omega
            have hbi := hS3.ext hy
            have q0 : wi.cell? ⟨wo.heap.size, j, none⟩ = some (.bool (k.testBit j)) := by rw [hbi.cell]; simp [bls, bsOf, hlt2]
            have HS := Lib.hid (lsOf_succ j k)
            have HPM := Lib.hid (pmin_succ n h k j)
            cases hbit : k.testBit j
            · rw [hbit] at q0
              have HE := Lib.hid (show lsOf (j + 1) k = lsOf j k by rw [HS.out, hbit]; simp)
              have HPE := Lib.hid (show pmin n h k (j + 1) = pmin n h k j by rw [HPM.out, hbit]; simp)
              clear hbit
              go_wp2
              exact ⟨⟨j + 1, A', c', by omega, by go_num, by rw [HPE.out], by rw [HE.out], hy, by rw [HE.out]; exact HO2⟩, by simp [intOf]; omega⟩
            · rw [hbit] at q0
              have HE := Lib.hid (show lsOf (j + 1) k = lsOf j k ++ [(j : Int)] by rw [HS.out, hbit]; simp)
              obtain ⟨hz1, hz2⟩ := bit_clr k j (by omega) (by omega) hbit
              have HPE := Lib.hid (show pmin n h k (j + 1) = (pmin n h k j && !h (bsOf n (k - 2 ^ j))) by rw [HPM.out, hbit, hz2 n hn]; simp)
              have HZ := Lib.hid hz1
              clear hbit hz1 hz2
              have hLE : (ints (lsOf j k) ++ ints [(j : Int)]) = ints (lsOf (j + 1) k) := by rw [HE.out]; simp [ints]
              have hLN : (lsOf j k).length + 1 = (lsOf (j + 1) k).length := by rw [HE.out]; simp
              have HLE := Lib.hid hLE
              have HLN := Lib.hid hLN
              clear hLE hLN
              generalize lsOf j k = l at *
              generalize hL2 : lsOf (j + 1) k = l2 at *
              have HL2 := Lib.hid hL2
              clear hL2
              cases hpm : pmin n h k j
              · have HPF := Lib.hid (show pmin n h k (j + 1) = false by rw [HPE.out, hpm]; rfl)
                clear hpm
                go_wp2_with (at_builtin; refine wpList_append_sits _ rfl (.tmp 32) (.tmp 34) _ rfl w3.heap.size 3 1 8 _ Try.underlying38 int_info rfl (by omega) _ _ _ rfl (HO2.out.alloc _) _ _ _ (ints [(j : Int)]) rfl rfl (Sits.new _ _ _) (ints_one _) (by simp only [maxLen]; omega) (by omega) (by simp; omega) ?_; intro v4 w4 hown4 hb4 hg4; rw [HLE.out, HLN.out] at hown4; obtain ⟨A4, c4, rfl, hc4, _⟩ := own_form hown4)
                exact ⟨⟨j + 1, A4, c4, by omega, by go_num, by rw [HPF.out], by rw [HL2.out], (hy.alloc (by omega) _).trans hb4, by rw [HL2.out]; exact hown4⟩, by simp [intOf]; omega⟩
              · have HPT := Lib.hid (show pmin n h k (j + 1) = !h (bsOf n (k - 2 ^ j)) by rw [HPE.out, hpm]; rfl)
                clear hpm
                go_wp2_with (at_builtin; refine wpList_append_sits _ rfl (.tmp 32) (.tmp 34) _ rfl w3.heap.size 3 1 8 _ Try.underlying38 int_info rfl (by omega) _ _ _ rfl (HO2.out.alloc _) _ _ _ (ints [(j : Int)]) rfl rfl (Sits.new _ _ _) (ints_one _) (by simp only [maxLen]; omega) (by omega) (by simp; omega) ?_; intro v4 w4 hown4 hb4 hg4; rw [HLE.out, HLN.out] at hown4; obtain ⟨A4, c4, rfl, hc4, _⟩ := own_form hown4)
                have hy4 : Ext w3 w4 := (hy.alloc (by omega) _).trans hb4
                refine (members_z n (k - 2 ^ j) _ HZ.out hn (Nat.lt_of_le_of_lt (Nat.sub_le _ _) (by omega)) w4).mono ?_
                rintro r w5 ⟨rfl, hS5, hx5⟩
                go_wp2_with fail
                refine (HA.out w5 ((((hx.tr hx23).tr hy4)).tr hx5) (bsOf n (k - 2 ^ j)) _ n (bsOf_len _ _) hS5.sits).mono ?_
                rintro r w6 ⟨rfl, hx6⟩
                go_wp2
                exact ⟨⟨j + 1, A4, c4, by omega, by go_num, by rw [HPT.out], by rw [HL2.out], (hy4.tr hx5).tr hx6, by rw [HL2.out]; exact own_ext (own_ext hown4 hx5) hx6⟩, by simp [intOf]; omega⟩
          · obtain rfl : j = n := by omega
            cases hpm : pmin j h k j
            · have HRF := Lib.hid (show rawM j h (k + 1) = rawM j h k by rw [HR.out, hpm]; simp)
              clear hpm
              go_wp2
              exact ⟨⟨k + 1, vs, A, c, by omega, by go_num, by rw [HRF.out], (hx.tr hx23).tr hy, by rw [HRF.out]; exact own_ext (own_ext HO hx23) hy, by rw [HRF.out]; exact (Mats.ext HMt hx23).ext hy⟩, by simp [intOf]; omega⟩
            · have HRT := Lib.hid (show rawM j h (k + 1) = rawM j h k ++ [lsOf j k] by rw [HR.out, hpm]; simp)
              clear hpm
              have hlk2 := rawM_len j h k
              have hOw := own_ext (own_ext HO.out hx23) hy
              have hmm := (Mats.ext HMt.out hx23).ext hy
              have hrow := rowS_own (base := w.heap.size) (u := (Value.slice A 0 0).ownBlock) HO2.out (by omega) (by simp only [maxLen]; omega) (fun g hg => by
                have := (HO.out.lt g ((own_of _ _ _ _).trans hg)).2; omega)
              have hm2 := (hmm.snoc hrow).ext (Ext.new wi (.cells #[.slice A' (lsOf j k).length c'] 38))
              have HM2 := Lib.hid hm2
              have HOw := Lib.hid (hOw.alloc (.cells #[.slice A' (lsOf j k).length c'] 38))
              clear hmm hrow hm2 hOw
              have hRN : (rawM j h k).length + 1 = (rawM j h (k + 1)).length := by rw [HRT.out]; simp
              have HRN := Lib.hid hRN
              clear hRN
              go_wp2_with (at_builtin; refine wpList_append_row _ rfl (.tmp 50) (.tmp 52) _ rfl w.heap.size 38 1 24 _ Try.underlying31 sets_info rfl (by omega) _ _ _ rfl HOw.out _ _ _ [.slice A' (lsOf j k).length c'] rfl rfl (Sits.new _ _ _) (by intro u hu; simp at hu; subst hu; rfl) (by simp only [maxLen]; omega) (by omega) (by simp; omega) ?_; intro v4 w4 hown4 hb4 hg4 hrow4; rw [HRN.out] at hown4; obtain ⟨A4, c4, rfl, hc4, _⟩ := own_form hown4)
              have hm4 := HM2.out.grown (u' := (Value.slice A4 0 0).ownBlock) hg4 (.inl (own_of _ _ _ _)) (by
                rcases hrow4 with e | e
                · exact .inl ((own_of _ _ _ _).trans (e.trans (own_of _ _ _ _)))
                · exact .inr ⟨_, (own_of _ _ _ _).trans e, Nat.le_refl _⟩)
              exact ⟨⟨k + 1, vs ++ [.slice A' (lsOf j k).length c'], A4, c4, by omega, by go_num, rfl, (((hx.tr hx23).tr hy).alloc (by omega) _).trans hb4, Lib.hid hown4, Lib.hid (by rw [HRT.out]; exact hm4)⟩, by simp [intOf]; omega⟩
    · obtain rfl : k = M := by omega
      go_wp2_with fail
      refine (SortSets_c (rawM n h k) vs A c w.heap.size wr HO.out HMt.out (by omega)).mono ?_
      rintro r w2 ⟨rfl, vs2, hs2, hm2, hg2⟩
      go_wp2
      go_ret
      exact ⟨A, c, vs2, (show Ending.returned (.slice A (rawM n h k).length c) = .returned (.slice A (minsN n h).length c) by rw [HM.out, srt_len]), hs2, by rw [HM.out]; exact hm2, hx.trans (grown_below hg2 hszr (fun g hg => (HO.out.lt g ((own_of _ _ _ _).trans hg)).1))⟩
end Go.Proofs.Ytmolffigeobnnaa
