/-  -/
import Derived.Test.YtmolffigeobnnaaZ1
import Derived.Test.YtmolffigeobnnaaZ5
import Derived.Laws.CopyOwn
import Derived.IntWalk
import Derived.Deep.DrawnRows
import Derived.Test.YtmolffigeobnnaaZ2
import Derived.Laws.Cover1
set_option maxRecDepth 100000
/- Strings: sums, and a string of one byte. -/
namespace Go.Proofs.Ytmolffigeobnnaa
open Go.RowKit
theorem bytes_append (a b : List UInt8) : (⟨a.toArray⟩ : ByteArray) ++ ⟨b.toArray⟩ = ⟨(a ++ b).toArray⟩ := by
  apply ByteArray.ext
  simp
theorem conv_one {P : Program} (src dst e : TypeId) (hs : P.underlying src = some (.slice e)) (he : P.underlying e = some (.int .u8)) (hd : P.underlying dst = some .string) (W : World) (v : Int) :
    (convert src dst (.slice (some ⟨W.heap.size, 0, none⟩) 1 1)).run P (W.alloc (.cells #[.int .u8 v] e)) = .ok (.string ⟨#[UInt8.ofNat v.toNat]⟩) (W.alloc (.cells #[.int .u8 v] e)) := by
  rw [run_convert_bytes_string _ _ _ e _ _ _ hs he hd, run_bytesToString _ _ _ _ [v]]
  · rfl
  · have hc : (W.alloc (.cells #[.int .u8 v] e)).cell? ⟨W.heap.size, 0, none⟩ = some (.int .u8 v) := by rw [cell_of_row _ _ _ _ _ _ (heap_alloc_new W _)]; rfl
    simp [loadCells, go_sem, hc]
end Go.Proofs.Ytmolffigeobnnaa
/- The walk of formula.Prune. -/
namespace Go.Proofs.Ytmolffigeobnnaa
open Go.RowKit
set_option linter.unusedVariables false
def pgo (f : List Bool → Bool) : Nat → List Bool → List Bool
  | 0, r => r
  | i + 1, r => pgo f i (if r.getD i false = true ∧ f (r.set i false) = true then r.set i false else r)
theorem pgo_len (f : List Bool → Bool) : ∀ (i : Nat) (r : List Bool), (pgo f i r).length = r.length
  | 0, r => rfl
  | i + 1, r => by
    simp only [pgo]
    rw [pgo_len f i]
    split <;> simp
def takeOf (n : Nat) (set : List Bool) : List Bool := (List.range n).map (fun i => set.getD i false)
theorem takeOf_len (n : Nat) (set : List Bool) : (takeOf n set).length = n := by simp [takeOf]
def prn (e : CL.Ex) (set : List Bool) : List Bool :=
  if CL.valid e = true ∧ ev (hasA (CL.atoms e) set) e = true then pgo (fun s => ev (hasA (CL.atoms e) s) e) (CL.atoms e).length (takeOf (CL.atoms e).length set) else List.replicate (CL.atoms e).length false
theorem prn_len (e : CL.Ex) (set : List Bool) : (prn e set).length = (CL.atoms e).length := by
  unfold prn
  split
  · rw [pgo_len, takeOf_len]
  · simp
/-- a list of truth values in a block of its own -/
def OwnBls (l : List Bool) (w : World) (r : Ending) (w' : World) : Prop := ∃ g, r = .returned (.slice (some ⟨g, 0, none⟩) l.length l.length) ∧ Blk w' g 4 (bls l).toArray ∧ w.heap.size ≤ g ∧ Ext w w'
theorem splice_bools (n : Nat) (set : List Bool) : splice (bls (List.replicate n false)) 0 (bls (set.take n)) = bls (takeOf n set) := by
  unfold splice
  simp only [List.take_zero, List.nil_append, Nat.zero_add]
  rw [show (bls (set.take n)).length = (set.take n).length by simp [bls]]
  apply List.ext_getElem
  · simp [bls, takeOf]; omega
  · intro i h1 h2
    have hn : i < n := by simpa [bls, takeOf] using h2
    by_cases h : i < set.length
    · rw [List.getElem_append_left (by simp [bls]; omega)]
      simp [bls, takeOf, List.getD, h]
    · rw [List.getElem_append_right (by simp [bls]; omega)]
      simp [bls, takeOf, List.getD, List.getElem?_eq_none (show set.length ≤ i by omega)]
theorem set_back {L : List Bool} {q : Nat} (hq : q < L.length) (h : L[q] = true) : (L.set q false).set q true = L := by
  rw [List.set_set]
  apply List.ext_getElem
  · simp
  · intro i h1 h2
    rw [List.getElem_set]
    split
    · rename_i e; subst e; exact h.symm
    · rfl
theorem pgo_f {f : List Bool → Bool} {q : Nat} {L : List Bool} (hq : q < L.length) (h : L[q] = false) : pgo f (q + 1) L = pgo f q L := by
  simp only [pgo]
  rw [if_neg (by simp [List.getD, hq, h])]
theorem pgo_t {f : List Bool → Bool} {q : Nat} {L : List Bool} (hq : q < L.length) (h : L[q] = true) (hf : f (L.set q false) = true) : pgo f (q + 1) L = pgo f q (L.set q false) := by
  simp only [pgo]
  rw [if_pos ⟨by simp [List.getD, hq, h], hf⟩]
theorem pgo_b {f : List Bool → Bool} {q : Nat} {L : List Bool} (hf : f (L.set q false) = false) : pgo f (q + 1) L = pgo f q L := by
  simp only [pgo]
  rw [if_neg (fun h => by rw [hf] at h; exact absurd h.2 (by simp))]
theorem Blk.below {w w' : World} {g B : Nat} {t : TypeId} {cs : Array Value} (h : Blk w g t cs) (hb : Below B w w') (hg : g < B) : Blk w' g t cs := (hb.block g hg).trans h
theorem SitsB.sits {w : World} {B : Nat} {A : Option Addr} {xs : List Value} (h : SitsB w B A xs) : Sits w A xs := fun hn =>
  let ⟨b, o, e, _, hc⟩ := h hn
  ⟨b, o, e, hc⟩
theorem copy_bools {w : World} {ops : Array Oper} {rest : List Oper} {o : Oper} {a : Act} {Q : Exit → Act → World → Prop} (hgd : o.guard = none) (d s : Operand)
    (ho : o.op = .call { callee := .builtin .copy, args := #[d, s], argTypes := #[34, 34] }) (g n : Nat) (S : Option Addr) (set : List Bool) (sc : Nat) (hd : a.eval d = .slice (some ⟨g, 0, none⟩) n n) (hs : a.eval s = .slice S set.length sc)
    (hb : Blk w g 4 (bls (List.replicate n false)).toArray) (hr : Sits w S (bls set))
    (h : ∀ w' v, Blk w' g 4 (bls (takeOf n set)).toArray → Below g w w' → wpList Try.prog ops Q rest (a.put o.dst v) w') : wpList Try.prog ops Q (o :: rest) a w := by
  refine wpList_copy_splice hgd d s _ _ ho 4 Try.underlying34 (by kernel_rfl) (some ⟨g, 0, none⟩) S n n set.length sc hd hs g 0 (bls (List.replicate n false)) 4 hb (bls (set.take n)) (by simp only [bls, List.length_map, List.length_take]; exact Nat.min_comm _ _) ?_ (by simp [bls]; omega) (by intro v hv; simp only [bls, List.mem_map] at hv; obtain ⟨b, _, rfl⟩ := hv; rfl) g w (Below.refl _ _) (Nat.le_refl _) ?_
  · intro h0
    refine ⟨rfl, ?_⟩
    obtain ⟨b, o, e, hc⟩ := hr.get (by simp [bls] at h0 ⊢; omega)
    refine ⟨_, e, fun j v hj => ?_⟩
    rw [Addr.add_lit]
    refine hc j v ?_
    have hj2 := (List.getElem?_eq_some_iff.1 hj).1
    rw [← hj, show bls (set.take n) = (bls set).take n by simp [bls, List.map_take], List.getElem?_take_of_lt (by simp [bls] at hj2; omega)]
  · intro w' hw' hb'
    refine h w' _ ?_ hb'
    have := hw'.out
    rwa [splice_bools] at this
end Go.Proofs.Ytmolffigeobnnaa
/- The walk of formula.Class. -/
namespace Go.Proofs.Ytmolffigeobnnaa
open Go.RowKit
set_option linter.unusedVariables false
def alone (n i : Nat) : List Bool := (List.range n).map (fun j : Nat => ((j : Int) == (i : Int)))
def without (n i : Nat) : List Bool := (List.range n).map (fun j : Nat => ((j : Int) != (i : Int)))
def conjB (f : List Bool → Bool) (n : Nat) : Nat → Bool
  | 0 => true
  | i + 1 => conjB f n i && !f (without n i)
def disjB (f : List Bool → Bool) (n : Nat) : Nat → Bool
  | 0 => true
  | i + 1 => disjB f n i && f (alone n i)
def clsN (f : List Bool → Bool) (n : Nat) : Int := if conjB f n n = true then 2 else if disjB f n n = true then 3 else 4
def cls (e : CL.Ex) : Int := if (CL.atoms e).length < 2 then (CL.atoms e).length else clsN (fun s => ev (hasA (CL.atoms e) s) e) (CL.atoms e).length
theorem bls_at {w : World} {g : Nat} {L : List Bool} (h : Blk w g 4 (bls L).toArray) {q : Nat} (hq : q < L.length) : w.cell? ⟨g, q, none⟩ = some (.bool L[q]) := by rw [h.cell]; simp [bls, hq]
theorem two_rows (w : World) (c1 : Array Value) (t1 : TypeId) (c2 : Array Value) (t2 : TypeId) : Blk ((w.alloc (.cells c1 t1)).alloc (.cells c2 t2)) w.heap.size t1 c1 ∧ Blk ((w.alloc (.cells c1 t1)).alloc (.cells c2 t2)) (w.heap.size + 1) t2 c2 :=
  ⟨(Blk.new _ _ _).alloc _, by have h := Blk.new (w.alloc (.cells c1 t1)) t2 c2; rw [World.size_alloc] at h; exact h⟩
end Go.Proofs.Ytmolffigeobnnaa
/- The walks of the reference of chapter 8: holds, Holds, Hopeless, SameBools. -/
namespace Go.Proofs.Ytmolffigeobnnaa
open Go.RowKit
set_option linter.unusedVariables false
mutual
def rev (h : CL.At → Bool) : CL.Ex → Bool | .mk k a kids => if k = 0 then h a else decide (k ≤ (rcnt h kids : Nat))
def rcnt (h : CL.At → Bool) : List CL.Ex → Nat
  | [] => 0
  | e :: l => (if rev h e = true then 1 else 0) + rcnt h l
end
theorem rev_ev (h : CL.At → Bool) (e : CL.Ex) : ∀ l x : List CL.At, CL.radd e l = some x → rev h e = ev h e := by
  induction e using CL.Ex.ind with
  | h k a kids ih =>
    have hL : ∀ (ks : List CL.Ex), (∀ e ∈ ks, ∀ l x : List CL.At, CL.radd e l = some x → rev h e = ev h e) → ∀ l x : List CL.At, CL.raddL ks l = some x → rcnt h ks = cnt h ks := by
      intro ks
      induction ks with
      | nil => intro _ l x _; simp [rcnt, cnt]
      | cons e ks ihk =>
        intro hk l x hx
        simp only [CL.raddL] at hx
        split at hx
        · cases hx
        · rename_i y hy
          simp only [rcnt, cnt]
          rw [hk e (by simp) l y hy, ihk (fun x hx => hk x (by simp [hx])) y x hx]
    intro l x hx
    simp only [CL.radd] at hx
    split at hx
    · rename_i hk
      split at hx
      · rename_i hk2
        simp only [rev, ev]
        rw [if_pos hk2.1, if_pos hk]
      · cases hx
    · rename_i hk
      split at hx
      · cases hx
      · rename_i hb
        simp only [rev, ev]
        rw [if_neg (by omega), if_neg hk, hL kids ih l x hx]
theorem rev_valid {h : CL.At → Bool} {e : CL.Ex} (hv : CL.valid e = true) : rev h e = ev h e := rev_ev h e [] _ (CL.valid_coll hv).1
theorem rcnt_step {h : CL.At → Bool} {kids : List CL.Ex} {j : Nat} (hj : j < kids.length) : rcnt h (kids.drop j) = (if rev h kids[j] = true then 1 else 0) + rcnt h (kids.drop (j + 1)) := by
  rw [List.drop_eq_getElem_cons hj]; simp only [rcnt]
theorem rcnt_end {h : CL.At → Bool} {kids : List CL.Ex} {j : Nat} (hj : kids.length ≤ j) : rcnt h (kids.drop j) = 0 := by
  rw [List.drop_eq_nil_of_le hj]; simp only [rcnt]
theorem hasA_hit {l : List CL.At} {set : List Bool} {a : CL.At} {j : Nat} (h : a ∉ l.take j) (hj : j < l.length) (e : a = l[j]) : hasA l set a = set.getD j false := hasA_some (ixo_hit h hj e)
theorem hasA_end {l : List CL.At} {set : List Bool} {a : CL.At} {j : Nat} (h : a ∉ l.take j) (hj : l.length ≤ j) : hasA l set a = false := by
  rw [List.take_of_length_le hj] at h
  exact hasA_none (ixo_none h)
set_option maxHeartbeats 3200000 in
theorem clusterlocksref08.holds_c (l : List CL.At) (set : List Bool) (A S : Option Addr) (c d : Nat) (hl : l.length ≤ maxLen) (hs : set.length ≤ maxLen) (e : CL.Ex) : ∀ (w : World) (B : Nat) (cs : List Value), Rd w B e cs → B ≤ w.heap.size → Sits w A (ats l) → Sits w S (bls set) →
    Calls Try.prog 54 #[.agg cs.toArray, .slice A l.length c, .slice S set.length d] w fun r w' => r = .returned (.bool (rev (hasA l set) e)) ∧ Ext w w' := by
  induction e using CL.Ex.ind with
  | h k a kids ih =>
    intro w B cs hR hB hrl hrs
    obtain ⟨A0, c0, rfl, hnm, hkl, hkc, hK⟩ := hR.inv
    obtain ⟨nm, m, u⟩ := a
    have IH := Lib.hid ih
    clear ih hR
    have hl2 := hl
    have hs2 := hs
    unfold maxLen at hkl hl2 hs2
    obtain ⟨bE, hx0⟩ := box1 w #[.int .i64 k, .string ⟨nm.toArray⟩, .int .i64 m, .int .i64 u, .slice A0 kids.length c0] 28
    have hz0 := hx0.size
    have hg := at_guard
    by_cases hk0 : k = 0
    · subst hk0
      have HP := Lib.hid (show rev (hasA l set) (.mk 0 ⟨nm, ⟨m, u⟩⟩ kids) = hasA l set ⟨nm, ⟨m, u⟩⟩ by simp [rev])
      have HN : Hid ((⟨nm, ⟨m, u⟩⟩ : CL.At) ∉ l.take 0) := Lib.hid (by simp)
      go_enter Try.func54, Try.ntmps54
      go_wp2
      generalize (w.alloc (.cells #[.int .i64 0, .string ⟨nm.toArray⟩, .int .i64 m, .int .i64 u, .slice A0 kids.length c0] 28)) = w1 at *
      go_loopw [7] (fun i wr => ∃ j : Nat, j ≤ l.length ∧ i = .int .i64 j ∧ Ext w1 wr ∧ Hid ((⟨nm, ⟨m, u⟩⟩ : CL.At) ∉ l.take j)) (fun i _ => l.length - (intOf i).toNat)
      case atStart => exact ⟨0, by omega, rfl, Ext.rfl', HN⟩
      case round =>
        obtain ⟨j, hj, rfl, hy, HJ⟩ := hrel
        by_cases hlt : j < l.length
        · obtain ⟨b, o, rfl, c0, c1, c2⟩ := (hrl.ext (hx0.tr hy)).atoms hlt
          have H1 := Lib.hid (hasA_hit (set := set) HJ.out hlt)
          have H3 := Lib.hid (out_step HJ.out hlt)
          have bEr := bE.ext hy
          have q0 := ExtOf.cell (bEr.cell 1)
          have q1 := ExtOf.cell (bEr.cell 2)
          have q2 := ExtOf.cell (bEr.cell 3)
          generalize l[j] = x at *
          obtain ⟨xn, xm, xu⟩ := x
          simp only at c0 c1 c2
          have q3 := ExtOf.cell c0
          have q4 := ExtOf.cell c1
          have q5 := ExtOf.cell c2
          have hq := at_eql xn nm xm xu m u
          by_cases heq : (⟨xn, ⟨xm, xu⟩⟩ : CL.At) = ⟨nm, ⟨m, u⟩⟩
          · rw [decide_eq_true heq] at hq
            have H4 := Lib.hid (H1.out heq.symm)
            clear heq c0 c1 c2
            go_wp2_with fail
            refine wp_region_ext_lit (by kernel_rfl) (by kernel_rfl) ?_
            repeat (go_big_quiet_step (fail))
            refine wpQuiet_nil ?_
            intro wq hw'
            obtain ⟨⟨wq', hxq⟩, hw''⟩ := hw'
            subst hw''
            clear q0 q1 q2 q3 q4 q5
            by_cases hjs : j < set.length
            · have HG := Lib.hid (show set.getD j false = set[j] by simp [List.getD, hjs])
              obtain ⟨b2, o2, rfl, hc⟩ := (hrs.ext (hx0.tr (hy.tr hxq))).bool hjs
              go_wp2
              go_ret
              exact ⟨ret_bool (by rw [HP.out, H4.out, HG.out]), hx0.tr (hy.tr hxq)⟩
            · have HG := Lib.hid (show set.getD j false = false by simp [List.getD, List.getElem?_eq_none (show set.length ≤ j by omega)])
              go_wp2
              go_ret
              exact ⟨ret_bool (by rw [HP.out, H4.out, HG.out]), hx0.tr (hy.tr hxq)⟩
          · have H4 := Lib.hid (H3.out (Ne.symm heq))
            rw [decide_eq_false heq] at hq
            clear heq c0 c1 c2
            go_wp2_with fail
            refine wp_region_ext_lit (by kernel_rfl) (by kernel_rfl) ?_
            repeat (go_big_quiet_step (fail))
            refine wpQuiet_nil ?_
            intro wq hw'
            obtain ⟨⟨wq', hxq⟩, hw''⟩ := hw'
            subst hw''
            go_wp2
            exact ⟨⟨j + 1, by omega, by go_num, hy.tr hxq, H4⟩, by simp [intOf]; omega⟩
        · have H4 := Lib.hid (hasA_end (set := set) HJ.out (by omega))
          go_wp2
          go_ret
          exact ⟨ret_bool (by rw [HP.out, H4.out]), hx0.tr hy⟩
    · have hk0' : (k == 0) = false := by simpa using hk0
      have HP := Lib.hid (show rev (hasA l set) (.mk k ⟨nm, ⟨m, u⟩⟩ kids) = decide (k ≤ (rcnt (hasA l set) kids : Nat)) by simp only [rev]; rw [if_neg hk0])
      go_enter Try.func54, Try.ntmps54
      go_wp2
      generalize (w.alloc (.cells #[.int .i64 k, .string ⟨nm.toArray⟩, .int .i64 m, .int .i64 u, .slice A0 kids.length c0] 28)) = w1 at *
      go_loopw [8, 9] (fun n i wr => ∃ (j n' : Nat), j ≤ kids.length ∧ n' ≤ j ∧ i = .int .i64 j ∧ n = .int .i64 n' ∧ Ext w1 wr ∧ Hid (rcnt (hasA l set) kids = n' + rcnt (hasA l set) (kids.drop j))) (fun _ i _ => kids.length - (intOf i).toNat)
      case atStart => exact ⟨0, 0, by omega, by omega, rfl, rfl, Ext.rfl', Lib.hid (by simp)⟩
      case round =>
        obtain ⟨j, n', hj, hn', rfl, rfl, hx, HL⟩ := hrel
        have hzr := hx.size
        have hbE := bE.ext hx
        have hbl := hbE.lt
        have d4 : wr.cell? ⟨w.heap.size, 4, none⟩ = some (.slice A0 kids.length c0) := hbE.cell 4
        by_cases hlt : j < kids.length
        · have hKr := hK.below ((hx0.tr hx).mono hB)
          obtain ⟨b, o, k1, s1, m1, u1, A1, l1, x1, rfl, hbB, hR, c0, c1, c2, c3, c4⟩ := hKr.get hlt
          have HS := Lib.hid (rcnt_step (h := hasA l set) hlt)
          have hm := List.getElem_mem hlt
          generalize kids[j] = e at *
          have hbx : b ≠ wr.heap.size := by omega
          have hxr := hx0.tr hx
          cases hev : rev (hasA l set) e
          all_goals
            go_wp2_with (go_at_call 54; (with_reducible refine (IH.out e hm _ B _ hR (by omega) (hrl.ext hxr) (hrs.ext hxr)).mono ?_); rintro r w' ⟨rfl, hx1⟩)
            first
              | exact ⟨⟨j + 1, n' + 1, by omega, by omega, by go_num, by go_num, hx.tr hx1, Lib.hid (by rw [HL.out, HS.out, hev]; simp; omega)⟩, by simp [intOf]; omega⟩
              | exact ⟨⟨j + 1, n', by omega, by omega, by go_num, rfl, hx.tr hx1, Lib.hid (by rw [HL.out, HS.out, hev]; simp)⟩, by simp [intOf]; omega⟩
        · have e0 : wr.cell? ⟨w.heap.size, 0, none⟩ = some (.int .i64 k) := hbE.cell 0
          go_wp2
          go_ret
          refine ⟨ret_bool ?_, hx0.tr hx⟩
          rw [HP.out, HL.out, rcnt_end (by omega)]
          simp
/-- the same, for a valid expression -/
theorem rholds_c (l : List CL.At) (set : List Bool) (A S : Option Addr) (c d : Nat) (hl : l.length ≤ maxLen) (hs : set.length ≤ maxLen) (e : CL.Ex) (hv : CL.valid e = true) (w : World) (B : Nat) (cs : List Value) (hR : Rd w B e cs) (hB : B ≤ w.heap.size) (hrl : Sits w A (ats l)) (hrs : Sits w S (bls set)) :
    Calls Try.prog 54 #[.agg cs.toArray, .slice A l.length c, .slice S set.length d] w fun r w' => r = .returned (.bool (ev (hasA l set) e)) ∧ Ext w w' := by
  have h := clusterlocksref08.holds_c l set A S c d hl hs e w B cs hR hB hrl hrs
  rwa [rev_valid hv] at h
theorem RAts.get {e : CL.Ex} {w w' : World} {r : Ending} (h : RAts e w r w') : ∃ A c, r = .returned (.tuple #[.slice A (CL.atoms e).length c, .bool (CL.valid e)]) ∧ Sits w' A (ats (CL.atoms e)) ∧ Ext w w' := by
  obtain ⟨v, rfl, ho, hb⟩ := h
  obtain ⟨A, c, rfl, _, _⟩ := own_form ho
  exact ⟨A, c, rfl, Sits.of_own ho, hb⟩
end Go.Proofs.Ytmolffigeobnnaa
/- The walks of the reference of chapter 8: Holds, Hopeless, Prune, Class, SameBools. -/
namespace Go.Proofs.Ytmolffigeobnnaa
open Go.RowKit
set_option linter.unusedVariables false
theorem clusterlocksref08.Holds_c (e : CL.Ex) (set : List Bool) (S : Option Addr) (d : Nat) (hs : set.length ≤ maxLen) (w : World) (B : Nat) (cs : List Value) (hR : Rd w B e cs) (hB : B ≤ w.heap.size) (hrs : Sits w S (bls set)) :
    Calls Try.prog 22 #[.agg cs.toArray, .slice S set.length d] w fun r w' => r = .returned (.bool (holdsE e set)) ∧ Ext w w' := by
  obtain ⟨k, s, m, u, A1, l1, c1, rfl⟩ := hR.shape
  obtain ⟨bE, hx0⟩ := box1 w #[.int .i64 k, .string s, .int .i64 m, .int .i64 u, .slice A1 l1 c1] 28
  have hz0 := hx0.size
  have hl8 := atoms_len e
  have HAT := Lib.hid (clusterlocksref07.Atoms_c e _ B _ (hR.ext hx0 hB) (by omega))
  cases hv : CL.valid e
  · have HV := Lib.hid (show holdsE e set = false by simp [holdsE, hv])
    go_enter Try.func22, Try.ntmps22
    go_wp2_with (go_at_call 53; (with_reducible refine HAT.out.mono ?_); intro r w' hp; obtain ⟨A2, c2, rfl, hr2, hx⟩ := hp.get)
    go_ret
    exact ⟨ret_bool HV.out.symm, hx0.tr hx⟩
  · have HV := Lib.hid (show holdsE e set = ev (hasA (CL.atoms e) set) e by simp [holdsE, hv])
    have HVV := Lib.hid hv
    go_enter Try.func22, Try.ntmps22
    go_wp2_with (first
      | (go_at_call 53; (with_reducible refine HAT.out.mono ?_); intro r w' hp; obtain ⟨A2, c2, rfl, hr2, hx⟩ := hp.get; obtain ⟨e0, e1, e2, e3, e4⟩ := (bE.ext hx).c5; have hz1 := hx.size)
      | (go_at_call 54; (with_reducible refine (rholds_c (CL.atoms e) set _ S _ d (by unfold maxLen; omega) hs e HVV.out _ B _ ((hR.ext hx0 hB).ext hx (by omega)) (by omega) hr2 ((hrs.ext hx0).ext hx)).mono ?_); rintro r w'' ⟨rfl, hx1⟩))
    go_ret
    exact ⟨ret_bool HV.out.symm, hx0.tr (Ext.tr hx hx1)⟩
set_option maxHeartbeats 1600000 in
theorem clusterlocksref08.Hopeless_c (e : CL.Ex) (dead : List Bool) (S : Option Addr) (d : Nat) (hs : dead.length ≤ maxLen) (w : World) (B : Nat) (cs : List Value) (hR : Rd w B e cs) (hB : B ≤ w.heap.size) (hrs : Sits w S (bls dead)) :
    Calls Try.prog 23 #[.agg cs.toArray, .slice S dead.length d] w fun r w' => r = .returned (.bool (hpl e dead)) ∧ Ext w w' := by
  obtain ⟨k, s, m, u, A1, l1, c1, rfl⟩ := hR.shape
  obtain ⟨bE, hx0⟩ := box1 w #[.int .i64 k, .string s, .int .i64 m, .int .i64 u, .slice A1 l1 c1] 28
  have hz0 := hx0.size
  have hl8 := atoms_len e
  unfold maxLen at hs
  have HAT := Lib.hid (clusterlocksref07.Atoms_c e _ B _ (hR.ext hx0 hB) (by omega))
  cases hv : CL.valid e
  · have HV := Lib.hid (show hpl e dead = false by simp [hpl, hv])
    go_enter Try.func23, Try.ntmps23
    go_wp2_with (go_at_call 53; (with_reducible refine HAT.out.mono ?_); intro r w' hp; obtain ⟨A2, c2, rfl, hr2, hx⟩ := hp.get)
    go_ret
    exact ⟨ret_bool HV.out.symm, hx0.tr hx⟩
  · have HV := Lib.hid (show hpl e dead = !ev (hasA (CL.atoms e) (restOf (CL.atoms e).length dead)) e by simp [hpl, hv])
    have HVV := Lib.hid hv
    have HAT2 := Lib.hid (show ∀ r w', RAts e (w.alloc (.cells #[.int .i64 k, .string s, .int .i64 m, .int .i64 u, .slice A1 l1 c1] 28)) r w' → ∃ A c, r = .returned (.tuple #[.slice A (CL.atoms e).length c, .bool true]) ∧ Sits w' A (ats (CL.atoms e)) ∧ Ext (w.alloc (.cells #[.int .i64 k, .string s, .int .i64 m, .int .i64 u, .slice A1 l1 c1] 28)) w' from fun r w' hp => by
      have := hp.get; rwa [hv] at this)
    generalize hN : CL.atoms e = L0 at *
    have HN := Lib.hid hN
    clear hN
    have hmk := mk_bools L0.length (by omega)
    go_enter Try.func23, Try.ntmps23
    go_wp2_with (go_at_call 53; (with_reducible refine HAT.out.mono ?_); intro r w' hp; obtain ⟨A2, c2, rfl, hr2, hx⟩ := HAT2.out _ _ hp)
    have hbE := bE.ext hx
    have HRA := Lib.hid hr2
    have hxw := hx0.tr hx
    have hz1 := hx.size
    have HXW := Lib.hid hx
    clear hx hr2 HAT HAT2 hmk
    generalize hn2 : L0.length = n at *
    have hbS := Blk.new w' 4 (bls (List.replicate n false)).toArray
    have hxS := Ext.new w' (.cells (bls (List.replicate n false)).toArray 4)
    have hg : w.heap.size < w'.heap.size := hbE.lt
    generalize hG : w'.heap.size = g at *
    generalize (w'.alloc (.cells (bls (List.replicate n false)).toArray 4)) = w2 at *
    go_loopw [8] (fun i wr => ∃ (j : Nat) (L : List Bool), j ≤ n ∧ i = .int .i64 j ∧ Only g w2 wr ∧ Blk wr g 4 (bls L).toArray ∧ Hid (Filled (fun i => !(dead.getD i false)) L n j)) (fun i _ => n - (intOf i).toNat)
    case atStart => exact ⟨0, _, by omega, rfl, Only.rf, hbS, Filled.zero _ _⟩
    case round =>
      obtain ⟨j, L, hj, rfl, ho, hb, HF⟩ := hrel
      have hlen := HF.out.1
      have hsz := ho.size
      by_cases hlt : j < n
      · have hbs := hb.set j (.bool (!(dead.getD j false)))
        rw [bls_set] at hbs
        have s0 : wr.cell? ⟨g, j, none⟩ = some (.bool (L[j]'(by omega))) := by rw [hb.cell]; simp [bls, show j < L.length by omega]
        have z0 := hb.frozen j
        have hji : (j : Int) < (n : Int) := by omega
        by_cases hd : j < dead.length
        · have hgd : dead.getD j false = dead[j] := by simp [List.getD, hd]
          rw [hgd] at hbs
          obtain ⟨b, o, rfl, hc⟩ := (hrs.ext hxw).bool hd
          have hbw := World.block_lt_of_cell? _ _ hc
          have hc2 : wr.cell? ⟨b, o + j, none⟩ = some (.bool dead[j]) := ho.cell (hxS.cell hc) (by intro e; injection e with e; simp at hbw e; omega)
          have hjd : ¬ (dead.length : Int) ≤ (j : Int) := by omega
          have HF2 := Lib.hid HF.out.step
          rw [hgd] at HF2
          clear hc hgd
          go_wp2
          exact ⟨⟨j + 1, _, by omega, by go_num, ho.set _ _, hbs, HF2⟩, by simp [intOf]; omega⟩
        · have hgd : dead.getD j false = false := by simp [List.getD, List.getElem?_eq_none (show dead.length ≤ j by omega)]
          rw [hgd] at hbs
          have hjd : (dead.length : Int) ≤ (j : Int) := by omega
          have HF2 := Lib.hid HF.out.step
          rw [hgd] at HF2
          clear hgd
          go_wp2
          exact ⟨⟨j + 1, _, by omega, by go_num, ho.set _ _, hbs, HF2⟩, by simp [intOf]; omega⟩
      · have hL := HF.out.done (by omega)
        obtain ⟨e0, e1, e2, e3, e4⟩ := ((hbE.ext hxS).only ho (by omega)).c5
        have hxr : Ext w' wr := Ext.only hxS ho (by omega)
        have hsl : Sits wr (some ⟨g, 0, none⟩) (bls L) := hb.sits
        have HSL := Lib.hid hsl
        have HLL := Lib.hid (show ev (hasA L0 (restOf n dead)) e = ev (hasA L0 L) e by rw [hL]; rfl)
        have HX := Lib.hid hxr
        have hsL : L.length ≤ maxLen := by unfold maxLen; omega
        have hzr := hxr.size
        obtain rfl := hlen
        clear hsl hL hxr HF
        have hc := fun c2 => rholds_c L0 L A2 (some ⟨g, 0, none⟩) c2 L.length (by unfold maxLen; omega) hsL e HVV.out wr B _ ((hR.ext hx0 hB).ext (Ext.tr HXW.out HX.out) (by omega)) (by omega) (HRA.out.ext HX.out) HSL.out
        rw [hn2] at hc
        have HC := Lib.hid hc
        clear hc
        go_wp2_with (go_at_call 54; (with_reducible refine (HC.out _).mono ?_); rintro r w'' ⟨rfl, hx1⟩)
        go_ret
        exact ⟨ret_bool (by rw [HV.out, HLL.out]), hxw.tr (HX.out.tr hx1)⟩
theorem take_ne {a b : List Bool} {j : Nat} (h : ¬ a.length = b.length) : (a == b) = false := beq_eq_false_iff_ne.2 (fun e => h (by rw [e]))
theorem at_ne' {a b : List Bool} {j : Nat} (ha : j < a.length) (hb : j < b.length) (h : ¬ a[j] = b[j]) : (a == b) = false := beq_eq_false_iff_ne.2 (fun e => h (by subst e; rfl))
theorem all_eq {a b : List Bool} {j : Nat} (hl : a.length = b.length) (h : a.take j = b.take j) (hj : a.length ≤ j) : (a == b) = true := by
  rw [List.take_of_length_le hj, List.take_of_length_le (by omega)] at h
  simpa using h
theorem take_eq {a b : List Bool} {j : Nat} (h : a.take j = b.take j) (ha : j < a.length) (hb : j < b.length) (e : a[j] = b[j]) : a.take (j + 1) = b.take (j + 1) := by
  rw [List.take_succ_eq_append_getElem ha, List.take_succ_eq_append_getElem hb, h, e]
end Go.Proofs.Ytmolffigeobnnaa
/- Plain facts: truth of an expression is monotone; a pruned set is minimal. -/
namespace Go.Proofs.Ytmolffigeobnnaa
open Go.RowKit
set_option linter.unusedVariables false
set_option linter.unusedSimpArgs false
theorem ev_mono {h h' : CL.At → Bool} (hh : ∀ a, h a = true → h' a = true) (e : CL.Ex) : ev h e = true → ev h' e = true := by
  induction e using CL.Ex.ind with
  | h k a kids ih =>
    have hL : ∀ ks : List CL.Ex, (∀ e ∈ ks, ev h e = true → ev h' e = true) → cnt h ks ≤ cnt h' ks := by
      intro ks
      induction ks with
      | nil => intro _; simp [cnt]
      | cons e ks ihk =>
        intro hk
        have h1 := hk e (by simp)
        have h2 := ihk (fun x hx => hk x (by simp [hx]))
        simp only [cnt]
        split
        · rename_i he; rw [if_pos (h1 he)]; omega
        · split <;> omega
    simp only [ev]
    split
    · exact hh a
    · intro hd
      have := hL kids ih
      simp only [decide_eq_true_eq] at hd ⊢
      omega
/-- s is within t -/
def Sub (s t : List Bool) : Prop := ∀ i : Nat, s.getD i false = true → t.getD i false = true
theorem Sub.rf (s : List Bool) : Sub s s := fun _ h => h
theorem Sub.tr {a b c : List Bool} (h : Sub a b) (k : Sub b c) : Sub a c := fun i hi => k i (h i hi)
theorem getD_set (s : List Bool) (q i : Nat) : (s.set q false).getD i false = (if q = i then false else s.getD i false) := by
  simp only [List.getD, List.getElem?_set]
  split
  · split <;> simp
  · rfl
theorem Sub.set {s t : List Bool} (h : Sub s t) (q : Nat) : Sub (s.set q false) (t.set q false) := by
  intro i hi
  rw [getD_set] at hi ⊢
  split at hi
  · exact absurd hi (by simp)
  · rename_i hq; rw [if_neg hq]; exact h i hi
theorem Sub.drop1 (s : List Bool) (q : Nat) : Sub (s.set q false) s := by
  intro i hi
  rw [getD_set] at hi
  split at hi
  · exact absurd hi (by simp)
  · exact hi
theorem hasA_sub {l : List CL.At} {s t : List Bool} (h : Sub s t) (a : CL.At) : hasA l s a = true → hasA l t a = true := by
  unfold hasA
  split
  · exact id
  · exact h _
theorem pgo_sub (f : List Bool → Bool) : ∀ (i : Nat) (r : List Bool), Sub (pgo f i r) r
  | 0, r => Sub.rf r
  | i + 1, r => by
    simp only [pgo]
    refine (pgo_sub f i _).tr ?_
    split
    · exact Sub.drop1 r i
    · exact Sub.rf r
theorem pgo_holds {f : List Bool → Bool} : ∀ (i : Nat) (r : List Bool), f r = true → f (pgo f i r) = true
  | 0, r, h => h
  | i + 1, r, h => by
    simp only [pgo]
    apply pgo_holds
    split
    · rename_i hc; exact hc.2
    · exact h
theorem pgo_min {f : List Bool → Bool} (hf : ∀ s t, Sub s t → f s = true → f t = true) : ∀ (i : Nat) (r : List Bool) (q : Nat), q < i → (pgo f i r).getD q false = true → f ((pgo f i r).set q false) = false
  | 0, r, q, h, _ => by omega
  | i + 1, r, q, h, hq => by
    simp only [pgo] at hq ⊢
    rcases Nat.lt_or_ge q i with hlt | hge
    · exact pgo_min hf i _ q hlt hq
    · obtain rfl : q = i := by omega
      by_cases hc : r.getD q false = true ∧ f (r.set q false) = true
      · rw [if_pos hc] at hq
        have := pgo_sub f q _ q hq
        rw [getD_set, if_pos rfl] at this
        exact absurd this (by simp)
      · rw [if_neg hc] at hq ⊢
        have h1 := pgo_sub f q r q hq
        cases h2 : f ((pgo f q r).set q false)
        · rfl
        · exact absurd ⟨h1, hf _ _ ((pgo_sub f q r).set q) h2⟩ hc
theorem takeOf_get (n : Nat) (set : List Bool) (i : Nat) : (takeOf n set).getD i false = (if i < n then set.getD i false else false) := by
  simp only [takeOf, List.getD, List.getElem?_map, List.getElem?_range]
  split <;> simp [*]
theorem takeOf_sub (n : Nat) (set : List Bool) : Sub (takeOf n set) set := by
  intro i hi
  rw [takeOf_get] at hi
  split at hi
  · exact hi
  · exact absurd hi (by simp)
theorem ixo_lt {l : List CL.At} {a : CL.At} {i : Nat} (h : ixo l a = some i) : i < l.length := by
  unfold ixo at h
  rw [List.findIdx?_eq_some_iff_getElem] at h
  exact h.1
theorem hasA_take (l : List CL.At) (set : List Bool) : hasA l (takeOf l.length set) = hasA l set := by
  funext a
  unfold hasA
  split
  · rfl
  · rename_i i hi
    rw [takeOf_get, if_pos (ixo_lt hi)]
theorem ev_sub (e : CL.Ex) (l : List CL.At) (s t : List Bool) (h : Sub s t) : ev (hasA l s) e = true → ev (hasA l t) e = true := ev_mono (hasA_sub h) e
theorem prn_eq {e : CL.Ex} {set : List Bool} (h : holdsE e set = true) : prn e set = pgo (fun s => ev (hasA (CL.atoms e) s) e) (CL.atoms e).length (takeOf (CL.atoms e).length set) := by
  simp only [holdsE, Bool.and_eq_true] at h
  unfold prn
  rw [if_pos h]
theorem prn_holds {e : CL.Ex} {set : List Bool} (h : holdsE e set = true) : holdsE e (prn e set) = true := by
  rw [prn_eq h]
  simp only [holdsE, Bool.and_eq_true] at h ⊢
  refine ⟨h.1, ?_⟩
  exact pgo_holds (f := fun s => ev (hasA (CL.atoms e) s) e) _ _ (by rw [hasA_take]; exact h.2)
theorem prn_min {e : CL.Ex} {set : List Bool} (h : holdsE e set = true) {i : Nat} (hi : i < (prn e set).length) (hp : (prn e set)[i] = true) :
    i < set.length ∧ set.getD i false = true ∧ holdsE e ((prn e set).set i false) = false := by
  have hg : (prn e set).getD i false = true := by simp [List.getD, hi, hp]
  have hin : i < (CL.atoms e).length := by rw [← prn_len e set]; exact hi
  rw [prn_eq h] at hg ⊢
  have h1 := ((pgo_sub _ _ _).tr (takeOf_sub _ _)) i hg
  refine ⟨?_, h1, ?_⟩
  · rcases Nat.lt_or_ge i set.length with hlt | hge
    · exact hlt
    · simp [List.getD, List.getElem?_eq_none hge] at h1
  · simp only [holdsE]
    rw [pgo_min (f := fun s => ev (hasA (CL.atoms e) s) e) (fun s t hs => ev_sub e _ s t hs) _ _ i hin hg]
    simp
end Go.Proofs.Ytmolffigeobnnaa
/- The statements about expressions (chapter 8): the check that the package is awake, and the first walks of the laws. -/
namespace Go.Proofs.Ytmolffigeobnnaa
open Go.RowKit
set_option linter.unusedVariables false
def atomE (s : List UInt8) : CL.Ex := .mk 0 ⟨s, ⟨3, 0⟩⟩ []
def exA : CL.Ex := .mk 2 CL.noAt [atomE [97], atomE [98], atomE [99]]
theorem exA_valid : CL.valid exA = true := by decide
theorem exA_atoms : CL.atoms exA = [⟨[97], ⟨3, 0⟩⟩, ⟨[98], ⟨3, 0⟩⟩, ⟨[99], ⟨3, 0⟩⟩] := by decide
theorem exA_prn : prn exA [true, true, true] = [true, true, false] := by decide
theorem exA_holds : holdsE exA [true, false, true] = true := by decide
theorem exA_cls : cls exA = 4 := by decide
theorem exA_hpl : hpl exA [true, true] = true := by decide
/-- an atom in mode S, as cells -/
def atcs (s : List UInt8) : List Value := [.int .i64 0, .string ⟨s.toArray⟩, .int .i64 3, .int .i64 0, .slice none 0 0]
theorem rd_atom (w : World) (B : Nat) (s : List UInt8) (hs : s.length ≤ maxLen) : Rd w B (atomE s) (atcs s) :=
  .mk 0 s 3 0 [] none 0 [] hs (by simp [maxLen]) (by simp) rfl (by simp) (fun h => absurd rfl h) (fun i h => by simp at h)
theorem rd_exA (w : World) (B g : Nat) (t : TypeId) (hg : g < B) (hb : Blk w g t (atcs [97] ++ atcs [98] ++ atcs [99]).toArray) :
    Rd w B exA [.int .i64 2, .string ⟨#[]⟩, .int .i64 0, .int .i64 0, .slice (some ⟨g, 0, none⟩) 3 3] :=
  .mk 2 [] 0 0 [atomE [97], atomE [98], atomE [99]] (some ⟨g, 0, none⟩) 3 [atcs [97], atcs [98], atcs [99]] (by simp [maxLen]) (by simp [maxLen]) (by simp) rfl (by simp [atcs])
    (fun _ => ⟨g, 0, rfl, hg, fun j u hu => by rw [Nat.zero_add, hb.cell]; simpa using hu⟩)
    (fun i h1 h2 => by
      have : i = 0 ∨ i = 1 ∨ i = 2 := by simp at h1; omega
      rcases this with rfl | rfl | rfl <;> exact rd_atom w B _ (by simp [maxLen]))
theorem ho_exA (w : World) (B : Nat) (cs : List Value) (S : Option Addr) (d : Nat) (hR : Rd w B exA cs) (hB : B ≤ w.heap.size) (hrs : Sits w S (bls [true, false, true])) : Calls Try.prog 48 #[.agg cs.toArray, .slice S 3 d] w fun r w' => r = .returned (.bool true) ∧ Ext w w' := by
  have h := formula.Holds_c exA [true, false, true] S d (by simp [maxLen]) w B cs hR hB hrs
  rwa [exA_holds] at h
theorem hp_exA (w : World) (B : Nat) (cs : List Value) (S : Option Addr) (d : Nat) (hR : Rd w B exA cs) (hB : B ≤ w.heap.size) (hrs : Sits w S (bls [true, true])) : Calls Try.prog 63 #[.agg cs.toArray, .slice S 2 d] w fun r w' => r = .returned (.bool true) ∧ Ext w w' := by
  have h := formula.Hopeless_c exA [true, true] S d (by simp [maxLen]) w B cs hR hB hrs
  rwa [exA_hpl] at h
theorem at_exA (w : World) (B : Nat) (cs : List Value) (hR : Rd w B exA cs) (hB : B ≤ w.heap.size) : Calls Try.prog 46 #[.agg cs.toArray] w fun r w' => ∃ A c, r = .returned (.slice A 3 c) ∧ Ext w w' := by
  have h := formula.Atoms_c exA w B cs hR hB
  rw [exA_atoms] at h
  refine h.mono fun r w' hp => ?_
  obtain ⟨A, c, e, _, hx⟩ := hp.get
  exact ⟨A, c, e, hx⟩
theorem sits_tft (w : World) : Sits (w.alloc (.cells #[.bool true, .bool false, .bool true] 4)) (some ⟨w.heap.size, 0, none⟩) (bls [true, false, true]) := Sits.new w (bls [true, false, true]) 4
theorem sits_tt (w : World) : Sits (w.alloc (.cells #[.bool true, .bool true] 4)) (some ⟨w.heap.size, 0, none⟩) (bls [true, true]) := Sits.new w (bls [true, true]) 4
end Go.Proofs.Ytmolffigeobnnaa
/- The statements about expressions (chapter 8): the walk of FormulaPure. -/
namespace Go.Proofs.Ytmolffigeobnnaa
open Go.RowKit
set_option linter.unusedVariables false
attribute [local go_sem ↓] Go.wp_at_zero Go.wp_at_succ
def lets (n : Nat) : List CL.Ex := (List.range n).map fun i => atomE [UInt8.ofNat (97 + i)]
def pureE (n k : Nat) : CL.Ex := .mk k CL.noAt (lets n)
def pureW (n k : Nat) : Int := if k = n then 2 else if k = 1 then 3 else 4
theorem pure_cls {n k : Nat} (h1 : 2 ≤ n) (h2 : n ≤ 8) (h3 : 1 ≤ k) (h4 : k ≤ n) : cls (pureE n k) = pureW n k := by
  have h : ∀ n : Fin 9, ∀ k : Fin 9, 2 ≤ n.val → 1 ≤ k.val → k.val ≤ n.val → cls (pureE n.val k.val) = pureW n.val k.val := by decide +kernel
  exact h ⟨n, by omega⟩ ⟨k, by omega⟩ h1 h3 h4
def letc (j : Nat) : List Value := (List.range j).flatMap fun i => atcs [UInt8.ofNat (97 + i)]
theorem letc_len (j : Nat) : (letc j).length = j * 5 := by rw [letc, fm_len (c := fun i => atcs [UInt8.ofNat (97 + i)]) (sz := 5) (fun _ => rfl)]; simp
theorem letc_succ (j : Nat) : letc (j + 1) = letc j ++ atcs [UInt8.ofNat (97 + j)] := by simp [letc, List.range_succ]
theorem ex_info : (Try.prog.info? 28).map (fun i => (i.zero, i.size, i.bytes)) = some (some (.agg #[.int .i64 0, .string ⟨#[]⟩, .int .i64 0, .int .i64 0, .slice none 0 0]), 5, 64) := by kernel_rfl
theorem ex_ne : 28 = 28 := rfl
theorem rd_pure (w : World) (n k : Nat) (A : Option Addr) (c : Nat) (hn : n ≤ 8) (hc : n ≤ c) (hs : Sits w A (letc n)) :
    Rd w w.heap.size (pureE n k) [.int .i64 (k : Int), .string ⟨#[]⟩, .int .i64 0, .int .i64 0, .slice A n c] := by
  have hl : (lets n).length = n := by simp [lets]
  have h := Rd.mk (w := w) (B := w.heap.size) (k : Int) [] 0 0 (lets n) A c ((List.range n).map fun i => atcs [UInt8.ofNat (97 + i)]) (by simp [maxLen]) (by rw [hl]; unfold maxLen; omega) (by omega) (by simp [lets])
    (by intro v hv; simp only [List.mem_map] at hv; obtain ⟨i, _, rfl⟩ := hv; rfl) (by rw [← List.flatMap_def]; exact SitsB.of hs)
    (fun i h1 h2 => by simp only [lets, List.getElem_map]; exact rd_atom w _ _ (by simp [maxLen]))
  rw [hl] at h
  exact h
end Go.Proofs.Ytmolffigeobnnaa
/- Catalogs: plain facts, and the walks of ValidResource, Valid, by the program and by the reference. -/
namespace CL
structure Re where
  n : List UInt8
  k : Int
  u : Int
  h : Int
deriving DecidableEq
def vres (r : Re) : Bool := vname r.n && shaped r.k r.u && decide (0 ≤ r.h ∧ r.h < 4)
def VTo (l : List Re) (j : Nat) : Prop := ∀ i, (hi : i < l.length) → i < j → vres l[i] = true ∧ ((h0 : 0 < i) → Go.Op.bytesLess (l[i - 1]'(by omega)).n l[i].n = true)
def VCat (l : List Re) : Prop := l.length ≤ 8 ∧ VTo l l.length
noncomputable instance (l : List Re) : Decidable (VCat l) := Classical.propDecidable _
noncomputable def vcat (l : List Re) : Bool := decide (VCat l)
theorem VTo.zero (l : List Re) : VTo l 0 := fun i _ h => by omega
theorem VTo.step {l : List Re} {j : Nat} (h : VTo l j) (hj : j < l.length) (h1 : vres l[j] = true) (h2 : (h0 : 0 < j) → Go.Op.bytesLess (l[j - 1]'(by omega)).n l[j].n = true) : VTo l (j + 1) := by
  intro i hi hij
  by_cases e : i = j
  · subst e; exact ⟨h1, h2⟩
  · exact h i hi (by omega)
theorem vcat_long {l : List Re} (h : 8 < l.length) : vcat l = false := decide_eq_false (fun c => by have := c.1; omega)
theorem vcat_bad {l : List Re} {j : Nat} (hj : j < l.length) (h : vres l[j] = false) : vcat l = false := decide_eq_false (fun c => by have := (c.2 j hj hj).1; rw [h] at this; cases this)
theorem vcat_ord {l : List Re} {j : Nat} (hj : j < l.length) (h0 : 0 < j) (h : Go.Op.bytesLess (l[j - 1]'(by omega)).n l[j].n = false) : vcat l = false := decide_eq_false (fun c => by have := (c.2 j hj hj).2 h0; rw [h] at this; cases this)
theorem vcat_all {l : List Re} {j : Nat} (h8 : l.length ≤ 8) (hj : l.length ≤ j) (h : VTo l j) : vcat l = true := decide_eq_true ⟨h8, fun i hi _ => h i hi (by omega)⟩
theorem vcat_get {l : List Re} (h : vcat l = true) : VCat l := of_decide_eq_true h
end CL
namespace Go.Proofs.Ytmolffigeobnnaa
open Go.RowKit
set_option linter.unusedVariables false
def rec (r : CL.Re) : List Value := [.string ⟨r.n.toArray⟩, .int .i64 r.k, .int .i64 r.u, .int .i64 r.h]
def recs (l : List CL.Re) : List Value := l.flatMap rec
theorem recs_len (l : List CL.Re) : (recs l).length = l.length * 4 := fm_len (c := rec) (fun _ => rfl) l
theorem Sits.recs {w : World} {l : List CL.Re} {A : Option Addr} (hr : Sits w A (recs l)) {k : Nat} (h : k < l.length) : ∃ b o, A = some ⟨b, o, none⟩ ∧
    w.cell? ⟨b, o + k * 4, none⟩ = some (.string ⟨l[k].n.toArray⟩) ∧ w.cell? ⟨b, o + k * 4 + 1, none⟩ = some (.int .i64 l[k].k) ∧ w.cell? ⟨b, o + k * 4 + 2, none⟩ = some (.int .i64 l[k].u) ∧ w.cell? ⟨b, o + k * 4 + 3, none⟩ = some (.int .i64 l[k].h) :=
  let ⟨b, o, e, hc⟩ := hr.get (by rw [recs_len]; omega)
  ⟨b, o, e, hc (k * 4 + 0) _ (fm_get (c := rec) (sz := 4) (fun _ => rfl) h 0 (by omega)), hc (k * 4 + 1) _ (fm_get (c := rec) (sz := 4) (fun _ => rfl) h 1 (by omega)), hc (k * 4 + 2) _ (fm_get (c := rec) (sz := 4) (fun _ => rfl) h 2 (by omega)), hc (k * 4 + 3) _ (fm_get (c := rec) (sz := 4) (fun _ => rfl) h 3 (by omega))⟩
theorem Blk.c4r {w : World} {g : Nat} {t : TypeId} {x y z v : Value} (h : Blk w g t #[x, y, z, v]) : w.cell? ⟨g, 0, none⟩ = some x ∧ w.cell? ⟨g, 1, none⟩ = some y ∧ w.cell? ⟨g, 2, none⟩ = some z ∧ w.cell? ⟨g, 3, none⟩ = some v := ⟨h.cell 0, h.cell 1, h.cell 2, h.cell 3⟩
end Go.Proofs.Ytmolffigeobnnaa
/- Catalogs: the walks of the reference's Valid and Find, of sort.Search with the closure of place, of place. -/
namespace Go.Proofs.Ytmolffigeobnnaa
open Go.RowKit
set_option linter.unusedVariables false
end Go.Proofs.Ytmolffigeobnnaa
/- Catalogs: the walks of the reference's Find and Resolve. -/
namespace CL
def fnd (l : List Re) (nm : List UInt8) : Option Re := l.find? (fun r => decide (r.n = nm))
def FTo (l : List Re) (nm : List UInt8) (j : Nat) : Prop := ∀ i, (hi : i < l.length) → i < j → l[i].n ≠ nm
theorem FTo.zero (l : List Re) (nm : List UInt8) : FTo l nm 0 := fun i _ h => by omega
theorem FTo.step {l : List Re} {nm : List UInt8} {j : Nat} (h : FTo l nm j) (hj : j < l.length) (hn : ¬ l[j].n = nm) : FTo l nm (j + 1) := by
  intro i hi hij
  by_cases e : i = j
  · subst e; exact hn
  · exact h i hi (by omega)
theorem fnd_hit {l : List Re} {nm : List UInt8} {j : Nat} (h : FTo l nm j) (hj : j < l.length) (hn : l[j].n = nm) : fnd l nm = some l[j] := by
  unfold fnd
  rw [List.find?_eq_some_iff_getElem]
  refine ⟨by simp [hn], j, hj, rfl, fun i hi => ?_⟩
  have := h i (by omega) hi
  simp [this]
theorem fnd_none {l : List Re} {nm : List UInt8} {j : Nat} (h : FTo l nm j) (hj : l.length ≤ j) : fnd l nm = none := by
  unfold fnd
  rw [List.find?_eq_none]
  intro x hx
  obtain ⟨i, hi, rfl⟩ := List.mem_iff_getElem.1 hx
  simp only [decide_eq_true_eq]
  exact h i hi (by omega)
noncomputable def cres (l : List Re) (a : At) : Int := if vcat l = true then (match fnd l a.n with | none => 10 | some r => if fits r.k r.u a.a = true then 0 else 12) else 2
end CL
namespace Go.Proofs.Ytmolffigeobnnaa
open Go.RowKit
set_option linter.unusedVariables false
def FindPost (l : List CL.Re) (nm : List UInt8) (w : World) (r : Ending) (w' : World) : Prop :=
  (match CL.fnd l nm with
    | none => r = .returned (.tuple #[.agg #[.string ⟨#[]⟩, .int .i64 0, .int .i64 0, .int .i64 0], .bool false])
    | some x => r = .returned (.tuple #[.agg #[.string ⟨x.n.toArray⟩, .int .i64 x.k, .int .i64 x.u, .int .i64 x.h], .bool true])) ∧ Ext w w'
theorem Blk.set4 {w : World} {g : Nat} {t : TypeId} {a b c d : Value} (h : Blk w g t #[a, b, c, d]) (a' b' c' d' : Value) : Blk ((((w.setCell ⟨g, 0, none⟩ a').setCell ⟨g, 1, none⟩ b').setCell ⟨g, 2, none⟩ c').setCell ⟨g, 3, none⟩ d') g t #[a', b', c', d'] := by
  have := (((h.set 0 a').set 1 b').set 2 c').set 3 d'
  simpa using this
theorem FindPost.un_n {l : List CL.Re} {nm : List UInt8} {w w' : World} {r : Ending} (h : CL.fnd l nm = none) (hp : FindPost l nm w r w') : r = .returned (.tuple #[.agg #[.string ⟨#[]⟩, .int .i64 0, .int .i64 0, .int .i64 0], .bool false]) ∧ Ext w w' := by
  unfold FindPost at hp; rw [h] at hp; exact hp
theorem FindPost.un_s {l : List CL.Re} {nm : List UInt8} {w w' : World} {r : Ending} {x : CL.Re} (h : CL.fnd l nm = some x) (hp : FindPost l nm w r w') : r = .returned (.tuple #[.agg #[.string ⟨x.n.toArray⟩, .int .i64 x.k, .int .i64 x.u, .int .i64 x.h], .bool true]) ∧ Ext w w' := by
  unfold FindPost at hp; rw [h] at hp; exact hp
end Go.Proofs.Ytmolffigeobnnaa
/- Catalogs: the walks of sort.Search with the closure of place, of place, of catalog.Resolve. -/
namespace CL
open Go.Op (bytesLess)
theorem bl_irr : ∀ a : List UInt8, bytesLess a a = false
  | [] => rfl
  | a :: x => by simp [bytesLess, bl_irr x]
theorem bl_tr : ∀ {a b c : List UInt8}, bytesLess a b = true → bytesLess b c = true → bytesLess a c = true
  | _, [], _, h, _ => by simp [bytesLess] at h
  | _, _ :: _, [], _, h => by simp [bytesLess] at h
  | [], _ :: _, _ :: _, _, _ => by simp [bytesLess]
  | a :: x, b :: y, c :: z, h1, h2 => by
    simp only [bytesLess, Bool.or_eq_true, decide_eq_true_eq, Bool.and_eq_true, beq_iff_eq] at h1 h2 ⊢
    rcases h1 with h1 | ⟨rfl, h1⟩
    · rcases h2 with h2 | ⟨rfl, h2⟩
      · exact .inl (UInt8.lt_trans h1 h2)
      · exact .inl h1
    · rcases h2 with h2 | ⟨rfl, h2⟩
      · exact .inl h2
      · exact .inr ⟨rfl, bl_tr h1 h2⟩
theorem VCat.lt {l : List Re} (h : VCat l) {i j : Nat} (hij : i < j) (hj : j < l.length) : bytesLess (l[i]'(by omega)).n l[j].n = true := by
  induction j with
  | zero => omega
  | succ j ih =>
    have h1 := (h.2 (j + 1) hj hj).2 (by omega)
    simp only [Nat.add_sub_cancel] at h1
    rcases Nat.lt_or_ge i j with hlt | hge
    · exact bl_tr (ih hlt (by omega)) h1
    · obtain rfl : i = j := by omega
      exact h1
/-- below a are the names less than nm, from b on those that are not -/
def Spl (l : List Re) (nm : List UInt8) (a b : Nat) : Prop := (∀ k, (hk : k < l.length) → k < a → bytesLess l[k].n nm = true) ∧ (∀ k, (hk : k < l.length) → b ≤ k → bytesLess l[k].n nm = false)
theorem Spl.zero (l : List Re) (nm : List UInt8) : Spl l nm 0 l.length := ⟨fun _ _ h => by omega, fun _ _ h => by omega⟩
theorem Spl.left {l : List Re} {nm : List UInt8} {a b h : Nat} (hs : Spl l nm a b) (hv : VCat l) (hh : h < l.length) (hb : bytesLess l[h].n nm = true) : Spl l nm (h + 1) b := by
  refine ⟨fun k hk hkh => ?_, hs.2⟩
  rcases Nat.lt_or_ge k h with hlt | hge
  · exact bl_tr (hv.lt hlt hh) hb
  · obtain rfl : k = h := by omega
    exact hb
theorem Spl.right {l : List Re} {nm : List UInt8} {a b h : Nat} (hs : Spl l nm a b) (hv : VCat l) (hh : h < l.length) (hb : bytesLess l[h].n nm = false) : Spl l nm a h := by
  refine ⟨hs.1, fun k hk hkh => ?_⟩
  rcases Nat.lt_or_ge h k with hlt | hge
  · cases hc : bytesLess l[k].n nm
    · rfl
    · rw [bl_tr (hv.lt hlt hk) hc] at hb; cases hb
  · obtain rfl : k = h := by omega
    exact hb
theorem Spl.found {l : List Re} {nm : List UInt8} {a : Nat} (hs : Spl l nm a a) (ha : a < l.length) (hn : l[a].n = nm) : fnd l nm = some l[a] :=
  fnd_hit (fun i hi hia e => by have := hs.1 i hi hia; rw [e, bl_irr] at this; cases this) ha hn
theorem Spl.lost {l : List Re} {nm : List UInt8} {a : Nat} (hs : Spl l nm a a) (hv : VCat l) (hn : (ha : a < l.length) → l[a].n ≠ nm) : fnd l nm = none :=
  fnd_none (j := l.length) (fun i hi _ e => by
    rcases Nat.lt_or_ge i a with hlt | hge
    · have := hs.1 i hi hlt; rw [e, bl_irr] at this; cases this
    · rcases Nat.lt_or_ge a i with hlt2 | hge2
      · have h1 := hs.2 a (by omega) (Nat.le_refl _)
        have h2 := hv.lt hlt2 hi
        rw [e] at h2
        rw [h2] at h1; cases h1
      · obtain rfl : i = a := by omega
        exact hn hi e) (Nat.le_refl _)
theorem cres_none {l : List Re} {a : At} (hv : vcat l = true) (h : fnd l a.n = none) : cres l a = 10 := by simp [cres, hv, h]
theorem cres_some {l : List Re} {a : At} {x : Re} (hv : vcat l = true) (h : fnd l a.n = some x) : cres l a = if fits x.k x.u a.a = true then 0 else 12 := by simp [cres, hv, h]
end CL
namespace Go.Proofs.Ytmolffigeobnnaa
open Go.RowKit
set_option linter.unusedVariables false
theorem two_rowsC (w : World) (c1 : Array Value) (t1 : TypeId) (c2 : Array Value) (t2 : TypeId) : Blk ((w.alloc (.cells c1 t1)).alloc (.cells c2 t2)) w.heap.size t1 c1 ∧ Blk ((w.alloc (.cells c1 t1)).alloc (.cells c2 t2)) (w.heap.size + 1) t2 c2 :=
  ⟨(Blk.new _ _ _).alloc _, by have h := Blk.new (w.alloc (.cells c1 t1)) t2 c2; rw [World.size_alloc] at h; exact h⟩
/-- what place gives back for a valid catalog -/
def PlacePost (l : List CL.Re) (nm : List UInt8) (w : World) (r : Ending) (w' : World) : Prop :=
  (∃ a : Nat, a ≤ l.length ∧ ((∃ ha : a < l.length, CL.fnd l nm = some l[a] ∧ r = .returned (.tuple #[.int .i64 (a : Int), .bool true])) ∨ (CL.fnd l nm = none ∧ r = .returned (.tuple #[.int .i64 (a : Int), .bool false])))) ∧ Ext w w'
end Go.Proofs.Ytmolffigeobnnaa
/- The statements about expressions (chapter 8): the walks of Resolve and of FormulaResolves. -/
namespace Go.Proofs.Ytmolffigeobnnaa
open Go.RowKit
set_option linter.unusedVariables false
noncomputable def frs (l : List CL.Re) : List CL.At → Int
  | [] => 0
  | a :: r => if CL.cres l a = 0 then frs l r else CL.cres l a
noncomputable def fres (l : List CL.Re) (e : CL.Ex) : Int := if CL.valid e = true then frs l (CL.atoms e) else 1
theorem frs_ok {l : List CL.Re} {L : List CL.At} {j : Nat} (hj : j < L.length) (h : CL.cres l L[j] = 0) : frs l (L.drop j) = frs l (L.drop (j + 1)) := by
  rw [List.drop_eq_getElem_cons hj]; simp only [frs]; rw [if_pos h]
theorem frs_bad {l : List CL.Re} {L : List CL.At} {j : Nat} (hj : j < L.length) (h : ¬ CL.cres l L[j] = 0) : frs l (L.drop j) = CL.cres l L[j] := by
  rw [List.drop_eq_getElem_cons hj]; simp only [frs]; rw [if_neg h]
theorem frs_end {l : List CL.Re} {L : List CL.At} {j : Nat} (hj : L.length ≤ j) : frs l (L.drop j) = 0 := by
  rw [List.drop_eq_nil_of_le hj]; rfl
end Go.Proofs.Ytmolffigeobnnaa
