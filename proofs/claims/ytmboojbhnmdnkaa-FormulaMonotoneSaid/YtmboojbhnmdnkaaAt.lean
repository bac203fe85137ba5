
/- Atoms in memory: equality, lists of atoms, and the walks that gather them. -/
import Derived.Test.YtmboojbhnmdnkaaEt
import Derived.Deep.RegionHeld3
import Derived.Deep.RegionLaw
import Derived.Deep.DeepCutAuto
namespace Go.Proofs.Ytmboojbhnmdnkaa
open Go.RowKit
set_option linter.unusedVariables false
theorem fm_len {α : Type} {c : α → List Value} {sz : Nat} (h : ∀ a, (c a).length = sz) (l : List α) : (l.flatMap c).length = l.length * sz := by
  induction l with
  | nil => simp
  | cons t l ih => rw [List.flatMap_cons, List.length_append, ih, h, List.length_cons, Nat.add_mul]; omega
theorem fm_get {α : Type} {c : α → List Value} {sz : Nat} (h : ∀ a, (c a).length = sz) {l : List α} {k : Nat} (hk : k < l.length) (j : Nat) (hj : j < sz) : (l.flatMap c)[k * sz + j]? = (c l[k])[j]? := by
  induction l generalizing k with
  | nil => simp at hk
  | cons t l ih =>
    cases k with
    | zero => rw [List.flatMap_cons, List.getElem?_append_left (by rw [h]; omega)]; simp
    | succ k =>
      rw [List.flatMap_cons, List.getElem?_append_right (by rw [h, Nat.add_mul]; omega), h]
      have := ih (k := k) (by simpa using hk)
      simp only [List.getElem_cons_succ]
      rw [← this]; congr 1; rw [Nat.add_mul]; omega
theorem am_eqD (k : Nat) (a b c d : Int) (W : World) : (Op.equalIn (k + 2) 23 (.agg #[.int .i64 a, .int .i64 b]) (.agg #[.int .i64 c, .int .i64 d])).run Try.prog W = .ok (decide (a = c ∧ b = d)) W := by
  have h1 : Try.prog.stoodInHeld 23 = false := by kernel_rfl
  rw [run_equalIn_struct (d := k + 1) _ _ _ _ (by simp [Program.fieldsOf, Try.underlying23]) h1]
  simp [Program.fieldsOf, Try.underlying23, Op.eqFields, go_sem, Try.underlying3]
  by_cases e1 : a = c <;> by_cases e2 : b = d <;> simp [e1, e2]
theorem at_eqIn (s t : List UInt8) (a b c d : Int) (W : World) : (Op.equalIn 10000 25 (.agg #[.string ⟨s.toArray⟩, .int .i64 a, .int .i64 b]) (.agg #[.string ⟨t.toArray⟩, .int .i64 c, .int .i64 d])).run Try.prog W = .ok (decide ((⟨s, ⟨a, b⟩⟩ : CL.At) = ⟨t, ⟨c, d⟩⟩)) W := by
  have h1 : Try.prog.stoodInHeld 25 = false := by kernel_rfl
  rw [run_equalIn_struct (d := 9999) _ _ _ _ (by simp [Program.fieldsOf, Try.underlying25]) h1]
  simp [Program.fieldsOf, Try.underlying25, Op.eqFields, go_sem, Try.underlying9]
  by_cases e0 : s = t <;> by_cases e1 : a = c <;> by_cases e2 : b = d <;> simp [e0, e1, e2]
/-- an atom as a value -/
def atv (a : CL.At) : Value := .agg #[.string ⟨a.n.toArray⟩, .int .i64 a.a.m, .int .i64 a.a.u]
theorem at_eql (s t : List UInt8) (a b c d : Int) (W : World) : (binOp .eql 25 (.agg #[.string ⟨s.toArray⟩, .int .i64 a, .int .i64 b]) (.agg #[.string ⟨t.toArray⟩, .int .i64 c, .int .i64 d])).run Try.prog W = .ok (.bool (decide ((⟨s, ⟨a, b⟩⟩ : CL.At) = ⟨t, ⟨c, d⟩⟩))) W := by
  rw [run_eql_struct, at_eqIn]; rfl
theorem at_neq (s t : List UInt8) (a b c d : Int) (W : World) : (binOp .neq 25 (.agg #[.string ⟨s.toArray⟩, .int .i64 a, .int .i64 b]) (.agg #[.string ⟨t.toArray⟩, .int .i64 c, .int .i64 d])).run Try.prog W = .ok (.bool (!decide ((⟨s, ⟨a, b⟩⟩ : CL.At) = ⟨t, ⟨c, d⟩⟩))) W := by
  rw [run_neq_struct, at_eqIn]; rfl
theorem at_guard : Try.prog.eqGuardType Try.prog.depth 25 = false := by kernel_rfl
theorem at_info : (Try.prog.info? 25).map (fun i => (i.zero, i.size, i.bytes)) = some (some (.agg #[.string ⟨#[]⟩, .int .i64 0, .int .i64 0]), 3, 32) := by kernel_rfl
/-- atoms as cells -/
def atc (a : CL.At) : List Value := [.string ⟨a.n.toArray⟩, .int .i64 a.a.m, .int .i64 a.a.u]
def ats (l : List CL.At) : List Value := l.flatMap atc
theorem ats_len (l : List CL.At) : (ats l).length = l.length * 3 := fm_len (c := atc) (fun _ => rfl) l
theorem ats_append (a b : List CL.At) : ats (a ++ b) = ats a ++ ats b := by simp [ats]
theorem ats_snoc (l : List CL.At) (a : CL.At) : ats (l ++ [a]) = ats l ++ atc a := by simp [ats]
theorem at_cells {w : World} {l : List CL.At} {p o k : Nat} (hc : ∀ j u, (ats l)[j]? = some u → w.cell? ⟨p, o + j, none⟩ = some u) (h : k < l.length) :
    w.cell? ⟨p, o + k * 3, none⟩ = some (.string ⟨l[k].n.toArray⟩) ∧ w.cell? ⟨p, o + k * 3 + 1, none⟩ = some (.int .i64 l[k].a.m) ∧ w.cell? ⟨p, o + k * 3 + 2, none⟩ = some (.int .i64 l[k].a.u) :=
  ⟨hc (k * 3 + 0) _ (fm_get (c := atc) (sz := 3) (fun _ => rfl) h 0 (by omega)), hc (k * 3 + 1) _ (fm_get (c := atc) (sz := 3) (fun _ => rfl) h 1 (by omega)), hc (k * 3 + 2) _ (fm_get (c := atc) (sz := 3) (fun _ => rfl) h 2 (by omega))⟩
theorem Sits.atoms {w : World} {l : List CL.At} {A : Option Addr} (hr : Sits w A (ats l)) {k : Nat} (h : k < l.length) : ∃ b o, A = some ⟨b, o, none⟩ ∧
    w.cell? ⟨b, o + k * 3, none⟩ = some (.string ⟨l[k].n.toArray⟩) ∧ w.cell? ⟨b, o + k * 3 + 1, none⟩ = some (.int .i64 l[k].a.m) ∧ w.cell? ⟨b, o + k * 3 + 2, none⟩ = some (.int .i64 l[k].a.u) :=
  let ⟨b, o, e, hc⟩ := hr.get (by rw [ats_len]; omega)
  ⟨b, o, e, at_cells hc h⟩
/-- a slot that holds a list of atoms of the call's own -/
def AtRow (w : World) (g base : Nat) (l : List CL.At) : Prop := ∃ v, Blk w g 29 #[v] ∧ w.ownsRow base 25 3 v l.length (ats l)
theorem AtRow.ext {w w' : World} {g base : Nat} {l : List CL.At} (h : AtRow w g base l) (hx : Ext w w') : AtRow w' g base l :=
  let ⟨v, h1, h2⟩ := h
  ⟨v, h1.ext hx, own_ext h2 hx⟩
theorem at_ne : 25 ≠ 29 := by decide
def NoteTo (l : List CL.At) (a : CL.At) (j : Nat) : Prop := CL.noteF l a = CL.noteF (l.drop j) a ∧ a ∉ l.take j
theorem NoteTo.zero (l : List CL.At) (a : CL.At) : NoteTo l a 0 := ⟨by simp, by simp⟩
theorem NoteTo.hit {l : List CL.At} {a : CL.At} {j : Nat} (h : NoteTo l a j) (hj : j < l.length) (he : a = l[j]) : CL.note l a = (0, l) := by
  have h1 := h.1
  rw [List.drop_eq_getElem_cons hj] at h1
  simp only [CL.noteF, he, if_true] at h1
  unfold CL.note
  rw [if_pos (by rw [he]; exact List.getElem_mem hj), he, h1]
theorem NoteTo.name {l : List CL.At} {a : CL.At} {j : Nat} (h : NoteTo l a j) (hj : j < l.length) (he : ¬ a = l[j]) (hn : a.n = l[j].n) : CL.note l a = (13, l) := by
  have h1 := h.1
  rw [List.drop_eq_getElem_cons hj] at h1
  simp only [CL.noteF] at h1
  rw [if_neg he, if_pos hn] at h1
  unfold CL.note
  rw [h1]
  split
  · rfl
  · rw [if_pos (by decide)]
theorem NoteTo.step {l : List CL.At} {a : CL.At} {j : Nat} (h : NoteTo l a j) (hj : j < l.length) (he : ¬ a = l[j]) (hn : ¬ a.n = l[j].n) : NoteTo l a (j + 1) := by
  have h1 := h.1
  rw [List.drop_eq_getElem_cons hj] at h1
  simp only [CL.noteF] at h1
  rw [if_neg he, if_neg hn] at h1
  refine ⟨h1, ?_⟩
  rw [List.take_succ_eq_append_getElem hj]
  simp only [List.mem_append, List.mem_singleton, not_or]
  exact ⟨h.2, he⟩
theorem NoteTo.done {l : List CL.At} {a : CL.At} {j : Nat} (h : NoteTo l a j) (hj : l.length ≤ j) : CL.note l a = if l.length = 8 then (4, l) else (0, l ++ [a]) := by
  obtain ⟨h1, h2⟩ := h
  rw [List.drop_eq_nil_of_le hj] at h1
  rw [List.take_of_length_le hj] at h2
  unfold CL.note
  rw [if_neg h2, h1]
  simp [CL.noteF]
set_option maxHeartbeats 1600000 in
theorem request.note_c (a : CL.At) (l : List CL.At) (w : World) (G g base : Nat) (hG : G ≤ g) (hgb : G ≤ base) (hbs : base ≤ w.heap.size) (hl : l.length ≤ 8) (h : AtRow w g base l) :
    Calls Try.prog 59 #[.pointer (some ⟨g, 0, none⟩), .agg #[.string ⟨a.n.toArray⟩, .int .i64 a.a.m, .int .i64 a.a.u]] w fun r w' => r = .returned (.int .i64 (CL.note l a).1) ∧ AtRow w' g base (CL.note l a).2 ∧ Below G w w' := by
  have HR := Lib.hid h
  obtain ⟨v, hb, hown⟩ := h
  obtain ⟨A, c, rfl, hc1, hc2⟩ := own_form hown
  obtain ⟨nm, m, u⟩ := a
  have hlt := hb.lt
  have h0 : w.cell? ⟨g, 0, none⟩ = some (.slice A l.length c) := hb.cell 0
  have hr := Sits.of_own hown
  have hq := at_eql
  have hg := at_guard
  have HN := Lib.hid (NoteTo.zero l ⟨nm, ⟨m, u⟩⟩)
  obtain ⟨bE, hx0⟩ := box1 w #[.string ⟨nm.toArray⟩, .int .i64 m, .int .i64 u] 25
  have hne : g ≠ w.heap.size := by omega
  go_enter Try.func59, Try.ntmps59
  go_wp2
  generalize (w.alloc (.cells #[.string ⟨nm.toArray⟩, .int .i64 m, .int .i64 u] 25)) = w1 at *
  go_loopw [11] (fun i wr => ∃ j : Nat, j ≤ l.length ∧ i = .int .i64 j ∧ Ext w1 wr ∧ Hid (NoteTo l ⟨nm, ⟨m, u⟩⟩ j)) (fun i _ => l.length - (intOf i).toNat)
  case atStart => exact ⟨0, by omega, rfl, Ext.rfl', HN⟩
  case round =>
    obtain ⟨j, hj, rfl, hx, HJ⟩ := hrel
    have hx2 := hx0.tr hx
    have bEr := bE.ext hx
    have e0 : wr.cell? ⟨w.heap.size, 0, none⟩ = some (.string ⟨nm.toArray⟩) := bEr.cell 0
    have e1 : wr.cell? ⟨w.heap.size, 1, none⟩ = some (.int .i64 m) := bEr.cell 1
    have e2 : wr.cell? ⟨w.heap.size, 2, none⟩ = some (.int .i64 u) := bEr.cell 2
    have hbs2 := bEr.lt
    by_cases hlt2 : j < l.length
    · obtain ⟨b, o, rfl, c0, c1, c2⟩ := (hr.ext hx2).atoms hlt2
      have H1 := Lib.hid (HJ.out.hit hlt2)
      have H2 := Lib.hid (HJ.out.name hlt2)
      have H3 := Lib.hid (HJ.out.step hlt2)
      generalize l[j] = x at *
      obtain ⟨xn, xm, xu⟩ := x
      simp only at c0 c1 c2
      have hbb : b ≠ wr.heap.size := by have := World.block_lt_of_cell? _ _ c0; simp at this; omega
      have hwn : w.heap.size ≠ wr.heap.size := by omega
      have hx3 := hx2.tr (Ext.new wr (.cells #[.string ⟨xn.toArray⟩, .int .i64 xm, .int .i64 xu] 25))
      by_cases heq : nm = xn ∧ m = xm ∧ u = xu
      · obtain ⟨rfl, rfl, rfl⟩ := heq
        go_wp2
        go_ret
        rw [H1.out (by simp)]
        exact ⟨rfl, HR.out.ext hx3, hx3.mono (by omega)⟩
      · have HQ := Lib.hid heq
        have hfe : decide ((⟨nm, ⟨m, u⟩⟩ : CL.At) = ⟨xn, ⟨xm, xu⟩⟩) = false := by simpa using heq
        have hq1 := fun W => (at_eql nm xn m u xm xu W).trans (by rw [hfe])
        clear heq hfe hq
        go_wp2
        · go_ret
          rw [H2.out (by have := HQ.out; grind) (by grind)]
          exact ⟨rfl, HR.out.ext hx3, hx3.mono (by omega)⟩
        · exact ⟨⟨j + 1, by omega, by go_num, hx.tr (Ext.new _ _), Lib.hid (H3.out (by have := HQ.out; grind) (by grind))⟩, by simp [intOf]; omega⟩
    · have HD := Lib.hid (HJ.out.done (by omega))
      have h1 : wr.cell? ⟨g, 0, none⟩ = some (.slice A l.length c) := hx2.cell h0
      by_cases h8 : l.length = 8
      · have h8' : ((l.length : Int) == 8) = true := by simp [h8]
        go_wp2
        go_ret
        rw [HD.out, if_pos h8]
        exact ⟨rfl, HR.out.ext hx2, hx2.mono (by omega)⟩
      · have h8' : ((l.length : Int) == 8) = false := beq_eq_false_iff_ne.2 (by omega)
        go_wp2
        have hbr := hb.ext hx2
        have hownr := own_ext hown hx2
        have f1 := hbr.frozen 0
        have n1 : some g ≠ (Value.slice A l.length c).ownBlock := Ne.symm (own_ne hownr hbr at_ne)
        have hne3 : g ≠ wr.heap.size := by have := hbr.lt; omega
        have hBr := hx2.size
        have x1 : (wr.alloc (.cells #[.string ⟨nm.toArray⟩, .int .i64 m, .int .i64 u] 25)).cell? ⟨g, 0, none⟩ = some (.slice A l.length c) := (hbr.alloc _).cell 0
        go_region_law
          ((refine step_append_sits _ (by rfl) _ _ _ (by rfl) base 25 3 32 _ Try.underlying29 at_info rfl (by omega) (.slice A l.length c) l.length (ats l) (by rfl) ((hownr.alloc _).drew) _ _ _ [.string ⟨nm.toArray⟩, .int .i64 m, .int .i64 u] (by rfl) (by rfl) (Sits.drew (Sits.new _ _ _)) (by simp [Value.oneCell']) (by simp only [maxLen]; omega) (by omega) (by simp; omega) ?_; intro v3 w3 hown3 hb3 hg3; obtain ⟨A3, c3, rfl, hc3, hc4⟩ := own_form hown3; have e3 : w3.cell? ⟨g, 0, none⟩ = some (.slice A l.length c) := hg3.cell ((hbr.alloc _).cell 0) n1; have f3 : w3.frozen? ⟨g, 0, none⟩ = false := hg3.frozenB ((hbr.alloc _)) n1 0))
        all_goals
          have hb4 := hg3.blk (hbr.alloc _) n1
          go_wp2
          go_ret
          rw [HD.out, if_neg h8]
          refine ⟨rfl, ⟨.slice A3 (l.length + 1) c3, ?_, ?_⟩, ?_⟩
          · have := hb4.set 0 (.slice A3 (l.length + 1) c3); simpa using this
          · rw [ats_snoc, List.length_append]
            exact own_only hown3 (Only.rf.set 0 _) (own_ne hown3 hb4 at_ne)
          · exact below_only ((((hx2.mono (by omega)).alloc (by omega) _).drew).trans (hb3.mono hgb)) (Only.rf.set 0 _) hG (by have := hb3.size; simp at this; omega)
/-- two resources that stand for the kinds of an atom -/
theorem request.validAtom_c (a : CL.At) (w : World) (hn : a.n.length ≤ maxLen) : Calls Try.prog 58 #[.agg #[.string ⟨a.n.toArray⟩, .int .i64 a.a.m, .int .i64 a.a.u]] w fun e w' => e = .returned (.bool (CL.vatom a)) ∧ Ext w w' := by
  obtain ⟨nm, m, u⟩ := a
  have hx := Ext.rfl' (a := w)
  have HU := Lib.hid (CL.usable_fits ⟨m, u⟩)
  go_enter Try.func58, Try.ntmps58
  go_wp2_with (first
    | (go_at_call 72; (with_reducible refine (catalog.ValidName_c _ _ hn).mono ?_); rintro e w' ⟨rfl, rfl⟩)
    | (go_at_call 53; refine (amount.Fits_c _ _ _ _ _ _ _).mono ?_; rintro e w' ⟨rfl, hx1⟩; have hx := Ext.tr (a := w) (by go_grown) hx1; have hz := hx.size; obtain ⟨hc1, hf1⟩ := bcell hx1; have hz1 := hx1.size; (try simp only [World.size_alloc] at hz1); (try have hl0 : w.heap.size < w'.heap.size := by omega); (try have hl1 : w.heap.size + 1 < w'.heap.size := by omega); (try have hl2 : w.heap.size + 1 + 1 < w'.heap.size := by omega); (try have hl3 : w.heap.size + 1 + 1 + 1 < w'.heap.size := by omega); clear hx1))
  all_goals (go_ret; refine ⟨ret_bool ?_, ?_⟩; · go_tidy; have HU := HU.out; unfold CL.vatom; rw [HU]; grind
             · go_grown)
end Go.Proofs.Ytmboojbhnmdnkaa
