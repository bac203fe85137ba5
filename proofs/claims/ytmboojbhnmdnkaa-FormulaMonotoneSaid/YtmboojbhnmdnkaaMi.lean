
/- The mill: the walk of group, deeper. -/
import Derived.Test.YtmboojbhnmdnkaaMh
import Derived.Test.YtmboojbhnmdnkaaLaw08e
namespace Go.Proofs.Ytmboojbhnmdnkaa
open Go.RowKit
set_option linter.unusedVariables false
set_option linter.unusedSimpArgs false
theorem GrpPost.up {w w' : World} {g : Nat} {l : List CL.At} {d : Nat} {r : Ending} (h : GrpPost w g l 0 r w') : GrpPost w g l (d + 1) r w' := by
  obtain ⟨e, cs, h0, h1, h2⟩ := h
  cases h1 with
  | leaf _ a ha => exact ⟨_, cs, h0, .leaf _ a ha, h2⟩
theorem GrpPost.node {w wr : World} {g d be c : Nat} {l : List CL.At} {k : Int} {kids : List CL.Ex} {vs : List (List Value)} {A : Option Addr} (v0 v1 v2 v3 v4 : Value) (h1 : 1 ≤ kids.length) (h2 : kids.length ≤ 3) (h3 : 1 ≤ k) (h4 : k ≤ kids.length) (hbe : w.heap.size < be) (ho : wr.ownsRow (be + 1) 28 5 (.slice A kids.length c) kids.length vs.flatten)
    (hK : KidsR wr (be + 1) (.slice A kids.length c) l d kids vs) (hO : Only g w wr) (hT : TapeAt wr g) (hg : g < w.heap.size) :
    GrpPost w g l (d + 1) (.returned (.agg #[.int .i64 k, .string ⟨#[]⟩, .int .i64 0, .int .i64 0, .slice A kids.length c])) (((((wr.setCell ⟨w.heap.size, 0, none⟩ v0).setCell ⟨w.heap.size, 1, none⟩ v1).setCell ⟨w.heap.size, 2, none⟩ v2).setCell ⟨w.heap.size, 3, none⟩ v3).setCell ⟨w.heap.size, 4, none⟩ v4) := by
  obtain ⟨A', c', e, hc1, hc2⟩ := own_form ho
  injection e with e1 e2 e3
  subst e1 e3
  have h5 : ∀ v ∈ vs, v.length = 5 := fun v hv => by
    obtain ⟨i, hi, rfl⟩ := List.mem_iff_getElem.1 hv
    exact (hK.2 i (by have := hK.1; omega) hi).2.1
  have hzw := hO.size
  have hN : RdR wr (w.heap.size + 1) wr.heap.size (.mk k ⟨[], ⟨0, 0⟩⟩ kids) [.int .i64 k, .string ⟨#[]⟩, .int .i64 0, .int .i64 0, .slice A kids.length c] :=
    RdR.node (by omega) hc1 hK.1 h5 ((SitsIn.of (Sits.of_own ho) (fun b o _ e => own_base ho e)).wide (by omega) (Nat.le_refl _)) (fun i a b => by
      obtain ⟨_, _, lo, hi, p1, p2, p3, _⟩ := hK.2 i a b
      exact p3.wide (by omega) p2)
  have hS : ∀ {b : World} (i : Nat) (u : Value), wr.heap.size ≤ b.heap.size → Same b (b.setCell ⟨w.heap.size, i, none⟩ u) (w.heap.size + 1) wr.heap.size := fun {b} i u h => Same.setOut (.inl (by omega)) i u h
  have hZ : ∀ {b : World} (i : Nat) (u : Value), wr.heap.size ≤ b.heap.size → wr.heap.size ≤ (b.setCell ⟨w.heap.size, i, none⟩ u).heap.size := fun {b} i u h => by simpa [World.setCell] using h
  have z0 := hZ 0 v0 (Nat.le_refl wr.heap.size)
  have z1 := hZ 1 v1 z0
  have z2 := hZ 2 v2 z1
  have z3 := hZ 3 v3 z2
  have z4 := hZ 4 v4 z3
  refine ⟨_, _, rfl, .node d k kids h1 h2 h3 h4 (fun e he => ?_), ((((((hN.same (hS 0 v0 (Nat.le_refl _))).same (hS 1 v1 z0)).same (hS 2 v2 z1)).same (hS 3 v3 z2)).same (hS 4 v4 z3)).wide (by omega) z4),
    ((((hO.setNew (Nat.le_refl _) 0 v0).setNew (Nat.le_refl _) 1 v1).setNew (Nat.le_refl _) 2 v2).setNew (Nat.le_refl _) 3 v3).setNew (Nat.le_refl _) 4 v4,
    ((((hT.setNew hg 0 v0).setNew hg 1 v1).setNew hg 2 v2).setNew hg 3 v3).setNew hg 4 v4⟩
  obtain ⟨i, hi, rfl⟩ := List.mem_iff_getElem.1 he
  exact (hK.2 i hi (by have := hK.1; omega)).1
set_option maxHeartbeats 3200000 in
theorem group1 (l : List CL.At) (d : Nat) (hd9 : d ≤ 9) (IH : Hid (∀ (w : World) (g : Nat) (A : Option Addr) (c : Nat), TapeAt w g → Sits w A (ats l) → (∀ b o, A = some ⟨b, o, none⟩ → g < b) → Calls Try.prog 39 #[.pointer (some ⟨g, 0, none⟩), .slice A 6 c, .int .i64 d] w (GrpPost w g l d)))
    (w : World) (g : Nat) (A : Option Addr) (c : Nat) (hT : TapeAt w g) (hl : l.length = 6) (hn : ∀ a ∈ l, a.n.length ≤ maxLen) (hr : Sits w A (ats l)) (hA : ∀ b o, A = some ⟨b, o, none⟩ → g < b) :
    Calls Try.prog 39 #[.pointer (some ⟨g, 0, none⟩), .slice A 6 c, .int .i64 ((d : Int) + 1)] w (GrpPost w g l (d + 1)) := by
  have hgl := hT.lt
  obtain ⟨b, o, rfl, hcell⟩ := hr.get (by rw [ats_len]; omega)
  have hB := Blk.new w 28 #[.int .i64 0, .string ⟨#[]⟩, .int .i64 0, .int .i64 0, .slice none 0 0]
  have hx0 := Ext.new w (.cells #[.int .i64 0, .string ⟨#[]⟩, .int .i64 0, .int .i64 0, .slice none 0 0] 28)
  have hT2 := hT.ext hx0
  have hO2 : Only g w _ := Only.of_ext hx0
  have HN := Lib.hid hn
  have hd0 : ((d : Int) + 1 == 0) = false := beq_eq_false_iff_ne.2 (by omega)
  have hd1 : (d : Int) + 1 - 1 = d := by omega
  clear hn
  go_enter Try.func39, Try.ntmps39
  go_wp2_with (first
    | (go_at_call 37; (with_reducible refine (Tape.Next_c g 6 _ (by omega) (by omega) hT2).mono ?_); rintro r w2 ⟨x2, rfl, hn0, hn1, ho1, hT1⟩; obtain ⟨k2, rfl⟩ := Int.eq_ofNat_of_zero_le hn0; have hO3 := hO2.tr ho1; have hB2 := hB.only ho1 (by omega); clear hB hT2 hO2; have hB := hB2; have hT2 := hT1; have hO2 := hO3; obtain ⟨c0, c1, c2⟩ := atoms3 (hr.only hO2 hA) (k := k2) (by omega); obtain ⟨e0, e1, e2, e3, e4⟩ := hB2.c5; have f0 := hB2.frozen 0; have f1 := hB2.frozen 1; have f2 := hB2.frozen 2; have f3 := hB2.frozen 3; have f4 := hB2.frozen 4)
    | (go_at_call 37; (with_reducible refine (Tape.Next_c g 3 _ (by omega) (by omega) hT2).mono ?_); rintro r w2 ⟨x2, rfl, hN0, hN1, ho1, hT1⟩; obtain ⟨kN, rfl⟩ := Int.eq_ofNat_of_zero_le hN0; have hO3 := hO2.tr ho1; have hB2 := hB.only ho1 (by omega); clear hB hT2 hO2; have hB := hB2; have hT2 := hT1; have hO2 := hO3)
    | (go_at_call 37; (with_reducible refine (Tape.Next_c g _ _ (by omega) (by omega) hT2).mono ?_); rintro r w2 ⟨x2, rfl, hn0, hn1, ho1, hT1⟩; obtain ⟨k2, rfl⟩ := Int.eq_ofNat_of_zero_le hn0; have hO3 := hO2.tr ho1; have hB2 := hB.only ho1 (by omega); clear hB hT2 hO2; have hB := hB2; have hT2 := hT1; have hO2 := hO3))
  · have HP := Lib.hid (GrpPost.leaf (w := w) (w2 := w2) (l := l) (k := k2) (d := 0) (v0 := .int .i64 0) (v1 := .string ⟨l[k2].n.toArray⟩) (v2 := .int .i64 l[k2].a.m) (v3 := .int .i64 l[k2].a.u) (v4 := .slice none 0 0) (by omega) (HN.out _ (List.getElem_mem (by omega))) hO2 hT2 hgl)
    clear hr hcell
    (try simp only [Exit.inBlock, Exit.then])
    refine bodyPost_ret (by simp [results, Try.results39, go_sem, *]; try rfl) rfl ?_
    exact HP.out.up
  · have hbe := hB.lt
    have hBe := Blk.new w2 28 #[.int .i64 (1 + (k2 : Int)), .string ⟨#[]⟩, .int .i64 0, .int .i64 0, .slice none 0 0]
    have hxe := Ext.new w2 (.cells #[.int .i64 (1 + (k2 : Int)), .string ⟨#[]⟩, .int .i64 0, .int .i64 0, .slice none 0 0] 28)
    have hTe := hT2.ext hxe
    have hOe := hO2.tr (Only.of_ext hxe)
    have hBr := hB.ext hxe
    have hze : (w2.alloc (.cells #[.int .i64 (1 + (k2 : Int)), .string ⟨#[]⟩, .int .i64 0, .int .i64 0, .slice none 0 0] 28)).heap.size = w2.heap.size + 1 := by simp
    clear hxe hB hB2 hT2 hT1 hO2 hO3 ho1
    generalize (w2.alloc (.cells #[.int .i64 (1 + (k2 : Int)), .string ⟨#[]⟩, .int .i64 0, .int .i64 0, .slice none 0 0] 28)) = W at *
    generalize w2.heap.size = be at *
    go_loopw [9] (fun i wr => ∃ (kids : List CL.Ex) (vs : List (List Value)) (A' : Option Addr) (c' : Nat), kids.length ≤ 1 + kN ∧ i = .int .i64 kids.length ∧ Blk wr be 28 #[.int .i64 (1 + (k2 : Int)), .string ⟨#[]⟩, .int .i64 0, .int .i64 0, .slice A' kids.length c'] ∧ Blk wr w.heap.size 28 #[.int .i64 0, .string ⟨#[]⟩, .int .i64 0, .int .i64 0, .slice none 0 0] ∧
      Hid (wr.ownsRow (be + 1) 28 5 (.slice A' kids.length c') kids.length vs.flatten) ∧ Hid (KidsR wr (be + 1) (.slice A' kids.length c') l d kids vs) ∧ Only g w wr ∧ TapeAt wr g) (fun i _ => 1 + kN - (intOf i).toNat)
    case atStart => exact ⟨[], [], none, 0, by simp, rfl, hBe, hBr, Lib.hid ⟨rfl, .inl ⟨rfl, rfl⟩⟩, Lib.hid (KidsR.nil _ _ _ _ _), hOe, hTe⟩
    case round =>
      obtain ⟨kids, vs, A', c', hj, rfl, hb, hbr, HO, HK, hO, hTr⟩ := hrel
      have hbl := hb.lt
      have hown := HO.out
      by_cases hlt : kids.length < 1 + kN
      · obtain ⟨e0, e1, e2, e3, e4⟩ := hb.c5
        have f4 := hb.frozen 4
        have HB := Lib.hid hb.drew
        have HR := Lib.hid hbr.drew
        have HT := Lib.hid hTr.drew
        have HO2 := Lib.hid (own_drew HO.out)
        have HS := Lib.hid (show Sits wr.drew (some ⟨b, o, none⟩) (ats l) from (hr.only hO hA).drew)
        have n1 : some be ≠ (Value.slice A' kids.length c').ownBlock := fun e => by have := (HO.out.lt _ e.symm).1; omega
        have hwd : IntKind.i64.wrap (d : Int) = d := IntWalk.i64_in _ (by omega)
        clear hown
        go_wp2_with fail
        go_region_law
          (first
            | (refine step_append_row _ (by rfl) (.tmp 39) (.tmp 45) _ (by rfl) (be + 1) 28 5 64 _ Try.underlying26 ex_info rfl (by omega) (.slice A' kids.length c') kids.length vs.flatten (by rfl) (HO3.out.alloc _) _ _ _ [.int .i64 k', .string n', .int .i64 m', .int .i64 u', .slice A2 l2 c2] (by rfl) (by rfl) (Sits.new _ _ _) (by simp [Value.oneCell']) (by simp only [maxLen]; omega) (by omega) (by simp; omega) ?_; intro v3 w3 hown3 hb3 hg3 hrow3; obtain ⟨A3, c3, rfl, hc3, _⟩ := own_form hown3; have hb4 := hg3.blk (HB3.out.alloc _) n1; have e43 : w3.cell? ⟨be, 4, none⟩ = some (.slice A' kids.length c') := hb4.cell 4; have f43 := hb4.frozen 4)
            | (go_simp; go_at_call 39; (with_reducible refine (IH.out _ g _ c HT.out HS.out hA).mono ?_); intro r wc hp; obtain ⟨ek, k', n', m', u', A2, l2, c2, rfl, hG2, hR2, ho1, hT1⟩ := hp.get; have HO3 := Lib.hid (own_other HO2.out ho1 (by omega)); have HB3 := Lib.hid (HB.out.only ho1 (by omega)); have hz2 := ho1.size; simp only [World.size_drew] at hz2; have e42 : wc.cell? ⟨be, 4, none⟩ = some (.slice A' kids.length c') := HB3.out.cell 4; have n2 : be ≠ wc.heap.size := (by omega); have e42' : (wc.alloc (.cells #[.int .i64 k', .string n', .int .i64 m', .int .i64 u', .slice A2 l2 c2] 28)).cell? ⟨be, 4, none⟩ = some (.slice A' kids.length c') := (HB3.out.alloc _).cell 4))
        all_goals
          have hxa := Ext.new wc (.cells #[.int .i64 k', .string n', .int .i64 m', .int .i64 u', .slice A2 l2 c2] 28)
          have hza : (wc.alloc (.cells #[.int .i64 k', .string n', .int .i64 m', .int .i64 u', .slice A2 l2 c2] 28)).heap.size = wc.heap.size + 1 := by simp
          have hz3 := hg3.size
          have hlo : ∀ x, (Value.slice A' kids.length c').ownBlock = some x → be + 1 ≤ x ∧ x < wr.heap.size := fun x e => HO.out.lt x e
          have hlen : (kids ++ [ek]).length = kids.length + 1 := by simp
          have hb5 : Blk (w3.setCell ⟨be, 4, none⟩ (.slice A3 (kids.length + 1) c3)) be 28 #[.int .i64 (1 + (k2 : Int)), .string ⟨#[]⟩, .int .i64 0, .int .i64 0, .slice A3 (kids ++ [ek]).length c3] := by rw [hlen]; simpa using hb4.set 4 (.slice A3 (kids.length + 1) c3)
          have hr5 := (hg3.blk ((HR.out.only ho1 (by omega)).alloc (.cells #[.int .i64 k', .string n', .int .i64 m', .int .i64 u', .slice A2 l2 c2] 28)) (fun e => by have := (hlo _ e.symm).1; omega)).only (Only.rf.set (g := be) 4 (.slice A3 (kids.length + 1) c3)) (by omega)
          have ho5 : (w3.setCell ⟨be, 4, none⟩ (.slice A3 (kids.length + 1) c3)).ownsRow (be + 1) 28 5 (.slice A3 (kids ++ [ek]).length c3) (kids ++ [ek]).length (vs ++ [([.int .i64 k', .string n', .int .i64 m', .int .i64 u', .slice A2 l2 c2] : List Value)]).flatten := by
            rw [hlen, List.flatten_append]
            exact own_only hown3 (Only.rf.set 4 _) (fun e => by have := (hown3.lt _ e).1; omega)
          have hK1 : KidsR wc (be + 1) (.slice A' kids.length c') l d kids vs := (show KidsR wr.drew (be + 1) (.slice A' kids.length c') l d kids vs from HK.out).only ho1 (by omega)
          have hK3 := (hK1.only (g := g) (Only.of_ext hxa) (by omega)).grown hg3 hrow3
          have hR5 : RdR w3 wr.heap.size wc.heap.size ek [.int .i64 k', .string n', .int .i64 m', .int .i64 u', .slice A2 l2 c2] := (RdR.same (show RdR wc wr.heap.size wc.heap.size ek _ from hR2) (Same.only (g := g) (Only.of_ext hxa) (by omega) (Nat.le_refl _))).same (Same.grown hg3 (fun x e => .inl (hlo x e).2) (by omega))
          have hK4 := hK3.snoc hG2 rfl hR5 (by omega) (by omega) (fun x e => by
            rcases hrow3 with e' | e'
            · exact .inl (hlo x (e'.symm.trans e)).2
            · rw [e'] at e; injection e with e; omega)
          have hK5 := Lib.hid (hK4.only (Only.rf.set (g := be) 4 (.slice A3 (kids.length + 1) c3)) (by omega))
          have hO5 : Only g w (w3.setCell ⟨be, 4, none⟩ (.slice A3 (kids.length + 1) c3)) := ((((hO.drew).tr ho1).tr (Only.of_ext hxa)).grow hg3 (fun x e => by have := (hlo x e).1; omega)).setNew (by omega) 4 _
          have hT5 : TapeAt (w3.setCell ⟨be, 4, none⟩ (.slice A3 (kids.length + 1) c3)) g := ((hT1.ext hxa).grown hg3 (fun x e => by have := (hlo x e).1; omega)).setNew (by omega) 4 _
          have HO5 := Lib.hid ho5
          clear ho5 hown3 hb4 e43 f43 hK1 hK3 hK4 hR5
          go_wp2
          exact ⟨⟨kids ++ [ek], _, A3, c3, by omega, by rw [hlen]; go_num, hb5, hr5, HO5, (by rw [hlen]; exact hK5), hO5, hT5⟩, by simp [intOf]; omega⟩
      · obtain ⟨e0, e1, e2, e3, e4⟩ := hb.c5
        obtain ⟨q0, q1, q2, q3, q4⟩ := hbr.c5
        have f0 := hbr.frozen 0
        have f1 := hbr.frozen 1
        have f2 := hbr.frozen 2
        have f3 := hbr.frozen 3
        have f4 := hbr.frozen 4
        have HP := Lib.hid (GrpPost.node (w := w) (d := d) (k := 1 + (k2 : Int)) (.int .i64 (1 + (k2 : Int))) (.string ⟨#[]⟩) (.int .i64 0) (.int .i64 0) (.slice A' kids.length c') (by omega) (by omega) (by omega) (by omega) hbe HO.out HK.out hO hTr hgl)
        have hne : w.heap.size ≠ be := by omega
        clear hr hcell hown HO HK
        go_wp2
        (try simp only [Exit.inBlock, Exit.then])
        refine bodyPost_ret (by simp [results, Try.results39, go_sem, *]; try rfl) rfl ?_
        exact HP.out
end Go.Proofs.Ytmboojbhnmdnkaa
