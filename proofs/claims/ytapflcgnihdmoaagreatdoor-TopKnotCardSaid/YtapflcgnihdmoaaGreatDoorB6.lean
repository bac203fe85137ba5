/- slices.Insert at a slice of processes: in place. -/
import Derived.Test.YtapflcgnihdmoaaGreatDoorA2
import Derived.Test.YtapflcgnihdmoaaGreatDoorProg
import Derived.Shelf.RegionOpenPlain
import Derived.WalkKit
import Derived.Lib.Walk
import Derived.Lib.Hide
import Derived.Deep.RegionLaw
import Derived.Deep.RegionHeld3
import Derived.Lib.SliceRun
import Derived.Lib.Overlaps
import Derived.Laws.Externs
import Derived.Laws.CopyRow
import Derived.KernelRfl
namespace X
open Go Go.Proofs Go.RowKit Go.Lib
set_option linter.unusedVariables false
set_option linter.unusedSimpArgs false
set_option linter.unusedSectionVars false
variable [Luck]
variable {P : Program}
theorem wp_cp (w : World) {o : Oper} {a : Act} {K : Act → World → Prop} {Q : Exit → Act → World → Prop} (d s : Operand) (t t' : TypeId)
    (ho : o.op = .call { callee := .builtin .copy, args := #[d, s], argTypes := #[t, t'] }) (v u : Value) (hd : a.eval d = v) (hs : a.eval s = u) {v' : Value} {w' : World}
    (hr : (Builtin.copy_ #[t, t'] o.type #[v, u]).run P w = .ok v' w') (h : K (a.put o.dst v') w') : o.wp P a w K Q := by
  unfold Oper.wp execOp
  simp only [ho, resolve, invoke, builtin, Sem.run_bind, Sem.run_pure, Result.andThen_ok, List.map_toArray, List.map_cons, List.map_nil, hd, hs, hr]
  exact h
theorem wpList_cp (w : World) {ops : Array Oper} {rest : List Oper} {o : Oper} {a : Act} {Q : Exit → Act → World → Prop} (hgd : o.guard = none) (d s : Operand) (t t' : TypeId)
    (ho : o.op = .call { callee := .builtin .copy, args := #[d, s], argTypes := #[t, t'] }) (v u : Value) (hd : a.eval d = v) (hs : a.eval s = u) {v' : Value} {w' : World}
    (hr : (Builtin.copy_ #[t, t'] o.type #[v, u]).run P w = .ok v' w') (h : wpList P ops Q rest (a.put o.dst v') w') : wpList P ops Q (o :: rest) a w :=
  wpList_plain hgd fun _ hK => wp_cp w d s t t' ho v u hd hs hr (hK _ _ h)
theorem step_cp {ops : Array Oper} {o : Oper} {a : Act} {w : World} {K : Act → World → Prop} {Q : Exit → Act → World → Prop} {E : Prop}
    (hg : o.guard = none) (d x : Operand) (dT sT : TypeId) (hop : o.op = Op.call { callee := Callee.builtin Builtin.copy, args := #[d, x], argTypes := #[dT, sT] })
    (v u : Value) (hd : a.eval d = v) (hx : a.eval x = u) {v' : Value} {w' : World} (hr : (Builtin.copy_ #[dT, sT] o.type #[v, u]).run P w = .ok v' w') (hK : K (a.put o.dst v') w') :
    if Region.wanted o (yielded ops a.tmps) = true then Oper.wp P o a w K Q else E := by
  have hw : Region.wanted o (yielded ops a.tmps) = true := by simp [Region.wanted, hg]
  rw [if_pos hw]
  exact wp_cp w d x dT sT hop v u hd hx hr hK
/-- copy, of rows of cells -/
theorem run_cp_w (w : World) (dT sT ty elem : TypeId) (i : TypeInfo) (g o dLen dCap : Nat) (a : Addr) (sLen sCap : Nat) (cur : Array Value) (t : TypeId) (cs : List Value)
    (hu : P.underlying dT = some (.slice elem)) (hi : P.info? elem = some i) (hg : w.heap[g]? = some (.cells cur t (0, 0))) (hn : cs.length = Nat.min sLen dLen * i.size)
    (hsrc : ∀ j v, cs[j]? = some v → w.cell? (a.add j) = some v) (hfit : o + cs.length ≤ cur.size) (h1 : ∀ v ∈ cs, v.oneCell' = true) :
    (Builtin.copy_ #[dT, sT] ty #[.slice (some ⟨g, o, none⟩) dLen dCap, .slice (some a) sLen sCap]).run P w =
      .ok (goInt (Nat.min sLen dLen)) (w.setRow g (cur.toList.take o ++ cs ++ cur.toList.drop (o + cs.length)).toArray) := by
  have hl := run_loadCells_list (P := P) w a cs hsrc
  have hst := run_storeCells_at P g o t cs 0 cur w hg (by simpa using hfit) h1
  rw [hn] at hl
  simp only [Nat.add_zero] at hst
  simp [Builtin.copy_, run_underlying hu, Builtin.lenOf, Builtin.firstCells, run_sz hi, hl, hst]
theorem drew_setRow (w : World) (g : Nat) (cs : Array Value) : (w.setRow g cs).drew = w.drew.setRow g cs := rfl
theorem und24 : Tryz.prog.underlying 24 = some (.slice 115) := Tryz.underlying24
theorem ex_info : ∃ i, Tryz.prog.info? 115 = some i ∧ i.size = 16 := by
  have h : (Tryz.prog.info? 115).map (·.size) = some 16 := by kernel_rfl
  cases e : Tryz.prog.info? 115 with
  | none => rw [e] at h; cases h
  | some i => exact ⟨i, rfl, by rw [e] at h; simpa using h⟩
set_option maxHeartbeats 4000000 in
set_option maxRecDepth 100000 in
theorem ins_room (b off n c i vb voff vc : Nat) (cur curv : Array Value) (tb tv : TypeId) (cs vs : List Value) (w : World) (hi : i < n) (hroom : n + 1 ≤ c) (hn63 : n + 1 ≤ 1000000) (hvb : vb ≠ b)
    (hg : w.heap[b]? = some (.cells cur tb (0, 0))) (hgv : w.heap[vb]? = some (.cells curv tv (0, 0))) (hcl : cs.length = n * 16) (hvl : vs.length = 16)
    (hcs : ∀ j v, cs[j]? = some v → cur[off + j]? = some v) (hvs : ∀ j v, vs[j]? = some v → curv[voff + j]? = some v) (hsz : off + (n + 1) * 16 ≤ cur.size) (h1c : ∀ v ∈ cs, v.oneCell' = true) (h1v : ∀ v ∈ vs, v.oneCell' = true) :
    Calls Tryz.prog 134 #[.slice (some ⟨b, off, none⟩) n c, .int .i64 i, .slice (some ⟨vb, voff, none⟩) 1 vc] w fun e w' =>
      e = .returned (.slice (some ⟨b, off, none⟩) (n + 1) c) ∧ ∃ c1, c1 = (cur.toList.take (off + (i + 1) * 16) ++ cs.drop (i * 16) ++ cur.toList.drop (off + (i + 1) * 16 + (cs.drop (i * 16)).length)).toArray ∧
        w' = (w.drew.setRow b c1).setRow b (c1.toList.take (off + i * 16) ++ vs ++ c1.toList.drop (off + i * 16 + vs.length)).toArray := by
  obtain ⟨I, hI, hIs⟩ := ex_info
  have hz1 : ¬ ((1 : Int) = 0) := by omega
  have hz2 : ¬ ((i : Int) = (n : Int)) := by omega
  have mixed : Tryz.prog.follows .mixedOrders = true := by kernel_rfl
  have hsize : ∀ w, (Go.sizeOf 115).run Tryz.prog w = .ok 16 w := fun w => by rw [← hIs]; exact run_sz hI w
  have hov : ∀ lb cb, (callFunc 192 #[.slice (some ⟨vb, voff, none⟩) 1 vc, .slice (some ⟨b, off + (i + 1) * 16, none⟩) lb cb]).run Tryz.prog w = .ok (.value (.bool false)) w := fun lb cb => by
    rw [run_callFunc_extern Tryz.func192 (by kernel_rfl) (by kernel_rfl) (by kernel_rfl) (e := Extern.SlicesOverlaps.overlaps #[24, 24] #[4]) (by kernel_rfl),
      Lib.run_overlaps_apart w 24 4 115 und24 16 hsize ⟨vb, voff, none⟩ ⟨b, off + (i + 1) * 16, none⟩ 1 vc lb cb hvb tv tb curv.size cur.size (by simp [World.shape?, hgv]) (by simp [World.shape?, hg]) (by omega) (by simp [World.frozen?, hgv]) (by simp [World.frozen?, hgv])]
    rfl
  have hdl : (cs.drop (i * 16)).length = (n - i) * 16 := by rw [List.length_drop, hcl, Nat.sub_mul]
  have hw1 : IntKind.i64.wrap ((i : Int) + 1) = (i : Int) + 1 := by rw [IntKind.wrap_i64]; omega
  have hb1 : (0 : Int) ≤ (i : Int) + 1 := by omega
  have hin : i ≤ n := by omega
  have htn : ((i : Int) + 1).toNat = i + 1 := by omega
  have hb2 : ¬ (c = i + 1) := by omega
  have hb3 : (i : Int) ≤ (n : Int) + 1 := by omega
  have hb4 : ¬ (c = i) := by omega
  obtain ⟨c1, hc1⟩ : ∃ c1, c1 = (cur.toList.take (off + (i + 1) * 16) ++ cs.drop (i * 16) ++ cur.toList.drop (off + (i + 1) * 16 + (cs.drop (i * 16)).length)).toArray := ⟨_, rfl⟩
  have hin2 : (i + 1) * 16 + (n - i) * 16 = (n + 1) * 16 := by rw [← Nat.add_mul]; congr 1; omega
  have hc1s : c1.size = cur.size := by rw [hc1]; simp [hdl]; omega
  have hcp1 : ∀ ty dc sc, (Builtin.copy_ #[24, 24] ty #[.slice (some ⟨b, off + (i + 1) * 16, none⟩) (n - i) dc, .slice (some ⟨b, off + i * 16, none⟩) (n + 1 - i) sc]).run Tryz.prog w.drew = .ok (goInt (Nat.min (n + 1 - i) (n - i))) (w.drew.setRow b c1) := fun ty dc sc => by
    rw [hc1]
    exact run_cp_w w.drew _ _ ty 115 I b (off + (i + 1) * 16) (n - i) dc ⟨b, off + i * 16, none⟩ (n + 1 - i) sc cur tb (cs.drop (i * 16)) und24 hI hg
      (by rw [hdl, hIs]; congr 1; simp only [Nat.min_def]; split <;> omega)
      (fun j v hj => by
        rw [Addr.add_lit]
        show World.cell? _ _ = _
        rw [List.getElem?_drop] at hj
        have := hcs _ v hj
        simp only [World.cell?, drew_heap, hg]
        rw [Nat.add_assoc]; exact this)
      (by rw [hdl]; omega) (fun v hv => h1c v (List.mem_of_mem_drop hv))
  obtain ⟨W1, hW1⟩ : ∃ W1, W1 = w.drew.setRow b c1 := ⟨_, rfl⟩
  have hg1 : W1.heap[b]? = some (.cells c1 tb (0, 0)) := by rw [hW1]; exact setRow_heap _ _ cur _ _ _ hg
  have hgv1 : W1.heap[vb]? = some (.cells curv tv (0, 0)) := by rw [hW1, setRow_other _ _ _ _ hvb]; exact hgv
  have hcp2 : ∀ ty dc, (Builtin.copy_ #[24, 24] ty #[.slice (some ⟨b, off + i * 16, none⟩) (n + 1 - i) dc, .slice (some ⟨vb, voff, none⟩) 1 vc]).run Tryz.prog W1 = .ok (goInt (Nat.min 1 (n + 1 - i))) (W1.setRow b (c1.toList.take (off + i * 16) ++ vs ++ c1.toList.drop (off + i * 16 + vs.length)).toArray) := fun ty dc =>
    run_cp_w W1 _ _ ty 115 I b (off + i * 16) (n + 1 - i) dc ⟨vb, voff, none⟩ 1 vc c1 tb vs und24 hI hg1
      (by rw [hvl, hIs]; simp only [Nat.min_def]; split <;> omega)
      (fun j v hj => by
        rw [Addr.add_lit]
        simp only [World.cell?, hgv1]
        exact hvs j v hj)
      (by rw [hvl, hc1s]; omega) h1v
  rw [← hW1] at hcp1
  have HC1 := Lib.hid hc1
  have HW1 := Lib.hid hW1
  clear hc1 hW1
  go_enter Tryz.func134, Tryz.ntmps134
  go_wp2_with (simp only [hov])
  go_region_law (refine step_cp rfl _ _ 24 24 rfl _ _ (by simp [Act.eval, Act.put]) (by simp [Act.eval, Act.put]) (hcp1 _ _ _) ?_)
  go_wp2_with (at_builtin; refine wpList_cp _ rfl _ _ 24 24 rfl _ _ rfl rfl (hcp2 _ _) ?_)
  go_ret
  exact ⟨rfl, c1, HC1.out, by rw [← HW1.out]; simp only [List.append_assoc, hvl]⟩
end X
