
/- Ledger: entries and savepoints in memory; the walks of place, sums, Held and of the reference's find and Held. -/
import Derived.Test.YtaebindbadfaaaaLv
import Derived.Test.YtaebindbadfaaaaSl
import Derived.IntWalk
import Derived.Laws.Cover1
namespace Go.Proofs.Ytaebindbadfaaaa
open Go.RowKit
set_option linter.unusedVariables false
set_option linter.unusedSimpArgs false
def enc (e : CL.En) : List Value := [.string ⟨e.n.toArray⟩, .int .i64 e.b.m, .int .i64 e.b.u, .int .i64 e.a.m, .int .i64 e.a.u]
def ens (l : List CL.En) : List Value := l.flatMap enc
theorem ens_len (l : List CL.En) : (ens l).length = l.length * 5 := fm_len (c := enc) (fun _ => rfl) l
theorem ens_append (a b : List CL.En) : ens (a ++ b) = ens a ++ ens b := by simp [ens]
theorem Sits.ens {w : World} {l : List CL.En} {A : Option Addr} (hr : Sits w A (ens l)) {k : Nat} (h : k < l.length) : ∃ b o, A = some ⟨b, o, none⟩ ∧
    w.cell? ⟨b, o + k * 5, none⟩ = some (.string ⟨l[k].n.toArray⟩) ∧ w.cell? ⟨b, o + k * 5 + 1, none⟩ = some (.int .i64 l[k].b.m) ∧ w.cell? ⟨b, o + k * 5 + 2, none⟩ = some (.int .i64 l[k].b.u) ∧ w.cell? ⟨b, o + k * 5 + 3, none⟩ = some (.int .i64 l[k].a.m) ∧ w.cell? ⟨b, o + k * 5 + 4, none⟩ = some (.int .i64 l[k].a.u) := by
  obtain ⟨b, o, e, hc⟩ := hr (by intro hn; have := congrArg List.length hn; rw [ens_len] at this; simp at this; omega)
  exact ⟨b, o, e, hc (k * 5 + 0) _ (fm_get (c := enc) (sz := 5) (fun _ => rfl) h 0 (by omega)), hc (k * 5 + 1) _ (fm_get (c := enc) (sz := 5) (fun _ => rfl) h 1 (by omega)), hc (k * 5 + 2) _ (fm_get (c := enc) (sz := 5) (fun _ => rfl) h 2 (by omega)), hc (k * 5 + 3) _ (fm_get (c := enc) (sz := 5) (fun _ => rfl) h 3 (by omega)), hc (k * 5 + 4) _ (fm_get (c := enc) (sz := 5) (fun _ => rfl) h 4 (by omega))⟩
def svc (v : CL.Sv) : List Value := [.int .i64 v.l, .int .i64 v.t]
def svl (l : List CL.Sv) : List Value := l.flatMap svc
theorem svl_len (l : List CL.Sv) : (svl l).length = l.length * 2 := fm_len (c := svc) (fun _ => rfl) l
theorem svl_append (a b : List CL.Sv) : svl (a ++ b) = svl a ++ svl b := by simp [svl]
theorem Sits.svl {w : World} {l : List CL.Sv} {A : Option Addr} (hr : Sits w A (svl l)) {k : Nat} (h : k < l.length) : ∃ b o, A = some ⟨b, o, none⟩ ∧
    w.cell? ⟨b, o + k * 2, none⟩ = some (.int .i64 l[k].l) ∧ w.cell? ⟨b, o + k * 2 + 1, none⟩ = some (.int .i64 l[k].t) := by
  obtain ⟨b, o, e, hc⟩ := hr (by intro hn; have := congrArg List.length hn; rw [svl_len] at this; simp at this; omega)
  exact ⟨b, o, e, hc (k * 2 + 0) _ (fm_get (c := svc) (sz := 2) (fun _ => rfl) h 0 (by omega)), hc (k * 2 + 1) _ (fm_get (c := svc) (sz := 2) (fun _ => rfl) h 1 (by omega))⟩
set_option maxHeartbeats 800000 in
theorem ledger.place_c (l : List CL.Sv) (lb : Int) (A : Option Addr) (c : Nat) (w : World) (hl : l.length ≤ maxLen) (hr : Sits w A (svl l)) :
    Calls Try.prog 46 #[.slice A l.length c, .int .i64 lb] w fun r w' => r = .returned (.int .i64 (CL.plc l lb)) ∧ Ext w w' := by
  unfold maxLen at hl
  have HV := Lib.hid (CL.PTo.zero l lb)
  go_enter Try.func46, Try.ntmps46
  go_wp2
  go_loopw [9] (fun i wr => ∃ j : Nat, j ≤ l.length ∧ i = .int .i64 j ∧ Ext w wr ∧ Hid (CL.PTo l lb j)) (fun i _ => l.length - (intOf i).toNat)
  case atStart => exact ⟨0, by omega, rfl, Ext.rfl', HV⟩
  case round =>
    obtain ⟨j, hj, rfl, hy, HJ⟩ := hrel
    by_cases hlt : j < l.length
    · obtain ⟨b, o, rfl, c0, c1⟩ := (hr.ext hy).svl hlt
      have H1 := Lib.hid (fun h => CL.plc_hit HJ.out hlt h)
      have H2 := Lib.hid (fun h => HJ.out.step hlt h)
      generalize l[j] = r0 at *
      by_cases heq : r0.l = lb
      · have H3 := Lib.hid (H1.out heq)
        go_wp2
        go_ret
        exact ⟨ret_int H3.out.symm, hy.tr (by go_grown)⟩
      · have H3 := Lib.hid (H2.out heq)
        go_wp2
        exact ⟨⟨j + 1, by omega, by go_num, hy.tr (by go_grown), H3⟩, by simp [intOf]; omega⟩
    · have H3 := Lib.hid (CL.plc_none HJ.out (by omega))
      go_wp2
      go_ret
      exact ⟨ret_int H3.out.symm, hy⟩
set_option maxHeartbeats 800000 in
theorem clusterlocksref14.find_c (l : List CL.Sv) (lb : Int) (A : Option Addr) (c : Nat) (w : World) (hl : l.length ≤ maxLen) (hr : Sits w A (svl l)) :
    Calls Try.prog 47 #[.slice A l.length c, .int .i64 lb] w fun r w' => r = .returned (.int .i64 (CL.plc l lb)) ∧ w = w' := by
  unfold maxLen at hl
  have HV := Lib.hid (CL.PTo.zero l lb)
  go_enter Try.func47, Try.ntmps47
  go_wp2
  go_loop [5] (fun i => ∃ j : Nat, j ≤ l.length ∧ i = .int .i64 j ∧ Hid (CL.PTo l lb j)) (fun i => l.length - (intOf i).toNat)
  case atStart => exact ⟨0, by omega, rfl, HV⟩
  case round =>
    obtain ⟨j, hj, rfl, HJ⟩ := hrel
    by_cases hlt : j < l.length
    · obtain ⟨b, o, rfl, c0, c1⟩ := hr.svl hlt
      have H1 := Lib.hid (fun h => CL.plc_hit HJ.out hlt h)
      have H2 := Lib.hid (fun h => HJ.out.step hlt h)
      generalize l[j] = r0 at *
      by_cases heq : r0.l = lb
      · have H3 := Lib.hid (H1.out heq)
        go_wp2
        go_ret
        exact ⟨ret_int H3.out.symm, rfl⟩
      · have H3 := Lib.hid (H2.out heq)
        go_wp2
        exact ⟨⟨j + 1, by omega, by go_num, H3⟩, by simp [intOf]; omega⟩
    · have H3 := Lib.hid (CL.plc_none HJ.out (by omega))
      go_wp2
      go_ret
      exact ⟨ret_int H3.out.symm, rfl⟩
/-- what a function that returns a map of what entries say gives back -/
def SumPost (l : List CL.En) (w : World) (r : Ending) (w' : World) : Prop := ∃ b, r = .returned (.map (some b)) ∧ MapAm w' b l ∧ Ext w w' ∧ w.heap.size ≤ b
set_option maxHeartbeats 1600000 in
theorem ledger.sums_c (l : List CL.En) (A : Option Addr) (c : Nat) (w : World) (hl : l.length ≤ 100) (hn : ∀ e ∈ l, e.n.length ≤ maxLen) (hr : Sits w A (ens l)) :
    Calls Try.prog 48 #[.slice A l.length c] w (SumPost l w) := by
  have hm0 := MapAm.made w
  have hmm := @run_makeMap Try.prog
  go_enter Try.func48, Try.ntmps48
  go_wp2
  go_loopw [9] (fun i wr => ∃ j : Nat, j ≤ l.length ∧ i = .int .i64 j ∧ Ext w wr ∧ MapAm wr w.heap.size (l.take j)) (fun i _ => l.length - (intOf i).toNat)
  case atStart => exact ⟨0, by omega, rfl, Ext.new _ _, hm0⟩
  case round =>
    obtain ⟨j, hj, rfl, hy, hm⟩ := hrel
    by_cases hlt : j < l.length
    · obtain ⟨b, o, rfl, c0, c1, c2, c3, c4⟩ := (hr.ext hy).ens hlt
      have hnj := hn _ (List.getElem_mem hlt)
      have ht : (l.take j).length < maxLen := by rw [List.length_take]; unfold maxLen; omega
      have H1 := Lib.hid (CL.take_snoc hlt)
      go_wp2_with (first | (at_mapUpdate; refine wpList_put_am _ rfl _ _ _ rfl w.heap.size (l.take j) l[j] rfl (hm.alloc _) rfl rfl hnj ht ?_; intro w1 hm1 ho1) | go_in)
      refine ⟨⟨j + 1, by omega, by go_num, (hy.tr (Ext.new _ _)).only ho1 (Nat.le_refl _), by rw [H1.out]; exact hm1⟩, by simp [intOf]; omega⟩
    · obtain rfl : j = l.length := by omega
      rw [List.take_length] at hm
      go_wp2
      go_ret
      exact ⟨_, rfl, hm, hy, Nat.le_refl _⟩
end Go.Proofs.Ytaebindbadfaaaa
