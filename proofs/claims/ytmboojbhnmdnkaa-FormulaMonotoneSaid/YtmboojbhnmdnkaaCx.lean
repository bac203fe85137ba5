
/- Catalogs: the walks of sort.Search with the closure of place, of place, of catalog.Resolve. -/
import Derived.Test.YtmboojbhnmdnkaaCw
namespace CL
open Go.Op (bytesLess)
theorem bl_irr : ∀ a : List UInt8, bytesLess a a = false
  | [] => rfl
  | a :: x => by simp [bytesLess, bl_irr x]
theorem bl_tr : ∀ {a b c : List UInt8}, bytesLess a b = true → bytesLess b c = true → bytesLess a c = true
  | _, [], _, h, _ => by simp [bytesLess] at h
  | _, _ :: _, [], _, h => by simp [bytesLess] at h
  | [], _ :: _, _ :: _, _, _ => by simp [bytesLess]
  | a :: x, b :: y, c :: z, h1, h2 => by
    simp only [bytesLess, Bool.or_eq_true, decide_eq_true_eq, Bool.and_eq_true, beq_iff_eq] at h1 h2 ⊢
    rcases h1 with h1 | ⟨rfl, h1⟩
    · rcases h2 with h2 | ⟨rfl, h2⟩
      · exact .inl (UInt8.lt_trans h1 h2)
      · exact .inl h1
    · rcases h2 with h2 | ⟨rfl, h2⟩
      · exact .inl h2
      · exact .inr ⟨rfl, bl_tr h1 h2⟩
theorem VCat.lt {l : List Re} (h : VCat l) {i j : Nat} (hij : i < j) (hj : j < l.length) : bytesLess (l[i]'(by omega)).n l[j].n = true := by
  induction j with
  | zero => omega
  | succ j ih =>
    have h1 := (h.2 (j + 1) hj hj).2 (by omega)
    simp only [Nat.add_sub_cancel] at h1
    rcases Nat.lt_or_ge i j with hlt | hge
    · exact bl_tr (ih hlt (by omega)) h1
    · obtain rfl : i = j := by omega
      exact h1
/-- below a are the names less than nm, from b on those that are not -/
def Spl (l : List Re) (nm : List UInt8) (a b : Nat) : Prop := (∀ k, (hk : k < l.length) → k < a → bytesLess l[k].n nm = true) ∧ (∀ k, (hk : k < l.length) → b ≤ k → bytesLess l[k].n nm = false)
theorem Spl.zero (l : List Re) (nm : List UInt8) : Spl l nm 0 l.length := ⟨fun _ _ h => by omega, fun _ _ h => by omega⟩
theorem Spl.left {l : List Re} {nm : List UInt8} {a b h : Nat} (hs : Spl l nm a b) (hv : VCat l) (hh : h < l.length) (hb : bytesLess l[h].n nm = true) : Spl l nm (h + 1) b := by
  refine ⟨fun k hk hkh => ?_, hs.2⟩
  rcases Nat.lt_or_ge k h with hlt | hge
  · exact bl_tr (hv.lt hlt hh) hb
  · obtain rfl : k = h := by omega
    exact hb
theorem Spl.right {l : List Re} {nm : List UInt8} {a b h : Nat} (hs : Spl l nm a b) (hv : VCat l) (hh : h < l.length) (hb : bytesLess l[h].n nm = false) : Spl l nm a h := by
  refine ⟨hs.1, fun k hk hkh => ?_⟩
  rcases Nat.lt_or_ge h k with hlt | hge
  · cases hc : bytesLess l[k].n nm
    · rfl
    · rw [bl_tr (hv.lt hlt hk) hc] at hb; cases hb
  · obtain rfl : k = h := by omega
    exact hb
theorem Spl.found {l : List Re} {nm : List UInt8} {a : Nat} (hs : Spl l nm a a) (ha : a < l.length) (hn : l[a].n = nm) : fnd l nm = some l[a] :=
  fnd_hit (fun i hi hia e => by have := hs.1 i hi hia; rw [e, bl_irr] at this; cases this) ha hn
theorem Spl.lost {l : List Re} {nm : List UInt8} {a : Nat} (hs : Spl l nm a a) (hv : VCat l) (hn : (ha : a < l.length) → l[a].n ≠ nm) : fnd l nm = none :=
  fnd_none (j := l.length) (fun i hi _ e => by
    rcases Nat.lt_or_ge i a with hlt | hge
    · have := hs.1 i hi hlt; rw [e, bl_irr] at this; cases this
    · rcases Nat.lt_or_ge a i with hlt2 | hge2
      · have h1 := hs.2 a (by omega) (Nat.le_refl _)
        have h2 := hv.lt hlt2 hi
        rw [e] at h2
        rw [h2] at h1; cases h1
      · obtain rfl : i = a := by omega
        exact hn hi e) (Nat.le_refl _)
theorem cres_none {l : List Re} {a : At} (hv : vcat l = true) (h : fnd l a.n = none) : cres l a = 10 := by simp [cres, hv, h]
theorem cres_some {l : List Re} {a : At} {x : Re} (hv : vcat l = true) (h : fnd l a.n = some x) : cres l a = if fits x.k x.u a.a = true then 0 else 12 := by simp [cres, hv, h]
end CL
namespace Go.Proofs.Ytmboojbhnmdnkaa
open Go.RowKit
set_option linter.unusedVariables false
theorem two_rowsC (w : World) (c1 : Array Value) (t1 : TypeId) (c2 : Array Value) (t2 : TypeId) : Blk ((w.alloc (.cells c1 t1)).alloc (.cells c2 t2)) w.heap.size t1 c1 ∧ Blk ((w.alloc (.cells c1 t1)).alloc (.cells c2 t2)) (w.heap.size + 1) t2 c2 :=
  ⟨(Blk.new _ _ _).alloc _, by have h := Blk.new (w.alloc (.cells c1 t1)) t2 c2; rw [World.size_alloc] at h; exact h⟩
set_option maxHeartbeats 1600000 in
theorem catalog.place1_c (l : List CL.Re) (nm : List UInt8) (A : Option Addr) (c g1 g2 i : Nat) (w : World) (hl : l.length ≤ maxLen) (hr : Sits w A (recs l)) (h1 : w.cell? ⟨g1, 0, none⟩ = some (.slice A l.length c)) (h2 : w.cell? ⟨g2, 0, none⟩ = some (.string ⟨nm.toArray⟩)) (hi : i < l.length) :
    Calls Try.prog 66 #[.int .i64 (i : Int), .pointer (some ⟨g1, 0, none⟩), .pointer (some ⟨g2, 0, none⟩)] w fun r w' => r = .returned (.bool (!Go.Op.bytesLess l[i].n nm)) ∧ Ext w w' := by
  unfold maxLen at hl
  obtain ⟨b, o, rfl, c0, c1, c2, c3⟩ := hr.recs hi
  have q0 := ExtOf.cell c0
  have q1 := ExtOf.cell h1
  have q2 := ExtOf.cell h2
  have hii : (i : Int) < (l.length : Int) := by omega
  have hi0 : (0 : Int) ≤ (i : Int) := by omega
  generalize l[i].n = n1 at *
  go_enter Try.func66, Try.ntmps66
  go_wp2_with fail
  refine wp_region_ext_lit (by kernel_rfl) (by kernel_rfl) ?_
  repeat (go_big_quiet_step (fail))
  refine wpQuiet_nil ?_
  intro wq hw'
  obtain ⟨⟨wq', hxq⟩, hw''⟩ := hw'
  subst hw''
  go_wp2
  go_ret
  exact ⟨rfl, hxq⟩
set_option maxHeartbeats 1600000 in
theorem Search_c (l : List CL.Re) (nm : List UInt8) (A : Option Addr) (c g1 g2 : Nat) (w : World) (hv : CL.VCat l) (hr : Sits w A (recs l)) (h1 : w.cell? ⟨g1, 0, none⟩ = some (.slice A l.length c)) (h2 : w.cell? ⟨g2, 0, none⟩ = some (.string ⟨nm.toArray⟩)) :
    Calls Try.prog 65 #[.int .i64 (l.length : Int), .func (.func 66) #[] #[.pointer (some ⟨g1, 0, none⟩), .pointer (some ⟨g2, 0, none⟩)]] w fun r w' => ∃ a : Nat, a ≤ l.length ∧ CL.Spl l nm a a ∧ r = .returned (.int .i64 (a : Int)) ∧ Ext w w' := by
  have h8 := hv.1
  have HS := Lib.hid (CL.Spl.zero l nm)
  have HV := Lib.hid hv
  clear hv
  go_enter Try.func65, Try.ntmps65
  go_wp2
  go_loopw [5, 6] (fun i j wr => ∃ a b : Nat, a ≤ b ∧ b ≤ l.length ∧ i = .int .i64 a ∧ j = .int .i64 b ∧ Ext w wr ∧ Hid (CL.Spl l nm a b)) (fun i j _ => (intOf j).toNat - (intOf i).toNat)
  case atStart => exact ⟨0, l.length, by omega, by omega, rfl, rfl, Ext.rfl', HS⟩
  case round =>
    obtain ⟨a, b, hab, hb, rfl, rfl, hy, HJ⟩ := hrel
    by_cases hlt : a < b
    · obtain ⟨h, hm, hah, hhb⟩ : ∃ h : Nat, ((a : Int) + (b : Int)) / 2 = (h : Int) ∧ a ≤ h ∧ h < b := ⟨(a + b) / 2, by omega, by omega, by omega⟩
      have hhl : h < l.length := by omega
      have HL := Lib.hid (fun hb => HJ.out.left HV.out hhl hb)
      have HR := Lib.hid (fun hb => HJ.out.right HV.out hhl hb)
      have HP := Lib.hid (catalog.place1_c l nm A c g1 g2 h wr (by unfold maxLen; omega) (hr.ext hy) (hy.cell h1) (hy.cell h2) hhl)
      have h1u : (h : Int) ≤ 9223372036854775807 := by omega
      cases hbl : Go.Op.bytesLess l[h].n nm
      · have HN := Lib.hid (HR.out hbl)
        go_wp2_with (go_at_call 66; (with_reducible refine HP.out.mono ?_); rintro r w1 ⟨rfl, hx1⟩)
        exact ⟨⟨a, h, hah, by omega, rfl, rfl, hy.tr hx1, HN⟩, by simp [intOf]; omega⟩
      · have HN := Lib.hid (HL.out hbl)
        go_wp2_with (go_at_call 66; (with_reducible refine HP.out.mono ?_); rintro r w1 ⟨rfl, hx1⟩)
        exact ⟨⟨h + 1, b, hhb, hb, by go_num, rfl, hy.tr hx1, HN⟩, by simp [intOf]; omega⟩
    · obtain rfl : a = b := by omega
      go_wp2
      go_ret
      exact ⟨a, hb, HJ.out, rfl, hy⟩
/-- what place gives back for a valid catalog -/
def PlacePost (l : List CL.Re) (nm : List UInt8) (w : World) (r : Ending) (w' : World) : Prop :=
  (∃ a : Nat, a ≤ l.length ∧ ((∃ ha : a < l.length, CL.fnd l nm = some l[a] ∧ r = .returned (.tuple #[.int .i64 (a : Int), .bool true])) ∨ (CL.fnd l nm = none ∧ r = .returned (.tuple #[.int .i64 (a : Int), .bool false])))) ∧ Ext w w'
set_option maxHeartbeats 1600000 in
theorem catalog.place_c (l : List CL.Re) (nm : List UInt8) (A : Option Addr) (c : Nat) (w : World) (hv : CL.VCat l) (hr : Sits w A (recs l)) :
    Calls Try.prog 52 #[.slice A l.length c, .string ⟨nm.toArray⟩] w (PlacePost l nm w) := by
  have h8 := hv.1
  have HV := Lib.hid hv
  clear hv
  obtain ⟨b0, b1⟩ := two_rowsC w #[.slice A l.length c] 41 #[.string ⟨nm.toArray⟩] 9
  have hx0 : Ext w ((w.alloc (.cells #[.slice A l.length c] 41)).alloc (.cells #[.string ⟨nm.toArray⟩] 9)) := by go_grown
  have HS := Lib.hid (Search_c l nm A c w.heap.size (w.heap.size + 1) _ HV.out (hr.ext hx0) (b0.cell 0) (b1.cell 0))
  go_enter Try.func52, Try.ntmps52
  go_wp2_with (go_at_call 65; (with_reducible refine HS.out.mono ?_); rintro r w1 ⟨a, hal, hs, rfl, hx1⟩; have hsp := Lib.hid hs; clear hs)
  have q0 := ExtOf.cell (show w1.cell? ⟨w.heap.size, 0, none⟩ = some (.slice A l.length c) from (b0.ext hx1).cell 0)
  have q1 := ExtOf.cell (show w1.cell? ⟨w.heap.size + 1, 0, none⟩ = some (.string ⟨nm.toArray⟩) from (b1.ext hx1).cell 0)
  by_cases ha : a < l.length
  · obtain ⟨b, o, rfl, c0, c1, c2, c3⟩ := ((hr.ext hx0).ext hx1).recs ha
    have q2 := ExtOf.cell c0
    have hai : (a : Int) < (l.length : Int) := by omega
    have H1 := Lib.hid (fun h => hsp.out.found ha h)
    have H2 := Lib.hid (fun (h : ¬ l[a].n = nm) => hsp.out.lost HV.out (fun _ => h))
    have HA : Hid (l[a] = l[a]) := Lib.hid rfl
    clear c0 c1 c2 c3
    by_cases heq : l[a].n = nm
    · have H3 := Lib.hid (H1.out heq)
      have hq : (l[a].n == nm) = true := by simp [heq]
      clear heq
      go_wp2_with fail
      refine wp_region_ext_lit (by kernel_rfl) (by kernel_rfl) ?_
      repeat (go_big_quiet_step (fail))
      refine wpQuiet_nil ?_
      intro wq hw'
      obtain ⟨⟨wq', hxq⟩, hw''⟩ := hw'
      subst hw''
      go_wp2
      go_ret2
      exact ⟨⟨a, hal, .inl ⟨ha, H3.out, rfl⟩⟩, hx0.tr (hx1.tr hxq)⟩
    · have H3 := Lib.hid (H2.out heq)
      have hq : (l[a].n == nm) = false := beq_eq_false_iff_ne.2 heq
      clear heq
      go_wp2_with fail
      refine wp_region_ext_lit (by kernel_rfl) (by kernel_rfl) ?_
      repeat (go_big_quiet_step (fail))
      refine wpQuiet_nil ?_
      intro wq hw'
      obtain ⟨⟨wq', hxq⟩, hw''⟩ := hw'
      subst hw''
      go_wp2
      go_ret2
      exact ⟨⟨a, hal, .inr ⟨H3.out, rfl⟩⟩, hx0.tr (hx1.tr hxq)⟩
  · have H3 := Lib.hid (hsp.out.lost HV.out (fun h => absurd h ha))
    have hai : (l.length : Int) ≤ (a : Int) := by omega
    go_wp2_with fail
    refine wp_region_ext_lit (by kernel_rfl) (by kernel_rfl) ?_
    repeat (go_big_quiet_step (fail))
    refine wpQuiet_nil ?_
    intro wq hw'
    obtain ⟨⟨wq', hxq⟩, hw''⟩ := hw'
    subst hw''
    go_wp2
    go_ret2
    exact ⟨⟨a, hal, .inr ⟨H3.out, rfl⟩⟩, hx0.tr (hx1.tr hxq)⟩
set_option maxHeartbeats 1600000 in
theorem catalog.Resolve_c (l : List CL.Re) (a : CL.At) (A : Option Addr) (c : Nat) (w : World) (hl : l.length ≤ maxLen) (hn : ∀ r ∈ l, r.n.length ≤ maxLen) (hr : Sits w A (recs l)) : Calls Try.prog 40 #[.slice A l.length c, .agg #[.string ⟨a.n.toArray⟩, .int .i64 a.a.m, .int .i64 a.a.u]] w fun r w' => r = .returned (.int .i64 (CL.cres l a)) ∧ Ext w w' := by
  obtain ⟨nm, m, u⟩ := a
  obtain ⟨bE, hx0⟩ := box1 w #[.string ⟨nm.toArray⟩, .int .i64 m, .int .i64 u] 25
  cases hv : CL.vcat l
  · have HF := Lib.hid (show CL.cres l ⟨nm, ⟨m, u⟩⟩ = 2 by simp [CL.cres, hv])
    go_enter Try.func40, Try.ntmps40
    go_wp2_with (go_at_call 51; (with_reducible refine (catalog.Valid_c l _ _ _ hl hn (hr.ext hx0)).mono ?_); rintro r w1 ⟨rfl, hx⟩)
    go_ret
    exact ⟨ret_int HF.out.symm, hx0.tr hx⟩
  · have HV := Lib.hid (CL.vcat_get hv)
    have HFN := Lib.hid (fun h => CL.cres_none (a := ⟨nm, ⟨m, u⟩⟩) hv h)
    have HFS := Lib.hid (fun x h => CL.cres_some (a := ⟨nm, ⟨m, u⟩⟩) (x := x) hv h)
    go_enter Try.func40, Try.ntmps40
    go_wp2_with (first
      | (go_at_call 51; (with_reducible refine (catalog.Valid_c l _ _ _ hl hn (hr.ext hx0)).mono ?_); rintro r w1 ⟨rfl, hx⟩; have d0 : w1.cell? ⟨w.heap.size, 0, none⟩ = some (.string ⟨nm.toArray⟩) := (bE.ext hx).cell 0)
      | (go_at_call 52; (with_reducible refine (catalog.place_c l nm _ _ _ HV.out ((hr.ext hx0).ext hx)).mono ?_); rintro r w2 ⟨⟨a, hal, ⟨ha, hfn, rfl⟩ | ⟨hfn, rfl⟩⟩, hx2⟩))
    · have HF := Lib.hid (HFS.out _ hfn)
      have hxx := hx.tr hx2
      obtain ⟨b, o, rfl, c0, c1, c2, c3⟩ := ((hr.ext hx0).ext hxx).recs ha
      have q0 := ExtOf.cell c0
      have q1 := ExtOf.cell c1
      have q2 := ExtOf.cell c2
      have q3 := ExtOf.cell c3
      have q4 := ExtOf.cell (show w2.cell? ⟨w.heap.size, 1, none⟩ = some (.int .i64 m) from (bE.ext hxx).cell 1)
      have q5 := ExtOf.cell (show w2.cell? ⟨w.heap.size, 2, none⟩ = some (.int .i64 u) from (bE.ext hxx).cell 2)
      have hai : (a : Int) < (l.length : Int) := by omega
      clear c0 c1 c2 c3 hfn d0
      generalize l[a] = r0 at *
      cases hft : CL.fits r0.k r0.u ⟨m, u⟩
      all_goals
        go_wp2_with fail
        refine wp_region_ext_lit (by kernel_rfl) (by kernel_rfl) ?_
        repeat (go_big_quiet_step ((go_at_call 53; exact xqX (amount.Fits_c _ _ _ _ _ _ _))))
        refine wpQuiet_nil ?_
        intro wq hw'
        obtain ⟨⟨wq', hxq⟩, hw''⟩ := hw'
        subst hw''
        go_wp2
        go_ret
        exact ⟨ret_int (by rw [HF.out, hft]; rfl), hx0.tr (hxx.tr hxq)⟩
    · go_ret
      exact ⟨ret_int (HFN.out hfn).symm, hx0.tr (hx.tr hx2)⟩
end Go.Proofs.Ytmboojbhnmdnkaa
