
/- The walks of the lexer, second part: one token. -/
import Derived.Test.YtklpfhkcbhkofaaLw
import Derived.Deep.RegionHeld3
import Derived.Deep.RegionLaw
import Derived.Deep.DeepCutAuto
namespace Go.Proofs.Ytklpfhkcbhkofaa
open Go.RowKit
/-- a token as cells -/
def tkc (t : CL.Tk) : List Value := [.int .i64 t.kind, .string ⟨t.text.toArray⟩, .int .i64 t.num, .int .i64 t.pos]
def tks (l : List CL.Tk) : List Value := l.flatMap tkc
theorem tks_len (l : List CL.Tk) : (tks l).length = l.length * 4 := by
  unfold tks
  induction l with
  | nil => rfl
  | cons t l ih => simp [tkc, ih]; omega
theorem tks_snoc (l : List CL.Tk) (t : CL.Tk) : tks (l ++ [t]) = tks l ++ tkc t := by simp [tks]
theorem tok_info : (Try.prog.info? 32).map (fun i => (i.zero, i.size, i.bytes)) = some (some (.agg #[.int .i64 0, .string ⟨#[]⟩, .int .i64 0, .int .i64 0]), 4, 40) := by kernel_rfl
/-- what a good scan leaves -/
def ScanOk (B b : Nat) (t : TypeId) (s : List UInt8) (k : Nat) (l : List CL.Tk) (w w' : World) : Prop :=
  ∃ tv', Blk w' b t (cur s k [tv']) ∧ w'.ownsRow B 32 4 tv' l.length (tks l) ∧ Below B w w'
theorem scan_end {B b : Nat} {t : TypeId} {s : List UInt8} {k : Nat} {acc : List CL.Tk} {tok : CL.Tk} {tv : Value} {w w2 w3 : World} {A3 : Option Addr} {c3 : Nat} {o : Obj} (hB : B ≤ b) (ht : t ≠ 32) (hBs : B ≤ w2.heap.size)
    (hbel2 : Below B w w2) (hb2 : Blk w2 b t (cur s k [tv])) (n1 : some b ≠ tv.ownBlock) (hg3 : ((w2.alloc o).drew).grownBy w3 tv.ownBlock) (hb3 : Below B ((w2.alloc o).drew) w3)
    (hown3 : w3.ownsRow B 32 4 (.slice A3 (acc.length + 1) c3) (acc.length + 1) (tks acc ++ tkc tok)) :
    ScanOk B b t s k (acc ++ [tok]) w (w3.setCell ⟨b, 2, none⟩ (.slice A3 (acc.length + 1) c3)) := by
  have hb4 := hg3.blk (hb2.alloc _) n1
  refine ⟨.slice A3 (acc.length + 1) c3, ?_, ?_, ?_⟩
  · have := hb4.set 2 (.slice A3 (acc.length + 1) c3)
    simpa [cur] using this
  · rw [tks_snoc, List.length_append]
    exact own_only hown3 (Only.rf.set 2 _) (own_ne hown3 hb4 (Ne.symm ht))
  · exact below_only (((hbel2.alloc hBs o).drew).trans hb3) (Only.rf.set 2 _) hB (Nat.le_trans hBs (Nat.le_trans (by simp) hb3.size))
def ScanPost (B b : Nat) (t : TypeId) (s : List UInt8) (j : Nat) (acc : List CL.Tk) (w : World) (e : Ending) (w' : World) : Prop :=
  e = .returned (.int .i64 (CL.one (s.drop j) j).1) ∧
    ((CL.one (s.drop j) j).1 = 0 → ScanOk B b t s (j + (CL.one (s.drop j) j).2.2) (acc ++ [(CL.one (s.drop j) j).2.1]) w w') ∧ Below B w w'
theorem scan_good {B b : Nat} {t : TypeId} {s : List UInt8} {j n : Nat} {acc : List CL.Tk} {w w' : World} {tok : CL.Tk} (h : CL.one (s.drop j) j = (0, tok, n)) (hok : ScanOk B b t s (j + n) (acc ++ [tok]) w w') :
    ScanPost B b t s j acc w (.returned (.int .i64 0)) w' := by
  unfold ScanPost; rw [h]; exact ⟨rfl, fun _ => hok, hok.choose_spec.2.2⟩
theorem scan_bad {B b : Nat} {t : TypeId} {s : List UInt8} {j n : Nat} {acc : List CL.Tk} {w w' : World} {tok : CL.Tk} {k : Int} (hk : k ≠ 0) (h : CL.one (s.drop j) j = (k, tok, n)) (hb : Below B w w') :
    ScanPost B b t s j acc w (.returned (.int .i64 k)) w' := by
  unfold ScanPost; rw [h]; exact ⟨rfl, fun h => absurd h hk, hb⟩
set_option maxRecDepth 100000 in
set_option maxHeartbeats 1600000 in
theorem scan_word (B b : Nat) (t : TypeId) (s : List UInt8) (j : Nat) (tv : Value) (acc : List CL.Tk) (w : World) (hs : s.length ≤ 1024) (hj : j < s.length) (ht : t ≠ 32) (hB : B ≤ b) (hb : Blk w b t (cur s j [tv]))
    (hown : w.ownsRow B 32 4 tv acc.length (tks acc)) (ha : acc.length ≤ s.length) (hc : CL.at8 CL.ltr s[j] = true) :
    Calls Try.prog 18 #[.pointer (some ⟨b, 0, none⟩)] w (ScanPost B b t s j acc w) := by
  have h0 : w.cell? ⟨b, 0, none⟩ = some (.string ⟨s.toArray⟩) := hb.cell 0
  have h1 : w.cell? ⟨b, 1, none⟩ = some (.int .i64 j) := hb.cell 1
  have hlt := hb.lt
  have hne : b ≠ w.heap.size := by omega
  have hBw : B ≤ w.heap.size := by omega
  have hlt' : tv.ownBlock ≠ some w.heap.size := fun e => by have := (hown.lt _ e).2; omega
  have c1 : CL.ltr (((⟨s.toArray⟩ : ByteArray)[j]'hj).toNat : Int) = true := hc
  have HO := Lib.hid (CL.one_word (i := j) hj hc)
  go_enter Try.func18, Try.ntmps18
  go_wp2
  go_quiet (fail)
  go_wp2_with (first
    | (go_at_call 22; refine (letter_c _ _).mono ?_; rintro e w' ⟨rfl, rfl⟩))
  refine (run_inWord b t s j [tv] _ (by unfold maxLen; omega) (by omega) ((hb.alloc _).drewN _)).mono ?_
  rintro e w1 ⟨rfl, hb1, ho1⟩
  have hT' : Blk w1 w.heap.size 32 #[.int .i64 0, .string ⟨#[]⟩, .int .i64 0, .int .i64 j] := Blk.only ((Blk.new w _ _).drewN _) ho1 (by omega)
  have hown1 := own_only (own_drewN (hown.alloc _) _) ho1 (own_ne hown hb (Ne.symm ht))
  have hbel : Below B w w1 := below_only (below_drewN ((Below.refl B w).alloc (by omega) _) _) ho1 hB (by simp; omega)
  have e0 : w1.cell? ⟨b, 0, none⟩ = some (.string ⟨s.toArray⟩) := hb1.cell 0
  have e2 : w1.cell? ⟨b, 2, none⟩ = some tv := hb1.cell 2
  have f2 := hb1.frozen 2
  have t0 : w1.cell? ⟨w.heap.size, 0, none⟩ = some (.int .i64 0) := hT'.cell 0
  have t1 : w1.cell? ⟨w.heap.size, 1, none⟩ = some (.string ⟨#[]⟩) := hT'.cell 1
  have t2 : w1.cell? ⟨w.heap.size, 2, none⟩ = some (.int .i64 0) := hT'.cell 2
  have t3 : w1.cell? ⟨w.heap.size, 3, none⟩ = some (.int .i64 j) := hT'.cell 3
  have u0 := hT'.frozen 0
  have u1 := hT'.frozen 1
  have u2 := hT'.frozen 2
  clear h0 h1 hb hown ho1
  have hnl := CL.spanN_le CL.prt (s.drop j)
  generalize hn : CL.spanN CL.prt (s.drop j) = n at *
  have HN := Lib.hid hn
  clear hn
  simp only [List.length_drop] at hnl
  have hwl : ((s.drop j).take n).length = n := by simp; omega
  generalize hwd : (s.drop j).take n = wd at *
  have HW := Lib.hid hwd
  clear hwd
  have hT2 := (hT'.set 0 (.int .i64 1)).set 1 (.string ⟨wd.toArray⟩)
  have ho2 : Only w.heap.size w1 ((w1.setCell ⟨w.heap.size, 0, none⟩ (.int .i64 1)).setCell ⟨w.heap.size, 1, none⟩ (.string ⟨wd.toArray⟩)) := (Only.rf.set 0 _).set 1 _
  have hb2 := hb1.only ho2 hne
  have hown2 := own_only hown1 ho2 hlt'
  have hbel2 := below_only hbel ho2 hBw (Nat.le_trans hBw hbel.size)
  have s2 : w.heap.size < w1.heap.size := hT'.lt
  have s3 := hT2.lt
  clear hT' hown1 hbel ho2
  by_cases hlen : 12 < wd.length
  · go_wp2
    go_ret
    exact scan_bad (by decide) (HO.out.trans (if_pos (by omega))) hbel2
  · replace HO := Lib.hid (HO.out.trans (if_neg (show ¬ 12 < n by omega)))
    go_wp2
    generalize (w1.setCell ⟨w.heap.size, 0, none⟩ (.int .i64 1)).setCell ⟨w.heap.size, 1, none⟩ (.string ⟨wd.toArray⟩) = w2 at *
    clear e0 e2 f2 t0 t1 t2 t3 u0 u1 u2
    have e2 : w2.cell? ⟨b, 2, none⟩ = some tv := hb2.cell 2
    have f2 := hb2.frozen 2
    have x2 : (w2.alloc (.cells #[.int .i64 1, .string ⟨wd.toArray⟩, .int .i64 0, .int .i64 j] 32)).cell? ⟨b, 2, none⟩ = some tv := (hb2.alloc _).cell 2
    have t0 : w2.cell? ⟨w.heap.size, 0, none⟩ = some (.int .i64 1) := hT2.cell 0
    have t1 : w2.cell? ⟨w.heap.size, 1, none⟩ = some (.string ⟨wd.toArray⟩) := hT2.cell 1
    have t2 : w2.cell? ⟨w.heap.size, 2, none⟩ = some (.int .i64 0) := hT2.cell 2
    have t3 : w2.cell? ⟨w.heap.size, 3, none⟩ = some (.int .i64 j) := hT2.cell 3
    have n1 : some b ≠ tv.ownBlock := Ne.symm (own_ne hown2 hb2 (Ne.symm ht))
    have n2 : some w.heap.size ≠ tv.ownBlock := Ne.symm hlt'
    have hne2 : b ≠ w2.heap.size := by have := hb2.lt; omega
    go_region_law
      ((refine step_append_sits _ (by rfl) _ _ _ (by rfl) B 32 4 40 _ Try.underlying22 tok_info rfl (by omega) tv acc.length (tks acc) (by rfl) ((hown2.alloc _).drew) _ _ _ [.int .i64 1, .string ⟨wd.toArray⟩, .int .i64 0, .int .i64 j] (by rfl) (by rfl) (Sits.drew (Sits.new _ _ _)) (by simp [Value.oneCell']) (by simp only [maxLen]; omega) (by omega) (by simp; omega) ?_; intro v3 w3 hown3 hb3 hg3; obtain ⟨A3, c3, rfl, hc3, hc4⟩ := own_form hown3; have e3 : w3.cell? ⟨b, 2, none⟩ = some tv := hg3.cell ((hb2.alloc _).cell 2) n1; have f3 : w3.frozen? ⟨b, 2, none⟩ = false := hg3.frozenB ((hb2.alloc _)) n1 2))
    all_goals (go_wp2; go_ret; exact scan_good HO.out (scan_end (tok := ⟨1, wd, 0, j⟩) hB ht (by omega) hbel2 hb2 n1 hg3 hb3 hown3))
set_option maxRecDepth 100000 in
set_option maxHeartbeats 1600000 in
theorem scan_mode (B b : Nat) (t : TypeId) (s : List UInt8) (j : Nat) (tv : Value) (acc : List CL.Tk) (w : World) (hs : s.length ≤ 1024) (hj : j < s.length) (ht : t ≠ 32) (hB : B ≤ b) (hb : Blk w b t (cur s j [tv]))
    (hown : w.ownsRow B 32 4 tv acc.length (tks acc)) (ha : acc.length ≤ s.length) (hc0 : CL.at8 CL.ltr s[j] = false) (hc : CL.at8 CL.cap s[j] = true) :
    Calls Try.prog 18 #[.pointer (some ⟨b, 0, none⟩)] w (ScanPost B b t s j acc w) := by
  have h0 : w.cell? ⟨b, 0, none⟩ = some (.string ⟨s.toArray⟩) := hb.cell 0
  have h1 : w.cell? ⟨b, 1, none⟩ = some (.int .i64 j) := hb.cell 1
  have hlt := hb.lt
  have hne : b ≠ w.heap.size := by omega
  have hBw : B ≤ w.heap.size := by omega
  have hlt' : tv.ownBlock ≠ some w.heap.size := fun e => by have := (hown.lt _ e).2; omega
  have c0 : CL.ltr (((⟨s.toArray⟩ : ByteArray)[j]'hj).toNat : Int) = false := hc0
  have c1 : CL.cap (((⟨s.toArray⟩ : ByteArray)[j]'hj).toNat : Int) = true := hc
  have HO := Lib.hid (CL.one_mode (i := j) hj hc0 hc)
  go_enter Try.func18, Try.ntmps18
  go_wp2
  go_quiet (fail)
  go_wp2_with (first
    | (go_at_call 22; refine (letter_c _ _).mono ?_; rintro e w' ⟨rfl, rfl⟩)
    | (go_at_call 24; refine (capital_c _ _).mono ?_; rintro e w' ⟨rfl, rfl⟩))
  refine (run_capital b t s j [tv] _ (by unfold maxLen; omega) (by omega) ((hb.alloc _).drewN _)).mono ?_
  rintro e w1 ⟨rfl, hb1, ho1⟩
  have hT' : Blk w1 w.heap.size 32 #[.int .i64 0, .string ⟨#[]⟩, .int .i64 0, .int .i64 j] := Blk.only ((Blk.new w _ _).drewN _) ho1 (by omega)
  have hown1 := own_only (own_drewN (hown.alloc _) _) ho1 (own_ne hown hb (Ne.symm ht))
  have hbel : Below B w w1 := below_only (below_drewN ((Below.refl B w).alloc (by omega) _) _) ho1 hB (by simp; omega)
  have e0 : w1.cell? ⟨b, 0, none⟩ = some (.string ⟨s.toArray⟩) := hb1.cell 0
  have e2 : w1.cell? ⟨b, 2, none⟩ = some tv := hb1.cell 2
  have f2 := hb1.frozen 2
  have t0 : w1.cell? ⟨w.heap.size, 0, none⟩ = some (.int .i64 0) := hT'.cell 0
  have t1 : w1.cell? ⟨w.heap.size, 1, none⟩ = some (.string ⟨#[]⟩) := hT'.cell 1
  have t2 : w1.cell? ⟨w.heap.size, 2, none⟩ = some (.int .i64 0) := hT'.cell 2
  have t3 : w1.cell? ⟨w.heap.size, 3, none⟩ = some (.int .i64 j) := hT'.cell 3
  have u0 := hT'.frozen 0
  have u1 := hT'.frozen 1
  have u2 := hT'.frozen 2
  clear h0 h1 hb hown ho1
  have hnl := CL.spanN_le CL.cap (s.drop j)
  generalize hn : CL.spanN CL.cap (s.drop j) = n at *
  have HN := Lib.hid hn
  clear hn
  simp only [List.length_drop] at hnl
  have hwl : ((s.drop j).take n).length = n := by simp; omega
  generalize hwd : (s.drop j).take n = wd at *
  have HW := Lib.hid hwd
  clear hwd
  have hT2 := ((hT'.set 0 (.int .i64 2)).set 1 (.string ⟨wd.toArray⟩))
  have ho2 : Only w.heap.size w1 ((w1.setCell ⟨w.heap.size, 0, none⟩ (.int .i64 2)).setCell ⟨w.heap.size, 1, none⟩ (.string ⟨wd.toArray⟩)) := (Only.rf.set 0 _).set 1 _
  by_cases hp : CL.prs wd = 0
  · have hbel2 := below_only hbel ho2 hBw (Nat.le_trans hBw hbel.size)
    replace HO := Lib.hid (HO.out.trans (if_pos hp))
    have hq : (CL.prs wd != 0) = false := by simp [hp]
    clear hT' hown1 hbel ho2 hT2 hp
    go_wp2_with (go_at_call 25; refine (Parse_c wd _).mono ?_; rintro e w' ⟨rfl, rfl⟩)
    go_ret
    exact scan_bad (by decide) HO.out hbel2
  · have hT3 := hT2.set 2 (.int .i64 (CL.prs wd))
    have ho3 := ho2.set 2 (.int .i64 (CL.prs wd))
    have hb2 := hb1.only ho3 hne
    have hown2 := own_only hown1 ho3 hlt'
    have hbel2 := below_only hbel ho3 hBw (Nat.le_trans hBw hbel.size)
    replace HO := Lib.hid (HO.out.trans (if_neg hp))
    have hq : (CL.prs wd != 0) = true := by simpa using hp
    have s2 : w.heap.size < w1.heap.size := hT'.lt
    have s3 := hT3.lt
    clear hT' hown1 hbel ho2 ho3 hT2 hp
    go_wp2_with (go_at_call 25; refine (Parse_c wd _).mono ?_; rintro e w' ⟨rfl, rfl⟩)
    generalize ((w1.setCell ⟨w.heap.size, 0, none⟩ (.int .i64 2)).setCell ⟨w.heap.size, 1, none⟩ (.string ⟨wd.toArray⟩)).setCell ⟨w.heap.size, 2, none⟩ (.int .i64 (CL.prs wd)) = w2 at *
    clear e0 e2 f2 t0 t1 t2 t3 u0 u1 u2
    have hT2 := hT3
    have e2 : w2.cell? ⟨b, 2, none⟩ = some tv := hb2.cell 2
    have f2 := hb2.frozen 2
    have x2 : (w2.alloc (.cells #[.int .i64 2, .string ⟨wd.toArray⟩, .int .i64 (CL.prs wd), .int .i64 j] 32)).cell? ⟨b, 2, none⟩ = some tv := (hb2.alloc _).cell 2
    have t0 : w2.cell? ⟨w.heap.size, 0, none⟩ = some (.int .i64 2) := hT2.cell 0
    have t1 : w2.cell? ⟨w.heap.size, 1, none⟩ = some (.string ⟨wd.toArray⟩) := hT2.cell 1
    have t2 : w2.cell? ⟨w.heap.size, 2, none⟩ = some (.int .i64 (CL.prs wd)) := hT2.cell 2
    have t3 : w2.cell? ⟨w.heap.size, 3, none⟩ = some (.int .i64 j) := hT2.cell 3
    have n1 : some b ≠ tv.ownBlock := Ne.symm (own_ne hown2 hb2 (Ne.symm ht))
    have n2 : some w.heap.size ≠ tv.ownBlock := Ne.symm hlt'
    have hne2 : b ≠ w2.heap.size := by have := hb2.lt; omega
    go_region_law
      ((refine step_append_sits _ (by rfl) _ _ _ (by rfl) B 32 4 40 _ Try.underlying22 tok_info rfl (by omega) tv acc.length (tks acc) (by rfl) ((hown2.alloc _).drew) _ _ _ [.int .i64 2, .string ⟨wd.toArray⟩, .int .i64 (CL.prs wd), .int .i64 j] (by rfl) (by rfl) (Sits.drew (Sits.new _ _ _)) (by simp [Value.oneCell']) (by simp only [maxLen]; omega) (by omega) (by simp; omega) ?_; intro v3 w3 hown3 hb3 hg3; obtain ⟨A3, c3, rfl, hc3, hc4⟩ := own_form hown3; have e3 : w3.cell? ⟨b, 2, none⟩ = some tv := hg3.cell ((hb2.alloc _).cell 2) n1; have f3 : w3.frozen? ⟨b, 2, none⟩ = false := hg3.frozenB ((hb2.alloc _)) n1 2))
    all_goals (go_wp2; go_ret; exact scan_good HO.out (scan_end (tok := ⟨2, wd, (CL.prs wd), j⟩) hB ht (by omega) hbel2 hb2 n1 hg3 hb3 hown3))
end Go.Proofs.Ytklpfhkcbhkofaa
