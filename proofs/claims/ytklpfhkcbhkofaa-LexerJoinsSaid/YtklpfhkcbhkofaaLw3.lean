
/- The walks of the lexer, third part: punctuation, numbers, and scan as a whole. -/
import Derived.Test.YtklpfhkcbhkofaaLw2
import Derived.Laws.DeepStrings4
namespace Go.Proofs.Ytklpfhkcbhkofaa
open Go.RowKit
theorem slice_one {P : Program} (t : TypeId) (ht : P.underlying t = some .string) (s : List UInt8) (j : Nat) (hj : j < s.length) (W : World) :
    (Instr.slice t (.string ⟨s.toArray⟩) (some (.int .i64 (j : Int))) (some (.int .i64 ((j : Int) + 1))) none).run P W = .ok (.string ⟨#[s[j]]⟩) W := by
  have hz : ((⟨s.toArray⟩ : ByteArray).size : Int) = (s.length : Int) := by simp [ByteArray.size]
  rw [run_slice_string_if (P := P) (h := ht), if_pos (by rw [hz]; omega), if_pos (by omega), bytes_extract]
  have e : (s.drop (j : Int).toNat).take (((j : Int) + 1).toNat - (j : Int).toNat) = [s[j]] := by
    rw [show ((j : Int) + 1).toNat - (j : Int).toNat = 1 by omega, show (j : Int).toNat = j by omega, List.drop_eq_getElem_cons hj]; rfl
  rw [e]
set_option maxRecDepth 100000 in
set_option maxHeartbeats 1600000 in
theorem scan_pun0 (B b : Nat) (t : TypeId) (s : List UInt8) (j : Nat) (tv : Value) (acc : List CL.Tk) (w : World) (hs : s.length ≤ 1024) (hj : j < s.length) (ht : t ≠ 32) (hB : B ≤ b) (hb : Blk w b t (cur s j [tv]))
    (hown : w.ownsRow B 32 4 tv acc.length (tks acc)) (ha : acc.length ≤ s.length) (hc0 : CL.at8 CL.ltr s[j] = false) (hc1 : CL.at8 CL.cap s[j] = false) (hc2 : CL.at8 CL.dig s[j] = false) (hp : CL.at8 CL.pun s[j] = true)
    (hq : ((s[j].toNat : Int) == 40) = true ∧ ((s[j].toNat : Int) == 41) = false ∧ ((s[j].toNat : Int) == 44) = false ∧ ((s[j].toNat : Int) == 58) = false ∧ ((s[j].toNat : Int) == 42) = false) :
    Calls Try.prog 18 #[.pointer (some ⟨b, 0, none⟩)] w (ScanPost B b t s j acc w) := by
  have h0 : w.cell? ⟨b, 0, none⟩ = some (.string ⟨s.toArray⟩) := hb.cell 0
  have h1 : w.cell? ⟨b, 1, none⟩ = some (.int .i64 j) := hb.cell 1
  have hlt := hb.lt
  have hne : b ≠ w.heap.size := by omega
  have hBw : B ≤ w.heap.size := by omega
  have hlt' : tv.ownBlock ≠ some w.heap.size := fun e => by have := (hown.lt _ e).2; omega
  have c0 : CL.ltr (((⟨s.toArray⟩ : ByteArray)[j]'hj).toNat : Int) = false := hc0
  have c1 : CL.cap (((⟨s.toArray⟩ : ByteArray)[j]'hj).toNat : Int) = false := hc1
  have c2 : CL.dig (((⟨s.toArray⟩ : ByteArray)[j]'hj).toNat : Int) = false := hc2
  have d1 : ((((⟨s.toArray⟩ : ByteArray)[j]'hj).toNat : Int) == 40) = true := hq.1
  have d2 : ((((⟨s.toArray⟩ : ByteArray)[j]'hj).toNat : Int) == 41) = false := hq.2.1
  have d3 : ((((⟨s.toArray⟩ : ByteArray)[j]'hj).toNat : Int) == 44) = false := hq.2.2.1
  have d4 : ((((⟨s.toArray⟩ : ByteArray)[j]'hj).toNat : Int) == 58) = false := hq.2.2.2.1
  have d5 : ((((⟨s.toArray⟩ : ByteArray)[j]'hj).toNat : Int) == 42) = false := hq.2.2.2.2
  have HO := Lib.hid ((CL.one_pun (i := j) hj hc0 hc1 hc2).trans (if_pos hp))
  clear hq hp
  have f1 := hb.frozen 1
  have g1 : IntKind.i64.wrap ((j : Int) + 1) = (j : Int) + 1 := IntWalk.i64_in _ (by omega)
  have g2 : 0 ≤ (j : Int) + 1 := by omega
  have g3 : ((j : Int) + 1).toNat = j + 1 := by omega
  have g4 : (j : Int) + 1 ≤ (s.length : Int) := by omega
  have g5 : j + 1 ≤ s.length := by omega
  have hsl := slice_one (P := Try.prog) 9 Try.underlying9 s j hj
  go_enter Try.func18, Try.ntmps18
  go_wp2
  go_quiet (fail)
  have hb1 := (hb.alloc (.cells #[.int .i64 0, .string ⟨#[]⟩, .int .i64 0, .int .i64 j] 32)).drewN nq
  have hT' := (Blk.new w 32 #[.int .i64 0, .string ⟨#[]⟩, .int .i64 0, .int .i64 j]).drewN nq
  have hown1 := own_drewN (hown.alloc (.cells #[.int .i64 0, .string ⟨#[]⟩, .int .i64 0, .int .i64 j] 32)) nq
  have hbel := below_drewN ((Below.refl B w).alloc (by omega) (.cells #[.int .i64 0, .string ⟨#[]⟩, .int .i64 0, .int .i64 j] 32)) nq
  clear h0 h1 f1 hb hown
  generalize (w.alloc (.cells #[.int .i64 0, .string ⟨#[]⟩, .int .i64 0, .int .i64 j] 32)).drewN nq = w1 at *
  have e0 : w1.cell? ⟨b, 0, none⟩ = some (.string ⟨s.toArray⟩) := hb1.cell 0
  have e1 : w1.cell? ⟨b, 1, none⟩ = some (.int .i64 j) := hb1.cell 1
  have f1 := hb1.frozen 1
  have t0 : w1.cell? ⟨w.heap.size, 0, none⟩ = some (.int .i64 0) := hT'.cell 0
  have t1 : w1.cell? ⟨w.heap.size, 1, none⟩ = some (.string ⟨#[]⟩) := hT'.cell 1
  have u0 := hT'.frozen 0
  have u1 := hT'.frozen 1
  have s2 : w.heap.size < w1.heap.size := hT'.lt
  go_wp2_with (first
    | (go_at_call 22; refine (letter_c _ _).mono ?_; rintro e w' ⟨rfl, rfl⟩)
    | (go_at_call 26; refine (digit_c _ _).mono ?_; rintro e w' ⟨rfl, rfl⟩)
    | (go_at_call 24; refine (capital_c _ _).mono ?_; rintro e w' ⟨rfl, rfl⟩))
  go_region
  clear g1 g2 g3 g4 g5 hsl
  go_wp2
  have ho2 : Only w.heap.size w1 ((w1.setCell ⟨w.heap.size, 0, none⟩ (.int .i64 4)).setCell ⟨w.heap.size, 1, none⟩ (.string ⟨#[s[j]]⟩)) := (Only.rf.set 0 _).set 1 _
  have hb2' := hb1.only ho2 hne
  have hT2' := (hT'.set 0 (.int .i64 4)).set 1 (.string ⟨#[s[j]]⟩)
  have hown2' := own_only hown1 ho2 hlt'
  have hbel2' := below_only hbel ho2 hBw (Nat.le_trans hBw hbel.size)
  have ho3 : Only b ((w1.setCell ⟨w.heap.size, 0, none⟩ (.int .i64 4)).setCell ⟨w.heap.size, 1, none⟩ (.string ⟨#[s[j]]⟩)) (((w1.setCell ⟨w.heap.size, 0, none⟩ (.int .i64 4)).setCell ⟨w.heap.size, 1, none⟩ (.string ⟨#[s[j]]⟩)).setCell ⟨b, 1, none⟩ (.int .i64 ((j : Int) + 1))) := Only.rf.set 1 _
  have hb2 : Blk (((w1.setCell ⟨w.heap.size, 0, none⟩ (.int .i64 4)).setCell ⟨w.heap.size, 1, none⟩ (.string ⟨#[s[j]]⟩)).setCell ⟨b, 1, none⟩ (.int .i64 ((j : Int) + 1))).drew b t (cur s (j + 1) [tv]) := cur_set ▸ hb2'.set 1 (.int .i64 ((j : Int) + 1))
  have hT2 : Blk (((w1.setCell ⟨w.heap.size, 0, none⟩ (.int .i64 4)).setCell ⟨w.heap.size, 1, none⟩ (.string ⟨#[s[j]]⟩)).setCell ⟨b, 1, none⟩ (.int .i64 ((j : Int) + 1))).drew w.heap.size 32 _ := hT2'.only (Only.drew ho3) (Ne.symm hne)
  have hown2 := (own_only hown2' ho3 (own_ne hown2' hb2' (Ne.symm ht))).drew
  have hbel2 := (below_only hbel2' ho3 hB (Nat.le_trans hBw hbel2'.size)).drew
  have s3 := hT2.lt
  clear hb2' hT2' hown2' hbel2' ho2 ho3 hb1 hT' hown1 hbel e0 e1 f1 t0 t1 u0 u1
  generalize (((w1.setCell ⟨w.heap.size, 0, none⟩ (.int .i64 4)).setCell ⟨w.heap.size, 1, none⟩ (.string ⟨#[s[j]]⟩)).setCell ⟨b, 1, none⟩ (.int .i64 ((j : Int) + 1))).drew = w2 at *
  have e2 : w2.cell? ⟨b, 2, none⟩ = some tv := hb2.cell 2
  have f2 := hb2.frozen 2
  have x2 : (w2.alloc (.cells #[.int .i64 4, .string ⟨#[s[j]]⟩, .int .i64 0, .int .i64 j] 32)).cell? ⟨b, 2, none⟩ = some tv := (hb2.alloc _).cell 2
  have t0 : w2.cell? ⟨w.heap.size, 0, none⟩ = some (.int .i64 4) := hT2.cell 0
  have t1 : w2.cell? ⟨w.heap.size, 1, none⟩ = some (.string ⟨#[s[j]]⟩) := hT2.cell 1
  have t2 : w2.cell? ⟨w.heap.size, 2, none⟩ = some (.int .i64 0) := hT2.cell 2
  have t3 : w2.cell? ⟨w.heap.size, 3, none⟩ = some (.int .i64 j) := hT2.cell 3
  have n1 : some b ≠ tv.ownBlock := Ne.symm (own_ne hown2 hb2 (Ne.symm ht))
  have n2 : some w.heap.size ≠ tv.ownBlock := Ne.symm hlt'
  have hne2 : b ≠ w2.heap.size := by have := hb2.lt; omega
  go_region_law
    ((refine step_append_sits _ (by rfl) _ _ _ (by rfl) B 32 4 40 _ Try.underlying22 tok_info rfl (by omega) tv acc.length (tks acc) (by rfl) ((hown2.alloc _).drew) _ _ _ [.int .i64 4, .string ⟨#[s[j]]⟩, .int .i64 0, .int .i64 j] (by rfl) (by rfl) (Sits.drew (Sits.new _ _ _)) (by simp [Value.oneCell']) (by simp only [maxLen]; omega) (by omega) (by simp; omega) ?_; intro v3 w3 hown3 hb3 hg3; obtain ⟨A3, c3, rfl, hc3, hc4⟩ := own_form hown3; have e3 : w3.cell? ⟨b, 2, none⟩ = some tv := hg3.cell ((hb2.alloc _).cell 2) n1; have f3 : w3.frozen? ⟨b, 2, none⟩ = false := hg3.frozenB ((hb2.alloc _)) n1 2))
  all_goals (go_wp2; go_ret; exact scan_good HO.out (scan_end (tok := ⟨4, [s[j]], 0, j⟩) hB ht (by omega) hbel2 hb2 n1 hg3 hb3 hown3))
set_option maxRecDepth 100000 in
set_option maxHeartbeats 1600000 in
theorem scan_pun1 (B b : Nat) (t : TypeId) (s : List UInt8) (j : Nat) (tv : Value) (acc : List CL.Tk) (w : World) (hs : s.length ≤ 1024) (hj : j < s.length) (ht : t ≠ 32) (hB : B ≤ b) (hb : Blk w b t (cur s j [tv]))
    (hown : w.ownsRow B 32 4 tv acc.length (tks acc)) (ha : acc.length ≤ s.length) (hc0 : CL.at8 CL.ltr s[j] = false) (hc1 : CL.at8 CL.cap s[j] = false) (hc2 : CL.at8 CL.dig s[j] = false) (hp : CL.at8 CL.pun s[j] = true)
    (hq : ((s[j].toNat : Int) == 40) = false ∧ ((s[j].toNat : Int) == 41) = true ∧ ((s[j].toNat : Int) == 44) = false ∧ ((s[j].toNat : Int) == 58) = false ∧ ((s[j].toNat : Int) == 42) = false) :
    Calls Try.prog 18 #[.pointer (some ⟨b, 0, none⟩)] w (ScanPost B b t s j acc w) := by
  have h0 : w.cell? ⟨b, 0, none⟩ = some (.string ⟨s.toArray⟩) := hb.cell 0
  have h1 : w.cell? ⟨b, 1, none⟩ = some (.int .i64 j) := hb.cell 1
  have hlt := hb.lt
  have hne : b ≠ w.heap.size := by omega
  have hBw : B ≤ w.heap.size := by omega
  have hlt' : tv.ownBlock ≠ some w.heap.size := fun e => by have := (hown.lt _ e).2; omega
  have c0 : CL.ltr (((⟨s.toArray⟩ : ByteArray)[j]'hj).toNat : Int) = false := hc0
  have c1 : CL.cap (((⟨s.toArray⟩ : ByteArray)[j]'hj).toNat : Int) = false := hc1
  have c2 : CL.dig (((⟨s.toArray⟩ : ByteArray)[j]'hj).toNat : Int) = false := hc2
  have d1 : ((((⟨s.toArray⟩ : ByteArray)[j]'hj).toNat : Int) == 40) = false := hq.1
  have d2 : ((((⟨s.toArray⟩ : ByteArray)[j]'hj).toNat : Int) == 41) = true := hq.2.1
  have d3 : ((((⟨s.toArray⟩ : ByteArray)[j]'hj).toNat : Int) == 44) = false := hq.2.2.1
  have d4 : ((((⟨s.toArray⟩ : ByteArray)[j]'hj).toNat : Int) == 58) = false := hq.2.2.2.1
  have d5 : ((((⟨s.toArray⟩ : ByteArray)[j]'hj).toNat : Int) == 42) = false := hq.2.2.2.2
  have HO := Lib.hid ((CL.one_pun (i := j) hj hc0 hc1 hc2).trans (if_pos hp))
  clear hq hp
  have f1 := hb.frozen 1
  have g1 : IntKind.i64.wrap ((j : Int) + 1) = (j : Int) + 1 := IntWalk.i64_in _ (by omega)
  have g2 : 0 ≤ (j : Int) + 1 := by omega
  have g3 : ((j : Int) + 1).toNat = j + 1 := by omega
  have g4 : (j : Int) + 1 ≤ (s.length : Int) := by omega
  have g5 : j + 1 ≤ s.length := by omega
  have hsl := slice_one (P := Try.prog) 9 Try.underlying9 s j hj
  go_enter Try.func18, Try.ntmps18
  go_wp2
  go_quiet (fail)
  have hb1 := (hb.alloc (.cells #[.int .i64 0, .string ⟨#[]⟩, .int .i64 0, .int .i64 j] 32)).drewN nq
  have hT' := (Blk.new w 32 #[.int .i64 0, .string ⟨#[]⟩, .int .i64 0, .int .i64 j]).drewN nq
  have hown1 := own_drewN (hown.alloc (.cells #[.int .i64 0, .string ⟨#[]⟩, .int .i64 0, .int .i64 j] 32)) nq
  have hbel := below_drewN ((Below.refl B w).alloc (by omega) (.cells #[.int .i64 0, .string ⟨#[]⟩, .int .i64 0, .int .i64 j] 32)) nq
  clear h0 h1 f1 hb hown
  generalize (w.alloc (.cells #[.int .i64 0, .string ⟨#[]⟩, .int .i64 0, .int .i64 j] 32)).drewN nq = w1 at *
  have e0 : w1.cell? ⟨b, 0, none⟩ = some (.string ⟨s.toArray⟩) := hb1.cell 0
  have e1 : w1.cell? ⟨b, 1, none⟩ = some (.int .i64 j) := hb1.cell 1
  have f1 := hb1.frozen 1
  have t0 : w1.cell? ⟨w.heap.size, 0, none⟩ = some (.int .i64 0) := hT'.cell 0
  have t1 : w1.cell? ⟨w.heap.size, 1, none⟩ = some (.string ⟨#[]⟩) := hT'.cell 1
  have u0 := hT'.frozen 0
  have u1 := hT'.frozen 1
  have s2 : w.heap.size < w1.heap.size := hT'.lt
  go_wp2_with (first
    | (go_at_call 22; refine (letter_c _ _).mono ?_; rintro e w' ⟨rfl, rfl⟩)
    | (go_at_call 26; refine (digit_c _ _).mono ?_; rintro e w' ⟨rfl, rfl⟩)
    | (go_at_call 24; refine (capital_c _ _).mono ?_; rintro e w' ⟨rfl, rfl⟩))
  go_region
  clear g1 g2 g3 g4 g5 hsl
  go_wp2
  have ho2 : Only w.heap.size w1 ((w1.setCell ⟨w.heap.size, 0, none⟩ (.int .i64 4)).setCell ⟨w.heap.size, 1, none⟩ (.string ⟨#[s[j]]⟩)) := (Only.rf.set 0 _).set 1 _
  have hb2' := hb1.only ho2 hne
  have hT2' := (hT'.set 0 (.int .i64 4)).set 1 (.string ⟨#[s[j]]⟩)
  have hown2' := own_only hown1 ho2 hlt'
  have hbel2' := below_only hbel ho2 hBw (Nat.le_trans hBw hbel.size)
  have ho3 : Only b ((w1.setCell ⟨w.heap.size, 0, none⟩ (.int .i64 4)).setCell ⟨w.heap.size, 1, none⟩ (.string ⟨#[s[j]]⟩)) (((w1.setCell ⟨w.heap.size, 0, none⟩ (.int .i64 4)).setCell ⟨w.heap.size, 1, none⟩ (.string ⟨#[s[j]]⟩)).setCell ⟨b, 1, none⟩ (.int .i64 ((j : Int) + 1))) := Only.rf.set 1 _
  have hb2 : Blk (((w1.setCell ⟨w.heap.size, 0, none⟩ (.int .i64 4)).setCell ⟨w.heap.size, 1, none⟩ (.string ⟨#[s[j]]⟩)).setCell ⟨b, 1, none⟩ (.int .i64 ((j : Int) + 1))).drew b t (cur s (j + 1) [tv]) := cur_set ▸ hb2'.set 1 (.int .i64 ((j : Int) + 1))
  have hT2 : Blk (((w1.setCell ⟨w.heap.size, 0, none⟩ (.int .i64 4)).setCell ⟨w.heap.size, 1, none⟩ (.string ⟨#[s[j]]⟩)).setCell ⟨b, 1, none⟩ (.int .i64 ((j : Int) + 1))).drew w.heap.size 32 _ := hT2'.only (Only.drew ho3) (Ne.symm hne)
  have hown2 := (own_only hown2' ho3 (own_ne hown2' hb2' (Ne.symm ht))).drew
  have hbel2 := (below_only hbel2' ho3 hB (Nat.le_trans hBw hbel2'.size)).drew
  have s3 := hT2.lt
  clear hb2' hT2' hown2' hbel2' ho2 ho3 hb1 hT' hown1 hbel e0 e1 f1 t0 t1 u0 u1
  generalize (((w1.setCell ⟨w.heap.size, 0, none⟩ (.int .i64 4)).setCell ⟨w.heap.size, 1, none⟩ (.string ⟨#[s[j]]⟩)).setCell ⟨b, 1, none⟩ (.int .i64 ((j : Int) + 1))).drew = w2 at *
  have e2 : w2.cell? ⟨b, 2, none⟩ = some tv := hb2.cell 2
  have f2 := hb2.frozen 2
  have x2 : (w2.alloc (.cells #[.int .i64 4, .string ⟨#[s[j]]⟩, .int .i64 0, .int .i64 j] 32)).cell? ⟨b, 2, none⟩ = some tv := (hb2.alloc _).cell 2
  have t0 : w2.cell? ⟨w.heap.size, 0, none⟩ = some (.int .i64 4) := hT2.cell 0
  have t1 : w2.cell? ⟨w.heap.size, 1, none⟩ = some (.string ⟨#[s[j]]⟩) := hT2.cell 1
  have t2 : w2.cell? ⟨w.heap.size, 2, none⟩ = some (.int .i64 0) := hT2.cell 2
  have t3 : w2.cell? ⟨w.heap.size, 3, none⟩ = some (.int .i64 j) := hT2.cell 3
  have n1 : some b ≠ tv.ownBlock := Ne.symm (own_ne hown2 hb2 (Ne.symm ht))
  have n2 : some w.heap.size ≠ tv.ownBlock := Ne.symm hlt'
  have hne2 : b ≠ w2.heap.size := by have := hb2.lt; omega
  go_region_law
    ((refine step_append_sits _ (by rfl) _ _ _ (by rfl) B 32 4 40 _ Try.underlying22 tok_info rfl (by omega) tv acc.length (tks acc) (by rfl) ((hown2.alloc _).drew) _ _ _ [.int .i64 4, .string ⟨#[s[j]]⟩, .int .i64 0, .int .i64 j] (by rfl) (by rfl) (Sits.drew (Sits.new _ _ _)) (by simp [Value.oneCell']) (by simp only [maxLen]; omega) (by omega) (by simp; omega) ?_; intro v3 w3 hown3 hb3 hg3; obtain ⟨A3, c3, rfl, hc3, hc4⟩ := own_form hown3; have e3 : w3.cell? ⟨b, 2, none⟩ = some tv := hg3.cell ((hb2.alloc _).cell 2) n1; have f3 : w3.frozen? ⟨b, 2, none⟩ = false := hg3.frozenB ((hb2.alloc _)) n1 2))
  all_goals (go_wp2; go_ret; exact scan_good HO.out (scan_end (tok := ⟨4, [s[j]], 0, j⟩) hB ht (by omega) hbel2 hb2 n1 hg3 hb3 hown3))
set_option maxRecDepth 100000 in
set_option maxHeartbeats 1600000 in
theorem scan_pun2 (B b : Nat) (t : TypeId) (s : List UInt8) (j : Nat) (tv : Value) (acc : List CL.Tk) (w : World) (hs : s.length ≤ 1024) (hj : j < s.length) (ht : t ≠ 32) (hB : B ≤ b) (hb : Blk w b t (cur s j [tv]))
    (hown : w.ownsRow B 32 4 tv acc.length (tks acc)) (ha : acc.length ≤ s.length) (hc0 : CL.at8 CL.ltr s[j] = false) (hc1 : CL.at8 CL.cap s[j] = false) (hc2 : CL.at8 CL.dig s[j] = false) (hp : CL.at8 CL.pun s[j] = true)
    (hq : ((s[j].toNat : Int) == 40) = false ∧ ((s[j].toNat : Int) == 41) = false ∧ ((s[j].toNat : Int) == 44) = true ∧ ((s[j].toNat : Int) == 58) = false ∧ ((s[j].toNat : Int) == 42) = false) :
    Calls Try.prog 18 #[.pointer (some ⟨b, 0, none⟩)] w (ScanPost B b t s j acc w) := by
  have h0 : w.cell? ⟨b, 0, none⟩ = some (.string ⟨s.toArray⟩) := hb.cell 0
  have h1 : w.cell? ⟨b, 1, none⟩ = some (.int .i64 j) := hb.cell 1
  have hlt := hb.lt
  have hne : b ≠ w.heap.size := by omega
  have hBw : B ≤ w.heap.size := by omega
  have hlt' : tv.ownBlock ≠ some w.heap.size := fun e => by have := (hown.lt _ e).2; omega
  have c0 : CL.ltr (((⟨s.toArray⟩ : ByteArray)[j]'hj).toNat : Int) = false := hc0
  have c1 : CL.cap (((⟨s.toArray⟩ : ByteArray)[j]'hj).toNat : Int) = false := hc1
  have c2 : CL.dig (((⟨s.toArray⟩ : ByteArray)[j]'hj).toNat : Int) = false := hc2
  have d1 : ((((⟨s.toArray⟩ : ByteArray)[j]'hj).toNat : Int) == 40) = false := hq.1
  have d2 : ((((⟨s.toArray⟩ : ByteArray)[j]'hj).toNat : Int) == 41) = false := hq.2.1
  have d3 : ((((⟨s.toArray⟩ : ByteArray)[j]'hj).toNat : Int) == 44) = true := hq.2.2.1
  have d4 : ((((⟨s.toArray⟩ : ByteArray)[j]'hj).toNat : Int) == 58) = false := hq.2.2.2.1
  have d5 : ((((⟨s.toArray⟩ : ByteArray)[j]'hj).toNat : Int) == 42) = false := hq.2.2.2.2
  have HO := Lib.hid ((CL.one_pun (i := j) hj hc0 hc1 hc2).trans (if_pos hp))
  clear hq hp
  have f1 := hb.frozen 1
  have g1 : IntKind.i64.wrap ((j : Int) + 1) = (j : Int) + 1 := IntWalk.i64_in _ (by omega)
  have g2 : 0 ≤ (j : Int) + 1 := by omega
  have g3 : ((j : Int) + 1).toNat = j + 1 := by omega
  have g4 : (j : Int) + 1 ≤ (s.length : Int) := by omega
  have g5 : j + 1 ≤ s.length := by omega
  have hsl := slice_one (P := Try.prog) 9 Try.underlying9 s j hj
  go_enter Try.func18, Try.ntmps18
  go_wp2
  go_quiet (fail)
  have hb1 := (hb.alloc (.cells #[.int .i64 0, .string ⟨#[]⟩, .int .i64 0, .int .i64 j] 32)).drewN nq
  have hT' := (Blk.new w 32 #[.int .i64 0, .string ⟨#[]⟩, .int .i64 0, .int .i64 j]).drewN nq
  have hown1 := own_drewN (hown.alloc (.cells #[.int .i64 0, .string ⟨#[]⟩, .int .i64 0, .int .i64 j] 32)) nq
  have hbel := below_drewN ((Below.refl B w).alloc (by omega) (.cells #[.int .i64 0, .string ⟨#[]⟩, .int .i64 0, .int .i64 j] 32)) nq
  clear h0 h1 f1 hb hown
  generalize (w.alloc (.cells #[.int .i64 0, .string ⟨#[]⟩, .int .i64 0, .int .i64 j] 32)).drewN nq = w1 at *
  have e0 : w1.cell? ⟨b, 0, none⟩ = some (.string ⟨s.toArray⟩) := hb1.cell 0
  have e1 : w1.cell? ⟨b, 1, none⟩ = some (.int .i64 j) := hb1.cell 1
  have f1 := hb1.frozen 1
  have t0 : w1.cell? ⟨w.heap.size, 0, none⟩ = some (.int .i64 0) := hT'.cell 0
  have t1 : w1.cell? ⟨w.heap.size, 1, none⟩ = some (.string ⟨#[]⟩) := hT'.cell 1
  have u0 := hT'.frozen 0
  have u1 := hT'.frozen 1
  have s2 : w.heap.size < w1.heap.size := hT'.lt
  go_wp2_with (first
    | (go_at_call 22; refine (letter_c _ _).mono ?_; rintro e w' ⟨rfl, rfl⟩)
    | (go_at_call 26; refine (digit_c _ _).mono ?_; rintro e w' ⟨rfl, rfl⟩)
    | (go_at_call 24; refine (capital_c _ _).mono ?_; rintro e w' ⟨rfl, rfl⟩))
  go_region
  clear g1 g2 g3 g4 g5 hsl
  go_wp2
  have ho2 : Only w.heap.size w1 ((w1.setCell ⟨w.heap.size, 0, none⟩ (.int .i64 4)).setCell ⟨w.heap.size, 1, none⟩ (.string ⟨#[s[j]]⟩)) := (Only.rf.set 0 _).set 1 _
  have hb2' := hb1.only ho2 hne
  have hT2' := (hT'.set 0 (.int .i64 4)).set 1 (.string ⟨#[s[j]]⟩)
  have hown2' := own_only hown1 ho2 hlt'
  have hbel2' := below_only hbel ho2 hBw (Nat.le_trans hBw hbel.size)
  have ho3 : Only b ((w1.setCell ⟨w.heap.size, 0, none⟩ (.int .i64 4)).setCell ⟨w.heap.size, 1, none⟩ (.string ⟨#[s[j]]⟩)) (((w1.setCell ⟨w.heap.size, 0, none⟩ (.int .i64 4)).setCell ⟨w.heap.size, 1, none⟩ (.string ⟨#[s[j]]⟩)).setCell ⟨b, 1, none⟩ (.int .i64 ((j : Int) + 1))) := Only.rf.set 1 _
  have hb2 : Blk (((w1.setCell ⟨w.heap.size, 0, none⟩ (.int .i64 4)).setCell ⟨w.heap.size, 1, none⟩ (.string ⟨#[s[j]]⟩)).setCell ⟨b, 1, none⟩ (.int .i64 ((j : Int) + 1))).drew b t (cur s (j + 1) [tv]) := cur_set ▸ hb2'.set 1 (.int .i64 ((j : Int) + 1))
  have hT2 : Blk (((w1.setCell ⟨w.heap.size, 0, none⟩ (.int .i64 4)).setCell ⟨w.heap.size, 1, none⟩ (.string ⟨#[s[j]]⟩)).setCell ⟨b, 1, none⟩ (.int .i64 ((j : Int) + 1))).drew w.heap.size 32 _ := hT2'.only (Only.drew ho3) (Ne.symm hne)
  have hown2 := (own_only hown2' ho3 (own_ne hown2' hb2' (Ne.symm ht))).drew
  have hbel2 := (below_only hbel2' ho3 hB (Nat.le_trans hBw hbel2'.size)).drew
  have s3 := hT2.lt
  clear hb2' hT2' hown2' hbel2' ho2 ho3 hb1 hT' hown1 hbel e0 e1 f1 t0 t1 u0 u1
  generalize (((w1.setCell ⟨w.heap.size, 0, none⟩ (.int .i64 4)).setCell ⟨w.heap.size, 1, none⟩ (.string ⟨#[s[j]]⟩)).setCell ⟨b, 1, none⟩ (.int .i64 ((j : Int) + 1))).drew = w2 at *
  have e2 : w2.cell? ⟨b, 2, none⟩ = some tv := hb2.cell 2
  have f2 := hb2.frozen 2
  have x2 : (w2.alloc (.cells #[.int .i64 4, .string ⟨#[s[j]]⟩, .int .i64 0, .int .i64 j] 32)).cell? ⟨b, 2, none⟩ = some tv := (hb2.alloc _).cell 2
  have t0 : w2.cell? ⟨w.heap.size, 0, none⟩ = some (.int .i64 4) := hT2.cell 0
  have t1 : w2.cell? ⟨w.heap.size, 1, none⟩ = some (.string ⟨#[s[j]]⟩) := hT2.cell 1
  have t2 : w2.cell? ⟨w.heap.size, 2, none⟩ = some (.int .i64 0) := hT2.cell 2
  have t3 : w2.cell? ⟨w.heap.size, 3, none⟩ = some (.int .i64 j) := hT2.cell 3
  have n1 : some b ≠ tv.ownBlock := Ne.symm (own_ne hown2 hb2 (Ne.symm ht))
  have n2 : some w.heap.size ≠ tv.ownBlock := Ne.symm hlt'
  have hne2 : b ≠ w2.heap.size := by have := hb2.lt; omega
  go_region_law
    ((refine step_append_sits _ (by rfl) _ _ _ (by rfl) B 32 4 40 _ Try.underlying22 tok_info rfl (by omega) tv acc.length (tks acc) (by rfl) ((hown2.alloc _).drew) _ _ _ [.int .i64 4, .string ⟨#[s[j]]⟩, .int .i64 0, .int .i64 j] (by rfl) (by rfl) (Sits.drew (Sits.new _ _ _)) (by simp [Value.oneCell']) (by simp only [maxLen]; omega) (by omega) (by simp; omega) ?_; intro v3 w3 hown3 hb3 hg3; obtain ⟨A3, c3, rfl, hc3, hc4⟩ := own_form hown3; have e3 : w3.cell? ⟨b, 2, none⟩ = some tv := hg3.cell ((hb2.alloc _).cell 2) n1; have f3 : w3.frozen? ⟨b, 2, none⟩ = false := hg3.frozenB ((hb2.alloc _)) n1 2))
  all_goals (go_wp2; go_ret; exact scan_good HO.out (scan_end (tok := ⟨4, [s[j]], 0, j⟩) hB ht (by omega) hbel2 hb2 n1 hg3 hb3 hown3))
set_option maxRecDepth 100000 in
set_option maxHeartbeats 1600000 in
theorem scan_pun3 (B b : Nat) (t : TypeId) (s : List UInt8) (j : Nat) (tv : Value) (acc : List CL.Tk) (w : World) (hs : s.length ≤ 1024) (hj : j < s.length) (ht : t ≠ 32) (hB : B ≤ b) (hb : Blk w b t (cur s j [tv]))
    (hown : w.ownsRow B 32 4 tv acc.length (tks acc)) (ha : acc.length ≤ s.length) (hc0 : CL.at8 CL.ltr s[j] = false) (hc1 : CL.at8 CL.cap s[j] = false) (hc2 : CL.at8 CL.dig s[j] = false) (hp : CL.at8 CL.pun s[j] = true)
    (hq : ((s[j].toNat : Int) == 40) = false ∧ ((s[j].toNat : Int) == 41) = false ∧ ((s[j].toNat : Int) == 44) = false ∧ ((s[j].toNat : Int) == 58) = true ∧ ((s[j].toNat : Int) == 42) = false) :
    Calls Try.prog 18 #[.pointer (some ⟨b, 0, none⟩)] w (ScanPost B b t s j acc w) := by
  have h0 : w.cell? ⟨b, 0, none⟩ = some (.string ⟨s.toArray⟩) := hb.cell 0
  have h1 : w.cell? ⟨b, 1, none⟩ = some (.int .i64 j) := hb.cell 1
  have hlt := hb.lt
  have hne : b ≠ w.heap.size := by omega
  have hBw : B ≤ w.heap.size := by omega
  have hlt' : tv.ownBlock ≠ some w.heap.size := fun e => by have := (hown.lt _ e).2; omega
  have c0 : CL.ltr (((⟨s.toArray⟩ : ByteArray)[j]'hj).toNat : Int) = false := hc0
  have c1 : CL.cap (((⟨s.toArray⟩ : ByteArray)[j]'hj).toNat : Int) = false := hc1
  have c2 : CL.dig (((⟨s.toArray⟩ : ByteArray)[j]'hj).toNat : Int) = false := hc2
  have d1 : ((((⟨s.toArray⟩ : ByteArray)[j]'hj).toNat : Int) == 40) = false := hq.1
  have d2 : ((((⟨s.toArray⟩ : ByteArray)[j]'hj).toNat : Int) == 41) = false := hq.2.1
  have d3 : ((((⟨s.toArray⟩ : ByteArray)[j]'hj).toNat : Int) == 44) = false := hq.2.2.1
  have d4 : ((((⟨s.toArray⟩ : ByteArray)[j]'hj).toNat : Int) == 58) = true := hq.2.2.2.1
  have d5 : ((((⟨s.toArray⟩ : ByteArray)[j]'hj).toNat : Int) == 42) = false := hq.2.2.2.2
  have HO := Lib.hid ((CL.one_pun (i := j) hj hc0 hc1 hc2).trans (if_pos hp))
  clear hq hp
  have f1 := hb.frozen 1
  have g1 : IntKind.i64.wrap ((j : Int) + 1) = (j : Int) + 1 := IntWalk.i64_in _ (by omega)
  have g2 : 0 ≤ (j : Int) + 1 := by omega
  have g3 : ((j : Int) + 1).toNat = j + 1 := by omega
  have g4 : (j : Int) + 1 ≤ (s.length : Int) := by omega
  have g5 : j + 1 ≤ s.length := by omega
  have hsl := slice_one (P := Try.prog) 9 Try.underlying9 s j hj
  go_enter Try.func18, Try.ntmps18
  go_wp2
  go_quiet (fail)
  have hb1 := (hb.alloc (.cells #[.int .i64 0, .string ⟨#[]⟩, .int .i64 0, .int .i64 j] 32)).drewN nq
  have hT' := (Blk.new w 32 #[.int .i64 0, .string ⟨#[]⟩, .int .i64 0, .int .i64 j]).drewN nq
  have hown1 := own_drewN (hown.alloc (.cells #[.int .i64 0, .string ⟨#[]⟩, .int .i64 0, .int .i64 j] 32)) nq
  have hbel := below_drewN ((Below.refl B w).alloc (by omega) (.cells #[.int .i64 0, .string ⟨#[]⟩, .int .i64 0, .int .i64 j] 32)) nq
  clear h0 h1 f1 hb hown
  generalize (w.alloc (.cells #[.int .i64 0, .string ⟨#[]⟩, .int .i64 0, .int .i64 j] 32)).drewN nq = w1 at *
  have e0 : w1.cell? ⟨b, 0, none⟩ = some (.string ⟨s.toArray⟩) := hb1.cell 0
  have e1 : w1.cell? ⟨b, 1, none⟩ = some (.int .i64 j) := hb1.cell 1
  have f1 := hb1.frozen 1
  have t0 : w1.cell? ⟨w.heap.size, 0, none⟩ = some (.int .i64 0) := hT'.cell 0
  have t1 : w1.cell? ⟨w.heap.size, 1, none⟩ = some (.string ⟨#[]⟩) := hT'.cell 1
  have u0 := hT'.frozen 0
  have u1 := hT'.frozen 1
  have s2 : w.heap.size < w1.heap.size := hT'.lt
  go_wp2_with (first
    | (go_at_call 22; refine (letter_c _ _).mono ?_; rintro e w' ⟨rfl, rfl⟩)
    | (go_at_call 26; refine (digit_c _ _).mono ?_; rintro e w' ⟨rfl, rfl⟩)
    | (go_at_call 24; refine (capital_c _ _).mono ?_; rintro e w' ⟨rfl, rfl⟩))
  go_region
  clear g1 g2 g3 g4 g5 hsl
  go_wp2
  have ho2 : Only w.heap.size w1 ((w1.setCell ⟨w.heap.size, 0, none⟩ (.int .i64 4)).setCell ⟨w.heap.size, 1, none⟩ (.string ⟨#[s[j]]⟩)) := (Only.rf.set 0 _).set 1 _
  have hb2' := hb1.only ho2 hne
  have hT2' := (hT'.set 0 (.int .i64 4)).set 1 (.string ⟨#[s[j]]⟩)
  have hown2' := own_only hown1 ho2 hlt'
  have hbel2' := below_only hbel ho2 hBw (Nat.le_trans hBw hbel.size)
  have ho3 : Only b ((w1.setCell ⟨w.heap.size, 0, none⟩ (.int .i64 4)).setCell ⟨w.heap.size, 1, none⟩ (.string ⟨#[s[j]]⟩)) (((w1.setCell ⟨w.heap.size, 0, none⟩ (.int .i64 4)).setCell ⟨w.heap.size, 1, none⟩ (.string ⟨#[s[j]]⟩)).setCell ⟨b, 1, none⟩ (.int .i64 ((j : Int) + 1))) := Only.rf.set 1 _
  have hb2 : Blk (((w1.setCell ⟨w.heap.size, 0, none⟩ (.int .i64 4)).setCell ⟨w.heap.size, 1, none⟩ (.string ⟨#[s[j]]⟩)).setCell ⟨b, 1, none⟩ (.int .i64 ((j : Int) + 1))).drew b t (cur s (j + 1) [tv]) := cur_set ▸ hb2'.set 1 (.int .i64 ((j : Int) + 1))
  have hT2 : Blk (((w1.setCell ⟨w.heap.size, 0, none⟩ (.int .i64 4)).setCell ⟨w.heap.size, 1, none⟩ (.string ⟨#[s[j]]⟩)).setCell ⟨b, 1, none⟩ (.int .i64 ((j : Int) + 1))).drew w.heap.size 32 _ := hT2'.only (Only.drew ho3) (Ne.symm hne)
  have hown2 := (own_only hown2' ho3 (own_ne hown2' hb2' (Ne.symm ht))).drew
  have hbel2 := (below_only hbel2' ho3 hB (Nat.le_trans hBw hbel2'.size)).drew
  have s3 := hT2.lt
  clear hb2' hT2' hown2' hbel2' ho2 ho3 hb1 hT' hown1 hbel e0 e1 f1 t0 t1 u0 u1
  generalize (((w1.setCell ⟨w.heap.size, 0, none⟩ (.int .i64 4)).setCell ⟨w.heap.size, 1, none⟩ (.string ⟨#[s[j]]⟩)).setCell ⟨b, 1, none⟩ (.int .i64 ((j : Int) + 1))).drew = w2 at *
  have e2 : w2.cell? ⟨b, 2, none⟩ = some tv := hb2.cell 2
  have f2 := hb2.frozen 2
  have x2 : (w2.alloc (.cells #[.int .i64 4, .string ⟨#[s[j]]⟩, .int .i64 0, .int .i64 j] 32)).cell? ⟨b, 2, none⟩ = some tv := (hb2.alloc _).cell 2
  have t0 : w2.cell? ⟨w.heap.size, 0, none⟩ = some (.int .i64 4) := hT2.cell 0
  have t1 : w2.cell? ⟨w.heap.size, 1, none⟩ = some (.string ⟨#[s[j]]⟩) := hT2.cell 1
  have t2 : w2.cell? ⟨w.heap.size, 2, none⟩ = some (.int .i64 0) := hT2.cell 2
  have t3 : w2.cell? ⟨w.heap.size, 3, none⟩ = some (.int .i64 j) := hT2.cell 3
  have n1 : some b ≠ tv.ownBlock := Ne.symm (own_ne hown2 hb2 (Ne.symm ht))
  have n2 : some w.heap.size ≠ tv.ownBlock := Ne.symm hlt'
  have hne2 : b ≠ w2.heap.size := by have := hb2.lt; omega
  go_region_law
    ((refine step_append_sits _ (by rfl) _ _ _ (by rfl) B 32 4 40 _ Try.underlying22 tok_info rfl (by omega) tv acc.length (tks acc) (by rfl) ((hown2.alloc _).drew) _ _ _ [.int .i64 4, .string ⟨#[s[j]]⟩, .int .i64 0, .int .i64 j] (by rfl) (by rfl) (Sits.drew (Sits.new _ _ _)) (by simp [Value.oneCell']) (by simp only [maxLen]; omega) (by omega) (by simp; omega) ?_; intro v3 w3 hown3 hb3 hg3; obtain ⟨A3, c3, rfl, hc3, hc4⟩ := own_form hown3; have e3 : w3.cell? ⟨b, 2, none⟩ = some tv := hg3.cell ((hb2.alloc _).cell 2) n1; have f3 : w3.frozen? ⟨b, 2, none⟩ = false := hg3.frozenB ((hb2.alloc _)) n1 2))
  all_goals (go_wp2; go_ret; exact scan_good HO.out (scan_end (tok := ⟨4, [s[j]], 0, j⟩) hB ht (by omega) hbel2 hb2 n1 hg3 hb3 hown3))
set_option maxRecDepth 100000 in
set_option maxHeartbeats 1600000 in
theorem scan_pun4 (B b : Nat) (t : TypeId) (s : List UInt8) (j : Nat) (tv : Value) (acc : List CL.Tk) (w : World) (hs : s.length ≤ 1024) (hj : j < s.length) (ht : t ≠ 32) (hB : B ≤ b) (hb : Blk w b t (cur s j [tv]))
    (hown : w.ownsRow B 32 4 tv acc.length (tks acc)) (ha : acc.length ≤ s.length) (hc0 : CL.at8 CL.ltr s[j] = false) (hc1 : CL.at8 CL.cap s[j] = false) (hc2 : CL.at8 CL.dig s[j] = false) (hp : CL.at8 CL.pun s[j] = true)
    (hq : ((s[j].toNat : Int) == 40) = false ∧ ((s[j].toNat : Int) == 41) = false ∧ ((s[j].toNat : Int) == 44) = false ∧ ((s[j].toNat : Int) == 58) = false ∧ ((s[j].toNat : Int) == 42) = true) :
    Calls Try.prog 18 #[.pointer (some ⟨b, 0, none⟩)] w (ScanPost B b t s j acc w) := by
  have h0 : w.cell? ⟨b, 0, none⟩ = some (.string ⟨s.toArray⟩) := hb.cell 0
  have h1 : w.cell? ⟨b, 1, none⟩ = some (.int .i64 j) := hb.cell 1
  have hlt := hb.lt
  have hne : b ≠ w.heap.size := by omega
  have hBw : B ≤ w.heap.size := by omega
  have hlt' : tv.ownBlock ≠ some w.heap.size := fun e => by have := (hown.lt _ e).2; omega
  have c0 : CL.ltr (((⟨s.toArray⟩ : ByteArray)[j]'hj).toNat : Int) = false := hc0
  have c1 : CL.cap (((⟨s.toArray⟩ : ByteArray)[j]'hj).toNat : Int) = false := hc1
  have c2 : CL.dig (((⟨s.toArray⟩ : ByteArray)[j]'hj).toNat : Int) = false := hc2
  have d1 : ((((⟨s.toArray⟩ : ByteArray)[j]'hj).toNat : Int) == 40) = false := hq.1
  have d2 : ((((⟨s.toArray⟩ : ByteArray)[j]'hj).toNat : Int) == 41) = false := hq.2.1
  have d3 : ((((⟨s.toArray⟩ : ByteArray)[j]'hj).toNat : Int) == 44) = false := hq.2.2.1
  have d4 : ((((⟨s.toArray⟩ : ByteArray)[j]'hj).toNat : Int) == 58) = false := hq.2.2.2.1
  have d5 : ((((⟨s.toArray⟩ : ByteArray)[j]'hj).toNat : Int) == 42) = true := hq.2.2.2.2
  have HO := Lib.hid ((CL.one_pun (i := j) hj hc0 hc1 hc2).trans (if_pos hp))
  clear hq hp
  have f1 := hb.frozen 1
  have g1 : IntKind.i64.wrap ((j : Int) + 1) = (j : Int) + 1 := IntWalk.i64_in _ (by omega)
  have g2 : 0 ≤ (j : Int) + 1 := by omega
  have g3 : ((j : Int) + 1).toNat = j + 1 := by omega
  have g4 : (j : Int) + 1 ≤ (s.length : Int) := by omega
  have g5 : j + 1 ≤ s.length := by omega
  have hsl := slice_one (P := Try.prog) 9 Try.underlying9 s j hj
  go_enter Try.func18, Try.ntmps18
  go_wp2
  go_quiet (fail)
  have hb1 := (hb.alloc (.cells #[.int .i64 0, .string ⟨#[]⟩, .int .i64 0, .int .i64 j] 32)).drewN nq
  have hT' := (Blk.new w 32 #[.int .i64 0, .string ⟨#[]⟩, .int .i64 0, .int .i64 j]).drewN nq
  have hown1 := own_drewN (hown.alloc (.cells #[.int .i64 0, .string ⟨#[]⟩, .int .i64 0, .int .i64 j] 32)) nq
  have hbel := below_drewN ((Below.refl B w).alloc (by omega) (.cells #[.int .i64 0, .string ⟨#[]⟩, .int .i64 0, .int .i64 j] 32)) nq
  clear h0 h1 f1 hb hown
  generalize (w.alloc (.cells #[.int .i64 0, .string ⟨#[]⟩, .int .i64 0, .int .i64 j] 32)).drewN nq = w1 at *
  have e0 : w1.cell? ⟨b, 0, none⟩ = some (.string ⟨s.toArray⟩) := hb1.cell 0
  have e1 : w1.cell? ⟨b, 1, none⟩ = some (.int .i64 j) := hb1.cell 1
  have f1 := hb1.frozen 1
  have t0 : w1.cell? ⟨w.heap.size, 0, none⟩ = some (.int .i64 0) := hT'.cell 0
  have t1 : w1.cell? ⟨w.heap.size, 1, none⟩ = some (.string ⟨#[]⟩) := hT'.cell 1
  have u0 := hT'.frozen 0
  have u1 := hT'.frozen 1
  have s2 : w.heap.size < w1.heap.size := hT'.lt
  go_wp2_with (first
    | (go_at_call 22; refine (letter_c _ _).mono ?_; rintro e w' ⟨rfl, rfl⟩)
    | (go_at_call 26; refine (digit_c _ _).mono ?_; rintro e w' ⟨rfl, rfl⟩)
    | (go_at_call 24; refine (capital_c _ _).mono ?_; rintro e w' ⟨rfl, rfl⟩))
  go_region
  clear g1 g2 g3 g4 g5 hsl
  go_wp2
  have ho2 : Only w.heap.size w1 ((w1.setCell ⟨w.heap.size, 0, none⟩ (.int .i64 4)).setCell ⟨w.heap.size, 1, none⟩ (.string ⟨#[s[j]]⟩)) := (Only.rf.set 0 _).set 1 _
  have hb2' := hb1.only ho2 hne
  have hT2' := (hT'.set 0 (.int .i64 4)).set 1 (.string ⟨#[s[j]]⟩)
  have hown2' := own_only hown1 ho2 hlt'
  have hbel2' := below_only hbel ho2 hBw (Nat.le_trans hBw hbel.size)
  have ho3 : Only b ((w1.setCell ⟨w.heap.size, 0, none⟩ (.int .i64 4)).setCell ⟨w.heap.size, 1, none⟩ (.string ⟨#[s[j]]⟩)) (((w1.setCell ⟨w.heap.size, 0, none⟩ (.int .i64 4)).setCell ⟨w.heap.size, 1, none⟩ (.string ⟨#[s[j]]⟩)).setCell ⟨b, 1, none⟩ (.int .i64 ((j : Int) + 1))) := Only.rf.set 1 _
  have hb2 : Blk (((w1.setCell ⟨w.heap.size, 0, none⟩ (.int .i64 4)).setCell ⟨w.heap.size, 1, none⟩ (.string ⟨#[s[j]]⟩)).setCell ⟨b, 1, none⟩ (.int .i64 ((j : Int) + 1))).drew b t (cur s (j + 1) [tv]) := cur_set ▸ hb2'.set 1 (.int .i64 ((j : Int) + 1))
  have hT2 : Blk (((w1.setCell ⟨w.heap.size, 0, none⟩ (.int .i64 4)).setCell ⟨w.heap.size, 1, none⟩ (.string ⟨#[s[j]]⟩)).setCell ⟨b, 1, none⟩ (.int .i64 ((j : Int) + 1))).drew w.heap.size 32 _ := hT2'.only (Only.drew ho3) (Ne.symm hne)
  have hown2 := (own_only hown2' ho3 (own_ne hown2' hb2' (Ne.symm ht))).drew
  have hbel2 := (below_only hbel2' ho3 hB (Nat.le_trans hBw hbel2'.size)).drew
  have s3 := hT2.lt
  clear hb2' hT2' hown2' hbel2' ho2 ho3 hb1 hT' hown1 hbel e0 e1 f1 t0 t1 u0 u1
  generalize (((w1.setCell ⟨w.heap.size, 0, none⟩ (.int .i64 4)).setCell ⟨w.heap.size, 1, none⟩ (.string ⟨#[s[j]]⟩)).setCell ⟨b, 1, none⟩ (.int .i64 ((j : Int) + 1))).drew = w2 at *
  have e2 : w2.cell? ⟨b, 2, none⟩ = some tv := hb2.cell 2
  have f2 := hb2.frozen 2
  have x2 : (w2.alloc (.cells #[.int .i64 4, .string ⟨#[s[j]]⟩, .int .i64 0, .int .i64 j] 32)).cell? ⟨b, 2, none⟩ = some tv := (hb2.alloc _).cell 2
  have t0 : w2.cell? ⟨w.heap.size, 0, none⟩ = some (.int .i64 4) := hT2.cell 0
  have t1 : w2.cell? ⟨w.heap.size, 1, none⟩ = some (.string ⟨#[s[j]]⟩) := hT2.cell 1
  have t2 : w2.cell? ⟨w.heap.size, 2, none⟩ = some (.int .i64 0) := hT2.cell 2
  have t3 : w2.cell? ⟨w.heap.size, 3, none⟩ = some (.int .i64 j) := hT2.cell 3
  have n1 : some b ≠ tv.ownBlock := Ne.symm (own_ne hown2 hb2 (Ne.symm ht))
  have n2 : some w.heap.size ≠ tv.ownBlock := Ne.symm hlt'
  have hne2 : b ≠ w2.heap.size := by have := hb2.lt; omega
  go_region_law
    ((refine step_append_sits _ (by rfl) _ _ _ (by rfl) B 32 4 40 _ Try.underlying22 tok_info rfl (by omega) tv acc.length (tks acc) (by rfl) ((hown2.alloc _).drew) _ _ _ [.int .i64 4, .string ⟨#[s[j]]⟩, .int .i64 0, .int .i64 j] (by rfl) (by rfl) (Sits.drew (Sits.new _ _ _)) (by simp [Value.oneCell']) (by simp only [maxLen]; omega) (by omega) (by simp; omega) ?_; intro v3 w3 hown3 hb3 hg3; obtain ⟨A3, c3, rfl, hc3, hc4⟩ := own_form hown3; have e3 : w3.cell? ⟨b, 2, none⟩ = some tv := hg3.cell ((hb2.alloc _).cell 2) n1; have f3 : w3.frozen? ⟨b, 2, none⟩ = false := hg3.frozenB ((hb2.alloc _)) n1 2))
  all_goals (go_wp2; go_ret; exact scan_good HO.out (scan_end (tok := ⟨4, [s[j]], 0, j⟩) hB ht (by omega) hbel2 hb2 n1 hg3 hb3 hown3))
theorem scan_punt (B b : Nat) (t : TypeId) (s : List UInt8) (j : Nat) (tv : Value) (acc : List CL.Tk) (w : World) (hs : s.length ≤ 1024) (hj : j < s.length) (ht : t ≠ 32) (hB : B ≤ b) (hb : Blk w b t (cur s j [tv]))
    (hown : w.ownsRow B 32 4 tv acc.length (tks acc)) (ha : acc.length ≤ s.length) (hc0 : CL.at8 CL.ltr s[j] = false) (hc1 : CL.at8 CL.cap s[j] = false) (hc2 : CL.at8 CL.dig s[j] = false) (hp : CL.at8 CL.pun s[j] = true) :
    Calls Try.prog 18 #[.pointer (some ⟨b, 0, none⟩)] w (ScanPost B b t s j acc w) := by
  rcases CL.pun_yes hp with hq | hq | hq | hq | hq
  · exact scan_pun0 B b t s j tv acc w hs hj ht hB hb hown ha hc0 hc1 hc2 hp hq
  · exact scan_pun1 B b t s j tv acc w hs hj ht hB hb hown ha hc0 hc1 hc2 hp hq
  · exact scan_pun2 B b t s j tv acc w hs hj ht hB hb hown ha hc0 hc1 hc2 hp hq
  · exact scan_pun3 B b t s j tv acc w hs hj ht hB hb hown ha hc0 hc1 hc2 hp hq
  · exact scan_pun4 B b t s j tv acc w hs hj ht hB hb hown ha hc0 hc1 hc2 hp hq
set_option maxRecDepth 100000 in
set_option maxHeartbeats 1600000 in
theorem scan_punf (B b : Nat) (t : TypeId) (s : List UInt8) (j : Nat) (tv : Value) (acc : List CL.Tk) (w : World) (hj : j < s.length) (hB : B ≤ b) (hb : Blk w b t (cur s j [tv]))
    (hc0 : CL.at8 CL.ltr s[j] = false) (hc1 : CL.at8 CL.cap s[j] = false) (hc2 : CL.at8 CL.dig s[j] = false) (hp : ¬ CL.at8 CL.pun s[j] = true) :
    Calls Try.prog 18 #[.pointer (some ⟨b, 0, none⟩)] w (ScanPost B b t s j acc w) := by
  have h0 : w.cell? ⟨b, 0, none⟩ = some (.string ⟨s.toArray⟩) := hb.cell 0
  have h1 : w.cell? ⟨b, 1, none⟩ = some (.int .i64 j) := hb.cell 1
  have hlt := hb.lt
  have c0 : CL.ltr (((⟨s.toArray⟩ : ByteArray)[j]'hj).toNat : Int) = false := hc0
  have c1 : CL.cap (((⟨s.toArray⟩ : ByteArray)[j]'hj).toNat : Int) = false := hc1
  have c2 : CL.dig (((⟨s.toArray⟩ : ByteArray)[j]'hj).toNat : Int) = false := hc2
  have d1 : ((((⟨s.toArray⟩ : ByteArray)[j]'hj).toNat : Int) == 40) = false := by have := CL.pun_no hp; exact this.1
  have d2 : ((((⟨s.toArray⟩ : ByteArray)[j]'hj).toNat : Int) == 41) = false := by have := CL.pun_no hp; exact this.2.1
  have d3 : ((((⟨s.toArray⟩ : ByteArray)[j]'hj).toNat : Int) == 44) = false := by have := CL.pun_no hp; exact this.2.2.1
  have d4 : ((((⟨s.toArray⟩ : ByteArray)[j]'hj).toNat : Int) == 58) = false := by have := CL.pun_no hp; exact this.2.2.2.1
  have d5 : ((((⟨s.toArray⟩ : ByteArray)[j]'hj).toNat : Int) == 42) = false := by have := CL.pun_no hp; exact this.2.2.2.2
  have HO := Lib.hid ((CL.one_pun (i := j) hj hc0 hc1 hc2).trans (if_neg hp))
  clear hp
  go_enter Try.func18, Try.ntmps18
  go_wp2
  go_quiet (fail)
  go_wp2_with (first
    | (go_at_call 22; refine (letter_c _ _).mono ?_; rintro e w' ⟨rfl, rfl⟩)
    | (go_at_call 26; refine (digit_c _ _).mono ?_; rintro e w' ⟨rfl, rfl⟩)
    | (go_at_call 24; refine (capital_c _ _).mono ?_; rintro e w' ⟨rfl, rfl⟩))
  go_ret
  exact scan_bad (by decide) HO.out (below_drewN ((Below.refl B w).alloc (by omega) _) _)
end Go.Proofs.Ytklpfhkcbhkofaa
