
/- Ledger: the walk of Count. -/
import Derived.Test.YtaebindbadfaaaaLu
import Derived.IntWalk
namespace Go.Proofs.Ytaebindbadfaaaa
open Go.RowKit
set_option linter.unusedVariables false
set_option linter.unusedSimpArgs false
set_option maxHeartbeats 3200000 in
set_option maxRecDepth 100000 in
theorem ledger.Count_c (x : CL.Lg) (lb : Int) (v : Value) (w : World) (hv : LgV w v x) (hf : Fine x) :
    Calls Try.prog 26 #[v, .int .i64 lb] w fun r w' => r = .returned (.int .i64 (CL.cnt x lb)) ∧ Ext w w' := by
  have UX := Lib.hid (fun W' (h : Ext w W') => ledger.Undo_c x lb v W' (hv.ext h) hf)
  obtain ⟨A, c, A', c', rfl, h1, h2, h3, h4⟩ := hv
  obtain ⟨k1, k2, k3⟩ := hf
  go_enter Try.func26, Try.ntmps26
  go_wp2_with fail
  obtain ⟨b1, hx0⟩ := box1 w #[.slice A x.es.length c, .slice A' x.ss.length c'] 31
  generalize (w.alloc (.cells #[.slice A x.es.length c, .slice A' x.ss.length c'] 31)) = W at *
  obtain ⟨e0, e1⟩ := b1.c2
  have HC := Lib.hid (show CL.cnt x lb = if (CL.und x lb).2.2 = 0 then (x.es.length : Int) - (CL.und x lb).1.es.length else -1 from rfl)
  have hul := CL.und_len x lb
  generalize CL.und x lb = y at *
  obtain ⟨y1, y2, y3⟩ := y
  have hk1 : IntKind.i64.wrap ((x.es.length : Int) - (y1.es.length : Int)) = (x.es.length : Int) - (y1.es.length : Int) := IntWalk.i64_in _ (by simp only at hul; omega)
  go_wp2_with (first
    | (go_at_call 23; (with_reducible refine (UX.out _ hx0).mono ?_); rintro r w2 ⟨v2, B, cb, rfl, ⟨A1, c1, A2, c2, rfl, S1, S2, hc1, hc2⟩, S3, hcb, hx2⟩; (have bb1 := b1.ext hx2); (obtain ⟨a0, a1⟩ := (bb1.alloc (.cells #[.slice A1 y1.es.length c1, .slice A2 y1.ss.length c2] 31)).c2))
    | go_in)
  · rename_i hb
    have hy : ¬ y3 = 0 := by simpa using hb
    go_ret
    exact ⟨ret_int (by rw [HC.out, if_neg hy]), (hx0.tr hx2).tr (Ext.new _ _)⟩
  · rename_i hb
    have hy : y3 = 0 := by simpa using hb
    go_ret
    exact ⟨ret_int (by rw [HC.out, if_pos hy]), (hx0.tr hx2).tr (Ext.new _ _)⟩
end Go.Proofs.Ytaebindbadfaaaa
