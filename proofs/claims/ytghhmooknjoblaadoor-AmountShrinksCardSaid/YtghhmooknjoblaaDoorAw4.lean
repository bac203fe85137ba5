
/- The walks of package amount and of its reference, fourth part: Room, Format. -/
import Derived.Test.YtghhmooknjoblaaDoorAw3
import Derived.Deep.RegionHeld3
import Derived.Deep.RegionLaw
namespace Go.Proofs.YtghhmooknjoblaaDoor
open Go.RowKit
theorem am_info : (Tryd.prog.info? 25).map (fun i => (i.zero, i.size, i.bytes)) = some (some (.agg #[.int .i64 0, .int .i64 0]), 2, 16) := by kernel_rfl
theorem Sits.of_blk {w : World} {g : Nat} {t : TypeId} {cs : Array Value} (h : Blk w g t cs) : Sits w (some ⟨g, 0, none⟩) cs.toList := fun _ =>
  ⟨g, 0, rfl, fun j u hu => by rw [Nat.zero_add, h.cell]; simpa using hu⟩
theorem run_make_am (n : Nat) (hn : n ≤ 1000) (w : World) : (Instr.makeSlice 30 (.int .i64 0) (.int .i64 ((n : Int) + 1))).run Tryd.prog w = .ok (.slice (some ⟨w.heap.size, 0, none⟩) 0 (n + 1)) (w.alloc (.cells (madeCells #[.int .i64 0, .int .i64 0] ((n + 1) * 2)) 25)) := by
  obtain ⟨i, hi, hz, hsize, hby⟩ := info_parts am_info
  have h := run_make (P := Tryd.prog) w 30 25 i _ Tryd.underlying30 hi hz .i64 .i64 0 ((n : Int) + 1) (by omega) (by omega) (by rw [hby]; omega) (by omega)
  rw [hsize] at h
  exact h
theorem amount.Compatible_n (n : ByteArray) (k u h : Int) (l : List CL.Am) (A : Option Addr) (c N : Nat) (hN : N = l.length) (w : World) (hT : Tab w) (hl : l.length ≤ 1000) (hr : Sits w A (ams l)) :
    Calls Tryd.prog 18 #[.agg #[.string n, .int .i64 k, .int .i64 u, .int .i64 h], .slice A N c] w fun e w' => e = .returned (.bool (CL.compat k u l)) ∧ Ext w w' := by
  subst hN; exact amount.Compatible_c n k u h l A c w hT hl hr
theorem bcellB {B : Nat} {W w1 : World} (hb : Below B W w1) : ∀ b o, b < B → w1.cell? ⟨b, o, none⟩ = W.cell? ⟨b, o, none⟩ := fun b o h => hb.cell (p := ⟨b, o, none⟩) h
set_option maxRecDepth 100000 in
set_option maxHeartbeats 3200000 in
theorem amount.Room_c (n : ByteArray) (k u h : Int) (l : List CL.Am) (A : Option Addr) (c : Nat) (a b : Int) (w : World) (hT : Tab w) (hl : l.length ≤ 900) (hr : Sits w A (ams l)) :
    Calls Tryd.prog 24 #[.agg #[.string n, .int .i64 k, .int .i64 u, .int .i64 h], .slice A l.length c, .agg #[.int .i64 a, .int .i64 b]] w fun e w' => e = .returned (.bool (CL.compat k u (l ++ [⟨a, b⟩]))) ∧ Ext w w' := by
  have hmk := run_make_am l.length (by omega)
  go_enter Tryd.func24, Tryd.ntmps24
  go_wp2_with fail
  have hM : ((w.alloc (.cells #[.string n, .int .i64 k, .int .i64 u, .int .i64 h] 23)).alloc (.cells #[.int .i64 a, .int .i64 b] 25)).heap.size = w.heap.size + 1 + 1 := by simp
  have own0 := World.ownsRow_made (base := w.heap.size + 1 + 1) (size := 2) ((w.alloc (.cells #[.string n, .int .i64 k, .int .i64 u, .int .i64 h] 23)).alloc (.cells #[.int .i64 a, .int .i64 b] 25)) (e := 25) (madeCells #[.int .i64 0, .int .i64 0] ((l.length + 1) * 2)) (l.length + 1) (by omega) (by simp only [maxLen]; omega) (by rw [size_madeCells])
  rw [hM] at own0
  clear hM hmk
  have hxW : Ext w (((w.alloc (.cells #[.string n, .int .i64 k, .int .i64 u, .int .i64 h] 23)).alloc (.cells #[.int .i64 a, .int .i64 b] 25)).alloc (.cells (madeCells #[.int .i64 0, .int .i64 0] ((l.length + 1) * 2)) 25)) := by go_grown
  have bR : Blk (((w.alloc (.cells #[.string n, .int .i64 k, .int .i64 u, .int .i64 h] 23)).alloc (.cells #[.int .i64 a, .int .i64 b] 25)).alloc (.cells (madeCells #[.int .i64 0, .int .i64 0] ((l.length + 1) * 2)) 25)) w.heap.size 23 #[.string n, .int .i64 k, .int .i64 u, .int .i64 h] := ((Blk.new _ _ _).alloc _).alloc _
  have bA : Blk (((w.alloc (.cells #[.string n, .int .i64 k, .int .i64 u, .int .i64 h] 23)).alloc (.cells #[.int .i64 a, .int .i64 b] 25)).alloc (.cells (madeCells #[.int .i64 0, .int .i64 0] ((l.length + 1) * 2)) 25)) (w.heap.size + 1) 25 #[.int .i64 a, .int .i64 b] := by
    have := (Blk.new (w.alloc (.cells #[.string n, .int .i64 k, .int .i64 u, .int .i64 h] 23)) 25 #[.int .i64 a, .int .i64 b]).alloc (.cells (madeCells #[.int .i64 0, .int .i64 0] ((l.length + 1) * 2)) 25)
    simpa using this
  have hz : w.heap.size + 1 + 1 + 1 = (((w.alloc (.cells #[.string n, .int .i64 k, .int .i64 u, .int .i64 h] 23)).alloc (.cells #[.int .i64 a, .int .i64 b] 25)).alloc (.cells (madeCells #[.int .i64 0, .int .i64 0] ((l.length + 1) * 2)) 25)).heap.size := by simp
  generalize (((w.alloc (.cells #[.string n, .int .i64 k, .int .i64 u, .int .i64 h] 23)).alloc (.cells #[.int .i64 a, .int .i64 b] 25)).alloc (.cells (madeCells #[.int .i64 0, .int .i64 0] ((l.length + 1) * 2)) 25)) = W at *
  have hrW := hr.ext hxW
  have r0 : W.cell? ⟨w.heap.size, 0, none⟩ = some (.string n) := bR.cell 0
  have r1 : W.cell? ⟨w.heap.size, 1, none⟩ = some (.int .i64 k) := bR.cell 1
  have r2 : W.cell? ⟨w.heap.size, 2, none⟩ = some (.int .i64 u) := bR.cell 2
  have r3 : W.cell? ⟨w.heap.size, 3, none⟩ = some (.int .i64 h) := bR.cell 3
  have a0 : W.cell? ⟨w.heap.size + 1, 0, none⟩ = some (.int .i64 a) := bA.cell 0
  have a1 : W.cell? ⟨w.heap.size + 1, 1, none⟩ = some (.int .i64 b) := bA.cell 1
  have hz' : w.heap.size + 1 + 1 + 1 ≤ W.heap.size := by omega
  have HZ := Lib.hid hz
  clear hz hr bR bA
  go_region_held3 (fun w' => w'.cell? ⟨w.heap.size, 0, none⟩ = some (.string n) ∧ w'.cell? ⟨w.heap.size, 1, none⟩ = some (.int .i64 k) ∧ w'.cell? ⟨w.heap.size, 2, none⟩ = some (.int .i64 u) ∧ w'.cell? ⟨w.heap.size, 3, none⟩ = some (.int .i64 h) ∧ w'.cell? ⟨w.heap.size + 1, 0, none⟩ = some (.int .i64 a) ∧ w'.cell? ⟨w.heap.size + 1, 1, none⟩ = some (.int .i64 b))
    (first | go_keep | (refine ⟨?_, ?_, ?_, ?_, ?_, ?_⟩ <;> first | (rw [bcellB hb1 _ _ (by omega)]; first | exact r0 | exact r1 | exact r2 | exact r3 | exact a0 | exact a1 | exact (Ext.new _ _).cell r0 | exact (Ext.new _ _).cell r1 | exact (Ext.new _ _).cell r2 | exact (Ext.new _ _).cell r3 | exact (Ext.new _ _).cell a0 | exact (Ext.new _ _).cell a1) | (rw [bcellB hb2 _ _ (by omega)]; go_keep) | go_keep | (refine hx3.cell ?_; go_keep) | (refine hx3.cell ?_; rw [bcellB hb2 _ _ (by omega)]; go_keep)))
    (first
      | (have hown0 := own0; clear own0; refine step_append_sits _ (by rfl) (.tmp 13) (.tmp 14) _ (by rfl) (w.heap.size + 1 + 1) 25 2 16 _ Tryd.underlying30 am_info rfl (by omega) _ 0 [] (by rfl) (by first | exact hown0 | exact hown0.drew | exact hown0.alloc _ | exact (hown0.alloc _).drew | exact hown0.drew.alloc _) _ _ _ (ams l) (by rfl) (by rw [ams_len]) (by first | exact hrW | exact hrW.ext (Ext.new _ _) | exact hrW.ext ((Ext.new _ _).tr (Ext.drawn _)) | exact hrW.ext ((Ext.drawn _).tr (Ext.new _ _))) (ams_one l) (by simp only [maxLen]; omega) (by omega) (by simp; omega) ?_; intro v1 w1 hown1 hb1 hg1; obtain ⟨A1, c1, rfl, _, _⟩ := own_form hown1; simp only [Nat.zero_add, List.nil_append] at hown1; have hg1' : World.grownBy _ w1 (some (w.heap.size + 1 + 1)) := hg1; first | (have hbn : Blk w1 W.heap.size 25 #[.int .i64 a, .int .i64 b] := World.grownBy.blk hg1' (Blk.new _ _ _) (by simp; omega)) | skip)
      | (have hown0 := hown1; clear hown1; have hraw : w1.ownsRow (w.heap.size + 1 + 1) 25 2 (.slice A1 (0 + l.length) c1) l.length (ams l) := (by rw [Nat.zero_add]; exact hown0); refine step_append_sits _ (by rfl) (.tmp 15) (.tmp 17) _ (by rfl) (w.heap.size + 1 + 1) 25 2 16 _ Tryd.underlying30 am_info rfl (by omega) _ l.length (ams l) (by rfl) (by first | exact hraw | exact hown0 | exact hown0.drew | exact hown0.alloc _ | exact hraw.alloc _ | exact (hown0.alloc _).drew | exact hown0.drew.alloc _) _ _ _ [.int .i64 a, .int .i64 b] (by rfl) (by rfl) (by first | exact Sits.of_blk hbn | exact Sits.new _ _ _) (by simp [Value.oneCell']) (by simp only [maxLen]; omega) (by omega) (by have := hb1.size; (try simp at this); (try simp); omega) ?_; intro v2 w2 hown2 hb2 hg2; obtain ⟨A2, c2, rfl, _, _⟩ := own_form hown2)
      | (go_at_call 18; have hx2 : Ext w w2 := (by first
          | exact ((((Below.drew hxW).trans (hb1.mono (by omega))).alloc (by have := hb1.size; simp at this; omega) _).trans (hb2.mono (by omega)))
          | exact ((((Below.drew hxW).alloc (by simp; omega) _).trans (hb1.mono (by omega))).trans (hb2.mono (by omega)))
          | exact ((((Below.alloc hxW (by omega) _).drew).trans (hb1.mono (by omega))).trans (hb2.mono (by omega)))); refine (amount.Compatible_n _ _ _ _ (l ++ [⟨a, b⟩]) _ _ _ (by simp) _ (hT.ext hx2) (by simp; omega) (by rw [ams_append]; exact Sits.of_own hown2)).mono ?_; rintro e w3 ⟨rfl, hx3⟩))
  all_goals (go_wp2; go_ret; exact ⟨rfl, hx2.tr hx3⟩)
theorem clusterlocksref04.Compatible_n (n : ByteArray) (k u h : Int) (l : List CL.Am) (A : Option Addr) (c N : Nat) (hN : N = l.length) (w : World) (hl : l.length ≤ 1000) (hr : Sits w A (ams l)) :
    Calls Tryd.prog 23 #[.agg #[.string n, .int .i64 k, .int .i64 u, .int .i64 h], .slice A N c] w fun e w' => e = .returned (.bool (CL.compat k u l)) ∧ Ext w w' := by
  subst hN; exact clusterlocksref04.Compatible_c n k u h l A c w hl hr
theorem own_empty (W : World) (base : Nat) (E : TypeId) (hb : base ≤ W.heap.size) : (W.alloc (.cells #[] E)).ownsRow base E 2 (.slice (some ⟨W.heap.size, 0, none⟩) 0 0) 0 [] :=
  World.ownsRow_lit W #[] 0 hb (by simp [maxLen]) (by simp)
theorem own_empty2 (W : World) (o : Obj) (base : Nat) (E : TypeId) (hb : base ≤ W.heap.size) : ((W.alloc o).alloc (.cells #[] E)).ownsRow base E 2 (.slice (some ⟨W.heap.size + 1, 0, none⟩) 0 0) 0 [] := by
  have h := own_empty (W.alloc o) base E (by simp; omega)
  rwa [World.size_alloc] at h
set_option maxRecDepth 100000 in
set_option maxHeartbeats 3200000 in
theorem clusterlocksref04.Room_c (n : ByteArray) (k u h : Int) (l : List CL.Am) (A : Option Addr) (c : Nat) (a b : Int) (w : World) (hl : l.length ≤ 900) (hr : Sits w A (ams l)) :
    Calls Tryd.prog 25 #[.agg #[.string n, .int .i64 k, .int .i64 u, .int .i64 h], .slice A l.length c, .agg #[.int .i64 a, .int .i64 b]] w fun e w' => e = .returned (.bool (CL.compat k u (l ++ [⟨a, b⟩]))) ∧ Ext w w' := by
  go_enter Tryd.func25, Tryd.ntmps25
  go_wp2_with fail
  have hxW : Ext w ((w.alloc (.cells #[.string n, .int .i64 k, .int .i64 u, .int .i64 h] 23)).alloc (.cells #[.int .i64 a, .int .i64 b] 25)) := by go_grown
  have bR : Blk ((w.alloc (.cells #[.string n, .int .i64 k, .int .i64 u, .int .i64 h] 23)).alloc (.cells #[.int .i64 a, .int .i64 b] 25)) w.heap.size 23 #[.string n, .int .i64 k, .int .i64 u, .int .i64 h] := ((Blk.new _ _ _).alloc _)
  have bA : Blk ((w.alloc (.cells #[.string n, .int .i64 k, .int .i64 u, .int .i64 h] 23)).alloc (.cells #[.int .i64 a, .int .i64 b] 25)) (w.heap.size + 1) 25 #[.int .i64 a, .int .i64 b] := by
    have := (Blk.new (w.alloc (.cells #[.string n, .int .i64 k, .int .i64 u, .int .i64 h] 23)) 25 #[.int .i64 a, .int .i64 b])
    simpa using this
  have hz : w.heap.size + 1 + 1 = ((w.alloc (.cells #[.string n, .int .i64 k, .int .i64 u, .int .i64 h] 23)).alloc (.cells #[.int .i64 a, .int .i64 b] 25)).heap.size := by simp
  generalize ((w.alloc (.cells #[.string n, .int .i64 k, .int .i64 u, .int .i64 h] 23)).alloc (.cells #[.int .i64 a, .int .i64 b] 25)) = W at *
  have hrW := hr.ext hxW
  have r0 : W.cell? ⟨w.heap.size, 0, none⟩ = some (.string n) := bR.cell 0
  have r1 : W.cell? ⟨w.heap.size, 1, none⟩ = some (.int .i64 k) := bR.cell 1
  have r2 : W.cell? ⟨w.heap.size, 2, none⟩ = some (.int .i64 u) := bR.cell 2
  have r3 : W.cell? ⟨w.heap.size, 3, none⟩ = some (.int .i64 h) := bR.cell 3
  have a0 : W.cell? ⟨w.heap.size + 1, 0, none⟩ = some (.int .i64 a) := bA.cell 0
  have a1 : W.cell? ⟨w.heap.size + 1, 1, none⟩ = some (.int .i64 b) := bA.cell 1
  have hz' : w.heap.size + 1 + 1 ≤ W.heap.size := by omega
  have HZ := Lib.hid hz
  clear hz hr bR bA
  have tok1 : True := trivial
  go_region_held3 (fun w' => w'.cell? ⟨w.heap.size, 0, none⟩ = some (.string n) ∧ w'.cell? ⟨w.heap.size, 1, none⟩ = some (.int .i64 k) ∧ w'.cell? ⟨w.heap.size, 2, none⟩ = some (.int .i64 u) ∧ w'.cell? ⟨w.heap.size, 3, none⟩ = some (.int .i64 h) ∧ w'.cell? ⟨w.heap.size + 1, 0, none⟩ = some (.int .i64 a) ∧ w'.cell? ⟨w.heap.size + 1, 1, none⟩ = some (.int .i64 b))
    (first | go_keep | (refine ⟨?_, ?_, ?_, ?_, ?_, ?_⟩ <;> first | (rw [bcellB hb1 _ _ (by omega)]; first | go_keep | (refine Ext.cell (a := W) (by go_grown) ?_; assumption)) | (rw [bcellB hb2 _ _ (by omega)]; go_keep) | go_keep | (refine hx3.cell ?_; go_keep) | (refine hx3.cell ?_; rw [bcellB hb2 _ _ (by omega)]; go_keep)))
    (first
      | (have _t := tok1; clear _t tok1; refine step_append_sits _ (by rfl) (.tmp 8) (.tmp 9) _ (by rfl) (w.heap.size + 1 + 1) 25 2 16 _ Tryd.underlying30 am_info rfl (by omega) _ 0 [] (by rfl) (by first | exact own_empty2 _ _ _ _ (by (try simp); omega) | exact (own_empty2 _ _ _ _ (by (try simp); omega)).drew | exact own_empty _ _ _ (by (try simp); omega) | exact (own_empty _ _ _ (by (try simp); omega)).drew | exact (own_empty _ _ _ (by (try simp); omega)).alloc _ | exact ((own_empty _ _ _ (by (try simp); omega)).alloc _).drew) _ _ _ (ams l) (by rfl) (by rw [ams_len]) (by exact hrW.ext (by go_grown)) (ams_one l) (by simp only [maxLen]; omega) (by omega) (by (try simp); omega) ?_; intro v1 w1 hown1 hb1 hg1; obtain ⟨A1, c1, rfl, _, _⟩ := own_form hown1; simp only [Nat.zero_add, List.nil_append] at hown1; first
          | (have hbn : Blk w1 (W.heap.size + 1) 25 #[.int .i64 a, .int .i64 b] := World.grownBy.blk (row := some W.heap.size) hg1 (by have h := Blk.new (W.alloc (.cells #[] 25)) 25 #[.int .i64 a, .int .i64 b]; rw [World.size_alloc] at h; exact h) (by simp))
          | (have hbn : Blk w1 W.heap.size 25 #[.int .i64 a, .int .i64 b] := World.grownBy.blk (row := some (W.heap.size + 1)) hg1 ((Blk.new _ _ _).alloc _) (by simp))
          | skip)
      | (have hown0 := hown1; clear hown1; have hraw : w1.ownsRow (w.heap.size + 1 + 1) 25 2 (.slice A1 (0 + l.length) c1) l.length (ams l) := (by rw [Nat.zero_add]; exact hown0); refine step_append_sits _ (by rfl) (.tmp 10) (.tmp 12) _ (by rfl) (w.heap.size + 1 + 1) 25 2 16 _ Tryd.underlying30 am_info rfl (by omega) _ l.length (ams l) (by rfl) (by first | exact hraw | exact hown0 | exact hown0.drew | exact hown0.alloc _ | exact hraw.alloc _ | exact (hown0.alloc _).drew | exact hown0.drew.alloc _) _ _ _ [.int .i64 a, .int .i64 b] (by rfl) (by rfl) (by first | exact Sits.of_blk hbn | exact Sits.new _ _ _) (by simp [Value.oneCell']) (by simp only [maxLen]; omega) (by omega) (by have := hb1.size; (try simp at this); (try simp); omega) ?_; intro v2 w2 hown2 hb2 hg2; obtain ⟨A2, c2, rfl, _, _⟩ := own_form hown2)
      | (go_at_call 23; refine (clusterlocksref04.Compatible_n _ _ _ _ (l ++ [⟨a, b⟩]) _ _ _ (by simp) _ (by simp; omega) (by rw [ams_append]; exact Sits.of_own hown2)).mono ?_; rintro e w3 ⟨rfl, hx3⟩))
  all_goals
    have e1 := hb1.mono (show w.heap.size ≤ w.heap.size + 1 + 1 by omega)
    have e2 := hb2.mono (show w.heap.size ≤ w.heap.size + 1 + 1 by omega)
    have f1 : Ext w w1 := Below.trans (by go_grown) e1
    have f0 := f1.size
    have f2 : Ext w w2 := Below.trans (by go_grown) e2
    go_wp2
    go_ret
    exact ⟨rfl, Ext.tr f2 hx3⟩
end Go.Proofs.YtghhmooknjoblaaDoor
