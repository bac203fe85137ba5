/- The functions' equations, and that they are sound (printed by wip/exec/Xg4.lean). -/
import Derived.Test.YtapflcgnihdmoaaGreatDoorA8
import Derived.Test.YtapflcgnihdmoaaGreatDoorB1
namespace X
open Go Go.Proofs
set_option linter.unusedVariables false
set_option linter.unusedSectionVars false
set_option maxRecDepth 100000
def an12 : An := (.s (.r []) (.s (.r []) .n))
noncomputable def cd12 (c m : Clo) (f : Nat) : Fn := nof
theorem q12 (c m : Clo) : h12 c m = cmpF Tryz.prog (cd12 c m) noInv eqsT c Tryz.f12 (Tryz.f12.body.getD .skip) an12 := by kernel_rfl
theorem snd12 [Luck] {c m : Clo} (hc : Ok c) (hm : Ok m) : Snd Tryz.prog 12 (h12 c m) := by rw [q12]; exact snd_cmp no_known (known hc snd_nof) Tryz.func12 (by kernel_rfl) (by kernel_rfl)
def an10 : An := (.s (.r []) (.s (.r []) (.s (.s (.r []) (.b none (.l [3, 4] (.s (.s (.r []) (.c none .n .n)) (.s (.b none (.r [])) (.r [])))))) (.s (.r []) .n))))
noncomputable def cd10 (c m : Clo) (f : Nat) : Fn := (Bool.rec nof (h12 c m) (Nat.beq f 12))
theorem q10 (c m : Clo) : h10 c m = cmpF Tryz.prog (cd10 c m) noInv eqsT c Tryz.f10 (Tryz.f10.body.getD .skip) an10 := by kernel_rfl
theorem snd10 [Luck] {c m : Clo} (hc : Ok c) (hm : Ok m) : Snd Tryz.prog 10 (h10 c m) := by rw [q10]; exact snd_cmp no_known (known hc (snd_cons (snd12 hc hm) snd_nof)) Tryz.func10 (by kernel_rfl) (by kernel_rfl)
def an154 : An := (.s (.r []) (.s (.s (.r []) (.b none (.s (.s (.r []) (.c (some [4]) .n (.s (.r []) (.c (some [4]) .n (.s (.r []) (.c (some [4]) .n (.s (.r []) (.c (some [4]) .n (.r []))))))))) (.c none (.s (.r []) .n) .n)))) (.s (.r []) .n)))
noncomputable def cd154 (c m : Clo) (f : Nat) : Fn := nof
theorem q154 (c m : Clo) : h154 c m = cmpF Tryz.prog (cd154 c m) noInv eqsT c Tryz.f154 (Tryz.f154.body.getD .skip) an154 := by kernel_rfl
theorem snd154 [Luck] {c m : Clo} (hc : Ok c) (hm : Ok m) : Snd Tryz.prog 154 (h154 c m) := by rw [q154]; exact snd_cmp no_known (known hc snd_nof) Tryz.func154 (by kernel_rfl) (by kernel_rfl)
def an97 : An := (.s (.r []) (.s (.s (.r [[13], [17]]) (.c none (.s (.r []) .n) .n)) (.s (.s (.r []) (.b none (.l [21] (.s (.r []) (.s (.c none .n .n) (.s (.b none (.s (.r []) (.s (.r []) (.s (.r [[31]]) (.s (.r [[37], [41], [45]]) (.s (.r [[52], [54], [55]]) (.c none (.s (.r []) .n) .n))))))) (.r []))))))) (.s (.r []) .n))))
noncomputable def cd97 (c m : Clo) (f : Nat) : Fn := (Bool.rec nof (h154 c m) (Nat.beq f 154))
theorem q97 (c m : Clo) : h97 c m = cmpF Tryz.prog (cd97 c m) noInv eqsT c Tryz.f97 (Tryz.f97.body.getD .skip) an97 := by kernel_rfl
theorem snd97 [Luck] {c m : Clo} (hc : Ok c) (hm : Ok m) : Snd Tryz.prog 97 (h97 c m) := by rw [q97]; exact snd_cmp no_known (known hc (snd_cons (snd154 hc hm) snd_nof)) Tryz.func97 (by kernel_rfl) (by kernel_rfl)
def an169 : An := (.s (.r []) (.s (.s (.r []) (.b none (.s (.r []) (.c none (.s (.r []) .n) (.s (.r []) (.c none (.s (.r [[18]]) .n) .n)))))) (.s (.r []) .n)))
noncomputable def cd169 (c m : Clo) (f : Nat) : Fn := nof
theorem q169 (c m : Clo) : h169 c m = cmpF Tryz.prog (cd169 c m) noInv eqsT c Tryz.f169 (Tryz.f169.body.getD .skip) an169 := by kernel_rfl
theorem snd169 [Luck] {c m : Clo} (hc : Ok c) (hm : Ok m) : Snd Tryz.prog 169 (h169 c m) := by rw [q169]; exact snd_cmp no_known (known hc snd_nof) Tryz.func169 (by kernel_rfl) (by kernel_rfl)
def an126 : An := (.s (.r []) (.s (.r [[8], [13], [18]]) .n))
noncomputable def cd126 (c m : Clo) (f : Nat) : Fn := (Bool.rec (Bool.rec nof (h169 c m) (Nat.beq f 169)) (h97 c m) (Nat.beq f 97))
theorem q126 (c m : Clo) : h126 c m = cmpF Tryz.prog (cd126 c m) noInv eqsT c Tryz.f126 (Tryz.f126.body.getD .skip) an126 := by kernel_rfl
theorem snd126 [Luck] {c m : Clo} (hc : Ok c) (hm : Ok m) : Snd Tryz.prog 126 (h126 c m) := by rw [q126]; exact snd_cmp no_known (known hc (snd_cons (snd97 hc hm) (snd_cons (snd169 hc hm) snd_nof))) Tryz.func126 (by kernel_rfl) (by kernel_rfl)
def an70 : An := (.s (.r []) (.s (.s (.r []) (.c none (.s (.r []) .n) .n)) (.s (.s (.r []) (.b none (.l [10] (.s (.r []) (.s (.c none .n .n) (.s (.b none (.s (.r []) (.s (.d [(0, []), (1, []), (2, []), (3, []), (4, []), (5, []), (6, []), (7, []), (8, []), (9, []), (10, []), (11, []), (12, []), (13, []), (14, []), (15, []), (16, []), (17, [])]) (.c none (.s (.r []) .n) .n)))) (.r []))))))) (.s (.r []) .n))))
noncomputable def cd70 (c m : Clo) (f : Nat) : Fn := (Bool.rec nof (h126 c m) (Nat.beq f 126))
theorem q70 (c m : Clo) : h70 c m = cmpF Tryz.prog (cd70 c m) noInv eqsT c Tryz.f70 (Tryz.f70.body.getD .skip) an70 := by kernel_rfl
theorem snd70 [Luck] {c m : Clo} (hc : Ok c) (hm : Ok m) : Snd Tryz.prog 70 (h70 c m) := by rw [q70]; exact snd_cmp no_known (known hc (snd_cons (snd126 hc hm) snd_nof)) Tryz.func70 (by kernel_rfl) (by kernel_rfl)
def an83 : An := (.s (.r []) (.s (.s (.r []) (.c none (.s (.r []) .n) .n)) (.s (.r []) .n)))
noncomputable def cd83 (c m : Clo) (f : Nat) : Fn := (Bool.rec nof (h126 c m) (Nat.beq f 126))
theorem q83 (c m : Clo) : h83 c m = cmpF Tryz.prog (cd83 c m) noInv eqsT c Tryz.f83 (Tryz.f83.body.getD .skip) an83 := by kernel_rfl
theorem snd83 [Luck] {c m : Clo} (hc : Ok c) (hm : Ok m) : Snd Tryz.prog 83 (h83 c m) := by rw [q83]; exact snd_cmp no_known (known hc (snd_cons (snd126 hc hm) snd_nof)) Tryz.func83 (by kernel_rfl) (by kernel_rfl)
def an41 : An := (.s (.r []) (.s (.s (.r []) (.c none (.s (.r []) .n) .n)) (.s (.r []) (.s (.s (.r []) (.b none (.l [4, 14] (.s (.r []) (.s (.c none .n .n) (.s (.b none (.s (.r []) (.s (.r []) (.s (.s (.r []) (.c none (.s (.r []) .n) .n)) (.r []))))) (.r []))))))) (.s (.r []) .n)))))
noncomputable def cd41 (c m : Clo) (f : Nat) : Fn := (Bool.rec (Bool.rec nof (h83 c m) (Nat.beq f 83)) (h70 c m) (Nat.beq f 70))
theorem q41 (c m : Clo) : h41 c m = cmpF Tryz.prog (cd41 c m) noInv eqsT c Tryz.f41 (Tryz.f41.body.getD .skip) an41 := by kernel_rfl
theorem snd41 [Luck] {c m : Clo} (hc : Ok c) (hm : Ok m) : Snd Tryz.prog 41 (h41 c m) := by rw [q41]; exact snd_cmp no_known (known hc (snd_cons (snd70 hc hm) (snd_cons (snd83 hc hm) snd_nof))) Tryz.func41 (by kernel_rfl) (by kernel_rfl)
def an19 : An := (.s (.r []) (.s (.r []) (.s (.s (.r []) (.c none (.s (.r []) .n) .n)) (.s (.r []) .n))))
noncomputable def cd19 (c m : Clo) (f : Nat) : Fn := (Bool.rec nof (h41 c m) (Nat.beq f 41))
theorem q19 (c m : Clo) : h19 c m = cmpF Tryz.prog (cd19 c m) noInv eqsT c Tryz.f19 (Tryz.f19.body.getD .skip) an19 := by kernel_rfl
theorem snd19 [Luck] {c m : Clo} (hc : Ok c) (hm : Ok m) : Snd Tryz.prog 19 (h19 c m) := by rw [q19]; exact snd_cmp no_known (known hc (snd_cons (snd41 hc hm) snd_nof)) Tryz.func19 (by kernel_rfl) (by kernel_rfl)
def an13 : An := (.s (.r []) (.s (.s (.r []) (.c none (.s (.r []) .n) .n)) (.s (.r []) (.s (.s (.r []) (.c (some [0]) (.r []) .n)) (.s (.r []) .n)))))
noncomputable def cd13 (c m : Clo) (f : Nat) : Fn := nof
theorem q13 (c m : Clo) : h13 c m = cmpF Tryz.prog (cd13 c m) noInv eqsT c Tryz.f13 (Tryz.f13.body.getD .skip) an13 := by kernel_rfl
theorem snd13 [Luck] {c m : Clo} (hc : Ok c) (hm : Ok m) : Snd Tryz.prog 13 (h13 c m) := by rw [q13]; exact snd_cmp no_known (known hc snd_nof) Tryz.func13 (by kernel_rfl) (by kernel_rfl)
def an20 : An := (.s (.r []) (.s (.r []) (.s (.r []) .n)))
noncomputable def cd20 (c m : Clo) (f : Nat) : Fn := (Bool.rec nof (m 13) (Nat.beq f 13))
theorem q20 (c m : Clo) : h20 c m = cmpF Tryz.prog (cd20 c m) noInv eqsT c Tryz.f20 (Tryz.f20.body.getD .skip) an20 := by kernel_rfl
theorem snd20 [Luck] {c m : Clo} (hc : Ok c) (hm : Ok m) : Snd Tryz.prog 20 (h20 c m) := by rw [q20]; exact snd_cmp no_known (known hc (snd_cons (hm 13) snd_nof)) Tryz.func20 (by kernel_rfl) (by kernel_rfl)
def an21 : An := (.s (.r []) (.s (.s (.r []) (.c none (.s (.r []) .n) .n)) (.s (.r []) .n)))
noncomputable def cd21 (c m : Clo) (f : Nat) : Fn := (Bool.rec nof (m 13) (Nat.beq f 13))
theorem q21 (c m : Clo) : h21 c m = cmpF Tryz.prog (cd21 c m) noInv eqsT c Tryz.f21 (Tryz.f21.body.getD .skip) an21 := by kernel_rfl
theorem snd21 [Luck] {c m : Clo} (hc : Ok c) (hm : Ok m) : Snd Tryz.prog 21 (h21 c m) := by rw [q21]; exact snd_cmp no_known (known hc (snd_cons (hm 13) snd_nof)) Tryz.func21 (by kernel_rfl) (by kernel_rfl)
def an117 : An := (.s (.r []) (.s (.r [[13]]) .n))
noncomputable def cd117 (c m : Clo) (f : Nat) : Fn := nof
theorem q117 (c m : Clo) : h117 c m = cmpF Tryz.prog (cd117 c m) noInv eqsT c Tryz.f117 (Tryz.f117.body.getD .skip) an117 := by kernel_rfl
theorem snd117 [Luck] {c m : Clo} (hc : Ok c) (hm : Ok m) : Snd Tryz.prog 117 (h117 c m) := by rw [q117]; exact snd_cmp no_known (known hc snd_nof) Tryz.func117 (by kernel_rfl) (by kernel_rfl)
def an65 : An := (.s (.r []) (.s (.r [[9], [14]]) .n))
noncomputable def cd65 (c m : Clo) (f : Nat) : Fn := (Bool.rec nof (h117 c m) (Nat.beq f 117))
theorem q65 (c m : Clo) : h65 c m = cmpF Tryz.prog (cd65 c m) noInv eqsT c Tryz.f65 (Tryz.f65.body.getD .skip) an65 := by kernel_rfl
theorem snd65 [Luck] {c m : Clo} (hc : Ok c) (hm : Ok m) : Snd Tryz.prog 65 (h65 c m) := by rw [q65]; exact snd_cmp no_known (known hc (snd_cons (snd117 hc hm) snd_nof)) Tryz.func65 (by kernel_rfl) (by kernel_rfl)
def an155 : An := (.s (.r []) (.s (.r [[7]]) .n))
noncomputable def cd155 (c m : Clo) (f : Nat) : Fn := nof
theorem q155 (c m : Clo) : h155 c m = cmpF Tryz.prog (cd155 c m) noInv eqsT c Tryz.f155 (Tryz.f155.body.getD .skip) an155 := by kernel_rfl
theorem snd155 [Luck] {c m : Clo} (hc : Ok c) (hm : Ok m) : Snd Tryz.prog 155 (h155 c m) := by rw [q155]; exact snd_cmp no_known (known hc snd_nof) Tryz.func155 (by kernel_rfl) (by kernel_rfl)
def an110 : An := (.s (.r []) (.s (.s (.r []) (.c none (.s (.r []) .n) .n)) (.s (.s (.r []) (.c none (.s (.r [[17]]) .n) .n)) (.s (.r [[25], [32]]) .n))))
noncomputable def cd110 (c m : Clo) (f : Nat) : Fn := (Bool.rec (Bool.rec nof (h155 c m) (Nat.beq f 155)) (h169 c m) (Nat.beq f 169))
theorem q110 (c m : Clo) : h110 c m = cmpF Tryz.prog (cd110 c m) noInv eqsT c Tryz.f110 (Tryz.f110.body.getD .skip) an110 := by kernel_rfl
theorem snd110 [Luck] {c m : Clo} (hc : Ok c) (hm : Ok m) : Snd Tryz.prog 110 (h110 c m) := by rw [q110]; exact snd_cmp no_known (known hc (snd_cons (snd169 hc hm) (snd_cons (snd155 hc hm) snd_nof))) Tryz.func110 (by kernel_rfl) (by kernel_rfl)
def an103 : An := (.s (.r []) (.s (.s (.r []) (.b none (.l [8] (.s (.r []) (.s (.c none .n .n) (.s (.b none (.s (.r []) (.s (.s (.r []) (.c none (.s (.r []) .n) .n)) (.s (.r []) (.c none (.s (.r []) .n) .n))))) (.r []))))))) (.s (.r []) .n)))
noncomputable def cd103 (c m : Clo) (f : Nat) : Fn := nof
theorem q103 (c m : Clo) : h103 c m = cmpF Tryz.prog (cd103 c m) noInv eqsT c Tryz.f103 (Tryz.f103.body.getD .skip) an103 := by kernel_rfl
theorem snd103 [Luck] {c m : Clo} (hc : Ok c) (hm : Ok m) : Snd Tryz.prog 103 (h103 c m) := by rw [q103]; exact snd_cmp no_known (known hc snd_nof) Tryz.func103 (by kernel_rfl) (by kernel_rfl)
def an53 : An := (.s (.r []) (.s (.r []) .n))
noncomputable def cd53 (c m : Clo) (f : Nat) : Fn := (Bool.rec nof (h103 c m) (Nat.beq f 103))
theorem q53 (c m : Clo) : h53 c m = cmpF Tryz.prog (cd53 c m) noInv eqsT c Tryz.f53 (Tryz.f53.body.getD .skip) an53 := by kernel_rfl
theorem snd53 [Luck] {c m : Clo} (hc : Ok c) (hm : Ok m) : Snd Tryz.prog 53 (h53 c m) := by rw [q53]; exact snd_cmp no_known (known hc (snd_cons (snd103 hc hm) snd_nof)) Tryz.func53 (by kernel_rfl) (by kernel_rfl)
def an225 : An := (.s (.r []) (.s (.r []) .n))
noncomputable def cd225 (c m : Clo) (f : Nat) : Fn := nof
theorem q225 (c m : Clo) : h225 c m = cmpF Tryz.prog (cd225 c m) noInv eqsT c Tryz.f225 (Tryz.f225.body.getD .skip) an225 := by kernel_rfl
theorem snd225 [Luck] {c m : Clo} (hc : Ok c) (hm : Ok m) : Snd Tryz.prog 225 (h225 c m) := by rw [q225]; exact snd_cmp no_known (known hc snd_nof) Tryz.func225 (by kernel_rfl) (by kernel_rfl)
def an224 : An := (.s (.r []) (.s (.r [[10], [13], [14]]) .n))
noncomputable def cd224 (c m : Clo) (f : Nat) : Fn := (Bool.rec (Bool.rec (Bool.rec nof (m 110) (Nat.beq f 110)) (h225 c m) (Nat.beq f 225)) (h169 c m) (Nat.beq f 169))
theorem q224 (c m : Clo) : h224 c m = cmpF Tryz.prog (cd224 c m) noInv eqsT c Tryz.f224 (Tryz.f224.body.getD .skip) an224 := by kernel_rfl
theorem snd224 [Luck] {c m : Clo} (hc : Ok c) (hm : Ok m) : Snd Tryz.prog 224 (h224 c m) := by rw [q224]; exact snd_cmp no_known (known hc (snd_cons (snd169 hc hm) (snd_cons (snd225 hc hm) (snd_cons (hm 110) snd_nof)))) Tryz.func224 (by kernel_rfl) (by kernel_rfl)
def an310 : An := (.s (.r []) (.s (.r [[9], [18]]) .n))
noncomputable def cd310 (c m : Clo) (f : Nat) : Fn := (Bool.rec nof (h155 c m) (Nat.beq f 155))
theorem q310 (c m : Clo) : h310 c m = cmpF Tryz.prog (cd310 c m) noInv eqsT c Tryz.f310 (Tryz.f310.body.getD .skip) an310 := by kernel_rfl
theorem snd310 [Luck] {c m : Clo} (hc : Ok c) (hm : Ok m) : Snd Tryz.prog 310 (h310 c m) := by rw [q310]; exact snd_cmp no_known (known hc (snd_cons (snd155 hc hm) snd_nof)) Tryz.func310 (by kernel_rfl) (by kernel_rfl)
def an301 : An := (.s (.r []) (.s (.s (.r []) (.c none (.s (.r []) .n) .n)) (.s (.r []) (.s (.r []) (.s (.r []) (.s .n (.s (.s (.r []) (.b (some [5]) (.l [5, 7, 17] (.s (.r []) (.s (.c none .n .n) (.s (.b (some [5, 7]) (.s (.r []) (.s (.s (.r [[32]]) (.c none (.s (.r []) .n) .n)) (.s (.r []) (.s (.s (.r []) (.c none .n .n)) (.s (.s (.r []) (.b none (.l [5, 42] (.s (.r []) (.s (.c none .n .n) (.s (.b none (.s (.r []) (.s (.r [[52]]) (.c none (.s (.r []) .n) .n)))) (.r []))))))) (.r []))))))) (.r []))))))) (.s (.r []) .n))))))))
noncomputable def cd301 (c m : Clo) (f : Nat) : Fn := (Bool.rec (Bool.rec (Bool.rec nof (h310 c m) (Nat.beq f 310)) (h224 c m) (Nat.beq f 224)) (h169 c m) (Nat.beq f 169))
theorem q301 (c m : Clo) : h301 c m = cmpF Tryz.prog (cd301 c m) noInv eqsT c Tryz.f301 (Tryz.f301.body.getD .skip) an301 := by kernel_rfl
theorem snd301 [Luck] {c m : Clo} (hc : Ok c) (hm : Ok m) : Snd Tryz.prog 301 (h301 c m) := by rw [q301]; exact snd_cmp no_known (known hc (snd_cons (snd169 hc hm) (snd_cons (snd224 hc hm) (snd_cons (snd310 hc hm) snd_nof)))) Tryz.func301 (by kernel_rfl) (by kernel_rfl)
def an259 : An := (.s (.r []) (.s (.s (.r [[14]]) (.c none (.s (.r []) .n) .n)) (.s (.r []) (.s (.s (.r []) (.b none (.l [5, 18] (.s (.r []) (.s (.c none .n .n) (.s (.b none (.s (.r []) (.s (.s (.r [[32]]) (.c none (.s (.r []) .n) .n)) (.s (.s (.d [(0, []), (1, []), (2, []), (3, []), (4, []), (5, []), (6, []), (7, []), (8, []), (9, []), (10, []), (11, []), (12, []), (13, [])]) (.c none (.s (.r []) .n) .n)) (.r []))))) (.r []))))))) (.s (.r []) .n)))))
noncomputable def cd259 (c m : Clo) (f : Nat) : Fn := (Bool.rec (Bool.rec (Bool.rec (Bool.rec (Bool.rec nof (h301 c m) (Nat.beq f 301)) (m 53) (Nat.beq f 53)) (m 110) (Nat.beq f 110)) (h65 c m) (Nat.beq f 65)) (h169 c m) (Nat.beq f 169))
theorem q259 (c m : Clo) : h259 c m = cmpF Tryz.prog (cd259 c m) noInv eqsT c Tryz.f259 (Tryz.f259.body.getD .skip) an259 := by kernel_rfl
theorem snd259 [Luck] {c m : Clo} (hc : Ok c) (hm : Ok m) : Snd Tryz.prog 259 (h259 c m) := by rw [q259]; exact snd_cmp no_known (known hc (snd_cons (snd169 hc hm) (snd_cons (snd65 hc hm) (snd_cons (hm 110) (snd_cons (hm 53) (snd_cons (snd301 hc hm) snd_nof)))))) Tryz.func259 (by kernel_rfl) (by kernel_rfl)
def an223 : An := (.s (.r []) (.s (.s (.r []) (.b none (.l [9] (.s (.r []) (.s (.c none .n .n) (.s (.b none (.s (.r []) (.s (.r []) (.c none (.s (.r []) .n) .n)))) (.r []))))))) (.s (.r []) .n)))
noncomputable def cd223 (c m : Clo) (f : Nat) : Fn := nof
theorem q223 (c m : Clo) : h223 c m = cmpF Tryz.prog (cd223 c m) noInv eqsT c Tryz.f223 (Tryz.f223.body.getD .skip) an223 := by kernel_rfl
theorem snd223 [Luck] {c m : Clo} (hc : Ok c) (hm : Ok m) : Snd Tryz.prog 223 (h223 c m) := by rw [q223]; exact snd_cmp no_known (known hc snd_nof) Tryz.func223 (by kernel_rfl) (by kernel_rfl)
def an163 : An := (.s (.r []) (.s (.r []) .n))
noncomputable def cd163 (c m : Clo) (f : Nat) : Fn := (Bool.rec nof (h223 c m) (Nat.beq f 223))
theorem q163 (c m : Clo) : h163 c m = cmpF Tryz.prog (cd163 c m) noInv eqsT c Tryz.f163 (Tryz.f163.body.getD .skip) an163 := by kernel_rfl
theorem snd163 [Luck] {c m : Clo} (hc : Ok c) (hm : Ok m) : Snd Tryz.prog 163 (h163 c m) := by rw [q163]; exact snd_cmp no_known (known hc (snd_cons (snd223 hc hm) snd_nof)) Tryz.func163 (by kernel_rfl) (by kernel_rfl)
def an226 : An := (.s (.r []) (.s (.s (.r []) (.b none (.l [9] (.s (.r []) (.s (.c none .n .n) (.s (.b none (.s (.r []) (.s (.r []) (.c none (.s (.r []) .n) .n)))) (.r []))))))) (.s (.r []) .n)))
noncomputable def cd226 (c m : Clo) (f : Nat) : Fn := nof
theorem q226 (c m : Clo) : h226 c m = cmpF Tryz.prog (cd226 c m) noInv eqsT c Tryz.f226 (Tryz.f226.body.getD .skip) an226 := by kernel_rfl
theorem snd226 [Luck] {c m : Clo} (hc : Ok c) (hm : Ok m) : Snd Tryz.prog 226 (h226 c m) := by rw [q226]; exact snd_cmp no_known (known hc snd_nof) Tryz.func226 (by kernel_rfl) (by kernel_rfl)
def an233 : An := (.s (.r []) (.s (.r []) (.s (.s (.r []) (.b (some []) (.s (.b none (.s (.b (some []) (.s (.b (some []) (.s (.b (some []) (.s (.b none (.s (.s (.s (.r []) (.c none .n .n)) (.s (.s (.r []) (.c none .n .n)) (.s (.s (.r []) (.c none .n .n)) (.s (.s (.r []) (.c none .n .n)) (.s (.r []) (.c none .n .n)))))) .n)) (.r []))) (.s (.r []) (.r [])))) (.r []))) (.s (.r []) .n))) (.s (.s (.r []) (.r [])) .n)))) (.s (.r []) .n))))
noncomputable def cd233 (c m : Clo) (f : Nat) : Fn := nof
theorem q233 (c m : Clo) : h233 c m = cmpF Tryz.prog (cd233 c m) noInv eqsT c Tryz.f233 (Tryz.f233.body.getD .skip) an233 := by kernel_rfl
theorem snd233 [Luck] {c m : Clo} (hc : Ok c) (hm : Ok m) : Snd Tryz.prog 233 (h233 c m) := by rw [q233]; exact snd_cmp no_known (known hc snd_nof) Tryz.func233 (by kernel_rfl) (by kernel_rfl)
def an179 : An := (.s (.r []) (.s (.r [[9], [15]]) .n))
noncomputable def cd179 (c m : Clo) (f : Nat) : Fn := (Bool.rec (Bool.rec nof (h233 c m) (Nat.beq f 233)) (h155 c m) (Nat.beq f 155))
theorem q179 (c m : Clo) : h179 c m = cmpF Tryz.prog (cd179 c m) noInv eqsT c Tryz.f179 (Tryz.f179.body.getD .skip) an179 := by kernel_rfl
theorem snd179 [Luck] {c m : Clo} (hc : Ok c) (hm : Ok m) : Snd Tryz.prog 179 (h179 c m) := by rw [q179]; exact snd_cmp no_known (known hc (snd_cons (snd155 hc hm) (snd_cons (snd233 hc hm) snd_nof))) Tryz.func179 (by kernel_rfl) (by kernel_rfl)
def an164 : An := (.s (.r []) (.s (.s (.r [[15]]) (.c none (.s (.r []) .n) .n)) (.s (.s (.r [[21]]) (.c none (.s (.r []) .n) .n)) (.s (.s (.r []) (.c none (.s (.r []) .n) .n)) (.s (.r []) .n)))))
noncomputable def cd164 (c m : Clo) (f : Nat) : Fn := (Bool.rec (Bool.rec (Bool.rec nof (h179 c m) (Nat.beq f 179)) (h225 c m) (Nat.beq f 225)) (h224 c m) (Nat.beq f 224))
theorem q164 (c m : Clo) : h164 c m = cmpF Tryz.prog (cd164 c m) noInv eqsT c Tryz.f164 (Tryz.f164.body.getD .skip) an164 := by kernel_rfl
theorem snd164 [Luck] {c m : Clo} (hc : Ok c) (hm : Ok m) : Snd Tryz.prog 164 (h164 c m) := by rw [q164]; exact snd_cmp no_known (known hc (snd_cons (snd224 hc hm) (snd_cons (snd225 hc hm) (snd_cons (snd179 hc hm) snd_nof)))) Tryz.func164 (by kernel_rfl) (by kernel_rfl)
def an260 : An := (.s (.r []) (.s (.s (.r []) (.c none (.s (.r []) .n) .n)) (.s (.s (.r []) (.b none (.l [13] (.s (.r []) (.s (.c none .n .n) (.s (.b none (.s (.r []) (.s (.r []) (.s (.s (.r [[31]]) (.c none (.s (.r []) .n) .n)) (.s (.s (.r [[46], [52]]) (.c none (.s (.r []) .n) .n)) (.s (.r [[60]]) (.c none (.s (.r []) .n) .n))))))) (.r []))))))) (.s (.r []) .n))))
noncomputable def cd260 (c m : Clo) (f : Nat) : Fn := (Bool.rec (Bool.rec (Bool.rec (Bool.rec (Bool.rec nof (m 164) (Nat.beq f 164)) (m 110) (Nat.beq f 110)) (h225 c m) (Nat.beq f 225)) (h226 c m) (Nat.beq f 226)) (h163 c m) (Nat.beq f 163))
theorem q260 (c m : Clo) : h260 c m = cmpF Tryz.prog (cd260 c m) noInv eqsT c Tryz.f260 (Tryz.f260.body.getD .skip) an260 := by kernel_rfl
theorem snd260 [Luck] {c m : Clo} (hc : Ok c) (hm : Ok m) : Snd Tryz.prog 260 (h260 c m) := by rw [q260]; exact snd_cmp no_known (known hc (snd_cons (snd163 hc hm) (snd_cons (snd226 hc hm) (snd_cons (snd225 hc hm) (snd_cons (hm 110) (snd_cons (hm 164) snd_nof)))))) Tryz.func260 (by kernel_rfl) (by kernel_rfl)
def an299 : An := (.s (.r []) (.s (.r []) (.s (.r []) (.s (.r [[15], [19], [20], [25], [30], [35], [40]]) .n))))
noncomputable def cd299 (c m : Clo) (f : Nat) : Fn := (Bool.rec (Bool.rec nof (m 110) (Nat.beq f 110)) (h65 c m) (Nat.beq f 65))
theorem q299 (c m : Clo) : h299 c m = cmpF Tryz.prog (cd299 c m) noInv eqsT c Tryz.f299 (Tryz.f299.body.getD .skip) an299 := by kernel_rfl
theorem snd299 [Luck] {c m : Clo} (hc : Ok c) (hm : Ok m) : Snd Tryz.prog 299 (h299 c m) := by rw [q299]; exact snd_cmp no_known (known hc (snd_cons (snd65 hc hm) (snd_cons (hm 110) snd_nof))) Tryz.func299 (by kernel_rfl) (by kernel_rfl)
def an298 : An := (.s (.r []) (.s (.s (.r []) (.c none (.s (.r []) .n) .n)) (.s (.s (.r []) (.b none (.l [10] (.s (.r []) (.s (.c none .n .n) (.s (.b none (.s (.r []) (.s (.r [[24]]) (.c none (.s (.r []) .n) .n)))) (.r []))))))) (.s (.r []) .n))))
noncomputable def cd298 (c m : Clo) (f : Nat) : Fn := (Bool.rec (Bool.rec nof (h226 c m) (Nat.beq f 226)) (h299 c m) (Nat.beq f 299))
theorem q298 (c m : Clo) : h298 c m = cmpF Tryz.prog (cd298 c m) noInv eqsT c Tryz.f298 (Tryz.f298.body.getD .skip) an298 := by kernel_rfl
theorem snd298 [Luck] {c m : Clo} (hc : Ok c) (hm : Ok m) : Snd Tryz.prog 298 (h298 c m) := by rw [q298]; exact snd_cmp no_known (known hc (snd_cons (snd299 hc hm) (snd_cons (snd226 hc hm) snd_nof))) Tryz.func298 (by kernel_rfl) (by kernel_rfl)
def an261 : An := (.s (.r []) (.s (.s (.r [[17]]) (.c none (.s (.r []) .n) .n)) (.s (.s (.r []) (.b none (.l [22] (.s (.r []) (.s (.c none .n .n) (.s (.b none (.s (.r []) (.s (.r [[38]]) (.c none (.s (.r []) .n) .n)))) (.r []))))))) (.s (.r []) .n))))
noncomputable def cd261 (c m : Clo) (f : Nat) : Fn := (Bool.rec (Bool.rec (Bool.rec (Bool.rec nof (h225 c m) (Nat.beq f 225)) (h163 c m) (Nat.beq f 163)) (m 110) (Nat.beq f 110)) (h298 c m) (Nat.beq f 298))
theorem q261 (c m : Clo) : h261 c m = cmpF Tryz.prog (cd261 c m) noInv eqsT c Tryz.f261 (Tryz.f261.body.getD .skip) an261 := by kernel_rfl
theorem snd261 [Luck] {c m : Clo} (hc : Ok c) (hm : Ok m) : Snd Tryz.prog 261 (h261 c m) := by rw [q261]; exact snd_cmp no_known (known hc (snd_cons (snd298 hc hm) (snd_cons (hm 110) (snd_cons (snd163 hc hm) (snd_cons (snd225 hc hm) snd_nof))))) Tryz.func261 (by kernel_rfl) (by kernel_rfl)
def an205 : An := (.s (.r []) (.s (.r [[11], [15], [19], [24], [29]]) .n))
noncomputable def cd205 (c m : Clo) (f : Nat) : Fn := (Bool.rec (Bool.rec (Bool.rec (Bool.rec nof (h261 c m) (Nat.beq f 261)) (h260 c m) (Nat.beq f 260)) (h259 c m) (Nat.beq f 259)) (h126 c m) (Nat.beq f 126))
theorem q205 (c m : Clo) : h205 c m = cmpF Tryz.prog (cd205 c m) noInv eqsT c Tryz.f205 (Tryz.f205.body.getD .skip) an205 := by kernel_rfl
theorem snd205 [Luck] {c m : Clo} (hc : Ok c) (hm : Ok m) : Snd Tryz.prog 205 (h205 c m) := by rw [q205]; exact snd_cmp no_known (known hc (snd_cons (snd126 hc hm) (snd_cons (snd259 hc hm) (snd_cons (snd260 hc hm) (snd_cons (snd261 hc hm) snd_nof))))) Tryz.func205 (by kernel_rfl) (by kernel_rfl)
def an206 : An := (.s (.r []) (.s (.b none (.s (.r []) (.c none (.s (.r []) .n) (.s (.r []) (.c none (.s (.r []) .n) .n))))) (.s (.r []) .n)))
noncomputable def cd206 (c m : Clo) (f : Nat) : Fn := nof
theorem q206 (c m : Clo) : h206 c m = cmpF Tryz.prog (cd206 c m) noInv eqsT c Tryz.f206 (Tryz.f206.body.getD .skip) an206 := by kernel_rfl
theorem snd206 [Luck] {c m : Clo} (hc : Ok c) (hm : Ok m) : Snd Tryz.prog 206 (h206 c m) := by rw [q206]; exact snd_cmp no_known (known hc snd_nof) Tryz.func206 (by kernel_rfl) (by kernel_rfl)
def an262 : An := (.s (.r []) (.s (.r [[14], [19]]) .n))
noncomputable def cd262 (c m : Clo) (f : Nat) : Fn := (Bool.rec (Bool.rec (Bool.rec nof (m 110) (Nat.beq f 110)) (h65 c m) (Nat.beq f 65)) (h259 c m) (Nat.beq f 259))
theorem q262 (c m : Clo) : h262 c m = cmpF Tryz.prog (cd262 c m) noInv eqsT c Tryz.f262 (Tryz.f262.body.getD .skip) an262 := by kernel_rfl
theorem snd262 [Luck] {c m : Clo} (hc : Ok c) (hm : Ok m) : Snd Tryz.prog 262 (h262 c m) := by rw [q262]; exact snd_cmp no_known (known hc (snd_cons (snd259 hc hm) (snd_cons (snd65 hc hm) (snd_cons (hm 110) snd_nof)))) Tryz.func262 (by kernel_rfl) (by kernel_rfl)
def an215 : An := (.s (.r []) (.s (.r []) (.s (.r []) (.s (.s (.r []) (.b none (.l [8, 7, 17] (.s (.r []) (.s (.c none .n .n) (.s (.b (some [8, 7]) (.s (.r []) (.s (.s (.r []) (.c none .n .n)) (.s (.s (.r [[32]]) (.c (some [8]) (.r []) .n)) (.r []))))) (.r []))))))) (.s (.s (.r []) (.c none (.s (.r []) .n) .n)) (.s (.s (.r []) (.c (some [8]) (.r []) .n)) (.s (.r []) (.s (.d [(0, []), (1, []), (2, []), (3, []), (4, []), (5, []), (6, []), (7, [])]) (.s (.r []) (.s (.r []) .n))))))))))
noncomputable def cd215 (c m : Clo) (f : Nat) : Fn := (Bool.rec (Bool.rec nof (h225 c m) (Nat.beq f 225)) (m 53) (Nat.beq f 53))
theorem q215 (c m : Clo) : h215 c m = cmpF Tryz.prog (cd215 c m) noInv eqsT c Tryz.f215 (Tryz.f215.body.getD .skip) an215 := by kernel_rfl
theorem snd215 [Luck] {c m : Clo} (hc : Ok c) (hm : Ok m) : Snd Tryz.prog 215 (h215 c m) := by rw [q215]; exact snd_cmp no_known (known hc (snd_cons (hm 53) (snd_cons (snd225 hc hm) snd_nof))) Tryz.func215 (by kernel_rfl) (by kernel_rfl)
def an207 : An := (.s (.r []) (.s (.d [(0, []), (1, []), (2, []), (3, []), (4, []), (5, []), (6, []), (7, []), (8, []), (9, []), (10, [6]), (11, []), (12, []), (13, [])]) .n))
noncomputable def cd207 (c m : Clo) (f : Nat) : Fn := (Bool.rec (Bool.rec (Bool.rec nof (h259 c m) (Nat.beq f 259)) (h215 c m) (Nat.beq f 215)) (h262 c m) (Nat.beq f 262))
theorem q207 (c m : Clo) : h207 c m = cmpF Tryz.prog (cd207 c m) noInv eqsT c Tryz.f207 (Tryz.f207.body.getD .skip) an207 := by kernel_rfl
theorem snd207 [Luck] {c m : Clo} (hc : Ok c) (hm : Ok m) : Snd Tryz.prog 207 (h207 c m) := by rw [q207]; exact snd_cmp no_known (known hc (snd_cons (snd262 hc hm) (snd_cons (snd215 hc hm) (snd_cons (snd259 hc hm) snd_nof)))) Tryz.func207 (by kernel_rfl) (by kernel_rfl)
def an149 : An := (.s (.r []) (.s (.s (.r []) (.c none (.s (.r []) .n) .n)) (.s (.r []) (.s (.r [[25]]) .n))))
noncomputable def cd149 (c m : Clo) (f : Nat) : Fn := (Bool.rec (Bool.rec (Bool.rec nof (m 207) (Nat.beq f 207)) (h206 c m) (Nat.beq f 206)) (h205 c m) (Nat.beq f 205))
theorem q149 (c m : Clo) : h149 c m = cmpF Tryz.prog (cd149 c m) noInv eqsT c Tryz.f149 (Tryz.f149.body.getD .skip) an149 := by kernel_rfl
theorem snd149 [Luck] {c m : Clo} (hc : Ok c) (hm : Ok m) : Snd Tryz.prog 149 (h149 c m) := by rw [q149]; exact snd_cmp no_known (known hc (snd_cons (snd205 hc hm) (snd_cons (snd206 hc hm) (snd_cons (hm 207) snd_nof)))) Tryz.func149 (by kernel_rfl) (by kernel_rfl)
def an93 : An := (.s (.r []) (.s (.r []) .n))
noncomputable def cd93 (c m : Clo) (f : Nat) : Fn := (Bool.rec nof (h149 c m) (Nat.beq f 149))
theorem q93 (c m : Clo) : h93 c m = cmpF Tryz.prog (cd93 c m) noInv eqsT c Tryz.f93 (Tryz.f93.body.getD .skip) an93 := by kernel_rfl
theorem snd93 [Luck] {c m : Clo} (hc : Ok c) (hm : Ok m) : Snd Tryz.prog 93 (h93 c m) := by rw [q93]; exact snd_cmp no_known (known hc (snd_cons (snd149 hc hm) snd_nof)) Tryz.func93 (by kernel_rfl) (by kernel_rfl)
def an177 : An := (.s (.r []) (.s (.r []) (.s (.s (.r []) (.b none (.l [3, 8] (.s (.r []) (.s (.c none .n .n) (.s (.b none (.s (.r []) (.r []))) (.r []))))))) (.s (.r []) .n))))
noncomputable def cd177 (c m : Clo) (f : Nat) : Fn := nof
theorem q177 (c m : Clo) : h177 c m = cmpF Tryz.prog (cd177 c m) noInv eqsT c Tryz.f177 (Tryz.f177.body.getD .skip) an177 := by kernel_rfl
theorem snd177 [Luck] {c m : Clo} (hc : Ok c) (hm : Ok m) : Snd Tryz.prog 177 (h177 c m) := by rw [q177]; exact snd_cmp no_known (known hc snd_nof) Tryz.func177 (by kernel_rfl) (by kernel_rfl)
def an308 : An := (.s (.r []) (.s (.s (.r []) (.c (some []) (.r []) .n)) (.s (.s (.r []) (.s (.r []) (.c (some [0]) (.r []) .n))) (.s (.r []) .n))))
noncomputable def cd308 (c m : Clo) (f : Nat) : Fn := nof
theorem q308 (c m : Clo) : h308 c m = cmpF Tryz.prog (cd308 c m) noInv eqsT c Tryz.f308 (Tryz.f308.body.getD .skip) an308 := by kernel_rfl
theorem snd308 [Luck] {c m : Clo} (hc : Ok c) (hm : Ok m) : Snd Tryz.prog 308 (h308 c m) := by rw [q308]; exact snd_cmp no_known (known hc snd_nof) Tryz.func308 (by kernel_rfl) (by kernel_rfl)
def an283 : An := (.s (.r []) (.s (.r []) (.s (.s (.r []) (.b none (.l [3, 11] (.s (.r []) (.s (.c none .n .n) (.s (.b (some [3]) (.s (.r []) (.s (.r []) (.s (.r []) (.c (some []) (.r []) .n))))) (.r []))))))) (.s (.r []) (.s (.s (.r []) (.b none (.l [6, 27] (.s (.r []) (.s (.c none .n .n) (.s (.b none (.s (.r []) (.r []))) (.r []))))))) (.s (.r []) .n))))))
noncomputable def cd283 (c m : Clo) (f : Nat) : Fn := (Bool.rec nof (h308 c m) (Nat.beq f 308))
theorem q283 (c m : Clo) : h283 c m = cmpF Tryz.prog (cd283 c m) noInv eqsT c Tryz.f283 (Tryz.f283.body.getD .skip) an283 := by kernel_rfl
theorem snd283 [Luck] {c m : Clo} (hc : Ok c) (hm : Ok m) : Snd Tryz.prog 283 (h283 c m) := by rw [q283]; exact snd_cmp no_known (known hc (snd_cons (snd308 hc hm) snd_nof)) Tryz.func283 (by kernel_rfl) (by kernel_rfl)
def an232 : An := (.s (.r []) (.s (.r []) .n))
noncomputable def cd232 (c m : Clo) (f : Nat) : Fn := (Bool.rec nof (h283 c m) (Nat.beq f 283))
theorem q232 (c m : Clo) : h232 c m = cmpF Tryz.prog (cd232 c m) noInv eqsT c Tryz.f232 (Tryz.f232.body.getD .skip) an232 := by kernel_rfl
theorem snd232 [Luck] {c m : Clo} (hc : Ok c) (hm : Ok m) : Snd Tryz.prog 232 (h232 c m) := by rw [q232]; exact snd_cmp no_known (known hc (snd_cons (snd283 hc hm) snd_nof)) Tryz.func232 (by kernel_rfl) (by kernel_rfl)
def an178 : An := (.s (.r []) (.s (.r []) (.s (.s (.r []) (.b none (.l [3, 9] (.s (.r []) (.s (.c none .n .n) (.s (.b none (.s (.r []) (.r []))) (.r []))))))) (.s (.r []) .n))))
noncomputable def cd178 (c m : Clo) (f : Nat) : Fn := (Bool.rec nof (h232 c m) (Nat.beq f 232))
theorem q178 (c m : Clo) : h178 c m = cmpF Tryz.prog (cd178 c m) noInv eqsT c Tryz.f178 (Tryz.f178.body.getD .skip) an178 := by kernel_rfl
theorem snd178 [Luck] {c m : Clo} (hc : Ok c) (hm : Ok m) : Snd Tryz.prog 178 (h178 c m) := by rw [q178]; exact snd_cmp no_known (known hc (snd_cons (snd232 hc hm) snd_nof)) Tryz.func178 (by kernel_rfl) (by kernel_rfl)
def an244 : An := (.s (.r []) (.s (.s (.r []) (.c (some [0, 2]) (.s (.r []) (.r [])) .n)) (.s (.s (.r []) (.c (some [0, 2]) (.s (.r []) (.r [])) .n)) (.s (.r []) .n))))
noncomputable def cd244 (c m : Clo) (f : Nat) : Fn := nof
theorem q244 (c m : Clo) : h244 c m = cmpF Tryz.prog (cd244 c m) noInv eqsT c Tryz.f244 (Tryz.f244.body.getD .skip) an244 := by kernel_rfl
theorem snd244 [Luck] {c m : Clo} (hc : Ok c) (hm : Ok m) : Snd Tryz.prog 244 (h244 c m) := by rw [q244]; exact snd_cmp no_known (known hc snd_nof) Tryz.func244 (by kernel_rfl) (by kernel_rfl)
def an31 : An := (.s (.r []) (.s (.s (.r []) (.c (some [0, 2]) (.s (.r []) (.r [])) .n)) (.s (.s (.r []) (.c (some [0, 2]) (.s (.r []) (.r [])) .n)) (.s (.s (.r []) (.c (some [0, 2]) (.s (.r []) (.r [])) .n)) (.s (.r []) .n)))))
noncomputable def cd31 (c m : Clo) (f : Nat) : Fn := nof
theorem q31 (c m : Clo) : h31 c m = cmpF Tryz.prog (cd31 c m) noInv eqsT c Tryz.f31 (Tryz.f31.body.getD .skip) an31 := by kernel_rfl
theorem snd31 [Luck] {c m : Clo} (hc : Ok c) (hm : Ok m) : Snd Tryz.prog 31 (h31 c m) := by rw [q31]; exact snd_cmp no_known (known hc snd_nof) Tryz.func31 (by kernel_rfl) (by kernel_rfl)
def an184 : An := (.s (.r []) (.s (.c none (.s (.r []) .n) .n) (.s (.r []) .n)))
noncomputable def cd184 (c m : Clo) (f : Nat) : Fn := (Bool.rec (Bool.rec nof (h31 c m) (Nat.beq f 31)) (h244 c m) (Nat.beq f 244))
theorem q184 (c m : Clo) : h184 c m = cmpF Tryz.prog (cd184 c m) noInv eqsT c Tryz.f184 (Tryz.f184.body.getD .skip) an184 := by kernel_rfl
theorem snd184 [Luck] {c m : Clo} (hc : Ok c) (hm : Ok m) : Snd Tryz.prog 184 (h184 c m) := by rw [q184]; exact snd_cmp no_known (known hc (snd_cons (snd244 hc hm) (snd_cons (snd31 hc hm) snd_nof))) Tryz.func184 (by kernel_rfl) (by kernel_rfl)
def an264 : An := (.s (.r []) (.b none (.l [8] (.s (.s (.r []) (.c none .n .n)) (.s (.b none (.s (.r []) (.b none (.l [9] (.s (.s (.d [(0, []), (1, []), (2, []), (3, []), (4, []), (5, []), (6, []), (7, []), (8, []), (9, []), (10, []), (11, []), (12, []), (13, []), (14, []), (15, []), (16, [])]) (.c none .n .n)) (.s (.b none (.d [(0, []), (1, []), (2, []), (3, []), (4, []), (5, []), (6, []), (7, []), (8, []), (9, []), (10, []), (11, []), (12, []), (13, []), (14, []), (15, []), (16, []), (17, [])])) (.r []))))))) (.r []))))))
noncomputable def cd264 (c m : Clo) (f : Nat) : Fn := nof
theorem q264 (c m : Clo) : h264 c m = cmpF Tryz.prog (cd264 c m) noInv eqsT c Tryz.f264 (Tryz.f264.body.getD .skip) an264 := by kernel_rfl
theorem snd264 [Luck] {c m : Clo} (hc : Ok c) (hm : Ok m) : Snd Tryz.prog 264 (h264 c m) := by rw [q264]; exact snd_cmp no_known (known hc snd_nof) Tryz.func264 (by kernel_rfl) (by kernel_rfl)
def an302 : An := (.s (.r []) (.b none (.l [10] (.b none (.s (.r []) (.s (.s (.r []) (.c none .n .n)) (.s (.s (.d [(0, []), (1, []), (2, []), (3, []), (4, []), (5, []), (6, []), (7, []), (8, []), (9, []), (10, []), (11, []), (12, []), (13, []), (14, []), (15, []), (16, []), (17, []), (18, []), (19, []), (20, []), (21, [])]) (.c (some [11]) (.r []) .n)) (.s (.s (.d [(0, []), (1, []), (2, []), (3, []), (4, []), (5, []), (6, []), (7, []), (8, []), (9, []), (10, []), (11, []), (12, []), (13, []), (14, []), (15, [])]) (.c none .n .n)) (.s (.d [(0, []), (1, []), (2, []), (3, []), (4, []), (5, []), (6, []), (7, []), (8, []), (9, []), (10, []), (11, []), (12, []), (13, []), (14, []), (15, []), (16, []), (17, []), (18, []), (19, []), (20, []), (21, []), (22, []), (23, [])]) (.r []))))))))))
noncomputable def cd302 (c m : Clo) (f : Nat) : Fn := nof
theorem q302 (c m : Clo) : h302 c m = cmpF Tryz.prog (cd302 c m) noInv eqsT c Tryz.f302 (Tryz.f302.body.getD .skip) an302 := by kernel_rfl
theorem snd302 [Luck] {c m : Clo} (hc : Ok c) (hm : Ok m) : Snd Tryz.prog 302 (h302 c m) := by rw [q302]; exact snd_cmp no_known (known hc snd_nof) Tryz.func302 (by kernel_rfl) (by kernel_rfl)
def an265 : An := (.s (.r []) (.s (.r []) (.s (.r []) (.s (.s (.r []) (.b none (.l [11] (.s (.s (.r []) (.c none .n .n)) (.s (.b none (.r [])) (.r [])))))) (.s (.r []) (.b none (.l [12] (.s (.s (.r []) (.c none .n .n)) (.s (.b none (.s (.d [(0, []), (1, []), (2, []), (3, []), (4, []), (5, []), (6, []), (7, []), (8, []), (9, []), (10, []), (11, []), (12, []), (13, []), (14, []), (15, []), (16, []), (17, []), (18, []), (19, [])]) (.r []))) (.r []))))))))))
noncomputable def cd265 (c m : Clo) (f : Nat) : Fn := (Bool.rec nof (h302 c m) (Nat.beq f 302))
theorem q265 (c m : Clo) : h265 c m = cmpF Tryz.prog (cd265 c m) noInv eqsT c Tryz.f265 (Tryz.f265.body.getD .skip) an265 := by kernel_rfl
theorem snd265 [Luck] {c m : Clo} (hc : Ok c) (hm : Ok m) : Snd Tryz.prog 265 (h265 c m) := by rw [q265]; exact snd_cmp no_known (known hc (snd_cons (snd302 hc hm) snd_nof)) Tryz.func265 (by kernel_rfl) (by kernel_rfl)
def an286 : An := (.s (.r []) (.s (.r []) .n))
noncomputable def cd286 (c m : Clo) (f : Nat) : Fn := (Bool.rec nof (h184 c m) (Nat.beq f 184))
theorem q286 (c m : Clo) : h286 c m = cmpF Tryz.prog (cd286 c m) noInv eqsT c Tryz.f286 (Tryz.f286.body.getD .skip) an286 := by kernel_rfl
theorem snd286 [Luck] {c m : Clo} (hc : Ok c) (hm : Ok m) : Snd Tryz.prog 286 (h286 c m) := by rw [q286]; exact snd_cmp no_known (known hc (snd_cons (snd184 hc hm) snd_nof)) Tryz.func286 (by kernel_rfl) (by kernel_rfl)
def an287 : An := (.s (.r []) (.s (.d [(0, []), (1, []), (2, []), (3, []), (4, []), (5, []), (6, []), (7, []), (8, []), (9, [])]) (.s (.d [(0, []), (1, []), (2, []), (3, []), (4, []), (5, []), (6, []), (7, []), (8, []), (9, [])]) (.s (.d [(0, []), (1, []), (2, []), (3, []), (4, []), (5, []), (6, []), (7, []), (8, []), (9, [])]) (.s (.r []) .n)))))
noncomputable def cd287 (c m : Clo) (f : Nat) : Fn := nof
theorem q287 (c m : Clo) : h287 c m = cmpF Tryz.prog (cd287 c m) noInv eqsT c Tryz.f287 (Tryz.f287.body.getD .skip) an287 := by kernel_rfl
theorem snd287 [Luck] {c m : Clo} (hc : Ok c) (hm : Ok m) : Snd Tryz.prog 287 (h287 c m) := by rw [q287]; exact snd_cmp no_known (known hc snd_nof) Tryz.func287 (by kernel_rfl) (by kernel_rfl)
def an266 : An := (.s (.r []) (.s (.r []) (.c (some []) (.s (.r []) (.s (.r []) (.s (.r []) (.b none (.l [11] (.s (.s (.r []) (.c none .n .n)) (.s (.b none (.s (.r []) (.s (.s (.r []) (.c (some [12]) (.r []) .n)) (.d [(0, []), (1, []), (2, []), (3, []), (4, []), (5, []), (6, []), (7, []), (8, []), (9, []), (10, []), (11, []), (12, []), (13, []), (14, []), (15, []), (16, []), (17, []), (18, []), (19, [])])))) (.r [])))))))) .n)))
noncomputable def cd266 (c m : Clo) (f : Nat) : Fn := (Bool.rec (Bool.rec nof (h287 c m) (Nat.beq f 287)) (h286 c m) (Nat.beq f 286))
theorem q266 (c m : Clo) : h266 c m = cmpF Tryz.prog (cd266 c m) noInv eqsT c Tryz.f266 (Tryz.f266.body.getD .skip) an266 := by kernel_rfl
theorem snd266 [Luck] {c m : Clo} (hc : Ok c) (hm : Ok m) : Snd Tryz.prog 266 (h266 c m) := by rw [q266]; exact snd_cmp no_known (known hc (snd_cons (snd286 hc hm) (snd_cons (snd287 hc hm) snd_nof))) Tryz.func266 (by kernel_rfl) (by kernel_rfl)
def an311 : An := (.s (.r []) (.s (.s (.d [(0, []), (1, []), (2, []), (3, []), (4, []), (5, []), (6, []), (7, []), (8, []), (9, []), (10, [])]) (.c none (.s (.r []) (.s (.r []) .n)) .n)) (.s (.r []) .n)))
noncomputable def cd311 (c m : Clo) (f : Nat) : Fn := nof
theorem q311 (c m : Clo) : h311 c m = cmpF Tryz.prog (cd311 c m) noInv eqsT c Tryz.f311 (Tryz.f311.body.getD .skip) an311 := by kernel_rfl
theorem snd311 [Luck] {c m : Clo} (hc : Ok c) (hm : Ok m) : Snd Tryz.prog 311 (h311 c m) := by rw [q311]; exact snd_cmp no_known (known hc snd_nof) Tryz.func311 (by kernel_rfl) (by kernel_rfl)
def an304 : An := (.s (.r []) (.s (.r []) (.s (.r []) (.s (.r []) (.s (.r []) .n)))))
noncomputable def cd304 (c m : Clo) (f : Nat) : Fn := (Bool.rec nof (h311 c m) (Nat.beq f 311))
theorem q304 (c m : Clo) : h304 c m = cmpF Tryz.prog (cd304 c m) noInv eqsT c Tryz.f304 (Tryz.f304.body.getD .skip) an304 := by kernel_rfl
theorem snd304 [Luck] {c m : Clo} (hc : Ok c) (hm : Ok m) : Snd Tryz.prog 304 (h304 c m) := by rw [q304]; exact snd_cmp no_known (known hc (snd_cons (snd311 hc hm) snd_nof)) Tryz.func304 (by kernel_rfl) (by kernel_rfl)
def an303 : An := (.s (.r []) (.s (.r []) .n))
noncomputable def cd303 (c m : Clo) (f : Nat) : Fn := (Bool.rec nof (h304 c m) (Nat.beq f 304))
theorem q303 (c m : Clo) : h303 c m = cmpF Tryz.prog (cd303 c m) noInv eqsT c Tryz.f303 (Tryz.f303.body.getD .skip) an303 := by kernel_rfl
theorem snd303 [Luck] {c m : Clo} (hc : Ok c) (hm : Ok m) : Snd Tryz.prog 303 (h303 c m) := by rw [q303]; exact snd_cmp no_known (known hc (snd_cons (snd304 hc hm) snd_nof)) Tryz.func303 (by kernel_rfl) (by kernel_rfl)
def an267 : An := (.s (.r []) (.s (.r []) (.s (.r []) (.s (.r []) (.s (.r []) (.s (.r []) (.s (.s (.r []) (.c (some [13]) (.s (.s (.r []) (.c (some [12, 13, 14]) (.s (.r []) (.s (.r []) (.r []))) .n)) (.r [])) .n)) (.s (.r []) (.b none (.s (.r []) (.c none (.s (.r []) .n) (.s (.r []) (.c none (.s (.r []) .n) (.s (.r []) .n))))))))))))))
noncomputable def cd267 (c m : Clo) (f : Nat) : Fn := (Bool.rec (Bool.rec nof (h304 c m) (Nat.beq f 304)) (h303 c m) (Nat.beq f 303))
theorem q267 (c m : Clo) : h267 c m = cmpF Tryz.prog (cd267 c m) noInv eqsT c Tryz.f267 (Tryz.f267.body.getD .skip) an267 := by kernel_rfl
theorem snd267 [Luck] {c m : Clo} (hc : Ok c) (hm : Ok m) : Snd Tryz.prog 267 (h267 c m) := by rw [q267]; exact snd_cmp no_known (known hc (snd_cons (snd303 hc hm) (snd_cons (snd304 hc hm) snd_nof))) Tryz.func267 (by kernel_rfl) (by kernel_rfl)
def an268 : An := (.s (.r []) (.s (.r []) (.b none (.l [8, 9] (.s (.s (.r []) (.c none .n .n)) (.b none (.s (.d [(0, []), (1, []), (2, []), (3, []), (4, []), (5, []), (6, []), (7, []), (8, []), (9, []), (10, []), (11, []), (12, []), (13, []), (14, []), (15, [])]) (.s (.r []) (.r [])))))))))
noncomputable def cd268 (c m : Clo) (f : Nat) : Fn := nof
theorem q268 (c m : Clo) : h268 c m = cmpF Tryz.prog (cd268 c m) noInv eqsT c Tryz.f268 (Tryz.f268.body.getD .skip) an268 := by kernel_rfl
theorem snd268 [Luck] {c m : Clo} (hc : Ok c) (hm : Ok m) : Snd Tryz.prog 268 (h268 c m) := by rw [q268]; exact snd_cmp no_known (known hc snd_nof) Tryz.func268 (by kernel_rfl) (by kernel_rfl)
def an269 : An := (.s (.r []) (.s (.r []) (.s (.s (.r []) (.b none (.l [9, 10] (.s (.s (.r []) (.c none .n .n)) (.s (.b (some [9]) (.s (.b none (.l [9] (.s (.s (.d [(0, []), (1, []), (2, []), (3, []), (4, []), (5, []), (6, []), (7, []), (8, []), (9, []), (10, []), (11, []), (12, []), (13, []), (14, []), (15, []), (16, []), (17, [])]) (.c none .n .n)) (.b none (.r []))))) (.s (.s (.r []) (.c none (.s (.r []) .n) .n)) (.s (.s (.r []) (.c none (.s (.r []) .n) .n)) (.s (.d [(0, []), (1, []), (2, []), (3, []), (4, []), (5, []), (6, []), (7, []), (8, []), (9, []), (10, []), (11, []), (12, []), (13, []), (14, []), (15, []), (16, []), (17, [])]) (.s (.s (.r []) (.c (some []) (.s (.r []) (.b (some []) (.l [11] (.s (.s (.r []) (.c none .n .n)) (.s (.b none (.s (.s (.d [(0, []), (1, []), (2, []), (3, []), (4, []), (5, []), (6, []), (7, []), (8, []), (9, []), (10, []), (11, []), (12, [])]) (.c none .n .n)) (.d [(0, []), (1, []), (2, []), (3, []), (4, []), (5, []), (6, []), (7, []), (8, []), (9, []), (10, []), (11, []), (12, []), (13, []), (14, []), (15, []), (16, []), (17, [])]))) (.r [])))))) .n)) (.s (.r []) (.c (some []) (.s (.r []) (.b (some []) (.l [12] (.s (.s (.r []) (.c none .n .n)) (.s (.b none (.s (.s (.d [(0, []), (1, []), (2, []), (3, []), (4, []), (5, []), (6, []), (7, []), (8, []), (9, []), (10, []), (11, []), (12, [])]) (.c none .n .n)) (.d [(0, []), (1, []), (2, []), (3, []), (4, []), (5, []), (6, []), (7, []), (8, []), (9, []), (10, []), (11, []), (12, []), (13, []), (14, []), (15, []), (16, []), (17, [])]))) (.r [])))))) .n)))))))) (.r [])))))) (.s (.r []) .n))))
noncomputable def cd269 (c m : Clo) (f : Nat) : Fn := nof
theorem q269 (c m : Clo) : h269 c m = cmpF Tryz.prog (cd269 c m) noInv eqsT c Tryz.f269 (Tryz.f269.body.getD .skip) an269 := by kernel_rfl
theorem snd269 [Luck] {c m : Clo} (hc : Ok c) (hm : Ok m) : Snd Tryz.prog 269 (h269 c m) := by rw [q269]; exact snd_cmp no_known (known hc snd_nof) Tryz.func269 (by kernel_rfl) (by kernel_rfl)
def an270 : An := (.s (.r []) (.s (.d [(0, []), (1, []), (2, []), (3, []), (4, []), (5, []), (6, []), (7, []), (8, []), (9, []), (10, []), (11, []), (12, []), (13, []), (14, []), (15, [])]) (.s (.r []) (.s (.b none (.l [11, 12] (.b none (.s (.b none (.l [11] (.s (.s (.d [(0, []), (1, []), (2, []), (3, []), (4, []), (5, []), (6, []), (7, []), (8, []), (9, []), (10, []), (11, []), (12, []), (13, []), (14, []), (15, []), (16, [])]) (.c none .n .n)) (.b none (.r []))))) (.s (.b none (.l [12] (.s (.s (.d [(0, []), (1, []), (2, []), (3, []), (4, []), (5, []), (6, []), (7, []), (8, []), (9, []), (10, []), (11, []), (12, []), (13, []), (14, []), (15, [])]) (.c none .n .n)) (.b none (.r []))))) (.s (.s (.r []) (.c none .n .n)) (.s (.d [(0, []), (1, []), (2, []), (3, []), (4, []), (5, []), (6, []), (7, []), (8, []), (9, []), (10, []), (11, []), (12, []), (13, []), (14, []), (15, [])]) (.s (.r []) (.r []))))))))) (.s (.r []) .n)))))
noncomputable def cd270 (c m : Clo) (f : Nat) : Fn := nof
theorem q270 (c m : Clo) : h270 c m = cmpF Tryz.prog (cd270 c m) noInv eqsT c Tryz.f270 (Tryz.f270.body.getD .skip) an270 := by kernel_rfl
theorem snd270 [Luck] {c m : Clo} (hc : Ok c) (hm : Ok m) : Snd Tryz.prog 270 (h270 c m) := by rw [q270]; exact snd_cmp no_known (known hc snd_nof) Tryz.func270 (by kernel_rfl) (by kernel_rfl)
def an271 : An := (.s (.r []) (.s (.d [(0, []), (1, []), (2, []), (3, []), (4, []), (5, []), (6, []), (7, []), (8, []), (9, []), (10, []), (11, []), (12, []), (13, []), (14, []), (15, [])]) (.s (.r []) (.s (.b none (.l [12] (.s (.s (.d [(0, []), (1, []), (2, []), (3, []), (4, []), (5, []), (6, []), (7, []), (8, []), (9, []), (10, []), (11, []), (12, []), (13, []), (14, []), (15, [])]) (.c none .n .n)) (.b none (.r []))))) (.s (.b none (.l [13] (.s (.s (.d [(0, []), (1, []), (2, []), (3, []), (4, []), (5, []), (6, []), (7, []), (8, []), (9, []), (10, []), (11, []), (12, []), (13, []), (14, []), (15, []), (16, [])]) (.c none .n .n)) (.b none (.r []))))) (.s (.s (.r []) (.c none (.s (.d [(0, []), (1, []), (2, []), (3, []), (4, []), (5, []), (6, []), (7, []), (8, []), (9, []), (10, []), (11, []), (12, []), (13, []), (14, []), (15, [])]) (.s (.r []) .n)) .n)) (.s (.d [(0, []), (1, []), (2, []), (3, []), (4, []), (5, []), (6, []), (7, []), (8, []), (9, []), (10, []), (11, []), (12, []), (13, []), (14, []), (15, [])]) (.s (.r []) (.s (.r []) (.s (.b none (.l [12, 13] (.b none (.s (.b none (.l [12] (.s (.s (.d [(0, []), (1, []), (2, []), (3, []), (4, []), (5, []), (6, []), (7, []), (8, []), (9, []), (10, []), (11, []), (12, []), (13, []), (14, []), (15, [])]) (.c none .n .n)) (.b none (.r []))))) (.s (.b none (.l [13] (.s (.s (.d [(0, []), (1, []), (2, []), (3, []), (4, []), (5, []), (6, []), (7, []), (8, []), (9, []), (10, []), (11, []), (12, []), (13, []), (14, []), (15, []), (16, [])]) (.c none .n .n)) (.b none (.r []))))) (.s (.s (.r []) (.c none .n .n)) (.s (.d [(0, []), (1, []), (2, []), (3, []), (4, []), (5, []), (6, []), (7, []), (8, []), (9, []), (10, []), (11, []), (12, []), (13, []), (14, []), (15, [])]) (.s (.r []) (.r []))))))))) (.s (.d [(0, []), (1, []), (2, []), (3, []), (4, []), (5, []), (6, []), (7, []), (8, []), (9, []), (10, []), (11, []), (12, []), (13, []), (14, []), (15, [])]) (.s (.r []) .n))))))))))))
noncomputable def cd271 (c m : Clo) (f : Nat) : Fn := nof
theorem q271 (c m : Clo) : h271 c m = cmpF Tryz.prog (cd271 c m) noInv eqsT c Tryz.f271 (Tryz.f271.body.getD .skip) an271 := by kernel_rfl
theorem snd271 [Luck] {c m : Clo} (hc : Ok c) (hm : Ok m) : Snd Tryz.prog 271 (h271 c m) := by rw [q271]; exact snd_cmp no_known (known hc snd_nof) Tryz.func271 (by kernel_rfl) (by kernel_rfl)
def an219 : An := (.s (.r []) (.s (.r []) (.b none (.l [3, 1, 11, 10, 2] (.b (some [3, 1, 11, 10, 2]) (.s (.r []) (.s (.s (.r []) (.c none (.s (.r []) .n) .n)) (.s (.s (.r []) (.c none (.s (.r []) .n) .n)) (.s (.s (.r []) (.c (some [3]) (.s (.r []) (.r [])) .n)) (.s (.r []) (.s (.s (.r []) (.c (some [13, 14]) (.s (.r []) (.s (.r []) (.r []))) .n)) (.s (.s (.r [[70], [74]]) (.c (some []) (.s (.r []) (.c none .n .n)) .n)) (.s (.s (.d [(0, []), (1, []), (2, []), (3, []), (4, []), (5, []), (6, []), (7, []), (8, []), (9, []), (10, []), (11, []), (12, []), (13, []), (14, []), (15, []), (16, [])]) (.c none (.s (.r []) (.s (.r []) .n)) .n)) (.s (.r []) (.s (.r []) (.s (.r []) (.s (.r []) (.s (.r []) (.c (some [10, 1, 2]) (.s (.r []) (.s (.r []) (.r []))) (.s (.r []) (.s (.r []) (.r []))))))))))))))))))))))
noncomputable def cd219 (c m : Clo) (h219 : Clo → Clo → Fn) (f : Nat) : Fn := (Bool.rec (Bool.rec (Bool.rec (Bool.rec (Bool.rec (Bool.rec (Bool.rec (Bool.rec (Bool.rec nof (h219 c m) (Nat.beq f 219)) (h271 c m) (Nat.beq f 271)) (h270 c m) (Nat.beq f 270)) (h269 c m) (Nat.beq f 269)) (h268 c m) (Nat.beq f 268)) (h267 c m) (Nat.beq f 267)) (h266 c m) (Nat.beq f 266)) (h265 c m) (Nat.beq f 265)) (h264 c m) (Nat.beq f 264))
theorem q219 (c m : Clo) (h : Clo → Clo → Fn) : h219' c m h = cmpF Tryz.prog (cd219 c m h) noInv eqsT c Tryz.f219 (Tryz.f219.body.getD .skip) an219 := by kernel_rfl
theorem snd219 [Luck] {c m : Clo} (hc : Ok c) (hm : Ok m) : Snd Tryz.prog 219 (h219 c m) := snd_lp fun F hs => by rw [q219]; exact snd_cmp no_known (known hc (snd_cons (snd264 hc hm) (snd_cons (snd265 hc hm) (snd_cons (snd266 hc hm) (snd_cons (snd267 hc hm) (snd_cons (snd268 hc hm) (snd_cons (snd269 hc hm) (snd_cons (snd270 hc hm) (snd_cons (snd271 hc hm) (snd_cons hs snd_nof)))))))))) Tryz.func219 (by kernel_rfl) (by kernel_rfl)
def an157 : An := (.s (.r []) (.r []))
noncomputable def cd157 (c m : Clo) (f : Nat) : Fn := (Bool.rec (Bool.rec nof (h219 c m) (Nat.beq f 219)) (h184 c m) (Nat.beq f 184))
theorem q157 (c m : Clo) : h157 c m = cmpF Tryz.prog (cd157 c m) noInv eqsT c Tryz.f157 (Tryz.f157.body.getD .skip) an157 := by kernel_rfl
theorem snd157 [Luck] {c m : Clo} (hc : Ok c) (hm : Ok m) : Snd Tryz.prog 157 (h157 c m) := by rw [q157]; exact snd_cmp no_known (known hc (snd_cons (snd184 hc hm) (snd_cons (snd219 hc hm) snd_nof))) Tryz.func157 (by kernel_rfl) (by kernel_rfl)
def an158 : An := (.s (.r []) (.s (.s (.r []) (.c none (.s (.r []) .n) .n)) (.s (.s (.r []) (.b none (.l [3] (.s (.s (.r []) (.c none .n .n)) (.s (.b none (.s (.d [(0, []), (1, []), (2, []), (3, []), (4, []), (5, []), (6, []), (7, []), (8, []), (9, [])]) (.c none (.s (.r []) (.s (.s (.r []) (.b none (.l [3, 5] (.s (.s (.r []) (.c none .n .n)) (.s (.b (some [3]) (.s (.d [(0, []), (1, []), (2, []), (3, []), (4, []), (5, []), (6, []), (7, []), (8, []), (9, [])]) (.c (some [3]) (.s (.r []) (.r [])) .n))) (.r [])))))) (.s (.r []) (.s (.r []) .n)))) .n))) (.r [])))))) (.s (.r []) .n))))
noncomputable def cd158 (c m : Clo) (f : Nat) : Fn := nof
theorem q158 (c m : Clo) : h158 c m = cmpF Tryz.prog (cd158 c m) noInv eqsT c Tryz.f158 (Tryz.f158.body.getD .skip) an158 := by kernel_rfl
theorem snd158 [Luck] {c m : Clo} (hc : Ok c) (hm : Ok m) : Snd Tryz.prog 158 (h158 c m) := by rw [q158]; exact snd_cmp no_known (known hc snd_nof) Tryz.func158 (by kernel_rfl) (by kernel_rfl)
def an100 : An := (.s (.r []) (.s (.r []) (.s (.r []) (.s (.r []) .n))))
noncomputable def cd100 (c m : Clo) (f : Nat) : Fn := (Bool.rec (Bool.rec nof (h158 c m) (Nat.beq f 158)) (h157 c m) (Nat.beq f 157))
theorem q100 (c m : Clo) : h100 c m = cmpF Tryz.prog (cd100 c m) noInv eqsT c Tryz.f100 (Tryz.f100.body.getD .skip) an100 := by kernel_rfl
theorem snd100 [Luck] {c m : Clo} (hc : Ok c) (hm : Ok m) : Snd Tryz.prog 100 (h100 c m) := by rw [q100]; exact snd_cmp no_known (known hc (snd_cons (snd157 hc hm) (snd_cons (snd158 hc hm) snd_nof))) Tryz.func100 (by kernel_rfl) (by kernel_rfl)
def an113 : An := (.s (.r []) (.s (.d [(0, []), (1, []), (3, []), (2, [3]), (4, []), (5, []), (6, []), (7, [])]) .n))
noncomputable def cd113 (c m : Clo) (f : Nat) : Fn := (Bool.rec (Bool.rec (Bool.rec nof (m 100) (Nat.beq f 100)) (h178 c m) (Nat.beq f 178)) (h177 c m) (Nat.beq f 177))
theorem q113 (c m : Clo) : h113 c m = cmpF Tryz.prog (cd113 c m) noInv eqsT c Tryz.f113 (Tryz.f113.body.getD .skip) an113 := by kernel_rfl
theorem snd113 [Luck] {c m : Clo} (hc : Ok c) (hm : Ok m) : Snd Tryz.prog 113 (h113 c m) := by rw [q113]; exact snd_cmp no_known (known hc (snd_cons (snd177 hc hm) (snd_cons (snd178 hc hm) (snd_cons (hm 100) snd_nof)))) Tryz.func113 (by kernel_rfl) (by kernel_rfl)
def an59 : An := (.s (.r []) (.s (.r []) (.s (.s (.r []) (.b none (.l [3, 8] (.s (.r []) (.s (.c none .n .n) (.s (.b none (.s (.r []) (.r []))) (.r []))))))) (.s (.r []) .n))))
noncomputable def cd59 (c m : Clo) (f : Nat) : Fn := (Bool.rec (Bool.rec nof (m 100) (Nat.beq f 100)) (m 113) (Nat.beq f 113))
theorem q59 (c m : Clo) : h59 c m = cmpF Tryz.prog (cd59 c m) noInv eqsT c Tryz.f59 (Tryz.f59.body.getD .skip) an59 := by kernel_rfl
theorem snd59 [Luck] {c m : Clo} (hc : Ok c) (hm : Ok m) : Snd Tryz.prog 59 (h59 c m) := by rw [q59]; exact snd_cmp no_known (known hc (snd_cons (hm 113) (snd_cons (hm 100) snd_nof))) Tryz.func59 (by kernel_rfl) (by kernel_rfl)
def an57 : An := (.s (.r []) (.s (.s (.r []) (.c none (.s (.r []) .n) .n)) (.s (.s (.r []) (.b none (.l [10] (.s (.r []) (.s (.c none .n .n) (.s (.b none (.s (.r []) (.s (.d [(0, []), (1, []), (2, []), (3, []), (4, []), (5, []), (6, []), (7, []), (8, []), (9, []), (10, []), (11, []), (12, []), (13, []), (14, []), (15, []), (16, []), (17, []), (18, []), (19, [])]) (.c none (.s (.r []) .n) .n)))) (.r []))))))) (.s (.r []) .n))))
noncomputable def cd57 (c m : Clo) (f : Nat) : Fn := (Bool.rec (Bool.rec nof (m 59) (Nat.beq f 59)) (m 93) (Nat.beq f 93))
theorem q57 (c m : Clo) : h57 c m = cmpF Tryz.prog (cd57 c m) noInv eqsT c Tryz.f57 (Tryz.f57.body.getD .skip) an57 := by kernel_rfl
theorem snd57 [Luck] {c m : Clo} (hc : Ok c) (hm : Ok m) : Snd Tryz.prog 57 (h57 c m) := by rw [q57]; exact snd_cmp no_known (known hc (snd_cons (hm 93) (snd_cons (hm 59) snd_nof))) Tryz.func57 (by kernel_rfl) (by kernel_rfl)
def an98 : An := (.s (.r []) (.s (.s (.r []) (.c none (.s (.r [[12]]) .n) .n)) (.s (.r [[20]]) .n)))
noncomputable def cd98 (c m : Clo) (f : Nat) : Fn := (Bool.rec nof (h155 c m) (Nat.beq f 155))
theorem q98 (c m : Clo) : h98 c m = cmpF Tryz.prog (cd98 c m) noInv eqsT c Tryz.f98 (Tryz.f98.body.getD .skip) an98 := by kernel_rfl
theorem snd98 [Luck] {c m : Clo} (hc : Ok c) (hm : Ok m) : Snd Tryz.prog 98 (h98 c m) := by rw [q98]; exact snd_cmp no_known (known hc (snd_cons (snd155 hc hm) snd_nof)) Tryz.func98 (by kernel_rfl) (by kernel_rfl)
def an118 : An := (.s (.r []) (.s (.s (.r [[11]]) (.c none (.s (.r []) .n) .n)) (.s (.s (.r []) (.c none (.s (.r []) .n) .n)) (.s (.s (.r []) (.c none (.s (.r []) .n) .n)) (.s (.s (.r [[25]]) (.c none (.s (.r [[33], [40]]) .n) .n)) (.s (.r []) .n))))))
noncomputable def cd118 (c m : Clo) (f : Nat) : Fn := (Bool.rec (Bool.rec nof (h179 c m) (Nat.beq f 179)) (h98 c m) (Nat.beq f 98))
theorem q118 (c m : Clo) : h118 c m = cmpF Tryz.prog (cd118 c m) noInv eqsT c Tryz.f118 (Tryz.f118.body.getD .skip) an118 := by kernel_rfl
theorem snd118 [Luck] {c m : Clo} (hc : Ok c) (hm : Ok m) : Snd Tryz.prog 118 (h118 c m) := by rw [q118]; exact snd_cmp no_known (known hc (snd_cons (snd98 hc hm) (snd_cons (snd179 hc hm) snd_nof))) Tryz.func118 (by kernel_rfl) (by kernel_rfl)
def an180 : An := (.s (.r []) (.s (.s (.r []) (.b none (.l [9] (.s (.r []) (.s (.c none .n .n) (.s (.b none (.s (.r []) (.s (.r []) (.c none (.s (.r []) .n) .n)))) (.r []))))))) (.s (.r []) .n)))
noncomputable def cd180 (c m : Clo) (f : Nat) : Fn := nof
theorem q180 (c m : Clo) : h180 c m = cmpF Tryz.prog (cd180 c m) noInv eqsT c Tryz.f180 (Tryz.f180.body.getD .skip) an180 := by kernel_rfl
theorem snd180 [Luck] {c m : Clo} (hc : Ok c) (hm : Ok m) : Snd Tryz.prog 180 (h180 c m) := by rw [q180]; exact snd_cmp no_known (known hc snd_nof) Tryz.func180 (by kernel_rfl) (by kernel_rfl)
def an119 : An := (.s (.r []) (.s (.s (.r []) (.c none (.s (.r []) .n) .n)) (.s (.r []) (.s (.s (.r []) (.b none (.l [5, 13] (.s (.r []) (.s (.c none .n .n) (.s (.b none (.s (.r []) (.s (.s (.d [(0, []), (1, []), (2, []), (3, []), (4, []), (5, []), (6, []), (7, []), (8, []), (9, []), (10, []), (11, []), (12, []), (13, []), (14, []), (15, []), (16, [])]) (.c none (.s (.r []) .n) .n)) (.s (.s (.r [[43]]) (.c none (.s (.r []) .n) .n)) (.r []))))) (.r []))))))) (.s (.r []) .n)))))
noncomputable def cd119 (c m : Clo) (f : Nat) : Fn := (Bool.rec nof (h180 c m) (Nat.beq f 180))
theorem q119 (c m : Clo) : h119 c m = cmpF Tryz.prog (cd119 c m) noInv eqsT c Tryz.f119 (Tryz.f119.body.getD .skip) an119 := by kernel_rfl
theorem snd119 [Luck] {c m : Clo} (hc : Ok c) (hm : Ok m) : Snd Tryz.prog 119 (h119 c m) := by rw [q119]; exact snd_cmp no_known (known hc (snd_cons (snd180 hc hm) snd_nof)) Tryz.func119 (by kernel_rfl) (by kernel_rfl)
def an66 : An := (.s (.r []) (.s (.r []) (.s (.s (.r []) (.b none (.l [10] (.s (.r []) (.s (.c none .n .n) (.s (.b none (.s (.r []) (.s (.s (.r [[25], [33]]) (.c none (.s (.r []) .n) .n)) (.s (.r []) (.s (.r []) (.c none (.s (.r []) .n) .n)))))) (.r []))))))) (.s (.r []) .n))))
noncomputable def cd66 (c m : Clo) (f : Nat) : Fn := (Bool.rec (Bool.rec (Bool.rec nof (h119 c m) (Nat.beq f 119)) (h118 c m) (Nat.beq f 118)) (h97 c m) (Nat.beq f 97))
theorem q66 (c m : Clo) : h66 c m = cmpF Tryz.prog (cd66 c m) noInv eqsT c Tryz.f66 (Tryz.f66.body.getD .skip) an66 := by kernel_rfl
theorem snd66 [Luck] {c m : Clo} (hc : Ok c) (hm : Ok m) : Snd Tryz.prog 66 (h66 c m) := by rw [q66]; exact snd_cmp no_known (known hc (snd_cons (snd97 hc hm) (snd_cons (snd118 hc hm) (snd_cons (snd119 hc hm) snd_nof)))) Tryz.func66 (by kernel_rfl) (by kernel_rfl)
def an166 : An := (.s (.r []) (.s (.r []) (.s (.s (.r []) (.b none (.l [9] (.s (.r []) (.s (.c none .n .n) (.s (.b none (.s (.r []) (.r []))) (.r []))))))) (.s (.r []) .n))))
noncomputable def cd166 (c m : Clo) (f : Nat) : Fn := nof
theorem q166 (c m : Clo) : h166 c m = cmpF Tryz.prog (cd166 c m) noInv eqsT c Tryz.f166 (Tryz.f166.body.getD .skip) an166 := by kernel_rfl
theorem snd166 [Luck] {c m : Clo} (hc : Ok c) (hm : Ok m) : Snd Tryz.prog 166 (h166 c m) := by rw [q166]; exact snd_cmp no_known (known hc snd_nof) Tryz.func166 (by kernel_rfl) (by kernel_rfl)
def an272 : An := (.s (.r []) (.b none (.l [8] (.s (.s (.r []) (.c none .n .n)) (.s (.b none (.s (.r []) (.b none (.l [9] (.s (.s (.d [(0, []), (1, []), (2, []), (3, []), (4, []), (5, []), (6, []), (7, []), (8, []), (9, []), (10, []), (11, []), (12, []), (13, []), (14, []), (15, []), (16, [])]) (.c none .n .n)) (.s (.b none (.d [(0, []), (1, []), (2, []), (3, []), (4, []), (5, []), (6, []), (7, []), (8, []), (9, []), (10, []), (11, []), (12, []), (13, []), (14, []), (15, []), (16, []), (17, [])])) (.r []))))))) (.r []))))))
noncomputable def cd272 (c m : Clo) (f : Nat) : Fn := nof
theorem q272 (c m : Clo) : h272 c m = cmpF Tryz.prog (cd272 c m) noInv eqsT c Tryz.f272 (Tryz.f272.body.getD .skip) an272 := by kernel_rfl
theorem snd272 [Luck] {c m : Clo} (hc : Ok c) (hm : Ok m) : Snd Tryz.prog 272 (h272 c m) := by rw [q272]; exact snd_cmp no_known (known hc snd_nof) Tryz.func272 (by kernel_rfl) (by kernel_rfl)
def an305 : An := (.s (.r []) (.b none (.l [10] (.b none (.s (.r []) (.s (.s (.r []) (.c none .n .n)) (.s (.s (.d [(0, []), (1, []), (2, []), (3, []), (4, []), (5, []), (6, []), (7, []), (8, []), (9, []), (10, []), (11, []), (12, []), (13, []), (14, []), (15, []), (16, []), (17, []), (18, []), (19, []), (20, []), (21, [])]) (.c (some [11]) (.r []) .n)) (.s (.s (.d [(0, []), (1, []), (2, []), (3, []), (4, []), (5, []), (6, []), (7, []), (8, []), (9, []), (10, []), (11, []), (12, []), (13, []), (14, []), (15, [])]) (.c none .n .n)) (.s (.d [(0, []), (1, []), (2, []), (3, []), (4, []), (5, []), (6, []), (7, []), (8, []), (9, []), (10, []), (11, []), (12, []), (13, []), (14, []), (15, []), (16, []), (17, []), (18, []), (19, []), (20, []), (21, []), (22, []), (23, [])]) (.r []))))))))))
noncomputable def cd305 (c m : Clo) (f : Nat) : Fn := nof
theorem q305 (c m : Clo) : h305 c m = cmpF Tryz.prog (cd305 c m) noInv eqsT c Tryz.f305 (Tryz.f305.body.getD .skip) an305 := by kernel_rfl
theorem snd305 [Luck] {c m : Clo} (hc : Ok c) (hm : Ok m) : Snd Tryz.prog 305 (h305 c m) := by rw [q305]; exact snd_cmp no_known (known hc snd_nof) Tryz.func305 (by kernel_rfl) (by kernel_rfl)
def an273 : An := (.s (.r []) (.s (.r []) (.s (.r []) (.s (.s (.r []) (.b none (.l [11] (.s (.s (.r []) (.c none .n .n)) (.s (.b none (.r [])) (.r [])))))) (.s (.r []) (.b none (.l [12] (.s (.s (.r []) (.c none .n .n)) (.s (.b none (.s (.d [(0, []), (1, []), (2, []), (3, []), (4, []), (5, []), (6, []), (7, []), (8, []), (9, []), (10, []), (11, []), (12, []), (13, []), (14, []), (15, []), (16, []), (17, []), (18, []), (19, [])]) (.r []))) (.r []))))))))))
noncomputable def cd273 (c m : Clo) (f : Nat) : Fn := (Bool.rec nof (h305 c m) (Nat.beq f 305))
theorem q273 (c m : Clo) : h273 c m = cmpF Tryz.prog (cd273 c m) noInv eqsT c Tryz.f273 (Tryz.f273.body.getD .skip) an273 := by kernel_rfl
theorem snd273 [Luck] {c m : Clo} (hc : Ok c) (hm : Ok m) : Snd Tryz.prog 273 (h273 c m) := by rw [q273]; exact snd_cmp no_known (known hc (snd_cons (snd305 hc hm) snd_nof)) Tryz.func273 (by kernel_rfl) (by kernel_rfl)
def an274 : An := (.s (.r []) (.s (.r []) (.c (some []) (.s (.r []) (.s (.r []) (.s (.r []) (.b none (.l [11] (.s (.s (.r []) (.c none .n .n)) (.s (.b none (.s (.r []) (.s (.s (.r []) (.c (some [12]) (.r []) .n)) (.d [(0, []), (1, []), (2, []), (3, []), (4, []), (5, []), (6, []), (7, []), (8, []), (9, []), (10, []), (11, []), (12, []), (13, []), (14, []), (15, []), (16, []), (17, []), (18, []), (19, [])])))) (.r [])))))))) .n)))
noncomputable def cd274 (c m : Clo) (f : Nat) : Fn := (Bool.rec (Bool.rec nof (h287 c m) (Nat.beq f 287)) (h286 c m) (Nat.beq f 286))
theorem q274 (c m : Clo) : h274 c m = cmpF Tryz.prog (cd274 c m) noInv eqsT c Tryz.f274 (Tryz.f274.body.getD .skip) an274 := by kernel_rfl
theorem snd274 [Luck] {c m : Clo} (hc : Ok c) (hm : Ok m) : Snd Tryz.prog 274 (h274 c m) := by rw [q274]; exact snd_cmp no_known (known hc (snd_cons (snd286 hc hm) (snd_cons (snd287 hc hm) snd_nof))) Tryz.func274 (by kernel_rfl) (by kernel_rfl)
end X
/- The functions' equations, and that they are sound (printed by wip/exec/Xg4.lean). -/
namespace X
open Go Go.Proofs
set_option linter.unusedVariables false
set_option linter.unusedSectionVars false
set_option maxRecDepth 100000
def an312 : An := (.s (.r []) (.s (.s (.d [(0, []), (1, []), (2, []), (3, []), (4, []), (5, []), (6, []), (7, []), (8, []), (9, []), (10, [])]) (.c none (.s (.r []) (.s (.r []) .n)) .n)) (.s (.r []) .n)))
noncomputable def cd312 (c m : Clo) (f : Nat) : Fn := nof
theorem q312 (c m : Clo) : h312 c m = cmpF Tryz.prog (cd312 c m) noInv eqsT c Tryz.f312 (Tryz.f312.body.getD .skip) an312 := by kernel_rfl
theorem snd312 [Luck] {c m : Clo} (hc : Ok c) (hm : Ok m) : Snd Tryz.prog 312 (h312 c m) := by rw [q312]; exact snd_cmp no_known (known hc snd_nof) Tryz.func312 (by kernel_rfl) (by kernel_rfl)
def an307 : An := (.s (.r []) (.s (.r []) (.s (.r []) (.s (.r []) (.s (.r []) .n)))))
noncomputable def cd307 (c m : Clo) (f : Nat) : Fn := (Bool.rec nof (h312 c m) (Nat.beq f 312))
theorem q307 (c m : Clo) : h307 c m = cmpF Tryz.prog (cd307 c m) noInv eqsT c Tryz.f307 (Tryz.f307.body.getD .skip) an307 := by kernel_rfl
theorem snd307 [Luck] {c m : Clo} (hc : Ok c) (hm : Ok m) : Snd Tryz.prog 307 (h307 c m) := by rw [q307]; exact snd_cmp no_known (known hc (snd_cons (snd312 hc hm) snd_nof)) Tryz.func307 (by kernel_rfl) (by kernel_rfl)
def an306 : An := (.s (.r []) (.s (.r []) .n))
noncomputable def cd306 (c m : Clo) (f : Nat) : Fn := (Bool.rec nof (h307 c m) (Nat.beq f 307))
theorem q306 (c m : Clo) : h306 c m = cmpF Tryz.prog (cd306 c m) noInv eqsT c Tryz.f306 (Tryz.f306.body.getD .skip) an306 := by kernel_rfl
theorem snd306 [Luck] {c m : Clo} (hc : Ok c) (hm : Ok m) : Snd Tryz.prog 306 (h306 c m) := by rw [q306]; exact snd_cmp no_known (known hc (snd_cons (snd307 hc hm) snd_nof)) Tryz.func306 (by kernel_rfl) (by kernel_rfl)
def an275 : An := (.s (.r []) (.s (.r []) (.s (.r []) (.s (.r []) (.s (.r []) (.s (.r []) (.s (.s (.r []) (.c (some [13]) (.s (.s (.r []) (.c (some [12, 13, 14]) (.s (.r []) (.s (.r []) (.r []))) .n)) (.r [])) .n)) (.s (.r []) (.b none (.s (.r []) (.c none (.s (.r []) .n) (.s (.r []) (.c none (.s (.r []) .n) (.s (.r []) .n))))))))))))))
noncomputable def cd275 (c m : Clo) (f : Nat) : Fn := (Bool.rec (Bool.rec nof (h307 c m) (Nat.beq f 307)) (h306 c m) (Nat.beq f 306))
theorem q275 (c m : Clo) : h275 c m = cmpF Tryz.prog (cd275 c m) noInv eqsT c Tryz.f275 (Tryz.f275.body.getD .skip) an275 := by kernel_rfl
theorem snd275 [Luck] {c m : Clo} (hc : Ok c) (hm : Ok m) : Snd Tryz.prog 275 (h275 c m) := by rw [q275]; exact snd_cmp no_known (known hc (snd_cons (snd306 hc hm) (snd_cons (snd307 hc hm) snd_nof))) Tryz.func275 (by kernel_rfl) (by kernel_rfl)
def an276 : An := (.s (.r []) (.s (.r []) (.b none (.l [8, 9] (.s (.s (.r []) (.c none .n .n)) (.b none (.s (.d [(0, []), (1, []), (2, []), (3, []), (4, []), (5, []), (6, []), (7, []), (8, []), (9, []), (10, []), (11, []), (12, []), (13, []), (14, []), (15, [])]) (.s (.r []) (.r [])))))))))
noncomputable def cd276 (c m : Clo) (f : Nat) : Fn := nof
theorem q276 (c m : Clo) : h276 c m = cmpF Tryz.prog (cd276 c m) noInv eqsT c Tryz.f276 (Tryz.f276.body.getD .skip) an276 := by kernel_rfl
theorem snd276 [Luck] {c m : Clo} (hc : Ok c) (hm : Ok m) : Snd Tryz.prog 276 (h276 c m) := by rw [q276]; exact snd_cmp no_known (known hc snd_nof) Tryz.func276 (by kernel_rfl) (by kernel_rfl)
def an277 : An := (.s (.r []) (.s (.r []) (.s (.s (.r []) (.b none (.l [9, 10] (.s (.s (.r []) (.c none .n .n)) (.s (.b (some [9]) (.s (.b none (.l [9] (.s (.s (.d [(0, []), (1, []), (2, []), (3, []), (4, []), (5, []), (6, []), (7, []), (8, []), (9, []), (10, []), (11, []), (12, []), (13, []), (14, []), (15, []), (16, []), (17, [])]) (.c none .n .n)) (.b none (.r []))))) (.s (.s (.r []) (.c none (.s (.r []) .n) .n)) (.s (.s (.r []) (.c none (.s (.r []) .n) .n)) (.s (.d [(0, []), (1, []), (2, []), (3, []), (4, []), (5, []), (6, []), (7, []), (8, []), (9, []), (10, []), (11, []), (12, []), (13, []), (14, []), (15, []), (16, []), (17, [])]) (.s (.s (.r []) (.c (some []) (.s (.r []) (.b (some []) (.l [11] (.s (.s (.r []) (.c none .n .n)) (.s (.b none (.s (.s (.d [(0, []), (1, []), (2, []), (3, []), (4, []), (5, []), (6, []), (7, []), (8, []), (9, []), (10, []), (11, []), (12, [])]) (.c none .n .n)) (.d [(0, []), (1, []), (2, []), (3, []), (4, []), (5, []), (6, []), (7, []), (8, []), (9, []), (10, []), (11, []), (12, []), (13, []), (14, []), (15, []), (16, []), (17, [])]))) (.r [])))))) .n)) (.s (.r []) (.c (some []) (.s (.r []) (.b (some []) (.l [12] (.s (.s (.r []) (.c none .n .n)) (.s (.b none (.s (.s (.d [(0, []), (1, []), (2, []), (3, []), (4, []), (5, []), (6, []), (7, []), (8, []), (9, []), (10, []), (11, []), (12, [])]) (.c none .n .n)) (.d [(0, []), (1, []), (2, []), (3, []), (4, []), (5, []), (6, []), (7, []), (8, []), (9, []), (10, []), (11, []), (12, []), (13, []), (14, []), (15, []), (16, []), (17, [])]))) (.r [])))))) .n)))))))) (.r [])))))) (.s (.r []) .n))))
noncomputable def cd277 (c m : Clo) (f : Nat) : Fn := nof
theorem q277 (c m : Clo) : h277 c m = cmpF Tryz.prog (cd277 c m) noInv eqsT c Tryz.f277 (Tryz.f277.body.getD .skip) an277 := by kernel_rfl
theorem snd277 [Luck] {c m : Clo} (hc : Ok c) (hm : Ok m) : Snd Tryz.prog 277 (h277 c m) := by rw [q277]; exact snd_cmp no_known (known hc snd_nof) Tryz.func277 (by kernel_rfl) (by kernel_rfl)
def an278 : An := (.s (.r []) (.s (.d [(0, []), (1, []), (2, []), (3, []), (4, []), (5, []), (6, []), (7, []), (8, []), (9, []), (10, []), (11, []), (12, []), (13, []), (14, []), (15, [])]) (.s (.r []) (.s (.b none (.l [11, 12] (.b none (.s (.b none (.l [11] (.s (.s (.d [(0, []), (1, []), (2, []), (3, []), (4, []), (5, []), (6, []), (7, []), (8, []), (9, []), (10, []), (11, []), (12, []), (13, []), (14, []), (15, []), (16, [])]) (.c none .n .n)) (.b none (.r []))))) (.s (.b none (.l [12] (.s (.s (.d [(0, []), (1, []), (2, []), (3, []), (4, []), (5, []), (6, []), (7, []), (8, []), (9, []), (10, []), (11, []), (12, []), (13, []), (14, []), (15, [])]) (.c none .n .n)) (.b none (.r []))))) (.s (.s (.r []) (.c none .n .n)) (.s (.d [(0, []), (1, []), (2, []), (3, []), (4, []), (5, []), (6, []), (7, []), (8, []), (9, []), (10, []), (11, []), (12, []), (13, []), (14, []), (15, [])]) (.s (.r []) (.r []))))))))) (.s (.r []) .n)))))
noncomputable def cd278 (c m : Clo) (f : Nat) : Fn := nof
theorem q278 (c m : Clo) : h278 c m = cmpF Tryz.prog (cd278 c m) noInv eqsT c Tryz.f278 (Tryz.f278.body.getD .skip) an278 := by kernel_rfl
theorem snd278 [Luck] {c m : Clo} (hc : Ok c) (hm : Ok m) : Snd Tryz.prog 278 (h278 c m) := by rw [q278]; exact snd_cmp no_known (known hc snd_nof) Tryz.func278 (by kernel_rfl) (by kernel_rfl)
def an279 : An := (.s (.r []) (.s (.d [(0, []), (1, []), (2, []), (3, []), (4, []), (5, []), (6, []), (7, []), (8, []), (9, []), (10, []), (11, []), (12, []), (13, []), (14, []), (15, [])]) (.s (.r []) (.s (.b none (.l [12] (.s (.s (.d [(0, []), (1, []), (2, []), (3, []), (4, []), (5, []), (6, []), (7, []), (8, []), (9, []), (10, []), (11, []), (12, []), (13, []), (14, []), (15, [])]) (.c none .n .n)) (.b none (.r []))))) (.s (.b none (.l [13] (.s (.s (.d [(0, []), (1, []), (2, []), (3, []), (4, []), (5, []), (6, []), (7, []), (8, []), (9, []), (10, []), (11, []), (12, []), (13, []), (14, []), (15, []), (16, [])]) (.c none .n .n)) (.b none (.r []))))) (.s (.s (.r []) (.c none (.s (.d [(0, []), (1, []), (2, []), (3, []), (4, []), (5, []), (6, []), (7, []), (8, []), (9, []), (10, []), (11, []), (12, []), (13, []), (14, []), (15, [])]) (.s (.r []) .n)) .n)) (.s (.d [(0, []), (1, []), (2, []), (3, []), (4, []), (5, []), (6, []), (7, []), (8, []), (9, []), (10, []), (11, []), (12, []), (13, []), (14, []), (15, [])]) (.s (.r []) (.s (.r []) (.s (.b none (.l [12, 13] (.b none (.s (.b none (.l [12] (.s (.s (.d [(0, []), (1, []), (2, []), (3, []), (4, []), (5, []), (6, []), (7, []), (8, []), (9, []), (10, []), (11, []), (12, []), (13, []), (14, []), (15, [])]) (.c none .n .n)) (.b none (.r []))))) (.s (.b none (.l [13] (.s (.s (.d [(0, []), (1, []), (2, []), (3, []), (4, []), (5, []), (6, []), (7, []), (8, []), (9, []), (10, []), (11, []), (12, []), (13, []), (14, []), (15, []), (16, [])]) (.c none .n .n)) (.b none (.r []))))) (.s (.s (.r []) (.c none .n .n)) (.s (.d [(0, []), (1, []), (2, []), (3, []), (4, []), (5, []), (6, []), (7, []), (8, []), (9, []), (10, []), (11, []), (12, []), (13, []), (14, []), (15, [])]) (.s (.r []) (.r []))))))))) (.s (.d [(0, []), (1, []), (2, []), (3, []), (4, []), (5, []), (6, []), (7, []), (8, []), (9, []), (10, []), (11, []), (12, []), (13, []), (14, []), (15, [])]) (.s (.r []) .n))))))))))))
noncomputable def cd279 (c m : Clo) (f : Nat) : Fn := nof
theorem q279 (c m : Clo) : h279 c m = cmpF Tryz.prog (cd279 c m) noInv eqsT c Tryz.f279 (Tryz.f279.body.getD .skip) an279 := by kernel_rfl
theorem snd279 [Luck] {c m : Clo} (hc : Ok c) (hm : Ok m) : Snd Tryz.prog 279 (h279 c m) := by rw [q279]; exact snd_cmp no_known (known hc snd_nof) Tryz.func279 (by kernel_rfl) (by kernel_rfl)
def an228 : An := (.s (.r []) (.s (.r []) (.b none (.l [3, 1, 11, 10, 2] (.b (some [3, 1, 11, 10, 2]) (.s (.r []) (.s (.s (.r []) (.c none (.s (.r []) .n) .n)) (.s (.s (.r []) (.c none (.s (.r []) .n) .n)) (.s (.s (.r []) (.c (some [3]) (.s (.r []) (.r [])) .n)) (.s (.r []) (.s (.s (.r []) (.c (some [13, 14]) (.s (.r []) (.s (.r []) (.r []))) .n)) (.s (.s (.r [[70], [74]]) (.c (some []) (.s (.r []) (.c none .n .n)) .n)) (.s (.s (.d [(0, []), (1, []), (2, []), (3, []), (4, []), (5, []), (6, []), (7, []), (8, []), (9, []), (10, []), (11, []), (12, []), (13, []), (14, []), (15, []), (16, [])]) (.c none (.s (.r []) (.s (.r []) .n)) .n)) (.s (.r []) (.s (.r []) (.s (.r []) (.s (.r []) (.s (.r []) (.c (some [10, 1, 2]) (.s (.r []) (.s (.r []) (.r []))) (.s (.r []) (.s (.r []) (.r []))))))))))))))))))))))
noncomputable def cd228 (c m : Clo) (h228 : Clo → Clo → Fn) (f : Nat) : Fn := (Bool.rec (Bool.rec (Bool.rec (Bool.rec (Bool.rec (Bool.rec (Bool.rec (Bool.rec (Bool.rec nof (h228 c m) (Nat.beq f 228)) (h279 c m) (Nat.beq f 279)) (h278 c m) (Nat.beq f 278)) (h277 c m) (Nat.beq f 277)) (h276 c m) (Nat.beq f 276)) (h275 c m) (Nat.beq f 275)) (h274 c m) (Nat.beq f 274)) (h273 c m) (Nat.beq f 273)) (h272 c m) (Nat.beq f 272))
theorem q228 (c m : Clo) (h : Clo → Clo → Fn) : h228' c m h = cmpF Tryz.prog (cd228 c m h) noInv eqsT c Tryz.f228 (Tryz.f228.body.getD .skip) an228 := by kernel_rfl
theorem snd228 [Luck] {c m : Clo} (hc : Ok c) (hm : Ok m) : Snd Tryz.prog 228 (h228 c m) := snd_lp fun F hs => by rw [q228]; exact snd_cmp no_known (known hc (snd_cons (snd272 hc hm) (snd_cons (snd273 hc hm) (snd_cons (snd274 hc hm) (snd_cons (snd275 hc hm) (snd_cons (snd276 hc hm) (snd_cons (snd277 hc hm) (snd_cons (snd278 hc hm) (snd_cons (snd279 hc hm) (snd_cons hs snd_nof)))))))))) Tryz.func228 (by kernel_rfl) (by kernel_rfl)
def an167 : An := (.s (.r []) (.r []))
noncomputable def cd167 (c m : Clo) (f : Nat) : Fn := (Bool.rec (Bool.rec nof (h228 c m) (Nat.beq f 228)) (h184 c m) (Nat.beq f 184))
theorem q167 (c m : Clo) : h167 c m = cmpF Tryz.prog (cd167 c m) noInv eqsT c Tryz.f167 (Tryz.f167.body.getD .skip) an167 := by kernel_rfl
theorem snd167 [Luck] {c m : Clo} (hc : Ok c) (hm : Ok m) : Snd Tryz.prog 167 (h167 c m) := by rw [q167]; exact snd_cmp no_known (known hc (snd_cons (snd184 hc hm) (snd_cons (snd228 hc hm) snd_nof))) Tryz.func167 (by kernel_rfl) (by kernel_rfl)
def an132 : An := (.s (.r []) (.s (.r []) .n))
noncomputable def cd132 (c m : Clo) (f : Nat) : Fn := (Bool.rec nof (m 189) (Nat.beq f 189))
theorem q132 (c m : Clo) : h132 c m = cmpF Tryz.prog (cd132 c m) noInv eqsT c Tryz.f132 (Tryz.f132.body.getD .skip) an132 := by kernel_rfl
theorem snd132 [Luck] {c m : Clo} (hc : Ok c) (hm : Ok m) : Snd Tryz.prog 132 (h132 c m) := by rw [q132]; exact snd_cmp no_known (known hc (snd_cons (hm 189) snd_nof)) Tryz.func132 (by kernel_rfl) (by kernel_rfl)
def an80 : An := (.s (.r []) (.s (.r []) .n))
noncomputable def cd80 (c m : Clo) (f : Nat) : Fn := (Bool.rec nof (h132 c m) (Nat.beq f 132))
theorem q80 (c m : Clo) : h80 c m = cmpF Tryz.prog (cd80 c m) noInv eqsT c Tryz.f80 (Tryz.f80.body.getD .skip) an80 := by kernel_rfl
theorem snd80 [Luck] {c m : Clo} (hc : Ok c) (hm : Ok m) : Snd Tryz.prog 80 (h80 c m) := by rw [q80]; exact snd_cmp no_known (known hc (snd_cons (snd132 hc hm) snd_nof)) Tryz.func80 (by kernel_rfl) (by kernel_rfl)
def an168 : An := (.s (.r []) (.s (.r []) .n))
noncomputable def cd168 (c m : Clo) (f : Nat) : Fn := (Bool.rec nof (h80 c m) (Nat.beq f 80))
theorem q168 (c m : Clo) : h168 c m = cmpF Tryz.prog (cd168 c m) noInv eqsT c Tryz.f168 (Tryz.f168.body.getD .skip) an168 := by kernel_rfl
theorem snd168 [Luck] {c m : Clo} (hc : Ok c) (hm : Ok m) : Snd Tryz.prog 168 (h168 c m) := by rw [q168]; exact snd_cmp no_known (known hc (snd_cons (snd80 hc hm) snd_nof)) Tryz.func168 (by kernel_rfl) (by kernel_rfl)
def an108 : An := (.s (.r []) (.s (.r []) (.s (.s (.r []) (.b none (.l [3] (.s (.r []) (.s (.c none .n .n) (.b (some [3]) (.s (.r []) (.s (.r []) (.c (some [3]) (.r []) .n))))))))) (.s (.r []) (.s (.r []) .n)))))
noncomputable def cd108 (c m : Clo) (f : Nat) : Fn := (Bool.rec (Bool.rec nof (h167 c m) (Nat.beq f 167)) (h166 c m) (Nat.beq f 166))
theorem q108 (c m : Clo) : h108 c m = cmpF Tryz.prog (cd108 c m) noInv eqsT c Tryz.f108 (Tryz.f108.body.getD .skip) an108 := by kernel_rfl
theorem snd108 [Luck] {c m : Clo} (hc : Ok c) (hm : Ok m) : Snd Tryz.prog 108 (h108 c m) := by rw [q108]; exact snd_cmp no_known (known hc (snd_cons (snd166 hc hm) (snd_cons (snd167 hc hm) snd_nof))) Tryz.func108 (by kernel_rfl) (by kernel_rfl)
def an109 : An := (.s (.r []) (.s (.s (.r []) (.b none (.l [9] (.s (.r []) (.s (.c none .n .n) (.s (.b none (.s (.r []) (.s (.r []) (.c none (.s (.r []) .n) .n)))) (.r []))))))) (.s (.r []) .n)))
noncomputable def cd109 (c m : Clo) (f : Nat) : Fn := nof
theorem q109 (c m : Clo) : h109 c m = cmpF Tryz.prog (cd109 c m) noInv eqsT c Tryz.f109 (Tryz.f109.body.getD .skip) an109 := by kernel_rfl
theorem snd109 [Luck] {c m : Clo} (hc : Ok c) (hm : Ok m) : Snd Tryz.prog 109 (h109 c m) := by rw [q109]; exact snd_cmp no_known (known hc snd_nof) Tryz.func109 (by kernel_rfl) (by kernel_rfl)
def an208 : An := (.s (.r []) (.s (.r []) (.s (.s (.r [[22]]) (.c none (.s (.r []) .n) .n)) (.s (.r []) (.s (.s (.r []) (.b none (.l [7, 27] (.s (.r []) (.s (.c none .n .n) (.s (.b none (.s (.r []) (.s (.r []) (.s (.s (.r []) (.c none (.s (.r []) .n) .n)) (.r []))))) (.r []))))))) (.s (.r []) .n))))))
noncomputable def cd208 (c m : Clo) (h208 : Clo → Clo → Fn) (f : Nat) : Fn := (Bool.rec nof (h208 c m) (Nat.beq f 208))
theorem q208 (c m : Clo) (h : Clo → Clo → Fn) : h208' c m h = cmpF Tryz.prog (cd208 c m h) noInv eqsT c Tryz.f208 (Tryz.f208.body.getD .skip) an208 := by kernel_rfl
theorem snd208 [Luck] {c m : Clo} (hc : Ok c) (hm : Ok m) : Snd Tryz.prog 208 (h208 c m) := snd_lp fun F hs => by rw [q208]; exact snd_cmp no_known (known hc (snd_cons hs snd_nof)) Tryz.func208 (by kernel_rfl) (by kernel_rfl)
def an150 : An := (.s (.r []) (.s (.r []) (.s (.r []) .n)))
noncomputable def cd150 (c m : Clo) (f : Nat) : Fn := (Bool.rec nof (h208 c m) (Nat.beq f 208))
theorem q150 (c m : Clo) : h150 c m = cmpF Tryz.prog (cd150 c m) noInv eqsT c Tryz.f150 (Tryz.f150.body.getD .skip) an150 := by kernel_rfl
theorem snd150 [Luck] {c m : Clo} (hc : Ok c) (hm : Ok m) : Snd Tryz.prog 150 (h150 c m) := by rw [q150]; exact snd_cmp no_known (known hc (snd_cons (snd208 hc hm) snd_nof)) Tryz.func150 (by kernel_rfl) (by kernel_rfl)
def an209 : An := (.s (.r []) (.s (.r []) (.s (.r []) (.s (.r [[15], [19], [20]]) .n))))
noncomputable def cd209 (c m : Clo) (f : Nat) : Fn := (Bool.rec (Bool.rec nof (m 110) (Nat.beq f 110)) (h97 c m) (Nat.beq f 97))
theorem q209 (c m : Clo) : h209 c m = cmpF Tryz.prog (cd209 c m) noInv eqsT c Tryz.f209 (Tryz.f209.body.getD .skip) an209 := by kernel_rfl
theorem snd209 [Luck] {c m : Clo} (hc : Ok c) (hm : Ok m) : Snd Tryz.prog 209 (h209 c m) := by rw [q209]; exact snd_cmp no_known (known hc (snd_cons (snd97 hc hm) (snd_cons (hm 110) snd_nof))) Tryz.func209 (by kernel_rfl) (by kernel_rfl)
def an210 : An := (.s (.r []) (.s (.s (.r []) (.b none (.l [11] (.s (.r []) (.s (.c none .n .n) (.s (.b none (.s (.r []) (.s (.s (.r []) (.c none (.s (.r []) .n) .n)) (.s (.r []) (.c none (.s (.r []) .n) .n))))) (.r []))))))) (.s (.s (.r []) (.c none (.s (.r []) .n) .n)) (.s (.d [(0, []), (1, []), (2, []), (3, []), (4, []), (5, []), (6, []), (7, []), (8, [])]) (.s (.r []) .n)))))
noncomputable def cd210 (c m : Clo) (f : Nat) : Fn := nof
theorem q210 (c m : Clo) : h210 c m = cmpF Tryz.prog (cd210 c m) noInv eqsT c Tryz.f210 (Tryz.f210.body.getD .skip) an210 := by kernel_rfl
theorem snd210 [Luck] {c m : Clo} (hc : Ok c) (hm : Ok m) : Snd Tryz.prog 210 (h210 c m) := by rw [q210]; exact snd_cmp no_known (known hc snd_nof) Tryz.func210 (by kernel_rfl) (by kernel_rfl)
def an151 : An := (.s (.r []) (.s (.s (.r []) (.c none (.s (.r [[17], [24]]) .n) .n)) (.s (.s (.r [[35], [41]]) (.c none (.s (.r []) .n) .n)) (.s (.s (.r []) (.b none (.l [46] (.s (.r []) (.s (.c none .n .n) (.s (.b none (.s (.r []) (.s (.r []) (.c none (.s (.r []) .n) .n)))) (.r []))))))) (.s (.r []) .n)))))
noncomputable def cd151 (c m : Clo) (h151 : Clo → Clo → Fn) (f : Nat) : Fn := (Bool.rec (Bool.rec (Bool.rec nof (h151 c m) (Nat.beq f 151)) (h210 c m) (Nat.beq f 210)) (h209 c m) (Nat.beq f 209))
theorem q151 (c m : Clo) (h : Clo → Clo → Fn) : h151' c m h = cmpF Tryz.prog (cd151 c m h) noInv eqsT c Tryz.f151 (Tryz.f151.body.getD .skip) an151 := by kernel_rfl
theorem snd151 [Luck] {c m : Clo} (hc : Ok c) (hm : Ok m) : Snd Tryz.prog 151 (h151 c m) := snd_lp fun F hs => by rw [q151]; exact snd_cmp no_known (known hc (snd_cons (snd209 hc hm) (snd_cons (snd210 hc hm) (snd_cons hs snd_nof)))) Tryz.func151 (by kernel_rfl) (by kernel_rfl)
def an94 : An := (.s (.r []) (.s (.r []) (.s (.r [[9]]) .n)))
noncomputable def cd94 (c m : Clo) (f : Nat) : Fn := (Bool.rec (Bool.rec nof (h151 c m) (Nat.beq f 151)) (h150 c m) (Nat.beq f 150))
theorem q94 (c m : Clo) : h94 c m = cmpF Tryz.prog (cd94 c m) noInv eqsT c Tryz.f94 (Tryz.f94.body.getD .skip) an94 := by kernel_rfl
theorem snd94 [Luck] {c m : Clo} (hc : Ok c) (hm : Ok m) : Snd Tryz.prog 94 (h94 c m) := by rw [q94]; exact snd_cmp no_known (known hc (snd_cons (snd150 hc hm) (snd_cons (snd151 hc hm) snd_nof))) Tryz.func94 (by kernel_rfl) (by kernel_rfl)
def an67 : An := (.s (.r []) (.s (.r [[9], [14], [19], [24]]) .n))
noncomputable def cd67 (c m : Clo) (f : Nat) : Fn := (Bool.rec nof (m 94) (Nat.beq f 94))
theorem q67 (c m : Clo) : h67 c m = cmpF Tryz.prog (cd67 c m) noInv eqsT c Tryz.f67 (Tryz.f67.body.getD .skip) an67 := by kernel_rfl
theorem snd67 [Luck] {c m : Clo} (hc : Ok c) (hm : Ok m) : Snd Tryz.prog 67 (h67 c m) := by rw [q67]; exact snd_cmp no_known (known hc (snd_cons (hm 94) snd_nof)) Tryz.func67 (by kernel_rfl) (by kernel_rfl)
def an141 : An := (.s (.r []) (.s (.r []) (.s (.s (.r []) (.b none (.l [3, 8] (.s (.r []) (.s (.c none .n .n) (.s (.b none (.s (.r []) (.r []))) (.r []))))))) (.s (.r []) .n))))
noncomputable def cd141 (c m : Clo) (f : Nat) : Fn := nof
theorem q141 (c m : Clo) : h141 c m = cmpF Tryz.prog (cd141 c m) noInv eqsT c Tryz.f141 (Tryz.f141.body.getD .skip) an141 := by kernel_rfl
theorem snd141 [Luck] {c m : Clo} (hc : Ok c) (hm : Ok m) : Snd Tryz.prog 141 (h141 c m) := by rw [q141]; exact snd_cmp no_known (known hc snd_nof) Tryz.func141 (by kernel_rfl) (by kernel_rfl)
def an284 : An := (.s (.r []) (.s (.s (.r []) (.b none (.l [8] (.s (.r []) (.s (.c none .n .n) (.s (.b none (.s (.r []) (.s (.d [(0, []), (1, []), (2, []), (3, []), (4, []), (5, [])]) (.c none (.s (.r []) .n) .n)))) (.r []))))))) (.s (.r []) .n)))
noncomputable def cd284 (c m : Clo) (f : Nat) : Fn := nof
theorem q284 (c m : Clo) : h284 c m = cmpF Tryz.prog (cd284 c m) noInv eqsT c Tryz.f284 (Tryz.f284.body.getD .skip) an284 := by kernel_rfl
theorem snd284 [Luck] {c m : Clo} (hc : Ok c) (hm : Ok m) : Snd Tryz.prog 284 (h284 c m) := by rw [q284]; exact snd_cmp no_known (known hc snd_nof) Tryz.func284 (by kernel_rfl) (by kernel_rfl)
def an234 : An := (.s (.r []) (.s (.r []) .n))
noncomputable def cd234 (c m : Clo) (f : Nat) : Fn := (Bool.rec nof (h284 c m) (Nat.beq f 284))
theorem q234 (c m : Clo) : h234 c m = cmpF Tryz.prog (cd234 c m) noInv eqsT c Tryz.f234 (Tryz.f234.body.getD .skip) an234 := by kernel_rfl
theorem snd234 [Luck] {c m : Clo} (hc : Ok c) (hm : Ok m) : Snd Tryz.prog 234 (h234 c m) := by rw [q234]; exact snd_cmp no_known (known hc (snd_cons (snd284 hc hm) snd_nof)) Tryz.func234 (by kernel_rfl) (by kernel_rfl)
def an182 : An := (.s (.r []) (.s (.s (.r []) (.c none (.s (.s (.r []) (.c none (.s (.r []) .n) .n)) (.s (.r []) .n)) .n)) (.s (.s (.r []) (.b none (.l [0, 24] (.s (.r []) (.s (.c none .n .n) (.s (.b none (.s (.r []) (.r []))) (.r []))))))) (.s (.r []) .n))))
noncomputable def cd182 (c m : Clo) (h182 : Clo → Clo → Fn) (f : Nat) : Fn := (Bool.rec (Bool.rec nof (h182 c m) (Nat.beq f 182)) (h234 c m) (Nat.beq f 234))
theorem q182 (c m : Clo) (h : Clo → Clo → Fn) : h182' c m h = cmpF Tryz.prog (cd182 c m h) noInv eqsT c Tryz.f182 (Tryz.f182.body.getD .skip) an182 := by kernel_rfl
theorem snd182 [Luck] {c m : Clo} (hc : Ok c) (hm : Ok m) : Snd Tryz.prog 182 (h182 c m) := snd_lp fun F hs => by rw [q182]; exact snd_cmp no_known (known hc (snd_cons (snd234 hc hm) (snd_cons hs snd_nof))) Tryz.func182 (by kernel_rfl) (by kernel_rfl)
def an122 : An := (.s (.r []) (.s (.s (.r []) (.c none (.s (.r []) .n) .n)) (.s (.r []) .n)))
noncomputable def cd122 (c m : Clo) (f : Nat) : Fn := (Bool.rec (Bool.rec nof (h182 c m) (Nat.beq f 182)) (m 94) (Nat.beq f 94))
theorem q122 (c m : Clo) : h122 c m = cmpF Tryz.prog (cd122 c m) noInv eqsT c Tryz.f122 (Tryz.f122.body.getD .skip) an122 := by kernel_rfl
theorem snd122 [Luck] {c m : Clo} (hc : Ok c) (hm : Ok m) : Snd Tryz.prog 122 (h122 c m) := by rw [q122]; exact snd_cmp no_known (known hc (snd_cons (hm 94) (snd_cons (snd182 hc hm) snd_nof))) Tryz.func122 (by kernel_rfl) (by kernel_rfl)
def an296 : An := (.s (.r []) (.s (.r []) (.s (.b none (.l [5, 6] (.s (.s (.r []) (.c none .n .n)) (.b (some [5, 6]) (.s (.r []) (.s (.r []) (.c (some [5, 6]) (.r []) (.r [])))))))) (.s (.r []) .n))))
noncomputable def cd296 (c m : Clo) (f : Nat) : Fn := nof
theorem q296 (c m : Clo) : h296 c m = cmpF Tryz.prog (cd296 c m) noInv eqsT c Tryz.f296 (Tryz.f296.body.getD .skip) an296 := by kernel_rfl
theorem snd296 [Luck] {c m : Clo} (hc : Ok c) (hm : Ok m) : Snd Tryz.prog 296 (h296 c m) := by rw [q296]; exact snd_cmp no_known (known hc snd_nof) Tryz.func296 (by kernel_rfl) (by kernel_rfl)
def an297 : An := (.s (.r []) (.s (.d [(0, []), (1, []), (2, []), (3, []), (4, []), (5, []), (6, []), (7, [])]) .n))
noncomputable def cd297 (c m : Clo) (f : Nat) : Fn := nof
theorem q297 (c m : Clo) : h297 c m = cmpF Tryz.prog (cd297 c m) noInv eqsT c Tryz.f297 (Tryz.f297.body.getD .skip) an297 := by kernel_rfl
theorem snd297 [Luck] {c m : Clo} (hc : Ok c) (hm : Ok m) : Snd Tryz.prog 297 (h297 c m) := by rw [q297]; exact snd_cmp no_known (known hc snd_nof) Tryz.func297 (by kernel_rfl) (by kernel_rfl)
def an255 : An := (.s (.r []) (.s (.r []) (.s (.d [(0, []), (1, []), (2, []), (3, []), (4, []), (5, []), (6, []), (7, []), (8, []), (9, []), (10, []), (11, []), (12, []), (13, []), (14, []), (15, [])]) .n)))
noncomputable def cd255 (c m : Clo) (f : Nat) : Fn := (Bool.rec nof (h296 c m) (Nat.beq f 296))
theorem q255 (c m : Clo) : h255 c m = cmpF Tryz.prog (cd255 c m) noInv eqsT c Tryz.f255 (Tryz.f255.body.getD .skip) an255 := by kernel_rfl
theorem snd255 [Luck] {c m : Clo} (hc : Ok c) (hm : Ok m) : Snd Tryz.prog 255 (h255 c m) := by rw [q255]; exact snd_cmp no_known (known hc (snd_cons (snd296 hc hm) snd_nof)) Tryz.func255 (by kernel_rfl) (by kernel_rfl)
def an198 : An := (.s (.r []) (.s (.s (.r []) (.c none (.s (.r []) .n) .n)) (.s (.r []) (.s (.s (.r []) (.c none (.s (.r []) .n) .n)) (.s (.s (.d [(0, []), (1, []), (2, []), (3, []), (4, []), (5, []), (6, []), (7, [])]) (.c none (.s (.r []) .n) .n)) (.s (.r []) .n))))))
noncomputable def cd198 (c m : Clo) (f : Nat) : Fn := (Bool.rec (Bool.rec (Bool.rec nof (m 110) (Nat.beq f 110)) (h255 c m) (Nat.beq f 255)) (h70 c m) (Nat.beq f 70))
theorem q198 (c m : Clo) : h198 c m = cmpF Tryz.prog (cd198 c m) noInv eqsT c Tryz.f198 (Tryz.f198.body.getD .skip) an198 := by kernel_rfl
theorem snd198 [Luck] {c m : Clo} (hc : Ok c) (hm : Ok m) : Snd Tryz.prog 198 (h198 c m) := by rw [q198]; exact snd_cmp no_known (known hc (snd_cons (snd70 hc hm) (snd_cons (snd255 hc hm) (snd_cons (hm 110) snd_nof)))) Tryz.func198 (by kernel_rfl) (by kernel_rfl)
def an140 : An := (.s (.r []) (.s (.r []) (.s (.s (.r []) (.c none (.s (.r []) .n) .n)) (.s (.s (.r []) (.b none (.l [16] (.s (.r []) (.s (.c none .n .n) (.s (.b none (.s (.r []) (.s (.r []) (.s (.r []) (.c none (.s (.r []) .n) .n))))) (.r []))))))) (.s (.r []) .n)))))
noncomputable def cd140 (c m : Clo) (f : Nat) : Fn := (Bool.rec (Bool.rec nof (h198 c m) (Nat.beq f 198)) (m 122) (Nat.beq f 122))
theorem q140 (c m : Clo) : h140 c m = cmpF Tryz.prog (cd140 c m) noInv eqsT c Tryz.f140 (Tryz.f140.body.getD .skip) an140 := by kernel_rfl
theorem snd140 [Luck] {c m : Clo} (hc : Ok c) (hm : Ok m) : Snd Tryz.prog 140 (h140 c m) := by rw [q140]; exact snd_cmp no_known (known hc (snd_cons (hm 122) (snd_cons (snd198 hc hm) snd_nof))) Tryz.func140 (by kernel_rfl) (by kernel_rfl)
def an171 : An := (.s (.r []) (.s (.r []) (.s (.s (.r []) (.b none (.l [5, 14] (.s (.r []) (.s (.c none .n .n) (.s (.b none (.s (.r []) (.s (.r []) (.d [(0, []), (1, []), (2, []), (3, []), (4, []), (5, []), (6, []), (7, []), (8, []), (9, []), (10, []), (11, []), (12, []), (13, []), (14, []), (16, []), (17, []), (15, [8, 17]), (18, []), (19, []), (20, []), (21, []), (22, [])])))) (.r []))))))) (.s (.r []) .n))))
noncomputable def cd171 (c m : Clo) (f : Nat) : Fn := (Bool.rec (Bool.rec (Bool.rec (Bool.rec nof (m 164) (Nat.beq f 164)) (h163 c m) (Nat.beq f 163)) (h109 c m) (Nat.beq f 109)) (m 122) (Nat.beq f 122))
theorem q171 (c m : Clo) : h171 c m = cmpF Tryz.prog (cd171 c m) noInv eqsT c Tryz.f171 (Tryz.f171.body.getD .skip) an171 := by kernel_rfl
theorem snd171 [Luck] {c m : Clo} (hc : Ok c) (hm : Ok m) : Snd Tryz.prog 171 (h171 c m) := by rw [q171]; exact snd_cmp no_known (known hc (snd_cons (hm 122) (snd_cons (snd109 hc hm) (snd_cons (snd163 hc hm) (snd_cons (hm 164) snd_nof))))) Tryz.func171 (by kernel_rfl) (by kernel_rfl)
def an281 : An := (.s (.r []) (.s (.s (.r []) (.c none (.s (.r []) .n) .n)) (.s (.r []) (.s (.s (.r []) (.b none (.l [5, 19] (.s (.r []) (.s (.c none .n .n) (.s (.b (some [5]) (.s (.r []) (.s (.r []) (.c (some [5]) (.r []) .n)))) (.r []))))))) (.s (.r []) .n)))))
noncomputable def cd281 (c m : Clo) (h281 : Clo → Clo → Fn) (f : Nat) : Fn := (Bool.rec nof (h281 c m) (Nat.beq f 281))
theorem q281 (c m : Clo) (h : Clo → Clo → Fn) : h281' c m h = cmpF Tryz.prog (cd281 c m h) noInv eqsT c Tryz.f281 (Tryz.f281.body.getD .skip) an281 := by kernel_rfl
theorem snd281 [Luck] {c m : Clo} (hc : Ok c) (hm : Ok m) : Snd Tryz.prog 281 (h281 c m) := snd_lp fun F hs => by rw [q281]; exact snd_cmp no_known (known hc (snd_cons hs snd_nof)) Tryz.func281 (by kernel_rfl) (by kernel_rfl)
def an280 : An := (.s (.r []) (.s (.r []) (.s (.r [[17], [24]]) .n)))
noncomputable def cd280 (c m : Clo) (f : Nat) : Fn := (Bool.rec nof (h284 c m) (Nat.beq f 284))
theorem q280 (c m : Clo) : h280 c m = cmpF Tryz.prog (cd280 c m) noInv eqsT c Tryz.f280 (Tryz.f280.body.getD .skip) an280 := by kernel_rfl
theorem snd280 [Luck] {c m : Clo} (hc : Ok c) (hm : Ok m) : Snd Tryz.prog 280 (h280 c m) := by rw [q280]; exact snd_cmp no_known (known hc (snd_cons (snd284 hc hm) snd_nof)) Tryz.func280 (by kernel_rfl) (by kernel_rfl)
def an229 : An := (.s (.r []) (.s (.r []) (.s (.r []) .n)))
noncomputable def cd229 (c m : Clo) (f : Nat) : Fn := (Bool.rec nof (h281 c m) (Nat.beq f 281))
theorem q229 (c m : Clo) : h229 c m = cmpF Tryz.prog (cd229 c m) noInv eqsT c Tryz.f229 (Tryz.f229.body.getD .skip) an229 := by kernel_rfl
theorem snd229 [Luck] {c m : Clo} (hc : Ok c) (hm : Ok m) : Snd Tryz.prog 229 (h229 c m) := by rw [q229]; exact snd_cmp no_known (known hc (snd_cons (snd281 hc hm) snd_nof)) Tryz.func229 (by kernel_rfl) (by kernel_rfl)
def an170 : An := (.s (.r []) (.s (.r []) (.s (.r [[15]]) .n)))
noncomputable def cd170 (c m : Clo) (f : Nat) : Fn := (Bool.rec (Bool.rec nof (h229 c m) (Nat.beq f 229)) (m 122) (Nat.beq f 122))
theorem q170 (c m : Clo) : h170 c m = cmpF Tryz.prog (cd170 c m) noInv eqsT c Tryz.f170 (Tryz.f170.body.getD .skip) an170 := by kernel_rfl
theorem snd170 [Luck] {c m : Clo} (hc : Ok c) (hm : Ok m) : Snd Tryz.prog 170 (h170 c m) := by rw [q170]; exact snd_cmp no_known (known hc (snd_cons (hm 122) (snd_cons (snd229 hc hm) snd_nof))) Tryz.func170 (by kernel_rfl) (by kernel_rfl)
def an125 : An := (.s (.r []) (.s (.r []) .n))
noncomputable def cd125 (c m : Clo) (f : Nat) : Fn := (Bool.rec nof (h166 c m) (Nat.beq f 166))
theorem q125 (c m : Clo) : h125 c m = cmpF Tryz.prog (cd125 c m) noInv eqsT c Tryz.f125 (Tryz.f125.body.getD .skip) an125 := by kernel_rfl
theorem snd125 [Luck] {c m : Clo} (hc : Ok c) (hm : Ok m) : Snd Tryz.prog 125 (h125 c m) := by rw [q125]; exact snd_cmp no_known (known hc (snd_cons (snd166 hc hm) snd_nof)) Tryz.func125 (by kernel_rfl) (by kernel_rfl)
def an220 : An := (.s (.r []) (.s (.s (.r []) (.b none (.l [11] (.s (.r []) (.s (.c none .n .n) (.s (.b none (.s (.r []) (.s (.r []) (.c none (.s (.r []) .n) .n)))) (.r []))))))) (.s (.r []) .n)))
noncomputable def cd220 (c m : Clo) (f : Nat) : Fn := (Bool.rec nof (h232 c m) (Nat.beq f 232))
theorem q220 (c m : Clo) : h220 c m = cmpF Tryz.prog (cd220 c m) noInv eqsT c Tryz.f220 (Tryz.f220.body.getD .skip) an220 := by kernel_rfl
theorem snd220 [Luck] {c m : Clo} (hc : Ok c) (hm : Ok m) : Snd Tryz.prog 220 (h220 c m) := by rw [q220]; exact snd_cmp no_known (known hc (snd_cons (snd232 hc hm) snd_nof)) Tryz.func220 (by kernel_rfl) (by kernel_rfl)
def an161 : An := (.s (.r []) (.s (.s (.r []) (.b none (.l [8] (.s (.r []) (.s (.c none .n .n) (.s (.b none (.s (.r []) (.s (.r []) (.c none (.s (.r []) .n) .n)))) (.r []))))))) (.s (.r []) .n)))
noncomputable def cd161 (c m : Clo) (f : Nat) : Fn := nof
theorem q161 (c m : Clo) : h161 c m = cmpF Tryz.prog (cd161 c m) noInv eqsT c Tryz.f161 (Tryz.f161.body.getD .skip) an161 := by kernel_rfl
theorem snd161 [Luck] {c m : Clo} (hc : Ok c) (hm : Ok m) : Snd Tryz.prog 161 (h161 c m) := by rw [q161]; exact snd_cmp no_known (known hc snd_nof) Tryz.func161 (by kernel_rfl) (by kernel_rfl)
def an282 : An := (.s (.r []) (.s (.s (.r []) (.b none (.l [5] (.s (.s (.r []) (.c none .n .n)) (.s (.b none (.s (.r [[16]]) (.c none (.s (.r []) .n) .n))) (.r [])))))) (.s (.r []) .n)))
noncomputable def cd282 (c m : Clo) (f : Nat) : Fn := (Bool.rec nof (h179 c m) (Nat.beq f 179))
theorem q282 (c m : Clo) : h282 c m = cmpF Tryz.prog (cd282 c m) noInv eqsT c Tryz.f282 (Tryz.f282.body.getD .skip) an282 := by kernel_rfl
theorem snd282 [Luck] {c m : Clo} (hc : Ok c) (hm : Ok m) : Snd Tryz.prog 282 (h282 c m) := by rw [q282]; exact snd_cmp no_known (known hc (snd_cons (snd179 hc hm) snd_nof)) Tryz.func282 (by kernel_rfl) (by kernel_rfl)
def an231 : An := (.s (.r []) (.s (.b none (.s (.r [[16]]) (.c none (.s (.r []) .n) (.s (.r []) (.c none (.s (.r []) .n) (.s (.r []) (.c none (.s (.r []) .n) (.s (.r []) (.c none (.s (.r []) .n) .n))))))))) (.s (.r []) .n)))
noncomputable def cd231 (c m : Clo) (f : Nat) : Fn := (Bool.rec (Bool.rec (Bool.rec nof (h282 c m) (Nat.beq f 282)) (h225 c m) (Nat.beq f 225)) (h224 c m) (Nat.beq f 224))
theorem q231 (c m : Clo) : h231 c m = cmpF Tryz.prog (cd231 c m) noInv eqsT c Tryz.f231 (Tryz.f231.body.getD .skip) an231 := by kernel_rfl
theorem snd231 [Luck] {c m : Clo} (hc : Ok c) (hm : Ok m) : Snd Tryz.prog 231 (h231 c m) := by rw [q231]; exact snd_cmp no_known (known hc (snd_cons (snd224 hc hm) (snd_cons (snd225 hc hm) (snd_cons (snd282 hc hm) snd_nof)))) Tryz.func231 (by kernel_rfl) (by kernel_rfl)
def an230 : An := (.s (.r []) (.s (.r []) .n))
noncomputable def cd230 (c m : Clo) (f : Nat) : Fn := nof
theorem q230 (c m : Clo) : h230 c m = cmpF Tryz.prog (cd230 c m) noInv eqsT c Tryz.f230 (Tryz.f230.body.getD .skip) an230 := by kernel_rfl
theorem snd230 [Luck] {c m : Clo} (hc : Ok c) (hm : Ok m) : Snd Tryz.prog 230 (h230 c m) := by rw [q230]; exact snd_cmp no_known (known hc snd_nof) Tryz.func230 (by kernel_rfl) (by kernel_rfl)
def an172 : An := (.s (.r []) (.s (.r []) (.s (.r []) (.s (.r []) (.s (.r []) (.s (.s (.d [(0, []), (1, []), (2, []), (3, []), (4, []), (5, []), (6, []), (7, []), (8, []), (9, []), (10, []), (11, []), (12, [])]) (.c none (.s (.r [[53]]) .n) .n)) (.s (.d [(0, []), (1, []), (2, []), (3, []), (4, []), (5, []), (6, []), (7, []), (9, []), (8, [9]), (10, [])]) (.s (.s (.r []) (.c none (.s (.r []) .n) .n)) (.s (.s (.r [[75]]) (.c none (.s (.r []) .n) .n)) (.s (.s (.r []) (.b none (.l [80] (.s (.r []) (.s (.c none .n .n) (.s (.b none (.s (.r []) (.s (.r [[96]]) (.c none (.s (.r []) .n) .n)))) (.r []))))))) (.s (.r []) .n)))))))))))
noncomputable def cd172 (c m : Clo) (f : Nat) : Fn := (Bool.rec (Bool.rec (Bool.rec (Bool.rec (Bool.rec (Bool.rec (Bool.rec nof (m 53) (Nat.beq f 53)) (h231 c m) (Nat.beq f 231)) (m 164) (Nat.beq f 164)) (h161 c m) (Nat.beq f 161)) (m 220) (Nat.beq f 220)) (h163 c m) (Nat.beq f 163)) (h125 c m) (Nat.beq f 125))
theorem q172 (c m : Clo) : h172 c m = cmpF Tryz.prog (cd172 c m) noInv eqsT c Tryz.f172 (Tryz.f172.body.getD .skip) an172 := by kernel_rfl
theorem snd172 [Luck] {c m : Clo} (hc : Ok c) (hm : Ok m) : Snd Tryz.prog 172 (h172 c m) := by rw [q172]; exact snd_cmp no_known (known hc (snd_cons (snd125 hc hm) (snd_cons (snd163 hc hm) (snd_cons (hm 220) (snd_cons (snd161 hc hm) (snd_cons (hm 164) (snd_cons (snd231 hc hm) (snd_cons (hm 53) snd_nof)))))))) Tryz.func172 (by kernel_rfl) (by kernel_rfl)
def an111 : An := (.s (.r []) (.s (.r []) (.s (.s (.d [(0, []), (1, []), (2, []), (3, []), (4, []), (5, []), (7, []), (8, []), (6, [8]), (9, []), (10, []), (11, [])]) (.c none (.s (.r []) .n) .n)) (.s (.s (.r [[31], [37], [45], [46]]) (.c none (.s (.r []) .n) .n)) (.s (.s (.d [(0, []), (1, []), (2, []), (3, []), (4, []), (5, [1]), (6, [])]) (.c none (.s (.r []) .n) .n)) (.s (.r []) (.s (.s (.r []) (.b none (.l [61] (.s (.r []) (.s (.c none .n .n) (.s (.b none (.s (.r []) (.s (.r []) (.c none (.s (.r []) .n) .n)))) (.r []))))))) (.s (.r []) .n))))))))
noncomputable def cd111 (c m : Clo) (f : Nat) : Fn := (Bool.rec (Bool.rec (Bool.rec (Bool.rec (Bool.rec (Bool.rec (Bool.rec nof (h172 c m) (Nat.beq f 172)) (m 122) (Nat.beq f 122)) (m 170) (Nat.beq f 170)) (h171 c m) (Nat.beq f 171)) (m 140) (Nat.beq f 140)) (h141 c m) (Nat.beq f 141)) (m 67) (Nat.beq f 67))
theorem q111 (c m : Clo) : h111 c m = cmpF Tryz.prog (cd111 c m) noInv eqsT c Tryz.f111 (Tryz.f111.body.getD .skip) an111 := by kernel_rfl
theorem snd111 [Luck] {c m : Clo} (hc : Ok c) (hm : Ok m) : Snd Tryz.prog 111 (h111 c m) := by rw [q111]; exact snd_cmp no_known (known hc (snd_cons (hm 67) (snd_cons (snd141 hc hm) (snd_cons (hm 140) (snd_cons (snd171 hc hm) (snd_cons (hm 170) (snd_cons (hm 122) (snd_cons (snd172 hc hm) snd_nof)))))))) Tryz.func111 (by kernel_rfl) (by kernel_rfl)
def an173 : An := (.s (.r []) (.s (.r [[9], [15], [22], [29]]) .n))
noncomputable def cd173 (c m : Clo) (f : Nat) : Fn := nof
theorem q173 (c m : Clo) : h173 c m = cmpF Tryz.prog (cd173 c m) noInv eqsT c Tryz.f173 (Tryz.f173.body.getD .skip) an173 := by kernel_rfl
theorem snd173 [Luck] {c m : Clo} (hc : Ok c) (hm : Ok m) : Snd Tryz.prog 173 (h173 c m) := by rw [q173]; exact snd_cmp no_known (known hc snd_nof) Tryz.func173 (by kernel_rfl) (by kernel_rfl)
def an174 : An := (.s (.r []) (.s (.r []) (.s (.s (.r []) (.b none (.l [5, 12] (.s (.r []) (.s (.c none .n .n) (.s (.b (some [5]) (.s (.r []) (.s (.r []) (.s (.r []) (.c (some [5]) (.r []) .n))))) (.r []))))))) (.s (.r []) .n))))
noncomputable def cd174 (c m : Clo) (f : Nat) : Fn := (Bool.rec nof (m 220) (Nat.beq f 220))
theorem q174 (c m : Clo) : h174 c m = cmpF Tryz.prog (cd174 c m) noInv eqsT c Tryz.f174 (Tryz.f174.body.getD .skip) an174 := by kernel_rfl
theorem snd174 [Luck] {c m : Clo} (hc : Ok c) (hm : Ok m) : Snd Tryz.prog 174 (h174 c m) := by rw [q174]; exact snd_cmp no_known (known hc (snd_cons (hm 220) snd_nof)) Tryz.func174 (by kernel_rfl) (by kernel_rfl)
def an176 : An := (.s (.r []) (.s (.r []) (.s (.s (.r []) (.b none (.l [5, 11] (.s (.r []) (.s (.c none .n .n) (.s (.b (some [5]) (.s (.r []) (.s (.r []) (.s (.r []) (.c (some [5]) (.r []) .n))))) (.r []))))))) (.s (.r []) .n))))
noncomputable def cd176 (c m : Clo) (f : Nat) : Fn := (Bool.rec nof (h163 c m) (Nat.beq f 163))
theorem q176 (c m : Clo) : h176 c m = cmpF Tryz.prog (cd176 c m) noInv eqsT c Tryz.f176 (Tryz.f176.body.getD .skip) an176 := by kernel_rfl
theorem snd176 [Luck] {c m : Clo} (hc : Ok c) (hm : Ok m) : Snd Tryz.prog 176 (h176 c m) := by rw [q176]; exact snd_cmp no_known (known hc (snd_cons (snd163 hc hm) snd_nof)) Tryz.func176 (by kernel_rfl) (by kernel_rfl)
def an175 : An := (.s (.r []) (.s (.s (.r []) (.c none (.s (.r []) .n) .n)) (.s (.s (.r []) (.b none (.l [13] (.s (.r []) (.s (.c none .n .n) (.s (.b none (.s (.r []) (.s (.d [(0, []), (1, []), (2, []), (3, []), (4, []), (5, []), (6, []), (7, []), (8, [])]) (.c none (.s (.r []) .n) .n)))) (.r []))))))) (.s (.r []) .n))))
noncomputable def cd175 (c m : Clo) (f : Nat) : Fn := nof
theorem q175 (c m : Clo) : h175 c m = cmpF Tryz.prog (cd175 c m) noInv eqsT c Tryz.f175 (Tryz.f175.body.getD .skip) an175 := by kernel_rfl
theorem snd175 [Luck] {c m : Clo} (hc : Ok c) (hm : Ok m) : Snd Tryz.prog 175 (h175 c m) := by rw [q175]; exact snd_cmp no_known (known hc snd_nof) Tryz.func175 (by kernel_rfl) (by kernel_rfl)
def an112 : An := (.s (.r []) (.s (.d [(0, []), (1, []), (2, []), (3, []), (4, []), (5, []), (6, []), (7, []), (8, []), (9, []), (10, []), (11, []), (12, []), (13, []), (14, []), (15, []), (16, []), (17, []), (18, []), (19, []), (20, []), (21, []), (23, []), (24, []), (22, [24]), (25, []), (26, []), (27, []), (28, [])]) .n))
noncomputable def cd112 (c m : Clo) (f : Nat) : Fn := (Bool.rec (Bool.rec (Bool.rec (Bool.rec (Bool.rec nof (h175 c m) (Nat.beq f 175)) (m 108) (Nat.beq f 108)) (h176 c m) (Nat.beq f 176)) (h174 c m) (Nat.beq f 174)) (h173 c m) (Nat.beq f 173))
theorem q112 (c m : Clo) : h112 c m = cmpF Tryz.prog (cd112 c m) noInv eqsT c Tryz.f112 (Tryz.f112.body.getD .skip) an112 := by kernel_rfl
theorem snd112 [Luck] {c m : Clo} (hc : Ok c) (hm : Ok m) : Snd Tryz.prog 112 (h112 c m) := by rw [q112]; exact snd_cmp no_known (known hc (snd_cons (snd173 hc hm) (snd_cons (snd174 hc hm) (snd_cons (snd176 hc hm) (snd_cons (hm 108) (snd_cons (snd175 hc hm) snd_nof)))))) Tryz.func112 (by kernel_rfl) (by kernel_rfl)
def an58 : An := (.s (.r []) (.s (.s (.r [[15], [20]]) (.c none (.s (.r []) .n) .n)) (.s (.s (.r [[28], [34]]) (.c none (.s (.r []) .n) .n)) (.s (.s (.r []) (.b none (.l [40] (.s (.r []) (.s (.c none .n .n) (.s (.b none (.s (.r []) (.s (.r []) (.s (.d [(0, []), (1, []), (2, []), (3, []), (4, []), (5, []), (6, []), (7, []), (8, []), (9, []), (10, []), (11, []), (12, []), (13, [])]) (.c none (.s (.r []) .n) .n))))) (.r []))))))) (.s (.s (.r []) (.c none (.s (.r []) .n) .n)) (.s (.r []) .n))))))
noncomputable def cd58 (c m : Clo) (f : Nat) : Fn := (Bool.rec (Bool.rec (Bool.rec (Bool.rec (Bool.rec (Bool.rec (Bool.rec nof (h112 c m) (Nat.beq f 112)) (h111 c m) (Nat.beq f 111)) (m 110) (Nat.beq f 110)) (h109 c m) (Nat.beq f 109)) (m 108) (Nat.beq f 108)) (m 66) (Nat.beq f 66)) (h65 c m) (Nat.beq f 65))
theorem q58 (c m : Clo) : h58 c m = cmpF Tryz.prog (cd58 c m) noInv eqsT c Tryz.f58 (Tryz.f58.body.getD .skip) an58 := by kernel_rfl
theorem snd58 [Luck] {c m : Clo} (hc : Ok c) (hm : Ok m) : Snd Tryz.prog 58 (h58 c m) := by rw [q58]; exact snd_cmp no_known (known hc (snd_cons (snd65 hc hm) (snd_cons (hm 66) (snd_cons (hm 108) (snd_cons (snd109 hc hm) (snd_cons (hm 110) (snd_cons (snd111 hc hm) (snd_cons (snd112 hc hm) snd_nof)))))))) Tryz.func58 (by kernel_rfl) (by kernel_rfl)
def an114 : An := (.s (.r []) (.s (.s (.r []) (.b none (.l [8] (.s (.r []) (.s (.c none .n .n) (.s (.b none (.s (.r []) (.s (.r []) (.c none (.s (.r []) .n) .n)))) (.r []))))))) (.s (.r []) .n)))
noncomputable def cd114 (c m : Clo) (f : Nat) : Fn := nof
theorem q114 (c m : Clo) : h114 c m = cmpF Tryz.prog (cd114 c m) noInv eqsT c Tryz.f114 (Tryz.f114.body.getD .skip) an114 := by kernel_rfl
theorem snd114 [Luck] {c m : Clo} (hc : Ok c) (hm : Ok m) : Snd Tryz.prog 114 (h114 c m) := by rw [q114]; exact snd_cmp no_known (known hc snd_nof) Tryz.func114 (by kernel_rfl) (by kernel_rfl)
def an115 : An := (.s (.r []) (.s (.r []) .n))
noncomputable def cd115 (c m : Clo) (f : Nat) : Fn := (Bool.rec nof (m 53) (Nat.beq f 53))
theorem q115 (c m : Clo) : h115 c m = cmpF Tryz.prog (cd115 c m) noInv eqsT c Tryz.f115 (Tryz.f115.body.getD .skip) an115 := by kernel_rfl
theorem snd115 [Luck] {c m : Clo} (hc : Ok c) (hm : Ok m) : Snd Tryz.prog 115 (h115 c m) := by rw [q115]; exact snd_cmp no_known (known hc (snd_cons (hm 53) snd_nof)) Tryz.func115 (by kernel_rfl) (by kernel_rfl)
def an60 : An := (.s (.r []) (.s (.r []) .n))
noncomputable def cd60 (c m : Clo) (f : Nat) : Fn := (Bool.rec nof (h114 c m) (Nat.beq f 114))
theorem q60 (c m : Clo) : h60 c m = cmpF Tryz.prog (cd60 c m) noInv eqsT c Tryz.f60 (Tryz.f60.body.getD .skip) an60 := by kernel_rfl
theorem snd60 [Luck] {c m : Clo} (hc : Ok c) (hm : Ok m) : Snd Tryz.prog 60 (h60 c m) := by rw [q60]; exact snd_cmp no_known (known hc (snd_cons (snd114 hc hm) snd_nof)) Tryz.func60 (by kernel_rfl) (by kernel_rfl)
def an33 : An := (.s (.r []) (.s (.s (.r [[13], [19], [25]]) (.c none (.s (.r []) .n) .n)) (.s (.s (.r []) (.b none (.l [30] (.s (.r []) (.s (.c none .n .n) (.s (.b none (.s (.r []) (.s (.s (.d [(0, []), (1, []), (2, []), (3, []), (4, []), (5, []), (6, []), (7, []), (8, []), (9, []), (10, []), (11, []), (12, []), (13, []), (14, [])]) (.c none (.s (.r []) .n) .n)) (.s (.r []) (.c none (.s (.r []) .n) .n))))) (.r []))))))) (.s (.s (.r []) (.b none (.l [59] (.s (.r []) (.s (.c none .n .n) (.s (.b none (.s (.r []) (.s (.r []) (.c none (.s (.r []) .n) .n)))) (.r []))))))) (.s (.r []) .n)))))
noncomputable def cd33 (c m : Clo) (f : Nat) : Fn := (Bool.rec (Bool.rec (Bool.rec (Bool.rec (Bool.rec nof (h60 c m) (Nat.beq f 60)) (m 59) (Nat.beq f 59)) (h58 c m) (Nat.beq f 58)) (m 53) (Nat.beq f 53)) (m 57) (Nat.beq f 57))
theorem q33 (c m : Clo) : h33 c m = cmpF Tryz.prog (cd33 c m) noInv eqsT c Tryz.f33 (Tryz.f33.body.getD .skip) an33 := by kernel_rfl
theorem snd33 [Luck] {c m : Clo} (hc : Ok c) (hm : Ok m) : Snd Tryz.prog 33 (h33 c m) := by rw [q33]; exact snd_cmp no_known (known hc (snd_cons (hm 57) (snd_cons (hm 53) (snd_cons (snd58 hc hm) (snd_cons (hm 59) (snd_cons (snd60 hc hm) snd_nof)))))) Tryz.func33 (by kernel_rfl) (by kernel_rfl)
def an84 : An := (.s (.r []) (.s (.r []) (.s (.r []) (.s (.r []) (.s (.r []) .n)))))
noncomputable def cd84 (c m : Clo) (f : Nat) : Fn := nof
theorem q84 (c m : Clo) : h84 c m = cmpF Tryz.prog (cd84 c m) noInv eqsT c Tryz.f84 (Tryz.f84.body.getD .skip) an84 := by kernel_rfl
theorem snd84 [Luck] {c m : Clo} (hc : Ok c) (hm : Ok m) : Snd Tryz.prog 84 (h84 c m) := by rw [q84]; exact snd_cmp no_known (known hc snd_nof) Tryz.func84 (by kernel_rfl) (by kernel_rfl)
def an116 : An := (.s (.r []) (.s (.r []) (.s (.s (.r []) (.b none (.l [3, 9] (.s (.r []) (.s (.c none .n .n) (.s (.b none (.s (.r []) (.r []))) (.r []))))))) (.s (.r []) (.s (.r []) .n)))))
noncomputable def cd116 (c m : Clo) (h116 : Clo → Clo → Fn) (f : Nat) : Fn := (Bool.rec nof (h116 c m) (Nat.beq f 116))
theorem q116 (c m : Clo) (h : Clo → Clo → Fn) : h116' c m h = cmpF Tryz.prog (cd116 c m h) noInv eqsT c Tryz.f116 (Tryz.f116.body.getD .skip) an116 := by kernel_rfl
theorem snd116 [Luck] {c m : Clo} (hc : Ok c) (hm : Ok m) : Snd Tryz.prog 116 (h116 c m) := snd_lp fun F hs => by rw [q116]; exact snd_cmp no_known (known hc (snd_cons hs snd_nof)) Tryz.func116 (by kernel_rfl) (by kernel_rfl)
def an64 : An := (.s (.r []) (.s (.r []) (.s (.r []) (.s (.r []) (.s (.r []) .n)))))
noncomputable def cd64 (c m : Clo) (f : Nat) : Fn := (Bool.rec nof (h116 c m) (Nat.beq f 116))
theorem q64 (c m : Clo) : h64 c m = cmpF Tryz.prog (cd64 c m) noInv eqsT c Tryz.f64 (Tryz.f64.body.getD .skip) an64 := by kernel_rfl
theorem snd64 [Luck] {c m : Clo} (hc : Ok c) (hm : Ok m) : Snd Tryz.prog 64 (h64 c m) := by rw [q64]; exact snd_cmp no_known (known hc (snd_cons (snd116 hc hm) snd_nof)) Tryz.func64 (by kernel_rfl) (by kernel_rfl)
def an42 : An := (.s (.r []) (.s (.r []) (.s (.s (.r []) (.b none (.l [14] (.s (.r []) (.s (.c none .n .n) (.s (.b none (.s (.r []) (.d [(0, []), (1, []), (2, []), (3, [1]), (4, []), (5, []), (6, []), (7, [])]))) (.r []))))))) (.s (.s (.r []) (.b none (.l [29] (.s (.r []) (.s (.c none .n .n) (.s (.b none (.s (.r []) (.d [(0, []), (1, []), (2, []), (3, [1]), (4, []), (5, []), (6, []), (7, [])]))) (.r []))))))) (.s (.r []) .n)))))
noncomputable def cd42 (c m : Clo) (f : Nat) : Fn := (Bool.rec (Bool.rec nof (h64 c m) (Nat.beq f 64)) (h84 c m) (Nat.beq f 84))
theorem q42 (c m : Clo) : h42 c m = cmpF Tryz.prog (cd42 c m) noInv eqsT c Tryz.f42 (Tryz.f42.body.getD .skip) an42 := by kernel_rfl
theorem snd42 [Luck] {c m : Clo} (hc : Ok c) (hm : Ok m) : Snd Tryz.prog 42 (h42 c m) := by rw [q42]; exact snd_cmp no_known (known hc (snd_cons (snd84 hc hm) (snd_cons (snd64 hc hm) snd_nof))) Tryz.func42 (by kernel_rfl) (by kernel_rfl)
def an294 : An := (.s (.r []) (.b none (.l [2, 3] (.s (.s (.r []) (.c none .n .n)) (.s (.b none (.d [(0, []), (1, []), (2, []), (3, []), (4, []), (5, []), (6, []), (7, []), (8, []), (9, []), (10, []), (11, []), (12, []), (13, []), (14, []), (15, [])])) (.r []))))))
noncomputable def cd294 (c m : Clo) (f : Nat) : Fn := nof
theorem q294 (c m : Clo) : h294 c m = cmpF Tryz.prog (cd294 c m) noInv eqsT c Tryz.f294 (Tryz.f294.body.getD .skip) an294 := by kernel_rfl
theorem snd294 [Luck] {c m : Clo} (hc : Ok c) (hm : Ok m) : Snd Tryz.prog 294 (h294 c m) := by rw [q294]; exact snd_cmp no_known (known hc snd_nof) Tryz.func294 (by kernel_rfl) (by kernel_rfl)
def an251 : An := (.s (.r []) (.s (.r []) (.r [])))
noncomputable def cd251 (c m : Clo) (f : Nat) : Fn := (Bool.rec nof (h294 c m) (Nat.beq f 294))
theorem q251 (c m : Clo) : h251 c m = cmpF Tryz.prog (cd251 c m) noInv eqsT c Tryz.f251 (Tryz.f251.body.getD .skip) an251 := by kernel_rfl
theorem snd251 [Luck] {c m : Clo} (hc : Ok c) (hm : Ok m) : Snd Tryz.prog 251 (h251 c m) := by rw [q251]; exact snd_cmp no_known (known hc (snd_cons (snd294 hc hm) snd_nof)) Tryz.func251 (by kernel_rfl) (by kernel_rfl)
def an193 : An := (.r [])
noncomputable def cd193 (c m : Clo) (f : Nat) : Fn := (Bool.rec nof (h251 c m) (Nat.beq f 251))
theorem q193 (c m : Clo) : h193 c m = cmpF Tryz.prog (cd193 c m) noInv eqsT c Tryz.f193 (Tryz.f193.body.getD .skip) an193 := by kernel_rfl
theorem snd193 [Luck] {c m : Clo} (hc : Ok c) (hm : Ok m) : Snd Tryz.prog 193 (h193 c m) := by rw [q193]; exact snd_cmp no_known (known hc (snd_cons (snd251 hc hm) snd_nof)) Tryz.func193 (by kernel_rfl) (by kernel_rfl)
def an134 : An := (.s (.r []) (.s (.r []) (.s (.r []) (.s (.s (.r []) (.c none (.s (.r []) .n) .n)) (.s (.r []) (.s (.s (.r []) (.c none (.s (.r []) .n) .n)) (.s (.s (.r []) (.c none (.s (.r []) (.s (.r []) (.s (.d [(0, []), (1, []), (2, []), (3, []), (4, []), (5, []), (6, []), (7, []), (8, [])]) (.s (.r []) .n)))) .n)) (.s (.r []) (.s (.s (.r []) (.c none (.s (.d [(0, []), (1, []), (2, []), (3, []), (4, []), (5, []), (6, []), (7, []), (8, [])]) (.s (.r []) (.s (.r []) .n))) .n)) (.s (.r []) (.s (.r []) (.s (.r []) .n))))))))))))
noncomputable def cd134 (c m : Clo) (f : Nat) : Fn := (Bool.rec (Bool.rec nof (h193 c m) (Nat.beq f 193)) nof (Nat.beq f 192))
theorem q134 (c m : Clo) : h134 c m = cmpF Tryz.prog (cd134 c m) noInv eqsT c Tryz.f134 (Tryz.f134.body.getD .skip) an134 := by kernel_rfl
theorem snd134 [Luck] {c m : Clo} (hc : Ok c) (hm : Ok m) : Snd Tryz.prog 134 (h134 c m) := by rw [q134]; exact snd_cmp no_known (known hc (snd_cons (snd_no 192) (snd_cons (snd193 hc hm) snd_nof))) Tryz.func134 (by kernel_rfl) (by kernel_rfl)
def an85 : An := (.s (.r []) (.s (.b none (.s (.r [[14], [18]]) (.c none (.s (.r []) .n) (.s (.d [(0, []), (1, []), (2, []), (3, []), (4, []), (5, []), (6, []), (7, []), (8, [])]) (.c none (.s (.r []) .n) (.s (.r []) (.c none (.s (.r []) .n) .n))))))) (.s (.r []) (.s (.b none (.l [7] (.s (.s (.d [(0, []), (1, []), (2, []), (3, []), (4, []), (5, []), (6, []), (7, []), (8, []), (9, []), (10, []), (11, []), (12, []), (13, []), (14, []), (15, []), (16, []), (17, []), (18, []), (19, []), (20, []), (21, [])]) (.c none .n .n)) (.b none (.r []))))) (.s (.d [(0, []), (1, []), (2, []), (3, []), (4, []), (5, []), (6, []), (7, []), (8, []), (9, []), (10, []), (11, []), (12, []), (13, []), (14, []), (15, [])]) (.s (.r []) .n))))))
noncomputable def cd85 (c m : Clo) (f : Nat) : Fn := (Bool.rec (Bool.rec (Bool.rec (Bool.rec nof (m 134) (Nat.beq f 134)) (m 53) (Nat.beq f 53)) (h60 c m) (Nat.beq f 60)) (h65 c m) (Nat.beq f 65))
theorem q85 (c m : Clo) : h85 c m = cmpF Tryz.prog (cd85 c m) noInv eqsT c Tryz.f85 (Tryz.f85.body.getD .skip) an85 := by kernel_rfl
theorem snd85 [Luck] {c m : Clo} (hc : Ok c) (hm : Ok m) : Snd Tryz.prog 85 (h85 c m) := by rw [q85]; exact snd_cmp no_known (known hc (snd_cons (snd65 hc hm) (snd_cons (snd60 hc hm) (snd_cons (hm 53) (snd_cons (hm 134) snd_nof))))) Tryz.func85 (by kernel_rfl) (by kernel_rfl)
def an135 : An := (.s (.r []) (.s (.r []) (.s (.s (.r []) (.b none (.l [3, 12] (.s (.r []) (.s (.c none .n .n) (.s (.b (some [3]) (.s (.r []) (.s (.s (.d [(0, []), (1, []), (2, []), (3, []), (4, []), (5, []), (6, []), (7, []), (8, []), (9, []), (10, []), (11, []), (12, []), (13, []), (14, []), (15, []), (16, []), (17, []), (18, []), (19, []), (20, []), (21, []), (22, [])]) (.c none .n .n)) (.s (.d [(0, []), (1, []), (2, []), (3, []), (4, []), (5, []), (6, []), (7, []), (8, []), (9, []), (10, []), (11, []), (12, []), (13, []), (14, []), (15, []), (16, []), (17, []), (18, []), (19, []), (20, []), (21, []), (22, []), (23, []), (24, []), (25, []), (26, []), (27, []), (28, []), (29, []), (30, [])]) (.c (some [3]) (.r []) .n))))) (.r []))))))) (.s (.r []) .n))))
noncomputable def cd135 (c m : Clo) (f : Nat) : Fn := nof
theorem q135 (c m : Clo) : h135 c m = cmpF Tryz.prog (cd135 c m) noInv eqsT c Tryz.f135 (Tryz.f135.body.getD .skip) an135 := by kernel_rfl
theorem snd135 [Luck] {c m : Clo} (hc : Ok c) (hm : Ok m) : Snd Tryz.prog 135 (h135 c m) := by rw [q135]; exact snd_cmp no_known (known hc snd_nof) Tryz.func135 (by kernel_rfl) (by kernel_rfl)
def an136 : An := (.s (.r []) (.d [(0, []), (1, []), (2, []), (3, []), (4, []), (5, []), (6, []), (7, []), (8, []), (9, []), (10, []), (11, []), (12, [])]))
noncomputable def cd136 (c m : Clo) (f : Nat) : Fn := nof
theorem q136 (c m : Clo) : h136 c m = cmpF Tryz.prog (cd136 c m) noInv eqsT c Tryz.f136 (Tryz.f136.body.getD .skip) an136 := by kernel_rfl
theorem snd136 [Luck] {c m : Clo} (hc : Ok c) (hm : Ok m) : Snd Tryz.prog 136 (h136 c m) := by rw [q136]; exact snd_cmp no_known (known hc snd_nof) Tryz.func136 (by kernel_rfl) (by kernel_rfl)
def an199 : An := (.s (.r []) (.s (.s (.r []) (.c none (.s (.r []) .n) .n)) (.s (.r []) (.s (.s (.r []) (.c none (.s (.r []) .n) .n)) (.s (.r []) .n)))))
noncomputable def cd199 (c m : Clo) (f : Nat) : Fn := (Bool.rec (Bool.rec nof (h109 c m) (Nat.beq f 109)) (m 57) (Nat.beq f 57))
theorem q199 (c m : Clo) : h199 c m = cmpF Tryz.prog (cd199 c m) noInv eqsT c Tryz.f199 (Tryz.f199.body.getD .skip) an199 := by kernel_rfl
theorem snd199 [Luck] {c m : Clo} (hc : Ok c) (hm : Ok m) : Snd Tryz.prog 199 (h199 c m) := by rw [q199]; exact snd_cmp no_known (known hc (snd_cons (hm 57) (snd_cons (snd109 hc hm) snd_nof))) Tryz.func199 (by kernel_rfl) (by kernel_rfl)
def an212 : An := (.s (.r []) (.s (.r []) (.s (.r []) (.s (.r []) (.s (.r []) .n)))))
noncomputable def cd212 (c m : Clo) (f : Nat) : Fn := nof
theorem q212 (c m : Clo) : h212 c m = cmpF Tryz.prog (cd212 c m) noInv eqsT c Tryz.f212 (Tryz.f212.body.getD .skip) an212 := by kernel_rfl
theorem snd212 [Luck] {c m : Clo} (hc : Ok c) (hm : Ok m) : Snd Tryz.prog 212 (h212 c m) := by rw [q212]; exact snd_cmp no_known (known hc snd_nof) Tryz.func212 (by kernel_rfl) (by kernel_rfl)
def an263 : An := (.s (.r []) (.s (.r []) (.s .n (.s (.b none (.l [3] (.b none (.s (.r []) (.s (.b (some []) (.s (.d [(0, []), (1, []), (2, []), (3, []), (4, []), (5, []), (6, []), (7, []), (8, []), (9, []), (10, []), (11, []), (12, []), (13, []), (14, []), (15, []), (16, []), (17, []), (18, [])]) (.c none .n (.s (.r []) (.c (some []) (.r []) (.r [])))))) (.s (.d [(0, []), (1, []), (2, []), (3, []), (4, []), (5, []), (6, []), (7, []), (8, []), (9, []), (10, []), (11, []), (12, [])]) (.r []))))))) (.s (.r []) .n)))))
noncomputable def cd263 (c m : Clo) (f : Nat) : Fn := (Bool.rec (Bool.rec (Bool.rec nof (h215 c m) (Nat.beq f 215)) (m 207) (Nat.beq f 207)) (h206 c m) (Nat.beq f 206))
theorem q263 (c m : Clo) : h263 c m = cmpF Tryz.prog (cd263 c m) noInv eqsT c Tryz.f263 (Tryz.f263.body.getD .skip) an263 := by kernel_rfl
theorem snd263 [Luck] {c m : Clo} (hc : Ok c) (hm : Ok m) : Snd Tryz.prog 263 (h263 c m) := by rw [q263]; exact snd_cmp no_known (known hc (snd_cons (snd206 hc hm) (snd_cons (hm 207) (snd_cons (snd215 hc hm) snd_nof)))) Tryz.func263 (by kernel_rfl) (by kernel_rfl)
def an138 : An := (.s (.r []) (.s (.s (.r [[7]]) (.c none (.s (.r []) .n) .n)) (.s (.r []) .n)))
noncomputable def cd138 (c m : Clo) (f : Nat) : Fn := nof
theorem q138 (c m : Clo) : h138 c m = cmpF Tryz.prog (cd138 c m) noInv eqsT c Tryz.f138 (Tryz.f138.body.getD .skip) an138 := by kernel_rfl
theorem snd138 [Luck] {c m : Clo} (hc : Ok c) (hm : Ok m) : Snd Tryz.prog 138 (h138 c m) := by rw [q138]; exact snd_cmp no_known (known hc snd_nof) Tryz.func138 (by kernel_rfl) (by kernel_rfl)
def an213 : An := (.s (.r []) (.s (.s (.r []) (.b none (.l [12] (.s (.r []) (.s (.c none .n .n) (.s (.b none (.s (.r []) (.r []))) (.r []))))))) (.s (.r []) (.s (.r []) (.s (.r []) .n)))))
noncomputable def cd213 (c m : Clo) (f : Nat) : Fn := (Bool.rec (Bool.rec nof (h138 c m) (Nat.beq f 138)) (h263 c m) (Nat.beq f 263))
theorem q213 (c m : Clo) : h213 c m = cmpF Tryz.prog (cd213 c m) noInv eqsT c Tryz.f213 (Tryz.f213.body.getD .skip) an213 := by kernel_rfl
theorem snd213 [Luck] {c m : Clo} (hc : Ok c) (hm : Ok m) : Snd Tryz.prog 213 (h213 c m) := by rw [q213]; exact snd_cmp no_known (known hc (snd_cons (snd263 hc hm) (snd_cons (snd138 hc hm) snd_nof))) Tryz.func213 (by kernel_rfl) (by kernel_rfl)
def an217 : An := (.s (.r []) (.s (.r []) (.s (.s (.r []) (.b none (.l [6, 11] (.s (.r []) (.s (.c none .n .n) (.s (.b (some [6]) (.s (.r []) (.s (.r []) (.c (some [6]) (.r []) .n)))) (.r []))))))) (.s (.r []) .n))))
noncomputable def cd217 (c m : Clo) (f : Nat) : Fn := nof
theorem q217 (c m : Clo) : h217 c m = cmpF Tryz.prog (cd217 c m) noInv eqsT c Tryz.f217 (Tryz.f217.body.getD .skip) an217 := by kernel_rfl
theorem snd217 [Luck] {c m : Clo} (hc : Ok c) (hm : Ok m) : Snd Tryz.prog 217 (h217 c m) := by rw [q217]; exact snd_cmp no_known (known hc snd_nof) Tryz.func217 (by kernel_rfl) (by kernel_rfl)
def an221 : An := (.r [])
noncomputable def cd221 (c m : Clo) (f : Nat) : Fn := (Bool.rec nof (h217 c m) (Nat.beq f 217))
theorem q221 (c m : Clo) : h221 c m = cmpF Tryz.prog (cd221 c m) noInv eqsT c Tryz.f221 (Tryz.f221.body.getD .skip) an221 := by kernel_rfl
theorem snd221 [Luck] {c m : Clo} (hc : Ok c) (hm : Ok m) : Snd Tryz.prog 221 (h221 c m) := by rw [q221]; exact snd_cmp no_known (known hc (snd_cons (snd217 hc hm) snd_nof)) Tryz.func221 (by kernel_rfl) (by kernel_rfl)
def an222 : An := (.r [])
noncomputable def cd222 (c m : Clo) (f : Nat) : Fn := (Bool.rec nof (h217 c m) (Nat.beq f 217))
theorem q222 (c m : Clo) : h222 c m = cmpF Tryz.prog (cd222 c m) noInv eqsT c Tryz.f222 (Tryz.f222.body.getD .skip) an222 := by kernel_rfl
theorem snd222 [Luck] {c m : Clo} (hc : Ok c) (hm : Ok m) : Snd Tryz.prog 222 (h222 c m) := by rw [q222]; exact snd_cmp no_known (known hc (snd_cons (snd217 hc hm) snd_nof)) Tryz.func222 (by kernel_rfl) (by kernel_rfl)
def an160 : An := (.s (.r []) (.s (.s (.r []) (.c none (.s (.r []) .n) .n)) (.s (.s (.r []) (.s (.r []) (.c none (.s (.r []) .n) .n))) (.s (.r []) (.s (.r []) .n)))))
noncomputable def cd160 (c m : Clo) (f : Nat) : Fn := (Bool.rec (Bool.rec (Bool.rec (Bool.rec nof (h213 c m) (Nat.beq f 213)) (h212 c m) (Nat.beq f 212)) (m 220) (Nat.beq f 220)) (m 93) (Nat.beq f 93))
theorem q160 (c m : Clo) : h160 c m = cmpF Tryz.prog (cd160 c m) noInv eqsT c Tryz.f160 (Tryz.f160.body.getD .skip) an160 := by kernel_rfl
theorem snd160 [Luck] {c m : Clo} (hc : Ok c) (hm : Ok m) : Snd Tryz.prog 160 (h160 c m) := by rw [q160]; exact snd_cmp no_known (known hc (snd_cons (hm 93) (snd_cons (hm 220) (snd_cons (snd212 hc hm) (snd_cons (snd213 hc hm) snd_nof))))) Tryz.func160 (by kernel_rfl) (by kernel_rfl)
def an201 : An := (.s (.r []) (.s (.r []) (.s (.s (.r []) (.b none (.l [15] (.s (.r []) (.s (.c none .n .n) (.s (.b none (.s (.r []) (.s (.r []) (.s (.r []) (.s (.r []) (.r [])))))) (.r []))))))) (.s (.s (.r []) (.c (some []) (.r []) .n)) (.s (.r []) .n)))))
noncomputable def cd201 (c m : Clo) (f : Nat) : Fn := nof
theorem q201 (c m : Clo) : h201 c m = cmpF Tryz.prog (cd201 c m) noInv eqsT c Tryz.f201 (Tryz.f201.body.getD .skip) an201 := by kernel_rfl
theorem snd201 [Luck] {c m : Clo} (hc : Ok c) (hm : Ok m) : Snd Tryz.prog 201 (h201 c m) := by rw [q201]; exact snd_cmp no_known (known hc snd_nof) Tryz.func201 (by kernel_rfl) (by kernel_rfl)
def an202 : An := (.s (.r []) (.s (.s (.r []) (.b none (.l [2, 11] (.s (.r []) (.s (.c none .n .n) (.s (.b none (.s (.r []) (.r []))) (.r []))))))) (.s (.r []) .n)))
noncomputable def cd202 (c m : Clo) (f : Nat) : Fn := nof
theorem q202 (c m : Clo) : h202 c m = cmpF Tryz.prog (cd202 c m) noInv eqsT c Tryz.f202 (Tryz.f202.body.getD .skip) an202 := by kernel_rfl
theorem snd202 [Luck] {c m : Clo} (hc : Ok c) (hm : Ok m) : Snd Tryz.prog 202 (h202 c m) := by rw [q202]; exact snd_cmp no_known (known hc snd_nof) Tryz.func202 (by kernel_rfl) (by kernel_rfl)
def an252 : An := (.s (.r []) (.s (.r []) (.s (.s (.r []) (.c none (.s (.r []) .n) .n)) (.s (.d [(0, []), (1, []), (2, []), (3, []), (4, []), (10, []), (5, [10]), (6, []), (7, []), (8, []), (9, []), (11, []), (12, []), (13, [])]) (.s (.s (.r []) (.c none (.s (.r []) .n) .n)) (.s (.r []) .n))))))
noncomputable def cd252 (c m : Clo) (f : Nat) : Fn := (Bool.rec (Bool.rec (Bool.rec (Bool.rec nof (h202 c m) (Nat.beq f 202)) (h201 c m) (Nat.beq f 201)) (h160 c m) (Nat.beq f 160)) (h199 c m) (Nat.beq f 199))
theorem q252 (c m : Clo) : h252 c m = cmpF Tryz.prog (cd252 c m) noInv eqsT c Tryz.f252 (Tryz.f252.body.getD .skip) an252 := by kernel_rfl
theorem snd252 [Luck] {c m : Clo} (hc : Ok c) (hm : Ok m) : Snd Tryz.prog 252 (h252 c m) := by rw [q252]; exact snd_cmp no_known (known hc (snd_cons (snd199 hc hm) (snd_cons (snd160 hc hm) (snd_cons (snd201 hc hm) (snd_cons (snd202 hc hm) snd_nof))))) Tryz.func252 (by kernel_rfl) (by kernel_rfl)
def an142 : An := (.s (.r []) (.c (some []) (.s (.r []) (.r [])) .n))
noncomputable def cd142 (c m : Clo) (f : Nat) : Fn := nof
theorem q142 (c m : Clo) : h142 c m = cmpF Tryz.prog (cd142 c m) noInv eqsT c Tryz.f142 (Tryz.f142.body.getD .skip) an142 := by kernel_rfl
theorem snd142 [Luck] {c m : Clo} (hc : Ok c) (hm : Ok m) : Snd Tryz.prog 142 (h142 c m) := by rw [q142]; exact snd_cmp no_known (known hc snd_nof) Tryz.func142 (by kernel_rfl) (by kernel_rfl)
def an227 : An := (.r [])
noncomputable def cd227 (c m : Clo) (f : Nat) : Fn := (Bool.rec nof (h215 c m) (Nat.beq f 215))
theorem q227 (c m : Clo) : h227 c m = cmpF Tryz.prog (cd227 c m) noInv eqsT c Tryz.f227 (Tryz.f227.body.getD .skip) an227 := by kernel_rfl
theorem snd227 [Luck] {c m : Clo} (hc : Ok c) (hm : Ok m) : Snd Tryz.prog 227 (h227 c m) := by rw [q227]; exact snd_cmp no_known (known hc (snd_cons (snd215 hc hm) snd_nof)) Tryz.func227 (by kernel_rfl) (by kernel_rfl)
def an165 : An := (.s (.r []) (.s (.s (.r []) (.c none (.s (.r []) .n) .n)) (.s (.r []) (.s (.s (.r []) (.c none (.s (.r []) .n) .n)) (.s (.s (.r []) (.c none (.s (.r []) .n) .n)) (.s (.s (.r []) (.c none (.s (.r []) .n) .n)) (.s (.r []) (.s (.s (.r []) (.c none (.s (.r []) .n) .n)) (.s (.r []) .n)))))))))
noncomputable def cd165 (c m : Clo) (f : Nat) : Fn := (Bool.rec (Bool.rec (Bool.rec (Bool.rec (Bool.rec (Bool.rec (Bool.rec nof (h213 c m) (Nat.beq f 213)) (h212 c m) (Nat.beq f 212)) (m 164) (Nat.beq f 164)) (h226 c m) (Nat.beq f 226)) (h225 c m) (Nat.beq f 225)) (h163 c m) (Nat.beq f 163)) (m 93) (Nat.beq f 93))
theorem q165 (c m : Clo) : h165 c m = cmpF Tryz.prog (cd165 c m) noInv eqsT c Tryz.f165 (Tryz.f165.body.getD .skip) an165 := by kernel_rfl
theorem snd165 [Luck] {c m : Clo} (hc : Ok c) (hm : Ok m) : Snd Tryz.prog 165 (h165 c m) := by rw [q165]; exact snd_cmp no_known (known hc (snd_cons (hm 93) (snd_cons (snd163 hc hm) (snd_cons (snd225 hc hm) (snd_cons (snd226 hc hm) (snd_cons (hm 164) (snd_cons (snd212 hc hm) (snd_cons (snd213 hc hm) snd_nof)))))))) Tryz.func165 (by kernel_rfl) (by kernel_rfl)
end X
