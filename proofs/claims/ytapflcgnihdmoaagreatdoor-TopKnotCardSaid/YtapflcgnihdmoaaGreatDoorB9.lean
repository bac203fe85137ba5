/- The layers are sound. -/
import Derived.Test.YtapflcgnihdmoaaGreatDoorB7
import Derived.Test.YtapflcgnihdmoaaGreatDoorB4
import Derived.Test.YtapflcgnihdmoaaGreatDoorB5
import Derived.Test.YtapflcgnihdmoaaGreatDoorB8
import Derived.Test.YtapflcgnihdmoaaGreatDoorA9
namespace X
open Go Go.Proofs Go.RowKit
set_option linter.unusedVariables false
set_option linter.unusedSectionVars false
set_option maxRecDepth 100000
section
variable [Luck]
theorem clo_ok {m : Clo} (hm : Ok m) : Ok (clo m) := snd_clo fun c hc => snd_cl hc hm
theorem pm_ok {m : Clo} (hm : Ok m) {g : Nat} {F : Fn} (hF : Snd Tryz.prog g F) : Ok (pm m g F) := snd_cons hF hm
theorem m0_ok : Ok m0 := snd_cons snd_cms snd_nof
theorem up1_ok {m : Clo} (hm : Ok m) {g : Nat} {h : Clo → Clo → Fn} (hh : ∀ {c m : Clo}, Ok c → Ok m → Snd Tryz.prog g (h c m)) : Ok (up1 m g h) := pm_ok hm (hh (clo_ok hm) hm)
def EntL (f : Nat) (l : List (List Tr × Tr)) : Prop := ∀ p ∈ l, Ent Tryz.prog f p.1 p.2
theorem entL_nil (f : Nat) : EntL f [] := fun p h => by cases h
theorem upT_ok {m : Clo} (hm : Ok m) {g : Nat} {t : List (List Tr × Tr)} (ht : EntL g t) {h : Clo → Clo → Fn} (hh : ∀ {c m : Clo}, Ok c → Ok m → Snd Tryz.prog g (h c m)) : Ok (upT m g t h) := pm_ok hm (snd_memoG (hh (clo_ok hm) hm) ht)
theorem upM_ok {m : Clo} (hm : Ok m) {g : Nat} {t : List (List Tr × Tr)} (ht : EntL g t) : Ok (upM m g t) := pm_ok hm (snd_memo ht)
structure TbOk (t : Tbs) : Prop where
  h110 : EntL 110 t.t110
  h164 : EntL 164 t.t164
  h66 : EntL 66 t.t66
  h220 : EntL 220 t.t220
  h207 : EntL 207 t.t207
  h108 : EntL 108 t.t108
  h113 : EntL 113 t.t113
  h59 : EntL 59 t.t59
  h94 : EntL 94 t.t94
  h93 : EntL 93 t.t93
  h122 : EntL 122 t.t122
  h140 : EntL 140 t.t140
  h170 : EntL 170 t.t170
  h153 : EntL 153 t.t153
  h95 : EntL 95 t.t95
  h44 : EntL 44 t.t44
theorem tb0 : TbOk {} := ⟨entL_nil _, entL_nil _, entL_nil _, entL_nil _, entL_nil _, entL_nil _, entL_nil _, entL_nil _, entL_nil _, entL_nil _, entL_nil _, entL_nil _, entL_nil _, entL_nil _, entL_nil _, entL_nil _⟩
theorem prN_true {v : AV} {k : Nat → Bool} {d : Bool} (h : prN v k d = true) : (∃ n, k n = true) ∨ d = true := by
  unfold prN at h
  rcases mA_true h with ⟨l, rfl, h1⟩ | h1
  · cases l with
    | nil => exact .inr h1
    | cons a l =>
      rcases mI_true (v := a) h1 with ⟨_, _, rfl, h2⟩ | h2
      · cases l with
        | nil => exact .inr h2
        | cons b l =>
          cases l with
          | nil => exact .inr h2
          | cons c l =>
            rcases mI_true (v := c) h2 with ⟨_, _, rfl, h3⟩ | h3
            · exact .inl ⟨_, h3⟩
            · exact .inr h3
      · exact .inr h2
  · exact .inr h1
theorem hn53_ok : Hint hn53 := fun vs k d h => by
  cases vs with
  | nil => exact .inr h
  | cons x l =>
    have h' : prN x (fun i => (List.rec d (fun y _ _ => prN y (fun j => k (Nat.add (Nat.mul 8 i) j)) d) l : Bool)) d = true := h
    rcases prN_true h' with ⟨i, h1⟩ | h1
    · cases l with
      | nil => exact .inr h1
      | cons y l =>
        have h2' : prN y (fun j => k (Nat.add (Nat.mul 8 i) j)) d = true := h1
        rcases prN_true h2' with ⟨j, h2⟩ | h2
        · exact .inl ⟨_, h2⟩
        · exact .inr h2
    · exact .inr h1
theorem run53 : allB ((List.range 64).map fun n => runX h53 m0 (e53 n)) = true := by kernel_rfl
theorem m00_ok (hS : Start S0) : Ok m00 := pm_ok m0_ok (snd_memoH (snd53 (clo_ok m0_ok) m0_ok) hn53_ok fun n hn => ent_run (snd53 (clo_ok m0_ok) m0_ok) hS (allB_mem run53 _ (List.mem_map.2 ⟨n, List.mem_range.2 hn, rfl⟩)))
theorem lA_ok (hS : Start S0) : Ok lA := up1_ok (up1_ok (pm_ok (m00_ok hS) (snd_ins (snd134 (clo_ok (m00_ok hS)) (m00_ok hS)))) snd13) snd100
theorem l1_ok (hS : Start S0) {t : Tbs} (h : TbOk t) : Ok (l1 t) := upT_ok (upT_ok (upT_ok (upT_ok (upT_ok (lA_ok hS) h.h110 snd110) h.h164 snd164) h.h66 snd66) h.h220 snd220) h.h207 snd207
theorem lB_ok (hS : Start S0) {t : Tbs} (h : TbOk t) : Ok (lB t) := upT_ok (upT_ok (upT_ok (upT_ok (l1_ok hS h) h.h108 snd108) h.h113 snd113) h.h59 snd59) h.h94 snd94
theorem lC_ok (hS : Start S0) {t : Tbs} (h : TbOk t) : Ok (lC t) := upT_ok (upT_ok (upT_ok (upT_ok (lB_ok hS h) h.h93 snd93) h.h122 snd122) h.h140 snd140) h.h170 snd170
theorem lD_ok (hS : Start S0) {t : Tbs} (h : TbOk t) : Ok (lD t) := up1_ok (up1_ok (up1_ok (up1_ok (up1_ok (up1_ok (lC_ok hS h) snd57) snd67) snd200) snd143) snd252) snd33
theorem lE_ok (hS : Start S0) {t : Tbs} (h : TbOk t) : Ok (lE t) := up1_ok (upT_ok (up1_ok (upT_ok (lD_ok hS h) h.h153 snd153) snd49) h.h95 snd95) snd44
theorem m1_ok (hS : Start S0) : Ok m1 := lE_ok hS tb0
end
/-! awake -/
def opP (i cost : Nat) (own other : List Nat) : Tr := .a (proT i cost (entT own 0 0 5 0) true (atE other 5 0) 3)
def opR (i cost : Nat) : Tr := .r 6 1 (prT i ++ [.i (.negSucc 0), .i (.ofNat (2 * cost)), .r 3 2 ([.s [97]] ++ amT 0 0 ++ [.s [98]] ++ amT 0 0)])
def tab37 : List Ety := [([opP 0 5 [97] [98]], opR 0 5), ([opP 1 3 [98] [97]], opR 1 3)]
noncomputable def call37 (c m : Clo) (f : Nat) : Fn := Bool.rec (Bool.rec (Bool.rec (Bool.rec (Bool.rec (Bool.rec nof (h69 c m) (Nat.beq f 69)) (h68 c m) (Nat.beq f 68)) (m 67) (Nat.beq f 67)) (h66 c m) (Nat.beq f 66)) (h65 c m) (Nat.beq f 65)) (h46 c m) (Nat.beq f 46)
theorem o1 : layL [opP 0 5 [97] [98]] S0 (fun vs s => run37 (call37 (clo m1) m1) (clo m1) vs s fun v s' => mt true (opR 0 5) v s' true false) = true := by kernel_rfl
theorem o2 : layL [opP 1 3 [98] [97]] S0 (fun vs s => run37 (call37 (clo m1) m1) (clo m1) vs s fun v s' => mt true (opR 1 3) v s' true false) = true := by kernel_rfl
/-- the layers with rollback.Options and central.Do on top -/
noncomputable def lF : Clo := pm (pm m1 22 (h22 (clo m1) m1)) 37 (memoF tab37)
noncomputable def lG : Clo := pm lF 8 (h8 (clo lF) lF)
noncomputable def lH : Clo := pm (pm lG 6 (h6 (clo lG) lG)) 9 (h9 (clo lG) lG)
theorem awake_run : runF S0 (h5 (clo lH) lH) ([], .b true) = true := by kernel_rfl
section
variable [Luck]
theorem call37_ok {c m : Clo} (hc : Ok c) (hm : Ok m) : Ok (call37 c m) := snd_cons (snd46 hc hm) (snd_cons (snd65 hc hm) (snd_cons (snd66 hc hm) (snd_cons (hm 67) (snd_cons (snd68 hc hm) (snd_cons (snd69 hc hm) snd_nof)))))
theorem tab37_ok (hS : Start S0) : EntL 37 tab37 := fun p hp => by
  have hk : Kn Tryz.prog (call37 (clo m1) m1) (clo m1) := known (clo_ok (m1_ok hS)) (call37_ok (clo_ok (m1_ok hS)) (m1_ok hS))
  rcases List.mem_cons.1 hp with e | e
  · subst e; exact ent37 hk hS o1
  · rcases List.mem_cons.1 e with e | e
    · subst e; exact ent37 hk hS o2
    · cases e
theorem lF_ok (hS : Start S0) : Ok lF := pm_ok (pm_ok (m1_ok hS) (snd22 (clo_ok (m1_ok hS)) (m1_ok hS))) (snd_memo (tab37_ok hS))
theorem lG_ok (hS : Start S0) : Ok lG := pm_ok (lF_ok hS) (snd8 (clo_ok (lF_ok hS)) (lF_ok hS))
theorem lH_ok (hS : Start S0) : Ok lH := pm_ok (pm_ok (lG_ok hS) (snd6 (clo_ok (lG_ok hS)) (lG_ok hS))) (snd9 (clo_ok (lG_ok hS)) (lG_ok hS))
theorem awake_ent (hS : Start S0) : Ent Tryz.prog 5 [] (.b true) := ent_run (snd5 (clo_ok (lH_ok hS)) (lH_ok hS)) hS awake_run
end
end X
