/- slices.Insert at a slice of processes, where the capacity is not known: both ways, as one function. -/
import Derived.Test.YtapflcgnihdmoaaGreatDoorB6
import Derived.Test.YtapflcgnihdmoaaGreatDoorA9
import Derived.Test.YtapflcgnihdmoaaGreatDoorB1
namespace X
open Go Go.Proofs Go.RowKit
set_option linter.unusedVariables false
set_option linter.unusedSimpArgs false
set_option linter.unusedSectionVars false
set_option maxRecDepth 100000
variable [Luck]
theorem snd_ins {h : Fn} (hS : Snd Tryz.prog 134 h) : Snd Tryz.prog 134 (insF h) := fun vs s k hh w0 w μ xs hr hv g0 g2 => by
  have h0 := hS vs s k
  unfold insF at hh
  obtain ⟨x, t1, rfl, h1⟩ := ar1_true hh
  obtain ⟨y, t2, rfl, h2⟩ := ar1_true h1
  obtain ⟨v, t3, rfl, h3⟩ := ar1_true h2
  obtain ⟨rfl, h4⟩ := ar0_true h3
  rcases wSl_true h4 with ⟨rfl, h5⟩ | ⟨b, i, l, r, z, ex, rfl, h5⟩
  · exact h0 h5 w0 w μ xs hr hv g0 g2
  rcases brec_cases h5 with ⟨rfl, h6⟩ | ⟨rfl, h6⟩
  · exact h0 h6 w0 w μ xs hr hv g0 g2
  obtain ⟨t, q0, rfl, h7⟩ := wI_true h6
  obtain ⟨ht, h8⟩ := brec_true h7
  obtain rfl := kq_true ht
  cases q0 with
  | negSucc q => cases h8
  | ofNat q =>
  rcases brec_cases (show (Bool.rec _ _ (Nat.ble (Nat.succ q) l) : Bool) = true from h8) with ⟨hq, h9⟩ | ⟨_, h9⟩
  rotate_left
  · exact h0 h9 w0 w μ xs hr hv g0 g2
  obtain ⟨hA, h10⟩ := brec_true h9
  obtain ⟨hz, hB⟩ := brec_true h10
  have hz := neq_true hz
  subst hz
  have hq : q < l := nle_true hq
  clear hh h1 h2 h3 h4 h5 h6 h7 h8 h9 h10 h0
  obtain ⟨x', xs1, e1, hx, hv1⟩ := hv.inv
  obtain ⟨y', xs2, e2, hy, hv2⟩ := hv1.inv
  obtain ⟨v', xs3, e3, hvv, hv3⟩ := hv2.inv
  have e4 := hv3.inv_nil
  subst e4; subst e3; subst e2
  have hx0 := hx
  obtain ⟨p, ad, cap, rfl, hp, hpz, hrc, hex, hlr, had, hsz⟩ := sl_inv hx
  rcases Nat.lt_or_ge cap (l + 1) with hroom | hroom
  · -- no room: as if the capacity were known
    refine hS _ s k hA w0 w μ xs hr ?_ g0 g2
    rw [e1]
    exact VL.cons (.sl b i l l 16 true p ad cap hp hpz (by omega) (fun _ => by omega) (Nat.le_refl _) had hsz) hv1
  -- in place
  obtain rfl := int_inv hy
  obtain ⟨n, rs, olds, hB1, hrows⟩ := rowsOf_true hr hx0 hB
  obtain ⟨base', cap', e5, _, _⟩ := id hrows.sl
  cases e5
  rcases wSl_true hB1 with ⟨_, hB2⟩ | ⟨b', i', l', r', z', ex', rfl, hB2⟩
  · cases hB2
  obtain ⟨hl1, hB3⟩ := brec_true hB2
  obtain rfl := neq_true hl1
  obtain ⟨zz, lz, hb', hB4⟩ := wCe_true hB3
  have hvv0 := hvv
  obtain ⟨p', ad', capv, rfl, hp', hpz', hrc', hex', hlr', had', hsz'⟩ := sl_inv hvv
  obtain ⟨n', vs, news, hB5, hrowv⟩ := rowsOf_true hr hvv0 hB4
  obtain ⟨base2, cap2, e6, hvcell, _⟩ := id hrowv.sl
  cases e6
  have hcv0 : capv ≠ 0 := by omega
  have hadv := had' hcv0
  subst hadv
  have hc0 : cap ≠ 0 := by omega
  have hade := had hc0
  subst hade
  obtain ⟨z0, rows, hb, h5⟩ := wCw_true hB5
  obtain ⟨hle, hF⟩ := brec_true h5
  have hle : l + 1 ≤ 1000000 := nle_true hle
  obtain ⟨m, hm, hk⟩ := newO_true (show newO _ (putO b .e s) _ = true from hF)
  rw [putO_nx] at hm hk
  rw [app_eq, app_eq, tk_eq, drp_eq] at hk
  have hne : b' ≠ b := fun e => by
    subst e
    rw [putO_hp, hget_hset] at hb'
    rcases hb' with c | c <;> cases c
  rw [putO_hp, hget_hset_ne _ _ hne] at hb'
  have hgne : p'.g ≠ p.g := fun e => by
    rcases hb' with c | c
    · exact hne (hr.inj b b' _ _ p p' hb rfl c hp hp' e.symm).symm
    · exact hne (hr.inj b b' _ _ p p' hb rfl c hp hp' e.symm).symm
  have hcl := hr.cl (.inl hb) hp
  obtain ⟨hz', hl2, hsz2, cs, el', hcs, hcsz, hcell⟩ := id hcl
  obtain ⟨_, _, _, csv, elv, hcsv, hcszv, _⟩ := hr.cl hb' hp'
  have hol : olds.length = l * 16 := hrows.xlen
  have hnl : news.length = 16 := by rw [hrowv.xlen]
  have hcz : (i + cap) * p.z = i * p.z + cap * p.z := Nat.add_mul _ _ _
  have hlz : (l + 1) * p.z ≤ cap * p.z := Nat.mul_le_mul_right _ hroom
  have hfit : p.sh + i * p.z + (l + 1) * 16 ≤ cs.size := by rw [hcsz]; rw [hpz] at hlz hcz hsz ⊢; omega
  have hrun : (callFunc 134 xs).run Tryz.prog w = .ok (.enter 134 xs) w := by
    have hn : ¬ Tryz.f134.name = "runtime.NumGoroutine" := by
      have : (Tryz.f134.name == "runtime.NumGoroutine") = false := by kernel_rfl
      simpa using this
    obtain ⟨B, hB⟩ : ∃ B, Tryz.f134.body = some B := ⟨_, rfl⟩
    unfold callFunc
    simp [program, Sem.run, Tryz.func134, hn, hB]
  have hxs : xs = #[.slice (some ⟨p.g, p.sh + i * p.z, none⟩) l cap, .int .i64 (Int.ofNat q), .slice (some ⟨p'.g, p'.sh + i' * p'.z, none⟩) 1 capv] := by apply Array.ext'; rw [e1]
  show outR _ _ _
  rw [hrun]
  show Calls _ _ _ _ _
  rw [hxs]
  have hcs0 : ∀ (j : Nat) (u : Value), olds[j]? = some u → cs[p.sh + i * p.z + j]? = some u := fun j u hj => by
    obtain ⟨base3, cap3, e7, hc3, _⟩ := hrows.sl
    cases e7
    obtain ⟨b3, e8, hc4⟩ := hc3 j u hj
    cases e8
    rw [addr_add] at hc4
    unfold World.cell? at hc4
    simp only [hcs] at hc4
    simpa using hc4
  refine (ins_room p.g (p.sh + i * p.z) l cap q p'.g (p'.sh + i' * p'.z) capv cs csv el' elv olds news w hq hroom hle hgne hcs hcsv hol hnl hcs0 (fun j u hj => ?_) hfit hrows.vc.2 hrowv.vc.2).mono ?_
  · obtain ⟨b3, e8, hc4⟩ := hvcell j u hj
    cases e8
    rw [addr_add] at hc4
    unfold World.cell? at hc4
    simp only [hcsv] at hc4
    simpa using hc4
  rintro e w' ⟨rfl, c1, hc1, rfl⟩
  generalize hoff : p.sh + i * p.z = off at *
  have hon : (olds.drop (q * 16)).length = (l - q) * 16 := by rw [List.length_drop, hol, Nat.sub_mul]
  have hlq : q * 16 + (l - q) * 16 = l * 16 := by rw [← Nat.add_mul]; congr 1; omega
  have hqa : (q + 1) * 16 = q * 16 + 16 := Nat.add_mul _ _ _
  have hla : (l + 1) * 16 = l * 16 + 16 := Nat.add_mul _ _ _
  have hc1l : off + (q + 1) * 16 + (olds.drop (q * 16)).length ≤ cs.toList.length := by rw [hon, Array.length_toList]; omega
  have hc1e : ∀ j, c1.toList[j]? = if off + (q + 1) * 16 ≤ j ∧ j < off + (q + 1) * 16 + (olds.drop (q * 16)).length then (olds.drop (q * 16))[j - (off + (q + 1) * 16)]? else cs.toList[j]? := fun j => by
    rw [hc1]; exact split_get hc1l j
  have hc1s : c1.size = cs.size := by rw [hc1]; simp at hc1l ⊢; omega
  have hc2l : off + q * 16 + news.length ≤ c1.toList.length := by rw [hnl, Array.length_toList, hc1s]; omega
  have hw2 : ((w.drew.setRow p.g c1).setRow p.g (c1.toList.take (off + q * 16) ++ news ++ c1.toList.drop (off + q * 16 + news.length)).toArray).heap[p.g]? = some (.cells (c1.toList.take (off + q * 16) ++ news ++ c1.toList.drop (off + q * 16 + news.length)).toArray el' (0, 0)) :=
    setRow_heap _ _ c1 _ _ _ (setRow_heap _ _ cs _ _ _ hcs)
  have hle' : MLe μ (setM μ (nx s) ⟨p.g, off, p.z, p.sz⟩) := hr.mle (MX.set hr _)
  have hrl : rs.length = l := hrows.len
  have hcl' : Cl (setM μ (nx s) ⟨p.g, off, p.z, p.sz⟩) ((w.drew.setRow p.g c1).setRow p.g (c1.toList.take (off + q * 16) ++ news ++ c1.toList.drop (off + q * 16 + news.length)).toArray) ⟨p.g, off, p.z, p.sz⟩ 16 (rs.take q ++ (vs ++ rs.drop q)) := by
    refine Cl.mk_flat (xs := olds.take (q * 16) ++ (news ++ olds.drop (q * 16))) hpz.symm (fun u hu => ?_) ?_ hw2 ?_ ?_ (fun j u hj => ?_)
    · show u.length = p.z
      rw [hpz]
      rcases List.mem_append.1 hu with h | h
      · exact hrows.row u (List.mem_of_mem_take h)
      · rcases List.mem_append.1 h with h | h
        · exact hrowv.row u h
        · exact hrows.row u (List.mem_of_mem_drop h)
    · show off + (rs.take q ++ (vs ++ rs.drop q)).length * p.z ≤ p.sz
      rw [hpz, List.length_append, List.length_append, List.length_take, List.length_drop, hrl, hrowv.len]
      rw [show min q l + (1 + (l - q)) = l + 1 by omega, ← hcsz]; exact hfit
    · show _ = p.sz
      rw [← hcsz, ← hc1s]; simp at hc2l ⊢; omega
    · rw [List.flatten_append, List.flatten_append]
      have e1 : (rs.take q).flatten = rs.flatten.take (q * 16) := flat_take hrows.row (by omega)
      have e2 : (rs.drop q).flatten = rs.flatten.drop (q * 16) := by
        have h := congrArg List.flatten (List.take_append_drop q rs)
        rw [List.flatten_append, e1] at h
        have h2 := List.take_append_drop (q * 16) rs.flatten
        exact List.append_cancel_left (h.trans h2.symm)
      rw [e1, e2]
      exact ((hrows.vc.take _).app (hrowv.vc.app (hrows.vc.drop _))).mono hle'
    · simp only [List.getElem?_toArray]
      rw [split_get hc2l, hnl]
      show (if off + q * 16 ≤ off + j ∧ off + j < off + q * 16 + 16 then news[off + j - (off + q * 16)]? else c1.toList[off + j]?) = some u
      have htl : (olds.take (q * 16)).length = q * 16 := by rw [List.length_take, hol]; omega
      rw [List.getElem?_append, htl] at hj
      split at hj
      · rename_i h1
        rw [if_neg (by omega), hc1e, if_neg (by omega)]
        rw [List.getElem?_take, if_pos h1] at hj
        have := hcs0 j u hj
        simpa using this
      · rename_i h1
        rw [List.getElem?_append, hnl] at hj
        split at hj
        · rename_i h2
          rw [if_pos (by omega), show off + j - (off + q * 16) = j - q * 16 by omega]
          exact hj
        · rename_i h2
          have hjl := (List.getElem?_eq_some_iff.1 hj).1
          rw [if_neg (by omega), hc1e, if_pos (by omega), show off + j - (off + (q + 1) * 16) = j - q * 16 - 16 by omega]
          exact hj
  refine ⟨_, rfl, _, _, _, by show _ ≤ m.n; omega, hk, MX.set hr ⟨p.g, off, p.z, p.sz⟩, ?_, ?_⟩
  · refine .sl _ 0 (l + 1) (l + 1) _ false ⟨p.g, off, p.z, p.sz⟩ _ cap (by rw [setM_same]) hpz hroom (fun e => by cases e) (Nat.le_refl _) (fun _ => by simp) ?_
    show off + (0 + cap) * p.z ≤ p.sz
    rw [Nat.zero_add]; omega
  · exact hr.over hm hb hp rfl rfl rfl rfl (by simp) (fun k hk => by rw [setRow_other _ _ _ _ hk, setRow_other _ _ _ _ hk]; rfl) hcl'
end X
