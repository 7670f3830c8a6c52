/- Contracts of functions: the program's Graph. -/
import Derived.Test.YtmihmgnjnedfcaaS5
set_option maxRecDepth 100000
set_option linter.unusedSimpArgs false
set_option linter.unusedVariables false
namespace Go.AM.Ytmihmgnjnedfcaa
open Go Go.AM
attribute [local simp ↓] awp_seq awp_reg awp_skip awp_cond awp_block awp_exit awp_ret awp_fz thenW_normal thenW_exit thenW_ret inBlk_normal inBlk_exit inBlk_ret aops_cons aops_nil e_mv e_guard e_pick e_ld e_app e_cpy e_st e_call callW_f updO_some updO_none e_bin e_isnil e_fadr e_iadr e_iarr e_len e_build e_mkf e_nc e_not e_neg e_cvt e_slc e_fld e_ext e_min e_eqs e_new e_box e_mkl e_mks
attribute [local simp] upd_apply ev_t ev_k ev_f binA_add binA_sub binA_mul binA_quo binA_rem binA_eql binA_neq binA_lss binA_leq binA_gtr binA_geq det mem frame0 keeps_nil iadrA_sl fadrA_ref fadrA_fp ldv_agg ldv_one cells_base hset_same hset_hset lenA_fs lenA_sl lenA_nils zeros_ints ints_length one_base one_nilp one_nils one_ref one_sl one_fp one_fs one_fn gl_one resA resOf bound natOf afill splice AV.cells cells_agg bindW_some condW_true condW_false condW_dec condW_ndec guardW_tup guardW_true guardW_true' guardW_false guardW_false' allocW_some pickA_true pickA_false
theorem GI.start2 {h h1 : Hp} {br bg bl : Nat} (hk : Kp (hset h br [I 0, .nils]) h1) {V : Int} (hr : h br = none) (hg : h1 bg = none) (hl : hset h1 bg [I V, .nils] bl = none) (l : List Int) :
    GI h br bg bl V l [] .nils (hset (hset h1 bg [I V, .nils]) bl (ints l)) := by
  have hk0 : h1 br = some [I 0, .nils] := hk br _ (hset_same ..)
  have ne1 : bg ≠ br := fun he => by rw [he, hk0] at hg; cases hg
  have ne2 : bl ≠ bg := fun he => by rw [he, hset_same] at hl; cases hl
  have ne3 : bl ≠ br := fun he => by rw [he, hset_ne _ _ (Ne.symm ne1), hk0] at hl; cases hl
  have hg' := hk.no hg
  rw [hset_ne _ _ ne1] at hg'
  have hl' := hl
  rw [hset_ne _ _ ne2] at hl'
  have hl2 := hk.no hl'
  rw [hset_ne _ _ ne3] at hl2
  refine ⟨_, ((Kp.trans (fun b xs hb => ?_) hk).new hg _).new hl _, hr, hg', ne1, ne2, ne3, ?_, ?_, hl2, hset_same .., Own.nils 3 _⟩
  · have : b ≠ br := fun he => by rw [he, hr] at hb; cases hb
    rw [hset_ne _ _ this]; exact hb
  · rw [hset_ne _ _ (Ne.symm ne3), hset_ne _ _ (Ne.symm ne1)]; exact hk0
  · rw [hset_ne _ _ (Ne.symm ne2), hset_same]

section
variable {h h' X : Hp} {br bg bl : Nat} {V : Int} {l : List Int} {A : Arcs} {va : AV}
/-- A new block beside, to keep. -/
theorem GI.keep (g : GI h br bg bl V l A va h') {b : Nat} (hb : h' b = none) (ys : List AV) : GI (hset h b ys) br bg bl V l A va (hset h' b ys) := by
  have r1 := g.rr
  have r2 := g.rg
  have r3 := g.rl
  obtain ⟨F, hF, hr, hg, n1, n2, n3, f1, f2, hl, f3, o⟩ := g
  have m1 : br ≠ b := fun he => by rw [he, hb] at r1; cases r1
  have m2 : bg ≠ b := fun he => by rw [he, hb] at r2; cases r2
  have m3 : bl ≠ b := fun he => by rw [he, hb] at r3; cases r3
  exact ⟨hset F b ys, hF.both b ys, by rwa [hset_ne _ _ m1], by rwa [hset_ne _ _ m2], n1, n2, n3, by rwa [hset_ne _ _ m1], by rwa [hset_ne _ _ m2], by rwa [hset_ne _ _ m3], by rwa [hset_ne _ _ m3], o.add hb ys⟩
theorem GI.rb (g : GI X br bg bl V l A va h') {b : Nat} {ys : List AV} (hb : X b = some ys) : h' b = some ys := by
  obtain ⟨F, hF, hr, hg, n1, n2, n3, f1, f2, hl, f3, o⟩ := g
  exact o.rd (hF b ys hb)
theorem GI.base (g : GI X br bg bl V l A va h') (k : Kp h X) : GI h br bg bl V l A va h' := by
  obtain ⟨F, hF, hr, hg, n1, n2, n3, f1, f2, hl, f3, o⟩ := g
  exact ⟨F, k.trans hF, k.no hr, k.no hg, n1, n2, n3, f1, f2, k.no hl, f3, o⟩
theorem GI.no (g : GI h br bg bl V l A va h') {b : Nat} (hb : h' b = none) : h b = none := by
  obtain ⟨F, hF, hr, hg, n1, n2, n3, f1, f2, hl, f3, o⟩ := g
  exact (hF.trans o.kp).no hb
end

theorem histE_each {n : Int} : ∀ {H : Hist}, histE n H = 0 → ∀ i, i < H.length → (0 ≤ (H.getD i default).1 ∧ (H.getD i default).1 < n) ∧ nodesE (H.getD i default).2 (H.getD i default).2.length n (H.getD i default).1 = 0
  | [], _, i, hi => by simp at hi
  | (v, l) :: H, h, i, hi => by
    simp only [histE] at h
    split at h
    · omega
    · rename_i h1
      split at h
      · omega
      · rename_i h2
        cases i with
        | zero => exact ⟨by simp; omega, by simpa using h2⟩
        | succ i => simpa using histE_each h i (by simpa using hi)

theorem nodesE_each {l : List Int} {n but : Int} (h : nodesE l l.length n but = 0) : ∀ x ∈ l, 0 ≤ x ∧ x < n := by
  unfold nodesE at h
  simp at h
  split at h
  · rename_i hr
    intro x hx
    have := List.all_eq_true.1 hr x hx
    simp at this
    omega
  · omega

theorem GOk.of {n : Nat} {H : Hist} {col : List Int} (hn : n ≤ 64) (h1 : histE n H = 0) (h2 : nodesE col col.length n (-1) = 0) : GOk n H col where
  nd i hi := (histE_each h1 i hi).1
  hs i hi := nodesE_each (histE_each h1 i hi).2
  hl i hi := by have := nodesE_le (by omega) (histE_each h1 i hi).2; omega
  col := nodesE_each h2

/-- What Graph gives. -/
def graphR (n a b : Int) (H : Hist) (col : List Int) : AV :=
  if graphE n a b H col = 0 then .agg [I (2 * (n + H.length) + 2), gl (graphA n.toNat a b H col).length (arcC (graphA n.toNat a b H col))] else .agg [I 0, .nils]

theorem ld_fst {h : Hp} {b : Nat} {x y : AV} (hb : h b = some [x, y]) : cellsAt h (.ref b 0) 1 = some [x] := ld_one_at hb (by simp)

set_option maxHeartbeats 8000000 in
theorem s_Graph {v w : AV} {cells : List AV} {H : Hist} {col : List Int} (hv : SV 2 v H.length cells) (hc : HLc cells H) (hcol : IL w col) (hH : H.length ≤ 130) (hcl : col.length ≤ 100)
    (hhl : ∀ i, i < H.length → (H.getD i default).2.length < 4611686018427387904) (n a b : Int) : Pure prog n_regenerate_Graph [I n, I a, I b, v, w] (.tup [graphR n a b H col, I (graphE n a b H col)]) := by
  refine pure_of cf_regenerate_Graph rfl fun h => ?_
  have early : badG n a b = true → ∀ b10, h b10 = none → RetP h (.tup [graphR n a b H col, I (graphE n a b H col)]) (.tup [.agg [I 0, .nils], I 6]) (hset h b10 [I 0, .nils]) := by
    intro hb b10 hb10
    have he : graphE n a b H col = 6 := by simp [graphE, hb]
    rw [graphR, if_neg (by omega), he]
    exact ⟨_, Kp.sub ((Kp.refl h).new hb10 _), .id _, rfl⟩
  have st0 := fun (h' : Hp) (b10 : Nat) (hh : h' b10 = some [I 0, .nils]) (Q : Hp → Prop) => st_all_at (cs' := [I 0, .nils]) (Q := Q) hh (n := 2) rfl rfl rfl
  have st1 := fun b10 => st0 (hset h b10 [I 0, .nils]) b10 (hset_same ..)
  have lb0 := fun h' b10 => ld_both (hset_same h' b10 [I 0, .nils])
  by_cases c1 : n < 1
  · simp [c1]; intro b10 hb10; simp [st1, lb0]; exact early (by simp [badG, c1]) b10 hb10
  by_cases c2 : 64 < n
  · simp [c1, c2]; intro b10 hb10; simp [st1, lb0]; exact early (by simp [badG, c2]) b10 hb10
  by_cases c3 : a < 0
  · simp [c1, c2, c3]; intro b10 hb10; simp [st1, lb0]; exact early (by simp [badG, c3]) b10 hb10
  by_cases c4 : 1048576 < a
  · simp [c1, c2, c3, c4]; intro b10 hb10; simp [st1, lb0]; exact early (by simp [badG, c4]) b10 hb10
  by_cases c5 : b < 0
  · simp [c1, c2, c3, c4, c5]; intro b10 hb10; simp [st1, lb0]; exact early (by simp [badG, c5]) b10 hb10
  by_cases c6 : 1048576 < b
  · simp [c1, c2, c3, c4, c5, c6]; intro b10 hb10; simp [st1, lb0]; exact early (by simp [badG, c6]) b10 hb10
  clear early st1
  have hg : badG n a b = false := by simp [badG, c1, c2, c3, c4, c5, c6]
  have hcells := hv.1
  simp [c1, c2, c3, c4, c5, c6, hv.len, hcol.len]
  intro b10 hb10
  have fail : ∀ (h' : Hp), Kp (hset h b10 [I 0, .nils]) h' → ∀ e : Int, graphE n a b H col = e → e ≠ 0 → RetP h (.tup [graphR n a b H col, I (graphE n a b H col)]) (.tup [.agg [I 0, .nils], I e]) (hset h' b10 [I 0, .nils]) := by
    intro h' hk e he h0
    rw [graphR, if_neg (by omega), he]
    refine ⟨_, Kp.sub ?_, .id _, rfl⟩
    have hk2 : Kp h h' := Kp.trans (fun x xs hx => by
      have : x ≠ b10 := fun he => by rw [he, hb10] at hx; cases hx
      rw [hset_ne _ _ this]; exact hx) hk
    exact hk2.set hb10 _
  simp (disch := omega) only [w64]
  refine awp_for H.length (fun k fr' h' => Kp (hset h b10 [I 0, .nils]) h' ∧ fr' 61 = I k ∧ histE n (H.take k) = 0 ∧ hsum (H.take k) ≤ 64 * k ∧ fr' 12 = I (2 * n + H.length + col.length + hsum (H.take k))) ⟨Kp.refl _, by simp, by simp [histE], by simp [hsum], by simp [hsum]⟩ ?_
  intro k fr' h' hkn hk ⟨hkp, h61, hx, hs, h12⟩
  have k0 := hk 0 (by decide)
  have k1 := hk 1 (by decide)
  have k2 := hk 2 (by decide)
  have k3 := hk 3 (by decide)
  have k4 := hk 4 (by decide)
  have k10 := hk 10 (by decide)
  have k59 := hk 59 (by decide)
  have k60 := hk 60 (by decide)
  simp at k0 k1 k2 k3 k4 k10 k59 k60
  clear hk
  have hr := hkp b10 _ (hset_same ..)
  have hs0 := hsum_nonneg (H.take k)
  by_cases hlt : k < H.length
  · obtain ⟨e1, e2⟩ := hc k hlt
    have hl := hhl k hlt
    have hsp := drop_get hlt
    have hts := take_snoc hlt
    generalize H.getD k default = p at *
    obtain ⟨nd, hp⟩ := p
    simp only at e1 e2 hl
    have hia := hv.iadr (i := k) ⟨by omega, by omega⟩
    simp at hia
    have hl12 := cellsAt_fpd (h := h') (cells := cells) (k := k * 2) (n := 2) (by omega)
    rw [take2 (by omega), e1] at hl12
    generalize cells.getD (k * 2 + 1) .nils = hw at *
    have bad : histE n ((nd, hp) :: H.drop (k + 1)) ≠ 0 → graphE n a b H col = histE n ((nd, hp) :: H.drop (k + 1)) := by
      intro hb
      have : histE n H = histE n ((nd, hp) :: H.drop (k + 1)) := by
        conv => lhs; rw [hsp]
        exact histE_append n _ _ hx
      simp [graphE, hg, this, hb]
    have hone : one hw = true := by rcases e2.2 with ⟨rfl, _⟩ | rfl <;> rfl
    simp [h61, k0, k59, k60, hlt, hia, hl12]
    intro b14 hb14
    have st14 := fun Q => st_all_at (cs' := [I nd, hw]) (Q := Q) (hset_same h' b14 [I 0, .nils]) (n := 2) rfl rfl (by
      show (one (I nd) && (one hw && true)) = true
      rw [hone]; rfl)
    rw [st14]
    clear st14
    have kp2 : Kp (hset h b10 [I 0, .nils]) (hset h' b14 [I nd, hw]) := hkp.new hb14 _
    have hr2 := kp2 b10 _ (hset_same ..)
    have lf := ld_fst (hset_same h' b14 [I nd, hw])
    have ls := ld_snd (hset_same h' b14 [I nd, hw])
    have fl := fail _ kp2
    have st2 := st0 _ _ hr2
    by_cases d1 : nd < 0
    · simp [h61, k0, k10, lf, d1, st2, lb0, hset_hset]
      exact fl 6 (by rw [bad (by simp [histE, d1])]; simp [histE, d1]) (by omega)
    by_cases d2 : n ≤ nd
    · simp [h61, k0, k10, lf, d1, d2, st2, lb0]
      exact fl 6 (by rw [bad (by simp [histE, d1, d2])]; simp [histE, d1, d2]) (by omega)
    simp [h61, k0, k10, lf, ls, d1, d2, e2.len]
    refine (s_nodes e2 hl _ n nd).call ?_
    by_cases d3 : nodesE hp hp.length n nd = 0
    · have hle := nodesE_le (by omega) d3
      simp [h61, k0, k10, lf, ls, d1, d2, d3, e2.len, h12, hlt]
      simp (disch := omega) only [w64]
      simp
      rw [hts, histE_append n _ _ hx, hsum_append]
      simp [histE, hsum, d1, d2, d3]
      exact ⟨kp2, by omega, by omega⟩
    · simp [d3, k10, st2, lb0]
      exact fl _ (by rw [bad (by simp [histE, d1, d2, d3])]; simp [histE, d1, d2, d3]) d3
  have : k = H.length := by omega
  subst this
  rw [List.take_length] at hx hs h12 hs0
  have st2 := st0 _ _ hr
  have fl := fail _ hkp
  simp [h61, k0, k3, k4, k60, hcol.len]
  refine (s_nodes hcol (by omega) _ n (-1)).call ?_
  by_cases d3 : nodesE col col.length n (-1) = 0
  case neg =>
    simp [d3, k10, st2, lb0]
    exact fl _ (by simp [graphE, hg, hx, d3]) d3
  have w1 : IntKind.i64.wrap (n + H.length) = n + H.length := w64 _ (by omega)
  have w2 : IntKind.i64.wrap (2 * (n + H.length)) = 2 * (n + H.length) := w64 _ (by omega)
  have w3 : IntKind.i64.wrap (2 * (n + H.length) + 2) = 2 * (n + H.length) + 2 := w64 _ (by omega)
  by_cases g1 : 256 < 2 * (n + H.length) + 2
  · simp [d3, k0, k3, k10, hv.len, w1, w2, w3, g1, st2, lb0]
    exact fl 8 (by simp [graphE, hg, hx, d3, g1]) (by omega)
  by_cases g2 : 1024 < 2 * n + H.length + col.length + hsum H
  · simp [d3, k0, k3, k10, hv.len, w1, w2, w3, g1, h12, g2, st2, lb0]
    exact fl 8 (by simp [graphE, hg, hx, d3, g1, g2]) (by omega)
  have hE : graphE n a b H col = 0 := by simp [graphE, hg, hx, d3, g1, g2]
  rw [graphR, if_pos hE, hE]
  clear fail fl st2 hE
  obtain ⟨n, rfl⟩ : ∃ m : Nat, n = m := ⟨n.toNat, by omega⟩
  have ok := GOk.of (by omega) hx d3
  have hn : n ≤ 64 := by omega
  have hn4 : (n : Int) ≤ 4294967296 := by omega
  have w5 : IntKind.i64.wrap (2 * ((n : Int) + H.length) + 1) = 2 * (n + H.length) + 1 := w64 _ (by omega)
  simp [d3, k0, k3, k10, hv.len, w1, w2, w3, g1, h12, g2, hn4]
  clear h12 h61 hlt hkn hs hs0 k59 k60
  intro b18 hb18
  rw [st_all_at (cs' := [I (2 * ((n : Int) + H.length) + 2), .nils]) (hset_same h' b18 [I 0, .nils]) (n := 2) rfl rfl rfl, hset_hset]
  intro b19 hb19
  have gs := GI.start2 hkp hb10 hb18 hb19 (List.replicate n 0)
  generalize hV : 2 * ((n : Int) + H.length) + 2 = V at *
  clear hkp hr hb18 hb19 hb10
  refine awp_for n (fun k fr' h' => ∃ va, GI h b10 b18 b19 V (gLk n k) (gA0 k) va h' ∧ fr' 123 = I k) ⟨.nils, by rw [gLk_zero]; exact gs, by simp⟩ ?_
  clear gs
  intro k fr1 h1 hkn hk ⟨va, g, h14⟩
  have j0 := hk 0 (by decide)
  have j1 := hk 1 (by decide)
  have j2 := hk 2 (by decide)
  have j3 := hk 3 (by decide)
  have j4 := hk 4 (by decide)
  have j10 := hk 10 (by decide)
  have j17 := hk 17 (by decide)
  have j18 := hk 18 (by decide)
  have j19 := hk 19 (by decide)
  have j122 := hk 122 (by decide)
  simp [k0, k1, k2, k3, k4, k10] at j0 j1 j2 j3 j4 j10 j17 j18 j19 j122
  clear hk k0 k1 k2 k3 k4 k10
  by_cases hlt : k < n
  · have st := fun Q => st_ints_at (v := (k : Int)) (Q := Q) g.rl (k := k) (by rw [gLk_len]; exact hlt)
    have g1 := g.put k k
    rw [gLk_set] at g1
    have ld := ld_snd g1.rg
    have u1 : IntKind.i64.wrap (2 * (k : Int)) = 2 * k := w64 _ (by omega)
    have u2 : IntKind.i64.wrap (2 * (k : Int) + 1) = 2 * k + 1 := w64 _ (by omega)
    have u3 : IntKind.i64.wrap ((k : Int) + 1) = k + 1 := w64 _ (by omega)
    simp [j122, j18, j19, h14, hlt, st, gLk_set, ld, u1, u2, u3]
    intro b hb
    refine g1.arc hb (by rw [gA0_len]; omega) fun va' h2 hg hc1 ho g2 => ?_
    simp [st_snd_at hg hc1 ho, gA0_succ, hlt, u3, j18, h14]
    exact ⟨va', by simpa using g2⟩
  -- the versions
  have : k = n := by omega
  subst this
  rw [gLk_all] at g
  have gl0 : (gL0 k).length = k := by simp [gL0]
  simp [j122, h14, j17]
  refine awp_for (k + H.length) (fun j fr' h' => ∃ va, GI h b10 b18 b19 V (gL0 k) (gA0 k ++ gA1 j a) va h' ∧ fr' 141 = I j) ⟨va, by simpa [gA1] using g, by simp⟩ ?_
  clear g h14 hlt hkn
  intro j fr2 h2 hjn hk2 ⟨va2, g, h15⟩
  have l0 := hk2 0 (by decide)
  have l1 := hk2 1 (by decide)
  have l2 := hk2 2 (by decide)
  have l3 := hk2 3 (by decide)
  have l4 := hk2 4 (by decide)
  have l10 := hk2 10 (by decide)
  have l17 := hk2 17 (by decide)
  have l18 := hk2 18 (by decide)
  have l19 := hk2 19 (by decide)
  have l140 := hk2 140 (by decide)
  simp [j0, j1, j2, j3, j4, j10, j17, j18, j19] at l0 l1 l2 l3 l4 l10 l17 l18 l19 l140
  clear hk2 j0 j1 j2 j3 j4 j10 j17 j18 j19 j122
  by_cases hlt : j < k + H.length
  · have hlt' : (j : Int) < (k : Int) + H.length := by omega
    have ld := ld_snd g.rg
    have u1 : IntKind.i64.wrap (2 * (j : Int)) = 2 * j := w64 _ (by omega)
    have u2 : IntKind.i64.wrap (2 * (j : Int) + 1) = 2 * j + 1 := w64 _ (by omega)
    have u4 : IntKind.i64.wrap (2 * (j : Int) + 2) = 2 * j + 2 := w64 _ (by omega)
    have u3 : IntKind.i64.wrap ((j : Int) + 1) = j + 1 := w64 _ (by omega)
    simp [l1, l18, l140, h15, hlt, hlt', ld, u1, u2, u3, u4]
    intro b hb
    refine g.arc hb (by simp [gA0_len, gA1_len]; omega) fun va' h3 hg hc1 ho g2 => ?_
    simp [st_snd_at hg hc1 ho, gA1_succ, hlt, u3, l18, h15]
    exact ⟨va', by simpa [gA1_succ] using g2⟩
  have hlt' : ¬ (j : Int) < (k : Int) + H.length := by omega
  have : j = k + H.length := by omega
  subst this
  simp [l3, l140, hv.len, h15]
  refine awp_for H.length (fun i fr' h' => ∃ va, GI h b10 b18 b19 V (gH k b 0 (gL0 k) (H.take i)).2 (gA0 k ++ gA1 (k + H.length) a ++ (gH k b 0 (gL0 k) (H.take i)).1) va h' ∧ fr' 160 = I i) ⟨va2, by simpa [gH] using g, by simp⟩ ?_
  clear g h15 hlt hlt' hjn
  intro i fr3 h3 hin hk3 ⟨va3, g, h16⟩
  have m0 := hk3 0 (by decide)
  have m2 := hk3 2 (by decide)
  have m4 := hk3 4 (by decide)
  have m10 := hk3 10 (by decide)
  have m17 := hk3 17 (by decide)
  have m18 := hk3 18 (by decide)
  have m19 := hk3 19 (by decide)
  have m158 := hk3 158 (by decide)
  have m159 := hk3 159 (by decide)
  simp [l0, l1, l2, l3, l4, l10, l17, l18, l19] at m0 m2 m4 m10 m17 m18 m19 m158 m159
  clear hk3 l0 l1 l2 l3 l4 l10 l17 l18 l19 l140
  have hln := gH_len k b (H.take i) 0 (gL0 k)
  rw [gl0] at hln
  by_cases hlt : i < H.length
  · obtain ⟨e1, e2⟩ := hc i hlt
    have hts := take_snoc hlt
    have r1 := ok.nd i hlt
    have r2 := ok.hs i hlt
    have r3 := ok.hl i hlt
    have hsl := hsum_le (H.take i) (fun p hp => by
      obtain ⟨j, hj, rfl⟩ := List.mem_iff_getElem.1 hp
      have := ok.hl j (by simp at hj; omega)
      simp at hj
      simpa [List.getD, show j < H.length by omega] using this)
    have hsl2 : ((H.take i).length : Int) ≤ 130 := by simp; omega
    have hgl := gH_len1 k b (H.take i) 0 (gL0 k)
    generalize H.getD i default = p at *
    obtain ⟨nd, hp⟩ := p
    simp only at e1 e2 r1 r2 r3
    have hLB := gH_LB k b (M := 200) (H.take i) 0 (gL0 k) (gL0_LB k (by omega)) (by simp; omega)
    have hgn : (gH k b 0 (gL0 k) (H.take (i + 1))) = ((gH k b 0 (gL0 k) (H.take i)).1 ++ gA2 (gH k b 0 (gL0 k) (H.take i)).2 (2 * ((k : Int) + i) + 1) b hp, (gH k b 0 (gL0 k) (H.take i)).2.set nd.toNat (k + i)) := by
      rw [hts, gH_append]
      simp [gH, show min i H.length = i by omega]
    rw [hgn]
    clear hgn hts
    generalize gH k b 0 (gL0 k) (H.take i) = G at *
    obtain ⟨G1, L⟩ := G
    simp only at g hln hLB hgl ⊢
    have hia := hv.iadr (i := i) ⟨by omega, by omega⟩
    simp at hia
    have hl12 := cellsAt_fpd (h := h3) (cells := cells) (k := i * 2) (n := 2) (by omega)
    rw [take2 (by omega), e1] at hl12
    generalize cells.getD (i * 2 + 1) .nils = hw at *
    have hone : one hw = true := by rcases e2.2 with ⟨rfl, _⟩ | rfl <;> rfl
    simp [m158, m159, h16, hlt, hia, hl12]
    intro b23 hb23
    have st23 := fun Q => st_all_at (cs' := [I nd, hw]) (Q := Q) (hset_same h3 b23 [I 0, .nils]) (n := 2) rfl rfl (by
      show (one (I nd) && (one hw && true)) = true
      rw [hone]; rfl)
    rw [st23, hset_hset]
    clear st23
    have hkx : Kp h (hset h b23 [I nd, hw]) := (Kp.refl h).new (g.no hb23) _
    have hX : (hset h b23 [I nd, hw]) b23 = some [I nd, hw] := hset_same ..
    have g := g.keep hb23 [I nd, hw]
    simp [ld_snd (hset_same h3 b23 [I nd, hw]), e2.len]
    generalize hset h b23 [I nd, hw] = X at hkx hX g
    refine awp_for hp.length (fun j fr' h' => ∃ va, GI X b10 b18 b19 V L (gA0 k ++ gA1 (k + H.length) a ++ G1 ++ gA2 L (2 * ((k : Int) + i) + 1) b (hp.take j)) va h' ∧ fr' 168 = I j) ⟨va3, by simpa [gA2] using g, by simp⟩ ?_
    clear g
    intro j fr4 h4 hjn hk4 ⟨va4, g, h17⟩
    have n0 := hk4 0 (by decide)
    have n2 := hk4 2 (by decide)
    have n10 := hk4 10 (by decide)
    have n18 := hk4 18 (by decide)
    have n19 := hk4 19 (by decide)
    have n22 := hk4 22 (by decide)
    have n23 := hk4 23 (by decide)
    have n160 := hk4 160 (by decide)
    have n166 := hk4 166 (by decide)
    have n167 := hk4 167 (by decide)
    simp [m0, m2, m10, m18, m19, h16] at n0 n2 n10 n18 n19 n22 n23 n160 n166 n167
    clear hk4
    have v1 : IntKind.i64.wrap ((k : Int) + i) = k + i := w64 _ (by omega)
    by_cases hj : j < hp.length
    · have ld := ld_snd g.rg
      have hld := fun h' => ld_ints (h := h') hj
      have hja := e2.iadr (i := j) ⟨by omega, by omega⟩
      simp at hja
      have hy := r2 (hp.getD j 0) (by simp only [List.getD, List.getElem?_eq_getElem hj, Option.getD_some]; exact List.getElem_mem hj)
      have hsn := gA2_snoc L (2 * ((k : Int) + i) + 1) b hp j hj
      rw [hsn]
      clear hsn
      generalize hp.getD j 0 = y at *
      have hyl : y.toNat < L.length := by omega
      have hyk : y < k := hy.2
      have ldl := ld_ints_at g.rl hyl
      have hb2 := hLB.get hyl
      generalize L.getD y.toNat 0 = z at *
      have u1 : IntKind.i64.wrap (2 * z) = 2 * z := w64 _ (by omega)
      have u2 : IntKind.i64.wrap (2 * z + 2) = 2 * z + 2 := w64 _ (by omega)
      have u3 : IntKind.i64.wrap ((j : Int) + 1) = j + 1 := w64 _ (by omega)
      have u4 : IntKind.i64.wrap (2 * ((k : Int) + i)) = 2 * (k + i) := w64 _ (by omega)
      have u5 : IntKind.i64.wrap (2 * ((k : Int) + i) + 1) = 2 * (k + i) + 1 := w64 _ (by omega)
      simp [n0, n2, n18, n19, n22, n166, n167, h17, hj, ld, hja, hld, hy.1, hyk, ldl, v1, u1, u2, u4, u5]
      intro b5 hb5
      refine g.arc hb5 (by simp [gA0_len, gA1_len, gA2_len]; omega) fun va' h5 hg hc1 ho g2 => ?_
      simp [st_snd_at hg hc1 ho, u3, n18, h17]
      exact ⟨va', by simpa using g2⟩
    · have : j = hp.length := by omega
      subst this
      have u3 : IntKind.i64.wrap ((i : Int) + 1) = i + 1 := w64 _ (by omega)
      have st := fun Q => st_ints_at (v := (k : Int) + i) (Q := Q) g.rl (k := nd.toNat) (by omega)
      have g2 := (g.put nd.toNat ((k : Int) + i)).base hkx
      rw [List.take_length] at g2
      simp [n0, n18, n19, n22, n23, n160, n167, h17, r1.1, r1.2, v1, st, u3, hlt, ld_fst (g.rb hX)]
      exact ⟨va4, by simpa using g2⟩
  have : i = H.length := by omega
  subst this
  rw [List.take_length] at g hln
  simp [m159, m4, hcol.len, h16]
  have hsl := hsum_le H (fun p hp => by
    obtain ⟨j, hj, rfl⟩ := List.mem_iff_getElem.1 hp
    have := ok.hl j hj
    simpa [List.getD, hj] using this)
  have hgl := gH_len1 k b H 0 (gL0 k)
  have hLB := gH_LB k b (M := 200) H 0 (gL0 k) (gL0_LB k (by omega)) (by simp; omega)
  unfold graphA
  generalize gH k b 0 (gL0 k) H = G at *
  obtain ⟨G1, L⟩ := G
  simp only at g hln hLB hgl ⊢
  refine awp_for col.length (fun j fr' h' => ∃ va, GI h b10 b18 b19 V L (gA0 k ++ gA1 (k + H.length) a ++ G1 ++ gA2 L (2 * ((k : Int) + H.length) + 1) 1099511627776 (col.take j)) va h' ∧ fr' 201 = I j) ⟨va3, by simpa [gA2] using g, by simp⟩ ?_
  clear g
  intro j fr4 h4 hjn hk4 ⟨va4, g, h18⟩
  have n10 := hk4 10 (by decide)
  have n17 := hk4 17 (by decide)
  have n18 := hk4 18 (by decide)
  have n19 := hk4 19 (by decide)
  have n199 := hk4 199 (by decide)
  have n200 := hk4 200 (by decide)
  simp [m4, m10, m17, m18, m19] at n10 n17 n18 n19 n199 n200
  clear hk4
  by_cases hj : j < col.length
  · have ld := ld_snd g.rg
    have hld := fun h' => ld_ints (h := h') hj
    have hja := hcol.iadr (i := j) ⟨by omega, by omega⟩
    simp at hja
    have hy := ok.col (col.getD j 0) (by simp only [List.getD, List.getElem?_eq_getElem hj, Option.getD_some]; exact List.getElem_mem hj)
    have hsn := gA2_snoc L (2 * ((k : Int) + H.length) + 1) 1099511627776 col j hj
    rw [hsn]
    clear hsn
    generalize col.getD j 0 = y at *
    have hyl : y.toNat < L.length := by omega
    have hyk : y < k := hy.2
    have ldl := ld_ints_at g.rl hyl
    have hb2 := hLB.get hyl
    generalize L.getD y.toNat 0 = z at *
    have u1 : IntKind.i64.wrap (2 * z) = 2 * z := w64 _ (by omega)
    have u2 : IntKind.i64.wrap (2 * z + 2) = 2 * z + 2 := w64 _ (by omega)
    have u3 : IntKind.i64.wrap ((j : Int) + 1) = j + 1 := w64 _ (by omega)
    simp [n17, n18, n19, n199, n200, h18, hj, ld, hja, hld, hy.1, hyk, ldl, u1, u2, w2, w5]
    intro b5 hb5
    refine g.arc hb5 (by simp [gA0_len, gA1_len, gA2_len]; omega) fun va' h5 hg hc1 ho g2 => ?_
    simp [st_snd_at hg hc1 ho, u3, n18, h18]
    exact ⟨va', by simpa using g2⟩
  · have : j = col.length := by omega
    subst this
    have st := fun Q => st_all_at (cs' := [I V, va4]) (Q := Q) g.rr (n := 2) rfl rfl (by
      obtain ⟨F, hF, hr, hg, n1, n2, n3, f1, f2, hl, f3, o⟩ := g
      show (one (I V) && (one va4 && true)) = true
      rw [o.one]; rfl)
    have fin := g.fin
    rw [List.take_length] at fin
    have lb := ld_both (hset_same h4 b10 [I V, va4])
    simp [-List.length_append, -List.append_assoc, n10, n18, n200, h18, ld_both g.rg, st, lb]
    exact RetP.tup fin.1 (by rfl) (frz2 (x := .agg [I V, va4]) (y := I 0) (y' := I 0) (.agg _ _ (by rfl) (frz2 (x := I V) (y := va4) (x' := I V) (.id _) fin.2)) (.id _))
end Go.AM.Ytmihmgnjnedfcaa
