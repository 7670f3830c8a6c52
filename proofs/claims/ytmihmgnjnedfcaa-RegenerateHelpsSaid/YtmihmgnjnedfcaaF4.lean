/- Contracts of functions: powers, generator. -/
import Derived.Test.YtmihmgnjnedfcaaF3
set_option maxRecDepth 100000
set_option linter.unusedSimpArgs false
set_option linter.unusedVariables false
namespace Go.AM.Ytmihmgnjnedfcaa
open Go Go.AM
attribute [local simp ↓] awp_seq awp_reg awp_skip awp_cond awp_block awp_exit awp_ret awp_fz thenW_normal thenW_exit thenW_ret inBlk_normal inBlk_exit inBlk_ret aops_cons aops_nil e_mv e_guard e_pick e_ld e_app e_cpy e_st e_call callW_f updO_some updO_none e_bin e_isnil e_fadr e_iadr e_iarr e_len e_build e_mkf e_nc e_not e_neg e_cvt e_slc e_fld e_ext e_min e_eqs e_new e_box e_mkl e_mks
attribute [local simp] upd_apply ev_t ev_k ev_f binA_add binA_sub binA_mul binA_quo binA_rem binA_eql binA_neq binA_lss binA_leq binA_gtr binA_geq det mem frame0 keeps_nil iadrA_sl fadrA_ref fadrA_fp ldv_agg ldv_one cells_base hset_same hset_hset lenA_fs lenA_sl lenA_nils zeros_ints ints_length one_base one_nilp one_nils one_ref one_sl one_fp one_fs one_fn gl_one resA resOf bound natOf afill splice AV.cells cells_agg bindW_some condW_true condW_false condW_dec condW_ndec guardW_tup guardW_true guardW_true' guardW_false guardW_false' allocW_some pickA_true pickA_false
open Go.FM

theorem least {P : Nat → Prop} (h : ∃ n, P n) : ∃ n, P n ∧ ∀ m, m < n → ¬ P m := by
  obtain ⟨n, hn⟩ := h
  induction n using Nat.strongRecOn with
  | _ n ih =>
    by_cases hc : ∃ m, m < n ∧ P m
    · obtain ⟨m, h1, h2⟩ := hc
      exact ih m h1 h2
    · exact ⟨n, hn, fun m hm hp => hc ⟨m, hm, hp⟩⟩

/-- The first n powers. -/
def pwL (D : Ds) (x : Int) (n : Nat) : List Int := (List.range n).map (D.pw x)
theorem pwL_len (D : Ds) (x : Int) (n : Nat) : (pwL D x n).length = n := by simp [pwL]
theorem pwL_succ (D : Ds) (x : Int) (n : Nat) : pwL D x (n + 1) = pwL D x n ++ [D.pw x n] := by simp [pwL, List.range_succ]
theorem pwL_mem {D : Ds} {x y : Int} {n : Nat} : y ∈ pwL D x n ↔ ∃ i, i < n ∧ D.pw x i = y := by simp [pwL]
theorem pwL_getD {D : Ds} {x : Int} {n i : Nat} (hi : i < n) : (pwL D x n).getD i 0 = D.pw x i := by simp [pwL, List.getD, hi]

/-- Here the powers stop. -/
def StopP (D : Ds) (x : Int) (n : Nat) : Prop := D.pw x n = 0 ∨ D.pw x n ∈ pwL D x n

theorem pw_nodup {D : Ds} {x : Int} {n : Nat} (h : ∀ m, m < n → ¬ StopP D x m) : (pwL D x n).Nodup ∧ ∀ y ∈ pwL D x n, y ≠ 0 := by
  induction n with
  | zero => simp [pwL]
  | succ n ih =>
    obtain ⟨h1, h2⟩ := ih fun m hm => h m (by omega)
    have h3 := h n (by omega)
    unfold StopP at h3
    rw [pwL_succ]
    refine ⟨?_, fun y hy => ?_⟩
    · rw [List.nodup_append]
      refine ⟨h1, by simp, fun a ha b hb => ?_⟩
      simp at hb; subst hb
      intro hab; exact h3 (.inr (hab ▸ ha))
    · rcases List.mem_append.1 hy with hy | hy
      · exact h2 y hy
      · simp at hy; subst hy; exact fun hc => h3 (.inl hc)

theorem nodup_short : ∀ (n : Nat) (l : List Int), l.Nodup → (∀ x ∈ l, 0 < x ∧ x ≤ n) → l.length ≤ n
  | 0, [], _, _ => by simp
  | 0, a :: l, _, h => by have := h a (by simp); omega
  | n + 1, l, hd, hr => by
    have h1 := nodup_short n (l.erase ((n + 1 : Nat) : Int)) (hd.erase _) (fun x hx => by
      have h6 := List.mem_of_mem_erase hx
      have h7 := hr x h6
      have h8 : x ≠ ((n + 1 : Nat) : Int) := fun he => by
        rw [he] at hx
        exact (List.Nodup.not_mem_erase hd) hx
      omega)
    have h2 : l.length ≤ (l.erase ((n + 1 : Nat) : Int)).length + 1 := by
      by_cases hm : ((n + 1 : Nat) : Int) ∈ l
      · rw [List.length_erase_of_mem hm]; omega
      · rw [List.erase_of_not_mem hm]; omega
    omega

theorem stop_ex {D : Ds} (o : D.Ok) (x : Int) : ∃ n, StopP D x n ∧ (∀ m, m < n → ¬ StopP D x m) ∧ 1 ≤ n ∧ n < D.q := by
  have h : ∃ n, StopP D x n := by
    apply Classical.byContradiction
    intro hc
    have hn : ∀ n, ¬ StopP D x n := fun n h => hc ⟨n, h⟩
    obtain ⟨h1, h2⟩ := pw_nodup (n := D.q) (x := x) fun m _ => hn m
    have := nodup_short (D.q - 1) _ h1 (fun y hy => by
      obtain ⟨i, _, rfl⟩ := pwL_mem.1 hy
      have h3 := o.pwR x i
      have h4 := h2 _ hy
      unfold Ds.R at h3
      omega)
    rw [pwL_len] at this
    have := o.q2
    omega
  obtain ⟨n, h1, h2⟩ := least h
  refine ⟨n, h1, h2, ?_, ?_⟩
  · cases n with
    | zero => rcases h1 with h1 | h1 <;> simp [Ds.pw, pwL] at h1
    | succ n => omega
  · obtain ⟨h3, h4⟩ := pw_nodup h2
    have := nodup_short (D.q - 1) _ h3 (fun y hy => by
      obtain ⟨i, _, rfl⟩ := pwL_mem.1 hy
      have h5 := o.pwR x i
      have h6 := h4 _ hy
      unfold Ds.R at h5
      omega)
    rw [pwL_len] at this
    have := o.q2
    omega

/-- Which residues have been seen. -/
noncomputable def seenL (q : Nat) (L : List Int) : List AV := by
  classical
  exact (List.range q).map fun (i : Nat) => B (decide ((i : Int) ∈ L))
theorem seenL_len (q : Nat) (L : List Int) : (seenL q L).length = q := by simp [seenL]
theorem seenL_nil (q : Nat) : seenL q [] = List.replicate q (B false) := by
  refine List.ext_getElem (by simp [seenL]) fun i h1 h2 => ?_
  simp [seenL]
theorem seenL_set {q : Nat} {L : List Int} {y : Int} (hy : 0 ≤ y ∧ y < q) : (seenL q L).set y.toNat (B true) = seenL q (L ++ [y]) := by
  refine List.ext_getElem (by simp [seenL]) fun i h1 h2 => ?_
  simp only [seenL, List.getElem_set, List.getElem_map, List.getElem_range]
  by_cases h : y.toNat = i
  · rw [if_pos h, decide_eq_true (by simp; omega)]
  · rw [if_neg h]
    congr 2
    apply propext
    simp
    intro hc; omega
open Classical in
theorem seenL_get {q : Nat} {L : List Int} {y : Int} (hy : 0 ≤ y ∧ y < q) : (seenL q L).getD y.toNat .nils = B (decide (y ∈ L)) := by
  have h : y.toNat < q := by omega
  simp only [seenL, List.getD, List.getElem?_map, List.getElem?_range h, Option.map_some, Option.getD_some]
  rw [show ((y.toNat : Nat) : Int) = y by omega]
theorem seenL_one (q : Nat) (L : List Int) : (seenL q L).all one = true := by
  simp [seenL, one_base]
theorem zeros_bools (n : Nat) : zeros n [.base (.bool false)] = List.replicate n (B false) := by
  simp [zeros]

set_option maxHeartbeats 2000000 in
open Classical in
theorem s_powers {D : Ds} (r : Rg D) {mv : AV} (hmv : IL mv D.mo) {x : Int} (hx : D.R x) {N : Nat} (h1 : StopP D x N) (h2 : ∀ m, m < N → ¬ StopP D x m) (hN1 : 1 ≤ N) (hNq : N < D.q) :
    Pure prog n_field_powers [.agg [I D.p, I D.m, mv], I D.q, I x] (.fs N (ints (pwL D x N))) := by
  refine pure_of cf_field_powers rfl fun h => ?_
  have hone := hmv.one
  have hq := r.q256
  have hq2 := r.q2
  simp [hone]
  intro b3 hb3
  have hkg : Kp h (hset h b3 [I D.p, I D.m, mv]) := (Kp.refl h).new hb3 _
  have hg3 : (hset h b3 [I D.p, I D.m, mv]) b3 = some [I D.p, I D.m, mv] := hset_same ..
  generalize hset h b3 [I D.p, I D.m, mv] = g at *
  intro b7 hb7
  have e0 : (D.q : Int) ≤ 4294967296 := by omega
  simp [e0, zeros_bools]
  intro b8 hb8
  have ne : b7 ≠ b8 := fun he => by rw [he, hset_same] at hb8; cases hb8
  have hst := fun Q => st_one_at (v := B true) (Q := Q) (hset_same (hset g b7 [I 1]) b8 (List.replicate D.q (B false))) rfl rfl (k := 1) (by simp; omega)
  have e1 : (1 : Int) < D.q := by omega
  have e2 : 1 < D.q := by omega
  have hs := seenL_set (q := D.q) (L := []) (y := 1) ⟨by omega, by omega⟩
  rw [seenL_nil] at hs
  have hs' : (List.replicate D.q (B false)).set 1 (B true) = seenL D.q (pwL D x 1) := by
    rw [show pwL D x 1 = [] ++ [1] by simp [pwL, Ds.pw]]; exact hs
  simp [e1, e2, hst, hs']
  have hF : Own 1 (hset g b8 (seenL D.q (pwL D x 1))) (hset (hset g b7 [I 1]) b8 (seenL D.q (pwL D x 1))) (.sl b7 0 1 1) 1 (ints (pwL D x 1)) := by
    refine ⟨((Kp.refl g).new hb7 _).both b8 _, by simp [pwL, ints], .inr ⟨by omega, b7, rfl, ?_, ?_⟩⟩
    · rw [hset_ne _ _ ne, hset_same]; simp [pwL, Ds.pw, ints]
    · rw [hset_ne _ _ ne]; exact hb7
  have hg8 : g b8 = none := by rw [hset_ne _ _ (Ne.symm ne)] at hb8; exact hb8
  refine awp_for (N - 1) (fun k fr' h' => ∃ F v, Kp g F ∧ F b8 = some (seenL D.q (pwL D x (k + 1))) ∧ Own 1 F h' v (k + 1) (ints (pwL D x (k + 1))) ∧ fr' 7 = v ∧ fr' 9 = I (D.pw x (k + 1)))
    ⟨_, _, (Kp.refl g).new hg8 _, hset_same .., hF, by simp, by simp; rw [r.toOk.pw_one, Ds.inn_of hx]⟩ ?_
  clear hF hst hs hs'
  intro k fr' h' hkn hk ⟨F, v, hkF, hF8, o, k7, k9⟩
  have k2 := hk 2 (by decide)
  have k3 := hk 3 (by decide)
  have k8 := hk 8 (by decide)
  simp at k2 k3 k8
  clear hk
  have hy := r.toOk.pwR x (k + 1)
  have hld := ld_one_at (o.rd hF8) (k := (D.pw x (k + 1)).toNat) (by rw [seenL_len]; have := hy.2; have := hy.1; omega)
  rw [seenL_get ⟨hy.1, hy.2⟩] at hld
  have hy1 := hy.1
  have hy2 := hy.2
  have hfin : StopP D x (k + 1) → RetP h (.fs N (ints (pwL D x N))) v h' := by
    intro hs
    have : N = k + 1 := by
      have h3 := h2 (k + 1)
      have : ¬ k + 1 < N := fun hc => h3 hc hs
      omega
    subst this
    have hG : Kp h F := hkg.trans hkF
    exact o.ret hG (by unfold gl; rw [if_neg (by omega)])
  by_cases d1 : D.pw x (k + 1) = 0
  · simp [k9, d1, k7]
    exact hfin (.inl d1)
  · by_cases d2 : D.pw x (k + 1) ∈ pwL D x (k + 1)
    · rw [decide_eq_true d2] at hld
      simp [k9, d1, k8, hy1, hy2, hld, k7]
      exact hfin (.inr d2)
    · have hns : ¬ StopP D x (k + 1) := fun hc => hc.elim d1 d2
      have hlt : k + 1 < N := by
        have : N ≠ k + 1 := fun hc => hns (hc ▸ h1)
        omega
      have hst := fun Q => st_one_at (v := B true) (Q := Q) (o.rd hF8) rfl rfl (k := (D.pw x (k + 1)).toNat) (by rw [seenL_len]; omega)
      rw [seenL_set ⟨hy1, hy2⟩] at hst
      rw [← pwL_succ] at hst
      rw [decide_eq_false d2] at hld
      have o2 := o.put hF8 (seenL D.q (pwL D x (k + 1 + 1)))
      have hk2 : Kp g (hset F b8 (seenL D.q (pwL D x (k + 1 + 1)))) := hkF.set hg8 _
      have hF82 : (hset F b8 (seenL D.q (pwL D x (k + 1 + 1)))) b8 = some (seenL D.q (pwL D x (k + 1 + 1))) := hset_same ..
      generalize hset F b8 (seenL D.q (pwL D x (k + 1 + 1))) = F2 at *
      simp [k9, d1, k8, hy1, hy2, hld, k7, hst]
      intro b hb
      refine o2.app1 (m := 1) hb (by simp) (by omega) fun v' h3 o3 => ?_
      have hg3' : h3 b3 = some [I D.p, I D.m, mv] := o3.rd (hk2 b3 _ hg3)
      obtain ⟨_, _, _, l3⟩ := ld3_at hg3'
      simp [k2, k3, l3]
      refine (s_multiply r hmv hy hx).call ?_
      simp
      refine ⟨by omega, F2, hk2, hF82, v', ?_, rfl, rfl⟩
      have : ints (pwL D x (k + 1 + 1)) = ints (pwL D x (k + 1)) ++ [I (D.pw x (k + 1))] := by rw [pwL_succ, ints_append]; rfl
      rw [this]; exact o3

theorem gen_stop {D : Ds} (r : Rg D) {x : Int} (hx : D.R x) {N : Nat} (h1 : StopP D x N) (h2 : ∀ m, m < N → ¬ StopP D x m) (hN1 : 1 ≤ N) : D.Gen x ↔ (N = D.q - 1 ∧ D.pw x (D.q - 1) = 1) := by
  have hq2 := r.q2
  constructor
  · intro g
    have hge : D.q - 1 ≤ N := by
      apply Classical.byContradiction
      intro hc
      rcases h1 with h1 | h1
      · exact g.ne0 r.toOk N h1
      · obtain ⟨i, hi, he⟩ := pwL_mem.1 h1
        have := g.inj r.toOk (i := i) (j := N) (by omega) (by omega) he
        omega
    refine ⟨?_, g.top⟩
    apply Classical.byContradiction
    intro hc
    refine h2 (D.q - 1) (by omega) (.inr ?_)
    rw [g.top]
    exact pwL_mem.2 ⟨0, by omega, rfl⟩
  · rintro ⟨rfl, ht⟩
    refine ⟨hx, ht, fun n h3 h4 hc => h2 n h4 (.inr ?_)⟩
    rw [hc]
    exact pwL_mem.2 ⟨0, h3, rfl⟩

open Classical in
/-- What generator gives: the powers of the first generator. -/
theorem s_generator {D : Ds} (r : Rg D) {mv : AV} (hmv : IL mv D.mo) {g0 : Nat} (hg : D.Gen g0) (hg1 : 1 ≤ g0) (hmin : ∀ y : Nat, 1 ≤ y → y < g0 → ¬ D.Gen y) :
    Pure prog n_field_generator [.agg [I D.p, I D.m, mv], I D.q] (.fs (D.q - 1) (ints (pwL D g0 (D.q - 1)))) := by
  refine pure_of cf_field_generator rfl fun h => ?_
  have hone := hmv.one
  have hq := r.q256
  have hq2 := r.q2
  have hg0q : (g0 : Int) < D.q := hg.r.2
  simp [hone]
  intro b2 hb2
  obtain ⟨_, _, _, l3⟩ := ld3_at (hset_same h b2 [I D.p, I D.m, mv])
  have hkg : Kp h (hset h b2 [I D.p, I D.m, mv]) := (Kp.refl h).new hb2 _
  generalize hset h b2 [I D.p, I D.m, mv] = g at *
  refine awp_for (g0 - 1) (fun k fr' h' => h' = g ∧ fr' 5 = I (k + 1)) ⟨rfl, by simp⟩ ?_
  intro k fr' h' hkn hk ⟨hh, k5⟩
  subst hh
  have k1 := hk 1 (by decide)
  have k2 := hk 2 (by decide)
  simp at k1 k2
  clear hk
  have hx : D.R ((k : Int) + 1) := ⟨by omega, by omega⟩
  obtain ⟨N, s1, s2, s3, s4⟩ := stop_ex r.toOk ((k : Int) + 1)
  have hgs := gen_stop r hx s1 s2 s3
  have c : (k : Int) + 1 < D.q := hx.2
  have hIL := IL.fs (pwL D ((k : Int) + 1) N)
  rw [pwL_len] at hIL
  simp [k5, k1, k2, c, l3]
  refine (s_powers r hmv hx s1 s2 s3 s4).call ?_
  have u1 : IntKind.i64.wrap ((D.q : Int) - 1) = D.q - 1 := w64 _ (by omega)
  have u2 : IntKind.i64.wrap ((D.q : Int) - 2) = D.q - 2 := w64 _ (by omega)
  have u3 : IntKind.i64.wrap ((k : Int) + 1 + 1) = k + 1 + 1 := w64 _ (by omega)
  by_cases d1 : N = D.q - 1
  · have d1' : (N : Int) = D.q - 1 := by omega
    have hia := hIL.iadr (i := (D.q : Int) - 2) ⟨by omega, by rw [pwL_len]; omega⟩
    rw [show ((D.q : Int) - 2).toNat = D.q - 2 by omega] at hia
    have hld := fun h' => ld_ints (h := h') (l := pwL D ((k : Int) + 1) N) (k := D.q - 2) (by rw [pwL_len]; omega)
    rw [pwL_getD (by omega)] at hld
    have hpr := r.toOk.pwR ((k : Int) + 1) (D.q - 2)
    have hmul : D.mul (D.pw ((k : Int) + 1) (D.q - 2)) ((k : Int) + 1) = D.pw ((k : Int) + 1) (D.q - 1) := by
      rw [show D.q - 1 = (D.q - 2) + 1 by omega]; rfl
    simp [k5, k1, k2, l3, d1', u1, u2]
    simp [hia, hld]
    refine (s_multiply r hmv hpr hx).call ?_
    rw [hmul]
    by_cases d2 : D.pw ((k : Int) + 1) (D.q - 1) = 1
    · have hgen : D.Gen ((k : Int) + 1) := hgs.2 ⟨d1, d2⟩
      have hke : g0 = k + 1 := by
        apply Classical.byContradiction
        intro hc
        exact hmin (k + 1) (by omega) (by omega) (by simpa using hgen)
      simp [d2]
      subst hke
      subst d1
      have : (((k + 1 : Nat) : Int)) = (k : Int) + 1 := by omega
      rw [this]
      exact ⟨_, hkg.sub, .id _, rfl⟩
    · have hng : ¬ D.Gen ((k : Int) + 1) := fun hc => d2 (hgs.1 hc).2
      have hke : g0 ≠ k + 1 := fun hc => hng (by rw [hc] at hg; simpa using hg)
      simp [d2, u3]
      omega
  · have d1' : ¬ (N : Int) = D.q - 1 := by omega
    have hng : ¬ D.Gen ((k : Int) + 1) := fun hc => d1 (hgs.1 hc).1
    have hke : g0 ≠ k + 1 := fun hc => hng (by rw [hc] at hg; simpa using hg)
    simp [k5, k1, k2, l3, d1', u1, u3]
    omega

open Classical in
theorem s_generator0 {D : Ds} (r : Rg D) {mv : AV} (hmv : IL mv D.mo) (hno : ∀ y : Int, ¬ D.Gen y) :
    Pure prog n_field_generator [.agg [I D.p, I D.m, mv], I D.q] .nils := by
  refine pure_of cf_field_generator rfl fun h => ?_
  have hone := hmv.one
  have hq := r.q256
  have hq2 := r.q2
  simp [hone]
  intro b2 hb2
  obtain ⟨_, _, _, l3⟩ := ld3_at (hset_same h b2 [I D.p, I D.m, mv])
  have hkg : Kp h (hset h b2 [I D.p, I D.m, mv]) := (Kp.refl h).new hb2 _
  generalize hset h b2 [I D.p, I D.m, mv] = g at *
  refine awp_for (D.q - 1) (fun k fr' h' => h' = g ∧ fr' 5 = I (k + 1)) ⟨rfl, by simp⟩ ?_
  intro k fr' h' hkn hk ⟨hh, k5⟩
  subst hh
  have k1 := hk 1 (by decide)
  have k2 := hk 2 (by decide)
  simp at k1 k2
  clear hk
  by_cases c : (k : Int) + 1 < D.q
  case neg =>
    simp [k5, k1, c]
    exact ⟨_, hkg.sub, .id _, rfl⟩
  have hx : D.R ((k : Int) + 1) := ⟨by omega, c⟩
  obtain ⟨N, s1, s2, s3, s4⟩ := stop_ex r.toOk ((k : Int) + 1)
  have hgs := gen_stop r hx s1 s2 s3
  have hng := hno ((k : Int) + 1)
  have hIL := IL.fs (pwL D ((k : Int) + 1) N)
  rw [pwL_len] at hIL
  simp [k5, k1, k2, c, l3]
  refine (s_powers r hmv hx s1 s2 s3 s4).call ?_
  have u1 : IntKind.i64.wrap ((D.q : Int) - 1) = D.q - 1 := w64 _ (by omega)
  have u2 : IntKind.i64.wrap ((D.q : Int) - 2) = D.q - 2 := w64 _ (by omega)
  have u3 : IntKind.i64.wrap ((k : Int) + 1 + 1) = k + 1 + 1 := w64 _ (by omega)
  by_cases d1 : N = D.q - 1
  · have d1' : (N : Int) = D.q - 1 := by omega
    have hia := hIL.iadr (i := (D.q : Int) - 2) ⟨by omega, by rw [pwL_len]; omega⟩
    rw [show ((D.q : Int) - 2).toNat = D.q - 2 by omega] at hia
    have hld := fun h' => ld_ints (h := h') (l := pwL D ((k : Int) + 1) N) (k := D.q - 2) (by rw [pwL_len]; omega)
    rw [pwL_getD (by omega)] at hld
    have hpr := r.toOk.pwR ((k : Int) + 1) (D.q - 2)
    have hmul : D.mul (D.pw ((k : Int) + 1) (D.q - 2)) ((k : Int) + 1) = D.pw ((k : Int) + 1) (D.q - 1) := by
      rw [show D.q - 1 = (D.q - 2) + 1 by omega]; rfl
    simp [k5, k1, k2, l3, d1', u1, u2]
    simp [hia, hld]
    refine (s_multiply r hmv hpr hx).call ?_
    rw [hmul]
    have d2 : ¬ D.pw ((k : Int) + 1) (D.q - 1) = 1 := fun d2 => hng (hgs.2 ⟨d1, d2⟩)
    simp [d2, u3]
    omega
  · have d1' : ¬ (N : Int) = D.q - 1 := by omega
    simp [k5, k1, k2, l3, d1', u1, u3]
    omega
end Go.AM.Ytmihmgnjnedfcaa
