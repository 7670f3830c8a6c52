import Derived.Test.YtmihmgnjnedfcaaBB
import Derived.Test.YtmihmgnjnedfcaaBG

section
/- Codes of the program, as the conversion gives them. -/
set_option maxRecDepth 100000
namespace Go.AM.Ytmihmgnjnedfcaa
open Go Go.AM
-- law09_MatrixCanonical
abbrev c_law09_MatrixCanonical_6 : SC := .ret
abbrev c_law09_MatrixCanonical_5 : SC := .seq (.reg [o 41 (.mv (.t 7)), o 42 (.mv (.t 10)), o 43 (.bin .eql (.t 41) (.t 42)), o 44 (.mv (.t 43)), og 44 true 0 45 (.mv (.t 12)), og 44 true 0 46 (.mv (.t 10)), og 44 true 0 47 (.bin .eql (.t 45) (.t 46)), o 48 (.pick (.t 44) (.t 47) (kb false)), o 49 (.mv (.t 48)), og 49 true 0 50 (.ld (.t 5) 2 true), og 49 true 0 51 (.ld (.t 8) 2 true), og 49 true 1 52 (.call (.f n_ref09_Same) [.t 50, .t 51]), o 53 (.pick (.t 49) (.t 52) (kb false)), o 54 (.mv (.t 53)), og 54 true 0 55 (.mv (.t 6)), og 54 true 0 56 (.mv (.t 9)), og 54 true 1 57 (.call (.f n_ref09_SameInts) [.t 55, .t 56]), o 58 (.pick (.t 54) (.t 57) (kb false)), o 59 (.mv (.t 58)), og 59 true 0 60 (.mv (.t 11)), og 59 true 0 61 (.mv (.t 9)), og 59 true 0 62 (.len (.t 61)), og 59 true 0 63 (.bin .eql (.t 60) (.t 62)), o 64 (.pick (.t 59) (.t 63) (kb false)), o 65 (.mv (.t 64)), og 65 true 0 66 (.ld (.t 2) 3 true), og 65 true 0 67 (.ld (.t 3) 2 true), og 65 true 0 69 (.ld (.t 2) 3 true), og 65 true 0 70 (.ld (.t 3) 2 true), og 65 true 1 68 (.call (.f n_matrix_Check) [.t 66, .t 67]), og 65 true 1 71 (.call (.f n_ref09_Check) [.t 69, .t 70]), og 65 true 0 72 (.bin .eql (.t 68) (.t 71)), o 73 (.pick (.t 65) (.t 72) (kb false)), o 4 (.mv (.t 73))]) c_law09_MatrixCanonical_6
abbrev c_law09_MatrixCanonical_4 : SC := .seq (.reg [o 36 (.ld (.t 2) 3 true), o 37 (.ld (.t 3) 2 true), o 38 (.call (.f n_matrix_Rank) [.t 36, .t 37]), o 35 (.mv (.t 38)), o 39 (.ext (.t 35) 0), o 40 (.ext (.t 35) 1), o 11 (.mv (.t 39)), o 12 (.mv (.t 40))]) c_law09_MatrixCanonical_5
abbrev c_law09_MatrixCanonical_3 : SC := .seq (.reg [o 29 (.ld (.t 2) 3 true), o 30 (.ld (.t 3) 2 true), o 31 (.call (.f n_ref09_Canonical) [.t 29, .t 30]), o 28 (.mv (.t 31)), o 32 (.ext (.t 28) 0), o 33 (.ext (.t 28) 1), o 34 (.ext (.t 28) 2), o 8 (.new [I 0, .nils]), os (.st (.t 8) (.t 32) 2), o 9 (.mv (.t 33)), o 10 (.mv (.t 34))]) c_law09_MatrixCanonical_4
abbrev c_law09_MatrixCanonical_2 : SC := .seq (.reg [o 22 (.ld (.t 2) 3 true), o 23 (.ld (.t 3) 2 true), o 24 (.call (.f n_matrix_Canonical) [.t 22, .t 23]), o 21 (.mv (.t 24)), o 25 (.ext (.t 21) 0), o 26 (.ext (.t 21) 1), o 27 (.ext (.t 21) 2), o 5 (.new [I 0, .nils]), os (.st (.t 5) (.t 25) 2), o 6 (.mv (.t 26)), o 7 (.mv (.t 27))]) c_law09_MatrixCanonical_3
abbrev c_law09_MatrixCanonical_1 : SC := .seq (.seq (.reg [o 13 (.call (.f n_law09_awake) []), o 14 (.not (.t 13)), o 15 (.mv (.t 14)), og 15 false 0 16 (.ld (.t 3) 2 true), og 15 false 0 17 (.call (.f n_ref09_Few) [.t 16, ki 300]), og 15 false 0 18 (.not (.t 17)), o 19 (.pick (.t 15) (kb true) (.t 18))]) (.cond (.t 19) (.seq (.reg [o 20 (.call (.f n_law09_awake) []), o 4 (.mv (.t 20))]) .ret) .skip)) c_law09_MatrixCanonical_2
abbrev c_law09_MatrixCanonical_0 : SC := .seq (.reg [o 2 (.box (.t 0)), o 3 (.box (.t 1)), o 4 (.mv (kb false))]) c_law09_MatrixCanonical_1
theorem cf_law09_MatrixCanonical : cfun Go.Proofs.Try.prog md n_law09_MatrixCanonical = some ⟨2, 74, c_law09_MatrixCanonical_0.erase, [.t 4]⟩ := by kernel_rfl
end Go.AM.Ytmihmgnjnedfcaa
end

section
/- Contracts of functions: Few; the law MatrixCanonical. -/
set_option maxRecDepth 100000
set_option linter.unusedSimpArgs false
set_option linter.unusedVariables false
namespace Go.AM.Ytmihmgnjnedfcaa
open Go Go.AM
attribute [local simp ↓] awp_seq awp_reg awp_skip awp_cond' awp_block awp_exit awp_ret awp_fz thenW_normal thenW_exit thenW_ret inBlk_normal inBlk_exit inBlk_ret aops_cons' contA_ap aops_nil e_mv e_guard' e_pick' e_ld' e_app e_cpy e_st' e_call callW_f updO_some updO_none e_bin' e_isnil' e_fadr' e_iadr' e_iarr' e_len' e_build' e_mkf' e_nc' e_not' e_neg' e_cvt' e_slc' e_fld' e_ext' e_min' e_eqs' e_new e_box e_mkl e_mks
attribute [local simp] upd_apply ev_t ev_k ev_f binA_add binA_sub binA_mul binA_quo binA_rem binA_eql binA_neq binA_lss binA_leq binA_gtr binA_geq det mem frame0 keeps_nil iadrA_sl fadrA_ref fadrA_fp ldv_agg ldv_one cells_base hset_same hset_hset lenA_fs lenA_sl lenA_nils zeros_ints ints_length one_base one_nilp one_nils one_ref one_sl one_fp one_fs one_fn gl_one resA resOf bound natOf afill splice AV.cells cells_agg bindR_some condR_true condR_false guardR_tup guardR_true guardR_true' guardR_false guardR_false' allocW_some pickA_true pickA_false
open Go.FM

def fewL : Nat → List (List Int) → Bool
  | _, [] => true
  | n, row :: r => if n < row.length then false else fewL (n - row.length) r
theorem fewL_cons (n : Nat) (row : List Int) (r : List (List Int)) : fewL n (row :: r) = if n < row.length then false else fewL (n - row.length) r := rfl
def fewB (c : Int) (L : List (List Int)) (n : Nat) : Bool := if 260 < c then false else if n < L.length then false else fewL (n - L.length) L
theorem fewL_le : ∀ {n : Nat} {L : List (List Int)}, fewL n L = true → ∀ row ∈ L, row.length ≤ n
  | n, [], _, row, hr => by cases hr
  | n, x :: r, h, row, hr => by
    unfold fewL at h
    split at h
    · cases h
    · rcases List.mem_cons.1 hr with rfl | hr
      · omega
      · have := fewL_le h row hr; omega
theorem fewB_le {c : Int} {L : List (List Int)} {n : Nat} (h : fewB c L n = true) : c ≤ 260 ∧ L.length ≤ n ∧ ∀ row ∈ L, row.length ≤ n := by
  unfold fewB at h
  split at h
  · cases h
  · split at h
    · cases h
    · refine ⟨by omega, by omega, fun row hr => ?_⟩
      have := fewL_le h row hr; omega

theorem s_Few {v : AV} {c : Int} {L : List (List Int)} (hv : ML v L) (hL : L.length < 4611686018427387904) {n : Nat} (hn : n ≤ 1000) : Pure prog n_ref09_Few [.agg [I c, v], I n] (B (fewB c L n)) := by
  refine pure_of cf_ref09_Few rfl fun h => ?_
  have hone := hv.one
  simp [hone]
  intro b2 hb2
  have lf := lq_fst (hset_same h b2 [I c, v])
  have ls := lq_snd (hset_same h b2 [I c, v])
  have hkg : Kp h (hset h b2 [I c, v]) := (Kp.refl h).new hb2 _
  generalize hset h b2 [I c, v] = g at *
  unfold fewB
  by_cases c1 : 260 < c
  · rw [if_pos c1]
    simp [lf, c1]
    exact ⟨_, hkg.sub, .id _, rfl⟩
  rw [if_neg c1]
  by_cases c2 : n < L.length
  · have c2' : (n : Int) < L.length := by omega
    rw [if_pos c2]
    simp [lf, ls, c1, hv.len, c2, c2']
    exact ⟨_, hkg.sub, .id _, rfl⟩
  have c2' : ¬ (n : Int) < L.length := by omega
  rw [if_neg c2]
  have u0 : IntKind.i64.wrap ((n : Int) - L.length) = (n - L.length : Nat) := by rw [w64 _ (by omega)]; omega
  simp [lf, ls, c1, hv.len, c2, c2', u0]
  refine awp_for L.length (fun k fr' h' => h' = g ∧ fr' 6 = I k ∧ ∃ left : Nat, left ≤ 1000 ∧ fr' 5 = I left ∧ fewL left (L.drop k) = fewL (n - L.length) L) ⟨rfl, by simp, n - L.length, by omega, by simp, rfl⟩ ?_
  intro k fr' h' hkn hk ⟨hh, k6, left, hl, k5, hx⟩
  subst hh
  have k2 := hk 2 (by decide)
  simp at k2
  clear hk
  by_cases hlt : k < L.length
  · obtain ⟨pa, row, hpa, hpl, hrow⟩ := hv.rd hlt
    have hd : L.drop k = L.getD k [] :: L.drop (k + 1) := by
      rw [List.drop_eq_getElem_cons hlt]; simp [List.getD, hlt]
    rw [hd, fewL_cons] at hx
    generalize L.getD k [] = rl at *
    have u1 : IntKind.i64.wrap ((k : Int) + 1) = k + 1 := w64 _ (by omega)
    by_cases hc : left < rl.length
    · have hc' : (left : Int) < rl.length := by omega
      rw [if_pos hc] at hx
      simp [k2, k5, k6, hlt, ls, hv.len, hpa, hpl, hrow.len, hc, hc']
      rw [← hx]
      exact ⟨_, hkg.sub, .id _, rfl⟩
    · have hc' : ¬ (left : Int) < rl.length := by omega
      have u2 : IntKind.i64.wrap ((left : Int) - rl.length) = (left - rl.length : Nat) := by rw [w64 _ (by omega)]; omega
      rw [if_neg hc] at hx
      simp [k2, k5, k6, hlt, ls, hv.len, hpa, hpl, hrow.len, hc, hc', u1, u2]
      exact ⟨left - rl.length, by omega, rfl, hx⟩
  · have : k = L.length := by omega
    subst this
    rw [List.drop_length] at hx
    simp [k2, k6, ls, hv.len]
    rw [← hx]
    exact ⟨_, hkg.sub, .id _, rfl⟩

/-- The opening that the laws of chapter 9 have: the examples, the size. -/
theorem canL_get {D : Ds} {L : List (List Int)} {n i : Nat} (hi : i < rkN D L n) : (canL D L n).getD i [] = (elim D L n).L.getD i [] := by
  unfold canL rkN at *
  simp [List.getD, List.getElem?_take, hi]
theorem canL_mat {D : Ds} (r : Fd D) {w : Nat} {L : List (List Int)} (hM : Mat D w L) (n : Nat) : Mat D w (canL D L n) := fun row hr => (hM.elim r.toOk n) row (List.mem_of_mem_take hr)

set_option maxHeartbeats 4000000 in
theorem s_MatrixCanonical {p m : Int} {mv v : AV} {mo : List Int} (hmv : IL mv mo) (hml : mo.length < 4611686018427387904) {c : Int} {L : List (List Int)} (hv : ML v L) (hs : MSm L) :
    Pure prog n_law09_MatrixCanonical [.agg [I p, I m, mv], .agg [I c, v]] (B true) := by
  refine pure_of cf_law09_MatrixCanonical rfl fun h => ?_
  have hone := hmv.one
  have hone2 := hv.one
  unfold c_law09_MatrixCanonical_0 c_law09_MatrixCanonical_1
  generalize hC : c_law09_MatrixCanonical_2 = C2
  simp [hone, hone2]
  intro b2 hb2 b3 hb3
  obtain ⟨g2, g3, hk⟩ := two_boxes (ys := [I c, v]) hb2 hb3
  generalize hset (hset h b2 [I p, I m, mv]) b3 [I c, v] = g at *
  obtain ⟨_, _, _, l2⟩ := ld3_at g2
  have l3 := lq_both g3
  refine s_awake.call ?_
  simp [l3]
  refine (s_Few hv hs.1 (n := 300) (by omega)).call ?_
  by_cases hf : fewB c L 300 = true
  case neg =>
    have : fewB c L 300 = false := by simpa using hf
    rw [this]
    simp
    refine s_awake.call ?_
    simp
    exact ⟨_, hk.sub, .id _, rfl⟩
  rw [hf]
  simp
  refine awp_gen [2, 3] fun fr1 hsl => ?_
  have p2 := hsl 2 (by simp)
  have p3 := hsl 3 (by simp)
  simp at p2 p3
  clear hsl
  subst hC
  unfold c_law09_MatrixCanonical_2
  generalize hC : c_law09_MatrixCanonical_3 = C3
  have q1 := s_Canonical (p := p) (m := m) hmv hml (c := c) hv hs
  have q2 := s_refCanonical (p := p) (m := m) hmv hml (c := c) hv hs
  have q3 := s_Rank (p := p) (m := m) hmv hml (c := c) hv hs
  have q4 := s_Check (p := p) (m := m) hmv hml (c := c) hv hs
  have q5 := s_ref09Check (p := p) (m := m) hmv hml (c := c) hv hs
  simp [p2, p3, l2, l3]
  refine q1.call ?_
  unfold canR
  unfold rcanR at q2
  unfold rankR at q3
  by_cases he : openE p m mo [(c, L)] = 0
  case neg =>
    rw [if_neg he] at q2 q3 ⊢
    generalize openE p m mo [(c, L)] = e at *
    simp [st_box]
    intro b5 hb5
    have kk := (Kp.refl g).new hb5 [I 0, .nils]
    have g5 := hset_same g b5 [I 0, .nils]
    have g2 := kk _ _ g2
    have g3 := kk _ _ g3
    have hk := hk.trans kk
    clear kk hb5 l2 l3
    generalize hset g b5 [I 0, .nils] = G at *
    obtain ⟨_, _, _, l2⟩ := ld3_at g2
    have l3 := lq_both g3
    subst hC
    unfold c_law09_MatrixCanonical_3
    generalize hC : c_law09_MatrixCanonical_4 = C4
    simp [p2, p3, l2, l3]
    refine q2.call ?_
    simp [st_box]
    intro b8 hb8
    have kk := (Kp.refl G).new hb8 [I 0, .nils]
    have g8 := hset_same G b8 [I 0, .nils]
    have g2 := kk _ _ g2
    have g3 := kk _ _ g3
    have g5 := kk _ _ g5
    have hk := hk.trans kk
    clear kk hb8 l2 l3
    generalize hset G b8 [I 0, .nils] = H at *
    obtain ⟨_, _, _, l2⟩ := ld3_at g2
    have l3 := lq_both g3
    have l5 := lq_both g5
    have l8 := lq_both g8
    subst hC
    unfold c_law09_MatrixCanonical_4
    generalize hC : c_law09_MatrixCanonical_5 = C5
    simp [p2, p3, l2, l3]
    refine q3.call ?_
    simp
    subst hC
    have d1 := s_Same (c := 0) (d := 0) (ML_gml []) (ML_gml []) (by decide) (fun i hi => absurd hi (by simp))
    have d2 := s_SameInts IL.nils IL.nils (by decide)
    rw [decide_eq_true ⟨rfl, rfl⟩] at d1
    rw [decide_eq_true rfl] at d2
    have e0 : gml [] = .nils := rfl
    rw [e0] at d1
    simp [l5, l8]
    refine d1.call ?_
    simp
    refine d2.call ?_
    simp [lenA_nils, p2, p3, l2, l3]
    refine q4.call ?_
    simp
    refine q5.call ?_
    simp
    exact ⟨_, hk.sub, .id _, rfl⟩
  rw [if_pos he] at q2 q3 ⊢
  rw [he] at q4 q5
  obtain ⟨hfp, n, rfl, hn, hLn, hM⟩ := openE_one he
  have r := hfp.fd
  rw [Int.toNat_natCast] at q2 q3 ⊢
  have hcl := canL_len r hM n
  have hcm := canL_mat r hM n
  have hMLa : ML (.fs (rkN (mkD p m mo) L n) ((canL (mkD p m mo) L n).map frow)) (canL (mkD p m mo) L n) := by rw [← hcl]; exact ML_fs _
  have hMLb := cnV_ML r hM n
  have hpI := gil_IL (pivL (mkD p m mo) L n)
  have hpl := pivL_len (mkD p m mo) L n
  have hle := elim_le2 r hM n
  have d1 := s_Same (c := n) (d := n) hMLa hMLb (by omega) (fun i hi => by rw [hcm.len hi]; omega)
  have d2 := s_SameInts hpI hpI (by omega)
  rw [decide_eq_true ⟨rfl, rfl⟩] at d1
  rw [decide_eq_true rfl] at d2
  have hpo := hpI.len
  rw [hpl] at hpo
  have hcell : (cnV (mkD p m mo) L n).cells = [cnV (mkD p m mo) L n] ∧ one (cnV (mkD p m mo) L n) = true := ⟨cnV_cells .., cnV_one ..⟩
  clear hMLa hMLb hpI hcm
  generalize cnV (mkD p m mo) L n = cv at *
  generalize (canL (mkD p m mo) L n).map frow = cl at *
  generalize gil (pivL (mkD p m mo) L n) = pv at *
  generalize rkN (mkD p m mo) L n = rk at *
  simp [st_box]
  intro b5 hb5
  have kk := (Kp.refl g).new hb5 [I n, .fs rk cl]
  have g5 := hset_same g b5 [I n, .fs rk cl]
  have g2 := kk _ _ g2
  have g3 := kk _ _ g3
  have hk := hk.trans kk
  clear kk hb5 l2 l3
  generalize hset g b5 [I n, .fs rk cl] = G at *
  obtain ⟨_, _, _, l2⟩ := ld3_at g2
  have l3 := lq_both g3
  subst hC
  unfold c_law09_MatrixCanonical_3
  generalize hC : c_law09_MatrixCanonical_4 = C4
  simp [p2, p3, l2, l3]
  refine q2.call ?_
  have hst8 := fun b R => st_box (h := G) (b := b) (cs := [I 0, .nils]) (cs' := [I n, cv]) (n := 2) (R := R) rfl rfl (by show (one (I n) && (one cv && true)) = true; rw [hcell.2]; rfl)
  simp [hst8]
  intro b8 hb8
  have kk := (Kp.refl G).new hb8 [I n, cv]
  have g8 := hset_same G b8 [I n, cv]
  have g2 := kk _ _ g2
  have g3 := kk _ _ g3
  have g5 := kk _ _ g5
  have hk := hk.trans kk
  clear kk hb8 l2 l3
  generalize hset G b8 [I n, cv] = H at *
  obtain ⟨_, _, _, l2⟩ := ld3_at g2
  have l3 := lq_both g3
  have l5 := lq_both g5
  have l8 := lq_both g8
  subst hC
  unfold c_law09_MatrixCanonical_4
  generalize hC : c_law09_MatrixCanonical_5 = C5
  simp [p2, p3, l2, l3]
  refine q3.call ?_
  simp
  subst hC
  simp [l5, l8]
  refine d1.call ?_
  simp
  refine d2.call ?_
  simp [hpo, p2, p3, l2, l3]
  refine q4.call ?_
  simp
  refine q5.call ?_
  simp
  exact ⟨_, hk.sub, .id _, rfl⟩
end Go.AM.Ytmihmgnjnedfcaa
end
