import Derived.Test.YtmihmgnjnedfcabBG
import Derived.Test.YtmihmgnjnedfcabBB

section
/- The canonical rows of a list of rows, as linear algebra: what their pivots are, that they are the only ones. No code is walked here. -/
set_option maxRecDepth 100000
set_option linter.unusedSimpArgs false
set_option linter.unusedVariables false
namespace Go.AM.Ytmihmgnjnedfcab
open Go Go.AM Go.FM Go.LA

section
variable {F : FB} {w : Nat} {L L' : List (List Int)}

theorem vc_ext {l l' : List Int} (h1 : l.length = l'.length) (r1 : ∀ x ∈ l, F.D.R x) (r2 : ∀ x ∈ l', F.D.R x) (h : ∀ j, j < l.length → vc F l j = vc F l' j) : l = l' := by
  refine List.ext_getElem h1 fun j a b => ?_
  have := h j a
  unfold vc at this
  have e := toK_inj (F := F) (r1 _ (mem_getD a)) (r2 _ (mem_getD b)) this
  simpa [List.getD, a, b] using e
theorem mtx_ext (m : Mat F.D w L) (m' : Mat F.D w L') (hl : L.length = L'.length) (h : ∀ i j, i < L.length → j < w → mtx F L i j = mtx F L' i j) : L = L' := by
  refine list_ext hl fun i hi => ?_
  have h1 := m.len hi
  have h2 := m'.len (i := i) (by omega)
  exact vc_ext (F := F) (by omega) (m.R hi) (m'.R (by omega)) fun j hj => h i j hi (by omega)

theorem combK_R (o : F.D.Ok) (x : List Int) (L : List (List Int)) (n : Nat) : ∀ k, ∀ y ∈ combK F.D x L n k, F.D.R y
  | 0, y, hy => by
    simp only [combK] at hy
    rw [List.eq_of_mem_replicate hy]; exact o.q0
  | k + 1, y, hy => by
    simp only [combK] at hy
    split at hy
    · exact addV_R o (combK_R o x L n k) _ y hy
    · exact combK_R o x L n k y hy
/-- A combination of rows, over the field. -/
theorem vc_combK (hw : ∀ i, i < L.length → (L.getD i []).length = w) (x : List Int) : ∀ k, k ≤ L.length → ∀ j, vc F (combK F.D x L w k) j = Sm k fun i => vc F x i * mtx F L i j
  | 0, _, j => by
    simp only [combK, Sm]
    unfold vc
    by_cases hj : j < w
    · rw [show (List.replicate w (0 : Int)).getD j 0 = 0 by simp [List.getD, hj]]; exact toK_zero
    · rw [getD_out (by simp; omega)]; exact toK_zero
  | k + 1, hk, j => by
    have ih := vc_combK hw x k (by omega) j
    have hl := combK_len F.D x L w k
    simp only [combK, Sm]
    by_cases h : x.getD k 0 ≠ 0
    · rw [if_pos h, vc_addV (by rw [hl, hw k (by omega)]; exact Nat.le_refl _), ih]
      rfl
    · rw [if_neg h, ih]
      have : x.getD k 0 = 0 := Classical.byContradiction h
      have e : vc F x k = 0 := by unfold vc; rw [this]; exact toK_zero
      rw [e, LA.zero_mul, add_zero]

/-! ### Canonical rows -/

theorem canL_get0 {D : Ds} {L : List (List Int)} {n i : Nat} (hi : i < rkN D L n) : (canL D L n).getD i [] = (elim D L n).L.getD i [] := by
  unfold canL rkN at *
  simp [List.getD, List.getElem?_take, hi]
theorem canL_mat0 {D : Ds} (r : Fd D) {w : Nat} {L : List (List Int)} (hM : Mat D w L) (n : Nat) : Mat D w (canL D L n) := fun row hr => (hM.elim r.toOk n) row (List.mem_of_mem_take hr)
theorem canL_len0 {D : Ds} (r : Fd D) {w : Nat} {L : List (List Int)} (hM : Mat D w L) (n : Nat) : (canL D L n).length = rkN D L n := canL_len r hM n

def pvF (pv : List Nat) : Nat → Nat := fun i => pv.getD i 0
theorem can_red (m : Mat F.D w L) (c : Nat) : Rref L.length c (rkN F.D L c) (pvF (elim F.D L c).pv) (mtx F (elim F.D L c).L) := (elim_spec m c).red
theorem can_op (m : Mat F.D w L) (c : Nat) : ∃ d, RE L.length (mtx F L) (mtx F (elim F.D L c).L) d ∧ d * toK F (elim F.D L c).det = 1 := (elim_spec m c).op
theorem can_lt (m : Mat F.D w L) (c : Nat) {i : Nat} (hi : i < rkN F.D L c) : pvF (elim F.D L c).pv i < c := (elim_spec m c).lt _ (mem_getD hi)
theorem can_row {c i : Nat} (hi : i < rkN F.D L c) : mtx F (canL F.D L c) i = mtx F (elim F.D L c).L i := by
  unfold mtx; rw [canL_get0 hi]
/-- The rows have the same combinations as the canonical ones. -/
theorem can_sp (m : Mat F.D w L) : (∀ i, i < L.length → Sp (rkN F.D L w) w (mtx F (canL F.D L w)) (mtx F L i)) ∧ ∀ i, i < rkN F.D L w → Sp L.length w (mtx F L) (mtx F (canL F.D L w) i) := by
  obtain ⟨d, h1, _⟩ := can_op m w
  have h2 := can_red m w
  obtain ⟨s1, s2⟩ := h1.sp w
  have hle := h2.le
  refine ⟨fun i hi => ?_, fun i hi => by rw [can_row hi]; exact s1 i (by omega)⟩
  have := Sp.trans (A := mtx F (elim F.D L w).L) (fun k hk => h2.sp_r hk) (s2 i hi)
  exact this.cngA fun a b ha _ => by rw [can_row ha]

theorem canL_uniq (m : Mat F.D w L) (m' : Mat F.D w L') (s : ∀ i, i < L'.length → Sp L.length w (mtx F L) (mtx F L' i)) (s' : ∀ i, i < L.length → Sp L'.length w (mtx F L') (mtx F L i)) :
    rkN F.D L w = rkN F.D L' w ∧ (elim F.D L w).pv = (elim F.D L' w).pv ∧ canL F.D L w = canL F.D L' w := by
  have r1 := can_red m w
  have r2 := can_red m' w
  obtain ⟨d1, op1, _⟩ := can_op m w
  obtain ⟨d2, op2, _⟩ := can_op m' w
  obtain ⟨a1, a2⟩ := op1.sp w
  obtain ⟨b1, b2⟩ := op2.sp w
  have le1 := r1.le
  have le2 := r2.le
  obtain ⟨u1, u2, u3⟩ := r1.uniq r2 (fun i hi => Sp.trans a2 (Sp.trans s (b1 i (by omega)))) (fun i hi => Sp.trans b2 (Sp.trans s' (a1 i (by omega))))
  refine ⟨u1, ?_, ?_⟩
  · refine List.ext_getElem u1 fun i h1 h2 => ?_
    have := u2 i h1
    unfold pvF at this
    simpa [List.getD, h1, h2] using this
  · have c1 := canL_len0 F.r m w
    have c2 := canL_len0 F.r m' w
    refine mtx_ext (canL_mat0 F.r m w) (canL_mat0 F.r m' w) (by omega) fun i j hi hj => ?_
    rw [can_row (by omega), can_row (by omega)]
    exact u3 i (by omega) j hj
end
end Go.AM.Ytmihmgnjnedfcab
end

section
/- Contracts of functions: Few. -/
set_option maxRecDepth 100000
set_option linter.unusedSimpArgs false
set_option linter.unusedVariables false
namespace Go.AM.Ytmihmgnjnedfcab
open Go Go.AM
attribute [local simp ↓] awp_seq awp_reg awp_skip awp_cond' awp_block awp_exit awp_ret awp_fz thenW_normal thenW_exit thenW_ret inBlk_normal inBlk_exit inBlk_ret aops_cons' contA_ap aops_nil e_mv e_guard' e_pick' e_ld' e_app e_cpy e_st' e_call callW_f updO_some updO_none e_bin' e_isnil' e_fadr' e_iadr' e_iarr' e_len' e_build' e_mkf' e_nc' e_not' e_neg' e_cvt' e_slc' e_fld' e_ext' e_min' e_eqs' e_new e_box e_mkl e_mks
attribute [local simp] upd_apply ev_t ev_k ev_f binA_add binA_sub binA_mul binA_quo binA_rem binA_eql binA_neq binA_lss binA_leq binA_gtr binA_geq det mem frame0 keeps_nil iadrA_sl fadrA_ref fadrA_fp ldv_agg ldv_one cells_base hset_same hset_hset lenA_fs lenA_sl lenA_nils zeros_ints ints_length one_base one_nilp one_nils one_ref one_sl one_fp one_fs one_fn gl_one resA resOf bound natOf afill splice AV.cells cells_agg bindR_some condR_true condR_false guardR_tup guardR_true guardR_true' guardR_false guardR_false' allocW_some pickA_true pickA_false
open Go.FM

def fewL : Nat → List (List Int) → Bool
  | _, [] => true
  | n, row :: r => if n < row.length then false else fewL (n - row.length) r
theorem fewL_cons (n : Nat) (row : List Int) (r : List (List Int)) : fewL n (row :: r) = if n < row.length then false else fewL (n - row.length) r := rfl
def fewB (c : Int) (L : List (List Int)) (n : Nat) : Bool := if 260 < c then false else if n < L.length then false else fewL (n - L.length) L
theorem fewL_le : ∀ {n : Nat} {L : List (List Int)}, fewL n L = true → ∀ row ∈ L, row.length ≤ n
  | n, [], _, row, hr => by cases hr
  | n, x :: r, h, row, hr => by
    unfold fewL at h
    split at h
    · cases h
    · rcases List.mem_cons.1 hr with rfl | hr
      · omega
      · have := fewL_le h row hr; omega
theorem fewB_le {c : Int} {L : List (List Int)} {n : Nat} (h : fewB c L n = true) : c ≤ 260 ∧ L.length ≤ n ∧ ∀ row ∈ L, row.length ≤ n := by
  unfold fewB at h
  split at h
  · cases h
  · split at h
    · cases h
    · refine ⟨by omega, by omega, fun row hr => ?_⟩
      have := fewL_le h row hr; omega

theorem s_Few {v : AV} {c : Int} {L : List (List Int)} (hv : ML v L) (hL : L.length < 4611686018427387904) {n : Nat} (hn : n ≤ 1000) : Pure prog n_ref09_Few [.agg [I c, v], I n] (B (fewB c L n)) := by
  refine pure_of cf_ref09_Few rfl fun h => ?_
  have hone := hv.one
  simp [hone]
  intro b2 hb2
  have lf := lq_fst (hset_same h b2 [I c, v])
  have ls := lq_snd (hset_same h b2 [I c, v])
  have hkg : Kp h (hset h b2 [I c, v]) := (Kp.refl h).new hb2 _
  generalize hset h b2 [I c, v] = g at *
  unfold fewB
  by_cases c1 : 260 < c
  · rw [if_pos c1]
    simp [lf, c1]
    exact ⟨_, hkg.sub, .id _, rfl⟩
  rw [if_neg c1]
  by_cases c2 : n < L.length
  · have c2' : (n : Int) < L.length := by omega
    rw [if_pos c2]
    simp [lf, ls, c1, hv.len, c2, c2']
    exact ⟨_, hkg.sub, .id _, rfl⟩
  have c2' : ¬ (n : Int) < L.length := by omega
  rw [if_neg c2]
  have u0 : IntKind.i64.wrap ((n : Int) - L.length) = (n - L.length : Nat) := by rw [w64 _ (by omega)]; omega
  simp [lf, ls, c1, hv.len, c2, c2', u0]
  refine awp_for L.length (fun k fr' h' => h' = g ∧ fr' 6 = I k ∧ ∃ left : Nat, left ≤ 1000 ∧ fr' 5 = I left ∧ fewL left (L.drop k) = fewL (n - L.length) L) ⟨rfl, by simp, n - L.length, by omega, by simp, rfl⟩ ?_
  intro k fr' h' hkn hk ⟨hh, k6, left, hl, k5, hx⟩
  subst hh
  have k2 := hk 2 (by decide)
  simp at k2
  clear hk
  by_cases hlt : k < L.length
  · obtain ⟨pa, row, hpa, hpl, hrow⟩ := hv.rd hlt
    have hd : L.drop k = L.getD k [] :: L.drop (k + 1) := by
      rw [List.drop_eq_getElem_cons hlt]; simp [List.getD, hlt]
    rw [hd, fewL_cons] at hx
    generalize L.getD k [] = rl at *
    have u1 : IntKind.i64.wrap ((k : Int) + 1) = k + 1 := w64 _ (by omega)
    by_cases hc : left < rl.length
    · have hc' : (left : Int) < rl.length := by omega
      rw [if_pos hc] at hx
      simp [k2, k5, k6, hlt, ls, hv.len, hpa, hpl, hrow.len, hc, hc']
      rw [← hx]
      exact ⟨_, hkg.sub, .id _, rfl⟩
    · have hc' : ¬ (left : Int) < rl.length := by omega
      have u2 : IntKind.i64.wrap ((left : Int) - rl.length) = (left - rl.length : Nat) := by rw [w64 _ (by omega)]; omega
      rw [if_neg hc] at hx
      simp [k2, k5, k6, hlt, ls, hv.len, hpa, hpl, hrow.len, hc, hc', u1, u2]
      exact ⟨left - rl.length, by omega, rfl, hx⟩
  · have : k = L.length := by omega
    subst this
    rw [List.drop_length] at hx
    simp [k2, k6, ls, hv.len]
    rw [← hx]
    exact ⟨_, hkg.sub, .id _, rfl⟩
end Go.AM.Ytmihmgnjnedfcab
end

section
/- Canonical matrices, kernels, solutions, determinants, inverses, as linear algebra. No code is walked here. -/
set_option maxRecDepth 100000
set_option linter.unusedSimpArgs false
set_option linter.unusedVariables false
namespace Go.AM.Ytmihmgnjnedfcab
open Go Go.AM Go.FM Go.LA

section
variable {F : FB} {w : Nat} {L L' : List (List Int)}

theorem toK_if (p : Prop) [Decidable p] : toK F (if p then 1 else 0) = if p then 1 else 0 := by
  by_cases h : p
  · rw [if_pos h, if_pos h]; exact toK_one
  · rw [if_neg h, if_neg h]; exact toK_zero
theorem R01 (p : Prop) [Decidable p] : F.D.R (if p then 1 else 0) := by
  by_cases h : p
  · rw [if_pos h]; exact F.r.toOk.q1
  · rw [if_neg h]; exact F.r.toOk.q0
theorem can_unit (m : Mat F.D w L) (c : Nat) {i j : Nat} (hi : i < rkN F.D L c) (hj : j < rkN F.D L c) : ((canL F.D L c).getD i []).getD (pvF (elim F.D L c).pv j) 0 = if i = j then 1 else 0 := by
  have h := (can_red m c).unit i j (by have := (can_red m c).le; omega) hj
  refine toK_inj (F := F) ((canL_mat0 F.r m c).get F.r.toOk i _) (R01 _) ?_
  rw [toK_if]
  rw [← h, ← can_row hi]
  rfl
theorem can_zero (m : Mat F.D w L) (c : Nat) {i j : Nat} (hi : i < rkN F.D L c) (hj : j < pvF (elim F.D L c).pv i) : ((canL F.D L c).getD i []).getD j 0 = 0 := by
  have hlt := can_lt m c hi
  have h := (can_red m c).zero i j (by have := (can_red m c).le; omega) (by omega) (.inr hj)
  refine toK_inj (F := F) ((canL_mat0 F.r m c).get F.r.toOk i _) F.r.toOk.q0 ?_
  rw [toK_zero, ← h, ← can_row hi]
  rfl
theorem can_mono (m : Mat F.D w L) (c : Nat) {i j : Nat} (hij : i < j) (hj : j < rkN F.D L c) : pvF (elim F.D L c).pv i < pvF (elim F.D L c).pv j := (can_red m c).mono i j hij hj

/-- The entries at places. -/
def pickL (v : List Int) (pv : List Nat) : List Int := pv.map fun p => v.getD p 0
theorem pickL_get {v : List Int} {pv : List Nat} {i : Nat} (hi : i < pv.length) : (pickL v pv).getD i 0 = v.getD (pvF pv i) 0 := map_getD' (fun p => v.getD p 0) pv i 0 0 hi
/-- A row is the combination of the canonical rows with its entries at the pivots. -/
theorem can_comb (m : Mat F.D w L) {i : Nat} (hi : i < L.length) : combK F.D (pickL (L.getD i []) (elim F.D L w).pv) (canL F.D L w) w (rkN F.D L w) = L.getD i [] := by
  have hcm := canL_mat0 F.r m w
  have hcl := canL_len0 F.r m w
  have h2 := can_red m w
  obtain ⟨d, h1, _⟩ := can_op m w
  obtain ⟨s1, s2⟩ := h1.sp w
  refine vc_ext (F := F) (by rw [combK_len, m.len hi]) (combK_R F.r.toOk _ _ _ _) (m.R hi) fun j hj => ?_
  rw [combK_len] at hj
  rw [vc_combK (fun k hk => hcm.len hk) _ _ (by omega)]
  have := h2.comb (s2 i hi) hj
  show _ = mtx F L i j
  rw [this]
  refine Sm_congr fun k hk => ?_
  rw [← can_row hk]
  congr 1
  unfold vc
  rw [pickL_get hk]
  rfl

/-- Row operations leave the canonical rows as they are. -/
theorem canL_RE (m : Mat F.D w L) (m' : Mat F.D w L') (hl : L'.length = L.length) {d : El F} (h : RE L.length (mtx F L) (mtx F L') d) : rkN F.D L w = rkN F.D L' w ∧ (elim F.D L w).pv = (elim F.D L' w).pv ∧ canL F.D L w = canL F.D L' w := by
  obtain ⟨s1, s2⟩ := h.sp w
  exact canL_uniq m m' (fun i hi => s1 i (by omega)) fun i hi => by rw [hl]; exact s2 i hi

/-! ### Products of rows -/

theorem toK_dotK (a b : List Int) : ∀ k, toK F (dotK F.D a b k) = Sm k fun i => vc F a i * vc F b i
  | 0 => toK_zero
  | k + 1 => by
    simp only [dotK, Sm]
    rw [toK_add, toK_mul, toK_dotK a b k]
    rfl
theorem dotK_R (o : F.D.Ok) (a b : List Int) : ∀ k, F.D.R (dotK F.D a b k)
  | 0 => o.q0
  | k + 1 => o.addR _ _
theorem dotK_eq (a b : List Int) (k : Nat) : toK F (dotK F.D a b k) = dots k (vc F a) (vc F b) := toK_dotK a b k

/-! ### Kernels -/

theorem kvK_piv {D : Ds} {rows : List (List Int)} {pv : List Nat} {n c : Nat} (hm : ∀ i j, i < j → j < pv.length → pvF pv i < pvF pv j) (hlt : ∀ i, i < pv.length → pvF pv i < n) : ∀ i, i ≤ pv.length → (∀ k, k < i → (kvK D rows pv n c i).getD (pvF pv k) 0 = D.neg ((rows.getD k []).getD c 0)) ∧
    ∀ j, (∀ k, k < i → pvF pv k ≠ j) → (kvK D rows pv n c i).getD j 0 = ((List.replicate n 0).set c 1 : List Int).getD j 0
  | 0, _ => ⟨fun k hk => by omega, fun j _ => rfl⟩
  | i + 1, hi => by
    obtain ⟨h1, h2⟩ := kvK_piv (D := D) (rows := rows) (c := c) hm hlt i (by omega)
    have hl := kvK_len D rows pv n c i
    have hpi := hlt i (by omega)
    refine ⟨fun k hk => ?_, fun j hj => ?_⟩
    · simp only [kvK]
      rw [getD_set]
      by_cases e : k = i
      · subst e
        rw [if_pos ⟨rfl, by rw [hl]; exact hpi⟩]
      · have := hm k i (by omega) (by omega)
        rw [if_neg (by unfold pvF at *; omega)]
        exact h1 k (by omega)
    · simp only [kvK]
      rw [getD_set, if_neg (fun hh => hj i (by omega) hh.1.symm)]
      exact h2 j fun k hk => hj k (by omega)

theorem ker_vec (m : Mat F.D w L) {c : Nat} (hc : c < w) (hnp : c ∉ (elim F.D L w).pv) :
    KerV (rkN F.D L w) w (pvF (elim F.D L w).pv) (mtx F (canL F.D L w)) c (vc F (kvK F.D (canL F.D L w) (elim F.D L w).pv w c (elim F.D L w).pv.length)) := by
  have h2 := can_red m w
  obtain ⟨k1, k2⟩ := kvK_piv (D := F.D) (rows := canL F.D L w) (c := c) (n := w) (pv := (elim F.D L w).pv) h2.mono h2.lt _ (Nat.le_refl _)
  have hne : ∀ k, k < (elim F.D L w).pv.length → pvF (elim F.D L w).pv k ≠ c := fun k hk he => hnp (he ▸ mem_getD hk)
  refine ⟨?_, fun i hi => ?_, fun j hj hjc hjp => ?_⟩
  · unfold vc
    rw [k2 c hne, getD_set, if_pos ⟨rfl, by simpa using hc⟩]; exact toK_one
  · unfold vc
    rw [k1 i hi, toK_neg]; rfl
  · unfold vc
    rw [k2 j hjp, getD_set, if_neg (by omega)]
    rw [show (List.replicate w (0 : Int)).getD j 0 = 0 by simp [List.getD, hj]]; exact toK_zero

theorem kerK_eq (D : Ds) (rows : List (List Int)) (pv : List Nat) (n : Nat) : ∀ c, kerK D rows pv n c = ((List.range c).filter fun q => decide (q ∉ pv)).map fun q => kvK D rows pv n q pv.length
  | 0 => rfl
  | c + 1 => by
    simp only [kerK]
    rw [List.range_succ, List.filter_append, List.map_append, kerK_eq D rows pv n c]
    by_cases h : c ∈ pv
    · rw [if_pos h]; simp [h]
    · rw [if_neg h]; simp [h]
/-- How many columns have no pivot. -/
theorem free_len {pv : List Nat} (hm : ∀ i j, i < j → j < pv.length → pvF pv i < pvF pv j) : ∀ c, ∃ r, r ≤ pv.length ∧ r ≤ c ∧ (∀ i, i < r → pvF pv i < c) ∧ (∀ i, r ≤ i → i < pv.length → c ≤ pvF pv i) ∧ ((List.range c).filter fun q => decide (q ∉ pv)).length + r = c
  | 0 => ⟨0, by omega, by omega, fun i hi => by omega, fun i _ _ => by omega, by simp⟩
  | c + 1 => by
    obtain ⟨r, h1, h2, h3, h4, h5⟩ := free_len hm c
    rw [List.range_succ, List.filter_append, List.length_append]
    by_cases h : c ∈ pv
    · obtain ⟨k, hk, e⟩ := List.mem_iff_getElem.1 h
      have ek : pvF pv k = c := by simp [pvF, List.getD, hk, e]
      have hrk : k = r := by
        rcases Nat.lt_trichotomy k r with hl | hl | hl
        · have := h3 k hl; omega
        · exact hl
        · have := hm r k hl hk
          have := h4 r (Nat.le_refl _) (by omega)
          omega
      subst hrk
      refine ⟨k + 1, by omega, by omega, fun i hi => ?_, fun i hi hil => ?_, ?_⟩
      · by_cases e2 : i = k
        · rw [e2]; omega
        · have := h3 i (by omega); omega
      · have := hm k i (by omega) hil; omega
      · have e0 : ([c].filter fun q => decide (q ∉ pv)).length = 0 := by simp [h]
        omega
    · refine ⟨r, h1, by omega, fun i hi => by have := h3 i hi; omega, fun i hi hil => ?_, ?_⟩
      · have := h4 i hi hil
        have : pvF pv i ≠ c := fun e => h (e ▸ mem_getD hil)
        omega
      · have e0 : ([c].filter fun q => decide (q ∉ pv)).length = 1 := by simp [h]
        omega

theorem kerL_mat (m : Mat F.D w L) : Mat F.D w (kerL F.D L w) := kerK_mat F.r.toOk _ _ _ _
/-- The dimension of the kernel. -/
theorem kerL_rank (m : Mat F.D w L) : rkN F.D L w + rkN F.D (kerL F.D L w) w = w ∧ (kerL F.D L w).length = rkN F.D (kerL F.D L w) w := by
  have h2 := can_red m w
  obtain ⟨r, f1, f2, f3, f4, f5⟩ := free_len h2.mono w
  have hr : r = (elim F.D L w).pv.length := by
    apply Classical.byContradiction
    intro hne
    have hr : r < (elim F.D L w).pv.length := by omega
    have h3 := f4 r (Nat.le_refl _) hr
    have h4 := h2.lt r hr
    omega
  have hk : kerL F.D L w = ((List.range w).filter fun q => decide (q ∉ (elim F.D L w).pv)).map fun q => kvK F.D (canL F.D L w) (elim F.D L w).pv w q (elim F.D L w).pv.length := kerK_eq _ _ _ _ _
  have hlen : (kerL F.D L w).length + rkN F.D L w = w := by
    rw [hk, List.length_map]
    unfold rkN
    omega
  -- its vectors are independent
  have hqs : ∀ l, l < (kerL F.D L w).length → ∃ q, ((List.range w).filter fun q => decide (q ∉ (elim F.D L w).pv)).getD l 0 = q ∧ q < w ∧ q ∉ (elim F.D L w).pv ∧ (kerL F.D L w).getD l [] = kvK F.D (canL F.D L w) (elim F.D L w).pv w q (elim F.D L w).pv.length := fun l hl => by
    rw [hk, List.length_map] at hl
    have hm := mem_getD (d := 0) hl
    obtain ⟨g1, g2⟩ := List.mem_filter.1 hm
    refine ⟨_, rfl, List.mem_range.1 g1, by simpa using g2, ?_⟩
    rw [hk, map_getD' _ _ l 0 [] hl]
  have hind : Ind (kerL F.D L w).length w (mtx F (kerL F.D L w)) := by
    refine KerV.ind (r := rkN F.D L w) (p := pvF (elim F.D L w).pv) (R := mtx F (canL F.D L w)) (q := fun l => ((List.range w).filter fun q => decide (q ∉ (elim F.D L w).pv)).getD l 0) (fun l hl => ?_) (fun l hl => ?_) fun l l' hl hl' hne he => ?_
    · obtain ⟨q, e, q1, q2, q3⟩ := hqs l hl
      have := ker_vec m q1 q2
      rw [← q3] at this
      rw [e]; exact this
    · obtain ⟨q, e, q1, q2, q3⟩ := hqs l hl
      rw [e]
      exact ⟨q1, fun i hi he => q2 (he ▸ mem_getD hi)⟩
    · have hnd : ((List.range w).filter fun q => decide (q ∉ (elim F.D L w).pv)).Pairwise (· ≠ ·) := List.Pairwise.filter _ List.nodup_range
      rw [hk, List.length_map] at hl hl'
      generalize ((List.range w).filter fun q => decide (q ∉ (elim F.D L w).pv)) = Q at *
      have hg : ∀ i (hi : i < Q.length), Q.getD i 0 = Q[i] := fun i hi => by simp [List.getD, hi]
      have he : Q.getD l 0 = Q.getD l' 0 := he
      rw [hg l hl, hg l' hl'] at he
      have hp := List.pairwise_iff_getElem.1 hnd
      rcases Nat.lt_or_gt_of_ne hne with h1 | h1
      · exact hp l l' hl hl' h1 he
      · exact hp l' l hl' hl h1 he.symm
  have hkm := kerL_mat m
  obtain ⟨c1, c2⟩ := can_sp hkm
  have e1 := steinitz hind c1
  have e2 := (can_red hkm w).le
  refine ⟨by omega, by omega⟩

/-- The words of the kernel are orthogonal to the rows. -/
theorem kerL_orth (m : Mat F.D w L) {i k : Nat} (hi : i < rkN F.D (kerL F.D L w) w) (hk : k < L.length) : dotK F.D ((canL F.D (kerL F.D L w) w).getD i []) (L.getD k []) w = 0 := by
  have hkm := kerL_mat m
  obtain ⟨c1, c2⟩ := can_sp hkm
  obtain ⟨a1, a2⟩ := can_sp m
  have h2 := can_red m w
  have hle := h2.le
  refine toK_inj (F := F) (dotK_R F.r.toOk _ _ _) F.r.toOk.q0 ?_
  rw [toK_zero, dotK_eq]
  refine Sp.dots (c2 i hi) fun l hl => ?_
  rw [dots_comm]
  refine Sp.dots (a1 k hk) fun j hj => ?_
  -- a canonical row and a vector of the kernel
  have hkq : kerL F.D L w = ((List.range w).filter fun q => decide (q ∉ (elim F.D L w).pv)).map fun q => kvK F.D (canL F.D L w) (elim F.D L w).pv w q (elim F.D L w).pv.length := kerK_eq _ _ _ _ _
  have hl' := hl
  rw [hkq, List.length_map] at hl'
  obtain ⟨g1, g2⟩ := List.mem_filter.1 (mem_getD (d := 0) hl')
  have e : (kerL F.D L w).getD l [] = kvK F.D (canL F.D L w) (elim F.D L w).pv w (((List.range w).filter fun q => decide (q ∉ (elim F.D L w).pv)).getD l 0) (elim F.D L w).pv.length := by
    rw [hkq, map_getD' _ _ l 0 [] hl']
  have q1 := List.mem_range.1 g1
  have q2 : (((List.range w).filter fun q => decide (q ∉ (elim F.D L w).pv)).getD l 0) ∉ (elim F.D L w).pv := by simpa using g2
  generalize ((List.range w).filter fun q => decide (q ∉ (elim F.D L w).pv)).getD l 0 = q at *
  have hv := ker_vec m q1 q2
  rw [← e] at hv
  have hred : Rref (rkN F.D L w) w (rkN F.D L w) (pvF (elim F.D L w).pv) (mtx F (canL F.D L w)) := by
    refine ⟨Nat.le_refl _, h2.lt, h2.mono, fun i j hi hj => ?_, fun i j hi hj hc => ?_⟩
    · rw [can_row hi]; exact h2.unit i j (by omega) hj
    · rw [can_row hi]; exact h2.zero i j (by omega) hj hc
  exact hv.orth hred q1 (fun i hi he => q2 (he ▸ mem_getD hi)) hj

/-! ### Determinants -/

/-- The determinant by the elimination. -/
theorem det_elim {n : Nat} (m : Mat F.D n L) (hl : L.length = n) : toK F (if (rkN F.D L n : Int) < n then 0 else (elim F.D L n).det) = dt n (mtx F L) := by
  obtain ⟨d, h1, h2⟩ := can_op m n
  have h3 := can_red m n
  rw [hl] at h1 h3
  have e := h1.dt
  rcases h3.sq with ⟨hr, hs⟩ | ⟨hr, hs⟩
  · rw [if_neg (by omega)]
    rw [dt_congr hs, dt_id] at e
    refine mul_cancel h1.ne ?_
    rw [h2, ← e]
  · rw [if_pos (by omega), toK_zero]
    rw [dt_zeror (show n - 1 < n by omega) hs] at e
    exact (mul_cancel h1.ne (by rw [← e, LA.mul_zero])).symm
theorem det_ne {n : Nat} (m : Mat F.D n L) (hl : L.length = n) : rkN F.D L n = n ↔ dt n (mtx F L) ≠ 0 := by
  obtain ⟨d, h1, h2⟩ := can_op m n
  have h3 := can_red m n
  rw [hl] at h1 h3
  have e := h1.dt
  rcases h3.sq with ⟨hr, hs⟩ | ⟨hr, hs⟩
  · rw [dt_congr hs, dt_id] at e
    refine ⟨fun _ h0 => ?_, fun _ => hr⟩
    rw [h0, LA.mul_zero] at e
    exact one_ne e
  · rw [dt_zeror (show n - 1 < n by omega) hs] at e
    refine ⟨fun h => by omega, fun h => absurd (mul_cancel h1.ne (by rw [← e, LA.mul_zero])) h⟩
end
end Go.AM.Ytmihmgnjnedfcab
end

section
/- Codes of the program, as the conversion gives them. -/
set_option maxRecDepth 100000
namespace Go.AM.Ytmihmgnjnedfcab
open Go Go.AM
-- ref09_Vector
abbrev c_ref09_Vector_3 : SC := .ret
abbrev c_ref09_Vector_2 : SC := .seq (.reg [o 11 (.ld (.t 3) 3 true), o 12 (.mv (.t 1)), o 13 (.call (.f n_ref09_Entries) [.t 11, .t 12]), o 6 (.mv (.t 13))]) c_ref09_Vector_3
abbrev c_ref09_Vector_1 : SC := .seq (.seq (.reg [o 7 (.mv (.t 1)), o 8 (.len (.t 7)), o 9 (.mv (.t 2)), o 10 (.bin .neq (.t 8) (.t 9))]) (.cond (.t 10) (.seq (.reg [o 6 (.mv (ki 3))]) .ret) .skip)) c_ref09_Vector_2
abbrev c_ref09_Vector_0 : SC := .seq (.reg [o 3 (.box (.t 0)), o 6 (.mv (ki 0))]) c_ref09_Vector_1
theorem cf_ref09_Vector : cfun Go.Proofs.Try.prog md n_ref09_Vector = some ⟨3, 14, c_ref09_Vector_0.erase, [.t 6]⟩ := by kernel_rfl
-- ref09_Solve
abbrev c_ref09_SolveL0_2 : SC := (.reg [o 34 (.mv (.t 10)), o 35 (.bin .add (.t 34) (ki 1)), o 10 (.mv (.t 35))])
abbrev c_ref09_SolveL0_1 : SC := .seq (.block 1 (.reg [o 36 (.mv (.t 9)), o 38 (.fadr (.t 4) 1), o 40 (.mv (.t 10)), o 44 (.mv (.t 2)), o 45 (.mv (.t 10)), o 46 (.iadr (.t 44) (.t 45) 1), o 39 (.ld (.t 38) 1 false), o 41 (.iadr (.t 39) (.t 40) 1), o 42 (.ld (.t 41) 1 false), o 47 (.ld (.t 46) 1 false), o 37 (.mkl 0 1 [] []), o 43 (.app (.t 37) (.t 42) 1), o 48 (.mkl 1 1 [I 0] [(0, (1, .t 47))]), o 49 (.app (.t 43) (.t 48) 1), o 50 (.mkl 1 1 [.nils] [(0, (1, .t 49))]), o 51 (.app (.t 36) (.t 50) 1), o 9 (.mv (.t 51))])) c_ref09_SolveL0_2
abbrev c_ref09_SolveL0_0 : SC := .seq (.seq (.reg [o 30 (.mv (.t 10)), o 31 (.mv (.t 2)), o 32 (.len (.t 31)), o 33 (.bin .lss (.t 30) (.t 32))]) (.cond (.t 33) .skip (.exit 0))) c_ref09_SolveL0_1
abbrev c_ref09_SolveL1_2 : SC := (.reg [o 66 (.mv (.t 13)), o 67 (.bin .add (.t 66) (ki 1)), o 13 (.mv (.t 67))])
abbrev c_ref09_SolveL1_1 : SC := .seq (.block 3 (.seq (.reg [o 68 (.mv (.t 11)), o 69 (.mv (.t 13)), o 70 (.iadr (.t 68) (.t 69) 1), o 72 (.fadr (.t 4) 0), o 71 (.ld (.t 70) 1 false), o 73 (.ld (.t 72) 1 false), o 74 (.iadr (.t 71) (.t 73) 1), o 75 (.ld (.t 74) 1 false), o 76 (.bin .neq (.t 75) (ki 0))]) (.cond (.t 76) (.seq (.reg [o 6 (.mv (.k .nils)), o 7 (.mv (ki 11))]) .ret) .skip))) c_ref09_SolveL1_2
abbrev c_ref09_SolveL1_0 : SC := .seq (.seq (.reg [o 62 (.mv (.t 13)), o 63 (.mv (.t 11)), o 64 (.len (.t 63)), o 65 (.bin .lss (.t 62) (.t 64))]) (.cond (.t 65) .skip (.exit 2))) c_ref09_SolveL1_1
abbrev c_ref09_SolveL2_2 : SC := (.reg [o 84 (.mv (.t 15)), o 85 (.bin .add (.t 84) (ki 1)), o 15 (.mv (.t 85))])
abbrev c_ref09_SolveL2_1 : SC := .seq (.block 5 (.reg [o 86 (.mv (.t 14)), o 87 (.mv (.t 12)), o 88 (.mv (.t 15)), o 89 (.iadr (.t 87) (.t 88) 1), o 91 (.mv (.t 11)), o 92 (.mv (.t 15)), o 93 (.iadr (.t 91) (.t 92) 1), o 95 (.fadr (.t 4) 0), o 90 (.ld (.t 89) 1 false), o 94 (.ld (.t 93) 1 false), o 96 (.ld (.t 95) 1 false), o 97 (.iadr (.t 94) (.t 96) 1), o 98 (.ld (.t 97) 1 false), o 99 (.iadr (.t 86) (.t 90) 1), os (.st (.t 99) (.t 98) 1)])) c_ref09_SolveL2_2
abbrev c_ref09_SolveL2_0 : SC := .seq (.seq (.reg [o 80 (.mv (.t 15)), o 81 (.mv (.t 12)), o 82 (.len (.t 81)), o 83 (.bin .lss (.t 80) (.t 82))]) (.cond (.t 83) .skip (.exit 4))) c_ref09_SolveL2_1
abbrev c_ref09_Solve_11 : SC := .ret
abbrev c_ref09_Solve_10 : SC := .seq (.reg [o 100 (.mv (.t 14)), o 6 (.mv (.t 100)), o 7 (.mv (ki 0))]) c_ref09_Solve_11
abbrev c_ref09_Solve_9 : SC := .seq (.seq (.reg [o 15 (.mv (ki 0))]) (.block 4 (.loop c_ref09_SolveL2_0))) c_ref09_Solve_10
abbrev c_ref09_Solve_8 : SC := .seq (.reg [o 77 (.fadr (.t 4) 0), o 78 (.ld (.t 77) 1 false), o 79 (.mks (.t 78) 1 [I 0]), o 14 (.mv (.t 79))]) c_ref09_Solve_9
abbrev c_ref09_Solve_7 : SC := .seq (.seq (.reg [o 60 (.mv (.t 12)), o 61 (.len (.t 60)), o 13 (.mv (.t 61))]) (.block 2 (.loop c_ref09_SolveL1_0))) c_ref09_Solve_8
abbrev c_ref09_Solve_6 : SC := .fz [9] (.seq (.reg [o 53 (.ld (.t 3) 3 true), o 54 (.mv (.t 9)), o 55 (.fadr (.t 4) 0), o 56 (.ld (.t 55) 1 false), o 57 (.call (.f n_ref09_Eliminate) [.t 53, .t 54, .t 56]), o 52 (.mv (.t 57)), o 58 (.ext (.t 52) 0), o 59 (.ext (.t 52) 1), o 11 (.mv (.t 58)), o 12 (.mv (.t 59))]) c_ref09_Solve_7)
abbrev c_ref09_Solve_5 : SC := .seq (.seq (.reg [o 10 (.mv (ki 0))]) (.block 0 (.loop c_ref09_SolveL0_0))) c_ref09_Solve_6
abbrev c_ref09_Solve_4 : SC := .seq (.reg [o 9 (.mv (.k .nils))]) c_ref09_Solve_5
abbrev c_ref09_Solve_3 : SC := .seq (.seq (.reg [o 27 (.mv (.t 8)), o 28 (.bin .neq (.t 27) (ki 0))]) (.cond (.t 28) (.seq (.reg [o 29 (.mv (.t 8)), o 6 (.mv (.k .nils)), o 7 (.mv (.t 29))]) .ret) .skip)) c_ref09_Solve_4
abbrev c_ref09_Solve_2 : SC := .seq (.seq (.reg [o 19 (.mv (.t 8)), o 20 (.bin .eql (.t 19) (ki 0))]) (.cond (.t 20) (.reg [o 21 (.ld (.t 3) 3 true), o 22 (.mv (.t 2)), o 23 (.fadr (.t 4) 1), o 24 (.ld (.t 23) 1 false), o 25 (.len (.t 24)), o 26 (.call (.f n_ref09_Vector) [.t 21, .t 22, .t 25]), o 8 (.mv (.t 26))]) .skip)) c_ref09_Solve_3
abbrev c_ref09_Solve_1 : SC := .seq (.reg [o 16 (.ld (.t 3) 3 true), o 17 (.ld (.t 4) 2 true), o 18 (.call (.f n_ref09_Check) [.t 16, .t 17]), o 8 (.mv (.t 18))]) c_ref09_Solve_2
abbrev c_ref09_Solve_0 : SC := .seq (.reg [o 3 (.box (.t 0)), o 4 (.box (.t 1)), o 6 (.mv (.k .nils)), o 7 (.mv (ki 0))]) c_ref09_Solve_1
theorem cf_ref09_Solve : cfun Go.Proofs.Try.prog md n_ref09_Solve = some ⟨3, 101, c_ref09_Solve_0.erase, [.t 6, .t 7]⟩ := by kernel_rfl
-- ref09_Pick
abbrev c_ref09_PickL0_2 : SC := (.reg [o 14 (.mv (.t 6)), o 15 (.bin .add (.t 14) (ki 1)), o 6 (.mv (.t 15))])
abbrev c_ref09_PickL0_1 : SC := .seq (.block 1 (.reg [o 16 (.mv (.t 5)), o 17 (.mv (.t 6)), o 18 (.mv (.t 0)), o 19 (.mv (.t 1)), o 20 (.mv (.t 6)), o 21 (.iadr (.t 19) (.t 20) 1), o 22 (.ld (.t 21) 1 false), o 23 (.iadr (.t 18) (.t 22) 1), o 24 (.ld (.t 23) 1 false), o 25 (.iadr (.t 16) (.t 17) 1), os (.st (.t 25) (.t 24) 1)])) c_ref09_PickL0_2
abbrev c_ref09_PickL0_0 : SC := .seq (.seq (.reg [o 10 (.mv (.t 6)), o 11 (.mv (.t 1)), o 12 (.len (.t 11)), o 13 (.bin .lss (.t 10) (.t 12))]) (.cond (.t 13) .skip (.exit 0))) c_ref09_PickL0_1
abbrev c_ref09_Pick_4 : SC := .ret
abbrev c_ref09_Pick_3 : SC := .seq (.reg [o 26 (.mv (.t 5)), o 4 (.mv (.t 26))]) c_ref09_Pick_4
abbrev c_ref09_Pick_2 : SC := .seq (.seq (.reg [o 6 (.mv (ki 0))]) (.block 0 (.loop c_ref09_PickL0_0))) c_ref09_Pick_3
abbrev c_ref09_Pick_1 : SC := .seq (.reg [o 7 (.mv (.t 1)), o 8 (.len (.t 7)), o 9 (.mks (.t 8) 1 [I 0]), o 5 (.mv (.t 9))]) c_ref09_Pick_2
abbrev c_ref09_Pick_0 : SC := .seq (.reg [o 4 (.mv (.k .nils))]) c_ref09_Pick_1
theorem cf_ref09_Pick : cfun Go.Proofs.Try.prog md n_ref09_Pick = some ⟨2, 27, c_ref09_Pick_0.erase, [.t 4]⟩ := by kernel_rfl
-- ref09_Null
abbrev c_ref09_NullL0_2 : SC := (.reg [o 28 (.mv (.t 10)), o 29 (.bin .add (.t 28) (ki 1)), o 10 (.mv (.t 29))])
abbrev c_ref09_NullL0_1 : SC := .seq (.block 1 (.reg [o 30 (.mv (.t 9)), o 31 (.mv (.t 10)), o 32 (.iadr (.t 30) (.t 31) 1), os (.st (.t 32) (ki (-1)) 1)])) c_ref09_NullL0_2
abbrev c_ref09_NullL0_0 : SC := .seq (.seq (.reg [o 25 (.mv (.t 10)), o 26 (.mv (.t 2)), o 27 (.bin .lss (.t 25) (.t 26))]) (.cond (.t 27) .skip (.exit 0))) c_ref09_NullL0_1
abbrev c_ref09_NullL1_2 : SC := (.reg [o 37 (.mv (.t 11)), o 38 (.bin .add (.t 37) (ki 1)), o 11 (.mv (.t 38))])
abbrev c_ref09_NullL1_1 : SC := .seq (.block 3 (.reg [o 39 (.mv (.t 9)), o 40 (.mv (.t 8)), o 41 (.mv (.t 11)), o 42 (.iadr (.t 40) (.t 41) 1), o 43 (.ld (.t 42) 1 false), o 44 (.mv (.t 11)), o 45 (.iadr (.t 39) (.t 43) 1), os (.st (.t 45) (.t 44) 1)])) c_ref09_NullL1_2
abbrev c_ref09_NullL1_0 : SC := .seq (.seq (.reg [o 33 (.mv (.t 11)), o 34 (.mv (.t 8)), o 35 (.len (.t 34)), o 36 (.bin .lss (.t 33) (.t 35))]) (.cond (.t 36) .skip (.exit 2))) c_ref09_NullL1_1
abbrev c_ref09_NullL3_2 : SC := (.reg [o 65 (.mv (.t 15)), o 66 (.bin .add (.t 65) (ki 1)), o 15 (.mv (.t 66))])
abbrev c_ref09_NullL3_1 : SC := .seq (.block 7 (.reg [o 67 (.mv (.t 14)), o 68 (.mv (.t 8)), o 69 (.mv (.t 15)), o 70 (.iadr (.t 68) (.t 69) 1), o 73 (.mv (.t 7)), o 74 (.mv (.t 15)), o 75 (.iadr (.t 73) (.t 74) 1), o 77 (.mv (.t 13)), o 71 (.ld (.t 70) 1 false), o 72 (.ld (.t 3) 3 true), o 76 (.ld (.t 75) 1 false), o 78 (.iadr (.t 76) (.t 77) 1), o 79 (.ld (.t 78) 1 false), om 1 80 (.call (.f n_ref04_Neg) [.t 72, .t 79]), o 81 (.iadr (.t 67) (.t 71) 1), os (.st (.t 81) (.t 80) 1)])) c_ref09_NullL3_2
abbrev c_ref09_NullL3_0 : SC := .seq (.seq (.reg [o 61 (.mv (.t 15)), o 62 (.mv (.t 8)), o 63 (.len (.t 62)), o 64 (.bin .lss (.t 61) (.t 63))]) (.cond (.t 64) .skip (.exit 6))) c_ref09_NullL3_1
abbrev c_ref09_NullL2_2 : SC := (.reg [o 49 (.mv (.t 13)), o 50 (.bin .add (.t 49) (ki 1)), o 13 (.mv (.t 50))])
abbrev c_ref09_NullL2_1 : SC := .seq (.block 5 (.seq (.seq (.reg [o 51 (.mv (.t 9)), o 52 (.mv (.t 13)), o 53 (.iadr (.t 51) (.t 52) 1), o 54 (.ld (.t 53) 1 false), o 55 (.bin .geq (.t 54) (ki 0))]) (.cond (.t 55) (.exit 5) .skip)) (.seq (.reg [o 56 (.mv (.t 2)), o 57 (.mks (.t 56) 1 [I 0]), o 14 (.mv (.t 57))]) (.seq (.reg [o 58 (.mv (.t 14)), o 59 (.mv (.t 13)), o 60 (.iadr (.t 58) (.t 59) 1), os (.st (.t 60) (ki 1) 1)]) (.seq (.seq (.reg [o 15 (.mv (ki 0))]) (.block 6 (.loop c_ref09_NullL3_0))) (.reg [o 82 (.mv (.t 12)), o 83 (.mv (.t 14)), o 84 (.mkl 1 1 [.nils] [(0, (1, .t 83))]), o 85 (.app (.t 82) (.t 84) 1), o 12 (.mv (.t 85))])))))) c_ref09_NullL2_2
abbrev c_ref09_NullL2_0 : SC := .seq (.seq (.reg [o 46 (.mv (.t 13)), o 47 (.mv (.t 2)), o 48 (.bin .lss (.t 46) (.t 47))]) (.cond (.t 48) .skip (.exit 4))) c_ref09_NullL2_1
abbrev c_ref09_Null_9 : SC := .ret
abbrev c_ref09_Null_8 : SC := .seq (.reg [o 93 (.mv (.t 12)), o 6 (.mv (.t 93))]) c_ref09_Null_9
abbrev c_ref09_Null_7 : SC := .fz [12] (.seq (.reg [o 87 (.ld (.t 3) 3 true), o 88 (.mv (.t 12)), o 89 (.mv (.t 2)), o 90 (.call (.f n_ref09_Canon) [.t 87, .t 88, .t 89]), o 86 (.mv (.t 90)), o 91 (.ext (.t 86) 0), o 92 (.ext (.t 86) 1), o 12 (.mv (.t 91))]) c_ref09_Null_8)
abbrev c_ref09_Null_6 : SC := .seq (.seq (.reg [o 13 (.mv (ki 0))]) (.block 4 (.loop c_ref09_NullL2_0))) c_ref09_Null_7
abbrev c_ref09_Null_5 : SC := .seq (.reg [o 12 (.mv (.k .nils))]) c_ref09_Null_6
abbrev c_ref09_Null_4 : SC := .seq (.seq (.reg [o 11 (.mv (ki 0))]) (.block 2 (.loop c_ref09_NullL1_0))) c_ref09_Null_5
abbrev c_ref09_Null_3 : SC := .seq (.seq (.reg [o 10 (.mv (ki 0))]) (.block 0 (.loop c_ref09_NullL0_0))) c_ref09_Null_4
abbrev c_ref09_Null_2 : SC := .seq (.reg [o 23 (.mv (.t 2)), o 24 (.mks (.t 23) 1 [I 0]), o 9 (.mv (.t 24))]) c_ref09_Null_3
abbrev c_ref09_Null_1 : SC := .seq (.reg [o 17 (.ld (.t 3) 3 true), o 18 (.mv (.t 1)), o 19 (.mv (.t 2)), o 20 (.call (.f n_ref09_Canon) [.t 17, .t 18, .t 19]), o 16 (.mv (.t 20)), o 21 (.ext (.t 16) 0), o 22 (.ext (.t 16) 1), o 7 (.mv (.t 21)), o 8 (.mv (.t 22))]) c_ref09_Null_2
abbrev c_ref09_Null_0 : SC := .seq (.reg [o 3 (.box (.t 0)), o 6 (.mv (.k .nils))]) c_ref09_Null_1
theorem cf_ref09_Null : cfun Go.Proofs.Try.prog md n_ref09_Null = some ⟨3, 94, c_ref09_Null_0.erase, [.t 6]⟩ := by kernel_rfl
-- ref09_Kernel
abbrev c_ref09_Kernel_4 : SC := .ret
abbrev c_ref09_Kernel_3 : SC := .seq (.reg [o 14 (.fadr (.t 3) 0), o 17 (.fadr (.t 3) 1), o 19 (.fadr (.t 3) 0), o 15 (.ld (.t 14) 1 false), o 16 (.ld (.t 2) 3 true), o 18 (.ld (.t 17) 1 false), o 20 (.ld (.t 19) 1 false), om 1 21 (.call (.f n_ref09_Null) [.t 16, .t 18, .t 20]), o 22 (.build [I 0, .nils] [(0, (1, .t 15)), (1, (1, .t 21))]), os (.st (.t 4) (.t 22) 2), o 5 (.mv (ki 0))]) c_ref09_Kernel_4
abbrev c_ref09_Kernel_2 : SC := .seq (.seq (.reg [o 10 (.mv (.t 6)), o 11 (.bin .neq (.t 10) (ki 0))]) (.cond (.t 11) (.seq (.reg [o 12 (.build [I 0, .nils] []), o 13 (.mv (.t 6)), os (.st (.t 4) (.t 12) 2), o 5 (.mv (.t 13))]) .ret) .skip)) c_ref09_Kernel_3
abbrev c_ref09_Kernel_1 : SC := .seq (.reg [o 7 (.ld (.t 2) 3 true), o 8 (.ld (.t 3) 2 true), o 9 (.call (.f n_ref09_Check) [.t 7, .t 8]), o 6 (.mv (.t 9))]) c_ref09_Kernel_2
abbrev c_ref09_Kernel_0 : SC := .seq (.reg [o 2 (.box (.t 0)), o 3 (.box (.t 1)), o 4 (.new [I 0, .nils]), o 5 (.mv (ki 0))]) c_ref09_Kernel_1
theorem cf_ref09_Kernel : cfun Go.Proofs.Try.prog md n_ref09_Kernel = some ⟨2, 23, c_ref09_Kernel_0.erase, [.c 4 2 true, .t 5]⟩ := by kernel_rfl
end Go.AM.Ytmihmgnjnedfcab
end

section
/- Contracts of functions: the reference's Vector, Pick, Solve. -/
set_option maxRecDepth 100000
set_option linter.unusedSimpArgs false
set_option linter.unusedVariables false
namespace Go.AM.Ytmihmgnjnedfcab
open Go Go.AM
attribute [local simp ↓] awp_seq awp_reg awp_skip awp_cond' awp_block awp_exit awp_ret awp_fz thenW_normal thenW_exit thenW_ret inBlk_normal inBlk_exit inBlk_ret aops_cons' contA_ap aops_nil e_mv e_guard' e_pick' e_ld' e_app e_cpy e_st' e_call callW_f updO_some updO_none e_bin' e_isnil' e_fadr' e_iadr' e_iarr' e_len' e_build' e_mkf' e_nc' e_not' e_neg' e_cvt' e_slc' e_fld' e_ext' e_min' e_eqs' e_new e_box e_mkl e_mks
attribute [local simp] upd_apply ev_t ev_k ev_f binA_add binA_sub binA_mul binA_quo binA_rem binA_eql binA_neq binA_lss binA_leq binA_gtr binA_geq det mem frame0 keeps_nil iadrA_sl fadrA_ref fadrA_fp ldv_agg ldv_one cells_base hset_same hset_hset lenA_fs lenA_sl lenA_nils zeros_ints ints_length one_base one_nilp one_nils one_ref one_sl one_fp one_fs one_fn gl_one resA resOf bound natOf afill splice AV.cells cells_agg bindR_some condR_true condR_false guardR_tup guardR_true guardR_true' guardR_false guardR_false' allocW_some pickA_true pickA_false
open Go.FM

/-- A row beside growing rows, after other blocks were made. -/
theorem GrM.newK {h h' H : Hp} {v : AV} {L : List (List Int)} {b : Nat} {l : List Int} (g : GrM h h' v L) (k : Kp h' H) (hb : h' b = none) (hH : H b = some (ints l)) : GrP h H v L b l := by
  obtain ⟨F, bs, o, r⟩ := g
  refine ⟨F, bs, ⟨fun c xs hc => ?_, o.2.1, ?_⟩, r, o.kp.no hb⟩
  · by_cases e : c = b
    · subst e; rw [hset_same] at hc; rw [← hc]; exact hH
    · rw [hset_ne _ _ e] at hc; exact k _ _ (o.kp _ _ hc)
  · rcases o.2.2 with hh | ⟨h1, o', h2, h3, h4⟩
    · exact .inl hh
    · refine .inr ⟨h1, o', h2, k _ _ h3, ?_⟩
      have : o' ≠ b := fun e => by rw [e, hb] at h3; cases h3
      rw [hset_ne _ _ this]; exact h4
/-- To a live slice more is appended. -/
theorem app_live {h : Hp} {b : Nat} {x : AV} {l l2 : List Int} {R : AV → Hp → Prop} (hb : h b = some (ints l)) (hx : readS h x 1 = some (l2.length, ints l2)) (hl : l.length + l2.length ≤ 4294967296)
    (k : ∀ b', (b' = b ∨ h b' = none) → R (.sl b' 0 (l.length + l2.length) 1) (hset h b' (ints (l ++ l2)))) : appW (.sl b 0 l.length 1) x 1 h R := by
  unfold appW
  rw [hx]
  simp only [hb]
  refine ⟨trivial, trivial, by rw [ints_length, Nat.mul_one], hl, fun b' hb' => ?_⟩
  rw [← ints_append]
  exact k b' hb'

theorem s_refEnt {D : Ds} (r : Rg D) {mv v : AV} (hone : one mv = true) {l : List Int} (hv : IL v l) (hl : l.length < 4611686018427387904) : Pure prog n_ref09_Entries [.agg [I D.p, I D.m, mv], v] (I (entE D l)) := by
  obtain ⟨e, he1, he2, hen⟩ := s_Entries r hone hv hl
  have : entE D l = e := by
    unfold entE
    split
    · rename_i h; exact (he2.2 h).symm
    · rename_i h
      rcases he1 with he1 | he1
      · exact absurd (he2.1 he1) h
      · exact he1.symm
  rw [this]; exact hen
noncomputable def vctE (D : Ds) (l : List Int) (n : Int) : Int := if (l.length : Int) ≠ n then 3 else entE D l
theorem s_Vector {D : Ds} (r : Rg D) {mv v : AV} (hone : one mv = true) {l : List Int} (hv : IL v l) (hl : l.length < 4611686018427387904) (n : Int) : Pure prog n_ref09_Vector [.agg [I D.p, I D.m, mv], v, I n] (I (vctE D l n)) := by
  refine pure_of cf_ref09_Vector rfl fun h => ?_
  have hen := s_refEnt r hone hv hl
  unfold vctE
  generalize entE D l = e at *
  simp [hone]
  intro b3 hb3
  obtain ⟨_, _, _, l3⟩ := ld3_at (hset_same h b3 [I D.p, I D.m, mv])
  have hkg : Kp h (hset h b3 [I D.p, I D.m, mv]) := (Kp.refl h).new hb3 _
  generalize hset h b3 [I D.p, I D.m, mv] = g at *
  by_cases hn : (l.length : Int) = n
  · simp [hv.len, hn, l3]
    refine hen.call ?_
    simp
    exact ⟨_, hkg.sub, .id _, rfl⟩
  · simp [hv.len, hn]
    exact ⟨_, hkg.sub, .id _, rfl⟩

/-- The entries at places, filled as far as k. -/
def pkK (a s : List Int) : Nat → List Int
  | 0 => List.replicate s.length 0
  | k + 1 => (pkK a s k).set k (a.getD (s.getD k 0).toNat 0)
theorem pkK_len (a s : List Int) : ∀ k, (pkK a s k).length = s.length
  | 0 => by simp [pkK]
  | k + 1 => by simp only [pkK, List.length_set, pkK_len]
theorem pkK_get (a s : List Int) {i : Nat} : ∀ k, i < k → k ≤ s.length → (pkK a s k).getD i 0 = a.getD (s.getD i 0).toNat 0
  | 0, h, _ => by omega
  | k + 1, h, hk => by
    simp only [pkK]
    rw [getD_set]
    by_cases e : i = k
    · subst e
      rw [if_pos ⟨rfl, by rw [pkK_len]; omega⟩]
    · rw [if_neg (by omega)]; exact pkK_get a s k (by omega) (by omega)
theorem int_ext {l l' : List Int} (h : l.length = l'.length) (hx : ∀ i, i < l.length → l.getD i 0 = l'.getD i 0) : l = l' := by
  refine List.ext_getElem h fun i h1 h2 => ?_
  have := hx i h1
  simpa [List.getD, h1, h2] using this
theorem pkK_eq (a s : List Int) : pkK a s s.length = s.map fun x => a.getD x.toNat 0 := by
  refine int_ext (by rw [pkK_len, List.length_map]) fun i hi => ?_
  rw [pkK_len] at hi
  rw [pkK_get a s _ hi (Nat.le_refl _), map_getD' _ _ i 0 0 hi]

theorem s_Pick {v w : AV} {a s : List Int} (hv : IL v a) (hw : IL w s) (hsl : s.length ≤ 4294967296) (hb : ∀ x ∈ s, 0 ≤ x ∧ x < a.length) : Pure prog n_ref09_Pick [v, w] (.fs s.length (ints (s.map fun x => a.getD x.toNat 0))) := by
  refine pure_of cf_ref09_Pick rfl fun h => ?_
  have hsl' : (s.length : Int) ≤ 4294967296 := by omega
  rw [← pkK_eq]
  simp [hw.len, hsl']
  intro b5 hb5
  refine awp_for s.length (fun k fr' h' => Kp h h' ∧ h' b5 = some (ints (pkK a s k)) ∧ fr' 6 = I k) ⟨(Kp.refl h).new hb5 _, by rw [hset_same]; rfl, by simp⟩ ?_
  intro k fr' h' hkn hk ⟨hkp, hbk, k6⟩
  have k0 := hk 0 (by decide)
  have k1 := hk 1 (by decide)
  have k5 := hk 5 (by decide)
  simp at k0 k1 k5
  clear hk
  by_cases hlt : k < s.length
  · have u1 : IntKind.i64.wrap ((k : Int) + 1) = k + 1 := w64 _ (by omega)
    have hx := hb _ (mem_getD (d := 0) hlt)
    have hiw := hw.iadr (i := k) ⟨by omega, by omega⟩
    rw [Int.toNat_natCast] at hiw
    have hlw := fun h' => ld_ints (h := h') (l := s) (k := k) (by omega)
    have hia := hv.iadr hx
    have hla := fun h' => ld_ints (h := h') (l := a) (k := (s.getD k 0).toNat) (by omega)
    have hst := fun R => sr_ints (R := R) (v := a.getD (s.getD k 0).toNat 0) hbk (k := k) (by rw [pkK_len]; exact hlt)
    have hpk : pkK a s (k + 1) = (pkK a s k).set k (a.getD (s.getD k 0).toNat 0) := rfl
    rw [← hpk] at hst
    generalize a.getD (s.getD k 0).toNat 0 = z at *
    generalize s.getD k 0 = y at *
    simp [k0, k1, k5, k6, hw.len, hlt, hiw, hlw, hia, hla, hst, u1]
    exact hkp.set hb5 _
  · have : k = s.length := by omega
    subst this
    simp [k1, k5, k6, hw.len]
    exact ret_blk hbk hb5 hkp (by rw [ints_length, pkK_len]; omega) rfl

set_option maxHeartbeats 4000000 in
theorem s_refSolve {p m : Int} {mv v bv : AV} {mo : List Int} (hmv : IL mv mo) (hml : mo.length < 4611686018427387904) {c : Int} {L : List (List Int)} (hv : ML v L) (hs : MSm L) {b : List Int} (hb : IL bv b) (hbl : b.length < 4611686018427387904) :
    Pure prog n_ref09_Solve [.agg [I p, I m, mv], .agg [I c, v], bv] (solR p m mo c L b) := by
  classical
  refine pure_of cf_ref09_Solve rfl fun h => ?_
  have hone := hmv.one
  have hone2 := hv.one
  unfold c_ref09_Solve_0 c_ref09_Solve_1
  generalize hC : c_ref09_Solve_2 = C2
  simp [hone, hone2]
  intro b3 hb3 b4 hb4
  obtain ⟨g3, g4, hk⟩ := two_boxes (ys := [I c, v]) hb3 hb4
  generalize hset (hset h b3 [I p, I m, mv]) b4 [I c, v] = g at *
  obtain ⟨_, _, _, l3⟩ := ld3_at g3
  have l4 := lq_both g4
  have l40 := lq_fst g4
  have l41 := lq_snd g4
  simp [l3, l4]
  refine (s_ref09Check (p := p) (m := m) hmv hml (c := c) hv hs).call ?_
  have bad : ∀ e h', Kp h h' → solE p m mo c L b = e → e ≠ 0 → RetP h (solR p m mo c L b) (.tup [.nils, I e]) h' := fun e h' hk he h0 => by
    rw [solR, if_neg (by rw [he]; exact h0), he]; exact ⟨_, hk.sub, .id _, rfl⟩
  by_cases he : openE p m mo [(c, L)] = 0
  case neg =>
    have hv : vecE p m mo c L b = openE p m mo [(c, L)] := by rw [vecE, if_pos he]
    have hb := bad _ _ hk (by rw [solE, if_pos (by rw [hv]; exact he), hv]) he
    generalize openE p m mo [(c, L)] = e at *
    simp
    subst hC
    simp [he]
    exact hb
  have hE2 : vecE p m mo c L b = vctE (mkD p m mo) b L.length := by rw [vecE, if_neg (by simpa using he)]; rfl
  obtain ⟨hf, n, rfl, hn, hLn, hM⟩ := openE_one he
  rw [he]
  have r := hf.fd
  have hmv2 : IL mv (mkD p m mo).mo := hmv
  have hvc := s_Vector r.toRg hone hb hbl L.length
  rw [hf.1.dp, hf.1.dm] at hvc
  simp
  subst hC
  unfold c_ref09_Solve_2
  generalize hC : c_ref09_Solve_3 = C3
  simp [l3, l41, hv.len]
  refine hvc.call ?_
  by_cases hen : vctE (mkD p m mo) b L.length = 0
  case neg =>
    have hb' := bad _ _ hk (by rw [solE, if_pos (by rw [hE2]; exact hen), hE2]) hen
    generalize vctE (mkD p m mo) b L.length = e at *
    simp
    subst hC
    simp [hen]
    exact hb'
  rw [hen]
  rw [hen] at hE2
  have hbL : b.length = L.length := by
    unfold vctE at hen
    split at hen
    · omega
    · omega
  have hbR : ∀ x ∈ b, (mkD p m mo).R x := by
    unfold vctE at hen
    rw [if_neg (by omega)] at hen
    unfold entE at hen
    split at hen
    · assumption
    · omega
  simp
  subst hC
  unfold c_ref09_Solve_3 c_ref09_Solve_4
  generalize hC : c_ref09_Solve_5 = C5
  simp
  subst hC
  unfold c_ref09_Solve_5
  generalize hC : c_ref09_Solve_6 = C6
  have hJl := augL_len hbL
  simp
  refine awp_for L.length (fun k fr' h' => GrM g h' (fr' 9) ((augL L b).take k) ∧ fr' 10 = I k) ⟨by simpa using GrM.nils g, by simp⟩ ?_
  intro k fr' h' hkn hk0 ⟨gm, k10⟩
  have k2 := hk0 2 (by decide)
  have k3 := hk0 3 (by decide)
  have k4 := hk0 4 (by decide)
  simp at k2 k3 k4
  clear hk0
  by_cases hlt : k < L.length
  · have u1 : IntKind.i64.wrap ((k : Int) + 1) = k + 1 := w64 _ (by omega)
    have hlt' : (k : Int) < L.length := by omega
    obtain ⟨pa, row, hpa, hpl, hrow⟩ := hv.rd hlt
    have hib := hb.iadr (i := k) ⟨by omega, by omega⟩
    rw [Int.toNat_natCast] at hib
    have hldb := fun h' => ld_ints (h := h') (l := b) (k := k) (by omega)
    have hJk := augL_get hbL hlt
    have hrl : (L.getD k []).length = n := hM.len hlt
    have htl : ((augL L b).take k).length = k := by rw [List.length_take]; omega
    have l41' := lq_snd (gm.kp _ _ g4)
    rw [take_getD (d := []) (by omega), hJk]
    generalize L.getD k [] = rl at *
    generalize b.getD k 0 = xk at *
    simp [k2, k4, k10, hb.len, hbL, hlt, hlt', l41', hpa, hpl, hib, hldb]
    intro b12 hb12
    refine app_empty (hset_same ..) hrow (by omega) fun b' hb' => ?_
    have hb2 : h' b' = none := by
      rcases hb' with rfl | hb'
      · exact hb12
      · by_cases e : b' = b12
        · rw [e]; exact hb12
        · rwa [hset_ne _ _ e] at hb'
    simp
    have hK1 : Kp h' (hset (hset h' b12 []) b' (ints rl)) := ((Kp.refl h').set hb12 _).set hb2 _
    have hH1 : (hset (hset h' b12 []) b' (ints rl)) b' = some (ints rl) := hset_same ..
    generalize hset (hset h' b12 []) b' (ints rl) = H1 at *
    intro b18 hb18
    have hK2 := hK1.set (hK1.no hb18) [I xk]
    have hne : b' ≠ b18 := fun e => by rw [e, hb18] at hH1; cases hH1
    have hH2 : (hset H1 b18 [I xk]) b' = some (ints rl) := by rw [hset_ne _ _ hne]; exact hH1
    have hrd : readS (hset H1 b18 [I xk]) (.sl b18 0 1 1) 1 = some (([xk] : List Int).length, ints [xk]) := readS_new rfl
    generalize hset H1 b18 [I xk] = H2 at *
    refine app_live hH2 hrd (by simp; omega) fun b2 hb2' => ?_
    have hb3' : h' b2 = none := by
      rcases hb2' with rfl | e
      · exact hb2
      · exact hK2.no e
    have gp := gm.newK (hK2.set hb3' (ints (rl ++ [xk]))) hb3' (hset_same ..)
    have hll : (rl ++ [xk]).length = rl.length + 1 := by simp
    have gpa := fun R b19 hb19 k => gp.app (R := R) (b2 := b19) hb19 (by omega) k
    rw [hll] at gpa
    simp
    intro b19 hb19
    refine gpa _ _ hb19 fun v' h3 g3 => ?_
    simp [k10, u1]
    exact g3
  have hkL : k = L.length := by omega
  subst hkL
  rw [List.take_of_length_le (by omega)] at gm
  have hJM : Mat (mkD p m mo) (n + 1) (augL L b) := joinL_mat (by simp [hbL]) hM fun row hr => by
    obtain ⟨x, hx, rfl⟩ := List.mem_map.1 hr
    exact ⟨rfl, fun y hy => by rw [List.mem_singleton] at hy; rw [hy]; exact hbR x hx⟩
  have r2 : Mat (mkD p m mo) (n + 1) (augL L b) := hJM
  have hA : elim (mkD p m mo) (augL L b) n = elimA (mkD p m mo) L b n := rfl
  have hsX : solX (mkD p m mo) L b n = solK (elimA (mkD p m mo) L b n).L (elimA (mkD p m mo) L b n).pv n (elimA (mkD p m mo) L b n).pv.length := rfl
  have hE3 : solE p m mo n L b = if ∃ i, (elimA (mkD p m mo) L b n).pv.length ≤ i ∧ i < L.length ∧ ((elimA (mkD p m mo) L b n).L.getD i []).getD n 0 ≠ 0 then 11 else 0 := by
    rw [solE, if_neg (by rw [hE2]; omega), Int.toNat_natCast]
  have hgood : (¬ ∃ i, (elimA (mkD p m mo) L b n).pv.length ≤ i ∧ i < L.length ∧ ((elimA (mkD p m mo) L b n).L.getD i []).getD n 0 ≠ 0) → solR p m mo n L b = .tup [.fs n (ints (solX (mkD p m mo) L b n)), I 0] := fun hh => by
    rw [solR, if_pos (by rw [hE3, if_neg hh]), Int.toNat_natCast]
  rw [hsX] at hgood
  have hes := elim_spec (F := ⟨mkD p m mo, r⟩) hJM n
  rw [hA] at hes
  have hrk := hes.red.le
  rw [hJl] at hrk
  have hplt := hes.lt
  have hmE : Mat (mkD p m mo) (n + 1) (elimA (mkD p m mo) L b n).L := hJM.elim r.toOk n
  have hln : (elimA (mkD p m mo) L b n).L.length = L.length := by rw [← hA, elim_len, hJl]
  have hrow : ∀ i, i < L.length → ((elimA (mkD p m mo) L b n).L.getD i []).length = n + 1 := fun i hi => hmE.len (by omega)
  have hel : ∀ w, ML w (augL L b) → Pure prog n_ref09_Eliminate [.agg [I p, I m, mv], w, I n] (.tup [gml (elimA (mkD p m mo) L b n).L, gil (up (elimA (mkD p m mo) L b n).pv)]) := fun w hw => by
    have := s_refEliminate r hmv2 hw hJM (by omega) (by omega) (show n ≤ n + 1 by omega)
    rw [hf.1.dp, hf.1.dm] at this
    exact this
  have hpI := gil_IL (up (elimA (mkD p m mo) L b n).pv)
  have hpl : (up (elimA (mkD p m mo) L b n).pv).length = (elimA (mkD p m mo) L b n).pv.length := by simp [up]
  have hLV := ML_gml (elimA (mkD p m mo) L b n).L
  clear hes hA hsX hmE
  generalize elimA (mkD p m mo) L b n = ES at *
  obtain ⟨LE, pv, dt⟩ := ES
  simp only at *
  have hpo := hpI.len
  rw [hpl] at hpo
  generalize gil (up pv) = PV at *
  generalize gml LE = LV at *
  have hlo := hLV.len
  rw [hln] at hlo
  obtain ⟨v2, hsub, hfz, hv2⟩ := gm.ret (Kp.refl g)
  simp [k2, k10, hb.len, hbL]
  subst hC
  unfold c_ref09_Solve_6
  generalize hC : c_ref09_Solve_7 = C7
  simp
  refine ⟨g, [v2], hsub, ⟨by simpa using hfz, trivial⟩, ?_⟩
  subst hv2
  have hMv := ML_gml (augL L b)
  generalize gml (augL L b) = w at *
  simp [updL, k3, k4, l3, l40]
  refine (hel w hMv).call ?_
  simp
  subst hC
  unfold c_ref09_Solve_7
  generalize hC : c_ref09_Solve_8 = C8
  simp [hpo]
  refine awp_for (L.length - pv.length) (fun i fr' h' => h' = g ∧ fr' 13 = I ((pv.length + i : Nat) : Int) ∧ ∀ j, pv.length ≤ j → j < pv.length + i → (LE.getD j []).getD n 0 = 0) ⟨rfl, by simp, fun j h1 h2 => by omega⟩ ?_
  intro i fr2 h3 hin hk1 ⟨hh, k13, hz⟩
  subst hh
  have m4 := hk1 4 (by decide)
  have m11 := hk1 11 (by decide)
  have m12 := hk1 12 (by decide)
  simp [k4] at m4 m11 m12
  clear hk1
  by_cases hlt2 : i < L.length - pv.length
  · have u1 : IntKind.i64.wrap (((pv.length + i : Nat) : Int) + 1) = ((pv.length + (i + 1) : Nat) : Int) := by rw [w64 _ (by omega)]; omega
    have hi2 : pv.length + i < LE.length := by omega
    obtain ⟨pa, row, hpa, hpl2, hrow2⟩ := hLV.rd hi2
    have hrl := hrow (pv.length + i) (by omega)
    have hia := hrow2.iadr (i := n) ⟨by omega, by omega⟩
    rw [Int.toNat_natCast] at hia
    have hld := fun h' => ld_ints (h := h') (l := LE.getD (pv.length + i) []) (k := n) (by omega)
    have hbad2 := fun (hy : (LE.getD (pv.length + i) []).getD n 0 ≠ 0) => bad 11 h3 hk (by rw [hE3, if_pos ⟨pv.length + i, by omega, by omega, hy⟩]) (by omega)
    have hstep := fun (hy : (LE.getD (pv.length + i) []).getD n 0 = 0) => (fun j h1 h2 => by
      by_cases e : j = pv.length + i
      · rw [e]; exact hy
      · exact hz j h1 (by omega) : ∀ j, pv.length ≤ j → j < pv.length + (i + 1) → (LE.getD j []).getD n 0 = 0)
    have hlt3 : ((pv.length + i : Nat) : Int) < L.length := by omega
    generalize (LE.getD (pv.length + i) []).getD n 0 = y at *
    generalize LE.getD (pv.length + i) [] = rr at *
    generalize ((pv.length + i : Nat) : Int) = ii at *
    by_cases hy : y = 0
    · simp [m4, m11, k13, hlo, hlt3, hpa, hpl2, l40, hia, hld, hy, u1]
      exact ⟨hlt2, by simpa using hstep hy⟩
    · simp [m4, m11, k13, hlo, hlt3, hpa, hpl2, l40, hia, hld, hy]
      exact hbad2 hy
  have hil : i = L.length - pv.length := by omega
  have hnone : ¬ ∃ i, pv.length ≤ i ∧ i < L.length ∧ (LE.getD i []).getD n 0 ≠ 0 := by
    rintro ⟨j, h1, h2, h3⟩
    exact h3 (hz j h1 (by omega))
  rw [hgood hnone]
  have hlt3 : ¬ ((pv.length + i : Nat) : Int) < L.length := by omega
  generalize ((pv.length + i : Nat) : Int) = ii at *
  simp [m11, k13, hlo, hlt3]
  subst hC
  unfold c_ref09_Solve_8 c_ref09_Solve_9
  generalize hC : c_ref09_Solve_10 = C10
  have hn' : (n : Int) ≤ 4294967296 := by omega
  simp [m4, l40, hn']
  intro b90 hb90
  refine awp_for pv.length (fun i fr' h' => Kp h3 h' ∧ h' b90 = some (ints (solK LE pv n i)) ∧ fr' 15 = I i) ⟨(Kp.refl _).new hb90 _, by rw [hset_same]; rfl, by simp⟩ ?_
  clear hin k13 hlt2 hil hlt3 hz
  intro i fr3 h4 hin hk1 ⟨hkp, hbx, k15⟩
  have z4 := hk1 4 (by decide)
  have z11 := hk1 11 (by decide)
  have z12 := hk1 12 (by decide)
  have z14 := hk1 14 (by decide)
  simp [m4, m11, m12] at z4 z11 z12 z14
  clear hk1
  by_cases hlt2 : i < pv.length
  · have u1 : IntKind.i64.wrap ((i : Int) + 1) = i + 1 := w64 _ (by omega)
    have hi2 : i < LE.length := by omega
    obtain ⟨pa, row, hpa, hpl2, hrow2⟩ := hLV.rd hi2
    have hrl := hrow i (by omega)
    have hia := hrow2.iadr (i := n) ⟨by omega, by omega⟩
    rw [Int.toNat_natCast] at hia
    have hld := fun h' => ld_ints (h := h') (l := LE.getD i []) (k := n) (by omega)
    have l40'' := lq_fst (hkp _ _ g4)
    have hpi := hpI.iadr (i := i) ⟨by omega, by omega⟩
    rw [Int.toNat_natCast] at hpi
    have hpd := fun h' => ld_ints (h := h') (l := up pv) (k := i) (by omega)
    have hpg : (up pv).getD i 0 = (pv.getD i 0 : Nat) := map_getD' Int.ofNat pv i 0 0 hlt2
    have hpb : pv.getD i 0 < n := hplt _ (mem_getD hlt2)
    have hst := fun R => sr_ints (R := R) (v := (LE.getD i []).getD n 0) hbx (k := pv.getD i 0) (by rw [solK_len]; exact hpb)
    have hsk : solK LE pv n (i + 1) = (solK LE pv n i).set (pv.getD i 0) ((LE.getD i []).getD n 0) := rfl
    rw [← hsk] at hst
    rw [hpg] at hpd
    have hpb' : (pv.getD i 0 : Int) < n := by omega
    generalize (LE.getD i []).getD n 0 = y at *
    generalize LE.getD i [] = rr at *
    generalize pv.getD i 0 = pi at *
    simp [z4, z11, z12, z14, k15, hpo, hlt2, hpi, hpd, hpa, hpl2, l40'', hia, hld, hpb, hpb', hst, u1]
    exact hkp.set hb90 _
  · have : i = pv.length := by omega
    subst this
    simp [z12, k15, hpo]
    subst hC
    simp [z14]
    refine RetP.tup (hk.trans hkp).sub rfl (frz2 ?_ (.id _))
    exact Frz.slk hbx (hk.no hb90) (by rw [ints_length, solK_len]; omega)
end Go.AM.Ytmihmgnjnedfcab
end
