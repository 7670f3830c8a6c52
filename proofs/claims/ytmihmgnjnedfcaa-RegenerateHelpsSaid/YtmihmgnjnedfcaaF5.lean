/- Contracts of functions: shape, New. -/
import Derived.Test.YtmihmgnjnedfcaaF4
set_option maxRecDepth 100000
set_option linter.unusedSimpArgs false
set_option linter.unusedVariables false
namespace Go.AM.Ytmihmgnjnedfcaa
open Go Go.AM
attribute [local simp ↓] awp_seq awp_reg awp_skip awp_cond awp_block awp_exit awp_ret awp_fz thenW_normal thenW_exit thenW_ret inBlk_normal inBlk_exit inBlk_ret aops_cons aops_nil e_mv e_guard e_pick e_ld e_app e_cpy e_st e_call callW_f updO_some updO_none e_bin e_isnil e_fadr e_iadr e_iarr e_len e_build e_mkf e_nc e_not e_neg e_cvt e_slc e_fld e_ext e_min e_eqs e_new e_box e_mkl e_mks
attribute [local simp] upd_apply ev_t ev_k ev_f binA_add binA_sub binA_mul binA_quo binA_rem binA_eql binA_neq binA_lss binA_leq binA_gtr binA_geq det mem frame0 keeps_nil iadrA_sl fadrA_ref fadrA_fp ldv_agg ldv_one cells_base hset_same hset_hset lenA_fs lenA_sl lenA_nils zeros_ints ints_length one_base one_nilp one_nils one_ref one_sl one_fp one_fs one_fn gl_one resA resOf bound natOf afill splice AV.cells cells_agg bindW_some condW_true condW_false condW_dec condW_ndec guardW_tup guardW_true guardW_true' guardW_false guardW_false' allocW_some pickA_true pickA_false
open Go.FM

def mkD (p m : Int) (mo : List Int) : Ds := ⟨p.toNat, m.toNat, mo⟩

def ShapeP (p m : Int) (mo : List Int) : Prop := ordE p m ≠ 0 ∧ IsP p.toNat ∧ (if m = 1 then mo = [] else (mo.length : Int) = m ∧ ∀ c ∈ mo, 0 ≤ c ∧ c < p)

theorem ordE_ne {p m : Int} (h : ordE p m ≠ 0) : 2 ≤ p ∧ p ≤ 256 ∧ 1 ≤ m ∧ m ≤ 8 ∧ p ^ m.toNat ≤ 256 ∧ ordE p m = p ^ m.toNat := by
  unfold ordE at h ⊢
  split at h
  · rename_i hc
    rw [if_pos hc]
    exact ⟨hc.1, hc.2.1, hc.2.2.1, hc.2.2.2.1, hc.2.2.2.2, rfl⟩
  · exact (h rfl).elim

theorem ShapeP.dp {p m : Int} {mo : List Int} (h : ShapeP p m mo) : ((mkD p m mo).p : Int) = p := by have := ordE_ne h.1; simp [mkD]; omega
theorem ShapeP.dm {p m : Int} {mo : List Int} (h : ShapeP p m mo) : ((mkD p m mo).m : Int) = m := by have := ordE_ne h.1; simp [mkD]; omega
theorem ShapeP.dq {p m : Int} {mo : List Int} (h : ShapeP p m mo) : ((mkD p m mo).q : Int) = ordE p m := by
  have h1 := ordE_ne h.1
  rw [Ds.qI, h.dp, h1.2.2.2.2.2]
  rfl
theorem ShapeP.rg {p m : Int} {mo : List Int} (h : ShapeP p m mo) : Rg (mkD p m mo) := by
  have h1 := ordE_ne h.1
  have h2 := h.dp
  have h3 := h.dm
  have h4 := h.dq
  have h5 := h.2.2
  refine ⟨⟨⟨by omega, by omega⟩, ?_, ?_⟩, by omega⟩
  · by_cases hm : m = 1
    · rw [if_pos hm] at h5
      rw [if_pos (by omega)]
      simp [mkD, h5]
    · rw [if_neg hm] at h5
      rw [if_neg (by omega)]
      have := h5.1
      simp only [mkD]; omega
  · intro c hc
    rw [h2]
    by_cases hm : m = 1
    · rw [if_pos hm] at h5
      simp [mkD, h5] at hc
    · rw [if_neg hm] at h5
      exact h5.2 c hc

open Classical in
theorem s_shape (p m : Int) {mv : AV} {mo : List Int} (hmv : IL mv mo) (hml : mo.length < 4611686018427387904) : Pure prog n_field_shape [.agg [I p, I m, mv]] (B (decide (ShapeP p m mo))) := by
  refine pure_of cf_field_shape rfl fun h => ?_
  have hone := hmv.one
  simp [hone]
  intro b1 hb1
  obtain ⟨l0, l1, l2, l3⟩ := ld3_at (hset_same h b1 [I p, I m, mv])
  have hkg : Kp h (hset h b1 [I p, I m, mv]) := (Kp.refl h).new hb1 _
  generalize hset h b1 [I p, I m, mv] = g at *
  have fin : ∀ b : Bool, decide (ShapeP p m mo) = b → RetP h (B (decide (ShapeP p m mo))) (B b) g := fun b hb => hb ▸ ⟨_, hkg.sub, .id _, rfl⟩
  simp [l0, l1]
  refine (s_order p m).call ?_
  by_cases d0 : ordE p m = 0
  · simp [d0]
    exact fin false (decide_eq_false fun hs => hs.1 d0)
  have h1 := ordE_ne d0
  simp [d0, l0]
  obtain ⟨pn, rfl⟩ : ∃ n : Nat, p = n := ⟨p.toNat, by omega⟩
  refine (s_isPrime pn (by omega)).call ?_
  by_cases d1 : IsP pn
  case neg =>
    simp [d1]
    exact fin false (decide_eq_false fun hs => d1 (by simpa using hs.2.1))
  by_cases d2 : m = 1
  · simp [d1, l1, d2, l2, hmv.len]
    refine ⟨_, hkg.sub, .id _, ?_⟩
    congr 3
    apply propext
    constructor
    · intro hl
      exact ⟨by rw [← d2]; exact d0, by simpa using d1, by rw [if_pos rfl]; exact hl⟩
    · intro hs
      have := hs.2.2
      rw [if_pos rfl] at this
      exact this
  by_cases d3 : (mo.length : Int) = m
  case neg =>
    simp [d1, l1, d2, l2, hmv.len, d3]
    exact fin false (decide_eq_false fun hs => by have := hs.2.2; rw [if_neg d2] at this; exact d3 this.1)
  simp [d1, l1, d2, l2, hmv.len, d3]
  refine awp_for mo.length (fun k fr' h' => h' = g ∧ fr' 33 = I k ∧ ∀ c ∈ mo.take k, 0 ≤ c ∧ c < (pn : Int)) ⟨rfl, by simp, by simp⟩ ?_
  intro k fr' h' hkn hk ⟨hh, k33, hx⟩
  subst hh
  have k1 := hk 1 (by decide)
  have k31 := hk 31 (by decide)
  have k32 := hk 32 (by decide)
  simp [d3] at k1 k31 k32
  clear hk
  by_cases hlt : k < mo.length
  · have hlt' : (k : Int) < m := by omega
    have hia := hmv.iadr (i := k) ⟨by omega, by omega⟩
    simp at hia
    have hld := fun h' => ld_ints (h := h') hlt
    have hmem : mo.getD k 0 ∈ mo := by simp only [List.getD, List.getElem?_eq_getElem hlt, Option.getD_some]; exact List.getElem_mem hlt
    have htk : mo.take (k + 1) = mo.take k ++ [mo.getD k 0] := by rw [List.take_succ_eq_append_getElem hlt]; simp [List.getD, hlt]
    rw [htk]
    generalize mo.getD k 0 = y at *
    by_cases e1 : y < 0
    · simp [k1, k31, k32, k33, hlt', hia, hld, e1]
      exact fin false (decide_eq_false fun hs => by have := hs.2.2; rw [if_neg d2] at this; have := this.2 y hmem; omega)
    by_cases e2 : (pn : Int) ≤ y
    · simp [k1, k31, k32, k33, hlt', hia, hld, e1, e2, l0]
      exact fin false (decide_eq_false fun hs => by have := hs.2.2; rw [if_neg d2] at this; have := this.2 y hmem; omega)
    have u1 : IntKind.i64.wrap ((k : Int) + 1) = k + 1 := w64 _ (by omega)
    simp [k1, k31, k32, k33, hlt', hia, hld, e1, e2, l0, u1]
    refine ⟨by omega, fun c hc => ?_⟩
    rcases hc with hc | hc
    · exact hx c hc
    · omega
  · have : k = mo.length := by omega
    subst this
    have hlt' : ¬ ((mo.length : Nat) : Int) < m := by omega
    rw [List.take_length] at hx
    simp [k31, k32, k33, hlt']
    exact fin true (decide_eq_true ⟨d0, by simpa using d1, by rw [if_neg d2]; exact ⟨d3, hx⟩⟩)

/-- The description is that of a field. -/
def FieldP (p m : Int) (mo : List Int) : Prop := ShapeP p m mo ∧ (m = 1 ∨ Irr p mo)

open Classical in
/-- The first generator. -/
noncomputable def gen0 (D : Ds) : Nat := if h : ∃ n : Nat, 1 ≤ n ∧ D.Gen n then Classical.choose (least h) else 0

theorem gen0_spec {D : Ds} (r : Rg D) (h : ∃ x, D.Gen x) : D.Gen (gen0 D) ∧ 1 ≤ gen0 D ∧ ∀ y : Nat, 1 ≤ y → y < gen0 D → ¬ D.Gen y := by
  obtain ⟨x, hx⟩ := h
  have hex : ∃ n : Nat, 1 ≤ n ∧ D.Gen n := by
    have h0 : x ≠ 0 := by
      intro hc
      have h1 := hx.ne0 r.toOk 1
      rw [r.toOk.pw_one, Ds.inn_of hx.r] at h1
      exact h1 hc
    have := hx.r.1
    refine ⟨x.toNat, by omega, ?_⟩
    rw [show ((x.toNat : Nat) : Int) = x by omega]
    exact hx
  unfold gen0
  rw [dif_pos hex]
  have h2 := Classical.choose_spec (least hex)
  exact ⟨h2.1.2, h2.1.1, fun y h3 h4 h5 => h2.2 y h4 ⟨h3, h5⟩⟩

theorem ShapeP.gen {p m : Int} {mo : List Int} (h : ShapeP p m mo) : (m = 1 ∨ Irr p mo) ↔ ∃ x, (mkD p m mo).Gen x := by
  have hd := h.rg.toOkm.decide (by simpa [mkD] using h.2.1) h.rg.q256
  have h2 := h.dp
  have h3 := h.dm
  unfold Ds.Decided at hd
  rw [h2] at hd
  have e1 : (mkD p m mo).mo = mo := rfl
  rw [e1] at hd
  constructor
  · rintro (hm | hi)
    · exact hd.1 (.inl (by omega))
    · exact hd.1 (.inr hi)
  · rintro ⟨x, hx⟩
    by_cases hm : m = 1
    · exact .inl hm
    · refine .inr (Classical.byContradiction fun hi => ?_)
      obtain ⟨a, b, ha, hb, ha0, hb0, hab⟩ := hd.2 (by omega) hi
      exact hx.dom h.rg.toOk ha hb ha0 hb0 hab

/-- The table of exponents, as it is filled. -/
def logK (D : Ds) (g : Int) : Nat → List Int
  | 0 => List.replicate D.q 0
  | k + 1 => (logK D g k).set (D.pw g k).toNat k
theorem logK_len (D : Ds) (g : Int) : ∀ k, (logK D g k).length = D.q
  | 0 => by simp [logK]
  | k + 1 => by simp [logK, logK_len D g k]
theorem logK_get {D : Ds} (o : D.Ok) {g : Int} (hg : D.Gen g) : ∀ k, k ≤ D.q - 1 → ∀ i, i < k → (logK D g k).getD (D.pw g i).toNat 0 = i
  | 0, _, i, hi => by omega
  | k + 1, hk, i, hi => by
    have hr := o.pwR g i
    have hr2 := o.pwR g k
    unfold Ds.R at hr hr2
    simp only [logK, List.getD, List.getElem?_set, logK_len]
    by_cases h : (D.pw g k).toNat = (D.pw g i).toNat
    · have : k = i := hg.inj o (by omega) (by omega) (by omega)
      subst this
      rw [if_pos rfl, if_pos (by omega)]; rfl
    · rw [if_neg h]
      have hik : i ≠ k := fun hc => h (by rw [hc])
      exact logK_get o hg k (by omega) i (by omega)

/-- The cells of a field. -/
noncomputable def gfC (D : Ds) : List AV := [I D.p, I D.m, .fs D.mo.length (ints D.mo), I D.q, .fs (D.q - 1) (ints (pwL D (gen0 D) (D.q - 1))), .fs D.q (ints (logK D (gen0 D) (D.q - 1)))]

open Classical in
/-- What New gives. -/
noncomputable def newR (p m : Int) (mo : List Int) : AV := if FieldP p m mo then .tup [.fp (gfC (mkD p m mo)), I 0] else .tup [.nilp, I 1]

theorem app_empty {h : Hp} {b : Nat} {x : AV} {l : List Int} {R : AV → Hp → Prop} (hb : h b = some []) (hx : IL x l) (hl : l.length ≤ 4294967296)
    (k : ∀ b', (b' = b ∨ h b' = none) → R (.sl b' 0 l.length 1) (hset h b' (ints l))) : appW (.sl b 0 0 1) x 1 h R := by
  unfold appW
  rw [hx.read]
  simp only [hb]
  refine ⟨trivial, trivial, rfl, by omega, fun b' hb' => ?_⟩
  rw [Nat.zero_add, List.nil_append]
  exact k b' hb'

theorem ld6_at {h : Hp} {b : Nat} {x0 x1 x2 x3 x4 x5 : AV} (hb : h b = some [x0, x1, x2, x3, x4, x5]) : cellsAt h (.ref b 5) 1 = some [x5] := ld_one_at hb (by simp)

set_option maxHeartbeats 2000000 in
theorem s_New (p m : Int) {mv : AV} {mo : List Int} (hmv : IL mv mo) (hml : mo.length < 4611686018427387904) : Pure prog n_field_New [.agg [I p, I m, mv]] (newR p m mo) := by
  refine pure_of cf_field_New rfl fun h => ?_
  have hone := hmv.one
  simp [hone]
  intro b1 hb1
  obtain ⟨l0, l1, l2, l3⟩ := ld3_at (hset_same h b1 [I p, I m, mv])
  have hkg : Kp h (hset h b1 [I p, I m, mv]) := (Kp.refl h).new hb1 _
  have hg1 : (hset h b1 [I p, I m, mv]) b1 = some [I p, I m, mv] := hset_same ..
  generalize hset h b1 [I p, I m, mv] = g at *
  have bad : ¬ FieldP p m mo → RetP h (newR p m mo) (.tup [.nilp, I 1]) g := fun hb => by
    rw [newR, if_neg hb]; exact ⟨_, hkg.sub, .id _, rfl⟩
  simp [l3]
  refine (s_shape p m hmv hml).call ?_
  by_cases hs : ShapeP p m mo
  case neg =>
    simp [hs]
    exact bad fun hf => hs hf.1
  have r := hs.rg
  have e1 := hs.dp
  have e2 := hs.dm
  have e3 := hs.dq
  have hmo : (mkD p m mo).mo = mo := rfl
  simp [hs, l0, l1]
  refine (s_order p m).call ?_
  simp [l3]
  by_cases hgen : ∃ x, (mkD p m mo).Gen x
  case neg =>
    have sg := s_generator0 r hmv fun y hy => hgen ⟨y, hy⟩
    rw [e1, e2, e3] at sg
    refine sg.call ?_
    simp [isNil]
    exact bad fun hf => hgen (hs.gen.1 hf.2)
  obtain ⟨g1, g2, g3⟩ := gen0_spec r hgen
  have sg := s_generator r hmv g1 g2 g3
  rw [e1, e2, e3] at sg
  refine sg.call ?_
  have hf : FieldP p m mo := ⟨hs, hs.gen.2 hgen⟩
  have hq := r.q256
  have hq2 := r.q2
  rw [newR, if_pos hf]
  clear bad sg
  simp only [gfC]
  rw [e1, e2, hmo]
  have hmol : mo.length ≤ 8 := by
    have h5 := r.len
    have h6 := r.m8
    rw [hmo] at h5
    rw [h5]; split <;> omega
  rw [← e3]
  generalize gen0 (mkD p m mo) = gn at *
  generalize mkD p m mo = D at *
  simp [isNil, l0, l1, l2]
  intro b26 hb26
  have ne1 : b1 ≠ b26 := fun he => by rw [← he, hg1] at hb26; cases hb26
  refine app_empty (hset_same ..) hmv (by omega) fun bm hbm => ?_
  have hgm : g bm = none := by
    rcases hbm with rfl | hbm
    · exact hb26
    · by_cases e : bm = b26
      · rw [e]; exact hb26
      · rwa [hset_ne _ _ e] at hbm
  have hk2 : Kp g (hset (hset g b26 []) bm (ints mo)) := ((Kp.refl g).new hb26 _).set hgm _
  have hm2 : (hset (hset g b26 []) bm (ints mo)) bm = some (ints mo) := hset_same ..
  generalize hset (hset g b26 []) bm (ints mo) = g2 at *
  have e0 : (D.q : Int) ≤ 4294967296 := by omega
  simp [e0]
  intro b34 hb34
  have n1 : bm ≠ b34 := fun he => by rw [← he, hm2] at hb34; cases hb34
  have hk3 : Kp g (hset g2 b34 (ints (List.replicate D.q 0))) := hk2.new hb34 _
  have hm3 : (hset g2 b34 (ints (List.replicate D.q 0))) bm = some (ints mo) := by rw [hset_ne _ _ n1]; exact hm2
  have hl3 : (hset g2 b34 (ints (List.replicate D.q 0))) b34 = some (ints (List.replicate D.q 0)) := hset_same ..
  have hg34 := hk2.no hb34
  generalize hset g2 b34 (ints (List.replicate D.q 0)) = g3 at *
  clear hb34
  intro b36 hb36
  have n2 : bm ≠ b36 := fun he => by rw [← he, hm3] at hb36; cases hb36
  have n3 : b34 ≠ b36 := fun he => by rw [← he, hl3] at hb36; cases hb36
  have hg36 := hk3.no hb36
  have hIe := IL.fs (pwL D gn (D.q - 1))
  rw [pwL_len] at hIe
  have hq1 : ((D.q - 1 : Nat) : Int) = D.q - 1 := by omega
  refine awp_for (D.q - 1) (fun k fr' h' => Kp g h' ∧ h' bm = some (ints mo) ∧ h' b34 = some (ints (logK D gn k)) ∧ h' b36 = some [I p, I m, .sl bm 0 mo.length 1, I D.q, .fs (D.q - 1) (ints (pwL D gn (D.q - 1))), .sl b34 0 D.q 1] ∧ fr' 39 = I k)
    ⟨hk3.new hb36 _, by rw [hset_ne _ _ n2]; exact hm3, by rw [hset_ne _ _ n3]; exact hl3, hset_same .., by simp⟩ ?_
  intro k fr' h' hkn hk ⟨c1, c2, c3, c4, k39⟩
  have k6 := hk 6 (by decide)
  have k37 := hk 37 (by decide)
  have k38 := hk 38 (by decide)
  simp at k6 k37 k38
  clear hk
  by_cases hlt : k < D.q - 1
  · have hia := hIe.iadr (i := k) ⟨by omega, by rw [pwL_len]; omega⟩
    simp at hia
    have hld := fun h' => ld_ints (h := h') (l := pwL D gn (D.q - 1)) (k := k) (by rw [pwL_len]; omega)
    rw [pwL_getD hlt] at hld
    have hr := r.toOk.pwR gn k
    have hr1 := hr.1
    have hr2 := hr.2
    have hst := fun Q => st_ints_at (v := (k : Int)) (Q := Q) c3 (k := (D.pw gn k).toNat) (by rw [logK_len]; omega)
    have hlt' : (k : Int) < ((D.q - 1 : Nat) : Int) := by omega
    have u1 : IntKind.i64.wrap ((k : Int) + 1) = k + 1 := w64 _ (by omega)
    simp [k6, k37, k38, k39, hlt, hlt', hia, hld, isNil, ld6_at c4, hr1, hr2, hst, u1]
    exact ⟨c1.set hg34 _, by rw [hset_ne _ _ n1]; exact c2, by rfl, by rw [hset_ne _ _ (Ne.symm n3)]; exact c4⟩
  · have : k = D.q - 1 := by omega
    subst this
    simp [k6, k38, k39]
    refine RetP.tup (hkg.trans c1).sub (by rfl) (frz2 (x := .ref b36 0) (y := I 0) (x' := .fp [I p, I m, .fs mo.length (ints mo), I D.q, .fs (D.q - 1) (ints (pwL D gn (D.q - 1))), .fs D.q (ints (logK D gn (D.q - 1)))]) (y' := I 0) ?_ (.id _))
    refine Frz.ref b36 0 _ _ c4 (hkg.no hg36) (by simp) fun j hj hk => ?_
    match j, hj with
    | 0, _ => exact .id _
    | 1, _ => exact .id _
    | 2, _ => exact Frz.slk c2 (hkg.no hgm) (by rw [ints_length]; omega)
    | 3, _ => exact .id _
    | 4, _ => exact .id _
    | 5, _ => exact Frz.slk c3 (hkg.no hg34) (by rw [ints_length, logK_len]; omega)
end Go.AM.Ytmihmgnjnedfcaa
