/- Contracts of functions: the reference's Graph. -/
import Derived.Test.YtmihmgnjnedfcaaS4
import Derived.Test.YtmihmgnjnedfcaaAMP
import Derived.Test.YtmihmgnjnedfcaaC2
set_option maxRecDepth 100000
set_option linter.unusedSimpArgs false
set_option linter.unusedVariables false
namespace Go.AM.Ytmihmgnjnedfcaa
open Go Go.AM
attribute [local simp ↓] awp_seq awp_reg awp_skip awp_cond awp_block awp_exit awp_ret awp_fz thenW_normal thenW_exit thenW_ret inBlk_normal inBlk_exit inBlk_ret aops_cons aops_nil e_mv e_guard e_pick e_ld e_app e_cpy e_st e_call callW_f updO_some updO_none e_bin e_isnil e_fadr e_iadr e_iarr e_len e_build e_mkf e_nc e_not e_neg e_cvt e_slc e_fld e_ext e_min e_eqs e_new e_box e_mkl e_mks
attribute [local simp] upd_apply ev_t ev_k ev_f binA_add binA_sub binA_mul binA_quo binA_rem binA_eql binA_neq binA_lss binA_leq binA_gtr binA_geq det mem frame0 keeps_nil iadrA_sl fadrA_ref fadrA_fp ldv_agg ldv_one cells_base hset_same hset_hset lenA_fs lenA_sl lenA_nils zeros_ints ints_length one_base one_nilp one_nils one_ref one_sl one_fp one_fs one_fn gl_one resA resOf bound natOf afill splice AV.cells cells_agg bindW_some condW_true condW_false condW_dec condW_ndec guardW_tup guardW_true guardW_true' guardW_false guardW_false' allocW_some pickA_true pickA_false
theorem gA0_len (n : Nat) : (gA0 n).length = n := by simp [gA0]
theorem gA1_len (n : Nat) (a : Int) : (gA1 n a).length = n := by simp [gA1]
theorem gA0_succ (n : Nat) : gA0 (n + 1) = gA0 n ++ [(0, 2 * (n : Int) + 1, 1099511627776)] := by simp [gA0, List.range_succ]
theorem gA1_succ (n : Nat) (a : Int) : gA1 (n + 1) a = gA1 n a ++ [(2 * (n : Int) + 1, 2 * (n : Int) + 2, a)] := by simp [gA1, List.range_succ]

/-- Numbers from 0 to M. -/
def LB (l : List Int) (M : Int) : Prop := ∀ x ∈ l, 0 ≤ x ∧ x ≤ M
theorem LB.get {l : List Int} {M : Int} (h : LB l M) {k : Nat} (hk : k < l.length) : 0 ≤ l.getD k 0 ∧ l.getD k 0 ≤ M := by
  simp only [List.getD, List.getElem?_eq_getElem hk, Option.getD_some]
  exact h _ (List.getElem_mem hk)
theorem LB.set {l : List Int} {M : Int} (h : LB l M) {x : Int} (hx : 0 ≤ x ∧ x ≤ M) (k : Nat) : LB (l.set k x) M := fun y hy => by
  rcases List.mem_or_eq_of_mem_set hy with h1 | rfl
  · exact h y h1
  · exact hx
theorem gL0_LB (n : Nat) {M : Int} (hM : n ≤ M) : LB (gL0 n) M := fun x hx => by
  simp only [gL0, List.mem_map, List.mem_range] at hx
  obtain ⟨v, hv, rfl⟩ := hx
  omega
theorem gH_LB (n : Nat) (b : Int) {M : Int} : ∀ (A : Hist) (i : Nat) (last : List Int), LB last M → (n : Int) + i + A.length ≤ M → LB (gH n b i last A).2 M
  | [], i, last, h, _ => h
  | (v, hs) :: A, i, last, h, hM => by
    simp only [gH]
    simp at hM
    exact gH_LB n b A (i + 1) _ (h.set ⟨by omega, by omega⟩ _) (by omega)

/-- What Graph asks of its arguments. -/
structure GOk (n : Nat) (H : Hist) (col : List Int) : Prop where
  nd : ∀ i, i < H.length → 0 ≤ (H.getD i default).1 ∧ (H.getD i default).1 < n
  hs : ∀ i, i < H.length → ∀ x ∈ (H.getD i default).2, 0 ≤ x ∧ x < n
  hl : ∀ i, i < H.length → (H.getD i default).2.length ≤ 64
  col : ∀ x ∈ col, 0 ≤ x ∧ x < n

theorem gA2_snoc (l : List Int) (to b : Int) (hs : List Int) (j : Nat) (hj : j < hs.length) : gA2 l to b (hs.take (j + 1)) = gA2 l to b (hs.take j) ++ [(2 * l.getD (hs.getD j 0).toNat 0 + 2, to, b)] := by
  rw [List.take_succ_eq_append_getElem hj]
  simp only [gA2, List.map_append, List.map_cons, List.map_nil]
  rw [show hs.getD j 0 = hs[j] by simp [List.getD, hj]]
theorem gA2_len (l : List Int) (to b : Int) (hs : List Int) : (gA2 l to b hs).length = hs.length := by simp [gA2]
theorem gH_len1 (n b : Int) : ∀ (A : Hist) (i : Nat) (last : List Int), ((gH n b i last A).1.length : Int) = hsum A
  | [], i, last => rfl
  | (v, hs) :: A, i, last => by
    simp only [gH, hsum, List.length_append, gA2_len]
    have := gH_len1 n b A (i + 1) (last.set v.toNat (n + i))
    omega
theorem hsum_le : ∀ (A : Hist), (∀ p ∈ A, p.2.length ≤ 64) → hsum A ≤ 64 * A.length
  | [], _ => by simp [hsum]
  | (v, l) :: A, h => by
    have h1 := hsum_le A fun p hp => h p (by simp [hp])
    have h2 := h (v, l) (by simp)
    simp only [hsum, List.length_cons] at h2 ⊢
    omega

/-- The list of last versions while it is filled. -/
def gLk (n k : Nat) : List Int := (List.range n).map fun (v : Nat) => if v < k then (v : Int) else 0
theorem gLk_zero (n : Nat) : gLk n 0 = List.replicate n 0 := by
  refine List.ext_getElem (by simp [gLk]) fun i h1 h2 => ?_
  simp [gLk]
theorem gLk_len (n k : Nat) : (gLk n k).length = n := by simp [gLk]
theorem gLk_set (n k : Nat) : (gLk n k).set k (k : Int) = gLk n (k + 1) := by
  refine List.ext_getElem (by simp [gLk]) fun i h1 h2 => ?_
  simp only [gLk, List.getElem_set, List.getElem_map, List.getElem_range]
  by_cases h : k = i
  · subst h; simp
  · rw [if_neg h]
    by_cases h3 : i < k
    · rw [if_pos h3, if_pos (by omega)]
    · rw [if_neg h3, if_neg (by omega)]
theorem gLk_all (n : Nat) : gLk n n = gL0 n := by
  refine List.ext_getElem (by simp [gLk, gL0]) fun i h1 h2 => ?_
  simp [gLk, gL0] at h1 ⊢
  intro h; omega

/-- Memory while a graph is made: the result's block, the graph's block, the last versions, the arcs. -/
def GI (h : Hp) (br bg bl : Nat) (V : Int) (l : List Int) (A : Arcs) (va : AV) (h' : Hp) : Prop :=
  ∃ F, Kp h F ∧ h br = none ∧ h bg = none ∧ bg ≠ br ∧ bl ≠ bg ∧ bl ≠ br ∧ F br = some [I 0, .nils] ∧ F bg = some [I V, va] ∧ h bl = none ∧ F bl = some (ints l) ∧ Own 3 F h' va A.length (arcC A)

section
variable {h h' : Hp} {br bg bl : Nat} {V : Int} {l : List Int} {A : Arcs} {va : AV}
theorem GI.rr (g : GI h br bg bl V l A va h') : h' br = some [I 0, .nils] := by
  obtain ⟨F, hF, hr, hg, n1, n2, n3, f1, f2, hl, f3, o⟩ := g
  exact o.rd f1
theorem GI.rg (g : GI h br bg bl V l A va h') : h' bg = some [I V, va] := by
  obtain ⟨F, hF, hr, hg, n1, n2, n3, f1, f2, hl, f3, o⟩ := g
  exact o.rd f2
theorem GI.rl (g : GI h br bg bl V l A va h') : h' bl = some (ints l) := by
  obtain ⟨F, hF, hr, hg, n1, n2, n3, f1, f2, hl, f3, o⟩ := g
  exact o.rd f3
theorem GI.ne (g : GI h br bg bl V l A va h') : bg ≠ br ∧ bl ≠ bg ∧ bl ≠ br := by
  obtain ⟨F, hF, hr, hg, n1, n2, n3, f1, f2, hl, f3, o⟩ := g
  exact ⟨n1, n2, n3⟩
theorem GI.put (g : GI h br bg bl V l A va h') (k : Nat) (v : Int) : GI h br bg bl V (l.set k v) A va (hset h' bl (ints (l.set k v))) := by
  obtain ⟨F, hF, hr, hg, n1, n2, n3, f1, f2, hl, f3, o⟩ := g
  exact ⟨_, hF.set hl _, hr, hg, n1, n2, n3, by rw [hset_ne _ _ (Ne.symm n3)]; exact f1, by rw [hset_ne _ _ (Ne.symm n2)]; exact f2, hl, hset_same .., o.put f3 _⟩
theorem GI.junk (g : GI h br bg bl V l A va h') {b : Nat} (hb : h' b = none) (ys : List AV) : GI h br bg bl V l A va (hset h' b ys) := by
  obtain ⟨F, hF, hr, hg, n1, n2, n3, f1, f2, hl, f3, o⟩ := g
  exact ⟨F, hF, hr, hg, n1, n2, n3, f1, f2, hl, f3, o.junk hb ys⟩
theorem GI.arc (g : GI h br bg bl V l A va h') {b : Nat} (hb : h' b = none) {x y z : Int} (hA : A.length < 4294967296) {R : AV → Hp → Prop}
    (k : ∀ va' h'', h'' bg = some [I V, va] → va'.cells = [va'] → one va' = true → GI h br bg bl V l (A ++ [(x, y, z)]) va' (hset h'' bg [I V, va']) → R va' h'') : appW va (.sl b 0 1 3) 3 (hset h' b [I x, I y, I z]) R := by
  obtain ⟨F, hF, hr, hg, n1, n2, n3, f1, f2, hl, f3, o⟩ := g
  refine o.app1 hb (by simp) (by omega) fun va' h'' o2 => k va' h'' (o2.rd f2) o2.cells o2.one ?_
  refine ⟨hset F bg [I V, va'], hF.set hg _, hr, hg, n1, n2, n3, by rw [hset_ne _ _ (Ne.symm n1)]; exact f1, hset_same .., hl, by rw [hset_ne _ _ n2]; exact f3, ?_⟩
  rw [arcC_append, List.length_append]
  exact o2.put f2 _
/-- The end: the graph is written into the result's block. -/
theorem GI.fin (g : GI h br bg bl V l A va h') : Sub (hset h' br [I V, va]) h ∧ Frz (hset h' br [I V, va]) h va (gl A.length (arcC A)) := by
  obtain ⟨F, hF, hr, hg, n1, n2, n3, f1, f2, hl, f3, o⟩ := g
  exact (o.put f1 [I V, va]).frz (hF.set hr _)
theorem GI.start {br bg bl : Nat} (hr : h br = none) (hg : hset h br [I 0, .nils] bg = none) (hl : hset (hset h br [I 0, .nils]) bg [I V, .nils] bl = none) (l : List Int) :
    GI h br bg bl V l [] .nils (hset (hset (hset h br [I 0, .nils]) bg [I V, .nils]) bl (ints l)) := by
  have ne1 : bg ≠ br := fun he => by rw [he, hset_same] at hg; cases hg
  have ne2 : bl ≠ bg := fun he => by rw [he, hset_same] at hl; cases hl
  have ne3 : bl ≠ br := fun he => by rw [he, hset_ne _ _ (Ne.symm ne1), hset_same] at hl; cases hl
  refine ⟨_, (((Kp.refl h).new hr _).new hg _).new hl _, hr, ?_, ne1, ne2, ne3, ?_, ?_, ?_, hset_same .., Own.nils 3 _⟩
  · rwa [hset_ne _ _ ne1] at hg
  · rw [hset_ne _ _ (Ne.symm ne3), hset_ne _ _ (Ne.symm ne1), hset_same]
  · rw [hset_ne _ _ (Ne.symm ne2), hset_same]
  · rwa [hset_ne _ _ ne2, hset_ne _ _ ne3] at hl
end

theorem ld_snd {h : Hp} {b : Nat} {x y : AV} (hb : h b = some [x, y]) : cellsAt h (.ref b 1) 1 = some [y] := ld_one_at hb (by simp)
theorem ld_both {h : Hp} {b : Nat} {x y : AV} (hb : h b = some [x, y]) : cellsAt h (.ref b 0) 2 = some [x, y] := ld_at hb (by simp)
theorem st_snd_at {h : Hp} {b : Nat} {x y v : AV} {Q : Hp → Prop} (hb : h b = some [x, y]) (hv : v.cells = [v]) (h1 : one v = true) : stW (.ref b 1) v 1 h Q = Q (hset h b [x, v]) := st_one_at hb hv h1 (by simp)

set_option maxHeartbeats 4000000 in
theorem s_refGraph {v w : AV} {cells : List AV} {H : Hist} {col : List Int} (hv : SV 2 v H.length cells) (hc : HLc cells H) (hcol : IL w col) (n : Nat) (a b : Int) (hn : n ≤ 64) (hH : H.length ≤ 130) (hcl : col.length ≤ 100) (ok : GOk n H col) :
    Pure prog n_ref52_Graph [I n, I a, I b, v, w] (.agg [I (2 * (n + H.length) + 2), gl (graphA n a b H col).length (arcC (graphA n a b H col))]) := by
  refine pure_of cf_ref52_Graph rfl fun h => ?_
  have w1 : IntKind.i64.wrap (n + H.length) = n + H.length := w64 _ (by omega)
  have w2 : IntKind.i64.wrap (2 * (n + H.length)) = 2 * (n + H.length) := w64 _ (by omega)
  have w3 : IntKind.i64.wrap (2 * (n + H.length) + 1) = 2 * (n + H.length) + 1 := w64 _ (by omega)
  have w4 : IntKind.i64.wrap (2 * ((n : Int) + H.length) + 1 + 1) = 2 * (n + H.length) + 2 := w64 _ (by omega)
  have hn4 : (n : Int) ≤ 4294967296 := by omega
  simp [hv.len, w1, w2, w3, w4, hn4]
  intro b10 hb10 b12 hb12
  rw [st_all (by rfl) (by rfl) (by rfl)]
  intro b13 hb13
  have gs := GI.start hb10 hb12 hb13 (List.replicate n 0)
  generalize hV : 2 * ((n : Int) + H.length) + 2 = V at *
  refine awp_for n (fun k fr' h' => ∃ va, GI h b10 b12 b13 V (gLk n k) (gA0 k) va h' ∧ fr' 14 = I k) ⟨.nils, by rw [gLk_zero]; exact gs, by simp⟩ ?_
  clear gs hb10 hb12 hb13
  intro k fr' h' hkn hk ⟨va, g, h14⟩
  have k0 := hk 0 (by decide)
  have k12 := hk 12 (by decide)
  have k13 := hk 13 (by decide)
  simp at k0 k12 k13
  by_cases hlt : k < n
  · have st := fun Q => st_ints_at (v := (k : Int)) (Q := Q) g.rl (k := k) (by rw [gLk_len]; exact hlt)
    have g1 := g.put k k
    rw [gLk_set] at g1
    have ld := ld_snd g1.rg
    have u1 : IntKind.i64.wrap (2 * (k : Int)) = 2 * k := w64 _ (by omega)
    have u2 : IntKind.i64.wrap (2 * (k : Int) + 1) = 2 * k + 1 := w64 _ (by omega)
    have u3 : IntKind.i64.wrap ((k : Int) + 1) = k + 1 := w64 _ (by omega)
    simp [k0, k12, k13, h14, hlt, st, gLk_set, ld, u1, u2, u3]
    intro b hb
    refine g1.arc hb (by rw [gA0_len]; omega) fun va' h2 hg hc1 ho g2 => ?_
    simp [st_snd_at hg hc1 ho, gA0_succ, g2, hlt, u3, k12, h14]
    exact ⟨va', by simpa using g2⟩
  -- the versions
  have k3 := hk 3 (by decide)
  have k1 := hk 1 (by decide)
  have k2 := hk 2 (by decide)
  have k4 := hk 4 (by decide)
  have k10 := hk 10 (by decide)
  have k11 := hk 11 (by decide)
  simp at k1 k2 k3 k4 k10 k11
  clear hk
  have : k = n := by omega
  subst this
  rw [gLk_all] at g
  have gl0 : (gL0 k).length = k := by simp [gL0]
  simp [k0, h14]
  refine awp_for (k + H.length) (fun j fr' h' => ∃ va, GI h b10 b12 b13 V (gL0 k) (gA0 k ++ gA1 j a) va h' ∧ fr' 15 = I j) ⟨va, by simpa [gA1] using g, by simp⟩ ?_
  clear g h14 hlt hkn
  intro j fr2 h2 hjn hk2 ⟨va2, g, h15⟩
  have l0 := hk2 0 (by decide)
  have l1 := hk2 1 (by decide)
  have l2 := hk2 2 (by decide)
  have l3 := hk2 3 (by decide)
  have l4 := hk2 4 (by decide)
  have l10 := hk2 10 (by decide)
  have l11 := hk2 11 (by decide)
  have l12 := hk2 12 (by decide)
  have l13 := hk2 13 (by decide)
  simp [k0, k1, k2, k3, k4, k10, k11, k12, k13] at l0 l1 l2 l3 l4 l10 l11 l12 l13
  clear hk2 k0 k1 k2 k3 k4 k10 k11 k12 k13
  by_cases hlt : j < k + H.length
  · have hlt' : (j : Int) < (k : Int) + H.length := by omega
    have ld := ld_snd g.rg
    have u1 : IntKind.i64.wrap (2 * (j : Int)) = 2 * j := w64 _ (by omega)
    have u2 : IntKind.i64.wrap (2 * (j : Int) + 1) = 2 * j + 1 := w64 _ (by omega)
    have u4 : IntKind.i64.wrap (2 * (j : Int) + 2) = 2 * j + 2 := w64 _ (by omega)
    have u3 : IntKind.i64.wrap ((j : Int) + 1) = j + 1 := w64 _ (by omega)
    simp [l0, l1, l3, hv.len, l12, l13, h15, hlt, hlt', ld, u1, u2, u3, u4, w1]
    intro b hb
    refine g.arc hb (by simp [gA0_len, gA1_len]; omega) fun va' h3 hg hc1 ho g2 => ?_
    simp [st_snd_at hg hc1 ho, gA1_succ, g2, hlt, u3, l12, h15]
    exact ⟨va', by simpa [gA1_succ] using g2⟩
  have hlt' : ¬ (j : Int) < (k : Int) + H.length := by omega
  have : j = k + H.length := by omega
  subst this
  simp [l0, l3, hv.len, h15, w1]
  refine awp_for H.length (fun i fr' h' => ∃ va, GI h b10 b12 b13 V (gH k b 0 (gL0 k) (H.take i)).2 (gA0 k ++ gA1 (k + H.length) a ++ (gH k b 0 (gL0 k) (H.take i)).1) va h' ∧ fr' 16 = I i) ⟨va2, by simpa [gH] using g, by simp⟩ ?_
  clear g h15 hlt hlt' hjn
  intro i fr3 h3 hin hk3 ⟨va3, g, h16⟩
  have m0 := hk3 0 (by decide)
  have m2 := hk3 2 (by decide)
  have m3 := hk3 3 (by decide)
  have m4 := hk3 4 (by decide)
  have m10 := hk3 10 (by decide)
  have m11 := hk3 11 (by decide)
  have m12 := hk3 12 (by decide)
  have m13 := hk3 13 (by decide)
  simp [l0, l1, l2, l3, l4, l10, l11, l12, l13] at m0 m2 m3 m4 m10 m11 m12 m13
  clear hk3 l0 l1 l2 l3 l4 l10 l11 l12 l13
  have hln := gH_len k b (H.take i) 0 (gL0 k)
  rw [gl0] at hln
  by_cases hlt : i < H.length
  · obtain ⟨e1, e2⟩ := hc i hlt
    have hts := take_snoc hlt
    have r1 := ok.nd i hlt
    have r2 := ok.hs i hlt
    have r3 := ok.hl i hlt
    have hsl := hsum_le (H.take i) (fun p hp => by
      obtain ⟨j, hj, rfl⟩ := List.mem_iff_getElem.1 hp
      have := ok.hl j (by simp at hj; omega)
      simp at hj
      simpa [List.getD, show j < H.length by omega] using this)
    have hsl2 : ((H.take i).length : Int) ≤ 130 := by simp; omega
    have hgl := gH_len1 k b (H.take i) 0 (gL0 k)
    generalize H.getD i default = p at *
    obtain ⟨nd, hp⟩ := p
    simp only at e1 e2 r1 r2 r3
    have hLB := gH_LB k b (M := 200) (H.take i) 0 (gL0 k) (gL0_LB k (by omega)) (by simp; omega)
    have hgn : (gH k b 0 (gL0 k) (H.take (i + 1))) = ((gH k b 0 (gL0 k) (H.take i)).1 ++ gA2 (gH k b 0 (gL0 k) (H.take i)).2 (2 * ((k : Int) + i) + 1) b hp, (gH k b 0 (gL0 k) (H.take i)).2.set nd.toNat (k + i)) := by
      rw [hts, gH_append]
      simp [gH, show min i H.length = i by omega]
    rw [hgn]
    clear hgn hts
    generalize gH k b 0 (gL0 k) (H.take i) = G at *
    obtain ⟨G1, L⟩ := G
    simp only at g hln hLB hgl ⊢
    have hia := hv.iadr (i := i) ⟨by omega, by omega⟩
    simp at hia
    have hcells := hv.1
    have hl1 := fun h' => cellsAt_fp1 (h := h') (cells := cells) (k := i * 2) (by omega)
    have hl2 := fun h' => cellsAt_fp1 (h := h') (cells := cells) (k := i * 2 + 1) (by omega)
    rw [e1] at hl1
    generalize cells.getD (i * 2 + 1) .nils = hw at *
    simp [m0, m3, hv.len, h16, hlt]
    refine awp_for hp.length (fun j fr' h' => ∃ va, GI h b10 b12 b13 V L (gA0 k ++ gA1 (k + H.length) a ++ G1 ++ gA2 L (2 * ((k : Int) + i) + 1) b (hp.take j)) va h' ∧ fr' 17 = I j) ⟨va3, by simpa [gA2] using g, by simp⟩ ?_
    clear g
    intro j fr4 h4 hjn hk4 ⟨va4, g, h17⟩
    have n0 := hk4 0 (by decide)
    have n2 := hk4 2 (by decide)
    have n3 := hk4 3 (by decide)
    have n10 := hk4 10 (by decide)
    have n12 := hk4 12 (by decide)
    have n13 := hk4 13 (by decide)
    have n16 := hk4 16 (by decide)
    simp [m0, m2, m3, m10, m12, m13, h16] at n0 n2 n3 n10 n12 n13 n16
    clear hk4
    have v1 : IntKind.i64.wrap ((k : Int) + i) = k + i := w64 _ (by omega)
    by_cases hj : j < hp.length
    · have ld := ld_snd g.rg
      have hld := fun h' => ld_ints (h := h') hj
      have hja := e2.iadr (i := j) ⟨by omega, by omega⟩
      simp at hja
      have hy := r2 (hp.getD j 0) (by simp only [List.getD, List.getElem?_eq_getElem hj, Option.getD_some]; exact List.getElem_mem hj)
      have hsn := gA2_snoc L (2 * ((k : Int) + i) + 1) b hp j hj
      rw [hsn]
      clear hsn
      generalize hp.getD j 0 = y at *
      have hyl : y.toNat < L.length := by omega
      have hyk : y < k := hy.2
      have ldl := ld_ints_at g.rl hyl
      have hb2 := hLB.get hyl
      generalize L.getD y.toNat 0 = z at *
      have u1 : IntKind.i64.wrap (2 * z) = 2 * z := w64 _ (by omega)
      have u2 : IntKind.i64.wrap (2 * z + 2) = 2 * z + 2 := w64 _ (by omega)
      have u3 : IntKind.i64.wrap ((j : Int) + 1) = j + 1 := w64 _ (by omega)
      have u4 : IntKind.i64.wrap (2 * ((k : Int) + i)) = 2 * (k + i) := w64 _ (by omega)
      have u5 : IntKind.i64.wrap (2 * ((k : Int) + i) + 1) = 2 * (k + i) + 1 := w64 _ (by omega)
      simp [n0, n2, n3, n12, n13, n16, h17, hia, hl2, e2.len, hj, ld, hja, hld, hy.1, hyk, ldl, v1, u1, u2, u4, u5]
      intro b5 hb5
      refine g.arc hb5 (by simp [gA0_len, gA1_len, gA2_len]; omega) fun va' h5 hg hc1 ho g2 => ?_
      simp [st_snd_at hg hc1 ho, u3, n12, h17]
      exact ⟨va', by simpa using g2⟩
    · have : j = hp.length := by omega
      subst this
      have u3 : IntKind.i64.wrap ((i : Int) + 1) = i + 1 := w64 _ (by omega)
      have st := fun Q => st_ints_at (v := (k : Int) + i) (Q := Q) g.rl (k := nd.toNat) (by omega)
      have g2 := g.put nd.toNat ((k : Int) + i)
      rw [List.take_length] at g2
      simp [n0, n3, n12, n13, n16, h17, hia, hl1, hl2, e2.len, r1.1, r1.2, v1, st, u3, hlt]
      exact ⟨va4, by simpa using g2⟩
  have : i = H.length := by omega
  subst this
  rw [List.take_length] at g hln
  simp [m3, m4, hv.len, h16]
  have hsl := hsum_le H (fun p hp => by
    obtain ⟨j, hj, rfl⟩ := List.mem_iff_getElem.1 hp
    have := ok.hl j hj
    simpa [List.getD, hj] using this)
  have hgl := gH_len1 k b H 0 (gL0 k)
  have hLB := gH_LB k b (M := 200) H 0 (gL0 k) (gL0_LB k (by omega)) (by simp; omega)
  unfold graphA
  generalize gH k b 0 (gL0 k) H = G at *
  obtain ⟨G1, L⟩ := G
  simp only at g hln hLB hgl ⊢
  refine awp_for col.length (fun j fr' h' => ∃ va, GI h b10 b12 b13 V L (gA0 k ++ gA1 (k + H.length) a ++ G1 ++ gA2 L (2 * ((k : Int) + H.length) + 1) 1099511627776 (col.take j)) va h' ∧ fr' 18 = I j) ⟨va3, by simpa [gA2] using g, by simp⟩ ?_
  clear g
  intro j fr4 h4 hjn hk4 ⟨va4, g, h18⟩
  have n4 := hk4 4 (by decide)
  have n10 := hk4 10 (by decide)
  have n11 := hk4 11 (by decide)
  have n12 := hk4 12 (by decide)
  have n13 := hk4 13 (by decide)
  simp [m4, m10, m11, m12, m13] at n4 n10 n11 n12 n13
  clear hk4
  by_cases hj : j < col.length
  · have ld := ld_snd g.rg
    have hld := fun h' => ld_ints (h := h') hj
    have hja := hcol.iadr (i := j) ⟨by omega, by omega⟩
    simp at hja
    have hy := ok.col (col.getD j 0) (by simp only [List.getD, List.getElem?_eq_getElem hj, Option.getD_some]; exact List.getElem_mem hj)
    have hsn := gA2_snoc L (2 * ((k : Int) + H.length) + 1) 1099511627776 col j hj
    rw [hsn]
    clear hsn
    generalize col.getD j 0 = y at *
    have hyl : y.toNat < L.length := by omega
    have hyk : y < k := hy.2
    have ldl := ld_ints_at g.rl hyl
    have hb2 := hLB.get hyl
    generalize L.getD y.toNat 0 = z at *
    have u1 : IntKind.i64.wrap (2 * z) = 2 * z := w64 _ (by omega)
    have u2 : IntKind.i64.wrap (2 * z + 2) = 2 * z + 2 := w64 _ (by omega)
    have u3 : IntKind.i64.wrap ((j : Int) + 1) = j + 1 := w64 _ (by omega)
    simp [n4, n11, n12, n13, h18, hcol.len, hj, ld, hja, hld, hy.1, hyk, ldl, u1, u2]
    intro b5 hb5
    refine g.arc hb5 (by simp [gA0_len, gA1_len, gA2_len]; omega) fun va' h5 hg hc1 ho g2 => ?_
    simp [st_snd_at hg hc1 ho, u3, n12, h18]
    exact ⟨va', by simpa using g2⟩
  · have : j = col.length := by omega
    subst this
    have st := fun Q => st_all_at (cs' := [I V, va4]) (Q := Q) g.rr (n := 2) rfl rfl (by
      obtain ⟨F, hF, hr, hg, n1, n2, n3, f1, f2, hl, f3, o⟩ := g
      show (one (I V) && (one va4 && true)) = true
      rw [o.one]; rfl)
    have fin := g.fin
    rw [List.take_length] at fin
    have lb := ld_both (hset_same h4 b10 [I V, va4])
    simp [-List.length_append, -List.append_assoc, n4, n10, n11, n12, n13, h18, hcol.len, ld_both g.rg, st, lb]
    exact RetP.agg fin.1 (by rfl) (frz2 (x := I V) (y := va4) (x' := I V) (.id _) fin.2)
end Go.AM.Ytmihmgnjnedfcaa
