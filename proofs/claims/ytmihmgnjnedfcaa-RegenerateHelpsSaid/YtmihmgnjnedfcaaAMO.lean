/- The logic AM: slices that are read, slices that grow, loops with a counter, calls of pure functions. No Go program in it. -/
import Derived.Test.YtmihmgnjnedfcaaAMN
set_option linter.unusedSimpArgs false
set_option linter.unusedVariables false
namespace Go.AM
open Go

section
variable {P : Program} {fr : Fr} {h : Hp} {K : AE → Fr → Hp → Prop}

/-! ### Loops with a counter -/

theorem awp_for {c : SC} (n : Nat) (J : Nat → Fr → Hp → Prop) (h0 : J 0 fr h)
    (round : ∀ k fr' h', k ≤ n → (∀ s, c.writes.contains s = false → fr' s = fr s) → J k fr' h' → awp P c (thenW (fun fr'' h'' => k < n ∧ J (k + 1) fr'' h'') K) fr' h') : awp P (.loop c) K fr h := by
  refine awp_loopk (fun m fr' h' => ∃ k, k ≤ n ∧ m = n - k ∧ J k fr' h') n ⟨0, by omega, by omega, h0⟩ ?_
  intro m fr' h' hk ⟨k, hkn, hm, hj⟩
  refine awp_mono (fun e fr'' h'' hh => ?_) (round k fr' h' hkn hk hj)
  cases e with
  | normal => exact ⟨n - (k + 1), by have := hh.1; omega, k + 1, hh.1, rfl, hh.2⟩
  | exit i => exact hh
  | ret => exact hh

/-! ### Calls -/

/-- A call of a function that stands there. -/
def CallP (P : Program) (m : Nat) (i : FuncId) (avs : List AV) (h : Hp) (R : AV → Hp → Prop) : Prop := match m with
  | 0 => Spec P i avs h R
  | 1 => ∃ r, Spec P i avs h (fun v h' => v = r ∧ h' = h) ∧ R r h
  | _ => Spec P i avs h (fun v h' => Ext h h' ∧ R v h')

@[congr] theorem CallP_congr {m : Nat} {i : FuncId} {avs avs' : List AV} {h h' : Hp} {R : AV → Hp → Prop} (e1 : avs = avs') (e2 : h = h') : CallP P m i avs h R = CallP P m i avs' h' R := by rw [e1, e2]

theorem callW_f {m : Nat} {f : FuncId} {xs : List SX} {R : AV → Hp → Prop} : callW P m fr (.f f) xs h R = CallP P m f (xs.map (ev fr)) h R := by
  simp only [callW, callee, ev, List.nil_append, List.append_nil, CallP]
  rfl

/-- A pure function: a value, and memory as it was. -/
def Pure (P : Program) (f : FuncId) (avs : List AV) (r : AV) : Prop := ∀ h, Spec P f avs h (fun v h' => v = r ∧ h' = h)

theorem Pure.call {m : Nat} {i : FuncId} {avs : List AV} {r : AV} (p : Pure P i avs r) {R : AV → Hp → Prop} (hR : R r h) : CallP P m i avs h R := by
  unfold CallP
  split
  · exact (p h).mono fun v h' ⟨h1, h2⟩ => by subst h1 h2; exact hR
  · exact ⟨r, p h, hR⟩
  · exact (p h).mono fun v h' ⟨h1, h2⟩ => by subst h1 h2; exact ⟨fun b cs hb => hb, hR⟩

/-- What a pure function may end with. -/
def RetP (h : Hp) (r v : AV) (h' : Hp) : Prop := ∃ v2, Sub h' h ∧ Frz h' h v v2 ∧ v2 = r

theorem RetP.same {v : AV} : RetP h v v h := ⟨v, Sub.refl _, .id _, rfl⟩

/-- The contract of a pure function from its code. -/
theorem pure_of {md : FuncId → Nat} {f : FuncId} {n N : Nat} {sc : SC} {res : List SR} (hc : cfun P md f = some ⟨n, N, sc.erase, res⟩) {avs : List AV} (hn : avs.length = n) {r : AV}
    (hK : ∀ h, awp P sc (fun e fr' h' => (e = .normal ∨ e = .ret) ∧ ∃ v, resA fr' h' res = some v ∧ RetP h r v h') (frame0 avs) h) : Pure P f avs r :=
  fun h => Spec.fz ((spec_of hc hn (hK h)).mono fun v h' ⟨v2, h1, h2, h3⟩ => ⟨h, v2, h1, h2, h3, rfl⟩)

/-! ### Slices that are read -/

/-- A slice of n elements of sz cells, which nobody writes. -/
def SV (sz : Nat) (v : AV) (n : Nat) (cells : List AV) : Prop := cells.length = n * sz ∧ ((v = .nils ∧ n = 0) ∨ v = .fs n cells)

theorem SV.len {sz : Nat} {v : AV} {n : Nat} {cells : List AV} (hv : SV sz v n cells) : lenA v = some n := by
  rcases hv.2 with ⟨rfl, rfl⟩ | rfl <;> rfl

theorem SV.iadr {sz : Nat} {v : AV} {n : Nat} {cells : List AV} (hv : SV sz v n cells) {i : Int} (hi : 0 ≤ i ∧ i < n) : iadrA v (I i) sz = some (.fp (cells.drop (i.toNat * sz))) := by
  rcases hv.2 with ⟨rfl, rfl⟩ | rfl
  · omega
  · rw [iadrA_fs, if_pos hi]

theorem SV.read {sz : Nat} {v : AV} {n : Nat} {cells : List AV} (hv : SV sz v n cells) : readS h v sz = some (n, cells) := by
  rcases hv with ⟨hl, ⟨rfl, rfl⟩ | rfl⟩
  · have : cells = [] := List.eq_nil_of_length_eq_zero (by omega)
    subst this
    rfl
  · simp only [readS, hl, Nat.le_refl, if_true]
    rw [← hl, List.take_length]

/-- What a slice expression makes of it. -/
def slv (v : AV) (lo hi sz : Nat) : AV := match v with
  | .fs _ c => .fs (hi - lo) ((c.drop (lo * sz)).take ((hi - lo) * sz))
  | x => x

theorem SV.slc {sz : Nat} {v : AV} {n : Nat} {cells : List AV} (hv : SV sz v n cells) {lo hi : Nat} {mx : Option Nat} (h1 : lo ≤ hi) (h2 : hi ≤ n) (h3 : mx = none ∨ mx = some hi) : slcA v lo hi mx sz = some (slv v lo hi sz) := by
  rcases hv.2 with ⟨rfl, rfl⟩ | rfl
  · have e1 : lo = 0 := by omega
    have e2 : hi = 0 := by omega
    subst e1 e2
    simp [slcA, slv, h3]
  · simp [slcA, slv, h1, h2, h3]

theorem SV.slv {sz : Nat} {v : AV} {n : Nat} {cells : List AV} (hv : SV sz v n cells) {lo hi : Nat} (h1 : lo ≤ hi) (h2 : hi ≤ n) : SV sz (slv v lo hi sz) (hi - lo) ((cells.drop (lo * sz)).take ((hi - lo) * sz)) := by
  obtain ⟨hl, hv⟩ := hv
  refine ⟨?_, ?_⟩
  · rw [List.length_take, List.length_drop, hl, ← Nat.sub_mul]
    exact Nat.min_eq_left (Nat.mul_le_mul_right _ (by omega))
  · rcases hv with ⟨rfl, rfl⟩ | rfl
    · exact .inl ⟨rfl, by omega⟩
    · exact .inr rfl

theorem cellsAt_fpd {cells : List AV} {k n : Nat} (hn : k + n ≤ cells.length) : cellsAt h (.fp (cells.drop k)) n = some ((cells.drop k).take n) := by
  rw [cellsAt_fp, if_pos (by rw [List.length_drop]; omega)]

theorem cellsAt_fp1 {cells : List AV} {k : Nat} (hn : k < cells.length) : cellsAt h (.fp (cells.drop k)) 1 = some [cells.getD k .nils] := by
  rw [cellsAt_fpd (by omega), List.drop_eq_getElem_cons hn, List.take_succ_cons, List.take_zero]
  simp only [List.getD, List.getElem?_eq_getElem hn, Option.getD_some]

theorem take2 {cells : List AV} {k : Nat} (hn : k + 1 < cells.length) : (cells.drop k).take 2 = [cells.getD k .nils, cells.getD (k + 1) .nils] := by
  have h0 : k < cells.length := by omega
  rw [List.drop_eq_getElem_cons h0, List.drop_eq_getElem_cons hn, List.take_succ_cons, List.take_succ_cons, List.take_zero]
  simp only [List.getD, List.getElem?_eq_getElem hn, List.getElem?_eq_getElem h0, Option.getD_some]

theorem take3 {cells : List AV} {k : Nat} (hn : k + 2 < cells.length) : (cells.drop k).take 3 = [cells.getD k .nils, cells.getD (k + 1) .nils, cells.getD (k + 2) .nils] := by
  have h0 : k < cells.length := by omega
  have h1 : k + 1 < cells.length := by omega
  rw [List.drop_eq_getElem_cons h0, List.drop_eq_getElem_cons h1, List.drop_eq_getElem_cons hn, List.take_succ_cons, List.take_succ_cons, List.take_succ_cons, List.take_zero]
  simp only [List.getD, List.getElem?_eq_getElem hn, List.getElem?_eq_getElem h0, List.getElem?_eq_getElem h1, Option.getD_some]

/-! ### Lists of whole numbers -/

def IL (v : AV) (l : List Int) : Prop := SV 1 v l.length (ints l)

theorem ints_getD (l : List Int) (n : Nat) (hn : n < l.length) : (ints l).getD n .nils = I (l.getD n 0) := by
  simp [ints, List.getD, hn]

theorem IL.nils : IL .nils [] := ⟨rfl, .inl ⟨rfl, rfl⟩⟩
theorem IL.fs (l : List Int) : IL (.fs l.length (ints l)) l := ⟨by simp [ints], .inr rfl⟩
theorem IL.len {v : AV} {l : List Int} (hv : IL v l) : lenA v = some l.length := SV.len hv
theorem IL.iadr {v : AV} {l : List Int} (hv : IL v l) {i : Int} (hi : 0 ≤ i ∧ i < l.length) : iadrA v (I i) 1 = some (.fp ((ints l).drop i.toNat)) := by
  rw [SV.iadr hv hi, Nat.mul_one]
theorem IL.read {v : AV} {l : List Int} (hv : IL v l) : readS h v 1 = some (l.length, ints l) := SV.read hv
theorem IL.slc {v : AV} {l : List Int} (hv : IL v l) {lo hi : Nat} {mx : Option Nat} (h1 : lo ≤ hi) (h2 : hi ≤ l.length) (h3 : mx = none ∨ mx = some hi) : slcA v lo hi mx 1 = some (AM.slv v lo hi 1) := SV.slc hv h1 h2 h3
theorem IL.slcN {v : AV} {l : List Int} (hv : IL v l) {lo hi : Nat} (h1 : lo ≤ hi) (h2 : hi ≤ l.length) : slcA v lo hi none 1 = some (AM.slv v lo hi 1) := SV.slc hv h1 h2 (.inl rfl)
theorem IL.slcS {v : AV} {l : List Int} (hv : IL v l) {lo hi : Nat} (h1 : lo ≤ hi) (h2 : hi ≤ l.length) : slcA v lo hi (some hi) 1 = some (AM.slv v lo hi 1) := SV.slc hv h1 h2 (.inr rfl)
theorem IL.slv {v : AV} {l : List Int} (hv : IL v l) {lo hi : Nat} (h1 : lo ≤ hi) (h2 : hi ≤ l.length) : IL (AM.slv v lo hi 1) ((l.drop lo).take (hi - lo)) := by
  have := SV.slv hv h1 h2
  simp only [Nat.mul_one, ints_drop, ints_take] at this
  unfold IL
  rw [show ((l.drop lo).take (hi - lo)).length = hi - lo by simp; omega]
  exact this

/-- A number out of a frozen list. -/
theorem ld_ints {l : List Int} {k : Nat} (hk : k < l.length) : cellsAt h (.fp ((ints l).drop k)) 1 = some [I (l.getD k 0)] := by
  rw [cellsAt_fp1 (by rw [ints_length]; exact hk), ints_getD l k hk]

theorem ld_live {b k : Nat} {l : List Int} (hk : k < l.length) : cellsAt (hset h b (ints l)) (.ref b k) 1 = some [I (l.getD k 0)] := by
  rw [cellsAt_live _ b l k (hset_same ..) hk]
  simp [List.getD, hk]

theorem ld_other {b c k n : Nat} {cs : List AV} (hbc : c ≠ b) : cellsAt (hset h b cs) (.ref c k) n = cellsAt h (.ref c k) n := by
  rw [cellsAt_ref, cellsAt_ref, hset_ne _ _ hbc]

theorem st_ints {b k : Nat} {l : List Int} {v : Int} {Q : Hp → Prop} (hk : k < l.length) : stW (.ref b k) (I v) 1 (hset h b (ints l)) Q = Q (hset h b (ints (l.set k v))) := by
  rw [stW_ref, hset_same]
  simp only [cells_base, List.length_singleton, ints_length]
  rw [splice_ints l k v hk, hset_hset]
  apply propext
  constructor
  · exact fun hh => hh.2.2.2
  · exact fun hh => ⟨trivial, by omega, rfl, hh⟩

theorem st_other {b c k n : Nat} {cs : List AV} {v : AV} {Q : Hp → Prop} (hbc : c ≠ b) : stW (.ref c k) v n (hset h b cs) Q = stW (.ref c k) v n h (fun h' => Q (hset h' b cs)) := by
  rw [stW_ref, stW_ref, hset_ne _ _ hbc]
  cases h c with
  | none => rfl
  | some ds => simp only [hset_comm (Ne.symm hbc)]

/-- A struct is written as a whole. -/
theorem st_all {b n : Nat} {cs cs' : List AV} {Q : Hp → Prop} (h1 : cs.length = n) (h2 : cs'.length = n) (h3 : cs'.all one = true) : stW (.ref b 0) (.agg cs') n (hset h b cs) Q = Q (hset h b cs') := by
  rw [stW_ref, hset_same]
  have e : splice cs 0 cs' = cs' := by
    unfold splice
    rw [List.take_zero, List.nil_append, Nat.zero_add, h2, List.drop_eq_nil_of_le (by omega), List.append_nil]
  simp only [cells_agg, hset_hset, e]
  apply propext
  constructor
  · exact fun hh => hh.2.2.2
  · exact fun hh => ⟨h2, by omega, h3, hh⟩

/-- Its second field is written. -/
theorem st_snd {b : Nat} {x y v : AV} {Q : Hp → Prop} (h1 : v.cells = [v]) (h2 : one v = true) : stW (.ref b 1) v 1 (hset h b [x, y]) Q = Q (hset h b [x, v]) := by
  rw [stW_ref, hset_same]
  simp only [h1, hset_hset]
  apply propext
  constructor
  · exact fun hh => hh.2.2.2
  · exact fun hh => ⟨rfl, by simp, by simp [h2], hh⟩

/-! ### Slices that grow -/

/-- A slice of n elements of sz cells that is ours: nothing yet, or a live block. -/
def Ow (sz : Nat) (h0 h : Hp) (v : AV) (n : Nat) (cs : List AV) : Prop :=
  cs.length = n * sz ∧ ((v = .nils ∧ n = 0 ∧ h = h0) ∨ ∃ b, h0 b = none ∧ v = .sl b 0 n sz ∧ h = hset h0 b cs)

/-- The same, beside blocks of no use. -/
def OwJ (sz : Nat) (h0 h : Hp) (v : AV) (n : Nat) (cs : List AV) : Prop := ∃ h1, (∀ b xs, h1 b = some xs → h b = some xs) ∧ Ow sz h0 h1 v n cs

theorem Ow.nils (sz : Nat) (h0 : Hp) : Ow sz h0 h0 .nils 0 [] := ⟨by simp, .inl ⟨rfl, rfl, rfl⟩⟩
theorem Ow.of (sz : Nat) {h0 : Hp} {b n : Nat} {cs : List AV} (hb : h0 b = none) (hn : cs.length = n * sz) : Ow sz h0 (hset h0 b cs) (.sl b 0 n sz) n cs := ⟨hn, .inr ⟨b, hb, rfl, rfl⟩⟩

theorem Ow.len {sz : Nat} {h0 : Hp} {v : AV} {n : Nat} {cs : List AV} (o : Ow sz h0 h v n cs) : lenA v = some n := by
  rcases o.2 with ⟨rfl, rfl, _⟩ | ⟨b, _, rfl, _⟩ <;> rfl

theorem Ow.frame {sz : Nat} {h0 : Hp} {v : AV} {n : Nat} {cs : List AV} (o : Ow sz h0 h v n cs) {b : Nat} (hb : h b = none) (xs : List AV) : Ow sz (hset h0 b xs) (hset h b xs) v n cs := by
  obtain ⟨hl, o⟩ := o
  refine ⟨hl, ?_⟩
  rcases o with ⟨h1, h2, h3⟩ | ⟨c, h1, h2, h3⟩
  · exact .inl ⟨h1, h2, by rw [h3]⟩
  · have hcb : c ≠ b := fun he => by rw [h3, he, hset_same] at hb; cases hb
    exact .inr ⟨c, by rw [hset_ne _ _ hcb]; exact h1, h2, by rw [h3, hset_comm hcb]⟩

theorem Ow.free {sz : Nat} {h0 : Hp} {v : AV} {n : Nat} {cs : List AV} (o : Ow sz h0 h v n cs) {b : Nat} (hb : h b = none) : h0 b = none := by
  rcases o.2 with ⟨_, _, rfl⟩ | ⟨c, h1, h2, rfl⟩
  · exact hb
  · by_cases hcb : b = c
    · rw [hcb]; exact h1
    · rwa [hset_ne _ _ hcb] at hb

/-- append of a block of our own. -/
theorem Ow.app {sz : Nat} {h0 : Hp} {v : AV} {n : Nat} {cs : List AV} (o : Ow sz h0 h v n cs) {b m : Nat} {xs : List AV} (hb : h b = none) (hx : xs.length = m * sz) (hm : 0 < m) (hn : n + m ≤ 4294967296) {R : AV → Hp → Prop}
    (k : ∀ v' h', OwJ sz h0 h' v' (n + m) (cs ++ xs) → R v' h') : appW v (.sl b 0 m sz) sz (hset h b xs) R := by
  have hr : readS (hset h b xs) (.sl b 0 m sz) sz = some (m, xs) := by
    simp only [readS, hset_same, Nat.zero_add, hx, Nat.le_refl, and_self, if_true, List.drop_zero]
    rw [← hx, List.take_length]
  obtain ⟨hl, o'⟩ := o
  have hl2 : (cs ++ xs).length = (n + m) * sz := by rw [List.length_append, hl, hx, Nat.add_mul]
  unfold appW
  rw [hr]
  rcases o' with ⟨rfl, rfl, rfl⟩ | ⟨c, h1, rfl, rfl⟩
  · have hcs : cs = [] := List.eq_nil_of_length_eq_zero (by simpa using hl)
    subst hcs
    refine ⟨by omega, fun h => by omega, fun _ b' hb' => ?_⟩
    refine k _ _ ⟨hset h b' xs, fun x ys hxy => ?_, ⟨by simpa using hx, .inr ⟨b', ?_, by rw [Nat.zero_add], rfl⟩⟩⟩
    · by_cases hxb : x = b'
      · rw [hxb, hset_same] at hxy ⊢; exact hxy
      · rw [hset_ne _ _ hxb] at hxy ⊢
        by_cases hx2 : x = b
        · rw [hx2, hb] at hxy; cases hxy
        · rw [hset_ne _ _ hx2]; exact hxy
    · by_cases hx2 : b' = b
      · rw [hx2]; exact hb
      · rwa [hset_ne _ _ hx2] at hb'
  · have hcb : c ≠ b := fun he => by rw [he, hset_same] at hb; cases hb
    have hb0 : h0 b = Option.none := by rwa [hset_ne _ _ (Ne.symm hcb)] at hb
    simp only
    rw [hset_ne _ _ hcb, hset_same]
    refine ⟨trivial, trivial, hl, hn, fun b' hb' => ?_⟩
    have hb0' : h0 b' = Option.none := by
      rcases hb' with rfl | hb'
      · exact h1
      · by_cases e1 : b' = b
        · rw [e1]; exact hb0
        · rw [hset_ne _ _ e1] at hb'
          by_cases e2 : b' = c
          · rw [e2]; exact h1
          · rwa [hset_ne _ _ e2] at hb'
    refine k _ _ ⟨hset h0 b' (cs ++ xs), fun x ys hxy => ?_, ⟨hl2, .inr ⟨b', hb0', rfl, rfl⟩⟩⟩
    by_cases hxb : x = b'
    · rw [hxb, hset_same] at hxy ⊢; exact hxy
    · rw [hset_ne _ _ hxb] at hxy ⊢
      by_cases e1 : x = b
      · rw [e1, hb0] at hxy; cases hxy
      · rw [hset_ne _ _ e1]
        by_cases e2 : x = c
        · rw [e2, h1] at hxy; cases hxy
        · rw [hset_ne _ _ e2]; exact hxy

/-- append of a slice that is only read. -/
theorem Ow.apps {sz : Nat} {h0 : Hp} {v : AV} {n : Nat} {cs : List AV} (o : Ow sz h0 h v n cs) {x : AV} {m : Nat} {xs : List AV} (hx : SV sz x m xs) (hn : n + m ≤ 4294967296) {R : AV → Hp → Prop}
    (k : ∀ v' h', OwJ sz h0 h' v' (n + m) (cs ++ xs) → R v' h') : appW v x sz h R := by
  obtain ⟨hl, o'⟩ := o
  have hl2 : (cs ++ xs).length = (n + m) * sz := by rw [List.length_append, hl, hx.1, Nat.add_mul]
  unfold appW
  rw [hx.read]
  rcases o' with ⟨rfl, rfl, rfl⟩ | ⟨c, h1, rfl, rfl⟩
  · have hcs : cs = [] := List.eq_nil_of_length_eq_zero (by simpa using hl)
    subst hcs
    refine ⟨by omega, fun hm => ?_, fun _ b' hb' => ?_⟩
    · subst hm
      exact k _ _ ⟨h, fun _ _ hh => hh, ⟨hl2, .inl ⟨rfl, rfl, rfl⟩⟩⟩
    · exact k _ _ ⟨hset h b' xs, fun _ _ hh => hh, ⟨hl2, .inr ⟨b', hb', by rw [Nat.zero_add], rfl⟩⟩⟩
  · simp only
    rw [hset_same]
    refine ⟨trivial, trivial, hl, hn, fun b' hb' => ?_⟩
    have hb0' : h0 b' = Option.none := by
      rcases hb' with rfl | hb'
      · exact h1
      · by_cases e2 : b' = c
        · rw [e2]; exact h1
        · rwa [hset_ne _ _ e2] at hb'
    refine k _ _ ⟨hset h0 b' (cs ++ xs), fun x ys hxy => ?_, ⟨hl2, .inr ⟨b', hb0', rfl, rfl⟩⟩⟩
    by_cases hxb : x = b'
    · rw [hxb, hset_same] at hxy ⊢; exact hxy
    · rw [hset_ne _ _ hxb] at hxy ⊢
      by_cases e2 : x = c
      · rw [e2, h1] at hxy; cases hxy
      · rw [hset_ne _ _ e2]; exact hxy

/-- A block beside the slice, as it was. -/
theorem Ow.rd {sz : Nat} {h0 : Hp} {v : AV} {n : Nat} {cs : List AV} (o : Ow sz h0 h v n cs) {b : Nat} {xs : List AV} (hb : h0 b = some xs) : h b = some xs := by
  rcases o.2 with ⟨_, _, rfl⟩ | ⟨c, h1, _, rfl⟩
  · exact hb
  · have : b ≠ c := fun he => by rw [he, h1] at hb; cases hb
    rw [hset_ne _ _ this]; exact hb

/-- A block beside the slice is written. -/
theorem Ow.put {sz : Nat} {h0 : Hp} {v : AV} {n : Nat} {cs : List AV} (o : Ow sz h0 h v n cs) {b : Nat} {xs : List AV} (hb : h0 b = some xs) (ys : List AV) : Ow sz (hset h0 b ys) (hset h b ys) v n cs := by
  obtain ⟨hl, o⟩ := o
  refine ⟨hl, ?_⟩
  rcases o with ⟨h1, h2, rfl⟩ | ⟨c, h1, h2, rfl⟩
  · exact .inl ⟨h1, h2, rfl⟩
  · have : c ≠ b := fun he => by rw [he, hb] at h1; cases h1
    exact .inr ⟨c, by rw [hset_ne _ _ this]; exact h1, h2, by rw [hset_comm this]⟩

theorem sub_plain {h h' : Hp} (s : ∀ b xs, h' b = some xs → h b = some xs) : Sub h h' := Sub.of s

theorem sub_hset {h0 : Hp} {b : Nat} {cs : List AV} (hb : h0 b = none) : Sub (hset h0 b cs) h0 := Sub.of fun c xs hc => by
  have : c ≠ b := fun he => by rw [he, hb] at hc; cases hc
  rw [hset_ne _ _ this]; exact hc

/-- The frozen form of a slice that has grown. -/
def ownv (n : Nat) (v : AV) (cs : List AV) : AV := match v with
  | .nils => .nils
  | _ => .fs n cs

theorem Ow.frz {sz : Nat} {h0 : Hp} {v : AV} {n : Nat} {cs : List AV} (o : Ow sz h0 h v n cs) : Sub h h0 ∧ ∃ v', Frz h h0 v v' ∧ SV sz v' n cs ∧ (v' = .nils ∨ v' = .fs n cs) := by
  obtain ⟨hl, o'⟩ := o
  rcases o' with ⟨rfl, rfl, rfl⟩ | ⟨c, h1, rfl, rfl⟩
  · exact ⟨Sub.refl _, .nils, .id _, ⟨hl, .inl ⟨rfl, rfl⟩⟩, .inl rfl⟩
  · exact ⟨sub_hset h1, .fs n cs, Frz.slk (hset_same ..) h1 hl.symm, ⟨hl, .inr rfl⟩, .inr rfl⟩

end
end Go.AM
