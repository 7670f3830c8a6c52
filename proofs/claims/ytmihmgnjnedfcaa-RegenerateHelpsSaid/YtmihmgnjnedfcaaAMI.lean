/- The logic AM: two operations that do not touch each other may come in either order. No Go program in it. -/
import Derived.Test.YtmihmgnjnedfcaaAMH
set_option linter.unusedSimpArgs false
set_option linter.unusedVariables false
namespace Go.AM
open Go

/-! ### What an operation looks at -/

def SX.slot : SX → List Nat
  | .t n => [n]
  | _ => []

def SO.xs : SO → List SX
  | .mv x | .ld x _ _ | .nc x | .not x | .neg x | .isnil _ x | .cvt _ x | .fadr x _ | .fld x _ _ _ | .ext x _ | .len x | .box x => [x]
  | .pick c a b => [c, a, b]
  | .bin _ x y | .min x y | .iadr x y _ | .iarr x y _ _ | .eqs _ _ x y | .app x y _ | .cpy x y _ | .st x y _ => [x, y]
  | .slc x lo hi mx _ => x :: (lo.toList ++ hi.toList ++ mx.toList)
  | .build _ ps | .mkl _ _ _ ps => ps.map fun p => p.2.2
  | .mkf _ a b => a ++ b
  | .mks x _ _ => [x]
  | .call f xs => f :: xs
  | .new _ => []

def GOp.uses (o : GOp) : List Nat := (o.o.xs.flatMap SX.slot) ++ (match o.g with
  | some (s, _) => [s]
  | none => []) ++ o.keep.map (·.1)

section
variable {P : Program} {fr fr' : Fr} {h : Hp}

theorem ev_congr {x : SX} (hx : ∀ s ∈ x.slot, fr s = fr' s) : ev fr x = ev fr' x := by
  cases x with
  | t n => exact hx n (by simp [SX.slot])
  | k v => rfl
  | f i => rfl

theorem map_ev_congr {xs : List SX} (hx : ∀ s ∈ xs.flatMap SX.slot, fr s = fr' s) : xs.map (ev fr) = xs.map (ev fr') := by
  apply List.map_congr_left
  intro x hxm
  exact ev_congr fun s hs => hx s (List.mem_flatMap.2 ⟨x, hxm, hs⟩)

theorem parts_congr {ps : List (Nat × Nat × SX)} (hx : ∀ s ∈ (ps.map fun p => p.2.2).flatMap SX.slot, fr s = fr' s) :
    (ps.map fun (a, b, x) => (a, b, ev fr x)) = ps.map fun (a, b, x) => (a, b, ev fr' x) := by
  apply List.map_congr_left
  rintro ⟨a, b, x⟩ hxm
  have : ev fr x = ev fr' x := ev_congr fun s hs => hx s (List.mem_flatMap.2 ⟨x, List.mem_map.2 ⟨_, hxm, rfl⟩, hs⟩)
  simp only [this]

theorem eff1_congr {o : GOp} (hx : ∀ s ∈ o.uses, fr s = fr' s) (R : AV → Hp → Prop) : eff1 P o fr h R = eff1 P o fr' h R := by
  obtain ⟨g, d, so, md, keep⟩ := o
  have hk : ∀ h', keeps fr h h' keep = keeps fr' h h' keep := by
    intro h'
    have hkk : ∀ s ∈ keep.map (·.1), fr s = fr' s := fun s hs => hx s (by simp only [GOp.uses, List.mem_append]; exact .inr hs)
    clear hx
    induction keep with
    | nil => rfl
    | cons p r ih =>
      obtain ⟨x, n⟩ := p
      simp only [keeps]
      rw [hkk x (by simp), ih (fun s hs => hkk s (by simp only [List.map_cons, List.mem_cons]; exact .inr hs))]
  have ho : ∀ s ∈ so.xs.flatMap SX.slot, fr s = fr' s := fun s hs => hx s (by simp only [GOp.uses, List.mem_append]; exact .inl (.inl hs))
  clear hx
  have one : ∀ x ∈ so.xs, ev fr x = ev fr' x := fun x hxm => ev_congr fun s hs => ho s (List.mem_flatMap.2 ⟨x, hxm, hs⟩)
  cases so
  case slc x lo hi mx sz =>
    have e1 := one x (by simp [SO.xs])
    have e2 : ∀ d, bound fr lo d = bound fr' lo d := by
      intro d
      cases lo with
      | none => rfl
      | some y => simp only [bound]; rw [one y (by simp [SO.xs])]
    have e3 : ∀ d, bound fr hi d = bound fr' hi d := by
      intro d
      cases hi with
      | none => rfl
      | some y => simp only [bound]; rw [one y (by simp [SO.xs])]
    cases mx with
    | none => simp only [eff1, cls, det, e1, e2, e3]
    | some y =>
      have e4 := one y (by simp [SO.xs])
      simp only [eff1, cls, det, e1, e2, e3, e4]
  case build z ps =>
    simp only [eff1, cls, det]
    rw [parts_congr ho]
  case mkl n s z ps =>
    simp only [eff1, cls, mem]
    rw [parts_congr ho]
  case mkf f a b =>
    simp only [eff1, cls, det]
    rw [map_ev_congr (xs := a) (fun s hs => ho s (by simp only [SO.xs, List.flatMap_append, List.mem_append]; exact .inl hs)),
      map_ev_congr (xs := b) (fun s hs => ho s (by simp only [SO.xs, List.flatMap_append, List.mem_append]; exact .inr hs))]
  case call f xs =>
    have e1 := one f (by simp [SO.xs])
    have e2 : xs.map (ev fr) = xs.map (ev fr') := map_ev_congr (fun s hs => ho s (by simp only [SO.xs, List.flatMap_cons, List.mem_append]; exact .inr hs))
    simp only [eff1, callW, callee, e1, e2]
  case st x v n =>
    have e1 := one x (by simp [SO.xs])
    have e2 := one v (by simp [SO.xs])
    simp only [eff1, e1, e2, hk]
  all_goals simp only [SO.xs, List.mem_cons, List.not_mem_nil, or_false, forall_eq_or_imp, forall_eq, false_or] at one
  all_goals first
    | (obtain ⟨e1, e2, e3⟩ := one; simp only [eff1, cls, det, mem, e1, e2, e3]; done)
    | (obtain ⟨e1, e2⟩ := one; simp only [eff1, cls, det, mem, e1, e2]; done)
    | (simp only [eff1, cls, det, mem, one]; done)
    | (simp only [eff1, cls, det, mem]; done)

theorem eff_congr {o : GOp} (hx : ∀ s ∈ o.uses, fr s = fr' s) (R : AV → Hp → Prop) : eff P o fr h R = eff P o fr' h R := by
  have e1 := eff1_congr (P := P) (h := h) hx R
  unfold eff
  rw [e1]
  cases hg : o.g with
  | none => rfl
  | some p =>
    obtain ⟨s, want⟩ := p
    have : fr s = fr' s := hx s (by simp [GOp.uses, hg])
    simp only [this]

theorem eff_updO {o : GOp} {d : Option Nat} (hd : ∀ s, d = some s → s ∉ o.uses) (v : AV) (R : AV → Hp → Prop) : eff P o (updO fr d v) h R = eff P o fr h R := by
  refine eff_congr (fun s hs => ?_) R
  cases d with
  | none => rfl
  | some t =>
    have : s ≠ t := fun he => hd t rfl (he ▸ hs)
    simp [updO, upd, this]

theorem updO_comm {d e : Option Nat} (hde : ∀ s, d = some s → e ≠ some s) (v u : AV) : updO (updO fr d v) e u = updO (updO fr e u) d v := by
  cases d with
  | none => rfl
  | some s =>
    cases e with
    | none => rfl
    | some t =>
      have hst : s ≠ t := fun he => hde s rfl (by rw [he])
      funext x
      simp only [updO, upd]
      by_cases h1 : x = t
      · by_cases h2 : x = s
        · exact absurd (h2.symm.trans h1) hst
        · rw [if_pos h1, if_neg h2, if_pos h1]
      · rw [if_neg h1]
        by_cases h2 : x = s
        · rw [if_pos h2, if_pos h2]
        · rw [if_neg h2, if_neg h2, if_neg h1]

/-! ### Growing heaps -/

/-- Every live block is there, at least as long. -/
def Ext1 (h h' : Hp) : Prop := ∀ b cs, h b = some cs → ∃ ds, h' b = some (cs ++ ds)

theorem Ext1.refl (h : Hp) : Ext1 h h := fun b cs hb => ⟨[], by simpa using hb⟩
theorem Ext1.hset {h : Hp} {b : Nat} (cs : List AV) (hb : h b = none) : Ext1 h (hset h b cs) := fun x xs hx => ⟨[], by
  have : x ≠ b := fun he => by rw [he, hb] at hx; cases hx
  simp [AM.hset, this, hx]⟩
theorem Ext.ext1 {h h' : Hp} (e : Ext h h') : Ext1 h h' := fun b cs hb => ⟨[], by simpa using e b cs hb⟩

theorem cellsAt_ext {h h' : Hp} (e : Ext1 h h') {x : AV} {n : Nat} {cs : List AV} (hc : cellsAt h x n = some cs) : cellsAt h' x n = some cs := by
  cases x <;> simp only [cellsAt, reduceCtorEq] at hc ⊢
  · split at hc
    · rename_i b off cs0 hb
      obtain ⟨ds, hb'⟩ := e _ _ hb
      rw [hb']
      split at hc
      · rename_i hle
        simp only
        rw [if_pos (by rw [List.length_append]; omega), ← hc]
        congr 1
        rw [List.drop_append_of_le_length (by omega), List.take_append_of_le_length (by simp; omega)]
      · cases hc
    · cases hc
  · exact hc

theorem readS_ext {h h' : Hp} (e : Ext1 h h') {x : AV} {sz : Nat} {r : Nat × List AV} (hc : readS h x sz = some r) : readS h' x sz = some r := by
  cases x <;> simp only [readS, reduceCtorEq] at hc ⊢
  · exact hc
  · split at hc
    · rename_i b off len sz' cs0 hb
      obtain ⟨ds, hb'⟩ := e _ _ hb
      rw [hb']
      split at hc
      · rename_i hle
        simp only
        rw [if_pos ⟨hle.1, by rw [List.length_append]; omega⟩, ← hc]
        congr 2
        rw [List.drop_append_of_le_length (by omega), List.take_append_of_le_length (by simp; omega)]
      · cases hc
    · cases hc
  · exact hc

theorem hset_comm {h : Hp} {a b : Nat} (hab : a ≠ b) (xs ys : List AV) : hset (hset h a xs) b ys = hset (hset h b ys) a xs := by
  funext x
  simp only [hset]
  by_cases h1 : x = b
  · have : x ≠ a := fun he => hab (he.symm.trans h1)
    rw [if_pos h1, if_neg this, if_pos h1]
  · rw [if_neg h1, if_neg h1]

/-! ### The frame rule -/

theorem V.change {w : World} {h1 h2 : Hp} {T1 T2 : Nat → Prop} (hc : ∀ b, b < w.heap.size → h1 b = none → ¬ T1 b → h2 b = none ∧ ¬ T2 b) {x : AV} {v : Value} (hv : V w h1 T1 x v) : V w h2 T2 x v := by
  induction hv with
  | base v hv => exact .base v hv
  | nilp => exact .nilp
  | nils => exact .nils
  | ref b off hb => exact .ref b off hb
  | sl b off len sz cap c e f hb hc hl => exact .sl b off len sz cap c e f hb hc hl
  | sl0 b off sz a => exact .sl0 b off sz a
  | fp cells b off c e f vs hb hh hT h1 hcc _ ih =>
    obtain ⟨g1, g2⟩ := hc b (Array.getElem?_eq_some_iff.1 hb).1 hh hT
    exact .fp cells b off c e f vs hb g1 g2 h1 hcc ih
  | fs n cells b off cap c e f vs hb hh hT h1 hcc _ hn ih =>
    obtain ⟨g1, g2⟩ := hc b (Array.getElem?_eq_some_iff.1 hb).1 hh hT
    exact .fs n cells b off cap c e f vs hb g1 g2 h1 hcc ih hn
  | fs0 a cap => exact .fs0 a cap
  | agg cells vs hl _ ih => exact .agg cells vs hl ih
  | tup cells vs hl _ ih => exact .tup cells vs hl ih
  | fn f first cap vs us hl _ hl2 _ ih1 ih2 => exact .fn f first cap vs us hl ih1 hl2 ih2

/-- A contract holds beside one more live block, which stays as it is. -/
theorem Spec.frame {f : FuncId} {avs : List AV} {R : AV → Hp → Prop} (s : Spec P f avs h R) {b : Nat} (hb : h b = none) (cs : List AV) :
    Spec P f avs (hset h b cs) (fun v h'' => ∃ h', R v h' ∧ h' b = none ∧ h'' = hset h' b cs) := by
  refine ⟨s.1, fun T w vals hr hc => ?_⟩
  have go : ∀ x, x < w.heap.size → hset h b cs x = none → ¬ T x → h x = none ∧ ¬ (T x ∨ x = b) := by
    intro x _ hx hT
    simp only [hset] at hx
    by_cases hxb : x = b
    · rw [if_pos hxb] at hx; cases hx
    · rw [if_neg hxb] at hx
      exact ⟨hx, fun hh => hh.elim hT hxb⟩
  have hbs : hset h b cs b = some cs := by simp [hset]
  have hblt : b < w.heap.size := by
    obtain ⟨c, e, hw, _⟩ := hr.blk b cs hbs
    exact (Array.getElem?_eq_some_iff.1 hw).1
  have hr1 : HR w h (fun x => T x ∨ x = b) := by
    refine ⟨fun x xs hx => ?_, fun x hx => ?_⟩
    · have hxb : x ≠ b := fun he => by rw [he, hb] at hx; cases hx
      obtain ⟨c, e, g1, g2, g3, g4⟩ := hr.blk x xs (by simp [hset, hxb, hx])
      refine ⟨c, e, g1, g2, g3, fun j hj => ?_⟩
      obtain ⟨v, k1, k2⟩ := g4 j hj
      exact ⟨v, k1, k2.change go⟩
    · rcases hx with hx | hx
      · obtain ⟨k1, k2⟩ := hr.held x hx
        refine ⟨k1, ?_⟩
        simp only [hset] at k2
        split at k2
        · cases k2
        · exact k2
      · rw [hx]; exact ⟨hblt, hb⟩
  have hc1 : Cov w h (fun x => T x ∨ x = b) avs vals := ⟨hc.size, fun j hj hk => (hc.val j hj hk).change go⟩
  refine (s.2 _ w vals hr1 hc1).mono fun e w' ⟨v, h', r, he, hR, ev, hr', hV⟩ => ?_
  have hb' : h' b = none := by
    cases hh : h' b with
    | none => rfl
    | some xs =>
      rcases ev.dom b (by rw [hh]; simp) with g | g
      · exact absurd hb g
      · omega
  have ev' : Evo (hset h b cs) w (hset h' b cs) w' := by
    refine ⟨ev.os, ev.tape, ev.output, ev.size, fun i hi hn => ev.same i hi ?_, ev.shape, fun x hx => ?_⟩
    · by_cases hib : i = b
      · simp [hset, hib] at hn
      · simpa [hset, hib] using hn
    · by_cases hxb : x = b
      · exact .inl (by simp [hset, hxb])
      · simp only [hset, hxb, if_false] at hx ⊢
        exact ev.dom x hx
  have back : ∀ x, x < w'.heap.size → h' x = none → ¬ (T x ∨ x = b) → hset h' b cs x = none ∧ ¬ T x := by
    intro x _ hx hT
    have hxb : x ≠ b := fun he => hT (.inr he)
    exact ⟨by simp [hset, hxb, hx], fun hh => hT (.inl hh)⟩
  refine ⟨v, _, r, he, ⟨h', hR, hb', rfl⟩, ev', ⟨fun x xs hx => ?_, hr.heldMono ev'⟩, hV.change back⟩
  by_cases hxb : x = b
  · subst hxb
    simp only [hset, if_true, Option.some.injEq] at hx
    subst hx
    obtain ⟨c, e, g1, g2, g3, g4⟩ := hr.blk x cs hbs
    refine ⟨c, e, by rw [ev.same x hblt hb]; exact g1, g2, g3, fun j hj => ?_⟩
    obtain ⟨v, k1, k2⟩ := g4 j hj
    exact ⟨v, k1, k2.mono ev'⟩
  · simp only [hset, hxb, if_false] at hx
    obtain ⟨c, e, g1, g2, g3, g4⟩ := hr'.blk x xs hx
    refine ⟨c, e, g1, g2, g3, fun j hj => ?_⟩
    obtain ⟨v, k1, k2⟩ := g4 j hj
    exact ⟨v, k1, k2.change back⟩

end
end Go.AM
