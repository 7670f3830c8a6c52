/- The logic AM: regions, in the text's order and in any order. No Go program in it. -/
import Derived.Test.YtmihmgnjnedfcaaAMJ
set_option linter.unusedSimpArgs false
set_option linter.unusedVariables false
namespace Go.AM
open Go

/-- Number i of the region is the abstract operation g. -/
def Match (P : Program) (N : Nat) (md : FuncId → Nat) (ops : Array Oper) (i : Nat) (g : GOp) : Prop :=
  ∃ o g0, ops[i]? = some o ∧ cgop P N md ops o = some g0 ∧ g.o = g0.o ∧ g.d = g0.d ∧ g.g = g0.g

def depsOf (o : Oper) : List Nat := (o.after.toList.filter (Region.binds .any ·)).map (·.on)

/-- A table of the operations that come before each one. -/
def tabOf (ops : Array Oper) : Array Nat := ops.foldl (init := #[]) fun acc o => acc.push ((depsOf o).foldl (fun s i => s ||| 2 ^ i ||| acc.getD i 0) 0)

def tabOk (ops : Array Oper) (tab : Array Nat) : Bool := (List.range ops.size).all fun j => tab.getD j 0 == (depsOf (ops.getD j default)).foldl (fun s i => s ||| 2 ^ i ||| tab.getD i 0) 0

def linGo (ops : Array Oper) : List Nat → List Nat → Bool
  | _, [] => true
  | done, i :: r => !done.contains i && decide (i < ops.size) && (depsOf (ops.getD i default)).all (done.contains ·) && linGo ops (i :: done) r

def pairsGo (tab : Array Nat) : List (Nat × GOp) → Bool
  | [] => true
  | (i, g) :: r => r.all (fun p => (tab.getD p.1 0).testBit i || swapOk g p.2) && pairsGo tab r

theorem foldl_bits (tab : Array Nat) : ∀ (l : List Nat) (s x : Nat), (l.foldl (fun s i => s ||| 2 ^ i ||| tab.getD i 0) s).testBit x = true → s.testBit x = true ∨ ∃ i ∈ l, x = i ∨ (tab.getD i 0).testBit x = true
  | [], s, x, h => .inl h
  | i :: l, s, x, h => by
    simp only [List.foldl_cons] at h
    rcases foldl_bits tab l _ x h with h | ⟨j, hj, hx⟩
    · simp only [Nat.testBit_or, Bool.or_eq_true] at h
      rcases h with (h | h) | h
      · exact .inl h
      · refine .inr ⟨i, by simp, .inl ?_⟩
        rw [Nat.testBit_two_pow] at h
        exact (of_decide_eq_true h).symm
      · exact .inr ⟨i, by simp, .inr h⟩
    · exact .inr ⟨j, List.mem_cons_of_mem _ hj, hx⟩

section
variable {P : Program} {T : Nat → Prop} {N : Nat} {fr : Fr} {h : Hp} {a : Act} {w : World} {md : FuncId → Nat} {ops : Array Oper} {Q : Exit → Act → World → Prop}

theorem St.trans {h0 : Hp} {w0 : World} {K : Fr → Hp → Prop} (ev : Evo h0 w0 h w) {a' : Act} {w' : World} (s : St T N h w K a' w') : St T N h0 w0 K a' w' :=
  let ⟨fr', h', hK, rel, ev'⟩ := s
  ⟨fr', h', hK, rel, ev.trans ev'⟩

theorem step_sound {i : Nat} {g : GOp} (hm : Match P N md ops i g) (rel : Rel T N fr h a w) {K : Fr → Hp → Prop} (hK : aop P g K fr h) {K' : Act → World → Prop} (hk : ∀ a' w', St T N h w K a' w' → K' a' w') : wpOp P ops Q i K' a w := by
  obtain ⟨o, g0, ho, hc, h1, h2, h3⟩ := hm
  have := aop_sound rel hc h1 h2 h3 hK (Q := Q)
  unfold wpOp
  simp only [ho]
  split at this
  · rename_i hw
    rw [if_pos hw]
    exact .inl (Oper.wp_mono hk this)
  · rename_i hw
    rw [if_neg hw]
    exact hk _ _ this

/-- In the text's order. -/
theorem text_sound {h0 : Hp} {w0 : World} {K : Fr → Hp → Prop} (hQ : ∀ a' w', St T N h0 w0 K a' w' → Q .normal a' w') : ∀ (idx : List Nat) (gs : List GOp) (fr : Fr) (h : Hp) (a : Act) (w : World), idx.length = gs.length →
    (∀ (p : Nat) (h1 : p < idx.length) (h2 : p < gs.length), Match P N md ops idx[p] gs[p]) → Evo h0 w0 h w → Rel T N fr h a w → aops P K gs fr h → wpOps P ops Q idx a w
  | [], [], fr, h, a, w, _, _, ev, rel, hK => by
    simp only [wpOps]
    exact hQ a w ⟨fr, h, hK, rel, ev⟩
  | i :: idx, g :: gs, fr, h, a, w, hl, hm, ev, rel, hK => by
    rw [wpOps_cons]
    refine step_sound (hm 0 (by simp) (by simp)) rel hK fun a' w' s => ?_
    obtain ⟨fr', h', hK', rel', ev'⟩ := s
    exact text_sound hQ idx gs fr' h' a' w' (by simpa using hl) (fun p h1 h2 => hm (p + 1) (by simp; omega) (by simp; omega)) (ev.trans ev') rel' hK'
  | [], _ :: _, _, _, _, _, hl, _, _, _, _ => by simp at hl
  | _ :: _, [], _, _, _, _, hl, _, _, _, _ => by simp at hl

theorem aops_mono {K K' : Fr → Hp → Prop} (hk : ∀ fr h, K fr h → K' fr h) : ∀ (gs : List GOp) (fr : Fr) (h : Hp), aops P K gs fr h → aops P K' gs fr h
  | [], fr, h, a => hk _ _ a
  | g :: gs, fr, h, a => eff_mono (fun v h' hh => aops_mono hk gs _ _ hh) a

theorem aop_swap {x y : GOp} (hs : swapOk x y = true) (fin : Fin h) {K : Fr → Hp → Prop} (a : aop P x (aop P y K) fr h) : aop P y (aop P x K) fr h := by
  have hs' := hs
  unfold swapOk at hs'
  simp only [Bool.and_eq_true] at hs'
  obtain ⟨⟨h1, h2⟩, _⟩ := hs'
  have a1 : ∀ s, x.d = some s → s ∉ y.uses := by
    intro s hd hmem
    rw [hd] at h1
    simp only [Bool.and_eq_true, Bool.not_eq_true'] at h1
    rw [List.contains_eq_mem] at h1
    exact absurd hmem (by simpa using h1.1)
  have a2 : ∀ s, y.d = some s → s ∉ x.uses := by
    intro s hd hmem
    rw [hd] at h2
    simp only [Bool.not_eq_true'] at h2
    rw [List.contains_eq_mem] at h2
    exact absurd hmem (by simpa using h2)
  have a3 : ∀ s, x.d = some s → y.d ≠ some s := by
    intro s hd
    rw [hd] at h1
    simp only [Bool.and_eq_true, bne_iff_ne] at h1
    exact h1.2
  unfold aop at a ⊢
  have := eff_swap (R := fun v u h'' => K (updO (updO fr x.d v) y.d u) h'') hs fin (eff_mono (fun v h' hh => by rw [eff_updO a1] at hh; exact hh) a)
  refine eff_mono (fun u h' hh => ?_) this
  rw [eff_updO a2]
  exact eff_mono (fun v h'' hk => by rw [← updO_comm a3]; exact hk) hh

theorem move_front {K : Fr → Hp → Prop} {g : GOp} {post : List GOp} : ∀ (pre : List GOp) (fr : Fr) (h : Hp), (∀ x ∈ pre, swapOk x g = true) → Fin h → aops P K (pre ++ g :: post) fr h → aops P K (g :: (pre ++ post)) fr h
  | [], _, _, _, _, a => a
  | x :: pre, fr, h, hs, fin, a => by
    have a' : aop P x (aop P g (aops P K (pre ++ post))) fr h := by
      have a0 : aop P x (aops P K (pre ++ g :: post)) fr h := a
      unfold aop at a0 ⊢
      exact eff_mono (fun v h' hh => move_front pre _ _ (fun y hy => hs y (List.mem_cons_of_mem _ hy)) hh.2 hh.1) (eff_fin fin a0)
    exact aop_swap (hs x (List.mem_cons_self ..)) fin a'

theorem getD_set {l : Array Bool} {i j : Nat} {d : Bool} (hi : i < l.size) : (l.setIfInBounds i true).getD j d = if i = j then true else l.getD j d := by
  rw [Array.getD_eq_getD_getElem?, Array.getD_eq_getD_getElem?, Array.getElem?_setIfInBounds]
  by_cases hij : i = j
  · subst hij
    simp [hi]
  · simp [hij]

/-- In any order. -/
theorem any_sound {tab : Array Nat} (htab : tabOk ops tab = true) {h0 : Hp} {w0 : World} {K : Fr → Hp → Prop} (hQ : ∀ a' w', St T N h0 w0 K a' w' → Q .normal a' w') : ∀ (fuel : Nat) (listed : Array Bool) (rem : List (Nat × GOp)) (fr : Fr) (h : Hp)
    (a : Act) (w : World), listed.size = ops.size → rem.length = fuel → (∀ i, i < ops.size → (listed.getD i true = false ↔ i ∈ rem.map (·.1))) → (rem.map (·.1)).Nodup → (∀ p ∈ rem, p.1 < ops.size) →
    (∀ (pre post : List (Nat × GOp)) (p : Nat × GOp), rem = pre ++ p :: post → ∀ d ∈ depsOf (ops.getD p.1 default), listed.getD d false = true ∨ d ∈ pre.map (·.1)) →
    (∀ (pre post : List (Nat × GOp)) (p : Nat × GOp), rem = pre ++ p :: post → ∀ x ∈ pre, (tab.getD p.1 0).testBit x.1 = true ∨ swapOk x.2 p.2 = true) →
    (∀ y, y < ops.size → listed.getD y false = true → ∀ x, (tab.getD y 0).testBit x = true → listed.getD x false = true) →
    (∀ p ∈ rem, Match P N md ops p.1 p.2) → Evo h0 w0 h w → Rel T N fr h a w → aops P K (rem.map (·.2)) fr h → wpAny P .any ops Q fuel listed a w := by
  have tabSpec : ∀ j, j < ops.size → ∀ x, (tab.getD j 0).testBit x = true → ∃ d ∈ depsOf (ops.getD j default), x = d ∨ (tab.getD d 0).testBit x = true := by
    intro j hj x hx
    have := List.all_eq_true.1 htab j (List.mem_range.2 hj)
    rw [beq_iff_eq] at this
    rw [this] at hx
    rcases foldl_bits tab _ 0 x hx with h | h
    · simp at h
    · exact h
  intro fuel
  induction fuel with
  | zero =>
    intro listed rem fr h a w hsz hl hrem hnd hlt hlin hpairs hclosed hmatch ev rel hK
    have hnil : rem = [] := List.eq_nil_of_length_eq_zero hl
    subst hnil
    refine ⟨?_, hQ a w ⟨fr, h, hK, rel, ev⟩⟩
    apply List.eq_nil_iff_forall_not_mem.2
    intro i hi
    obtain ⟨h1, o, ho, _⟩ := mem_ready.1 hi
    have hio : i < ops.size := (Array.getElem?_eq_some_iff.1 ho).1
    have := (hrem i hio).1 h1
    simp at this
  | succ fuel ih =>
    intro listed rem fr h a w hsz hl hrem hnd hlt hlin hpairs hclosed hmatch ev rel hK
    refine ⟨fun hr => ?_, fun i hi => ?_⟩
    · -- something is ready
      exfalso
      cases hrem' : rem with
      | nil => rw [hrem'] at hl; simp at hl
      | cons p post =>
        have hp : p ∈ rem := by rw [hrem']; simp
        have hpl := hlt p hp
        have : p.1 ∈ Region.ready .any ops listed := by
          refine mem_ready.2 ⟨(hrem p.1 hpl).2 (List.mem_map.2 ⟨p, hp, rfl⟩), ops[p.1], by simp [hpl], fun e he hb => ?_⟩
          have hd : e.on ∈ depsOf (ops.getD p.1 default) := by
            have : ops.getD p.1 default = ops[p.1] := by simp [Array.getD, hpl]
            rw [this]
            exact List.mem_map.2 ⟨e, List.mem_filter.2 ⟨by simpa using he, hb⟩, rfl⟩
          rcases hlin [] post p (by rw [hrem']; rfl) e.on hd with h1 | h1
          · exact h1
          · simp at h1
        rw [hr] at this
        cases this
    · obtain ⟨h1, o, ho, hall⟩ := mem_ready.1 hi
      have hio : i < ops.size := (Array.getElem?_eq_some_iff.1 ho).1
      have hil : i < listed.size := by rw [hsz]; exact hio
      obtain ⟨p, hp, hpi⟩ := List.mem_map.1 ((hrem i hio).1 h1)
      obtain ⟨pre, post, hsplit⟩ := List.append_of_mem hp
      have hdeps : ∀ d ∈ depsOf (ops.getD i default), listed.getD d false = true := by
        intro d hd
        have e : ops.getD i default = o := by simp [Array.getD, hio, (Array.getElem?_eq_some_iff.1 ho).2]
        rw [e] at hd
        obtain ⟨e', he', rfl⟩ := List.mem_map.1 hd
        obtain ⟨g1, g2⟩ := List.mem_filter.1 he'
        exact hall e' (by simpa using g1) g2
      have hanc : ∀ x, (tab.getD i 0).testBit x = true → listed.getD x false = true := by
        intro x hx
        obtain ⟨d, hd, hxd⟩ := tabSpec i hio x hx
        have hld := hdeps d hd
        rcases hxd with rfl | hxd
        · exact hld
        · have hdl : d < ops.size := by
            rw [Array.getD_eq_getD_getElem?] at hld
            cases hq : listed[d]? with
            | none => rw [hq] at hld; cases hld
            | some b => rw [← hsz]; exact (Array.getElem?_eq_some_iff.1 hq).1
          exact hclosed d hdl hld x hxd
      have hswap : ∀ x ∈ pre.map (·.2), swapOk x p.2 = true := by
        intro x hx
        obtain ⟨q, hq, rfl⟩ := List.mem_map.1 hx
        rcases hpairs pre post p hsplit q hq with g | g
        · exfalso
          rw [hpi] at g
          have hql := hanc _ g
          have hqr : q ∈ rem := by rw [hsplit]; simp [hq]
          have := (hrem q.1 (hlt q hqr)).2 (List.mem_map.2 ⟨q, hqr, rfl⟩)
          rw [Array.getD_eq_getD_getElem?] at hql this
          cases hqq : listed[q.1]? with
          | none => rw [hqq] at hql; cases hql
          | some b => rw [hqq] at hql this; simp at hql this; rw [hql] at this; cases this
        · exact g
      have hK' : aops P K (p.2 :: (pre.map (·.2) ++ post.map (·.2))) fr h := by
        refine move_front _ fr h hswap rel.heap.fin ?_
        rw [hsplit, List.map_append, List.map_cons] at hK
        exact hK
      have hmp := hmatch p hp
      rw [hpi] at hmp
      refine step_sound hmp rel hK' fun a' w' s => ?_
      obtain ⟨fr', h', hK2, rel', ev'⟩ := s
      have hnd' : ((pre ++ post).map (·.1)).Nodup ∧ i ∉ (pre ++ post).map (·.1) := by
        rw [hsplit] at hnd
        simp only [List.map_append, List.map_cons] at hnd ⊢
        rw [hpi] at hnd
        rw [List.nodup_append] at hnd ⊢
        obtain ⟨n1, n2, n3⟩ := hnd
        rw [List.nodup_cons] at n2
        refine ⟨⟨n1, n2.2, fun x hx y hy => n3 x hx y (List.mem_cons_of_mem _ hy)⟩, fun hmem => ?_⟩
        rcases List.mem_append.1 hmem with hm | hm
        · exact n3 i hm i (List.mem_cons_self ..) rfl
        · exact n2.1 hm
      have hsub : ∀ q, q ∈ pre ++ post → q ∈ rem := by
        intro q hq
        rw [hsplit]
        rcases List.mem_append.1 hq with hq | hq
        · simp [hq]
        · simp [hq]
      refine ih (listed.setIfInBounds i true) (pre ++ post) fr' h' a' w' (by simpa using hsz) ?_ ?_ hnd'.1 (fun q hq => hlt q (hsub q hq)) ?_ ?_ ?_ (fun q hq => hmatch q (hsub q hq)) (ev.trans ev') rel' (by rw [List.map_append]; exact hK2)
      · rw [hsplit] at hl
        simp at hl ⊢
        omega
      · intro x hx
        rw [getD_set hil]
        by_cases hix : i = x
        · subst hix
          rw [if_pos rfl]
          exact ⟨(fun hh => by cases hh), fun hh => absurd hh hnd'.2⟩
        · rw [if_neg hix, hrem x hx, hsplit]
          simp only [List.map_append, List.map_cons, List.mem_append, List.mem_cons, hpi]
          constructor
          · rintro (g | g | g)
            · exact .inl g
            · exact absurd g.symm hix
            · exact .inr g
          · rintro (g | g)
            · exact .inl g
            · exact .inr (.inr g)
      · intro pre' post' q heq d hd
        rw [getD_set hil]
        by_cases hid : i = d
        · rw [if_pos hid]
          exact .inl rfl
        · rw [if_neg hid]
          -- where q stands in the old list
          rcases List.append_eq_append_iff.1 heq with ⟨as, g1, g2⟩ | ⟨bs, g1, g2⟩
          · -- pre' = pre ++ as, post = as ++ q :: post'
            have := hlin (pre ++ p :: as) post' q (by rw [hsplit, g2]; simp) d hd
            rcases this with g | g
            · exact .inl g
            · refine .inr ?_
              rw [g1]
              simp only [List.map_append, List.map_cons, List.mem_append, List.mem_cons, hpi] at g ⊢
              rcases g with g | g | g
              · exact .inl g
              · exact absurd g.symm hid
              · exact .inr g
          · cases bs with
            | nil =>
              simp only [List.append_nil, List.nil_append] at g1 g2
              have := hlin (pre ++ [p]) post' q (by rw [hsplit, ← g2]; simp) d hd
              rcases this with g | g
              · exact .inl g
              · refine .inr ?_
                rw [← g1]
                simp only [List.map_append, List.map_cons, List.map_nil, List.mem_append, List.mem_cons, List.not_mem_nil, or_false, hpi] at g
                rcases g with g | g
                · exact g
                · exact absurd g.symm hid
            | cons b bs =>
              simp only [List.cons_append, List.cons.injEq] at g2
              obtain ⟨rfl, g2⟩ := g2
              have := hlin pre' (bs ++ p :: post) q (by rw [hsplit, g1]; simp) d hd
              exact this
      · intro pre' post' q heq x hx
        rcases List.append_eq_append_iff.1 heq with ⟨as, g1, g2⟩ | ⟨bs, g1, g2⟩
        · refine hpairs (pre ++ p :: as) post' q (by rw [hsplit, g2]; simp) x ?_
          rw [g1] at hx
          rcases List.mem_append.1 hx with hx | hx
          · simp [hx]
          · simp [hx]
        · cases bs with
          | nil =>
            simp only [List.append_nil, List.nil_append] at g1 g2
            refine hpairs (pre ++ [p]) post' q (by rw [hsplit, ← g2]; simp) x ?_
            rw [g1]
            simp [hx]
          | cons b bs =>
            simp only [List.cons_append, List.cons.injEq] at g2
            obtain ⟨rfl, g2⟩ := g2
            exact hpairs pre' (bs ++ p :: post) q (by rw [hsplit, g1]; simp) x hx
      · intro y hy hyl x hx
        rw [getD_set hil] at hyl ⊢
        by_cases hix : i = x
        · rw [if_pos hix]
        · rw [if_neg hix]
          by_cases hiy : i = y
          · subst hiy
            exact hanc x hx
          · rw [if_neg hiy] at hyl
            exact hclosed y hy hyl x hx

end
end Go.AM
