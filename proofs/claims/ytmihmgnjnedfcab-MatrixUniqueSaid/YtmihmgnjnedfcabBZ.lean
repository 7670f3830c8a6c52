import Derived.Test.YtmihmgnjnedfcabBA
import Derived.IntWalk
import Derived.Deep.Slices
import Derived.WideKeyArgs
import Derived.SizedLaws
import Derived.ChangeSame
import Derived.RowKit
import Derived.Below
import Derived.OpenShut
import Derived.ChangeCalls

section
/- The logic AM: regions, in the text's order and in any order. No Go program in it. -/
set_option linter.unusedSimpArgs false
set_option linter.unusedVariables false
namespace Go.AM
open Go

/-- Number i of the region is the abstract operation g. -/
def Match (P : Program) (N : Nat) (md : FuncId → Nat) (ops : Array Oper) (i : Nat) (g : GOp) : Prop :=
  ∃ o g0, ops[i]? = some o ∧ cgop P N md ops o = some g0 ∧ g.o = g0.o ∧ g.d = g0.d ∧ g.g = g0.g

def depsOf (o : Oper) : List Nat := (o.after.toList.filter (Region.binds .any ·)).map (·.on)

/-- A table of the operations that come before each one. -/
def tabOf (ops : Array Oper) : Array Nat := ops.foldl (init := #[]) fun acc o => acc.push ((depsOf o).foldl (fun s i => s ||| 2 ^ i ||| acc.getD i 0) 0)

def tabOk (ops : Array Oper) (tab : Array Nat) : Bool := (List.range ops.size).all fun j => tab.getD j 0 == (depsOf (ops.getD j default)).foldl (fun s i => s ||| 2 ^ i ||| tab.getD i 0) 0

def linGo (ops : Array Oper) : List Nat → List Nat → Bool
  | _, [] => true
  | done, i :: r => !done.contains i && decide (i < ops.size) && (depsOf (ops.getD i default)).all (done.contains ·) && linGo ops (i :: done) r

def pairsGo (tab : Array Nat) : List (Nat × GOp) → Bool
  | [] => true
  | (i, g) :: r => r.all (fun p => (tab.getD p.1 0).testBit i || swapOk g p.2) && pairsGo tab r

theorem foldl_bits (tab : Array Nat) : ∀ (l : List Nat) (s x : Nat), (l.foldl (fun s i => s ||| 2 ^ i ||| tab.getD i 0) s).testBit x = true → s.testBit x = true ∨ ∃ i ∈ l, x = i ∨ (tab.getD i 0).testBit x = true
  | [], s, x, h => .inl h
  | i :: l, s, x, h => by
    simp only [List.foldl_cons] at h
    rcases foldl_bits tab l _ x h with h | ⟨j, hj, hx⟩
    · simp only [Nat.testBit_or, Bool.or_eq_true] at h
      rcases h with (h | h) | h
      · exact .inl h
      · refine .inr ⟨i, by simp, .inl ?_⟩
        rw [Nat.testBit_two_pow] at h
        exact (of_decide_eq_true h).symm
      · exact .inr ⟨i, by simp, .inr h⟩
    · exact .inr ⟨j, List.mem_cons_of_mem _ hj, hx⟩

section
variable {P : Program} {T : Nat → Prop} {N : Nat} {fr : Fr} {h : Hp} {a : Act} {w : World} {md : FuncId → Nat} {ops : Array Oper} {Q : Exit → Act → World → Prop}

theorem St.trans {h0 : Hp} {w0 : World} {K : Fr → Hp → Prop} (ev : Evo h0 w0 h w) {a' : Act} {w' : World} (s : St T N h w K a' w') : St T N h0 w0 K a' w' :=
  let ⟨fr', h', hK, rel, ev'⟩ := s
  ⟨fr', h', hK, rel, ev.trans ev'⟩

theorem step_sound {i : Nat} {g : GOp} (hm : Match P N md ops i g) (rel : Rel T N fr h a w) {K : Fr → Hp → Prop} (hK : aop P g K fr h) {K' : Act → World → Prop} (hk : ∀ a' w', St T N h w K a' w' → K' a' w') : wpOp P ops Q i K' a w := by
  obtain ⟨o, g0, ho, hc, h1, h2, h3⟩ := hm
  have := aop_sound rel hc h1 h2 h3 hK (Q := Q)
  unfold wpOp
  simp only [ho]
  split at this
  · rename_i hw
    rw [if_pos hw]
    exact .inl (Oper.wp_mono hk this)
  · rename_i hw
    rw [if_neg hw]
    exact hk _ _ this

/-- In the text's order. -/
theorem text_sound {h0 : Hp} {w0 : World} {K : Fr → Hp → Prop} (hQ : ∀ a' w', St T N h0 w0 K a' w' → Q .normal a' w') : ∀ (idx : List Nat) (gs : List GOp) (fr : Fr) (h : Hp) (a : Act) (w : World), idx.length = gs.length →
    (∀ (p : Nat) (h1 : p < idx.length) (h2 : p < gs.length), Match P N md ops idx[p] gs[p]) → Evo h0 w0 h w → Rel T N fr h a w → aops P K gs fr h → wpOps P ops Q idx a w
  | [], [], fr, h, a, w, _, _, ev, rel, hK => by
    simp only [wpOps]
    exact hQ a w ⟨fr, h, hK, rel, ev⟩
  | i :: idx, g :: gs, fr, h, a, w, hl, hm, ev, rel, hK => by
    rw [wpOps_cons]
    refine step_sound (hm 0 (by simp) (by simp)) rel hK fun a' w' s => ?_
    obtain ⟨fr', h', hK', rel', ev'⟩ := s
    exact text_sound hQ idx gs fr' h' a' w' (by simpa using hl) (fun p h1 h2 => hm (p + 1) (by simp; omega) (by simp; omega)) (ev.trans ev') rel' hK'
  | [], _ :: _, _, _, _, _, hl, _, _, _, _ => by simp at hl
  | _ :: _, [], _, _, _, _, hl, _, _, _, _ => by simp at hl

theorem aops_mono {K K' : Fr → Hp → Prop} (hk : ∀ fr h, K fr h → K' fr h) : ∀ (gs : List GOp) (fr : Fr) (h : Hp), aops P K gs fr h → aops P K' gs fr h
  | [], fr, h, a => hk _ _ a
  | g :: gs, fr, h, a => eff_mono (fun v h' hh => aops_mono hk gs _ _ hh) a

theorem aop_swap {x y : GOp} (hs : swapOk x y = true) (fin : Fin h) {K : Fr → Hp → Prop} (a : aop P x (aop P y K) fr h) : aop P y (aop P x K) fr h := by
  have hs' := hs
  unfold swapOk at hs'
  simp only [Bool.and_eq_true] at hs'
  obtain ⟨⟨h1, h2⟩, _⟩ := hs'
  have a1 : ∀ s, x.d = some s → s ∉ y.uses := by
    intro s hd hmem
    rw [hd] at h1
    simp only [Bool.and_eq_true, Bool.not_eq_true'] at h1
    rw [List.contains_eq_mem] at h1
    exact absurd hmem (by simpa using h1.1)
  have a2 : ∀ s, y.d = some s → s ∉ x.uses := by
    intro s hd hmem
    rw [hd] at h2
    simp only [Bool.not_eq_true'] at h2
    rw [List.contains_eq_mem] at h2
    exact absurd hmem (by simpa using h2)
  have a3 : ∀ s, x.d = some s → y.d ≠ some s := by
    intro s hd
    rw [hd] at h1
    simp only [Bool.and_eq_true, bne_iff_ne] at h1
    exact h1.2
  unfold aop at a ⊢
  have := eff_swap (R := fun v u h'' => K (updO (updO fr x.d v) y.d u) h'') hs fin (eff_mono (fun v h' hh => by rw [eff_updO a1] at hh; exact hh) a)
  refine eff_mono (fun u h' hh => ?_) this
  rw [eff_updO a2]
  exact eff_mono (fun v h'' hk => by rw [← updO_comm a3]; exact hk) hh

theorem move_front {K : Fr → Hp → Prop} {g : GOp} {post : List GOp} : ∀ (pre : List GOp) (fr : Fr) (h : Hp), (∀ x ∈ pre, swapOk x g = true) → Fin h → aops P K (pre ++ g :: post) fr h → aops P K (g :: (pre ++ post)) fr h
  | [], _, _, _, _, a => a
  | x :: pre, fr, h, hs, fin, a => by
    have a' : aop P x (aop P g (aops P K (pre ++ post))) fr h := by
      have a0 : aop P x (aops P K (pre ++ g :: post)) fr h := a
      unfold aop at a0 ⊢
      exact eff_mono (fun v h' hh => move_front pre _ _ (fun y hy => hs y (List.mem_cons_of_mem _ hy)) hh.2 hh.1) (eff_fin fin a0)
    exact aop_swap (hs x (List.mem_cons_self ..)) fin a'

theorem getD_set {l : Array Bool} {i j : Nat} {d : Bool} (hi : i < l.size) : (l.setIfInBounds i true).getD j d = if i = j then true else l.getD j d := by
  rw [Array.getD_eq_getD_getElem?, Array.getD_eq_getD_getElem?, Array.getElem?_setIfInBounds]
  by_cases hij : i = j
  · subst hij
    simp [hi]
  · simp [hij]

/-- In any order. -/
theorem any_sound {tab : Array Nat} (htab : tabOk ops tab = true) {h0 : Hp} {w0 : World} {K : Fr → Hp → Prop} (hQ : ∀ a' w', St T N h0 w0 K a' w' → Q .normal a' w') : ∀ (fuel : Nat) (listed : Array Bool) (rem : List (Nat × GOp)) (fr : Fr) (h : Hp)
    (a : Act) (w : World), listed.size = ops.size → rem.length = fuel → (∀ i, i < ops.size → (listed.getD i true = false ↔ i ∈ rem.map (·.1))) → (rem.map (·.1)).Nodup → (∀ p ∈ rem, p.1 < ops.size) →
    (∀ (pre post : List (Nat × GOp)) (p : Nat × GOp), rem = pre ++ p :: post → ∀ d ∈ depsOf (ops.getD p.1 default), listed.getD d false = true ∨ d ∈ pre.map (·.1)) →
    (∀ (pre post : List (Nat × GOp)) (p : Nat × GOp), rem = pre ++ p :: post → ∀ x ∈ pre, (tab.getD p.1 0).testBit x.1 = true ∨ swapOk x.2 p.2 = true) →
    (∀ y, y < ops.size → listed.getD y false = true → ∀ x, (tab.getD y 0).testBit x = true → listed.getD x false = true) →
    (∀ p ∈ rem, Match P N md ops p.1 p.2) → Evo h0 w0 h w → Rel T N fr h a w → aops P K (rem.map (·.2)) fr h → wpAny P .any ops Q fuel listed a w := by
  have tabSpec : ∀ j, j < ops.size → ∀ x, (tab.getD j 0).testBit x = true → ∃ d ∈ depsOf (ops.getD j default), x = d ∨ (tab.getD d 0).testBit x = true := by
    intro j hj x hx
    have := List.all_eq_true.1 htab j (List.mem_range.2 hj)
    rw [beq_iff_eq] at this
    rw [this] at hx
    rcases foldl_bits tab _ 0 x hx with h | h
    · simp at h
    · exact h
  intro fuel
  induction fuel with
  | zero =>
    intro listed rem fr h a w hsz hl hrem hnd hlt hlin hpairs hclosed hmatch ev rel hK
    have hnil : rem = [] := List.eq_nil_of_length_eq_zero hl
    subst hnil
    refine ⟨?_, hQ a w ⟨fr, h, hK, rel, ev⟩⟩
    apply List.eq_nil_iff_forall_not_mem.2
    intro i hi
    obtain ⟨h1, o, ho, _⟩ := mem_ready.1 hi
    have hio : i < ops.size := (Array.getElem?_eq_some_iff.1 ho).1
    have := (hrem i hio).1 h1
    simp at this
  | succ fuel ih =>
    intro listed rem fr h a w hsz hl hrem hnd hlt hlin hpairs hclosed hmatch ev rel hK
    refine ⟨fun hr => ?_, fun i hi => ?_⟩
    · -- something is ready
      exfalso
      cases hrem' : rem with
      | nil => rw [hrem'] at hl; simp at hl
      | cons p post =>
        have hp : p ∈ rem := by rw [hrem']; simp
        have hpl := hlt p hp
        have : p.1 ∈ Region.ready .any ops listed := by
          refine mem_ready.2 ⟨(hrem p.1 hpl).2 (List.mem_map.2 ⟨p, hp, rfl⟩), ops[p.1], by simp [hpl], fun e he hb => ?_⟩
          have hd : e.on ∈ depsOf (ops.getD p.1 default) := by
            have : ops.getD p.1 default = ops[p.1] := by simp [Array.getD, hpl]
            rw [this]
            exact List.mem_map.2 ⟨e, List.mem_filter.2 ⟨by simpa using he, hb⟩, rfl⟩
          rcases hlin [] post p (by rw [hrem']; rfl) e.on hd with h1 | h1
          · exact h1
          · simp at h1
        rw [hr] at this
        cases this
    · obtain ⟨h1, o, ho, hall⟩ := mem_ready.1 hi
      have hio : i < ops.size := (Array.getElem?_eq_some_iff.1 ho).1
      have hil : i < listed.size := by rw [hsz]; exact hio
      obtain ⟨p, hp, hpi⟩ := List.mem_map.1 ((hrem i hio).1 h1)
      obtain ⟨pre, post, hsplit⟩ := List.append_of_mem hp
      have hdeps : ∀ d ∈ depsOf (ops.getD i default), listed.getD d false = true := by
        intro d hd
        have e : ops.getD i default = o := by simp [Array.getD, hio, (Array.getElem?_eq_some_iff.1 ho).2]
        rw [e] at hd
        obtain ⟨e', he', rfl⟩ := List.mem_map.1 hd
        obtain ⟨g1, g2⟩ := List.mem_filter.1 he'
        exact hall e' (by simpa using g1) g2
      have hanc : ∀ x, (tab.getD i 0).testBit x = true → listed.getD x false = true := by
        intro x hx
        obtain ⟨d, hd, hxd⟩ := tabSpec i hio x hx
        have hld := hdeps d hd
        rcases hxd with rfl | hxd
        · exact hld
        · have hdl : d < ops.size := by
            rw [Array.getD_eq_getD_getElem?] at hld
            cases hq : listed[d]? with
            | none => rw [hq] at hld; cases hld
            | some b => rw [← hsz]; exact (Array.getElem?_eq_some_iff.1 hq).1
          exact hclosed d hdl hld x hxd
      have hswap : ∀ x ∈ pre.map (·.2), swapOk x p.2 = true := by
        intro x hx
        obtain ⟨q, hq, rfl⟩ := List.mem_map.1 hx
        rcases hpairs pre post p hsplit q hq with g | g
        · exfalso
          rw [hpi] at g
          have hql := hanc _ g
          have hqr : q ∈ rem := by rw [hsplit]; simp [hq]
          have := (hrem q.1 (hlt q hqr)).2 (List.mem_map.2 ⟨q, hqr, rfl⟩)
          rw [Array.getD_eq_getD_getElem?] at hql this
          cases hqq : listed[q.1]? with
          | none => rw [hqq] at hql; cases hql
          | some b => rw [hqq] at hql this; simp at hql this; rw [hql] at this; cases this
        · exact g
      have hK' : aops P K (p.2 :: (pre.map (·.2) ++ post.map (·.2))) fr h := by
        refine move_front _ fr h hswap rel.heap.fin ?_
        rw [hsplit, List.map_append, List.map_cons] at hK
        exact hK
      have hmp := hmatch p hp
      rw [hpi] at hmp
      refine step_sound hmp rel hK' fun a' w' s => ?_
      obtain ⟨fr', h', hK2, rel', ev'⟩ := s
      have hnd' : ((pre ++ post).map (·.1)).Nodup ∧ i ∉ (pre ++ post).map (·.1) := by
        rw [hsplit] at hnd
        simp only [List.map_append, List.map_cons] at hnd ⊢
        rw [hpi] at hnd
        rw [List.nodup_append] at hnd ⊢
        obtain ⟨n1, n2, n3⟩ := hnd
        rw [List.nodup_cons] at n2
        refine ⟨⟨n1, n2.2, fun x hx y hy => n3 x hx y (List.mem_cons_of_mem _ hy)⟩, fun hmem => ?_⟩
        rcases List.mem_append.1 hmem with hm | hm
        · exact n3 i hm i (List.mem_cons_self ..) rfl
        · exact n2.1 hm
      have hsub : ∀ q, q ∈ pre ++ post → q ∈ rem := by
        intro q hq
        rw [hsplit]
        rcases List.mem_append.1 hq with hq | hq
        · simp [hq]
        · simp [hq]
      refine ih (listed.setIfInBounds i true) (pre ++ post) fr' h' a' w' (by simpa using hsz) ?_ ?_ hnd'.1 (fun q hq => hlt q (hsub q hq)) ?_ ?_ ?_ (fun q hq => hmatch q (hsub q hq)) (ev.trans ev') rel' (by rw [List.map_append]; exact hK2)
      · rw [hsplit] at hl
        simp at hl ⊢
        omega
      · intro x hx
        rw [getD_set hil]
        by_cases hix : i = x
        · subst hix
          rw [if_pos rfl]
          exact ⟨(fun hh => by cases hh), fun hh => absurd hh hnd'.2⟩
        · rw [if_neg hix, hrem x hx, hsplit]
          simp only [List.map_append, List.map_cons, List.mem_append, List.mem_cons, hpi]
          constructor
          · rintro (g | g | g)
            · exact .inl g
            · exact absurd g.symm hix
            · exact .inr g
          · rintro (g | g)
            · exact .inl g
            · exact .inr (.inr g)
      · intro pre' post' q heq d hd
        rw [getD_set hil]
        by_cases hid : i = d
        · rw [if_pos hid]
          exact .inl rfl
        · rw [if_neg hid]
          -- where q stands in the old list
          rcases List.append_eq_append_iff.1 heq with ⟨as, g1, g2⟩ | ⟨bs, g1, g2⟩
          · -- pre' = pre ++ as, post = as ++ q :: post'
            have := hlin (pre ++ p :: as) post' q (by rw [hsplit, g2]; simp) d hd
            rcases this with g | g
            · exact .inl g
            · refine .inr ?_
              rw [g1]
              simp only [List.map_append, List.map_cons, List.mem_append, List.mem_cons, hpi] at g ⊢
              rcases g with g | g | g
              · exact .inl g
              · exact absurd g.symm hid
              · exact .inr g
          · cases bs with
            | nil =>
              simp only [List.append_nil, List.nil_append] at g1 g2
              have := hlin (pre ++ [p]) post' q (by rw [hsplit, ← g2]; simp) d hd
              rcases this with g | g
              · exact .inl g
              · refine .inr ?_
                rw [← g1]
                simp only [List.map_append, List.map_cons, List.map_nil, List.mem_append, List.mem_cons, List.not_mem_nil, or_false, hpi] at g
                rcases g with g | g
                · exact g
                · exact absurd g.symm hid
            | cons b bs =>
              simp only [List.cons_append, List.cons.injEq] at g2
              obtain ⟨rfl, g2⟩ := g2
              have := hlin pre' (bs ++ p :: post) q (by rw [hsplit, g1]; simp) d hd
              exact this
      · intro pre' post' q heq x hx
        rcases List.append_eq_append_iff.1 heq with ⟨as, g1, g2⟩ | ⟨bs, g1, g2⟩
        · refine hpairs (pre ++ p :: as) post' q (by rw [hsplit, g2]; simp) x ?_
          rw [g1] at hx
          rcases List.mem_append.1 hx with hx | hx
          · simp [hx]
          · simp [hx]
        · cases bs with
          | nil =>
            simp only [List.append_nil, List.nil_append] at g1 g2
            refine hpairs (pre ++ [p]) post' q (by rw [hsplit, ← g2]; simp) x ?_
            rw [g1]
            simp [hx]
          | cons b bs =>
            simp only [List.cons_append, List.cons.injEq] at g2
            obtain ⟨rfl, g2⟩ := g2
            exact hpairs pre' (bs ++ p :: post) q (by rw [hsplit, g1]; simp) x hx
      · intro y hy hyl x hx
        rw [getD_set hil] at hyl ⊢
        by_cases hix : i = x
        · rw [if_pos hix]
        · rw [if_neg hix]
          by_cases hiy : i = y
          · subst hiy
            exact hanc x hx
          · rw [if_neg hiy] at hyl
            exact hclosed y hy hyl x hx

end
end Go.AM
end

section
/- The logic AM: code and functions. No Go program in it. -/
set_option linter.unusedSimpArgs false
set_option linter.unusedVariables false
namespace Go.AM
open Go

inductive SC where
  | skip
  | reg (ops : List GOp)
  | seq (a b : SC)
  | cond (c : SX) (a b : SC)
  | block (id : Nat) (c : SC)
  | loop (c : SC)
  | exit (id : Nat)
  | ret
  /-- here live blocks may be let go; the slots are told anew -/
  | fz (S : List Nat) (c : SC)
  deriving Inhabited

def SC.erase : SC → SC
  | .seq a b => .seq a.erase b.erase
  | .cond c a b => .cond c a.erase b.erase
  | .block id c => .block id c.erase
  | .loop c => .loop c.erase
  | .fz _ c => c.erase
  | c => c

/-! ### The order in which a region that draws is told -/

def rankOf (o : Oper) : Nat := match o.op with
  | .load .. => 1
  | .call c => match c.callee with
    | .builtin .append => 3
    | .builtin .copy => 5
    | .builtin _ => 0
    | _ => 2
  | .alloc _ | .box .. | .buildSlice .. | .makeSlice .. => 4
  | .store .. => 6
  | _ => 0

def pickNext (ops : Array Oper) (done : List Nat) : Option Nat :=
  ((List.range ops.size).filter fun i => !done.contains i && (depsOf (ops.getD i default)).all (done.contains ·)).foldl (init := none) fun best i =>
    match best with
    | none => some i
    | some j => if rankOf (ops.getD i default) < rankOf (ops.getD j default) then some i else some j

def greedy (ops : Array Oper) : Nat → List Nat → List Nat
  | 0, _ => []
  | k + 1, done => match pickNext ops done with
    | some i => i :: greedy ops k (i :: done)
    | none => []

/-- The reads that a store may overtake. -/
def keepsOf (tab : Array Nat) (j : Nat) : List (Nat × GOp) → List (Nat × Nat)
  | [] => []
  | (i, g) :: r => (match g.o with
    | .ld (.t s) n _ => if (tab.getD j 0).testBit i then [] else [(s, n)]
    | _ => []) ++ keepsOf tab j r

def withKeep (tab : Array Nat) (pre : List (Nat × GOp)) (j : Nat) (g : GOp) : GOp := match g.o with
  | .st .. => { g with keep := keepsOf tab j pre }
  | _ => g

def addKeeps (tab : Array Nat) : List (Nat × GOp) → List (Nat × GOp) → List (Nat × GOp)
  | _, [] => []
  | pre, (j, g) :: r => (j, withKeep tab pre j g) :: addKeeps tab (pre ++ [(j, withKeep tab pre j g)]) r

def creg (P : Program) (N : Nat) (md : FuncId → Nat) (ops : Array Oper) (draw : Bool) : Option (List GOp) :=
  if draw then
    let idx := greedy ops ops.size []
    match idx.mapM (fun i => (ops[i]?).bind fun o => (cgop P N md ops o).map fun g => (i, g)) with
    | none => none
    | some gs0 =>
      let tab := tabOf ops
      let gs := addKeeps tab [] gs0
      if P.follows .mixedOrders && tabOk ops tab && linGo ops [] (gs.map (·.1)) && decide (gs.length = ops.size) && pairsGo tab gs then some (gs.map (·.2)) else none
  else ops.toList.mapM (cgop P N (fun _ => 0) ops)

def ccode (P : Program) (N : Nat) (md : FuncId → Nat) : Code → Option SC
  | .skip => some .skip
  | .region _ ops draw => (creg P N md ops draw).map .reg
  | .seq a b => match ccode P N md a, ccode P N md b with
    | some a, some b => some (.seq a b)
    | _, _ => none
  | .cond c a b => match avx N c, ccode P N md a, ccode P N md b with
    | some c, some a, some b => some (.cond c a b)
    | _, _, _ => none
  | .block id c => (ccode P N md c).map (.block id)
  | .loop c => (ccode P N md c).map .loop
  | .exit id => some (.exit id)
  | .ret => some .ret
  | _ => none

inductive AE where
  | normal
  | exit (id : Nat)
  | ret
  deriving DecidableEq

def thenW (k : Fr → Hp → Prop) (K : AE → Fr → Hp → Prop) : AE → Fr → Hp → Prop
  | .normal => k
  | e => K e

def inBlk (id : Nat) (K : AE → Fr → Hp → Prop) : AE → Fr → Hp → Prop
  | .exit i => if i = id then K .normal else K (.exit i)
  | e => K e

def awp (P : Program) : SC → (AE → Fr → Hp → Prop) → Fr → Hp → Prop
  | .skip, K => K .normal
  | .reg ops, K => aops P (K .normal) ops
  | .seq a b, K => awp P a (thenW (awp P b K) K)
  | .cond c a b, K => fun fr h => match ev fr c with
    | .base (.bool t) => if t then awp P a K fr h else awp P b K fr h
    | _ => False
  | .block id c, K => awp P c (inBlk id K)
  | .loop c, K => fun fr h => ∃ I : Nat → Fr → Hp → Prop, (∃ n, I n fr h) ∧ ∀ n fr h, I n fr h → awp P c (thenW (fun fr' h' => ∃ m, m < n ∧ I m fr' h') K) fr h
  | .exit id, K => K (.exit id)
  | .ret, K => K .ret
  | .fz S c, K => Fz S (awp P c K)

section
variable {P : Program} {T : Nat → Prop} {N : Nat} {fr : Fr} {h : Hp} {a : Act} {w : World} {md : FuncId → Nat}

def exitOf : AE → Exit
  | .normal => .normal
  | .exit id => .exit id
  | .ret => .ret

/-- What the machine's exits must bear. -/
def Lift (T : Nat → Prop) (N : Nat) (h0 : Hp) (w0 : World) (K : AE → Fr → Hp → Prop) (Q : Exit → Act → World → Prop) : Prop :=
  ∀ e a' w', St T N h0 w0 (K e) a' w' → Q (exitOf e) a' w'

theorem linGo_spec {ops : Array Oper} : ∀ (l done : List Nat), linGo ops done l = true → l.Nodup ∧ (∀ i ∈ l, i ∉ done) ∧ (∀ i ∈ l, i < ops.size) ∧ ∀ (pre post : List Nat) (i : Nat), l = pre ++ i :: post → ∀ d ∈ depsOf (ops.getD i default), d ∈ done ∨ d ∈ pre
  | [], done, _ => ⟨List.nodup_nil, fun i hi => (by cases hi), fun i hi => (by cases hi), fun pre post i hl => (by cases pre <;> cases hl)⟩
  | i :: l, done, hl => by
    simp only [linGo, Bool.and_eq_true, Bool.not_eq_true', decide_eq_true_eq] at hl
    obtain ⟨⟨⟨h1, h2⟩, h3⟩, h4⟩ := hl
    have h1' : i ∉ done := by
      intro hm
      rw [List.contains_eq_mem] at h1
      simp [hm] at h1
    obtain ⟨k1, k2, k3, k4⟩ := linGo_spec l (i :: done) h4
    refine ⟨List.nodup_cons.2 ⟨fun hm => k2 i hm (List.mem_cons_self ..), k1⟩, ?_, ?_, ?_⟩
    · intro x hx
      rcases List.mem_cons.1 hx with rfl | hx
      · exact h1'
      · exact fun hm => k2 x hx (List.mem_cons_of_mem _ hm)
    · intro x hx
      rcases List.mem_cons.1 hx with rfl | hx
      · exact h2
      · exact k3 x hx
    · intro pre post j hj d hd
      cases pre with
      | nil =>
        simp only [List.nil_append, List.cons.injEq] at hj
        obtain ⟨rfl, rfl⟩ := hj
        have := List.all_eq_true.1 h3 d hd
        rw [List.contains_eq_mem] at this
        exact .inl (by simpa using this)
      | cons p pre =>
        simp only [List.cons_append, List.cons.injEq] at hj
        obtain ⟨rfl, hj⟩ := hj
        rcases k4 pre post j hj d hd with g | g
        · rcases List.mem_cons.1 g with rfl | g
          · exact .inr (List.mem_cons_self ..)
          · exact .inl g
        · exact .inr (List.mem_cons_of_mem _ g)

theorem pairsGo_spec {tab : Array Nat} : ∀ (l : List (Nat × GOp)), pairsGo tab l = true → ∀ (pre post : List (Nat × GOp)) (p : Nat × GOp), l = pre ++ p :: post → ∀ x ∈ pre, (tab.getD p.1 0).testBit x.1 = true ∨ swapOk x.2 p.2 = true
  | [], _, pre, post, p, hl => by cases pre <;> cases hl
  | q :: l, hg, pre, post, p, hl => by
    obtain ⟨i, g⟩ := q
    simp only [pairsGo, Bool.and_eq_true] at hg
    intro x hx
    cases pre with
    | nil => cases hx
    | cons y pre =>
      simp only [List.cons_append, List.cons.injEq] at hl
      obtain ⟨rfl, hl⟩ := hl
      rcases List.mem_cons.1 hx with rfl | hx
      · have := List.all_eq_true.1 hg.1 p (by rw [hl]; simp)
        simpa using this
      · exact pairsGo_spec l hg.2 pre post p hl x hx

theorem addKeeps_spec {tab : Array Nat} : ∀ (l pre : List (Nat × GOp)), (addKeeps tab pre l).length = l.length ∧ ∀ (j : Nat) (h1 : j < l.length) (h2 : j < (addKeeps tab pre l).length),
    (addKeeps tab pre l)[j].1 = l[j].1 ∧ (addKeeps tab pre l)[j].2.o = l[j].2.o ∧ (addKeeps tab pre l)[j].2.d = l[j].2.d ∧ (addKeeps tab pre l)[j].2.g = l[j].2.g
  | [], pre => ⟨rfl, fun j h1 => by cases h1⟩
  | (i, g) :: l, pre => by
    simp only [addKeeps]
    obtain ⟨k1, k2⟩ := addKeeps_spec (tab := tab) l (pre ++ [(i, withKeep tab pre i g)])
    refine ⟨by simp [k1], fun j h1 h2 => ?_⟩
    cases j with
    | zero =>
      simp only [List.getElem_cons_zero]
      refine ⟨trivial, ?_, ?_, ?_⟩ <;> (unfold withKeep; split <;> rfl)
    | succ j =>
      simp only [List.getElem_cons_succ]
      exact k2 j (by simpa using h1) (by simpa using h2)

theorem mem_of_nodup_full : ∀ {n : Nat} {l : List Nat}, l.Nodup → (∀ i ∈ l, i < n) → l.length = n → ∀ {i : Nat}, i < n → i ∈ l := by
  intro n l hnd hlt hlen i hi
  -- if i were missing, l would be a list without repetition in the others
  apply Classical.byContradiction
  intro hni
  have hsub : l ⊆ (List.range n).erase i := by
    intro x hx
    have hxi : x ≠ i := fun he => hni (he ▸ hx)
    exact (List.mem_erase_of_ne hxi).2 (List.mem_range.2 (hlt x hx))
  have hle := List.Nodup.length_le_of_subset hnd hsub
  rw [List.length_erase_of_mem (List.mem_range.2 hi), List.length_range] at hle
  omega

theorem reg_sound {ops : Array Oper} {draw : Bool} {id : Nat} {gs : List GOp} (hc : creg P N md ops draw = some gs) (rel : Rel T N fr h a w) {h0 : Hp} {w0 : World} (ev : Evo h0 w0 h w) {K : AE → Fr → Hp → Prop} {Q : Exit → Act → World → Prop} (hQ : Lift T N h0 w0 K Q)
    (hK : aops P (K .normal) gs fr h) : (Code.region id ops draw).wp P Q a w := by
  have hQn : ∀ a' w', St T N h0 w0 (K .normal) a' w' → Q .normal a' w' := fun a' w' s => hQ .normal a' w' s
  unfold creg at hc
  cases draw with
  | false =>
    simp only [Bool.false_eq_true, if_false] at hc
    obtain ⟨h1, h2⟩ := mapM_get hc
    refine wp_region (text_sound (md := fun _ => 0) hQn (List.range ops.size) gs fr h a w (by simp [h1]) (fun p g1 g2 => ?_) ev rel hK)
    have hp : p < ops.size := by simpa using g1
    refine ⟨ops[p], gs[p], by simp [hp], ?_, rfl, rfl, rfl⟩
    have := h2 p (by simpa using hp) g2
    simp only [Array.getElem_toList] at this
    exact this
  | true =>
    simp only [if_true] at hc
    split at hc
    · cases hc
    rename_i gs0 hm
    split at hc
    case isFalse => cases hc
    rename_i hchk
    injection hc with hc
    subst hc
    simp only [Bool.and_eq_true, decide_eq_true_eq] at hchk
    obtain ⟨⟨⟨⟨c1, c2⟩, c3⟩, c4⟩, c5⟩ := hchk
    obtain ⟨m1, m2⟩ := mapM_get hm
    obtain ⟨a1, a2⟩ := addKeeps_spec (tab := tabOf ops) gs0 []
    obtain ⟨l1, l2, l3, l4⟩ := linGo_spec _ _ c3
    have ev1 : Evo h0 w0 h { w with drawn := w.drawn + 1 } := ⟨ev.os, ev.tape, ev.output, ev.size, ev.same, ev.shape, ev.dom⟩
    have evd : Evo h w h { w with drawn := w.drawn + 1 } := ⟨rfl, rfl, rfl, Nat.le_refl _, fun _ _ _ => rfl, fun _ c _ _ hb => ⟨c, hb, rfl⟩, fun _ hb => .inl hb⟩
    have rel1 : Rel T N fr h a { w with drawn := w.drawn + 1 } := rel.mono evd ⟨fun b cs hb => by
        obtain ⟨c, e, g1, g2, g3, g4⟩ := rel.heap.blk b cs hb
        refine ⟨c, e, g1, g2, g3, fun j hj => ?_⟩
        obtain ⟨v, k1, k2⟩ := g4 j hj
        exact ⟨v, k1, k2.mono evd⟩, rel.heap.held⟩
    refine wp_region_any c1 (any_sound (md := md) (T := T) (N := N) (h0 := h0) (w0 := w0) c2 hQn ops.size _ (addKeeps (tabOf ops) [] gs0) fr h a _ (by simp) c4 ?_ l1 (fun p hp => l3 p.1 (List.mem_map.2 ⟨p, hp, rfl⟩)) ?_ (pairsGo_spec _ c5) ?_ ?_ ev1 rel1 hK)
    · intro i hi
      constructor
      · intro _
        -- a list without repetition, as long as the region, of numbers below its length
        have hlen : ((addKeeps (tabOf ops) [] gs0).map (·.1)).length = ops.size := by simpa using c4
        exact mem_of_nodup_full l1 l3 hlen hi
      · intro _
        simp [Array.getD, hi]
    · intro pre post p hp d hd
      rcases l4 (pre.map (·.1)) (post.map (·.1)) p.1 (by rw [hp]; simp) d hd with g | g
      · cases g
      · exact .inr g
    · intro y hy hyl
      simp [Array.getD, hy] at hyl
    · intro p hp
      obtain ⟨j, hj, rfl⟩ := List.mem_iff_getElem.1 hp
      have hj0 : j < gs0.length := by rw [← a1]; exact hj
      obtain ⟨b1, b2, b3, b4⟩ := a2 j hj0 hj
      have := m2 j (by rw [← m1]; exact hj0) hj0
      obtain ⟨o, ho, hg⟩ := Option.bind_eq_some_iff.1 this
      obtain ⟨g, hg, he⟩ := Option.map_eq_some_iff.1 hg
      rw [b1]
      rw [← he] at b2 b3 b4 ⊢
      exact ⟨o, g, ho, hg, b2, b3, b4⟩

theorem wp_lift {c : Code} {Q Q' : Exit → Act → World → Prop} (hq : ∀ e a w, Q e a w → Q' e a w) (hw : c.wp P Q a w) : c.wp P Q' a w := wp_mono hw hq

theorem cc_skip {c : Code} (hc : ccode P N md c = some .skip) : c = .skip := by
  cases c <;> simp [ccode] at hc ⊢
  all_goals (split at hc <;> simp at hc)

theorem cc_reg {c : Code} {gs : List GOp} (hc : ccode P N md c = some (.reg gs)) : ∃ id ops draw, c = .region id ops draw ∧ creg P N md ops draw = some gs := by
  cases c <;> simp only [ccode, reduceCtorEq, Option.map_eq_some_iff, and_false, exists_false, Option.some.injEq] at hc
  all_goals first | (split at hc <;> simp at hc <;> done) | skip
  obtain ⟨s, hs, he⟩ := hc
  injection he with h1
  subst h1
  exact ⟨_, _, _, rfl, hs⟩

theorem cc_seq {c : Code} {a b : SC} (hc : ccode P N md c = some (.seq a b)) : ∃ x y, c = .seq x y ∧ ccode P N md x = some a ∧ ccode P N md y = some b := by
  cases c <;> simp only [ccode, reduceCtorEq, Option.map_eq_some_iff, and_false, exists_false, Option.some.injEq] at hc
  all_goals first | (split at hc <;> simp at hc <;> done) | skip
  split at hc
  · injection hc with hc
    injection hc with h1 h2
    subst h1 h2
    exact ⟨_, _, rfl, by assumption, by assumption⟩
  · cases hc

theorem cc_cond {c : Code} {z : SX} {a b : SC} (hc : ccode P N md c = some (.cond z a b)) : ∃ q x y, c = .cond q x y ∧ avx N q = some z ∧ ccode P N md x = some a ∧ ccode P N md y = some b := by
  cases c <;> simp only [ccode, reduceCtorEq, Option.map_eq_some_iff, and_false, exists_false, Option.some.injEq] at hc
  all_goals first | (split at hc <;> simp at hc <;> done) | skip
  split at hc
  · injection hc with hc
    injection hc with h1 h2 h3
    subst h1 h2 h3
    exact ⟨_, _, _, rfl, by assumption, by assumption, by assumption⟩
  · cases hc

theorem cc_block {c : Code} {id : Nat} {a : SC} (hc : ccode P N md c = some (.block id a)) : ∃ x, c = .block id x ∧ ccode P N md x = some a := by
  cases c <;> simp only [ccode, reduceCtorEq, Option.map_eq_some_iff, and_false, exists_false, Option.some.injEq] at hc
  all_goals first | (split at hc <;> simp at hc <;> done) | skip
  obtain ⟨s, hs, he⟩ := hc
  injection he with h1 h2
  subst h1 h2
  exact ⟨_, rfl, hs⟩

theorem cc_loop {c : Code} {a : SC} (hc : ccode P N md c = some (.loop a)) : ∃ x, c = .loop x ∧ ccode P N md x = some a := by
  cases c <;> simp only [ccode, reduceCtorEq, Option.map_eq_some_iff, and_false, exists_false, Option.some.injEq] at hc
  all_goals first | (split at hc <;> simp at hc <;> done) | skip
  obtain ⟨s, hs, he⟩ := hc
  injection he with h1
  subst h1
  exact ⟨_, rfl, hs⟩

theorem cc_exit {c : Code} {id : Nat} (hc : ccode P N md c = some (.exit id)) : c = .exit id := by
  cases c <;> simp [ccode] at hc ⊢
  all_goals first | exact hc | (split at hc <;> simp at hc)

theorem cc_ret {c : Code} (hc : ccode P N md c = some .ret) : c = .ret := by
  cases c <;> simp [ccode] at hc ⊢
  all_goals (split at hc <;> simp at hc)

/-- CODE: what holds here holds of the machine. -/
theorem awp_sound : ∀ (sc : SC) (c : Code), ccode P N md c = some sc.erase → ∀ (fr : Fr) (h : Hp) (a : Act) (w : World) (h0 : Hp) (w0 : World) (K : AE → Fr → Hp → Prop) (Q : Exit → Act → World → Prop),
    Lift T N h0 w0 K Q → Evo h0 w0 h w → Rel T N fr h a w → awp P sc K fr h → c.wp P Q a w := by
  intro sc
  induction sc with
  | skip =>
    intro c hc fr h a w h0 w0 K Q hQ ev rel hK
    obtain rfl := cc_skip hc
    exact wp_skip (hQ .normal a w ⟨fr, h, hK, rel, ev⟩)
  | reg gs =>
    intro c hc fr h a w h0 w0 K Q hQ ev rel hK
    obtain ⟨id, ops, draw, rfl, hg⟩ := cc_reg hc
    exact reg_sound hg rel ev hQ hK
  | seq sx sy ihx ihy =>
    intro c hc fr h a w h0 w0 K Q hQ ev rel hK
    obtain ⟨x, y, rfl, hx, hy⟩ := cc_seq hc
    refine wp_seq (ihx x hx fr h a w h0 w0 (thenW (awp P sy K) K) _ ?_ ev rel hK)
    intro e a' w' s
    cases e with
    | normal =>
      obtain ⟨fr', h', hK', rel', ev'⟩ := s
      exact ihy y hy fr' h' a' w' h0 w0 K Q hQ ev' rel' hK'
    | exit i => exact hQ (.exit i) a' w' s
    | ret => exact hQ .ret a' w' s
  | cond z sx sy ihx ihy =>
    intro c hc fr h a w h0 w0 K Q hQ ev rel hK
    obtain ⟨q, x, y, rfl, hcc, hx, hy⟩ := cc_cond hc
    have V1 := V.ev rel hcc
    simp only [awp] at hK
    split at hK
    · rename_i t ht
      rw [ht] at V1
      generalize hv : a.eval q = v at V1
      cases V1
      refine wp_cond hv ?_
      cases t with
      | true =>
        simp only [if_true] at hK ⊢
        exact ihx x hx fr h a w h0 w0 K Q hQ ev rel hK
      | false =>
        simp only [Bool.false_eq_true, if_false] at hK ⊢
        exact ihy y hy fr h a w h0 w0 K Q hQ ev rel hK
    · exact hK.elim
  | block id s ih =>
    intro c hc fr h a w h0 w0 K Q hQ ev rel hK
    obtain ⟨x, rfl, hx⟩ := cc_block hc
    refine wp_block (ih x hx fr h a w h0 w0 (inBlk id K) _ ?_ ev rel hK)
    intro e a' w' st
    cases e with
    | normal => exact hQ .normal a' w' st
    | exit i =>
      simp only [exitOf, Exit.inBlock]
      by_cases hi : i = id
      · rw [if_pos hi]
        simp only [inBlk, hi, if_true] at st
        exact hQ .normal a' w' st
      · rw [if_neg hi]
        simp only [inBlk, hi, if_false] at st
        exact hQ (.exit i) a' w' st
    | ret => exact hQ .ret a' w' st
  | loop s ih =>
    intro c hc fr h a w h0 w0 K Q hQ ev rel hK
    obtain ⟨x, rfl, hx⟩ := cc_loop hc
    obtain ⟨I, ⟨n0, hI0⟩, hround⟩ := hK
    refine wp_loop_ghost (fun n a w => ∃ fr h, I n fr h ∧ Rel T N fr h a w ∧ Evo h0 w0 h w) n0 ⟨fr, h, hI0, rel, ev⟩ ?_
    intro n a1 w1 ⟨fr1, h1, hI1, rel1, ev1⟩
    refine ih x hx fr1 h1 a1 w1 h0 w0 _ _ ?_ ev1 rel1 (hround n fr1 h1 hI1)
    intro e a' w' st
    cases e with
    | normal =>
      obtain ⟨fr', h', ⟨m, hm, hI'⟩, rel', ev'⟩ := st
      exact ⟨m, hm, fr', h', hI', rel', ev'⟩
    | exit i => exact hQ (.exit i) a' w' st
    | ret => exact hQ .ret a' w' st
  | exit id =>
    intro c hc fr h a w h0 w0 K Q hQ ev rel hK
    obtain rfl := cc_exit hc
    exact wp_exit (hQ (.exit id) a w ⟨fr, h, hK, rel, ev⟩)
  | ret =>
    intro c hc fr h a w h0 w0 K Q hQ ev rel hK
    obtain rfl := cc_ret hc
    exact wp_ret (hQ .ret a w ⟨fr, h, hK, rel, ev⟩)
  | fz S s ih =>
    intro c hc fr h a w h0 w0 K Q hQ ev rel hK
    obtain ⟨h', vs, g1, g2, g3⟩ := hK
    exact ih c hc _ h' a w h0 w0 K Q hQ (ev.sub g1) (rel.fz g1 g2) g3

/-! ### Functions -/

inductive SR where
  | t (n : Nat)
  | c (n k : Nat) (ag : Bool)

def cres (P : Program) (N : Nat) : ResultVar → Option SR
  | .tmp t => if t < N then some (.t t) else none
  | .cell x t => match aggOf P t, sizeT P t with
    | some ag, some n => if x < N then some (.c x (if ag then n else 1) ag) else none
    | _, _ => none

def resOf (fr : Fr) (h : Hp) : SR → Option AV
  | .t n => some (fr n)
  | .c x k ag => (cellsAt h (fr x) k).bind (ldv · ag)

def resA (fr : Fr) (h : Hp) (rs : List SR) : Option AV := match rs.mapM (resOf fr h) with
  | some [v] => some v
  | some vs => some (.tup vs)
  | none => none

structure SF where
  nargs : Nat
  N : Nat
  code : SC
  res : List SR

def cfun (P : Program) (md : FuncId → Nat) (f : FuncId) : Option SF := match P.funcs[f]? with
  | none => none
  | some fn => match fn.body with
    | none => none
    | some c => match ccode P fn.ntmps md c, fn.results.toList.mapM (cres P fn.ntmps) with
      | some sc, some rs => if (fn.name == "runtime.NumGoroutine") = false ∧ fn.params.size + fn.nfree ≤ fn.ntmps then some ⟨fn.params.size + fn.nfree, fn.ntmps, sc, rs⟩ else none
      | _, _ => none

def frame0 (avs : List AV) : Fr := fun i => avs.getD i (.tup [])

theorem run_results {fn : Func} {rs : List SR} (rel : Rel T N fr h a w) (hr : fn.results.toList.mapM (cres P N) = some rs) {v : AV} (hv : resA fr h rs = some v) : ∃ r, (results fn a.tmps).run P w = .ok r w ∧ V w h T v r := by
  have key : ∀ (l : List ResultVar) (rs : List SR) (vs : List AV), l.mapM (cres P N) = some rs → rs.mapM (resOf fr h) = some vs → ∃ us : List Value, (l.mapM (m := Sem) fun
      | .tmp t => pure (a.tmps.getD t undef)
      | .cell x t => do loadVar t (← asAddr (a.tmps.getD x undef))).run P w = .ok us w ∧ us.length = vs.length ∧ ∀ (j : Nat) (h1 : j < vs.length) (h2 : j < us.length), V w h T vs[j] us[j] := by
    intro l
    induction l with
    | nil =>
      intro rs vs h1 h2
      simp at h1
      subst h1
      simp at h2
      subst h2
      exact ⟨[], by simp, rfl, fun j h1 => (by cases h1)⟩
    | cons x l ih =>
      intro rs vs h1 h2
      simp only [List.mapM_cons, Option.bind_eq_bind, Option.pure_def, Option.bind_eq_some_iff] at h1
      obtain ⟨sx, hx, rs', hrs, he⟩ := h1
      injection he with he
      subst he
      simp only [List.mapM_cons, Option.bind_eq_bind, Option.pure_def, Option.bind_eq_some_iff] at h2
      obtain ⟨v, hv, vs', hvs, he⟩ := h2
      injection he with he
      subst he
      obtain ⟨us, hu, hl, hV⟩ := ih rs' vs' hrs hvs
      have one : ∃ u, (match x with
          | .tmp t => pure (a.tmps.getD t undef)
          | .cell x t => do loadVar t (← asAddr (a.tmps.getD x undef)) : Sem Value).run P w = .ok u w ∧ V w h T v u := by
        cases x with
        | tmp t =>
          simp only [cres] at hx
          split at hx
          · rename_i ht
            injection hx with hx
            subst hx
            simp only [resOf, Option.some.injEq] at hv
            subst hv
            exact ⟨_, rfl, rel.slots t ht⟩
          · cases hx
        | cell y t =>
          simp only [cres] at hx
          split at hx
          · rename_i ag n hag hn
            split at hx
            · rename_i hy
              injection hx with hx
              subst hx
              simp only [resOf, Option.bind_eq_some_iff] at hv
              obtain ⟨cs, hcs, hld⟩ := hv
              obtain ⟨b, off, hbv, hl', hC⟩ := cellsAt_sound rel.heap (rel.slots y hy) hcs
              obtain ⟨r, hr, hV⟩ := load_sound (P := P) (t := t) (n := cs.length) hag (fun hag' => by rw [hag'] at hl'; simp at hl'; rw [hl']; exact hn) hC rfl hld
              refine ⟨r, ?_, hV⟩
              simp only [hbv, asAddr, Sem.run_bind, Sem.run_pure, Result.andThen_ok, hr]
            · cases hx
          · cases hx
      obtain ⟨u, hu1, hu2⟩ := one
      refine ⟨u :: us, ?_, by simp [hl], fun j h1 h2 => ?_⟩
      · simp only [List.mapM_cons, Sem.run_bind, hu1, hu, Result.andThen_ok, Sem.run_pure]
      · cases j with
        | zero => exact hu2
        | succ j => exact hV j (by simpa using h1) (by simpa using h2)
  unfold resA at hv
  cases hm : rs.mapM (resOf fr h) with
  | none => rw [hm] at hv; cases hv
  | some vs =>
    rw [hm] at hv
    obtain ⟨us, hu, hl, hV⟩ := key _ _ _ hr hm
    have hrun : (results fn a.tmps).run P w = .ok (if h : us.toArray.size = 1 then us.toArray[0] else .tuple us.toArray) w := by
      unfold results
      rw [Array.mapM_eq_mapM_toList]
      simp only [Sem.run_bind, Sem.run_map, Sem.run_pure]
      exact (congrArg (fun r : Result (List Value) => (r.andThen fun a w' => Result.ok a.toArray w').andThen fun (a : Array Value) w' => Result.ok (if h : a.size = 1 then a[0] else Value.tuple a) w') hu).trans rfl
    match vs, hv, hl, hV with
    | [], hv, hl, hV =>
      injection hv with hv
      subst hv
      have : us = [] := List.eq_nil_of_length_eq_zero hl
      subst this
      exact ⟨_, hrun, .tup [] #[] rfl (fun j h1 => by cases h1)⟩
    | [x], hv, hl, hV =>
      injection hv with hv
      subst hv
      match us, hl, hrun, hV with
      | [u], hl, hrun, hV => exact ⟨u, hrun, hV 0 (by simp) (by simp)⟩
    | x :: y :: vs, hv, hl, hV =>
      injection hv with hv
      subst hv
      match us, hl, hrun, hV with
      | u :: u' :: us, hl, hrun, hV => exact ⟨.tuple (u :: u' :: us).toArray, hrun, .tup _ _ (by simpa using hl) (fun j h1 h2 => by
          simp only [List.getElem_toArray]
          exact hV j h1 (by simpa using h2))⟩

/-- A FUNCTION: its contract out of its code. -/
theorem spec_of {f : FuncId} {n N : Nat} {sc : SC} {res : List SR} (hc : cfun P md f = some ⟨n, N, sc.erase, res⟩) {avs : List AV} (hn : avs.length = n) {R : AV → Hp → Prop}
    (hK : awp P sc (fun e fr' h' => (e = .normal ∨ e = .ret) ∧ ∃ v, resA fr' h' res = some v ∧ R v h') (frame0 avs) h) : Spec P f avs h R := by
  unfold cfun at hc
  split at hc
  · cases hc
  rename_i fn hfn
  split at hc
  · cases hc
  rename_i c hb
  split at hc
  · rename_i sc rs hsc hrs
    split at hc
    · rename_i hcond
      injection hc with hc
      injection hc with e1 e2 e3 e4
      subst e1 e2 e3 e4
      refine ⟨⟨fn, hfn, hcond.1, by simp [hb]⟩, fun T w vals hr hcov => ?_⟩
      have hsz : vals.size = avs.length := hcov.size
      have rel : Rel T fn.ntmps (frame0 avs) h { tmps := vals ++ Array.replicate (fn.ntmps - vals.size) undef, defers := [] } w := by
        refine ⟨fun t ht => ?_, by simp; omega, rfl, hr⟩
        simp only [frame0]
        by_cases hlt : t < avs.length
        · have hlt' : t < vals.size := by omega
          have e1 : (vals ++ Array.replicate (fn.ntmps - vals.size) undef).getD t undef = vals[t] := by
            rw [Array.getD_eq_getD_getElem?, Array.getElem?_append_left hlt', Array.getElem?_eq_getElem hlt']
            rfl
          have e2 : avs.getD t (.tup []) = avs[t] := by simp [List.getD, hlt]
          rw [e1, e2]
          exact hcov.val t hlt hlt'
        · have e1 : (vals ++ Array.replicate (fn.ntmps - vals.size) undef).getD t undef = undef := by
            rw [Array.getD_eq_getD_getElem?, Array.getElem?_append_right (by omega)]
            simp [Array.getElem?_replicate]
            split <;> rfl
          have e2 : avs.getD t (.tup []) = .tup [] := by simp [List.getD, List.getElem?_eq_none (Nat.le_of_not_lt hlt)]
          rw [e1, e2]
          exact V.undef
      refine calls_of_wp hfn hb (awp_sound (md := md) _ c hsc _ h _ w h w _ _ ?_ (Evo.refl h w) rel hK)
      intro e a' w' st
      obtain ⟨fr', h', ⟨he, v, hv, hR⟩, rel', ev'⟩ := st
      obtain ⟨r, hrun, hV⟩ := run_results (P := P) rel' hrs hv
      rcases he with rfl | rfl
      · exact ⟨rel'.defers, r, hrun, v, h', r, rfl, hR, ev', rel'.heap, hV⟩
      · exact ⟨rel'.defers, r, hrun, v, h', r, rfl, hR, ev', rel'.heap, hV⟩
    · cases hc
  · cases hc

end
end Go.AM
end

section
/- The logic AM: rules for walking. No Go program in it. -/
set_option linter.unusedSimpArgs false
set_option linter.unusedVariables false
namespace Go.AM
open Go

abbrev I (n : Int) : AV := .base (.int .i64 n)
abbrev B (b : Bool) : AV := .base (.bool b)
abbrev ki (n : Int) : SX := .k (.base (.int .i64 n))
abbrev kb (b : Bool) : SX := .k (.base (.bool b))
abbrev o (d : Nat) (x : SO) : GOp := ⟨none, some d, x, 0, []⟩
abbrev om (m d : Nat) (x : SO) : GOp := ⟨none, some d, x, m, []⟩
abbrev og (s : Nat) (b : Bool) (m d : Nat) (x : SO) : GOp := ⟨some (s, b), some d, x, m, []⟩
abbrev os (x : SO) : GOp := ⟨none, none, x, 0, []⟩

/-- Keeps a rule from being taken as one that holds by computing. -/
theorem nr {α : Sort _} {a b : α} (h : a = b) : a = b := h

/-! What follows hangs on a value: the value is told first, then what follows. -/
def bindW (o : Option AV) (k : AV → Prop) : Prop := match o with
  | some v => k v
  | none => False
def condW (x : AV) (a b : Prop) : Prop := match x with
  | .base (.bool t) => if t then a else b
  | _ => False
def guardW (x : AV) (w : Bool) (a b : Prop) : Prop := match x with
  | .base (.bool t) => if t = w then a else b
  | .tup [] => b
  | _ => False
def allocW (o : Option (List AV × (Nat → AV))) (h : Hp) (R : AV → Hp → Prop) : Prop := match o with
  | some (cs, mk) => ∀ b, h b = none → R (mk b) (hset h b cs)
  | none => False
def pickA (c x y : AV) : Option AV := match c with
  | .base (.bool t) => some (if t then x else y)
  | _ => none

@[congr] theorem bindW_congr {o o' : Option AV} {k : AV → Prop} (h : o = o') : bindW o k = bindW o' k := by rw [h]
@[congr] theorem condW_congr {x x' : AV} {a b : Prop} (h : x = x') : condW x a b = condW x' a b := by rw [h]
@[congr] theorem guardW_congr {x x' : AV} {w : Bool} {a b : Prop} (h : x = x') : guardW x w a b = guardW x' w a b := by rw [h]
@[congr] theorem allocW_congr {o o' : Option (List AV × (Nat → AV))} {h : Hp} {R : AV → Hp → Prop} (e : o = o') : allocW o h R = allocW o' h R := by rw [e]
@[congr] theorem awp_congr {P : Program} {c : SC} {K : AE → Fr → Hp → Prop} {fr fr' : Fr} {h h' : Hp} (e1 : fr = fr') (e2 : h = h') : awp P c K fr h = awp P c K fr' h' := by rw [e1, e2]
@[congr] theorem appW_congr {s s' x x' : AV} {sz : Nat} {h h' : Hp} {R : AV → Hp → Prop} (e1 : s = s') (e2 : x = x') (e3 : h = h') : appW s x sz h R = appW s' x' sz h' R := by rw [e1, e2, e3]
@[congr] theorem cpyW_congr {s s' x x' : AV} {h h' : Hp} {R : AV → Hp → Prop} (e1 : s = s') (e2 : x = x') (e3 : h = h') : cpyW s x h R = cpyW s' x' h' R := by rw [e1, e2, e3]
@[congr] theorem stW_congr {s s' x x' : AV} {n : Nat} {h h' : Hp} {R : Hp → Prop} (e1 : s = s') (e2 : x = x') (e3 : h = h') : stW s x n h R = stW s' x' n h' R := by rw [e1, e2, e3]
@[congr] theorem Fz_congr {S : List Nat} {Q : Fr → Hp → Prop} {fr fr' : Fr} {h h' : Hp} (e1 : fr = fr') (e2 : h = h') : Fz S Q fr h = Fz S Q fr' h' := by rw [e1, e2]

theorem bindW_some (v : AV) (k : AV → Prop) : bindW (some v) k = k v := nr rfl
theorem condW_true (a b : Prop) : condW (B true) a b = a := by simp [condW]
theorem condW_false (a b : Prop) : condW (B false) a b = b := by simp [condW]
theorem condW_dec (p : Prop) [Decidable p] (a b : Prop) : condW (B (decide p)) a b = if p then a else b := by simp [condW]
theorem condW_ndec (p : Prop) [Decidable p] (a b : Prop) : condW (B (!decide p)) a b = if p then b else a := by
  by_cases hp : p <;> simp [condW, hp]
theorem guardW_tup (w : Bool) (a b : Prop) : guardW (.tup []) w a b = b := nr rfl
theorem guardW_true (a b : Prop) : guardW (B true) true a b = a := by simp [guardW]
theorem guardW_true' (a b : Prop) : guardW (B true) false a b = b := by simp [guardW]
theorem guardW_false (a b : Prop) : guardW (B false) false a b = a := by simp [guardW]
theorem guardW_false' (a b : Prop) : guardW (B false) true a b = b := by simp [guardW]
theorem allocW_some (cs : List AV) (mk : Nat → AV) (h : Hp) (R : AV → Hp → Prop) : allocW (some (cs, mk)) h R = ∀ b, h b = none → R (mk b) (hset h b cs) := nr rfl
theorem pickA_true (x y : AV) : pickA (B true) x y = some x := by simp [pickA]
theorem pickA_false (x y : AV) : pickA (B false) x y = some y := by simp [pickA]

section
variable {P : Program} {fr : Fr} {h : Hp} {K : AE → Fr → Hp → Prop} {R : AV → Hp → Prop} {m : Nat} {d : Option Nat} {kp : List (Nat × Nat)}

theorem awp_skip : awp P .skip K fr h = K .normal fr h := nr rfl
theorem awp_reg (ops : List GOp) : awp P (.reg ops) K fr h = aops P (K .normal) ops fr h := nr rfl
theorem awp_seq (a b : SC) : awp P (.seq a b) K fr h = awp P a (thenW (awp P b K) K) fr h := nr rfl
theorem awp_cond (c : SX) (a b : SC) : awp P (.cond c a b) K fr h = condW (ev fr c) (awp P a K fr h) (awp P b K fr h) := nr rfl
theorem awp_block (id : Nat) (c : SC) : awp P (.block id c) K fr h = awp P c (inBlk id K) fr h := nr rfl
theorem awp_exit (id : Nat) : awp P (.exit id) K fr h = K (.exit id) fr h := nr rfl
theorem awp_ret : awp P .ret K fr h = K .ret fr h := nr rfl
theorem awp_fz (S : List Nat) (c : SC) : awp P (.fz S c) K fr h = Fz S (awp P c K) fr h := nr rfl
theorem thenW_normal (k : Fr → Hp → Prop) : thenW k K .normal fr h = k fr h := nr rfl
theorem thenW_exit (k : Fr → Hp → Prop) (i : Nat) : thenW k K (.exit i) fr h = K (.exit i) fr h := nr rfl
theorem thenW_ret (k : Fr → Hp → Prop) : thenW k K .ret fr h = K .ret fr h := nr rfl
theorem inBlk_normal (id : Nat) : inBlk id K .normal fr h = K .normal fr h := nr rfl
theorem inBlk_exit (id i : Nat) : inBlk id K (.exit i) fr h = (if i = id then K .normal else K (.exit i)) fr h := nr rfl
theorem inBlk_ret (id : Nat) : inBlk id K .ret fr h = K .ret fr h := nr rfl
theorem aops_nil (k : Fr → Hp → Prop) : aops P k [] fr h = k fr h := nr rfl
theorem aops_cons (k : Fr → Hp → Prop) (x : GOp) (xs : List GOp) : aops P k (x :: xs) fr h = eff P x fr h (fun v h' => aops P k xs (updO fr x.d v) h') := nr rfl
theorem updO_some (d : Nat) (v : AV) : updO fr (some d) v = upd fr d v := nr rfl
theorem updO_none (v : AV) : updO fr none v = fr := nr rfl
theorem upd_apply (d : Nat) (v : AV) (i : Nat) : upd fr d v i = if i = d then v else fr i := nr rfl
theorem ev_t (n : Nat) : ev fr (.t n) = fr n := nr rfl
theorem ev_k (v : AV) : ev fr (.k v) = v := nr rfl
theorem ev_f (i : FuncId) : ev fr (.f i) = .fn i [] [] := nr rfl

theorem e_guard (s : Nat) (b : Bool) (x : SO) : eff P ⟨some (s, b), d, x, m, kp⟩ fr h R = guardW (fr s) b (eff P ⟨none, d, x, m, kp⟩ fr h R) (R (.tup []) h) := nr rfl
theorem e_mv (x : SX) : eff P ⟨none, d, .mv x, m, kp⟩ fr h R = R (ev fr x) h := nr rfl
theorem e_pick (c x y : SX) : eff P ⟨none, d, .pick c x y, m, kp⟩ fr h R = bindW (pickA (ev fr c) (ev fr x) (ev fr y)) (fun v => R v h) := nr rfl
theorem e_ld (x : SX) (n : Nat) (ag : Bool) : eff P ⟨none, d, .ld x n ag, m, kp⟩ fr h R = bindW ((cellsAt h (ev fr x) n).bind (ldv · ag)) (fun v => R v h) := nr rfl
theorem e_bin (op : BinOp) (x y : SX) : eff P ⟨none, d, .bin op x y, m, kp⟩ fr h R = bindW (binA op (ev fr x) (ev fr y)) (fun v => R v h) := nr rfl
theorem e_isnil (ne : Bool) (x : SX) : eff P ⟨none, d, .isnil ne x, m, kp⟩ fr h R = bindW ((isNil (ev fr x)).map fun r => .base (.bool (r != ne))) (fun v => R v h) := nr rfl
theorem e_fadr (x : SX) (k : Nat) : eff P ⟨none, d, .fadr x k, m, kp⟩ fr h R = bindW (fadrA (ev fr x) k) (fun v => R v h) := nr rfl
theorem e_iadr (x i : SX) (k : Nat) : eff P ⟨none, d, .iadr x i k, m, kp⟩ fr h R = bindW (iadrA (ev fr x) (ev fr i) k) (fun v => R v h) := nr rfl
theorem e_iarr (x i : SX) (n k : Nat) : eff P ⟨none, d, .iarr x i n k, m, kp⟩ fr h R = bindW (iarrA (ev fr x) (ev fr i) n k) (fun v => R v h) := nr rfl
theorem e_len (x : SX) : eff P ⟨none, d, .len x, m, kp⟩ fr h R = bindW ((lenA (ev fr x)).map fun (n : Nat) => .base (.int .i64 n)) (fun v => R v h) := nr rfl
theorem e_build (z : List AV) (ps : List (Nat × Nat × SX)) : eff P ⟨none, d, .build z ps, m, kp⟩ fr h R = bindW ((afill z (ps.map fun (a, b, x) => (a, b, ev fr x))).map .agg) (fun v => R v h) := nr rfl
theorem e_mkf (f : FuncId) (a b : List SX) : eff P ⟨none, d, .mkf f a b, m, kp⟩ fr h R = bindW (some (.fn f (a.map (ev fr)) (b.map (ev fr)))) (fun v => R v h) := nr rfl
theorem e_nc (x : SX) : eff P ⟨none, d, .nc x, m, kp⟩ fr h R = bindW (det (.nc x) fr h) (fun v => R v h) := nr rfl
theorem e_not (x : SX) : eff P ⟨none, d, .not x, m, kp⟩ fr h R = bindW (det (.not x) fr h) (fun v => R v h) := nr rfl
theorem e_neg (x : SX) : eff P ⟨none, d, .neg x, m, kp⟩ fr h R = bindW (det (.neg x) fr h) (fun v => R v h) := nr rfl
theorem e_cvt (k : IntKind) (x : SX) : eff P ⟨none, d, .cvt k x, m, kp⟩ fr h R = bindW (det (.cvt k x) fr h) (fun v => R v h) := nr rfl
theorem e_slc (x : SX) (lo hi mx : Option SX) (k : Nat) : eff P ⟨none, d, .slc x lo hi mx k, m, kp⟩ fr h R = bindW (det (.slc x lo hi mx k) fr h) (fun v => R v h) := nr rfl
theorem e_fld (x : SX) (k n : Nat) (ag : Bool) : eff P ⟨none, d, .fld x k n ag, m, kp⟩ fr h R = bindW (det (.fld x k n ag) fr h) (fun v => R v h) := nr rfl
theorem e_ext (x : SX) (i : Nat) : eff P ⟨none, d, .ext x i, m, kp⟩ fr h R = bindW (det (.ext x i) fr h) (fun v => R v h) := nr rfl
theorem e_min (x y : SX) : eff P ⟨none, d, .min x y, m, kp⟩ fr h R = bindW (det (.min x y) fr h) (fun v => R v h) := nr rfl
theorem e_eqs (ne : Bool) (n : Nat) (x y : SX) : eff P ⟨none, d, .eqs ne n x y, m, kp⟩ fr h R = bindW (det (.eqs ne n x y) fr h) (fun v => R v h) := nr rfl
theorem e_new (cs : List AV) : eff P ⟨none, d, .new cs, m, kp⟩ fr h R = allocW (mem (.new cs) fr) h R := nr rfl
theorem e_box (x : SX) : eff P ⟨none, d, .box x, m, kp⟩ fr h R = allocW (mem (.box x) fr) h R := nr rfl
theorem e_mkl (l k : Nat) (z : List AV) (ps : List (Nat × Nat × SX)) : eff P ⟨none, d, .mkl l k z ps, m, kp⟩ fr h R = allocW (mem (.mkl l k z ps) fr) h R := nr rfl
theorem e_mks (x : SX) (k : Nat) (z : List AV) : eff P ⟨none, d, .mks x k z, m, kp⟩ fr h R = allocW (mem (.mks x k z) fr) h R := nr rfl
theorem e_app (s x : SX) (sz : Nat) : eff P ⟨none, d, .app s x sz, m, kp⟩ fr h R = appW (ev fr s) (ev fr x) sz h R := nr rfl
theorem e_cpy (s x : SX) (sz : Nat) : eff P ⟨none, d, .cpy s x sz, m, kp⟩ fr h R = cpyW (ev fr s) (ev fr x) h R := nr rfl
theorem e_st (x v : SX) (n : Nat) : eff P ⟨none, d, .st x v n, m, kp⟩ fr h R = stW (ev fr x) (ev fr v) n h (fun h' => keeps fr h h' kp ∧ R (.tup []) h') := nr rfl
theorem e_call (f : SX) (xs : List SX) : eff P ⟨none, d, .call f xs, m, kp⟩ fr h R = callW P m fr f xs h R := nr rfl

theorem binA_add (k : IntKind) (a b : Int) : binA .add (.base (.int k a)) (.base (.int k b)) = some (.base (.int k (k.wrap (a + b)))) := by simp [binA]
theorem binA_sub (k : IntKind) (a b : Int) : binA .sub (.base (.int k a)) (.base (.int k b)) = some (.base (.int k (k.wrap (a - b)))) := by simp [binA]
theorem binA_mul (k : IntKind) (a b : Int) : binA .mul (.base (.int k a)) (.base (.int k b)) = some (.base (.int k (k.wrap (a * b)))) := by simp [binA]
theorem binA_quo (k : IntKind) (a b : Int) : binA .quo (.base (.int k a)) (.base (.int k b)) = if b = 0 then none else some (.base (.int k (k.wrap (a.tdiv b)))) := by simp [binA]
theorem binA_rem (k : IntKind) (a b : Int) : binA .rem (.base (.int k a)) (.base (.int k b)) = if b = 0 then none else some (.base (.int k (a.tmod b))) := by simp [binA]
theorem binA_eql (k : IntKind) (a b : Int) : binA .eql (.base (.int k a)) (.base (.int k b)) = some (B (decide (a = b))) := by simp [binA]; rfl
theorem binA_neq (k : IntKind) (a b : Int) : binA .neq (.base (.int k a)) (.base (.int k b)) = some (B (!decide (a = b))) := by simp [binA]; rfl
theorem binA_lss (k : IntKind) (a b : Int) : binA .lss (.base (.int k a)) (.base (.int k b)) = some (B (decide (a < b))) := by simp [binA]
theorem binA_leq (k : IntKind) (a b : Int) : binA .leq (.base (.int k a)) (.base (.int k b)) = some (B (decide (a ≤ b))) := by simp [binA]
theorem binA_gtr (k : IntKind) (a b : Int) : binA .gtr (.base (.int k a)) (.base (.int k b)) = some (B (decide (a > b))) := by simp [binA]
theorem binA_geq (k : IntKind) (a b : Int) : binA .geq (.base (.int k a)) (.base (.int k b)) = some (B (decide (a ≥ b))) := by simp [binA]

/-- A loop: what holds at each head, with a number that every round lowers. -/
theorem awp_loop {c : SC} (J : Nat → Fr → Hp → Prop) (n : Nat) (h0 : J n fr h) (round : ∀ n fr h, J n fr h → awp P c (thenW (fun fr' h' => ∃ m, m < n ∧ J m fr' h') K) fr h) : awp P (.loop c) K fr h :=
  ⟨J, ⟨n, h0⟩, round⟩

/-- From here on only some slots count. -/
theorem awp_gen {c : SC} (S : List Nat) (p : ∀ fr', (∀ s ∈ S, fr' s = fr s) → awp P c K fr' h) : awp P c K fr h := p fr (fun _ _ => rfl)

theorem awp_mono {c : SC} {K K' : AE → Fr → Hp → Prop} (hk : ∀ e fr h, K e fr h → K' e fr h) : ∀ {fr : Fr} {h : Hp}, awp P c K fr h → awp P c K' fr h := by
  induction c generalizing K K' with
  | skip => exact fun a => hk _ _ _ a
  | reg ops => exact fun a => aops_mono (fun fr h => hk _ fr h) ops _ _ a
  | seq x y ihx ihy =>
    intro fr h a
    refine ihx (K := thenW (awp P y K) K) (K' := thenW (awp P y K') K') (fun e fr h hh => ?_) a
    cases e with
    | normal => exact ihy hk hh
    | exit i => exact hk _ _ _ hh
    | ret => exact hk _ _ _ hh
  | cond c x y ihx ihy =>
    intro fr h a
    simp only [awp] at a ⊢
    split at a
    · rename_i t ht
      cases t with
      | true => simp only [if_true] at a ⊢; exact ihx hk a
      | false => simp only [Bool.false_eq_true, if_false] at a ⊢; exact ihy hk a
    · exact a
  | block id c ih =>
    intro fr h a
    refine ih (K := inBlk id K) (K' := inBlk id K') (fun e fr h hh => ?_) a
    cases e with
    | normal => exact hk _ _ _ hh
    | exit i =>
      simp only [inBlk] at hh ⊢
      split
      · rename_i hi; simp only [hi, if_true] at hh; exact hk _ _ _ hh
      · rename_i hi; simp only [hi, if_false] at hh; exact hk _ _ _ hh
    | ret => exact hk _ _ _ hh
  | loop c ih =>
    intro fr h a
    obtain ⟨J, hJ, hr⟩ := a
    refine ⟨J, hJ, fun n fr h hj => ?_⟩
    refine ih (K := thenW (fun fr' h' => ∃ m, m < n ∧ J m fr' h') K) (K' := thenW (fun fr' h' => ∃ m, m < n ∧ J m fr' h') K') (fun e fr h hh => ?_) (hr n fr h hj)
    cases e with
    | normal => exact hh
    | exit i => exact hk _ _ _ hh
    | ret => exact hk _ _ _ hh
  | exit i => exact fun a => hk _ _ _ a
  | ret => exact fun a => hk _ _ _ a
  | fz S c ih => exact fun a => Fz.mono (fun fr h hh => ih hk hh) a

/-! ### Slots that code leaves alone -/

def SC.writes : SC → List Nat
  | .reg ops => ops.filterMap (·.d)
  | .seq a b | .cond _ a b => a.writes ++ b.writes
  | .block _ c | .loop c => c.writes
  | .fz S c => S ++ c.writes
  | _ => []

theorem aops_keep {k : Fr → Hp → Prop} : ∀ (ops : List GOp) (fr : Fr) (h : Hp), aops P k ops fr h → aops P (fun fr' h' => k fr' h' ∧ ∀ s, s ∉ ops.filterMap (·.d) → fr' s = fr s) ops fr h
  | [], fr, h, a => ⟨a, fun _ _ => rfl⟩
  | x :: xs, fr, h, a => by
    refine AM.eff_mono (fun v h' hh => ?_) (show eff P x fr h _ from a)
    refine aops_mono (fun fr' h'' hk => ⟨hk.1, fun s hs => ?_⟩) xs _ _ (aops_keep xs _ _ hh)
    have h1 : s ∉ xs.filterMap (·.d) := fun hm => hs (by
      rw [List.mem_filterMap] at hm ⊢
      obtain ⟨g, hg, hgd⟩ := hm
      exact ⟨g, List.mem_cons_of_mem _ hg, hgd⟩)
    rw [hk.2 s h1]
    cases hd : x.d with
    | none => rfl
    | some t =>
      have : s ≠ t := fun he => hs (by rw [List.mem_filterMap]; exact ⟨x, List.mem_cons_self .., by rw [hd, he]⟩)
      simp [updO, upd, this]

theorem awp_keep {c : SC} {K : AE → Fr → Hp → Prop} : ∀ {fr : Fr} {h : Hp}, awp P c K fr h → awp P c (fun e fr' h' => K e fr' h' ∧ ∀ s, s ∉ c.writes → fr' s = fr s) fr h := by
  induction c generalizing K with
  | skip => exact fun a => ⟨a, fun _ _ => rfl⟩
  | reg ops => exact fun a => aops_keep ops _ _ a
  | seq x y ihx ihy =>
    intro fr h a
    refine awp_mono (c := x) (fun e fr' h' hh => ?_) (ihx a)
    obtain ⟨h1, h2⟩ := hh
    cases e with
    | normal =>
      refine awp_mono (fun e fr'' h'' hk => ⟨hk.1, fun s hs => ?_⟩) (ihy h1)
      simp only [SC.writes, List.mem_append, not_or] at hs
      rw [hk.2 s hs.2, h2 s hs.1]
    | exit i => exact ⟨h1, fun s hs => h2 s (fun hm => hs (by simp [SC.writes, hm]))⟩
    | ret => exact ⟨h1, fun s hs => h2 s (fun hm => hs (by simp [SC.writes, hm]))⟩
  | cond c x y ihx ihy =>
    intro fr h a
    simp only [awp] at a ⊢
    split at a
    · rename_i t ht
      cases t with
      | true =>
        simp only [if_true] at a ⊢
        exact awp_mono (fun e fr' h' hk => ⟨hk.1, fun s hs => hk.2 s (fun hm => hs (by simp [SC.writes, hm]))⟩) (ihx a)
      | false =>
        simp only [Bool.false_eq_true, if_false] at a ⊢
        exact awp_mono (fun e fr' h' hk => ⟨hk.1, fun s hs => hk.2 s (fun hm => hs (by simp [SC.writes, hm]))⟩) (ihy a)
    · exact a
  | block id c ih =>
    intro fr h a
    refine awp_mono (c := c) (fun e fr' h' hh => ?_) (ih a)
    obtain ⟨h1, h2⟩ := hh
    cases e with
    | normal => exact ⟨h1, h2⟩
    | exit i =>
      simp only [inBlk] at h1 ⊢
      split
      · rename_i hi; simp only [hi, if_true] at h1; exact ⟨h1, h2⟩
      · rename_i hi; simp only [hi, if_false] at h1; exact ⟨h1, h2⟩
    | ret => exact ⟨h1, h2⟩
  | loop c ih =>
    intro fr h a
    obtain ⟨J, ⟨n, hJ⟩, hr⟩ := a
    refine ⟨fun n fr' h' => J n fr' h' ∧ ∀ s, s ∉ c.writes → fr' s = fr s, ⟨n, hJ, fun _ _ => rfl⟩, fun n fr1 h1 hj => ?_⟩
    refine awp_mono (fun e fr' h' hh => ?_) (ih (hr n fr1 h1 hj.1))
    obtain ⟨g1, g2⟩ := hh
    have g3 : ∀ s, s ∉ c.writes → fr' s = fr s := fun s hs => by rw [g2 s hs, hj.2 s hs]
    cases e with
    | normal =>
      obtain ⟨m, hm, hJm⟩ := g1
      exact ⟨m, hm, hJm, g3⟩
    | exit i => exact ⟨g1, g3⟩
    | ret => exact ⟨g1, g3⟩
  | exit i => exact fun a => ⟨a, fun _ _ => rfl⟩
  | ret => exact fun a => ⟨a, fun _ _ => rfl⟩
  | fz S c ih =>
    intro fr h a
    obtain ⟨h', vs, g1, g2, g3⟩ := a
    refine ⟨h', vs, g1, g2, awp_mono (fun e fr' h'' hk => ⟨hk.1, fun s hs => ?_⟩) (ih g3)⟩
    simp only [SC.writes, List.mem_append, not_or] at hs
    rw [hk.2 s hs.2, updL_keep vs fr s hs.1]

/-- A loop, whose frame keeps the slots that the body does not write. -/
theorem awp_loopk {c : SC} (J : Nat → Fr → Hp → Prop) (n : Nat) (h0 : J n fr h)
    (round : ∀ n fr' h', (∀ s, c.writes.contains s = false → fr' s = fr s) → J n fr' h' → awp P c (thenW (fun fr'' h'' => ∃ m, m < n ∧ J m fr'' h'') K) fr' h') : awp P (.loop c) K fr h := by
  refine awp_loop (fun n fr' h' => J n fr' h' ∧ ∀ s, c.writes.contains s = false → fr' s = fr s) n ⟨h0, fun _ _ => rfl⟩ ?_
  intro n fr1 h1 ⟨hj, hk⟩
  refine awp_mono (fun e fr' h' hh => ?_) (awp_keep (round n fr1 h1 hk hj))
  obtain ⟨g1, g2⟩ := hh
  cases e with
  | normal =>
    obtain ⟨m, hm, hJm⟩ := g1
    refine ⟨m, hm, hJm, fun s hs => ?_⟩
    rw [g2 s (fun hmem => by rw [List.contains_eq_mem] at hs; simp [hmem] at hs), hk s hs]
  | exit i => exact g1
  | ret => exact g1

end
end Go.AM
end

section
/- The logic AM: lists of whole numbers in memory, and what walking asks of them. No Go program in it. -/
set_option linter.unusedSimpArgs false
set_option linter.unusedVariables false
namespace Go.AM
open Go

def ints (l : List Int) : List AV := l.map I

theorem w64 (n : Int) (h : -9223372036854775808 ≤ n ∧ n ≤ 9223372036854775807) : IntKind.i64.wrap n = n := IntWalk.i64_in n h

theorem ints_length (l : List Int) : (ints l).length = l.length := by simp [ints]
theorem ints_append (l m : List Int) : ints (l ++ m) = ints l ++ ints m := by simp [ints]
theorem ints_all (l : List Int) : (ints l).all one = true := by simp [ints, one]
theorem ints_drop (l : List Int) (n : Nat) : (ints l).drop n = ints (l.drop n) := by simp [ints, List.map_drop]
theorem ints_take (l : List Int) (n : Nat) : (ints l).take n = ints (l.take n) := by simp [ints, List.map_take]
theorem ints_nil : ints [] = [] := nr rfl
theorem ints_cons (x : Int) (l : List Int) : ints (x :: l) = I x :: ints l := nr rfl
theorem zeros_ints (n : Nat) : zeros n [I 0] = ints (List.replicate n 0) := by
  simp [zeros, ints]
theorem splice_ints (l : List Int) (i : Nat) (v : Int) (hi : i < l.length) : splice (ints l) i [I v] = ints (l.set i v) := by
  simp only [splice, ints, List.length_singleton]
  rw [List.set_eq_take_append_cons_drop, if_pos hi]
  simp [List.map_take, List.map_drop]

theorem hset_same (h : Hp) (b : Nat) (cs : List AV) : hset h b cs b = some cs := by simp [hset]
theorem hset_ne (h : Hp) {b c : Nat} (cs : List AV) (hbc : c ≠ b) : hset h b cs c = h c := by simp [hset, hbc]
theorem hset_hset (h : Hp) (b : Nat) (xs ys : List AV) : hset (hset h b xs) b ys = hset h b ys := by
  funext x
  simp only [hset]
  split <;> rfl
theorem keeps_nil (fr : Fr) (h h' : Hp) : keeps fr h h' [] = True := nr rfl

theorem iadrA_sl (b off len sz : Nat) (i : Int) : iadrA (.sl b off len sz) (I i) sz = if 0 ≤ i ∧ i < len then some (.ref b (off + i.toNat * sz)) else none := by simp [iadrA]
theorem iadrA_fs (n : Nat) (cells : List AV) (i : Int) (sz : Nat) : iadrA (.fs n cells) (I i) sz = if 0 ≤ i ∧ i < n then some (.fp (cells.drop (i.toNat * sz))) else none := nr rfl
theorem iadrA_nils (i : Int) (sz : Nat) : iadrA .nils (I i) sz = none := nr rfl
theorem fadrA_ref (b o k : Nat) : fadrA (.ref b o) k = some (.ref b (o + k)) := nr rfl
theorem fadrA_fp (cells : List AV) (k : Nat) : fadrA (.fp cells) k = some (.fp (cells.drop k)) := nr rfl
theorem cellsAt_fp (h : Hp) (cs : List AV) (n : Nat) : cellsAt h (.fp cs) n = if n ≤ cs.length then some (cs.take n) else none := nr rfl
theorem cellsAt_ref (h : Hp) (b off n : Nat) : cellsAt h (.ref b off) n = (match h b with
    | some cs => if off + n ≤ cs.length then some ((cs.drop off).take n) else none
    | none => none) := nr rfl
theorem ldv_agg (cs : List AV) : ldv cs true = some (.agg cs) := nr rfl
theorem ldv_one (v : AV) : ldv [v] false = some v := nr rfl
theorem stW_ref (b off n : Nat) (v : AV) (h : Hp) (K : Hp → Prop) : stW (.ref b off) v n h K = (match h b with
    | none => False
    | some cs => v.cells.length = n ∧ off + n ≤ cs.length ∧ v.cells.all one = true ∧ K (hset h b (splice cs off v.cells))) := nr rfl
theorem cells_base (v : Value) : (AV.base v).cells = [.base v] := nr rfl
theorem cells_agg (cs : List AV) : (AV.agg cs).cells = cs := nr rfl
theorem lenA_fs (n : Nat) (c : List AV) : lenA (.fs n c) = some n := nr rfl
theorem lenA_sl (b o n s : Nat) : lenA (.sl b o n s) = some n := nr rfl
theorem lenA_nils : lenA .nils = some 0 := nr rfl

/-- Reading a number out of a frozen list. -/
theorem take_ints (l : List Int) (i : Nat) (hi : i < l.length) : ((ints l).drop i).take 1 = [I l[i]] := by
  rw [ints_drop, List.drop_eq_getElem_cons hi]
  rfl
theorem cellsAt_ints (h : Hp) (l : List Int) (i : Nat) (hi : i < l.length) : cellsAt h (.fp ((ints l).drop i)) 1 = some [I l[i]] := by
  rw [cellsAt_fp, if_pos (by rw [List.length_drop, ints_length]; omega), take_ints l i hi]
theorem cellsAt_live (h : Hp) (b : Nat) (l : List Int) (i : Nat) (hb : h b = some (ints l)) (hi : i < l.length) : cellsAt h (.ref b i) 1 = some [I l[i]] := by
  rw [cellsAt_ref, hb]
  simp only
  rw [if_pos (by rw [ints_length]; omega), take_ints l i hi]

end Go.AM
end

section
/- The logic AM: slices that are read, slices that grow, loops with a counter, calls of pure functions. No Go program in it. -/
set_option linter.unusedSimpArgs false
set_option linter.unusedVariables false
namespace Go.AM
open Go

section
variable {P : Program} {fr : Fr} {h : Hp} {K : AE → Fr → Hp → Prop}

/-! ### Loops with a counter -/

theorem awp_for {c : SC} (n : Nat) (J : Nat → Fr → Hp → Prop) (h0 : J 0 fr h)
    (round : ∀ k fr' h', k ≤ n → (∀ s, c.writes.contains s = false → fr' s = fr s) → J k fr' h' → awp P c (thenW (fun fr'' h'' => k < n ∧ J (k + 1) fr'' h'') K) fr' h') : awp P (.loop c) K fr h := by
  refine awp_loopk (fun m fr' h' => ∃ k, k ≤ n ∧ m = n - k ∧ J k fr' h') n ⟨0, by omega, by omega, h0⟩ ?_
  intro m fr' h' hk ⟨k, hkn, hm, hj⟩
  refine awp_mono (fun e fr'' h'' hh => ?_) (round k fr' h' hkn hk hj)
  cases e with
  | normal => exact ⟨n - (k + 1), by have := hh.1; omega, k + 1, hh.1, rfl, hh.2⟩
  | exit i => exact hh
  | ret => exact hh

/-! ### Calls -/

/-- A call of a function that stands there. -/
def CallP (P : Program) (m : Nat) (i : FuncId) (avs : List AV) (h : Hp) (R : AV → Hp → Prop) : Prop := match m with
  | 0 => Spec P i avs h R
  | 1 => ∃ r, Spec P i avs h (fun v h' => v = r ∧ h' = h) ∧ R r h
  | _ => Spec P i avs h (fun v h' => Ext h h' ∧ R v h')

@[congr] theorem CallP_congr {m : Nat} {i : FuncId} {avs avs' : List AV} {h h' : Hp} {R : AV → Hp → Prop} (e1 : avs = avs') (e2 : h = h') : CallP P m i avs h R = CallP P m i avs' h' R := by rw [e1, e2]

theorem callW_f {m : Nat} {f : FuncId} {xs : List SX} {R : AV → Hp → Prop} : callW P m fr (.f f) xs h R = CallP P m f (xs.map (ev fr)) h R := by
  simp only [callW, callee, ev, List.nil_append, List.append_nil, CallP]
  rfl

/-- A pure function: a value, and memory as it was. -/
def Pure (P : Program) (f : FuncId) (avs : List AV) (r : AV) : Prop := ∀ h, Spec P f avs h (fun v h' => v = r ∧ h' = h)

theorem Pure.call {m : Nat} {i : FuncId} {avs : List AV} {r : AV} (p : Pure P i avs r) {R : AV → Hp → Prop} (hR : R r h) : CallP P m i avs h R := by
  unfold CallP
  split
  · exact (p h).mono fun v h' ⟨h1, h2⟩ => by subst h1 h2; exact hR
  · exact ⟨r, p h, hR⟩
  · exact (p h).mono fun v h' ⟨h1, h2⟩ => by subst h1 h2; exact ⟨fun b cs hb => hb, hR⟩

/-- What a pure function may end with. -/
def RetP (h : Hp) (r v : AV) (h' : Hp) : Prop := ∃ v2, Sub h' h ∧ Frz h' h v v2 ∧ v2 = r

theorem RetP.same {v : AV} : RetP h v v h := ⟨v, Sub.refl _, .id _, rfl⟩

/-- The contract of a pure function from its code. -/
theorem pure_of {md : FuncId → Nat} {f : FuncId} {n N : Nat} {sc : SC} {res : List SR} (hc : cfun P md f = some ⟨n, N, sc.erase, res⟩) {avs : List AV} (hn : avs.length = n) {r : AV}
    (hK : ∀ h, awp P sc (fun e fr' h' => (e = .normal ∨ e = .ret) ∧ ∃ v, resA fr' h' res = some v ∧ RetP h r v h') (frame0 avs) h) : Pure P f avs r :=
  fun h => Spec.fz ((spec_of hc hn (hK h)).mono fun v h' ⟨v2, h1, h2, h3⟩ => ⟨h, v2, h1, h2, h3, rfl⟩)

/-! ### Slices that are read -/

/-- A slice of n elements of sz cells, which nobody writes. -/
def SV (sz : Nat) (v : AV) (n : Nat) (cells : List AV) : Prop := cells.length = n * sz ∧ ((v = .nils ∧ n = 0) ∨ v = .fs n cells)

theorem SV.len {sz : Nat} {v : AV} {n : Nat} {cells : List AV} (hv : SV sz v n cells) : lenA v = some n := by
  rcases hv.2 with ⟨rfl, rfl⟩ | rfl <;> rfl

theorem SV.iadr {sz : Nat} {v : AV} {n : Nat} {cells : List AV} (hv : SV sz v n cells) {i : Int} (hi : 0 ≤ i ∧ i < n) : iadrA v (I i) sz = some (.fp (cells.drop (i.toNat * sz))) := by
  rcases hv.2 with ⟨rfl, rfl⟩ | rfl
  · omega
  · rw [iadrA_fs, if_pos hi]

theorem SV.read {sz : Nat} {v : AV} {n : Nat} {cells : List AV} (hv : SV sz v n cells) : readS h v sz = some (n, cells) := by
  rcases hv with ⟨hl, ⟨rfl, rfl⟩ | rfl⟩
  · have : cells = [] := List.eq_nil_of_length_eq_zero (by omega)
    subst this
    rfl
  · simp only [readS, hl, Nat.le_refl, if_true]
    rw [← hl, List.take_length]

/-- What a slice expression makes of it. -/
def slv (v : AV) (lo hi sz : Nat) : AV := match v with
  | .fs _ c => .fs (hi - lo) ((c.drop (lo * sz)).take ((hi - lo) * sz))
  | x => x

theorem SV.slc {sz : Nat} {v : AV} {n : Nat} {cells : List AV} (hv : SV sz v n cells) {lo hi : Nat} {mx : Option Nat} (h1 : lo ≤ hi) (h2 : hi ≤ n) (h3 : mx = none ∨ mx = some hi) : slcA v lo hi mx sz = some (slv v lo hi sz) := by
  rcases hv.2 with ⟨rfl, rfl⟩ | rfl
  · have e1 : lo = 0 := by omega
    have e2 : hi = 0 := by omega
    subst e1 e2
    simp [slcA, slv, h3]
  · simp [slcA, slv, h1, h2, h3]

theorem SV.slv {sz : Nat} {v : AV} {n : Nat} {cells : List AV} (hv : SV sz v n cells) {lo hi : Nat} (h1 : lo ≤ hi) (h2 : hi ≤ n) : SV sz (slv v lo hi sz) (hi - lo) ((cells.drop (lo * sz)).take ((hi - lo) * sz)) := by
  obtain ⟨hl, hv⟩ := hv
  refine ⟨?_, ?_⟩
  · rw [List.length_take, List.length_drop, hl, ← Nat.sub_mul]
    exact Nat.min_eq_left (Nat.mul_le_mul_right _ (by omega))
  · rcases hv with ⟨rfl, rfl⟩ | rfl
    · exact .inl ⟨rfl, by omega⟩
    · exact .inr rfl

theorem cellsAt_fpd {cells : List AV} {k n : Nat} (hn : k + n ≤ cells.length) : cellsAt h (.fp (cells.drop k)) n = some ((cells.drop k).take n) := by
  rw [cellsAt_fp, if_pos (by rw [List.length_drop]; omega)]

theorem cellsAt_fp1 {cells : List AV} {k : Nat} (hn : k < cells.length) : cellsAt h (.fp (cells.drop k)) 1 = some [cells.getD k .nils] := by
  rw [cellsAt_fpd (by omega), List.drop_eq_getElem_cons hn, List.take_succ_cons, List.take_zero]
  simp only [List.getD, List.getElem?_eq_getElem hn, Option.getD_some]

theorem take2 {cells : List AV} {k : Nat} (hn : k + 1 < cells.length) : (cells.drop k).take 2 = [cells.getD k .nils, cells.getD (k + 1) .nils] := by
  have h0 : k < cells.length := by omega
  rw [List.drop_eq_getElem_cons h0, List.drop_eq_getElem_cons hn, List.take_succ_cons, List.take_succ_cons, List.take_zero]
  simp only [List.getD, List.getElem?_eq_getElem hn, List.getElem?_eq_getElem h0, Option.getD_some]

theorem take3 {cells : List AV} {k : Nat} (hn : k + 2 < cells.length) : (cells.drop k).take 3 = [cells.getD k .nils, cells.getD (k + 1) .nils, cells.getD (k + 2) .nils] := by
  have h0 : k < cells.length := by omega
  have h1 : k + 1 < cells.length := by omega
  rw [List.drop_eq_getElem_cons h0, List.drop_eq_getElem_cons h1, List.drop_eq_getElem_cons hn, List.take_succ_cons, List.take_succ_cons, List.take_succ_cons, List.take_zero]
  simp only [List.getD, List.getElem?_eq_getElem hn, List.getElem?_eq_getElem h0, List.getElem?_eq_getElem h1, Option.getD_some]

/-! ### Lists of whole numbers -/

def IL (v : AV) (l : List Int) : Prop := SV 1 v l.length (ints l)

theorem ints_getD (l : List Int) (n : Nat) (hn : n < l.length) : (ints l).getD n .nils = I (l.getD n 0) := by
  simp [ints, List.getD, hn]

theorem IL.nils : IL .nils [] := ⟨rfl, .inl ⟨rfl, rfl⟩⟩
theorem IL.fs (l : List Int) : IL (.fs l.length (ints l)) l := ⟨by simp [ints], .inr rfl⟩
theorem IL.len {v : AV} {l : List Int} (hv : IL v l) : lenA v = some l.length := SV.len hv
theorem IL.iadr {v : AV} {l : List Int} (hv : IL v l) {i : Int} (hi : 0 ≤ i ∧ i < l.length) : iadrA v (I i) 1 = some (.fp ((ints l).drop i.toNat)) := by
  rw [SV.iadr hv hi, Nat.mul_one]
theorem IL.read {v : AV} {l : List Int} (hv : IL v l) : readS h v 1 = some (l.length, ints l) := SV.read hv
theorem IL.slc {v : AV} {l : List Int} (hv : IL v l) {lo hi : Nat} {mx : Option Nat} (h1 : lo ≤ hi) (h2 : hi ≤ l.length) (h3 : mx = none ∨ mx = some hi) : slcA v lo hi mx 1 = some (AM.slv v lo hi 1) := SV.slc hv h1 h2 h3
theorem IL.slcN {v : AV} {l : List Int} (hv : IL v l) {lo hi : Nat} (h1 : lo ≤ hi) (h2 : hi ≤ l.length) : slcA v lo hi none 1 = some (AM.slv v lo hi 1) := SV.slc hv h1 h2 (.inl rfl)
theorem IL.slcS {v : AV} {l : List Int} (hv : IL v l) {lo hi : Nat} (h1 : lo ≤ hi) (h2 : hi ≤ l.length) : slcA v lo hi (some hi) 1 = some (AM.slv v lo hi 1) := SV.slc hv h1 h2 (.inr rfl)
theorem IL.slv {v : AV} {l : List Int} (hv : IL v l) {lo hi : Nat} (h1 : lo ≤ hi) (h2 : hi ≤ l.length) : IL (AM.slv v lo hi 1) ((l.drop lo).take (hi - lo)) := by
  have := SV.slv hv h1 h2
  simp only [Nat.mul_one, ints_drop, ints_take] at this
  unfold IL
  rw [show ((l.drop lo).take (hi - lo)).length = hi - lo by simp; omega]
  exact this

/-- A number out of a frozen list. -/
theorem ld_ints {l : List Int} {k : Nat} (hk : k < l.length) : cellsAt h (.fp ((ints l).drop k)) 1 = some [I (l.getD k 0)] := by
  rw [cellsAt_fp1 (by rw [ints_length]; exact hk), ints_getD l k hk]

theorem ld_live {b k : Nat} {l : List Int} (hk : k < l.length) : cellsAt (hset h b (ints l)) (.ref b k) 1 = some [I (l.getD k 0)] := by
  rw [cellsAt_live _ b l k (hset_same ..) hk]
  simp [List.getD, hk]

theorem ld_other {b c k n : Nat} {cs : List AV} (hbc : c ≠ b) : cellsAt (hset h b cs) (.ref c k) n = cellsAt h (.ref c k) n := by
  rw [cellsAt_ref, cellsAt_ref, hset_ne _ _ hbc]

theorem st_ints {b k : Nat} {l : List Int} {v : Int} {Q : Hp → Prop} (hk : k < l.length) : stW (.ref b k) (I v) 1 (hset h b (ints l)) Q = Q (hset h b (ints (l.set k v))) := by
  rw [stW_ref, hset_same]
  simp only [cells_base, List.length_singleton, ints_length]
  rw [splice_ints l k v hk, hset_hset]
  apply propext
  constructor
  · exact fun hh => hh.2.2.2
  · exact fun hh => ⟨trivial, by omega, rfl, hh⟩

theorem st_other {b c k n : Nat} {cs : List AV} {v : AV} {Q : Hp → Prop} (hbc : c ≠ b) : stW (.ref c k) v n (hset h b cs) Q = stW (.ref c k) v n h (fun h' => Q (hset h' b cs)) := by
  rw [stW_ref, stW_ref, hset_ne _ _ hbc]
  cases h c with
  | none => rfl
  | some ds => simp only [hset_comm (Ne.symm hbc)]

/-- A struct is written as a whole. -/
theorem st_all {b n : Nat} {cs cs' : List AV} {Q : Hp → Prop} (h1 : cs.length = n) (h2 : cs'.length = n) (h3 : cs'.all one = true) : stW (.ref b 0) (.agg cs') n (hset h b cs) Q = Q (hset h b cs') := by
  rw [stW_ref, hset_same]
  have e : splice cs 0 cs' = cs' := by
    unfold splice
    rw [List.take_zero, List.nil_append, Nat.zero_add, h2, List.drop_eq_nil_of_le (by omega), List.append_nil]
  simp only [cells_agg, hset_hset, e]
  apply propext
  constructor
  · exact fun hh => hh.2.2.2
  · exact fun hh => ⟨h2, by omega, h3, hh⟩

/-- Its second field is written. -/
theorem st_snd {b : Nat} {x y v : AV} {Q : Hp → Prop} (h1 : v.cells = [v]) (h2 : one v = true) : stW (.ref b 1) v 1 (hset h b [x, y]) Q = Q (hset h b [x, v]) := by
  rw [stW_ref, hset_same]
  simp only [h1, hset_hset]
  apply propext
  constructor
  · exact fun hh => hh.2.2.2
  · exact fun hh => ⟨rfl, by simp, by simp [h2], hh⟩

/-! ### Slices that grow -/

/-- A slice of n elements of sz cells that is ours: nothing yet, or a live block. -/
def Ow (sz : Nat) (h0 h : Hp) (v : AV) (n : Nat) (cs : List AV) : Prop :=
  cs.length = n * sz ∧ ((v = .nils ∧ n = 0 ∧ h = h0) ∨ ∃ b, h0 b = none ∧ v = .sl b 0 n sz ∧ h = hset h0 b cs)

/-- The same, beside blocks of no use. -/
def OwJ (sz : Nat) (h0 h : Hp) (v : AV) (n : Nat) (cs : List AV) : Prop := ∃ h1, (∀ b xs, h1 b = some xs → h b = some xs) ∧ Ow sz h0 h1 v n cs

theorem Ow.nils (sz : Nat) (h0 : Hp) : Ow sz h0 h0 .nils 0 [] := ⟨by simp, .inl ⟨rfl, rfl, rfl⟩⟩
theorem Ow.of (sz : Nat) {h0 : Hp} {b n : Nat} {cs : List AV} (hb : h0 b = none) (hn : cs.length = n * sz) : Ow sz h0 (hset h0 b cs) (.sl b 0 n sz) n cs := ⟨hn, .inr ⟨b, hb, rfl, rfl⟩⟩

theorem Ow.len {sz : Nat} {h0 : Hp} {v : AV} {n : Nat} {cs : List AV} (o : Ow sz h0 h v n cs) : lenA v = some n := by
  rcases o.2 with ⟨rfl, rfl, _⟩ | ⟨b, _, rfl, _⟩ <;> rfl

theorem Ow.frame {sz : Nat} {h0 : Hp} {v : AV} {n : Nat} {cs : List AV} (o : Ow sz h0 h v n cs) {b : Nat} (hb : h b = none) (xs : List AV) : Ow sz (hset h0 b xs) (hset h b xs) v n cs := by
  obtain ⟨hl, o⟩ := o
  refine ⟨hl, ?_⟩
  rcases o with ⟨h1, h2, h3⟩ | ⟨c, h1, h2, h3⟩
  · exact .inl ⟨h1, h2, by rw [h3]⟩
  · have hcb : c ≠ b := fun he => by rw [h3, he, hset_same] at hb; cases hb
    exact .inr ⟨c, by rw [hset_ne _ _ hcb]; exact h1, h2, by rw [h3, hset_comm hcb]⟩

theorem Ow.free {sz : Nat} {h0 : Hp} {v : AV} {n : Nat} {cs : List AV} (o : Ow sz h0 h v n cs) {b : Nat} (hb : h b = none) : h0 b = none := by
  rcases o.2 with ⟨_, _, rfl⟩ | ⟨c, h1, h2, rfl⟩
  · exact hb
  · by_cases hcb : b = c
    · rw [hcb]; exact h1
    · rwa [hset_ne _ _ hcb] at hb

/-- append of a block of our own. -/
theorem Ow.app {sz : Nat} {h0 : Hp} {v : AV} {n : Nat} {cs : List AV} (o : Ow sz h0 h v n cs) {b m : Nat} {xs : List AV} (hb : h b = none) (hx : xs.length = m * sz) (hm : 0 < m) (hn : n + m ≤ 4294967296) {R : AV → Hp → Prop}
    (k : ∀ v' h', OwJ sz h0 h' v' (n + m) (cs ++ xs) → R v' h') : appW v (.sl b 0 m sz) sz (hset h b xs) R := by
  have hr : readS (hset h b xs) (.sl b 0 m sz) sz = some (m, xs) := by
    simp only [readS, hset_same, Nat.zero_add, hx, Nat.le_refl, and_self, if_true, List.drop_zero]
    rw [← hx, List.take_length]
  obtain ⟨hl, o'⟩ := o
  have hl2 : (cs ++ xs).length = (n + m) * sz := by rw [List.length_append, hl, hx, Nat.add_mul]
  unfold appW
  rw [hr]
  rcases o' with ⟨rfl, rfl, rfl⟩ | ⟨c, h1, rfl, rfl⟩
  · have hcs : cs = [] := List.eq_nil_of_length_eq_zero (by simpa using hl)
    subst hcs
    refine ⟨by omega, fun h => by omega, fun _ b' hb' => ?_⟩
    refine k _ _ ⟨hset h b' xs, fun x ys hxy => ?_, ⟨by simpa using hx, .inr ⟨b', ?_, by rw [Nat.zero_add], rfl⟩⟩⟩
    · by_cases hxb : x = b'
      · rw [hxb, hset_same] at hxy ⊢; exact hxy
      · rw [hset_ne _ _ hxb] at hxy ⊢
        by_cases hx2 : x = b
        · rw [hx2, hb] at hxy; cases hxy
        · rw [hset_ne _ _ hx2]; exact hxy
    · by_cases hx2 : b' = b
      · rw [hx2]; exact hb
      · rwa [hset_ne _ _ hx2] at hb'
  · have hcb : c ≠ b := fun he => by rw [he, hset_same] at hb; cases hb
    have hb0 : h0 b = Option.none := by rwa [hset_ne _ _ (Ne.symm hcb)] at hb
    simp only
    rw [hset_ne _ _ hcb, hset_same]
    refine ⟨trivial, trivial, hl, hn, fun b' hb' => ?_⟩
    have hb0' : h0 b' = Option.none := by
      rcases hb' with rfl | hb'
      · exact h1
      · by_cases e1 : b' = b
        · rw [e1]; exact hb0
        · rw [hset_ne _ _ e1] at hb'
          by_cases e2 : b' = c
          · rw [e2]; exact h1
          · rwa [hset_ne _ _ e2] at hb'
    refine k _ _ ⟨hset h0 b' (cs ++ xs), fun x ys hxy => ?_, ⟨hl2, .inr ⟨b', hb0', rfl, rfl⟩⟩⟩
    by_cases hxb : x = b'
    · rw [hxb, hset_same] at hxy ⊢; exact hxy
    · rw [hset_ne _ _ hxb] at hxy ⊢
      by_cases e1 : x = b
      · rw [e1, hb0] at hxy; cases hxy
      · rw [hset_ne _ _ e1]
        by_cases e2 : x = c
        · rw [e2, h1] at hxy; cases hxy
        · rw [hset_ne _ _ e2]; exact hxy

/-- append of a slice that is only read. -/
theorem Ow.apps {sz : Nat} {h0 : Hp} {v : AV} {n : Nat} {cs : List AV} (o : Ow sz h0 h v n cs) {x : AV} {m : Nat} {xs : List AV} (hx : SV sz x m xs) (hn : n + m ≤ 4294967296) {R : AV → Hp → Prop}
    (k : ∀ v' h', OwJ sz h0 h' v' (n + m) (cs ++ xs) → R v' h') : appW v x sz h R := by
  obtain ⟨hl, o'⟩ := o
  have hl2 : (cs ++ xs).length = (n + m) * sz := by rw [List.length_append, hl, hx.1, Nat.add_mul]
  unfold appW
  rw [hx.read]
  rcases o' with ⟨rfl, rfl, rfl⟩ | ⟨c, h1, rfl, rfl⟩
  · have hcs : cs = [] := List.eq_nil_of_length_eq_zero (by simpa using hl)
    subst hcs
    refine ⟨by omega, fun hm => ?_, fun _ b' hb' => ?_⟩
    · subst hm
      exact k _ _ ⟨h, fun _ _ hh => hh, ⟨hl2, .inl ⟨rfl, rfl, rfl⟩⟩⟩
    · exact k _ _ ⟨hset h b' xs, fun _ _ hh => hh, ⟨hl2, .inr ⟨b', hb', by rw [Nat.zero_add], rfl⟩⟩⟩
  · simp only
    rw [hset_same]
    refine ⟨trivial, trivial, hl, hn, fun b' hb' => ?_⟩
    have hb0' : h0 b' = Option.none := by
      rcases hb' with rfl | hb'
      · exact h1
      · by_cases e2 : b' = c
        · rw [e2]; exact h1
        · rwa [hset_ne _ _ e2] at hb'
    refine k _ _ ⟨hset h0 b' (cs ++ xs), fun x ys hxy => ?_, ⟨hl2, .inr ⟨b', hb0', rfl, rfl⟩⟩⟩
    by_cases hxb : x = b'
    · rw [hxb, hset_same] at hxy ⊢; exact hxy
    · rw [hset_ne _ _ hxb] at hxy ⊢
      by_cases e2 : x = c
      · rw [e2, h1] at hxy; cases hxy
      · rw [hset_ne _ _ e2]; exact hxy

/-- A block beside the slice, as it was. -/
theorem Ow.rd {sz : Nat} {h0 : Hp} {v : AV} {n : Nat} {cs : List AV} (o : Ow sz h0 h v n cs) {b : Nat} {xs : List AV} (hb : h0 b = some xs) : h b = some xs := by
  rcases o.2 with ⟨_, _, rfl⟩ | ⟨c, h1, _, rfl⟩
  · exact hb
  · have : b ≠ c := fun he => by rw [he, h1] at hb; cases hb
    rw [hset_ne _ _ this]; exact hb

/-- A block beside the slice is written. -/
theorem Ow.put {sz : Nat} {h0 : Hp} {v : AV} {n : Nat} {cs : List AV} (o : Ow sz h0 h v n cs) {b : Nat} {xs : List AV} (hb : h0 b = some xs) (ys : List AV) : Ow sz (hset h0 b ys) (hset h b ys) v n cs := by
  obtain ⟨hl, o⟩ := o
  refine ⟨hl, ?_⟩
  rcases o with ⟨h1, h2, rfl⟩ | ⟨c, h1, h2, rfl⟩
  · exact .inl ⟨h1, h2, rfl⟩
  · have : c ≠ b := fun he => by rw [he, hb] at h1; cases h1
    exact .inr ⟨c, by rw [hset_ne _ _ this]; exact h1, h2, by rw [hset_comm this]⟩

theorem sub_plain {h h' : Hp} (s : ∀ b xs, h' b = some xs → h b = some xs) : Sub h h' := Sub.of s

theorem sub_hset {h0 : Hp} {b : Nat} {cs : List AV} (hb : h0 b = none) : Sub (hset h0 b cs) h0 := Sub.of fun c xs hc => by
  have : c ≠ b := fun he => by rw [he, hb] at hc; cases hc
  rw [hset_ne _ _ this]; exact hc

/-- The frozen form of a slice that has grown. -/
def ownv (n : Nat) (v : AV) (cs : List AV) : AV := match v with
  | .nils => .nils
  | _ => .fs n cs

theorem Ow.frz {sz : Nat} {h0 : Hp} {v : AV} {n : Nat} {cs : List AV} (o : Ow sz h0 h v n cs) : Sub h h0 ∧ ∃ v', Frz h h0 v v' ∧ SV sz v' n cs ∧ (v' = .nils ∨ v' = .fs n cs) := by
  obtain ⟨hl, o'⟩ := o
  rcases o' with ⟨rfl, rfl, rfl⟩ | ⟨c, h1, rfl, rfl⟩
  · exact ⟨Sub.refl _, .nils, .id _, ⟨hl, .inl ⟨rfl, rfl⟩⟩, .inl rfl⟩
  · exact ⟨sub_hset h1, .fs n cs, Frz.slk (hset_same ..) h1 hl.symm, ⟨hl, .inr rfl⟩, .inr rfl⟩

end
end Go.AM
end

section
/- The logic AM: memory told by what stands in single blocks; slices that grow from nothing. No Go program in it. -/
set_option linter.unusedSimpArgs false
set_option linter.unusedVariables false
namespace Go.AM
open Go

theorem one_base (v : Value) : one (.base v) = true := nr rfl
theorem one_nilp : one .nilp = true := nr rfl
theorem one_nils : one .nils = true := nr rfl
theorem one_ref (b o : Nat) : one (.ref b o) = true := nr rfl
theorem one_sl (b o n s : Nat) : one (.sl b o n s) = true := nr rfl
theorem one_fp (c : List AV) : one (.fp c) = true := nr rfl
theorem one_fs (n : Nat) (c : List AV) : one (.fs n c) = true := nr rfl
theorem one_fn (f : FuncId) (a b : List AV) : one (.fn f a b) = true := nr rfl
theorem SV.one {sz : Nat} {v : AV} {n : Nat} {cells : List AV} (hv : SV sz v n cells) : one v = true := by
  rcases hv.2 with ⟨rfl, _⟩ | rfl <;> rfl
theorem IL.one {v : AV} {l : List Int} (hv : IL v l) : one v = true := SV.one hv

section
variable {P : Program} {fr : Fr} {h h' F : Hp} {K : AE → Fr → Hp → Prop}

/-- What stands in F stands in h. -/
def Kp (F h : Hp) : Prop := ∀ b xs, F b = some xs → h b = some xs

theorem Kp.refl (h : Hp) : Kp h h := fun _ _ hb => hb
theorem Kp.trans {a b c : Hp} (h1 : Kp a b) (h2 : Kp b c) : Kp a c := fun x xs hx => h2 x xs (h1 x xs hx)
theorem Kp.no (k : Kp F h) {b : Nat} (hb : h b = none) : F b = none := by
  cases hf : F b with
  | none => rfl
  | some xs => rw [k b xs hf] at hb; cases hb
theorem Kp.new (k : Kp F h) {b : Nat} (hb : h b = none) (xs : List AV) : Kp F (hset h b xs) := fun c ys hc => by
  have : c ≠ b := fun he => by rw [he, k.no hb] at hc; cases hc
  rw [hset_ne _ _ this]; exact k c ys hc
theorem Kp.set (k : Kp F h) {b : Nat} (hb : F b = none) (xs : List AV) : Kp F (hset h b xs) := fun c ys hc => by
  have : c ≠ b := fun he => by rw [he, hb] at hc; cases hc
  rw [hset_ne _ _ this]; exact k c ys hc
theorem Kp.both (k : Kp F h) (b : Nat) (xs : List AV) : Kp (hset F b xs) (hset h b xs) := fun c ys hc => by
  by_cases hcb : c = b
  · rw [hcb, hset_same] at hc ⊢; exact hc
  · rw [hset_ne _ _ hcb] at hc ⊢; exact k c ys hc
theorem Kp.sub (k : Kp F h) : Sub h F := Sub.of k

/-! ### Single blocks -/

theorem ld_at {b k n : Nat} {cs : List AV} (hb : h b = some cs) (hk : k + n ≤ cs.length) : cellsAt h (.ref b k) n = some ((cs.drop k).take n) := by
  rw [cellsAt_ref, hb]; simp only; rw [if_pos hk]
theorem ld_ints_at {b k : Nat} {l : List Int} (hb : h b = some (ints l)) (hk : k < l.length) : cellsAt h (.ref b k) 1 = some [I (l.getD k 0)] := by
  rw [ld_at hb (by rw [ints_length]; omega), take_ints l k hk]
  simp [List.getD, hk]
theorem ld_one_at {b k : Nat} {cs : List AV} (hb : h b = some cs) (hk : k < cs.length) : cellsAt h (.ref b k) 1 = some [cs.getD k .nils] := by
  rw [ld_at hb (by omega), List.drop_eq_getElem_cons hk, List.take_succ_cons, List.take_zero]
  simp only [List.getD, List.getElem?_eq_getElem hk, Option.getD_some]
theorem st_at {b k n : Nat} {cs : List AV} {v : AV} {Q : Hp → Prop} (hb : h b = some cs) (h1 : v.cells.length = n) (h2 : k + n ≤ cs.length) (h3 : v.cells.all one = true) :
    stW (.ref b k) v n h Q = Q (hset h b (splice cs k v.cells)) := by
  rw [stW_ref, hb]
  apply propext
  exact ⟨fun hh => hh.2.2.2, fun hh => ⟨h1, h2, h3, hh⟩⟩
theorem st_ints_at {b k : Nat} {l : List Int} {v : Int} {Q : Hp → Prop} (hb : h b = some (ints l)) (hk : k < l.length) :
    stW (.ref b k) (I v) 1 h Q = Q (hset h b (ints (l.set k v))) := by
  rw [st_at (v := I v) hb (by rw [cells_base]; rfl) (by rw [ints_length]; omega) (by rw [cells_base]; rfl), cells_base, splice_ints l k v hk]
theorem st_one_at {b k : Nat} {cs : List AV} {v : AV} {Q : Hp → Prop} (hb : h b = some cs) (hv : v.cells = [v]) (h1 : one v = true) (hk : k < cs.length) :
    stW (.ref b k) v 1 h Q = Q (hset h b (cs.set k v)) := by
  rw [st_at hb (by rw [hv]; rfl) (by omega) (by rw [hv]; simp [h1]), hv]
  congr 2
  simp only [splice, List.length_singleton]
  rw [List.set_eq_take_append_cons_drop, if_pos hk]
  simp
theorem st_all_at {b n : Nat} {cs cs' : List AV} {Q : Hp → Prop} (hb : h b = some cs) (h1 : cs.length = n) (h2 : cs'.length = n) (h3 : cs'.all one = true) :
    stW (.ref b 0) (.agg cs') n h Q = Q (hset h b cs') := by
  rw [st_at (v := .agg cs') hb (by rw [cells_agg]; exact h2) (by omega) (by rw [cells_agg]; exact h3)]
  congr 2
  unfold splice
  rw [List.take_zero, List.nil_append, Nat.zero_add, cells_agg, h2, List.drop_eq_nil_of_le (by omega), List.append_nil]

/-! ### Slices that grow from nothing, beside F -/

/-- A slice of n elements of sz cells that is ours, made by append out of nil. -/
def Own (sz : Nat) (F h : Hp) (v : AV) (n : Nat) (cs : List AV) : Prop :=
  Kp F h ∧ cs.length = n * sz ∧ ((n = 0 ∧ v = .nils) ∨ (0 < n ∧ ∃ c, v = .sl c 0 n sz ∧ h c = some cs ∧ F c = none))

theorem Own.nils (sz : Nat) (h : Hp) : Own sz h h .nils 0 [] := ⟨Kp.refl h, by simp, .inl ⟨rfl, rfl⟩⟩
theorem Own.kp {sz : Nat} {v : AV} {n : Nat} {cs : List AV} (o : Own sz F h v n cs) : Kp F h := o.1
theorem Own.rd {sz : Nat} {v : AV} {n : Nat} {cs : List AV} (o : Own sz F h v n cs) {b : Nat} {xs : List AV} (hb : F b = some xs) : h b = some xs := o.1 b xs hb
theorem Own.len {sz : Nat} {v : AV} {n : Nat} {cs : List AV} (o : Own sz F h v n cs) : lenA v = some n := by
  rcases o.2.2 with ⟨rfl, rfl⟩ | ⟨_, b, rfl, _, _⟩ <;> rfl
theorem Own.lenc {sz : Nat} {v : AV} {n : Nat} {cs : List AV} (o : Own sz F h v n cs) : cs.length = n * sz := o.2.1
theorem Own.one {sz : Nat} {v : AV} {n : Nat} {cs : List AV} (o : Own sz F h v n cs) : AM.one v = true := by
  rcases o.2.2 with ⟨_, rfl⟩ | ⟨_, b, rfl, _, _⟩ <;> rfl
theorem Own.cells {sz : Nat} {v : AV} {n : Nat} {cs : List AV} (o : Own sz F h v n cs) : v.cells = [v] := by
  rcases o.2.2 with ⟨_, rfl⟩ | ⟨_, b, rfl, _, _⟩ <;> rfl
theorem Own.put {sz : Nat} {v : AV} {n : Nat} {cs : List AV} (o : Own sz F h v n cs) {b : Nat} {xs : List AV} (hb : F b = some xs) (ys : List AV) : Own sz (hset F b ys) (hset h b ys) v n cs := by
  obtain ⟨hk, hl, o⟩ := o
  refine ⟨hk.both b ys, hl, ?_⟩
  rcases o with o | ⟨hn, c, h1, h2, h3⟩
  · exact .inl o
  · have : c ≠ b := fun he => by rw [he, hb] at h3; cases h3
    exact .inr ⟨hn, c, h1, by rw [hset_ne _ _ this]; exact h2, by rw [hset_ne _ _ this]; exact h3⟩
/-- A new block beside, to keep. -/
theorem Own.add {sz : Nat} {v : AV} {n : Nat} {cs : List AV} (o : Own sz F h v n cs) {b : Nat} (hb : h b = none) (ys : List AV) : Own sz (hset F b ys) (hset h b ys) v n cs := by
  obtain ⟨hk, hl, o⟩ := o
  refine ⟨hk.both b ys, hl, ?_⟩
  rcases o with o | ⟨hn, c, h1, h2, h3⟩
  · exact .inl o
  · have : c ≠ b := fun he => by rw [he, hb] at h2; cases h2
    exact .inr ⟨hn, c, h1, by rw [hset_ne _ _ this]; exact h2, by rw [hset_ne _ _ this]; exact h3⟩
/-- A new block beside, of no use. -/
theorem Own.junk {sz : Nat} {v : AV} {n : Nat} {cs : List AV} (o : Own sz F h v n cs) {b : Nat} (hb : h b = none) (ys : List AV) : Own sz F (hset h b ys) v n cs := by
  obtain ⟨hk, hl, o⟩ := o
  refine ⟨hk.new hb ys, hl, ?_⟩
  rcases o with o | ⟨hn, c, h1, h2, h3⟩
  · exact .inl o
  · have : c ≠ b := fun he => by rw [he, hb] at h2; cases h2
    exact .inr ⟨hn, c, h1, by rw [hset_ne _ _ this]; exact h2, h3⟩
theorem Own.mono {sz : Nat} {v : AV} {n : Nat} {cs : List AV} (o : Own sz F h v n cs) {F' : Hp} (k : Kp F' F) : Own sz F' h v n cs :=
  ⟨k.trans o.1, o.2.1, o.2.2.imp (fun x => x) fun ⟨hn, c, h1, h2, h3⟩ => ⟨hn, c, h1, h2, k.no h3⟩⟩

/-- append of what can be read. -/
theorem Own.app {sz : Nat} {v : AV} {n : Nat} {cs : List AV} (o : Own sz F h v n cs) {h2 : Hp} (hk2 : Kp h h2) {x : AV} {m : Nat} {xs : List AV} (hx : readS h2 x sz = some (m, xs)) (hxl : xs.length = m * sz) (hn : n + m ≤ 4294967296) {R : AV → Hp → Prop}
    (k : ∀ v' h', Own sz F h' v' (n + m) (cs ++ xs) → R v' h') : appW v x sz h2 R := by
  obtain ⟨hk, hl, o'⟩ := o
  have hkk := hk.trans hk2
  have hl2 : (cs ++ xs).length = (n + m) * sz := by rw [List.length_append, hl, hxl, Nat.add_mul]
  unfold appW
  rw [hx]
  rcases o' with ⟨rfl, rfl⟩ | ⟨hn0, c, rfl, h1, h3⟩
  · have hcs : cs = [] := List.eq_nil_of_length_eq_zero (by simpa using hl)
    subst hcs
    refine ⟨by omega, fun hm => ?_, fun hm b' hb' => ?_⟩
    · subst hm
      exact k _ _ ⟨hkk, hl2, .inl ⟨rfl, rfl⟩⟩
    · refine k _ _ ⟨hkk.new hb' xs, hl2, .inr ⟨by omega, b', by rw [Nat.zero_add], hset_same .., hkk.no hb'⟩⟩
  · simp only
    rw [hk2 c cs h1]
    refine ⟨trivial, trivial, hl, hn, fun b' hb' => ?_⟩
    have hFb : F b' = Option.none := by
      rcases hb' with rfl | hb'
      · exact h3
      · exact hkk.no hb'
    exact k _ _ ⟨hkk.set hFb _, hl2, .inr ⟨by omega, b', rfl, hset_same .., hFb⟩⟩

theorem readS_new {b m sz : Nat} {xs : List AV} (hx : xs.length = m * sz) : readS (hset h b xs) (.sl b 0 m sz) sz = some (m, xs) := by
  simp only [readS, hset_same, Nat.zero_add, hx, Nat.le_refl, and_self, if_true, List.drop_zero]
  rw [← hx, List.take_length]

/-- append of the block that has just been made for it. -/
theorem Own.app1 {sz : Nat} {v : AV} {n : Nat} {cs : List AV} (o : Own sz F h v n cs) {b m : Nat} {xs : List AV} (hb : h b = none) (hx : xs.length = m * sz) (hn : n + m ≤ 4294967296) {R : AV → Hp → Prop}
    (k : ∀ v' h', Own sz F h' v' (n + m) (cs ++ xs) → R v' h') : appW v (.sl b 0 m sz) sz (hset h b xs) R :=
  o.app ((Kp.refl h).new hb xs) (readS_new hx) hx hn k

/-- append of a slice that is only read. -/
theorem Own.apps {sz : Nat} {v : AV} {n : Nat} {cs : List AV} (o : Own sz F h v n cs) {x : AV} {m : Nat} {xs : List AV} (hx : SV sz x m xs) (hn : n + m ≤ 4294967296) {R : AV → Hp → Prop}
    (k : ∀ v' h', Own sz F h' v' (n + m) (cs ++ xs) → R v' h') : appW v x sz h R :=
  o.app (Kp.refl h) hx.read hx.1 hn k

/-- The frozen form of a slice that has grown from nothing. -/
def gl (n : Nat) (cs : List AV) : AV := if n = 0 then .nils else .fs n cs
theorem gl_one (n : Nat) (cs : List AV) : AM.one (gl n cs) = true := by
  unfold gl; split <;> rfl

theorem gl_SV {sz n : Nat} {cs : List AV} (hl : cs.length = n * sz) : SV sz (gl n cs) n cs := by
  refine ⟨hl, ?_⟩
  unfold gl
  split
  · rename_i h; exact .inl ⟨rfl, h⟩
  · exact .inr rfl

def gil (l : List Int) : AV := gl l.length (ints l)
theorem gil_IL (l : List Int) : IL (gil l) l := gl_SV (by simp [ints])

/-- Frozen: the heap goes back to what stood in G. -/
theorem Own.frz {sz : Nat} {v : AV} {n : Nat} {cs : List AV} (o : Own sz F h v n cs) {G : Hp} (k : Kp G F) : Sub h G ∧ Frz h G v (gl n cs) := by
  obtain ⟨hk, hl, o'⟩ := o
  refine ⟨(k.trans hk).sub, ?_⟩
  unfold gl
  rcases o' with ⟨rfl, rfl⟩ | ⟨hn, c, rfl, h1, h3⟩
  · exact .id _
  · rw [if_neg (by omega)]
    exact Frz.slk h1 (k.no h3) hl.symm

/-- The function ends with the slice. -/
theorem Own.ret {sz : Nat} {v : AV} {n : Nat} {cs : List AV} (o : Own sz F h' v n cs) (k : Kp h F) {r : AV} (hr : r = gl n cs) : RetP h r v h' :=
  ⟨_, (o.frz k).1, (o.frz k).2, hr.symm⟩

/-- The function ends with a block made by make. -/
theorem ret_blk {b n sz : Nat} {cs : List AV} (hb : h' b = some cs) (hf : h b = none) (k : Kp h h') (hn : n * sz = cs.length) {r : AV} (hr : r = .fs n cs) : RetP h r (.sl b 0 n sz) h' :=
  ⟨_, k.sub, Frz.slk hb hf hn, hr.symm⟩

theorem RetP.tup {vs rs : List AV} (s : Sub h' h) (hl : vs.length = rs.length) (hf : ∀ (j : Nat) (hj : j < rs.length) (hk : j < vs.length), Frz h' h vs[j] rs[j]) : RetP h (.tup rs) (.tup vs) h' :=
  ⟨.tup rs, s, .tup vs rs hl hf, rfl⟩
theorem RetP.agg {vs rs : List AV} (s : Sub h' h) (hl : vs.length = rs.length) (hf : ∀ (j : Nat) (hj : j < rs.length) (hk : j < vs.length), Frz h' h vs[j] rs[j]) : RetP h (.agg rs) (.agg vs) h' :=
  ⟨.agg rs, s, .agg vs rs hl hf, rfl⟩
theorem RetP.any {v r : AV} (s : Sub h' h) (f : Frz h' h v r) : RetP h r v h' := ⟨r, s, f, rfl⟩

theorem frz2 {x y x' y' : AV} (f1 : Frz h' h x x') (f2 : Frz h' h y y') : ∀ (j : Nat) (hj : j < [x', y'].length) (hk : j < [x, y].length), Frz h' h [x, y][j] [x', y'][j] := by
  intro j hj hk
  match j, hj with
  | 0, _ => exact f1
  | 1, _ => exact f2
theorem frz3 {x y z x' y' z' : AV} (f1 : Frz h' h x x') (f2 : Frz h' h y y') (f3 : Frz h' h z z') : ∀ (j : Nat) (hj : j < [x', y', z'].length) (hk : j < [x, y, z].length), Frz h' h [x, y, z][j] [x', y', z'][j] := by
  intro j hj hk
  match j, hj with
  | 0, _ => exact f1
  | 1, _ => exact f2
  | 2, _ => exact f3


/-- A live slice is frozen, in one slot. -/
theorem Fz_one {g : Hp} {s b n sz : Nat} {cs : List AV} {Q : Fr → Hp → Prop} (hs : fr s = .sl b 0 n sz) (hb : h b = some cs) (hg : g b = none) (k : Kp g h) (hn : n * sz = cs.length) (q : Q (upd fr s (.fs n cs)) g) : Fz [s] Q fr h :=
  ⟨g, [.fs n cs], k.sub, ⟨hs ▸ Frz.slk hb hg hn, trivial⟩, q⟩

theorem Fz_own {g : Hp} {sz : Nat} {s n : Nat} {v : AV} {cs : List AV} {Q : Fr → Hp → Prop} (hs : fr s = v) (o : Own sz F h v n cs) (k : Kp g F) (q : Q (upd fr s (gl n cs)) g) : Fz [s] Q fr h :=
  ⟨g, [gl n cs], (o.frz k).1, ⟨hs ▸ (o.frz k).2, trivial⟩, q⟩

/-- copy within a block, one up. -/
theorem cpy_up {b m : Nat} {os : List Int} {K : AV → Hp → Prop} (hb : h b = some (ints os)) (hm : os.length = m) (h0 : 0 < m) :
    cpyW (.sl b 1 (m - 1) 1) (.sl b 0 (m - 1) 1) h K = K (I ((m - 1 : Nat) : Int)) (hset h b (ints (os.take 1 ++ os.take (m - 1)))) := by
  have hr : readS h (.sl b 0 (m - 1) 1) 1 = some (m - 1, ints (os.take (m - 1))) := by
    simp [readS, hb, ints_length, ints_take]
    omega
  have e1 : List.take (m - 1) (ints (os.take (m - 1))) = ints (os.take (m - 1)) := List.take_of_length_le (by rw [ints_length, List.length_take]; omega)
  have e : splice (ints os) 1 (ints (os.take (m - 1))) = ints (os.take 1 ++ os.take (m - 1)) := by
    unfold splice
    rw [ints_length, List.length_take, List.drop_eq_nil_of_le (by rw [ints_length]; omega), List.append_nil, ints_take, ints_append]
  have e2 : Nat.min (m - 1) (m - 1) = m - 1 := Nat.min_self _
  unfold cpyW
  rw [hr]
  simp only [hb, e2, e1, e]
  apply propext
  refine ⟨fun hh => hh.2.2, fun hh => ⟨trivial, by rw [ints_length]; omega, hh⟩⟩
end
end Go.AM
end

section
/- The logic AM: rules for walking that have no binder in them: what follows is not looked at before its turn. No Go program in it. -/
set_option linter.unusedSimpArgs false
set_option linter.unusedVariables false
namespace Go.AM
open Go

/-- What follows an operation. -/
def contA (P : Program) (k : Fr → Hp → Prop) (xs : List GOp) (fr : Fr) (d : Option Nat) : AV → Hp → Prop := fun v h => aops P k xs (updO fr d v) h
def bindR (o : Option AV) (R : AV → Hp → Prop) (h : Hp) : Prop := match o with
  | some v => R v h
  | none => False
def guardR (P : Program) (x : AV) (w : Bool) (g : GOp) (fr : Fr) (h : Hp) (R : AV → Hp → Prop) : Prop := guardW x w (eff P g fr h R) (R (.tup []) h)
def condR (P : Program) (x : AV) (a b : SC) (K : AE → Fr → Hp → Prop) (fr : Fr) (h : Hp) : Prop := condW x (awp P a K fr h) (awp P b K fr h)
def stR (x v : AV) (n : Nat) (h : Hp) (R : AV → Hp → Prop) : Prop := stW x v n h (R (.tup []))

section
variable {P : Program} {fr : Fr} {h : Hp} {K : AE → Fr → Hp → Prop} {R : AV → Hp → Prop} {m : Nat} {d : Option Nat} {kp : List (Nat × Nat)}

theorem aops_cons' (k : Fr → Hp → Prop) (x : GOp) (xs : List GOp) : aops P k (x :: xs) fr h = eff P x fr h (contA P k xs fr x.d) := nr rfl
theorem contA_ap (k : Fr → Hp → Prop) (xs : List GOp) (v : AV) : contA P k xs fr d v h = aops P k xs (updO fr d v) h := nr rfl
theorem bindR_some (v : AV) : bindR (some v) R h = R v h := nr rfl
theorem awp_cond' (c : SX) (a b : SC) : awp P (.cond c a b) K fr h = condR P (ev fr c) a b K fr h := nr rfl
theorem condR_true (a b : SC) : condR P (B true) a b K fr h = awp P a K fr h := by simp [condR, condW]
theorem condR_false (a b : SC) : condR P (B false) a b K fr h = awp P b K fr h := by simp [condR, condW]
theorem condR_if (p : Prop) [Decidable p] (a b : SC) : condR P (B (decide p)) a b K fr h = if p then awp P a K fr h else awp P b K fr h := by simp [condR, condW]
theorem guardR_tup (w : Bool) (g : GOp) : guardR P (.tup []) w g fr h R = R (.tup []) h := nr rfl
theorem guardR_true (g : GOp) : guardR P (B true) true g fr h R = eff P g fr h R := by simp [guardR, guardW]
theorem guardR_true' (g : GOp) : guardR P (B true) false g fr h R = R (.tup []) h := by simp [guardR, guardW]
theorem guardR_false (g : GOp) : guardR P (B false) false g fr h R = eff P g fr h R := by simp [guardR, guardW]
theorem guardR_false' (g : GOp) : guardR P (B false) true g fr h R = R (.tup []) h := by simp [guardR, guardW]
theorem e_guard' (s : Nat) (b : Bool) (x : SO) : eff P ⟨some (s, b), d, x, m, kp⟩ fr h R = guardR P (fr s) b ⟨none, d, x, m, kp⟩ fr h R := nr rfl
theorem e_st' (x v : SX) (n : Nat) : eff P ⟨none, d, .st x v n, m, []⟩ fr h R = stR (ev fr x) (ev fr v) n h R := by
  rw [e_st]
  unfold stR
  congr 1
  funext h'
  simp [keeps]

theorem e_pick' (c x y : SX) : eff P ⟨none, d, .pick c x y, m, kp⟩ fr h R = bindR (pickA (ev fr c) (ev fr x) (ev fr y)) R h := nr rfl
theorem e_ld' (x : SX) (n : Nat) (ag : Bool) : eff P ⟨none, d, .ld x n ag, m, kp⟩ fr h R = bindR ((cellsAt h (ev fr x) n).bind (ldv · ag)) R h := nr rfl
theorem e_bin' (op : BinOp) (x y : SX) : eff P ⟨none, d, .bin op x y, m, kp⟩ fr h R = bindR (binA op (ev fr x) (ev fr y)) R h := nr rfl
theorem e_isnil' (ne : Bool) (x : SX) : eff P ⟨none, d, .isnil ne x, m, kp⟩ fr h R = bindR ((isNil (ev fr x)).map fun r => .base (.bool (r != ne))) R h := nr rfl
theorem e_fadr' (x : SX) (k : Nat) : eff P ⟨none, d, .fadr x k, m, kp⟩ fr h R = bindR (fadrA (ev fr x) k) R h := nr rfl
theorem e_iadr' (x i : SX) (k : Nat) : eff P ⟨none, d, .iadr x i k, m, kp⟩ fr h R = bindR (iadrA (ev fr x) (ev fr i) k) R h := nr rfl
theorem e_iarr' (x i : SX) (n k : Nat) : eff P ⟨none, d, .iarr x i n k, m, kp⟩ fr h R = bindR (iarrA (ev fr x) (ev fr i) n k) R h := nr rfl
theorem e_len' (x : SX) : eff P ⟨none, d, .len x, m, kp⟩ fr h R = bindR ((lenA (ev fr x)).map fun (n : Nat) => .base (.int .i64 n)) R h := nr rfl
theorem e_build' (z : List AV) (ps : List (Nat × Nat × SX)) : eff P ⟨none, d, .build z ps, m, kp⟩ fr h R = bindR ((afill z (ps.map fun (a, b, x) => (a, b, ev fr x))).map .agg) R h := nr rfl
theorem e_mkf' (f : FuncId) (a b : List SX) : eff P ⟨none, d, .mkf f a b, m, kp⟩ fr h R = bindR (some (.fn f (a.map (ev fr)) (b.map (ev fr)))) R h := nr rfl
theorem e_nc' (x : SX) : eff P ⟨none, d, .nc x, m, kp⟩ fr h R = bindR (det (.nc x) fr h) R h := nr rfl
theorem e_not' (x : SX) : eff P ⟨none, d, .not x, m, kp⟩ fr h R = bindR (det (.not x) fr h) R h := nr rfl
theorem e_neg' (x : SX) : eff P ⟨none, d, .neg x, m, kp⟩ fr h R = bindR (det (.neg x) fr h) R h := nr rfl
theorem e_cvt' (k : IntKind) (x : SX) : eff P ⟨none, d, .cvt k x, m, kp⟩ fr h R = bindR (det (.cvt k x) fr h) R h := nr rfl
theorem e_slc' (x : SX) (lo hi mx : Option SX) (k : Nat) : eff P ⟨none, d, .slc x lo hi mx k, m, kp⟩ fr h R = bindR (det (.slc x lo hi mx k) fr h) R h := nr rfl
theorem e_fld' (x : SX) (k n : Nat) (ag : Bool) : eff P ⟨none, d, .fld x k n ag, m, kp⟩ fr h R = bindR (det (.fld x k n ag) fr h) R h := nr rfl
theorem e_ext' (x : SX) (i : Nat) : eff P ⟨none, d, .ext x i, m, kp⟩ fr h R = bindR (det (.ext x i) fr h) R h := nr rfl
theorem e_min' (x y : SX) : eff P ⟨none, d, .min x y, m, kp⟩ fr h R = bindR (det (.min x y) fr h) R h := nr rfl
theorem e_eqs' (ne : Bool) (n : Nat) (x y : SX) : eff P ⟨none, d, .eqs ne n x y, m, kp⟩ fr h R = bindR (det (.eqs ne n x y) fr h) R h := nr rfl

/-! ### Stores -/

theorem sr_at {b k n : Nat} {cs : List AV} {v : AV} (hb : h b = some cs) (h1 : v.cells.length = n) (h2 : k + n ≤ cs.length) (h3 : v.cells.all one = true) :
    stR (.ref b k) v n h R = R (.tup []) (hset h b (splice cs k v.cells)) := st_at hb h1 h2 h3
theorem sr_ints {b k : Nat} {l : List Int} {v : Int} (hb : h b = some (ints l)) (hk : k < l.length) :
    stR (.ref b k) (I v) 1 h R = R (.tup []) (hset h b (ints (l.set k v))) := st_ints_at hb hk
theorem sr_one {b k : Nat} {cs : List AV} {v : AV} (hb : h b = some cs) (hv : v.cells = [v]) (h1 : one v = true) (hk : k < cs.length) :
    stR (.ref b k) v 1 h R = R (.tup []) (hset h b (cs.set k v)) := st_one_at hb hv h1 hk
theorem sr_all {b n : Nat} {cs cs' : List AV} (hb : h b = some cs) (h1 : cs.length = n) (h2 : cs'.length = n) (h3 : cs'.all one = true) :
    stR (.ref b 0) (.agg cs') n h R = R (.tup []) (hset h b cs') := st_all_at hb h1 h2 h3
end
end Go.AM
end

section
/- The logic AM: how the arguments of a law are opened into abstract values, and the law's row out of a contract. No Go program in it. -/
set_option linter.unusedSimpArgs false
set_option linter.unusedVariables false
namespace Go.AM
open Go Go.ChangeShapes Go.WideShapes Go.Deep Go.RowKit

/-- Nobody holds a block. -/
def nobody : Nat → Prop := fun _ => False

theorem HR.empty (w : World) : HR w hemp nobody where
  blk b cs hb := by simp [hemp] at hb
  held b hb := False.elim hb

/-- What the cells of a type are, opened. -/
def OpenT (P : Program) : Nat → TypeId → List AV → Prop
  | 0, _, _ => False
  | n + 1, t, avs => match P.underlying t with
    | some (.int k) => ∃ z, avs = [.base (.int k z)] ∧ (Lit.int k z).wf = true
    | some .bool => ∃ b, avs = [B b]
    | some (.slice e) => ∃ x m cells, avs = [x] ∧ SV (P.cellsOf e) x m cells ∧ m * P.bytesOf e ≤ reachBytes ∧ ∀ i, i < m → OpenT P n e ((cells.drop (i * P.cellsOf e)).take (P.cellsOf e))
    | some (.struct fs) => ∃ L : List (List AV), avs = L.flatten ∧ L.length = fs.size ∧ ∀ (j : Nat) (f : Field) (l : List AV), fs[j]? = some f → L[j]? = some l → OpenT P n f.type l ∧ l.length = P.cellsOf f.type
    | some (.array k e) => ∃ L : List (List AV), avs = L.flatten ∧ L.length = k ∧ ∀ l ∈ L, OpenT P n e l ∧ l.length = P.cellsOf e
    | _ => False

/-- The types that are opened. -/
def openB (P : Program) : Nat → TypeId → Bool
  | 0, _ => false
  | n + 1, t => match P.underlying t with
    | some (.int _) => P.cellsOf t == 1
    | some .bool => P.cellsOf t == 1
    | some (.slice e) => P.cellsOf t == 1 && openB P n e && Nat.blt 0 (P.cellsOf e)
    | some (.struct fs) => fs.toList.all (fun f => openB P n f.type) && P.cellsOf t == (fs.toList.map fun f => P.cellsOf f.type).sum &&
        (List.range fs.toList.length).all fun j => match fs.toList[j]? with | some f => f.offset == ((fs.toList.take j).map fun f => P.cellsOf f.type).sum | none => true
    | some (.array k e) => openB P n e && P.cellsOf t == k * P.cellsOf e
    | _ => false

section
variable {H : Type} {enc : TypeId × Value → H} {P : Program} {w : World} {spare : Nat → Bool} {held : Bool}

/-- The cells' values, opened. -/
def OpV (w : World) (cs : List Value) (avs : List AV) : Prop := avs.length = cs.length ∧ avs.all one = true ∧ ∀ (j : Nat) (a : AV) (v : Value), avs[j]? = some a → cs[j]? = some v → V w hemp nobody a v

theorem OpV.append {cs cs' : List Value} {a a' : List AV} (h : OpV w cs a) (h' : OpV w cs' a') : OpV w (cs ++ cs') (a ++ a') := by
  obtain ⟨h1, h2, h3⟩ := h
  obtain ⟨g1, g2, g3⟩ := h'
  refine ⟨by simp [h1, g1], by simp [h2, g2], fun j x v hx hv => ?_⟩
  by_cases hj : j < a.length
  · rw [List.getElem?_append_left hj] at hx
    rw [List.getElem?_append_left (by omega)] at hv
    exact h3 j x v hx hv
  · rw [List.getElem?_append_right (by omega)] at hx
    rw [List.getElem?_append_right (by omega), ← h1] at hv
    exact g3 _ x v hx hv
theorem OpV.nil : OpV w [] [] := ⟨rfl, rfl, fun j a v h => by simp at h⟩
theorem OpV.one {v : Value} {a : AV} (h : V w hemp nobody a v) (h1 : AM.one a = true) : OpV w [v] [a] := by
  refine ⟨rfl, by simp [h1], fun j x y hx hy => ?_⟩
  cases j with
  | zero => simp at hx hy; subst hx hy; exact h
  | succ j => simp at hx

/-- Cells laid side by side. -/
theorem tile {sz : Nat} : ∀ {n : Nat} {cs : List Value} {G : Nat → List AV → Prop}, cs.length = n * sz → (∀ i, i < n → ∃ avs, OpV w ((cs.drop (i * sz)).take sz) avs ∧ G i avs) →
    ∃ L : List (List AV), OpV w cs L.flatten ∧ L.length = n ∧ ∀ (i : Nat) (l : List AV), L[i]? = some l → G i l ∧ l.length = sz
  | 0, cs, G, hl, _ => by
    have : cs = [] := List.eq_nil_of_length_eq_zero (by omega)
    subst this
    exact ⟨[], OpV.nil, rfl, fun i l h => by simp at h⟩
  | n + 1, cs, G, hl, h => by
    have hl' : cs.length = n * sz + sz := by rw [hl, Nat.add_mul]; omega
    obtain ⟨L, h1, h2, h3⟩ := tile (sz := sz) (n := n) (cs := cs.take (n * sz)) (G := G) (by rw [List.length_take]; omega) (fun i hi => by
      obtain ⟨avs, g1, g2⟩ := h i (by omega)
      refine ⟨avs, ?_, g2⟩
      have hle : i * sz + sz ≤ n * sz := by
        have := Nat.mul_le_mul_right sz (show i + 1 ≤ n by omega)
        rw [Nat.add_mul] at this; omega
      rw [List.drop_take, List.take_take, Nat.min_eq_left (by omega)]
      exact g1)
    obtain ⟨avs, g1, g2⟩ := h n (by omega)
    refine ⟨L ++ [avs], ?_, by simp [h2], fun i l hi => ?_⟩
    · rw [List.flatten_append]
      have e : cs = cs.take (n * sz) ++ (cs.drop (n * sz)).take sz := by
        conv => lhs; rw [← List.take_append_drop (n * sz) cs]
        congr 1
        rw [List.take_of_length_le (by simp; omega)]
      conv => arg 2; rw [e]
      exact h1.append (by simpa using g1)
    · by_cases hin : i < n
      · rw [List.getElem?_append_left (by omega)] at hi
        exact h3 i l hi
      · have hil := (List.getElem?_eq_some_iff.1 hi).1
        simp at hil
        have : i = n := by omega
        subst this
        rw [List.getElem?_append_right (by omega), h2] at hi
        simp at hi
        subst hi
        exact ⟨g2, by rw [g1.1]; simp; omega⟩

/-- The same for the fields of a struct. -/
theorem tileF {Ty : Type} (size off : Ty → Nat) {G : Ty → List AV → Prop} : ∀ {fs : List Ty} {o : Nat} {cs : List Value}, cs.length = o + (fs.map size).sum →
    (∀ j f, fs[j]? = some f → off f = o + ((fs.take j).map size).sum) → (∀ f ∈ fs, ∃ avs, OpV w ((cs.drop (off f)).take (size f)) avs ∧ G f avs) →
    ∃ L : List (List AV), OpV w (cs.drop o) L.flatten ∧ L.length = fs.length ∧ ∀ (j : Nat) (f : Ty) (l : List AV), fs[j]? = some f → L[j]? = some l → G f l ∧ l.length = size f
  | [], o, cs, hl, _, _ => ⟨[], by rw [List.drop_eq_nil_of_le (by simpa using Nat.le_of_eq hl)]; exact OpV.nil, rfl, fun j f l h => by simp at h⟩
  | f :: fs, o, cs, hl, ho, h => by
    have hl' : cs.length = o + size f + (fs.map size).sum := by simp at hl; omega
    obtain ⟨L, h1, h2, h3⟩ := tileF size off (G := G) (fs := fs) (o := o + size f) (cs := cs) hl' (fun j g hj => by
      have := ho (j + 1) g (by simpa using hj)
      rw [List.take_succ_cons, List.map_cons, List.sum_cons] at this
      omega) (fun g hg => h g (by simp [hg]))
    obtain ⟨avs, g1, g2⟩ := h f (by simp)
    have e0 := ho 0 f rfl
    simp at e0
    rw [e0] at g1
    refine ⟨avs :: L, ?_, by simp [h2], fun j g l hg hl2 => ?_⟩
    · have e : cs.drop o = (cs.drop o).take (size f) ++ cs.drop (o + size f) := by
        conv => lhs; rw [← List.take_append_drop (size f) (cs.drop o)]
        rw [List.drop_drop]
      rw [e, List.flatten_cons]
      exact g1.append h1
    · cases j with
      | zero =>
        simp at hg hl2
        subst hg hl2
        exact ⟨g2, by rw [g1.1]; simp; omega⟩
      | succ j => exact h3 j g l (by simpa using hg) (by simpa using hl2)

theorem weights_all {P : Program} {e : TypeId} {ds : List (DataW H)} : ∀ {d : DataW H}, d ∈ ds → ∀ n ∈ d.weights P e, n ∈ DataW.weightsAll P e ds := by
  induction ds with
  | nil => intro d h; simp at h
  | cons a ds ih =>
    intro d h n hn
    simp only [DataW.weightsAll, List.mem_append]
    rcases List.mem_cons.1 h with rfl | h
    · exact .inl hn
    · exact .inr (ih h n hn)

theorem open_cells : ∀ (n : Nat) (t : TypeId) (cs : List Value) (fuel : Nat) (x : DataW H × List MemPlace), openB P n t = true → DataW.trod enc P w 0 spare held fuel t cs = some x →
    (∀ k ∈ x.1.weights P t, k ≤ reachBytes) → ∃ avs, OpV w cs avs ∧ OpenT P n t avs
  | 0, t, cs, fuel, x, hb, _, _ => by simp [openB] at hb
  | n + 1, t, cs, fuel, x, hb, h, hw => by
    unfold openB at hb
    split at hb
    · rename_i k ht
      obtain ⟨z, rfl, _, hwf⟩ := DataW.trod_int ht h
      exact ⟨[.base (.int k z)], OpV.one (.base _ rfl) rfl, by unfold OpenT; rw [ht]; exact ⟨z, rfl, hwf⟩⟩
    · rename_i ht
      obtain ⟨b, rfl, _⟩ := DataW.trod_bool ht h
      exact ⟨[B b], OpV.one (.base _ rfl) rfl, by unfold OpenT; rw [ht]; exact ⟨b, rfl⟩⟩
    · rename_i e ht
      simp only [Bool.and_eq_true, beq_iff_eq] at hb
      have hb := And.intro hb.1 hb.2
      rcases open_slice ht h with ⟨rfl, _⟩ | ⟨a, len, cap, m, n', D, Pl, rfl, _, hl, hm, hmm, rfl, hx⟩
      · refine ⟨[.nils], OpV.one .nils rfl, ?_⟩
        unfold OpenT; rw [ht]
        exact ⟨.nils, 0, [], rfl, ⟨by simp, .inl ⟨rfl, rfl⟩⟩, by omega, fun i hi => by omega⟩
      · have hwl : (len + (m - len)) * P.bytesOf e ≤ reachBytes := hw _ (by simp [DataW.weights, ht])
        have hlm : len ≤ m := by rw [hmm]; split <;> omega
        have hwe : ∀ i, i < len → ∀ k ∈ (D i).weights P e, k ≤ reachBytes := fun i hi k hk => hw k (by
          simp only [DataW.weights, ht, List.mem_cons, List.mem_append]
          exact .inr (.inl (weights_all (List.mem_map.2 ⟨i, List.mem_range.2 hi, rfl⟩) k hk)))
        have each : ∀ i, i < len → ∃ avs, (∃ cs', w.cells? 0 (a.add (i * P.cellsOf e)) (P.cellsOf e) = some cs' ∧ OpV w cs' avs) ∧ OpenT P n e avs := fun i hi => by
          obtain ⟨cs', h1, h2⟩ := hx i (by omega)
          obtain ⟨avs, h3, h4⟩ := open_cells n e cs' n' _ hb.1.2 h2 (hwe i hi)
          exact ⟨avs, ⟨cs', h1, h3⟩, h4⟩
        obtain ⟨A, hA⟩ := choose_lt each
        have hAl : ∀ i, i < len → (A i).length = P.cellsOf e := fun i hi => by
          obtain ⟨⟨cs', h1, h2⟩, _⟩ := hA i hi
          obtain ⟨_, h3, _⟩ := World.cells?_some h1
          rw [h2.1, h3]
        -- the cells, side by side
        let cells : List AV := (List.range len).flatMap A
        have hcl : ∀ k, k ≤ len → ((List.range k).flatMap A).length = k * P.cellsOf e := by
          intro k
          induction k with
          | zero => intro _; simp
          | succ k ih =>
            intro hk
            rw [List.range_succ, List.flatMap_append, List.length_append, ih (by omega)]
            simp [hAl k (by omega), Nat.add_mul]
        have hget : ∀ i, i < len → (cells.drop (i * P.cellsOf e)).take (P.cellsOf e) = A i := by
          intro i hi
          have e1 : cells = (List.range i).flatMap A ++ (A i ++ ((List.range (len - i - 1)).map (i + 1 + ·)).flatMap A) := by
            show (List.range len).flatMap A = _
            rw [range_split (show i + 1 ≤ len by omega), List.range_succ]
            simp [List.flatMap_append, show len - (i + 1) = len - i - 1 by omega]
          rw [e1, List.drop_append_of_le_length (by rw [hcl i (by omega)]; omega), List.drop_eq_nil_of_le (by rw [hcl i (by omega)]; omega), List.nil_append, ← hAl i hi, List.take_left']
          rfl
        have hone : cells.all one = true := by
          rw [List.all_eq_true]
          intro x hx
          obtain ⟨i, hi, hx⟩ := List.mem_flatMap.1 hx
          obtain ⟨⟨cs', h1, h2⟩, _⟩ := hA i (List.mem_range.1 hi)
          exact List.all_eq_true.1 h2.2.1 x hx
        have hopen : OpenT P (n + 1) t [.fs len cells] := by
          unfold OpenT; rw [ht]
          refine ⟨_, len, cells, rfl, ⟨hcl len (by omega), .inr rfl⟩, Nat.le_trans (Nat.mul_le_mul_right _ (by omega)) hwl, fun i hi => ?_⟩
          rw [hget i hi]
          exact (hA i hi).2
        refine ⟨[.fs len cells], OpV.one ?_ rfl, hopen⟩
        by_cases hl0 : len = 0
        · subst hl0
          have hc0 : cells = [] := rfl
          rw [hc0]
          exact .fs0 a cap
        have hsz : 0 < P.cellsOf e := by have := hb.2; simp [Nat.blt] at this; omega
        have hcell : ∀ i, i < len → ∀ r, r < P.cellsOf e → ∃ v, w.cell? (a.add (i * P.cellsOf e + r)) = some v ∧ ∀ x, (A i)[r]? = some x → V w hemp nobody x v := fun i hi r hr => by
          obtain ⟨⟨cs', h1, h2⟩, _⟩ := hA i hi
          obtain ⟨_, h3, h4⟩ := World.cells?_some h1
          have h5 := h4 r hr
          rw [add_add] at h5
          have h6 : cs'[r]? = some cs'[r] := List.getElem?_eq_getElem (by omega)
          exact ⟨cs'[r], by rw [h5, h6], fun x hx => h2.2.2 r x _ hx h6⟩
        obtain ⟨v0, hv0, _⟩ := hcell 0 (by omega) 0 hsz
        obtain ⟨b, off, sp⟩ := a
        have hsp : sp = none := by
          unfold World.cell? at hv0
          cases sp with
          | none => rfl
          | some s =>
            split at hv0
            · simp [Addr.add] at hv0
            · cases hv0
        subst hsp
        obtain ⟨c, e', f, hblk⟩ : ∃ c e' f, w.heap[b]? = some (.cells c e' f) := by
          unfold World.cell? at hv0
          split at hv0
          · rename_i c e' f hh
            exact ⟨c, e', f, by simpa [Addr.add] using hh⟩
          · cases hv0
        have hcell2 : ∀ i, i < len → ∀ r, r < P.cellsOf e → ∃ v, c[off + (i * P.cellsOf e + r)]? = some v ∧ ∀ x, (A i)[r]? = some x → V w hemp nobody x v := fun i hi r hr => by
          obtain ⟨v, h1, h2⟩ := hcell i hi r hr
          rw [add_plain] at h1
          unfold World.cell? at h1
          rw [hblk] at h1
          exact ⟨v, by simpa using h1, h2⟩
        have split : ∀ j, j < len * P.cellsOf e → j / P.cellsOf e < len ∧ j % P.cellsOf e < P.cellsOf e ∧ j / P.cellsOf e * P.cellsOf e + j % P.cellsOf e = j := fun j hj =>
          ⟨Nat.div_lt_of_lt_mul (by rw [Nat.mul_comm]; exact hj), Nat.mod_lt _ hsz, by have := Nat.div_add_mod j (P.cellsOf e); rw [Nat.mul_comm]; exact this⟩
        have hcl' : cells.length = len * P.cellsOf e := hcl len (Nat.le_refl _)
        have hcell3 : ∀ j, j < cells.length → ∃ v, c[off + j]? = some v ∧ ∀ x, cells[j]? = some x → V w hemp nobody x v := fun j hj => by
          obtain ⟨h1, h2, h3⟩ := split j (by omega)
          obtain ⟨v, h4, h5⟩ := hcell2 _ h1 _ h2
          rw [h3] at h4
          refine ⟨v, h4, fun x hx => h5 x ?_⟩
          rw [← hget _ h1, List.getElem?_take, if_pos h2, List.getElem?_drop, h3]
          exact hx
        obtain ⟨vs, hvs⟩ := choose_lt (α := Value) hcell3
        exact .fs len cells b off cap c e' f vs hblk rfl (fun h => h) hone (fun j hj => (hvs j hj).1) (fun j hj => (hvs j hj).2 _ (List.getElem?_eq_getElem hj)) hl
    · rename_i fs ht
      simp only [Bool.and_eq_true, beq_iff_eq, List.all_eq_true, List.mem_range] at hb
      obtain ⟨⟨hb1, hb2⟩, hb3⟩ := hb
      obtain ⟨xs, n', _, rfl, hl, hxl, hf⟩ := DataW.trod_struct ht h
      have hwf : ∀ (j : Nat) (f : Field) (y : DataW H × List MemPlace), fs[j]? = some f → xs[j]? = some y → ∀ k ∈ y.1.weights P f.type, k ≤ reachBytes := fun j f y hj hy k hk => hw k (by
        simp only [DataW.weights, ht]
        exact DataW.weights_mem_each (j := j) (t := f.type) (d := y.1) (by simp [hj]) (by simp [hy]) k hk)
      obtain ⟨L, h1, h2, h3⟩ := tileF (w := w) (fun f : Field => P.cellsOf f.type) (fun f => f.offset) (G := fun f avs => OpenT P n f.type avs) (fs := fs.toList) (o := 0) (cs := cs) (by rw [hl, hb2]; simp) (fun j f hj => by
        have hjl := (List.getElem?_eq_some_iff.1 hj).1
        have := hb3 j hjl
        rw [hj] at this
        simpa using this) (fun f hfm => by
        obtain ⟨j, hj, rfl⟩ := List.mem_iff_getElem.1 hfm
        have hj' : j < fs.size := by simpa using hj
        have g := hf j fs[j] (by simp [hj'])
        have hxj : xs[j]? = some xs[j] := List.getElem?_eq_getElem (by omega)
        rw [hxj] at g
        obtain ⟨avs, g1, g2⟩ := open_cells n _ _ n' _ (hb1 _ hfm) (by simpa using g) (by simpa using hwf j fs[j] _ (by simp [hj']) hxj)
        exact ⟨avs, g1, g2⟩)
      refine ⟨L.flatten, by simpa using h1, ?_⟩
      unfold OpenT; rw [ht]
      exact ⟨L, rfl, by simpa using h2, fun j f l hj hl2 => h3 j f l (by simpa using hj) hl2⟩
    · rename_i k e ht
      simp only [Bool.and_eq_true, beq_iff_eq] at hb
      obtain ⟨xs, n', _, rfl, hl, hxl, hf⟩ := DataW.trod_array ht h
      have hwf : ∀ y ∈ xs, ∀ k ∈ y.1.weights P e, k ≤ reachBytes := fun y hy k hk => hw k (by
        simp only [DataW.weights, ht]
        exact weights_all (List.mem_map.2 ⟨y, hy, rfl⟩) k hk)
      obtain ⟨L, h1, h2, h3⟩ := tile (w := w) (sz := P.cellsOf e) (n := k) (cs := cs) (G := fun _ avs => OpenT P n e avs) (by rw [hl, hb.2]) (fun i hi => by
        have g := hf i hi
        have hxj : xs[i]? = some xs[i] := List.getElem?_eq_getElem (by omega)
        rw [hxj] at g
        exact open_cells n _ _ n' _ hb.1 g (hwf _ (List.getElem_mem _)))
      refine ⟨L.flatten, h1, ?_⟩
      unfold OpenT; rw [ht]
      refine ⟨L, rfl, h2, fun l hl2 => ?_⟩
      obtain ⟨j, hj, rfl⟩ := List.mem_iff_getElem.1 hl2
      exact h3 j _ (List.getElem?_eq_getElem hj)
    · cases hb

/-- An argument's abstract value, from its cells'. -/
def argAV (P : Program) (t : TypeId) (avs : List AV) : AV := match P.underlying t with
  | some (.struct _) => .agg avs
  | some (.array _ _) => .agg avs
  | _ => avs.headD .nils

def AOpen (P : Program) (n : Nat) : List TypeId → List AV → Prop
  | [], [] => True
  | t :: ts, a :: as => (∃ avs, OpenT P n t avs ∧ a = argAV P t avs) ∧ AOpen P n ts as
  | _, _ => False

theorem open_arg {n : Nat} {t : TypeId} {v : Value} {d : DataW H} {ps : List MemPlace} {r : Reach} {b0 : Nat} (hb : openB P n t = true) (h : DataW.Trod enc P w 0 spare held t v d ps) (hw : ∀ k ∈ d.weights P t, k ≤ reachBytes)
    (hok : Value.okWide P w r b0 t v) : ∃ avs, OpenT P n t avs ∧ V w hemp nobody (argAV P t avs) v := by
  obtain ⟨fuel, hf⟩ := h
  obtain ⟨avs, h1, h2⟩ := open_cells n t _ fuel _ hb hf hw
  refine ⟨avs, h2, ?_⟩
  have agg : ∀ cs : Array Value, v = .agg cs → V w hemp nobody (.agg avs) v := by
    rintro cs rfl
    simp only [Value.cells] at h1
    refine .agg avs cs (by have := h1.1; simp at this; omega) fun j hj hk => ?_
    exact h1.2.2 j _ _ (List.getElem?_eq_getElem hj) (by simp [hk])
  have single : v.cells.toList = [v] → V w hemp nobody (avs.headD .nils) v := by
    intro hc
    rw [hc] at h1
    obtain ⟨g1, g2, g3⟩ := h1
    match avs, g1 with
    | [a], _ => exact g3 0 a v rfl rfl
  cases n with
  | zero => simp [openB] at hb
  | succ n =>
    unfold openB at hb
    unfold argAV
    split at hb
    · rename_i k ht
      obtain ⟨z, rfl⟩ := okWide_int ht hok
      rw [ht]
      exact single rfl
    · rename_i ht
      obtain ⟨z, rfl⟩ := okWide_bool ht hok
      rw [ht]
      exact single rfl
    · rename_i e ht
      obtain ⟨a, l, c, rfl⟩ := okWide_slice ht hok
      rw [ht]
      exact single rfl
    · rename_i fs ht
      obtain ⟨cs, rfl, _⟩ := okWide_struct ht hok
      rw [ht]
      exact agg cs rfl
    · rename_i k e ht
      simp only [Value.okWide, ht] at hok
      obtain ⟨cs, rfl, _⟩ := hok
      rw [ht]
      exact agg cs rfl
    · cases hb

theorem open_args {n : Nat} {r : Reach} {b0 : Nat} : ∀ {ts : List TypeId} {vs : List Value} {ds : List (DataW H)} {ps : List MemPlace}, DataW.TrodAll enc P w 0 spare held ts vs ds ps → ts.all (openB P n) = true →
    (∀ k ∈ DataW.weightsEach P ts ds, k ≤ reachBytes) → (∀ (j : Nat) t v, ts[j]? = some t → vs[j]? = some v → Value.okWide P w r b0 t v) →
    ∃ as : List AV, as.length = vs.length ∧ (∀ (j : Nat) a v, as[j]? = some a → vs[j]? = some v → V w hemp nobody a v) ∧ AOpen P n ts as
  | [], [], [], _, _, _, _, _ => ⟨[], rfl, fun j a v h => by simp at h, trivial⟩
  | t :: ts, v :: vs, d :: ds, _, ⟨p, q, h1, h2, _⟩, hb, hw, hok => by
    simp only [List.all_cons, Bool.and_eq_true] at hb
    simp only [DataW.weightsEach, List.mem_append] at hw
    obtain ⟨avs, g1, g2⟩ := open_arg hb.1 h1 (fun k hk => hw k (.inl hk)) (hok 0 t v rfl rfl)
    obtain ⟨as, e1, e2, e3⟩ := open_args h2 hb.2 (fun k hk => hw k (.inr hk)) (fun j t v ht hv => hok (j + 1) t v ht hv)
    refine ⟨argAV P t avs :: as, by simp [e1], fun j a u ha hu => ?_, ⟨avs, g1, rfl⟩, e3⟩
    cases j with
    | zero => simp at ha hu; subst ha hu; exact g2
    | succ j => exact e2 j a u (by simpa using ha) (by simpa using hu)
  | [], _ :: _, _, _, h, _, _, _ => by simp [DataW.TrodAll] at h
  | [], [], _ :: _, _, h, _, _, _ => by simp [DataW.TrodAll] at h
  | _ :: _, [], _, _, h, _, _, _ => by simp [DataW.TrodAll] at h
  | _ :: _, _ :: _, [], _, h, _, _, _ => by simp [DataW.TrodAll] at h

theorem trodAll_stays (hl : laidOutB P = true) {W W' : World} {sp' : Nat → Bool} : ∀ {ts : List TypeId} {vs : List Value} {ds : List (DataW H)} {ps : List MemPlace}, ts.all (fun t => P.readableRec t && Nat.blt t P.types.size) = true →
    DataW.TrodAll enc P W 0 (fun _ => true) true ts vs ds ps → (∀ p ∈ ps, W.sameAt W' p) → (∀ p ∈ ps, sp' p.block = true) → DataW.TrodAll enc P W' 0 sp' true ts vs ds ps
  | [], [], [], _, _, h, _, _ => h
  | t :: ts, v :: vs, d :: ds, _, hr, ⟨p, q, h1, h2, e⟩, hs, hsp => by
    subst e
    simp only [List.all_cons, Bool.and_eq_true] at hr
    refine ⟨p, q, WideElems.Trod_stays hl hr.1.1 (by have := hr.1.2; simp [Nat.blt] at this; exact this) h1 (fun x hx => hs x (List.mem_append.2 (.inl hx))) (fun x hx => hsp x (List.mem_append.2 (.inl hx))), trodAll_stays hl hr.2 h2 (fun x hx => hs x (List.mem_append.2 (.inr hx))) (fun x hx => hsp x (List.mem_append.2 (.inr hx))), rfl⟩
  | [], _ :: _, _, _, _, h, _, _ => by simp [DataW.TrodAll] at h
  | [], [], _ :: _, _, _, h, _, _ => by simp [DataW.TrodAll] at h
  | _ :: _, [], _, _, _, h, _, _ => by simp [DataW.TrodAll] at h
  | _ :: _, _ :: _, [], _, _, h, _, _ => by simp [DataW.TrodAll] at h
end

/-- THE LAW'S ROW out of the contract of its function: whatever arguments are opened, it answers true. -/
theorem law_lifted {C : Checked} {os : Os} {f : FuncId} {fn : Func} {s : ChangeSpec} {conds : List PathCond} {tb : TypeId} (n : Nat) {H : Type} {enc : TypeId × Value → H}
    (own : ownKnob C.prog.godebug = none) (started : os.Started) (noInit : C.prog.inits.idxOf? f = none) (hfn : C.prog.funcs[f]? = some fn)
    (witness : ∃ (w : World) (tape : Tape) (i : Input), w.os = os ∧ (w.forCall tape i).Shaped C.prog ∧ i.vars = [] ∧ Input.okWide C.prog (w.forCall tape i) .any w.heap.size f i ∧
      s.pre6 enc C.prog fn conds false (w.forCall tape i).memory i.args ∧ ({} : Assume).holds C.prog (lone (Frame.enter C.prog f i.args .normal) [] (w.forCall tape i)))
    (hvars : s.vars = []) (hres : fn.resultTypes = #[tb]) (htb : C.prog.underlying tb = some .bool) (hlaid : laidOutB C.prog = true) (hread : fn.params.toList.all (fun t => C.prog.readableRec t && Nat.blt t C.prog.types.size) = true)
    (hopen : fn.params.toList.all (openB C.prog n) = true) (hs : ∀ ds : List (DataW H), ds.length = fn.params.size → s.fn H ds = { results := [.lit (.bool true)], args := ds })
    (contract : ∀ as : List AV, AOpen C.prog n fn.params.toList as → Pure C.prog f as (B true)) :
    ReturnsInHanded {} C os f .any (s.pre6 enc C.prog fn conds false) (s.post enc C.prog fn false true false false) := by
  refine returnsInHanded_of_change_sized own started noInit hfn witness ?_
  intro W base args ds gs before hval hW hcnd hsz _
  have hW' := hW
  obtain ⟨p, q, hA, hV, rfl, hfz, hnd⟩ := hW
  rw [hvars] at hV
  obtain ⟨rfl, rfl⟩ := trodVars_none hV
  have hsz' : ∀ k ∈ DataW.weightsEach C.prog fn.params.toList ds, k ≤ reachBytes := by
    intro k hk
    simp only [ChangeSpec.plain, hvars, DataSpec.varTypes, List.append_nil] at hsz
    have := List.all_eq_true.1 hsz k (by simpa using hk)
    simpa using this
  obtain ⟨as, e1, e2, e3⟩ := open_args hA hopen hsz' (fun j t v ht hv => hval j t v (by simpa using ht) (by simpa using hv))
  have hcov : Cov W hemp nobody as args := ⟨by simpa using e1.symm, fun j hj hk => e2 j _ _ (List.getElem?_eq_getElem hj) (by simp [hk])⟩
  have hlen : ds.length = fn.params.size := by
    have := (trodAll_length hA).2
    simpa using this
  refine ((contract as e3 hemp).2 nobody W args (HR.empty W) hcov).mono fun e W' ⟨v, h', r, he, ⟨hv, hh⟩, ev, hr, hvr⟩ => ?_
  subst hv hh he
  have hrb : r = .bool true := by cases hvr; rfl
  subst hrb
  have bel : Below W.heap.size W W' := ⟨ev.os, ev.tape, ev.output, ev.size, fun k hk => ev.same k hk rfl⟩
  refine ⟨_, rfl, ds, [], p ++ [], [], p, [], hW', ?_, ?_, ?_, bel.frame _, fun h => by cases h⟩
  · rw [List.append_nil, hs ds hlen, hres]
    exact trodAll_mk1 (shut_bool htb _)
  · rw [List.append_nil, hs ds hlen]
    refine trodAll_stays hlaid hread hA (fun x hx => bel.same (hA.lt x hx)) (fun x hx => ?_)
    simpa using hA.lt x hx
  · rw [List.append_nil, hs ds hlen, hvars]
    rfl

/-! ### What stands in the types that the laws have -/

section
variable {P : Program} {n : Nat} {t e : TypeId} {avs : List AV}

theorem OpenT.int {k : IntKind} (ht : P.underlying t = some (.int k)) (h : OpenT P (n + 1) t avs) : ∃ z, avs = [.base (.int k z)] ∧ (Lit.int k z).wf = true := by
  unfold OpenT at h; rw [ht] at h; exact h
theorem OpenT.struct {fs : Array Field} (ht : P.underlying t = some (.struct fs)) (h : OpenT P (n + 1) t avs) :
    ∃ L : List (List AV), avs = L.flatten ∧ L.length = fs.size ∧ ∀ (j : Nat) (f : Field) (l : List AV), fs[j]? = some f → L[j]? = some l → OpenT P n f.type l ∧ l.length = P.cellsOf f.type := by
  unfold OpenT at h; rw [ht] at h; exact h
theorem OpenT.array {k : Nat} (ht : P.underlying t = some (.array k e)) (h : OpenT P (n + 1) t avs) :
    ∃ L : List (List AV), avs = L.flatten ∧ L.length = k ∧ ∀ l ∈ L, OpenT P n e l ∧ l.length = P.cellsOf e := by
  unfold OpenT at h; rw [ht] at h; exact h
theorem OpenT.slice (ht : P.underlying t = some (.slice e)) (h : OpenT P (n + 1) t avs) :
    ∃ x m cells, avs = [x] ∧ SV (P.cellsOf e) x m cells ∧ m * P.bytesOf e ≤ reachBytes ∧ ∀ i, i < m → OpenT P n e ((cells.drop (i * P.cellsOf e)).take (P.cellsOf e)) := by
  unfold OpenT at h; rw [ht] at h; exact h

theorem OpenT.struct2 {f0 f1 : Field} (ht : P.underlying t = some (.struct #[f0, f1])) (h : OpenT P (n + 1) t avs) : ∃ l0 l1, avs = l0 ++ l1 ∧ OpenT P n f0.type l0 ∧ OpenT P n f1.type l1 := by
  obtain ⟨L, h1, h2, h3⟩ := OpenT.struct ht h
  match L, h2 with
  | [l0, l1], _ => exact ⟨l0, l1, by simpa using h1, (h3 0 f0 l0 rfl rfl).1, (h3 1 f1 l1 rfl rfl).1⟩
theorem OpenT.struct3 {f0 f1 f2 : Field} (ht : P.underlying t = some (.struct #[f0, f1, f2])) (h : OpenT P (n + 1) t avs) : ∃ l0 l1 l2, avs = l0 ++ (l1 ++ l2) ∧ OpenT P n f0.type l0 ∧ OpenT P n f1.type l1 ∧ OpenT P n f2.type l2 := by
  obtain ⟨L, h1, h2, h3⟩ := OpenT.struct ht h
  match L, h2 with
  | [l0, l1, l2], _ => exact ⟨l0, l1, l2, by simpa using h1, (h3 0 f0 l0 rfl rfl).1, (h3 1 f1 l1 rfl rfl).1, (h3 2 f2 l2 rfl rfl).1⟩
theorem OpenT.struct5 {f0 f1 f2 f3 f4 : Field} (ht : P.underlying t = some (.struct #[f0, f1, f2, f3, f4])) (h : OpenT P (n + 1) t avs) :
    ∃ l0 l1 l2 l3 l4, avs = l0 ++ (l1 ++ (l2 ++ (l3 ++ l4))) ∧ OpenT P n f0.type l0 ∧ OpenT P n f1.type l1 ∧ OpenT P n f2.type l2 ∧ OpenT P n f3.type l3 ∧ OpenT P n f4.type l4 := by
  obtain ⟨L, h1, h2, h3⟩ := OpenT.struct ht h
  match L, h2 with
  | [l0, l1, l2, l3, l4], _ => exact ⟨l0, l1, l2, l3, l4, by simpa using h1, (h3 0 f0 l0 rfl rfl).1, (h3 1 f1 l1 rfl rfl).1, (h3 2 f2 l2 rfl rfl).1, (h3 3 f3 l3 rfl rfl).1, (h3 4 f4 l4 rfl rfl).1⟩

def unI : AV → Int
  | .base (.int _ z) => z
  | _ => 0

/-- A whole number of 64 bits. -/
def In64 (z : Int) : Prop := -9223372036854775808 ≤ z ∧ z ≤ 9223372036854775807
theorem In64.of {z : Int} (h : (Lit.int .i64 z).wf = true) : In64 z := by
  simp only [Lit.wf, IntKind.min, IntKind.max, IntKind.signed, IntKind.bits, Bool.and_eq_true, decide_eq_true_eq, if_true] at h
  unfold In64; omega

theorem small_of {m k : Nat} (hk : 0 < k) (h : m * k ≤ reachBytes) : m < 4611686018427387904 := by
  have h1 : m * 1 ≤ m * k := Nat.mul_le_mul_left _ hk
  have h2 : reachBytes = 140737488351232 - 0 := by decide
  omega

theorem OpenT.ints (ht : P.underlying t = some (.slice e)) (he : P.underlying e = some (.int .i64)) (hc : P.cellsOf e = 1) (hb : 0 < P.bytesOf e) (h : OpenT P (n + 2) t avs) :
    ∃ x l, avs = [x] ∧ IL x l ∧ l.length < 4611686018427387904 ∧ ∀ z ∈ l, In64 z := by
  obtain ⟨x, m, cells, rfl, hsv, hm, hx⟩ := OpenT.slice ht h
  rw [hc] at hsv hx
  have hcl := hsv.1
  have each : ∀ i (hi : i < cells.length), cells[i] = I (unI cells[i]) ∧ In64 (unI cells[i]) := by
    intro i hi
    obtain ⟨z, h1, h2⟩ := OpenT.int he (hx i (by omega))
    rw [Nat.mul_one, List.drop_eq_getElem_cons hi, List.take_succ_cons, List.take_zero] at h1
    have h3 : cells[i] = .base (.int .i64 z) := by simpa using h1
    rw [h3]
    exact ⟨rfl, In64.of h2⟩
  have hints : ints (cells.map unI) = cells := by
    refine List.ext_getElem (by simp [AM.ints]) fun i h1 h2 => ?_
    simp only [AM.ints, List.getElem_map]
    exact (each i h2).1.symm
  refine ⟨x, cells.map unI, rfl, ?_, ?_, ?_⟩
  · unfold IL
    rw [hints, List.length_map, hcl, Nat.mul_one]
    exact hsv
  · rw [List.length_map, hcl, Nat.mul_one]
    exact small_of hb hm
  · intro z hz
    obtain ⟨y, hy, rfl⟩ := List.mem_map.1 hz
    obtain ⟨i, hi, rfl⟩ := List.mem_iff_getElem.1 hy
    exact (each i hi).2

theorem argAV_int {k : IntKind} (ht : P.underlying t = some (.int k)) (l : List AV) : argAV P t l = l.headD .nils := by unfold argAV; rw [ht]
theorem argAV_slice (ht : P.underlying t = some (.slice e)) (l : List AV) : argAV P t l = l.headD .nils := by unfold argAV; rw [ht]
theorem argAV_struct {fs : Array Field} (ht : P.underlying t = some (.struct fs)) (l : List AV) : argAV P t l = .agg l := by unfold argAV; rw [ht]
theorem argAV_array {k : Nat} (ht : P.underlying t = some (.array k e)) (l : List AV) : argAV P t l = .agg l := by unfold argAV; rw [ht]
end

theorem AOpen.len {P : Program} {n : Nat} : ∀ {ts : List TypeId} {as : List AV}, AOpen P n ts as → as.length = ts.length
  | [], [], _ => rfl
  | t :: ts, a :: as, h => by
    unfold AOpen at h
    simp only [List.length_cons, AOpen.len h.2]
  | [], _ :: _, h => by unfold AOpen at h; exact h.elim
  | _ :: _, [], h => by unfold AOpen at h; exact h.elim
theorem AOpen.cons {P : Program} {n : Nat} {t : TypeId} {ts : List TypeId} {a : AV} {as : List AV} (h : AOpen P n (t :: ts) (a :: as)) : (∃ avs, OpenT P n t avs ∧ a = argAV P t avs) ∧ AOpen P n ts as := by
  unfold AOpen at h; exact h
end Go.AM
end

section
/- The logic AM: calls of function values. No Go program in it. -/
set_option linter.unusedSimpArgs false
set_option linter.unusedVariables false
namespace Go.AM
open Go

/-- A call of a value. -/
def CallV (P : Program) (m : Nat) (v : AV) (args : List AV) (h : Hp) (R : AV → Hp → Prop) : Prop := match v with
  | .fn i first cap => CallP P m i (first ++ args ++ cap) h R
  | _ => False
@[congr] theorem CallV_congr {P : Program} {m : Nat} {v v' : AV} {args args' : List AV} {h h' : Hp} {R : AV → Hp → Prop} (e1 : v = v') (e2 : args = args') (e3 : h = h') : CallV P m v args h R = CallV P m v' args' h' R := by rw [e1, e2, e3]
theorem CallV_fn {P : Program} {m : Nat} {i : FuncId} {first cap args : List AV} {h : Hp} {R : AV → Hp → Prop} : CallV P m (.fn i first cap) args h R = CallP P m i (first ++ args ++ cap) h R := nr rfl
theorem callW_t {P : Program} {fr : Fr} {m n : Nat} {xs : List SX} {h : Hp} {R : AV → Hp → Prop} : callW P m fr (.t n) xs h R = CallV P m (fr n) (xs.map (ev fr)) h R := by
  unfold callW callee CallV
  simp only [ev]
  cases fr n <;> rfl
end Go.AM
end

section
/- The logic AM: a call that is told of memory that its caller lets go. No Go program in it. -/
set_option linter.unusedSimpArgs false
set_option linter.unusedVariables false
namespace Go.AM
open Go

theorem Evo.unsub {h h2 h' : Hp} {w w' : World} (ev : Evo h2 w h' w') (s : Sub h h2) : Evo h w h' w' :=
  ⟨ev.os, ev.tape, ev.output, ev.size, fun i hi hn => ev.same i hi (s.none hn), ev.shape, fun b hb => (ev.dom b hb).imp (fun h1 hn => h1 (s.none hn)) id⟩

/-- The caller lets live blocks go before the call. -/
theorem Spec.thaw {P : Program} {f : FuncId} {avs avs2 : List AV} {h h2 : Hp} {R : AV → Hp → Prop} (s : Spec P f avs2 h2 R) (sub : Sub h h2) (hl : avs.length = avs2.length)
    (fz : ∀ (j : Nat) (hj : j < avs2.length) (hk : j < avs.length), Frz h h2 avs[j] avs2[j]) : Spec P f avs h R := by
  refine ⟨s.1, fun T w vals hr hc => (s.2 T w vals (hr.sub sub) ⟨hc.size.trans hl, fun j hj hk => ?_⟩).mono fun e w' ⟨v, h', r, he, hR, ev, hr', hv⟩ => ⟨v, h', r, he, hR, ev.unsub sub, hr', hv⟩⟩
  exact (fz j hj (by omega)).V hr sub (hc.val j (by omega) hk)

theorem Pure.thaw {P : Program} {f : FuncId} {avs avs2 : List AV} {h h2 : Hp} {r : AV} {R : AV → Hp → Prop} (p : Pure P f avs2 r) (sub : Sub h h2) (hl : avs.length = avs2.length)
    (fz : ∀ (j : Nat) (hj : j < avs2.length) (hk : j < avs.length), Frz h h2 avs[j] avs2[j]) (hR : R r h2) : CallP P 0 f avs h R :=
  ((p h2).mono fun v h' ⟨h1, h2⟩ => by subst h1 h2; exact hR).thaw sub hl fz

/-- One box is told anew. -/
theorem sub_box {h G : Hp} {b : Nat} {xs ys : List AV} (k : Kp G h) (hb : h b = some xs) (hl : xs.length = ys.length) (hf : ∀ (j : Nat) (h1 : j < xs.length) (h2 : j < ys.length), Frz h (hset G b ys) xs[j] ys[j]) : Sub h (hset G b ys) := fun c cs hc => by
  by_cases e : c = b
  · subst e
    rw [hset_same] at hc
    injection hc with hc
    subst hc
    exact ⟨xs, hb, hl, hf⟩
  · rw [hset_ne _ _ e] at hc
    exact ⟨cs, k c cs hc, rfl, fun j _ _ => .id _⟩
theorem Kp.down {h : Hp} {b : Nat} {xs : List AV} {F : Hp} (k : Kp F h) (hb : F b = none) : Kp F (hset h b xs) := k.set hb xs
end Go.AM
end
