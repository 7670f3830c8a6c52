/- The logic AM: code and functions. No Go program in it. -/
import Derived.Test.YtmihmgnjnedfcaaAMK
import Derived.Test.YtmihmgnjnedfcaaAMZ
set_option linter.unusedSimpArgs false
set_option linter.unusedVariables false
namespace Go.AM
open Go

inductive SC where
  | skip
  | reg (ops : List GOp)
  | seq (a b : SC)
  | cond (c : SX) (a b : SC)
  | block (id : Nat) (c : SC)
  | loop (c : SC)
  | exit (id : Nat)
  | ret
  /-- here live blocks may be let go; the slots are told anew -/
  | fz (S : List Nat) (c : SC)
  deriving Inhabited

def SC.erase : SC → SC
  | .seq a b => .seq a.erase b.erase
  | .cond c a b => .cond c a.erase b.erase
  | .block id c => .block id c.erase
  | .loop c => .loop c.erase
  | .fz _ c => c.erase
  | c => c

/-! ### The order in which a region that draws is told -/

def rankOf (o : Oper) : Nat := match o.op with
  | .load .. => 1
  | .call c => match c.callee with
    | .builtin .append => 3
    | .builtin .copy => 5
    | .builtin _ => 0
    | _ => 2
  | .alloc _ | .box .. | .buildSlice .. | .makeSlice .. => 4
  | .store .. => 6
  | _ => 0

def pickNext (ops : Array Oper) (done : List Nat) : Option Nat :=
  ((List.range ops.size).filter fun i => !done.contains i && (depsOf (ops.getD i default)).all (done.contains ·)).foldl (init := none) fun best i =>
    match best with
    | none => some i
    | some j => if rankOf (ops.getD i default) < rankOf (ops.getD j default) then some i else some j

def greedy (ops : Array Oper) : Nat → List Nat → List Nat
  | 0, _ => []
  | k + 1, done => match pickNext ops done with
    | some i => i :: greedy ops k (i :: done)
    | none => []

/-- The reads that a store may overtake. -/
def keepsOf (tab : Array Nat) (j : Nat) : List (Nat × GOp) → List (Nat × Nat)
  | [] => []
  | (i, g) :: r => (match g.o with
    | .ld (.t s) n _ => if (tab.getD j 0).testBit i then [] else [(s, n)]
    | _ => []) ++ keepsOf tab j r

def withKeep (tab : Array Nat) (pre : List (Nat × GOp)) (j : Nat) (g : GOp) : GOp := match g.o with
  | .st .. => { g with keep := keepsOf tab j pre }
  | _ => g

def addKeeps (tab : Array Nat) : List (Nat × GOp) → List (Nat × GOp) → List (Nat × GOp)
  | _, [] => []
  | pre, (j, g) :: r => (j, withKeep tab pre j g) :: addKeeps tab (pre ++ [(j, withKeep tab pre j g)]) r

def creg (P : Program) (N : Nat) (md : FuncId → Nat) (ops : Array Oper) (draw : Bool) : Option (List GOp) :=
  if draw then
    let idx := greedy ops ops.size []
    match idx.mapM (fun i => (ops[i]?).bind fun o => (cgop P N md ops o).map fun g => (i, g)) with
    | none => none
    | some gs0 =>
      let tab := tabOf ops
      let gs := addKeeps tab [] gs0
      if P.follows .mixedOrders && tabOk ops tab && linGo ops [] (gs.map (·.1)) && decide (gs.length = ops.size) && pairsGo tab gs then some (gs.map (·.2)) else none
  else ops.toList.mapM (cgop P N (fun _ => 0) ops)

def ccode (P : Program) (N : Nat) (md : FuncId → Nat) : Code → Option SC
  | .skip => some .skip
  | .region _ ops draw => (creg P N md ops draw).map .reg
  | .seq a b => match ccode P N md a, ccode P N md b with
    | some a, some b => some (.seq a b)
    | _, _ => none
  | .cond c a b => match avx N c, ccode P N md a, ccode P N md b with
    | some c, some a, some b => some (.cond c a b)
    | _, _, _ => none
  | .block id c => (ccode P N md c).map (.block id)
  | .loop c => (ccode P N md c).map .loop
  | .exit id => some (.exit id)
  | .ret => some .ret
  | _ => none

inductive AE where
  | normal
  | exit (id : Nat)
  | ret
  deriving DecidableEq

def thenW (k : Fr → Hp → Prop) (K : AE → Fr → Hp → Prop) : AE → Fr → Hp → Prop
  | .normal => k
  | e => K e

def inBlk (id : Nat) (K : AE → Fr → Hp → Prop) : AE → Fr → Hp → Prop
  | .exit i => if i = id then K .normal else K (.exit i)
  | e => K e

def awp (P : Program) : SC → (AE → Fr → Hp → Prop) → Fr → Hp → Prop
  | .skip, K => K .normal
  | .reg ops, K => aops P (K .normal) ops
  | .seq a b, K => awp P a (thenW (awp P b K) K)
  | .cond c a b, K => fun fr h => match ev fr c with
    | .base (.bool t) => if t then awp P a K fr h else awp P b K fr h
    | _ => False
  | .block id c, K => awp P c (inBlk id K)
  | .loop c, K => fun fr h => ∃ I : Nat → Fr → Hp → Prop, (∃ n, I n fr h) ∧ ∀ n fr h, I n fr h → awp P c (thenW (fun fr' h' => ∃ m, m < n ∧ I m fr' h') K) fr h
  | .exit id, K => K (.exit id)
  | .ret, K => K .ret
  | .fz S c, K => Fz S (awp P c K)

section
variable {P : Program} {T : Nat → Prop} {N : Nat} {fr : Fr} {h : Hp} {a : Act} {w : World} {md : FuncId → Nat}

def exitOf : AE → Exit
  | .normal => .normal
  | .exit id => .exit id
  | .ret => .ret

/-- What the machine's exits must bear. -/
def Lift (T : Nat → Prop) (N : Nat) (h0 : Hp) (w0 : World) (K : AE → Fr → Hp → Prop) (Q : Exit → Act → World → Prop) : Prop :=
  ∀ e a' w', St T N h0 w0 (K e) a' w' → Q (exitOf e) a' w'

theorem linGo_spec {ops : Array Oper} : ∀ (l done : List Nat), linGo ops done l = true → l.Nodup ∧ (∀ i ∈ l, i ∉ done) ∧ (∀ i ∈ l, i < ops.size) ∧ ∀ (pre post : List Nat) (i : Nat), l = pre ++ i :: post → ∀ d ∈ depsOf (ops.getD i default), d ∈ done ∨ d ∈ pre
  | [], done, _ => ⟨List.nodup_nil, fun i hi => (by cases hi), fun i hi => (by cases hi), fun pre post i hl => (by cases pre <;> cases hl)⟩
  | i :: l, done, hl => by
    simp only [linGo, Bool.and_eq_true, Bool.not_eq_true', decide_eq_true_eq] at hl
    obtain ⟨⟨⟨h1, h2⟩, h3⟩, h4⟩ := hl
    have h1' : i ∉ done := by
      intro hm
      rw [List.contains_eq_mem] at h1
      simp [hm] at h1
    obtain ⟨k1, k2, k3, k4⟩ := linGo_spec l (i :: done) h4
    refine ⟨List.nodup_cons.2 ⟨fun hm => k2 i hm (List.mem_cons_self ..), k1⟩, ?_, ?_, ?_⟩
    · intro x hx
      rcases List.mem_cons.1 hx with rfl | hx
      · exact h1'
      · exact fun hm => k2 x hx (List.mem_cons_of_mem _ hm)
    · intro x hx
      rcases List.mem_cons.1 hx with rfl | hx
      · exact h2
      · exact k3 x hx
    · intro pre post j hj d hd
      cases pre with
      | nil =>
        simp only [List.nil_append, List.cons.injEq] at hj
        obtain ⟨rfl, rfl⟩ := hj
        have := List.all_eq_true.1 h3 d hd
        rw [List.contains_eq_mem] at this
        exact .inl (by simpa using this)
      | cons p pre =>
        simp only [List.cons_append, List.cons.injEq] at hj
        obtain ⟨rfl, hj⟩ := hj
        rcases k4 pre post j hj d hd with g | g
        · rcases List.mem_cons.1 g with rfl | g
          · exact .inr (List.mem_cons_self ..)
          · exact .inl g
        · exact .inr (List.mem_cons_of_mem _ g)

theorem pairsGo_spec {tab : Array Nat} : ∀ (l : List (Nat × GOp)), pairsGo tab l = true → ∀ (pre post : List (Nat × GOp)) (p : Nat × GOp), l = pre ++ p :: post → ∀ x ∈ pre, (tab.getD p.1 0).testBit x.1 = true ∨ swapOk x.2 p.2 = true
  | [], _, pre, post, p, hl => by cases pre <;> cases hl
  | q :: l, hg, pre, post, p, hl => by
    obtain ⟨i, g⟩ := q
    simp only [pairsGo, Bool.and_eq_true] at hg
    intro x hx
    cases pre with
    | nil => cases hx
    | cons y pre =>
      simp only [List.cons_append, List.cons.injEq] at hl
      obtain ⟨rfl, hl⟩ := hl
      rcases List.mem_cons.1 hx with rfl | hx
      · have := List.all_eq_true.1 hg.1 p (by rw [hl]; simp)
        simpa using this
      · exact pairsGo_spec l hg.2 pre post p hl x hx

theorem addKeeps_spec {tab : Array Nat} : ∀ (l pre : List (Nat × GOp)), (addKeeps tab pre l).length = l.length ∧ ∀ (j : Nat) (h1 : j < l.length) (h2 : j < (addKeeps tab pre l).length),
    (addKeeps tab pre l)[j].1 = l[j].1 ∧ (addKeeps tab pre l)[j].2.o = l[j].2.o ∧ (addKeeps tab pre l)[j].2.d = l[j].2.d ∧ (addKeeps tab pre l)[j].2.g = l[j].2.g
  | [], pre => ⟨rfl, fun j h1 => by cases h1⟩
  | (i, g) :: l, pre => by
    simp only [addKeeps]
    obtain ⟨k1, k2⟩ := addKeeps_spec (tab := tab) l (pre ++ [(i, withKeep tab pre i g)])
    refine ⟨by simp [k1], fun j h1 h2 => ?_⟩
    cases j with
    | zero =>
      simp only [List.getElem_cons_zero]
      refine ⟨trivial, ?_, ?_, ?_⟩ <;> (unfold withKeep; split <;> rfl)
    | succ j =>
      simp only [List.getElem_cons_succ]
      exact k2 j (by simpa using h1) (by simpa using h2)

theorem mem_of_nodup_full : ∀ {n : Nat} {l : List Nat}, l.Nodup → (∀ i ∈ l, i < n) → l.length = n → ∀ {i : Nat}, i < n → i ∈ l := by
  intro n l hnd hlt hlen i hi
  -- if i were missing, l would be a list without repetition in the others
  apply Classical.byContradiction
  intro hni
  have hsub : l ⊆ (List.range n).erase i := by
    intro x hx
    have hxi : x ≠ i := fun he => hni (he ▸ hx)
    exact (List.mem_erase_of_ne hxi).2 (List.mem_range.2 (hlt x hx))
  have hle := List.Nodup.length_le_of_subset hnd hsub
  rw [List.length_erase_of_mem (List.mem_range.2 hi), List.length_range] at hle
  omega

theorem reg_sound {ops : Array Oper} {draw : Bool} {id : Nat} {gs : List GOp} (hc : creg P N md ops draw = some gs) (rel : Rel T N fr h a w) {h0 : Hp} {w0 : World} (ev : Evo h0 w0 h w) {K : AE → Fr → Hp → Prop} {Q : Exit → Act → World → Prop} (hQ : Lift T N h0 w0 K Q)
    (hK : aops P (K .normal) gs fr h) : (Code.region id ops draw).wp P Q a w := by
  have hQn : ∀ a' w', St T N h0 w0 (K .normal) a' w' → Q .normal a' w' := fun a' w' s => hQ .normal a' w' s
  unfold creg at hc
  cases draw with
  | false =>
    simp only [Bool.false_eq_true, if_false] at hc
    obtain ⟨h1, h2⟩ := mapM_get hc
    refine wp_region (text_sound (md := fun _ => 0) hQn (List.range ops.size) gs fr h a w (by simp [h1]) (fun p g1 g2 => ?_) ev rel hK)
    have hp : p < ops.size := by simpa using g1
    refine ⟨ops[p], gs[p], by simp [hp], ?_, rfl, rfl, rfl⟩
    have := h2 p (by simpa using hp) g2
    simp only [Array.getElem_toList] at this
    exact this
  | true =>
    simp only [if_true] at hc
    split at hc
    · cases hc
    rename_i gs0 hm
    split at hc
    case isFalse => cases hc
    rename_i hchk
    injection hc with hc
    subst hc
    simp only [Bool.and_eq_true, decide_eq_true_eq] at hchk
    obtain ⟨⟨⟨⟨c1, c2⟩, c3⟩, c4⟩, c5⟩ := hchk
    obtain ⟨m1, m2⟩ := mapM_get hm
    obtain ⟨a1, a2⟩ := addKeeps_spec (tab := tabOf ops) gs0 []
    obtain ⟨l1, l2, l3, l4⟩ := linGo_spec _ _ c3
    have ev1 : Evo h0 w0 h { w with drawn := w.drawn + 1 } := ⟨ev.os, ev.tape, ev.output, ev.size, ev.same, ev.shape, ev.dom⟩
    have evd : Evo h w h { w with drawn := w.drawn + 1 } := ⟨rfl, rfl, rfl, Nat.le_refl _, fun _ _ _ => rfl, fun _ c _ _ hb => ⟨c, hb, rfl⟩, fun _ hb => .inl hb⟩
    have rel1 : Rel T N fr h a { w with drawn := w.drawn + 1 } := rel.mono evd ⟨fun b cs hb => by
        obtain ⟨c, e, g1, g2, g3, g4⟩ := rel.heap.blk b cs hb
        refine ⟨c, e, g1, g2, g3, fun j hj => ?_⟩
        obtain ⟨v, k1, k2⟩ := g4 j hj
        exact ⟨v, k1, k2.mono evd⟩, rel.heap.held⟩
    refine wp_region_any c1 (any_sound (md := md) (T := T) (N := N) (h0 := h0) (w0 := w0) c2 hQn ops.size _ (addKeeps (tabOf ops) [] gs0) fr h a _ (by simp) c4 ?_ l1 (fun p hp => l3 p.1 (List.mem_map.2 ⟨p, hp, rfl⟩)) ?_ (pairsGo_spec _ c5) ?_ ?_ ev1 rel1 hK)
    · intro i hi
      constructor
      · intro _
        -- a list without repetition, as long as the region, of numbers below its length
        have hlen : ((addKeeps (tabOf ops) [] gs0).map (·.1)).length = ops.size := by simpa using c4
        exact mem_of_nodup_full l1 l3 hlen hi
      · intro _
        simp [Array.getD, hi]
    · intro pre post p hp d hd
      rcases l4 (pre.map (·.1)) (post.map (·.1)) p.1 (by rw [hp]; simp) d hd with g | g
      · cases g
      · exact .inr g
    · intro y hy hyl
      simp [Array.getD, hy] at hyl
    · intro p hp
      obtain ⟨j, hj, rfl⟩ := List.mem_iff_getElem.1 hp
      have hj0 : j < gs0.length := by rw [← a1]; exact hj
      obtain ⟨b1, b2, b3, b4⟩ := a2 j hj0 hj
      have := m2 j (by rw [← m1]; exact hj0) hj0
      obtain ⟨o, ho, hg⟩ := Option.bind_eq_some_iff.1 this
      obtain ⟨g, hg, he⟩ := Option.map_eq_some_iff.1 hg
      rw [b1]
      rw [← he] at b2 b3 b4 ⊢
      exact ⟨o, g, ho, hg, b2, b3, b4⟩

theorem wp_lift {c : Code} {Q Q' : Exit → Act → World → Prop} (hq : ∀ e a w, Q e a w → Q' e a w) (hw : c.wp P Q a w) : c.wp P Q' a w := wp_mono hw hq

theorem cc_skip {c : Code} (hc : ccode P N md c = some .skip) : c = .skip := by
  cases c <;> simp [ccode] at hc ⊢
  all_goals (split at hc <;> simp at hc)

theorem cc_reg {c : Code} {gs : List GOp} (hc : ccode P N md c = some (.reg gs)) : ∃ id ops draw, c = .region id ops draw ∧ creg P N md ops draw = some gs := by
  cases c <;> simp only [ccode, reduceCtorEq, Option.map_eq_some_iff, and_false, exists_false, Option.some.injEq] at hc
  all_goals first | (split at hc <;> simp at hc <;> done) | skip
  obtain ⟨s, hs, he⟩ := hc
  injection he with h1
  subst h1
  exact ⟨_, _, _, rfl, hs⟩

theorem cc_seq {c : Code} {a b : SC} (hc : ccode P N md c = some (.seq a b)) : ∃ x y, c = .seq x y ∧ ccode P N md x = some a ∧ ccode P N md y = some b := by
  cases c <;> simp only [ccode, reduceCtorEq, Option.map_eq_some_iff, and_false, exists_false, Option.some.injEq] at hc
  all_goals first | (split at hc <;> simp at hc <;> done) | skip
  split at hc
  · injection hc with hc
    injection hc with h1 h2
    subst h1 h2
    exact ⟨_, _, rfl, by assumption, by assumption⟩
  · cases hc

theorem cc_cond {c : Code} {z : SX} {a b : SC} (hc : ccode P N md c = some (.cond z a b)) : ∃ q x y, c = .cond q x y ∧ avx N q = some z ∧ ccode P N md x = some a ∧ ccode P N md y = some b := by
  cases c <;> simp only [ccode, reduceCtorEq, Option.map_eq_some_iff, and_false, exists_false, Option.some.injEq] at hc
  all_goals first | (split at hc <;> simp at hc <;> done) | skip
  split at hc
  · injection hc with hc
    injection hc with h1 h2 h3
    subst h1 h2 h3
    exact ⟨_, _, _, rfl, by assumption, by assumption, by assumption⟩
  · cases hc

theorem cc_block {c : Code} {id : Nat} {a : SC} (hc : ccode P N md c = some (.block id a)) : ∃ x, c = .block id x ∧ ccode P N md x = some a := by
  cases c <;> simp only [ccode, reduceCtorEq, Option.map_eq_some_iff, and_false, exists_false, Option.some.injEq] at hc
  all_goals first | (split at hc <;> simp at hc <;> done) | skip
  obtain ⟨s, hs, he⟩ := hc
  injection he with h1 h2
  subst h1 h2
  exact ⟨_, rfl, hs⟩

theorem cc_loop {c : Code} {a : SC} (hc : ccode P N md c = some (.loop a)) : ∃ x, c = .loop x ∧ ccode P N md x = some a := by
  cases c <;> simp only [ccode, reduceCtorEq, Option.map_eq_some_iff, and_false, exists_false, Option.some.injEq] at hc
  all_goals first | (split at hc <;> simp at hc <;> done) | skip
  obtain ⟨s, hs, he⟩ := hc
  injection he with h1
  subst h1
  exact ⟨_, rfl, hs⟩

theorem cc_exit {c : Code} {id : Nat} (hc : ccode P N md c = some (.exit id)) : c = .exit id := by
  cases c <;> simp [ccode] at hc ⊢
  all_goals first | exact hc | (split at hc <;> simp at hc)

theorem cc_ret {c : Code} (hc : ccode P N md c = some .ret) : c = .ret := by
  cases c <;> simp [ccode] at hc ⊢
  all_goals (split at hc <;> simp at hc)

/-- CODE: what holds here holds of the machine. -/
theorem awp_sound : ∀ (sc : SC) (c : Code), ccode P N md c = some sc.erase → ∀ (fr : Fr) (h : Hp) (a : Act) (w : World) (h0 : Hp) (w0 : World) (K : AE → Fr → Hp → Prop) (Q : Exit → Act → World → Prop),
    Lift T N h0 w0 K Q → Evo h0 w0 h w → Rel T N fr h a w → awp P sc K fr h → c.wp P Q a w := by
  intro sc
  induction sc with
  | skip =>
    intro c hc fr h a w h0 w0 K Q hQ ev rel hK
    obtain rfl := cc_skip hc
    exact wp_skip (hQ .normal a w ⟨fr, h, hK, rel, ev⟩)
  | reg gs =>
    intro c hc fr h a w h0 w0 K Q hQ ev rel hK
    obtain ⟨id, ops, draw, rfl, hg⟩ := cc_reg hc
    exact reg_sound hg rel ev hQ hK
  | seq sx sy ihx ihy =>
    intro c hc fr h a w h0 w0 K Q hQ ev rel hK
    obtain ⟨x, y, rfl, hx, hy⟩ := cc_seq hc
    refine wp_seq (ihx x hx fr h a w h0 w0 (thenW (awp P sy K) K) _ ?_ ev rel hK)
    intro e a' w' s
    cases e with
    | normal =>
      obtain ⟨fr', h', hK', rel', ev'⟩ := s
      exact ihy y hy fr' h' a' w' h0 w0 K Q hQ ev' rel' hK'
    | exit i => exact hQ (.exit i) a' w' s
    | ret => exact hQ .ret a' w' s
  | cond z sx sy ihx ihy =>
    intro c hc fr h a w h0 w0 K Q hQ ev rel hK
    obtain ⟨q, x, y, rfl, hcc, hx, hy⟩ := cc_cond hc
    have V1 := V.ev rel hcc
    simp only [awp] at hK
    split at hK
    · rename_i t ht
      rw [ht] at V1
      generalize hv : a.eval q = v at V1
      cases V1
      refine wp_cond hv ?_
      cases t with
      | true =>
        simp only [if_true] at hK ⊢
        exact ihx x hx fr h a w h0 w0 K Q hQ ev rel hK
      | false =>
        simp only [Bool.false_eq_true, if_false] at hK ⊢
        exact ihy y hy fr h a w h0 w0 K Q hQ ev rel hK
    · exact hK.elim
  | block id s ih =>
    intro c hc fr h a w h0 w0 K Q hQ ev rel hK
    obtain ⟨x, rfl, hx⟩ := cc_block hc
    refine wp_block (ih x hx fr h a w h0 w0 (inBlk id K) _ ?_ ev rel hK)
    intro e a' w' st
    cases e with
    | normal => exact hQ .normal a' w' st
    | exit i =>
      simp only [exitOf, Exit.inBlock]
      by_cases hi : i = id
      · rw [if_pos hi]
        simp only [inBlk, hi, if_true] at st
        exact hQ .normal a' w' st
      · rw [if_neg hi]
        simp only [inBlk, hi, if_false] at st
        exact hQ (.exit i) a' w' st
    | ret => exact hQ .ret a' w' st
  | loop s ih =>
    intro c hc fr h a w h0 w0 K Q hQ ev rel hK
    obtain ⟨x, rfl, hx⟩ := cc_loop hc
    obtain ⟨I, ⟨n0, hI0⟩, hround⟩ := hK
    refine wp_loop_ghost (fun n a w => ∃ fr h, I n fr h ∧ Rel T N fr h a w ∧ Evo h0 w0 h w) n0 ⟨fr, h, hI0, rel, ev⟩ ?_
    intro n a1 w1 ⟨fr1, h1, hI1, rel1, ev1⟩
    refine ih x hx fr1 h1 a1 w1 h0 w0 _ _ ?_ ev1 rel1 (hround n fr1 h1 hI1)
    intro e a' w' st
    cases e with
    | normal =>
      obtain ⟨fr', h', ⟨m, hm, hI'⟩, rel', ev'⟩ := st
      exact ⟨m, hm, fr', h', hI', rel', ev'⟩
    | exit i => exact hQ (.exit i) a' w' st
    | ret => exact hQ .ret a' w' st
  | exit id =>
    intro c hc fr h a w h0 w0 K Q hQ ev rel hK
    obtain rfl := cc_exit hc
    exact wp_exit (hQ (.exit id) a w ⟨fr, h, hK, rel, ev⟩)
  | ret =>
    intro c hc fr h a w h0 w0 K Q hQ ev rel hK
    obtain rfl := cc_ret hc
    exact wp_ret (hQ .ret a w ⟨fr, h, hK, rel, ev⟩)
  | fz S s ih =>
    intro c hc fr h a w h0 w0 K Q hQ ev rel hK
    obtain ⟨h', vs, g1, g2, g3⟩ := hK
    exact ih c hc _ h' a w h0 w0 K Q hQ (ev.sub g1) (rel.fz g1 g2) g3

/-! ### Functions -/

inductive SR where
  | t (n : Nat)
  | c (n k : Nat) (ag : Bool)

def cres (P : Program) (N : Nat) : ResultVar → Option SR
  | .tmp t => if t < N then some (.t t) else none
  | .cell x t => match aggOf P t, sizeT P t with
    | some ag, some n => if x < N then some (.c x (if ag then n else 1) ag) else none
    | _, _ => none

def resOf (fr : Fr) (h : Hp) : SR → Option AV
  | .t n => some (fr n)
  | .c x k ag => (cellsAt h (fr x) k).bind (ldv · ag)

def resA (fr : Fr) (h : Hp) (rs : List SR) : Option AV := match rs.mapM (resOf fr h) with
  | some [v] => some v
  | some vs => some (.tup vs)
  | none => none

structure SF where
  nargs : Nat
  N : Nat
  code : SC
  res : List SR

def cfun (P : Program) (md : FuncId → Nat) (f : FuncId) : Option SF := match P.funcs[f]? with
  | none => none
  | some fn => match fn.body with
    | none => none
    | some c => match ccode P fn.ntmps md c, fn.results.toList.mapM (cres P fn.ntmps) with
      | some sc, some rs => if (fn.name == "runtime.NumGoroutine") = false ∧ fn.params.size + fn.nfree ≤ fn.ntmps then some ⟨fn.params.size + fn.nfree, fn.ntmps, sc, rs⟩ else none
      | _, _ => none

def frame0 (avs : List AV) : Fr := fun i => avs.getD i (.tup [])

theorem run_results {fn : Func} {rs : List SR} (rel : Rel T N fr h a w) (hr : fn.results.toList.mapM (cres P N) = some rs) {v : AV} (hv : resA fr h rs = some v) : ∃ r, (results fn a.tmps).run P w = .ok r w ∧ V w h T v r := by
  have key : ∀ (l : List ResultVar) (rs : List SR) (vs : List AV), l.mapM (cres P N) = some rs → rs.mapM (resOf fr h) = some vs → ∃ us : List Value, (l.mapM (m := Sem) fun
      | .tmp t => pure (a.tmps.getD t undef)
      | .cell x t => do loadVar t (← asAddr (a.tmps.getD x undef))).run P w = .ok us w ∧ us.length = vs.length ∧ ∀ (j : Nat) (h1 : j < vs.length) (h2 : j < us.length), V w h T vs[j] us[j] := by
    intro l
    induction l with
    | nil =>
      intro rs vs h1 h2
      simp at h1
      subst h1
      simp at h2
      subst h2
      exact ⟨[], by simp, rfl, fun j h1 => (by cases h1)⟩
    | cons x l ih =>
      intro rs vs h1 h2
      simp only [List.mapM_cons, Option.bind_eq_bind, Option.pure_def, Option.bind_eq_some_iff] at h1
      obtain ⟨sx, hx, rs', hrs, he⟩ := h1
      injection he with he
      subst he
      simp only [List.mapM_cons, Option.bind_eq_bind, Option.pure_def, Option.bind_eq_some_iff] at h2
      obtain ⟨v, hv, vs', hvs, he⟩ := h2
      injection he with he
      subst he
      obtain ⟨us, hu, hl, hV⟩ := ih rs' vs' hrs hvs
      have one : ∃ u, (match x with
          | .tmp t => pure (a.tmps.getD t undef)
          | .cell x t => do loadVar t (← asAddr (a.tmps.getD x undef)) : Sem Value).run P w = .ok u w ∧ V w h T v u := by
        cases x with
        | tmp t =>
          simp only [cres] at hx
          split at hx
          · rename_i ht
            injection hx with hx
            subst hx
            simp only [resOf, Option.some.injEq] at hv
            subst hv
            exact ⟨_, rfl, rel.slots t ht⟩
          · cases hx
        | cell y t =>
          simp only [cres] at hx
          split at hx
          · rename_i ag n hag hn
            split at hx
            · rename_i hy
              injection hx with hx
              subst hx
              simp only [resOf, Option.bind_eq_some_iff] at hv
              obtain ⟨cs, hcs, hld⟩ := hv
              obtain ⟨b, off, hbv, hl', hC⟩ := cellsAt_sound rel.heap (rel.slots y hy) hcs
              obtain ⟨r, hr, hV⟩ := load_sound (P := P) (t := t) (n := cs.length) hag (fun hag' => by rw [hag'] at hl'; simp at hl'; rw [hl']; exact hn) hC rfl hld
              refine ⟨r, ?_, hV⟩
              simp only [hbv, asAddr, Sem.run_bind, Sem.run_pure, Result.andThen_ok, hr]
            · cases hx
          · cases hx
      obtain ⟨u, hu1, hu2⟩ := one
      refine ⟨u :: us, ?_, by simp [hl], fun j h1 h2 => ?_⟩
      · simp only [List.mapM_cons, Sem.run_bind, hu1, hu, Result.andThen_ok, Sem.run_pure]
      · cases j with
        | zero => exact hu2
        | succ j => exact hV j (by simpa using h1) (by simpa using h2)
  unfold resA at hv
  cases hm : rs.mapM (resOf fr h) with
  | none => rw [hm] at hv; cases hv
  | some vs =>
    rw [hm] at hv
    obtain ⟨us, hu, hl, hV⟩ := key _ _ _ hr hm
    have hrun : (results fn a.tmps).run P w = .ok (if h : us.toArray.size = 1 then us.toArray[0] else .tuple us.toArray) w := by
      unfold results
      rw [Array.mapM_eq_mapM_toList]
      simp only [Sem.run_bind, Sem.run_map, Sem.run_pure]
      exact (congrArg (fun r : Result (List Value) => (r.andThen fun a w' => Result.ok a.toArray w').andThen fun (a : Array Value) w' => Result.ok (if h : a.size = 1 then a[0] else Value.tuple a) w') hu).trans rfl
    match vs, hv, hl, hV with
    | [], hv, hl, hV =>
      injection hv with hv
      subst hv
      have : us = [] := List.eq_nil_of_length_eq_zero hl
      subst this
      exact ⟨_, hrun, .tup [] #[] rfl (fun j h1 => by cases h1)⟩
    | [x], hv, hl, hV =>
      injection hv with hv
      subst hv
      match us, hl, hrun, hV with
      | [u], hl, hrun, hV => exact ⟨u, hrun, hV 0 (by simp) (by simp)⟩
    | x :: y :: vs, hv, hl, hV =>
      injection hv with hv
      subst hv
      match us, hl, hrun, hV with
      | u :: u' :: us, hl, hrun, hV => exact ⟨.tuple (u :: u' :: us).toArray, hrun, .tup _ _ (by simpa using hl) (fun j h1 h2 => by
          simp only [List.getElem_toArray]
          exact hV j h1 (by simpa using h2))⟩

/-- A FUNCTION: its contract out of its code. -/
theorem spec_of {f : FuncId} {n N : Nat} {sc : SC} {res : List SR} (hc : cfun P md f = some ⟨n, N, sc.erase, res⟩) {avs : List AV} (hn : avs.length = n) {R : AV → Hp → Prop}
    (hK : awp P sc (fun e fr' h' => (e = .normal ∨ e = .ret) ∧ ∃ v, resA fr' h' res = some v ∧ R v h') (frame0 avs) h) : Spec P f avs h R := by
  unfold cfun at hc
  split at hc
  · cases hc
  rename_i fn hfn
  split at hc
  · cases hc
  rename_i c hb
  split at hc
  · rename_i sc rs hsc hrs
    split at hc
    · rename_i hcond
      injection hc with hc
      injection hc with e1 e2 e3 e4
      subst e1 e2 e3 e4
      refine ⟨⟨fn, hfn, hcond.1, by simp [hb]⟩, fun T w vals hr hcov => ?_⟩
      have hsz : vals.size = avs.length := hcov.size
      have rel : Rel T fn.ntmps (frame0 avs) h { tmps := vals ++ Array.replicate (fn.ntmps - vals.size) undef, defers := [] } w := by
        refine ⟨fun t ht => ?_, by simp; omega, rfl, hr⟩
        simp only [frame0]
        by_cases hlt : t < avs.length
        · have hlt' : t < vals.size := by omega
          have e1 : (vals ++ Array.replicate (fn.ntmps - vals.size) undef).getD t undef = vals[t] := by
            rw [Array.getD_eq_getD_getElem?, Array.getElem?_append_left hlt', Array.getElem?_eq_getElem hlt']
            rfl
          have e2 : avs.getD t (.tup []) = avs[t] := by simp [List.getD, hlt]
          rw [e1, e2]
          exact hcov.val t hlt hlt'
        · have e1 : (vals ++ Array.replicate (fn.ntmps - vals.size) undef).getD t undef = undef := by
            rw [Array.getD_eq_getD_getElem?, Array.getElem?_append_right (by omega)]
            simp [Array.getElem?_replicate]
            split <;> rfl
          have e2 : avs.getD t (.tup []) = .tup [] := by simp [List.getD, List.getElem?_eq_none (Nat.le_of_not_lt hlt)]
          rw [e1, e2]
          exact V.undef
      refine calls_of_wp hfn hb (awp_sound (md := md) _ c hsc _ h _ w h w _ _ ?_ (Evo.refl h w) rel hK)
      intro e a' w' st
      obtain ⟨fr', h', ⟨he, v, hv, hR⟩, rel', ev'⟩ := st
      obtain ⟨r, hrun, hV⟩ := run_results (P := P) rel' hrs hv
      rcases he with rfl | rfl
      · exact ⟨rel'.defers, r, hrun, v, h', r, rfl, hR, ev', rel'.heap, hV⟩
      · exact ⟨rel'.defers, r, hrun, v, h', r, rfl, hR, ev', rel'.heap, hV⟩
    · cases hc
  · cases hc

end
end Go.AM
