/- The logic AM: contracts, operations with what follows, regions in the text's order and in any order. No Go program in it. -/
import Derived.Test.YtmihmgnjnedfcaaAMG
import Derived.Deep.LoopGhost
set_option linter.unusedSimpArgs false
set_option linter.unusedVariables false
namespace Go.AM
open Go

/-- THE CONTRACT of a function, called with 'avs' beside the live blocks 'h': it returns a value and live blocks of which R tells. -/
def Spec (P : Program) (f : FuncId) (avs : List AV) (h : Hp) (R : AV → Hp → Prop) : Prop :=
  (∃ fn, P.funcs[f]? = some fn ∧ (fn.name == "runtime.NumGoroutine") = false ∧ fn.body.isNone = false) ∧
  ∀ (T : Nat → Prop) (w : World) (vals : Array Value), HR w h T → Cov w h T avs vals →
    Calls P f vals w fun e w' => ∃ v h' r, e = .returned r ∧ R v h' ∧ Evo h w h' w' ∧ HR w' h' T ∧ V w' h' T v r

theorem Spec.mono {P : Program} {f : FuncId} {avs : List AV} {h : Hp} {R R' : AV → Hp → Prop} (s : Spec P f avs h R) (hr : ∀ v h', R v h' → R' v h') : Spec P f avs h R' :=
  ⟨s.1, fun T w vals hh hc => (s.2 T w vals hh hc).mono fun e w' ⟨v, h', r, g1, g2, g3⟩ => ⟨v, h', r, g1, hr _ _ g2, g3⟩⟩

/-- The heap has only grown. -/
def Ext (h h' : Hp) : Prop := ∀ b cs, h b = some cs → h' b = some cs

/-- The callee. -/
def callee (fr : Fr) (f : SX) (xs : List SX) : Option (FuncId × List AV) :=
  match ev fr f with
  | .fn i first cap => some (i, first ++ xs.map (ev fr) ++ cap)
  | _ => none

/-- A call, as what follows must hold. Mode 0: any; 1: a call that leaves the live blocks alone; 2: a call that only adds to them. -/
def callW (P : Program) (md : Nat) (fr : Fr) (f : SX) (xs : List SX) (h : Hp) (K : AV → Hp → Prop) : Prop :=
  match callee fr f xs with
  | none => False
  | some (i, avs) => match md with
    | 0 => Spec P i avs h K
    | 1 => ∃ r, Spec P i avs h (fun v h' => v = r ∧ h' = h) ∧ K r h
    | _ => Spec P i avs h (fun v h' => Ext h h' ∧ K v h')

/-- Reads that may come behind a store: they read the same. -/
def keeps (fr : Fr) (h h' : Hp) : List (Nat × Nat) → Prop
  | [] => True
  | (x, n) :: r => cellsAt h' (fr x) n = cellsAt h (fr x) n ∧ keeps fr h h' r

inductive Cls where
  | det | mem | app | cpy | st | call
  deriving DecidableEq

def cls : SO → Cls
  | .new _ | .box _ | .mkl .. | .mks .. => .mem
  | .app .. => .app
  | .cpy .. => .cpy
  | .st .. => .st
  | .call .. => .call
  | _ => .det

structure GOp where
  g : Option (Nat × Bool)
  d : Option Nat
  o : SO
  /-- the mode of a call -/
  md : Nat
  /-- reads that may come behind a store -/
  keep : List (Nat × Nat)
  deriving Inhabited

/-- What an operation comes to, of its value and of the live blocks behind it. -/
def eff1 (P : Program) (o : GOp) (fr : Fr) (h : Hp) (R : AV → Hp → Prop) : Prop :=
  match o.o with
  | .app s x sz => appW (ev fr s) (ev fr x) sz h R
  | .cpy s x _ => cpyW (ev fr s) (ev fr x) h R
  | .st x v n => stW (ev fr x) (ev fr v) n h (fun h' => keeps fr h h' o.keep ∧ R (.tup []) h')
  | .call f xs => callW P o.md fr f xs h R
  | so => match cls so with
    | .mem => match mem so fr with
      | some (cs, mk) => ∀ b, h b = none → R (mk b) (hset h b cs)
      | none => False
    | _ => match det so fr h with
      | some v => R v h
      | none => False

def eff (P : Program) (o : GOp) (fr : Fr) (h : Hp) (R : AV → Hp → Prop) : Prop :=
  match o.g with
  | none => eff1 P o fr h R
  | some (s, want) => match fr s with
    | .base (.bool b) => if b = want then eff1 P o fr h R else R (.tup []) h
    | .tup [] => R (.tup []) h
    | _ => False

def aop (P : Program) (o : GOp) (K : Fr → Hp → Prop) (fr : Fr) (h : Hp) : Prop := eff P o fr h (fun v h' => K (updO fr o.d v) h')

def aops (P : Program) (K : Fr → Hp → Prop) : List GOp → Fr → Hp → Prop
  | [] => K
  | o :: os => aop P o (aops P K os)

def goodD (N : Nat) : Option Nat → Bool
  | some d => decide (d < N)
  | none => true

/-- The mode of a call. -/
def modeOf (md : FuncId → Nat) : SO → Nat
  | .call (.f i) _ => md i
  | .call _ _ => md 0
  | _ => 0

def cgop (P : Program) (N : Nat) (md : FuncId → Nat) (ops : Array Oper) (o : Oper) : Option GOp :=
  match cop P N o with
  | none => none
  | some so => if goodD N o.dst then
      match o.guard with
      | none => some { g := none, d := o.dst, o := so, md := modeOf md so, keep := [] }
      | some (j, want) => match (ops[j]?).bind (·.dst) with
        | some s => if s < N then some { g := some (s, want), d := o.dst, o := so, md := modeOf md so, keep := [] } else none
        | none => none
    else none

section
variable {P : Program} {T : Nat → Prop} {N : Nat} {fr : Fr} {h : Hp} {a : Act} {w : World}

/-- Where an operation may come to. -/
def St (T : Nat → Prop) (N : Nat) (h : Hp) (w : World) (K : Fr → Hp → Prop) (a' : Act) (w' : World) : Prop := ∃ fr' h', K fr' h' ∧ Rel T N fr' h' a' w' ∧ Evo h w h' w'

theorem Rel.mono (rel : Rel T N fr h a w) {h' : Hp} {w' : World} (ev : Evo h w h' w') (hr : HR w' h' T) : Rel T N fr h' a w' :=
  ⟨fun t ht => (rel.slots t ht).mono ev, rel.size, rel.defers, hr⟩

theorem Rel.put (rel : Rel T N fr h a w) {d : Option Nat} (hd : goodD N d = true) {v : AV} {r : Value} (hv : V w h T v r) : Rel T N (updO fr d v) h (a.put d r) w := by
  cases d with
  | none => exact rel
  | some d =>
    simp only [goodD, decide_eq_true_eq] at hd
    refine ⟨fun t ht => ?_, by simpa [Act.put] using rel.size, rel.defers, rel.heap⟩
    simp only [updO, upd, Act.put]
    by_cases htd : t = d
    · subst htd
      rw [if_pos rfl]
      have : (a.tmps.setIfInBounds t r).getD t undef = r := by simp [Array.getD, rel.size, ht]
      rw [this]
      exact hv
    · rw [if_neg htd]
      have : (a.tmps.setIfInBounds d r).getD t undef = a.tmps.getD t undef := by
        rw [Array.getD_eq_getD_getElem?, Array.getD_eq_getD_getElem?, Array.getElem?_setIfInBounds_ne (Ne.symm htd)]
      rw [this]
      exact rel.slots t ht

theorem V.undef : V w h T (.tup []) undef := .tup [] #[] rfl (fun j hj => by cases hj)

def boolOf : Value → Option Bool
  | .bool b => some b
  | _ => none

theorem wantedOf (rel : Rel T N fr h a w) {ops : Array Oper} {o : Oper} {j s : Nat} {want : Bool} (hg : o.guard = some (j, want)) (hs : (ops[j]?).bind (·.dst) = some s) (hlt : s < N) :
    (∀ b, fr s = .base (.bool b) → Region.wanted o (yielded ops a.tmps) = (b == want)) ∧ (fr s = .tup [] → Region.wanted o (yielded ops a.tmps) = false) := by
  have hsl := rel.slots s hlt
  obtain ⟨u, hu, hu2⟩ : ∃ u, a.tmps[s]? = some u ∧ a.tmps.getD s Go.undef = u := by
    have hss : s < a.tmps.size := by rw [rel.size]; exact hlt
    refine ⟨a.tmps[s], Array.getElem?_eq_getElem hss, ?_⟩
    rw [Array.getD_eq_getD_getElem?, Array.getElem?_eq_getElem hss]
    rfl
  rw [hu2] at hsl
  have hy : yielded ops a.tmps j = boolOf u := by
    simp only [yielded, hs, Option.bind_some, hu]
    clear hsl hu2 hu
    cases u <;> rfl
  refine ⟨fun b hb => ?_, fun hb => ?_⟩
  · rw [hb] at hsl
    cases hsl
    simp only [Region.wanted, hg, hy, boolOf, Go.undef]
    cases b <;> cases want <;> rfl
  · rw [hb] at hsl
    cases hsl
    simp only [Region.wanted, hg, hy, boolOf, Go.undef]
    cases want <;> rfl

theorem upon_value {o : Oper} {v : Value} {w' : World} {K : Act → World → Prop} {Q : Exit → Act → World → Prop} (hr : (execOp a.eval o).run P w = .ok (.value v) w') (hK : K (a.put o.dst v) w') : o.wp P a w K Q := by
  unfold Oper.wp
  rw [hr]
  exact hK

theorem upon_skip {o : Oper} {w' : World} {K : Act → World → Prop} {Q : Exit → Act → World → Prop} (hr : (execOp a.eval o).run P w = .ok .skip w') (hK : K (a.put o.dst Go.undef) w') : o.wp P a w K Q := by
  unfold Oper.wp
  rw [hr]
  exact hK

theorem Cov.append {cs ds : List AV} {A B : Array Value} (hA : Cov w h T cs A) (hB : Cov w h T ds B) : Cov w h T (cs ++ ds) (A ++ B) := by
  refine ⟨by rw [Array.size_append, List.length_append, hA.size, hB.size], fun j hj hk => ?_⟩
  have hs := hA.size
  have hs2 := hB.size
  by_cases h1 : j < cs.length
  · rw [List.getElem_append_left h1, Array.getElem_append_left (by omega)]
    exact hA.val j h1 (by omega)
  · rw [List.getElem_append_right (by omega), Array.getElem_append_right (by omega)]
    rw [List.length_append] at hj
    have := hB.val (j - cs.length) (by omega) (by omega)
    simpa only [hs] using this

theorem call_sound (rel : Rel T N fr h a w) {o : Oper} {c : Call} {f : Operand} (ho : o.op = .call c) (hcal : c.callee = .value f) {sf : SX} {sx : List SX} (hf : avx N f = some sf) (hx : c.args.toList.mapM (avx N) = some sx) {i : FuncId} {avs : List AV}
    (hc : callee fr sf sx = some (i, avs)) {K : AV → Hp → Prop} (hs : Spec P i avs h K) {K' : Act → World → Prop} {Q : Exit → Act → World → Prop}
    (hK : ∀ v h' r w', K v h' → Evo h w h' w' → HR w' h' T → V w' h' T v r → K' (a.put o.dst r) w') : o.wp P a w K' Q := by
  have V1 := V.ev rel hf
  have hX := Cov.operands rel hx
  unfold callee at hc
  split at hc
  · rename_i i' first cap hfn
    injection hc with hc
    injection hc with g1 g2
    subst g1 g2
    rw [hfn] at V1
    generalize hfv : a.eval f = fv at V1
    cases V1 with
    | fn _ _ _ vs us hl hv hl2 hv2 =>
      obtain ⟨⟨fn, hfun, hnm, hbody⟩, hspec⟩ := hs
      have hcov : Cov w h T (first ++ sx.map (ev fr) ++ cap) (vs ++ c.args.map a.eval ++ us) :=
        (Cov.append ⟨hl, hv⟩ hX).append ⟨hl2, hv2⟩
      have hrun : (execOp a.eval o).run P w = .ok (.enter i' (vs ++ c.args.map a.eval ++ us)) w := by
        have hnm' : ¬ fn.name = "runtime.NumGoroutine" := by simpa using hnm
        have hbody' : ¬ fn.body = none := by
          intro h0
          rw [h0] at hbody
          cases hbody
        simp [execOp, ho, resolve, hcal, hfv, Deferred.ofValue, invoke, callFunc, hfun, hnm', hbody']
      unfold Oper.wp
      rw [hrun]
      refine (hspec T w _ rel.heap hcov).mono fun e w' he => ?_
      obtain ⟨v, h', r, rfl, g1, g2, g3, g4⟩ := he
      exact hK v h' r w' g1 g2 g3 g4
  · cases hc

theorem cop_call {o : Oper} {f : SX} {xs : List SX} (hc : cop P N o = some (.call f xs)) : ∃ c g, o.op = .call c ∧ c.callee = .value g ∧ avx N g = some f ∧ c.args.toList.mapM (avx N) = some xs := by
  unfold cop at hc
  cases ho : o.op <;> simp only [ho] at hc
  case unOp op t x => cases op <;> simp at hc
  case makeFunc fn x y => cases fn <;> simp at hc <;> (split at hc <;> simp at hc)
  all_goals (repeat' split at hc)
  all_goals first | (cases hc; done) | (simp at hc; done) | skip
  all_goals (cases hc; exact ⟨_, _, rfl, by assumption, by assumption, by assumption⟩)

theorem cop_st {o : Oper} {x v : SX} {n : Nat} (hc : cop P N o = some (.st x v n)) : ∃ t y z, o.op = .store t y z ∧ sizeT P t = some n ∧ avx N y = some x ∧ avx N z = some v := by
  unfold cop at hc
  cases ho : o.op <;> simp only [ho] at hc
  case unOp op t x => cases op <;> simp at hc
  case makeFunc fn x y => cases fn <;> simp at hc <;> (split at hc <;> simp at hc)
  all_goals (repeat' split at hc)
  all_goals first | (cases hc; done) | (simp at hc; done) | skip
  all_goals (cases hc; exact ⟨_, _, _, rfl, by assumption, by assumption, by assumption⟩)

theorem elemT_spec {t e : TypeId} (h : elemT P t = some e) : P.underlying t = some (.slice e) := by
  unfold elemT at h
  split at h
  · rename_i he
    injection h with h
    rw [← h]
    exact he
  · cases h

theorem cop_app {o : Oper} {s x : SX} {sz : Nat} (hc : cop P N o = some (.app s x sz)) : ∃ c t u e e2 y z i zs, o.op = .call c ∧ c.callee = .builtin .append ∧ c.args.toList = [y, z] ∧ c.argTypes.toList = [t, u] ∧ P.underlying t = some (.slice e) ∧
    P.underlying u = some (.slice e2) ∧ avx N y = some s ∧ avx N z = some x ∧ sizeT P e = some sz ∧ zeroT P e = some zs ∧ P.info? e = some i ∧ zs.length = sz ∧ i.bytes ≤ 4096 := by
  unfold cop at hc
  cases ho : o.op <;> simp only [ho] at hc
  case unOp op t x => cases op <;> simp at hc
  case makeFunc fn x y => cases fn <;> simp at hc <;> (split at hc <;> simp at hc)
  all_goals (repeat' split at hc)
  all_goals first | (cases hc; done) | (simp at hc; done) | skip
  all_goals
    cases hc
    rename_i hcc
    exact ⟨_, _, _, _, _, _, _, _, _, rfl, by assumption, by assumption, by assumption, elemT_spec (by assumption), elemT_spec (by assumption), by assumption, by assumption, by assumption, by assumption, by assumption, hcc.1, hcc.2⟩

theorem cop_cpy {o : Oper} {s x : SX} {sz : Nat} (hc : cop P N o = some (.cpy s x sz)) : ∃ c t u e y z, o.op = .call c ∧ c.callee = .builtin .copy ∧ c.args.toList = [y, z] ∧ c.argTypes.toList = [t, u] ∧ P.underlying t = some (.slice e) ∧
    (∃ e2, P.underlying u = some (.slice e2)) ∧ avx N y = some s ∧ avx N z = some x ∧ sizeT P e = some 1 := by
  unfold cop at hc
  cases ho : o.op <;> simp only [ho] at hc
  case unOp op t x => cases op <;> simp at hc
  case makeFunc fn x y => cases fn <;> simp at hc <;> (split at hc <;> simp at hc)
  all_goals (repeat' split at hc)
  all_goals first | (cases hc; done) | (simp at hc; done) | skip
  all_goals
    cases hc
    rename_i hcc
    exact ⟨_, _, _, _, _, _, rfl, by assumption, by assumption, by assumption, elemT_spec (by assumption), ⟨_, elemT_spec (by assumption)⟩, by assumption, by assumption, by assumption⟩

theorem cop_mem (rel : Rel T N fr h a w) {o : Oper} {so : SO} (hc : cop P N o = some so) {cs : List AV} {mk : Nat → AV} (hm : mem so fr = some (cs, mk)) : MemOk P o h T a w cs mk := by
  unfold cop at hc
  cases ho : o.op <;> simp only [ho] at hc
  case alloc t =>
    simp only [Option.map_eq_some_iff] at hc
    obtain ⟨z, hz, rfl⟩ := hc
    exact m_new rel ho hz hm
  case box t x =>
    simp only [Option.map_eq_some_iff] at hc
    obtain ⟨sx, hx, rfl⟩ := hc
    exact m_box rel ho hx hm
  case buildSlice t len parts =>
    split at hc
    · split at hc
      · split at hc
        · rename_i hcc
          cases hc
          exact m_mkl rel ho (elemT_spec (by assumption)) (by assumption) (by assumption) (by assumption) hcc.1 hcc.2 hm
        · cases hc
      · cases hc
    · cases hc
  case makeSlice t l c =>
    split at hc
    · split at hc
      · split at hc
        · rename_i hcc
          cases hc
          obtain ⟨rfl, h8, h9⟩ := hcc
          exact m_mks rel ho (elemT_spec (by assumption)) (by assumption) (by assumption) (by assumption) (by assumption) (by assumption) h8 h9 hm
        · cases hc
      · cases hc
    · cases hc
  case unOp op t x =>
    cases op <;> simp only [reduceCtorEq, Option.map_eq_some_iff] at hc
    · obtain ⟨_, _, rfl⟩ := hc
      cases hm
    · obtain ⟨_, _, rfl⟩ := hc
      cases hm
  case makeFunc fn x y =>
    cases fn <;> simp only [reduceCtorEq] at hc
    split at hc
    · cases hc
      cases hm
    · cases hc
  all_goals (repeat' split at hc)
  all_goals first | (cases hc; done) | skip
  all_goals (simp only [Option.map_eq_some_iff, Option.some.injEq] at hc)
  all_goals first | (subst hc; cases hm; done) | (obtain ⟨_, _, rfl⟩ := hc; cases hm; done)

theorem aop1_sound (rel : Rel T N fr h a w) {o : Oper} {g : GOp} (hc : cop P N o = some g.o) (hd : goodD N o.dst = true) (hgd : g.d = o.dst) {K : Fr → Hp → Prop} (hK : eff1 P g fr h (fun v h' => K (updO fr g.d v) h')) {Q : Exit → Act → World → Prop} :
    o.wp P a w (St T N h w K) Q := by
  have fin : ∀ {v : AV} {h' : Hp} {r : Value} {w' : World}, K (updO fr g.d v) h' → Evo h w h' w' → HR w' h' T → V w' h' T v r → St T N h w K (a.put o.dst r) w' := by
    intro v h' r w' hK ev hr hv
    refine ⟨_, h', hK, ?_, ev⟩
    rw [hgd]
    exact (rel.mono ev hr).put hd hv
  have wok : ∀ {K' : AV → Hp → Prop}, WOk P o h T a w K' → (∀ v h', K' v h' → K (updO fr g.d v) h') → o.wp P a w (St T N h w K) Q := by
    intro K' hw hk
    obtain ⟨v, h', r, w', hrun, h1, h2, h3, h4⟩ := hw
    exact upon_value hrun (fin (hk _ _ h1) h2 h3 h4)
  unfold eff1 at hK
  split at hK
  · rename_i s x sz hgo
    rw [hgo] at hc
    obtain ⟨c, t, u, e, e2, y, z, i, zs, h1, h2, h3, h4, h5, h6, h7, h8, h9, h10, h11, h12, h13⟩ := cop_app hc
    exact wok (w_app rel h1 h2 h3 h4 h5 h6 h7 h8 h9 h10 h11 h12 h13 hK) (fun _ _ h => h)
  · rename_i s x sz hgo
    rw [hgo] at hc
    obtain ⟨c, t, u, e, y, z, h1, h2, h3, h4, h5, ⟨e2, h6⟩, h7, h8, h9⟩ := cop_cpy hc
    exact wok (w_cpy rel h1 h2 h3 h4 h5 h6 h7 h8 h9 hK) (fun _ _ h => h)
  · rename_i x v n hgo
    rw [hgo] at hc
    obtain ⟨t, y, z, h1, h2, h3, h4⟩ := cop_st hc
    obtain ⟨h', w', hrun, hK, ev, hr⟩ := w_st rel h1 h2 h3 h4 hK
    exact upon_skip hrun (fin hK.2 ev hr V.undef)
  · rename_i f xs hgo
    rw [hgo] at hc
    obtain ⟨c, gf, h1, h2, h3, h4⟩ := cop_call hc
    unfold callW at hK
    split at hK
    · exact hK.elim
    · rename_i i avs hcal
      split at hK
      · exact call_sound rel h1 h2 h3 h4 hcal hK (fun v h' r w' k1 k2 k3 k4 => fin k1 k2 k3 k4)
      · obtain ⟨r, hs, hK⟩ := hK
        refine call_sound rel h1 h2 h3 h4 hcal hs (fun v h' r' w' k1 k2 k3 k4 => ?_)
        obtain ⟨rfl, rfl⟩ := k1
        exact fin hK k2 k3 k4
      · exact call_sound rel h1 h2 h3 h4 hcal hK (fun v h' r w' k1 k2 k3 k4 => fin k1.2 k2 k3 k4)
  · split at hK
    · split at hK
      · rename_i cs mk hm
        obtain ⟨b, r, w', hrun, h1, h2, h3, h4⟩ := cop_mem rel hc hm
        exact upon_value hrun (fin (hK b h1) h2 h3 h4)
      · exact hK.elim
    · split at hK
      · rename_i v hv
        obtain ⟨r, hrun, hV⟩ := det_sound rel hc hv
        exact upon_value hrun (fin hK (Evo.refl _ _) rel.heap hV)
      · exact hK.elim

/-- An operation, with its guard. -/
theorem aop_sound (rel : Rel T N fr h a w) {ops : Array Oper} {md : FuncId → Nat} {o : Oper} {g : GOp} {g0 : GOp} (hc : cgop P N md ops o = some g0) (h1 : g.o = g0.o) (h2 : g.d = g0.d) (h3 : g.g = g0.g) {K : Fr → Hp → Prop} (hK : aop P g K fr h)
    {Q : Exit → Act → World → Prop} : if Region.wanted o (yielded ops a.tmps) then o.wp P a w (St T N h w K) Q else St T N h w K (a.put o.dst Go.undef) w := by
  unfold cgop at hc
  split at hc
  · cases hc
  rename_i so hso
  split at hc
  case isFalse => cases hc
  rename_i hd
  have skip : K (updO fr o.dst (.tup [])) h → St T N h w K (a.put o.dst Go.undef) w := fun hk => ⟨_, h, hk, rel.put hd V.undef, Evo.refl _ _⟩
  split at hc
  · rename_i hg
    cases hc
    simp only at h1 h2 h3
    unfold aop eff at hK
    rw [h3] at hK
    rw [if_pos (by simp [Region.wanted, hg])]
    exact aop1_sound rel (by rw [h1]; exact hso) hd h2 hK
  · rename_i j want hg
    split at hc
    · rename_i s hs
      split at hc
      · rename_i hlt
        cases hc
        simp only at h1 h2 h3
        obtain ⟨w1, w2⟩ := wantedOf rel hg hs hlt
        unfold aop eff at hK
        rw [h3] at hK
        simp only at hK
        split at hK
        · rename_i b hb
          rw [w1 b hb]
          split at hK
          · rename_i hbw
            subst hbw
            rw [if_pos (by simp)]
            exact aop1_sound rel (by rw [h1]; exact hso) hd h2 hK
          · rename_i hbw
            rw [if_neg (by simpa using hbw)]
            rw [h2] at hK
            exact skip hK
        · rename_i hb
          rw [w2 hb, if_neg (by simp)]
          rw [h2] at hK
          exact skip hK
        · exact hK.elim
      · cases hc
    · cases hc

end
end Go.AM
