/- The logic AM: memory that nobody writes any more. No Go program in it. -/
import Derived.Test.YtmihmgnjnedfcaaAMI
set_option linter.unusedSimpArgs false
set_option linter.unusedVariables false
namespace Go.AM
open Go

/-- Of what a value tells when the live blocks go over from h to h'. -/
inductive Frz (h h' : Hp) : AV → AV → Prop
  | id (x : AV) : Frz h h' x x
  | sl (b off len sz : Nat) (cs fs : List AV) (hb : h b = some cs) (hb' : h' b = none) (hl : off + fs.length ≤ cs.length) (hn : len * sz = fs.length)
      (hf : ∀ (j : Nat) (hj : j < fs.length) (hk : off + j < cs.length), Frz h h' cs[off + j] fs[j]) : Frz h h' (.sl b off len sz) (.fs len fs)
  | sl0 (b off sz : Nat) : Frz h h' (.sl b off 0 sz) (.fs 0 [])
  | ref (b off : Nat) (cs fs : List AV) (hb : h b = some cs) (hb' : h' b = none) (hl : off + fs.length ≤ cs.length)
      (hf : ∀ (j : Nat) (hj : j < fs.length) (hk : off + j < cs.length), Frz h h' cs[off + j] fs[j]) : Frz h h' (.ref b off) (.fp fs)
  | agg (cs fs : List AV) (hl : cs.length = fs.length) (hf : ∀ (j : Nat) (hj : j < fs.length) (hk : j < cs.length), Frz h h' cs[j] fs[j]) : Frz h h' (.agg cs) (.agg fs)
  | tup (cs fs : List AV) (hl : cs.length = fs.length) (hf : ∀ (j : Nat) (hj : j < fs.length) (hk : j < cs.length), Frz h h' cs[j] fs[j]) : Frz h h' (.tup cs) (.tup fs)

/-- What is left of the live blocks. -/
def Sub (h h' : Hp) : Prop := ∀ b cs', h' b = some cs' → ∃ cs, h b = some cs ∧ cs.length = cs'.length ∧ ∀ (j : Nat) (h1 : j < cs.length) (h2 : j < cs'.length), Frz h h' cs[j] cs'[j]

def updL : List Nat → List AV → Fr → Fr
  | s :: S, v :: vs, fr => updL S vs (upd fr s v)
  | _, _, fr => fr

def FrzL (h h' : Hp) (fr : Fr) : List Nat → List AV → Prop
  | [], [] => True
  | s :: S, v :: vs => Frz h h' (fr s) v ∧ FrzL h h' fr S vs
  | _, _ => False

/-- Here live blocks may be let go. -/
def Fz (S : List Nat) (Q : Fr → Hp → Prop) (fr : Fr) (h : Hp) : Prop := ∃ h' vs, Sub h h' ∧ FrzL h h' fr S vs ∧ Q (updL S vs fr) h'

section
variable {P : Program} {T : Nat → Prop} {N : Nat} {fr : Fr} {h h' : Hp} {a : Act} {w : World}

theorem Frz.one {x y : AV} (f : Frz h h' x y) (hx : one x = true) : one y = true := by
  cases f <;> first | exact hx | rfl

theorem Sub.none (s : Sub h h') {b : Nat} (hb : h b = none) : h' b = none := by
  cases hh : h' b with
  | none => rfl
  | some cs =>
    obtain ⟨cs0, h0, _⟩ := s b cs hh
    rw [hb] at h0
    cases h0

theorem V.sub (s : Sub h h') {x : AV} {v : Value} (hv : V w h T x v) : V w h' T x v := hv.change fun b _ hb hT => ⟨s.none hb, hT⟩

theorem Frz.V (hr : HR w h T) (s : Sub h h') {x y : AV} (f : Frz h h' x y) : ∀ {v : Value}, V w h T x v → V w h' T y v := by
  have blk : ∀ (b off : Nat) (cs fs : List AV), h b = some cs → h' b = none → off + fs.length ≤ cs.length → (∀ (j : Nat) (hj : j < fs.length) (hk : off + j < cs.length), Frz h h' cs[off + j] fs[j]) →
      (∀ (j : Nat) (hj : j < fs.length) (hk : off + j < cs.length) {v : Value}, Go.AM.V w h T cs[off + j] v → Go.AM.V w h' T fs[j] v) →
      ∃ (c : Array Value) (e : TypeId) (vs : Nat → Value), w.heap[b]? = some (.cells c e (0, 0)) ∧ ¬ T b ∧ fs.all AM.one = true ∧ (∀ j, j < fs.length → c[off + j]? = some (vs j)) ∧ ∀ (j : Nat) (hj : j < fs.length), Go.AM.V w h' T fs[j] (vs j) := by
    intro b off cs fs hb hb' hl hf ih
    obtain ⟨c, e, g1, g2, g3, g4⟩ := hr.blk b cs hb
    refine ⟨c, e, fun j => c.getD (off + j) undef, g1, fun hT => ?_, ?_, fun j hj => ?_, fun j hj => ?_⟩
    · have := (hr.held b hT).2
      rw [hb] at this
      cases this
    · rw [List.all_eq_true]
      intro y hy
      obtain ⟨j, hj, rfl⟩ := List.mem_iff_getElem.1 hy
      exact (hf j hj (by omega)).one (List.all_eq_true.1 g3 _ (List.getElem_mem _))
    · obtain ⟨v, k1, k2⟩ := g4 (off + j) (by omega)
      simp only [Array.getD_eq_getD_getElem?, k1, Option.getD_some]
    · obtain ⟨v, k1, k2⟩ := g4 (off + j) (by omega)
      have := ih j hj (by omega) k2
      simp only [Array.getD_eq_getD_getElem?, k1, Option.getD_some]
      exact this
  induction f with
  | id x => exact fun hv => hv.sub s
  | sl b off len sz cs fs hb hb' hl hn hf ih =>
    intro v hv
    obtain ⟨c, e, vs, k1, k2, k3, k4, k5⟩ := blk b off cs fs hb hb' hl hf ih
    cases hv with
    | sl _ _ _ _ cap c' e' f hb2 hc2 hl2 => exact .fs len fs b off cap c e (0, 0) vs k1 hb' k2 k3 k4 k5 hl2
    | sl0 _ _ _ ad =>
      have : fs = [] := List.eq_nil_of_length_eq_zero (by omega)
      subst this
      exact .fs0 ad 0
  | sl0 b off sz =>
    intro v hv
    cases hv with
    | sl _ _ _ _ cap c' e' f hb2 hc2 hl2 => exact .fs0 _ _
    | sl0 _ _ _ ad => exact .fs0 ad 0
  | ref b off cs fs hb hb' hl hf ih =>
    intro v hv
    obtain ⟨c, e, vs, k1, k2, k3, k4, k5⟩ := blk b off cs fs hb hb' hl hf ih
    cases hv with
    | ref _ _ hb2 => exact .fp fs b off c e (0, 0) vs k1 hb' k2 k3 k4 k5
  | agg cs fs hl hf ih =>
    intro v hv
    cases hv with
    | agg _ vs hl2 hv2 => exact .agg fs vs (by omega) fun j hj hk => ih j hj (by omega) (hv2 j (by omega) hk)
  | tup cs fs hl hf ih =>
    intro v hv
    cases hv with
    | tup _ vs hl2 hv2 => exact .tup fs vs (by omega) fun j hj hk => ih j hj (by omega) (hv2 j (by omega) hk)

theorem HR.sub (hr : HR w h T) (s : Sub h h') : HR w h' T := by
  refine ⟨fun b cs' hb => ?_, fun b hb => ⟨(hr.held b hb).1, s.none (hr.held b hb).2⟩⟩
  obtain ⟨cs, h0, hl, hf⟩ := s b cs' hb
  obtain ⟨c, e, g1, g2, g3, g4⟩ := hr.blk b cs h0
  refine ⟨c, e, g1, by omega, ?_, fun j hj => ?_⟩
  · rw [List.all_eq_true]
    intro y hy
    obtain ⟨j, hj, rfl⟩ := List.mem_iff_getElem.1 hy
    exact (hf j (by omega) hj).one (List.all_eq_true.1 g3 _ (List.getElem_mem _))
  · obtain ⟨v, k1, k2⟩ := g4 j (by omega)
    exact ⟨v, k1, (hf j (by omega) hj).V hr s k2⟩

theorem Evo.sub {h0 : Hp} {w0 : World} (ev : Evo h0 w0 h w) (s : Sub h h') : Evo h0 w0 h' w := by
  refine ⟨ev.os, ev.tape, ev.output, ev.size, ev.same, ev.shape, fun b hb => ev.dom b fun hn => hb (s.none hn)⟩

theorem updL_V {slots : Nat → Value} (hr : HR w h T) (s : Sub h h') : ∀ (S : List Nat) (vs : List AV) (fr fr0 : Fr), (∀ t, t < N → V w h T (fr0 t) (slots t)) → (∀ t, t < N → V w h' T (fr t) (slots t)) → FrzL h h' fr0 S vs → ∀ t, t < N → V w h' T (updL S vs fr t) (slots t)
  | [], [], fr, fr0, _, h2, _ => h2
  | s0 :: S, v :: vs, fr, fr0, h1, h2, hf => by
    refine updL_V hr s S vs (upd fr s0 v) fr0 h1 (fun t ht => ?_) hf.2
    simp only [upd]
    by_cases hts : t = s0
    · rw [if_pos hts, hts]
      rw [hts] at ht
      exact hf.1.V hr s (h1 s0 ht)
    · rw [if_neg hts]
      exact h2 t ht
  | [], _ :: _, _, _, _, _, hf => hf.elim
  | _ :: _, [], _, _, _, _, hf => hf.elim

theorem Rel.fz {S : List Nat} {vs : List AV} (rel : Rel T N fr h a w) (s : Sub h h') (hf : FrzL h h' fr S vs) : Rel T N (updL S vs fr) h' a w :=
  ⟨updL_V (N := N) (slots := fun t => a.tmps.getD t undef) rel.heap s S vs fr fr rel.slots (fun t ht => (rel.slots t ht).sub s) hf, rel.size, rel.defers, rel.heap.sub s⟩

/-! ### How live blocks are let go -/

theorem Sub.refl (h : Hp) : Sub h h := fun b cs hb => ⟨cs, hb, rfl, fun j _ _ => .id _⟩

theorem Sub.of {h h' : Hp} (s : ∀ b cs, h' b = some cs → h b = some cs) : Sub h h' := fun b cs hb => ⟨cs, s b cs hb, rfl, fun j _ _ => .id _⟩

theorem Frz.slk {b len sz : Nat} {cs : List AV} (hb : h b = some cs) (hb' : h' b = none) (hn : len * sz = cs.length) : Frz h h' (.sl b 0 len sz) (.fs len cs) :=
  .sl b 0 len sz cs cs hb hb' (by omega) hn fun j hj hk => by simp only [Nat.zero_add]; exact .id _

theorem Frz.refk {b : Nat} {cs : List AV} (hb : h b = some cs) (hb' : h' b = none) : Frz h h' (.ref b 0) (.fp cs) :=
  .ref b 0 cs cs hb hb' (by omega) fun j hj hk => by simp only [Nat.zero_add]; exact .id _

theorem Fz.mono {S : List Nat} {Q Q' : Fr → Hp → Prop} (hq : ∀ fr h, Q fr h → Q' fr h) (f : Fz S Q fr h) : Fz S Q' fr h :=
  let ⟨h', vs, g1, g2, g3⟩ := f
  ⟨h', vs, g1, g2, hq _ _ g3⟩

theorem Fz.skip {S : List Nat} {Q : Fr → Hp → Prop} (q : Q fr h) : Fz S Q fr h := by
  refine ⟨h, S.map fr, Sub.refl h, ?_, ?_⟩
  · induction S with
    | nil => trivial
    | cons s S ih => exact ⟨.id _, ih⟩
  · have : ∀ (S : List Nat), updL S (S.map fr) fr = fr := by
      intro S
      induction S with
      | nil => rfl
      | cons s S ih =>
        have : upd fr s (fr s) = fr := by
          funext x
          simp only [upd]
          split
          · rename_i hx; rw [hx]
          · rfl
        simp only [List.map_cons, updL, this]
        exact ih
    rw [this]
    exact q

theorem updL_keep {S : List Nat} : ∀ (vs : List AV) (fr : Fr) (s : Nat), s ∉ S → updL S vs fr s = fr s := by
  induction S with
  | nil => intro vs fr s _; cases vs <;> rfl
  | cons x S ih =>
    intro vs fr s hs
    cases vs with
    | nil => rfl
    | cons v vs =>
      simp only [updL]
      rw [ih vs _ s (fun hm => hs (List.mem_cons_of_mem _ hm))]
      have : s ≠ x := fun he => hs (by rw [he]; exact List.mem_cons_self ..)
      simp [upd, this]

/-- A contract whose end lets blocks go. -/
theorem Spec.fz {f : FuncId} {avs : List AV} {R : AV → Hp → Prop} (s : Spec P f avs h (fun v h1 => ∃ h2 v2, Sub h1 h2 ∧ Frz h1 h2 v v2 ∧ R v2 h2)) : Spec P f avs h R := by
  refine ⟨s.1, fun T w vals hr hc => (s.2 T w vals hr hc).mono fun e w' ⟨v, h1, r, g1, ⟨h2, v2, g2, g3, g4⟩, g5, g6, g7⟩ => ?_⟩
  exact ⟨v2, h2, r, g1, g4, g5.sub g2, g6.sub g2, g3.V g6 g2 g7⟩

end
end Go.AM
