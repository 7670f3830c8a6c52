/- The logic AM: which operations may change places, and that they may. No Go program in it. -/
import Derived.Test.YtmihmgnjnedfcaaAMI
set_option linter.unusedSimpArgs false
set_option linter.unusedVariables false
namespace Go.AM
open Go

def isLd : SO → Bool
  | .ld .. => true
  | _ => false

/-- It only adds to the live blocks, or leaves them alone. -/
def extB (o : GOp) : Bool := match cls o.o with
  | .det | .mem | .app => true
  | .call => o.md == 1 || o.md == 2
  | _ => false

def keptB (x y : GOp) : Bool := match x.o with
  | .ld (.t s) n _ => y.keep.contains (s, n)
  | _ => false

def swapOk (x y : GOp) : Bool :=
  (match x.d with
    | some d => !y.uses.contains d && (y.d != some d)
    | none => true) &&
  (match y.d with
    | some d => !x.uses.contains d
    | none => true) &&
  (match cls x.o with
    | .det => if isLd x.o then extB y || (cls y.o == .st && keptB x y) else true
    | .call => x.md == 1 && (cls y.o == .mem || cls y.o == .det || (cls y.o == .call && y.md == 1))
    | .mem => cls y.o == .mem
    | .app => cls y.o == .mem
    | _ => false)

section
variable {P : Program} {fr : Fr} {h : Hp}

theorem appW_mono {s x : AV} {sz : Nat} {K K' : AV → Hp → Prop} (hk : ∀ v h', K v h' → K' v h') (a : appW s x sz h K) : appW s x sz h K' := by
  unfold appW at *
  split at a
  · exact a.elim
  · split at a
    · obtain ⟨a1, a2, a3⟩ := a
      exact ⟨a1, fun h0 => hk _ _ (a2 h0), fun h0 b hb => hk _ _ (a3 h0 b hb)⟩
    · split at a
      · exact a.elim
      · obtain ⟨a1, a2, a3, a4, a5⟩ := a
        exact ⟨a1, a2, a3, a4, fun b hb => hk _ _ (a5 b hb)⟩
    · exact a.elim

theorem cpyW_mono {s x : AV} {K K' : AV → Hp → Prop} (hk : ∀ v h', K v h' → K' v h') (a : cpyW s x h K) : cpyW s x h K' := by
  unfold cpyW at *
  split at a
  · exact a.elim
  · split at a
    · split at a
      · exact a.elim
      · exact ⟨a.1, a.2.1, hk _ _ a.2.2⟩
    · exact a.elim

theorem stW_mono {x v : AV} {n : Nat} {K K' : Hp → Prop} (hk : ∀ h', K h' → K' h') (a : stW x v n h K) : stW x v n h K' := by
  unfold stW at *
  split
  · rename_i B off
    split
    · simp_all
    · rename_i cs hcs
      simp only [hcs] at a
      exact ⟨a.1, a.2.1, a.2.2.1, hk _ a.2.2.2⟩
  · simp_all

theorem callW_mono {md : Nat} {f : SX} {xs : List SX} {K K' : AV → Hp → Prop} (hk : ∀ v h', K v h' → K' v h') (a : callW P md fr f xs h K) : callW P md fr f xs h K' := by
  unfold callW at *
  split at a
  · exact a.elim
  · split at a
    · exact a.mono hk
    · obtain ⟨r, a1, a2⟩ := a
      exact ⟨r, a1, hk _ _ a2⟩
    · exact a.mono fun v h' hh => ⟨hh.1, hk _ _ hh.2⟩

theorem eff1_mono {o : GOp} {R R' : AV → Hp → Prop} (hk : ∀ v h', R v h' → R' v h') (a : eff1 P o fr h R) : eff1 P o fr h R' := by
  unfold eff1 at *
  split at a
  · exact appW_mono hk a
  · exact cpyW_mono hk a
  · exact stW_mono (fun h' hh => ⟨hh.1, hk _ _ hh.2⟩) a
  · exact callW_mono hk a
  · split at a
    · split at a
      · exact fun b hb => hk _ _ (a b hb)
      · exact a
    · split at a
      · exact hk _ _ a
      · exact a

theorem eff_mono {o : GOp} {R R' : AV → Hp → Prop} (hk : ∀ v h', R v h' → R' v h') (a : eff P o fr h R) : eff P o fr h R' := by
  unfold eff at *
  split at a
  · exact eff1_mono hk a
  · split at a
    · split at a
      · rename_i hbw
        rw [if_pos hbw]
        exact eff1_mono hk a
      · rename_i hbw
        rw [if_neg hbw]
        exact hk _ _ a
    · exact hk _ _ a
    · exact a

/-- Either it is passed over, or it is done. -/
theorem eff_cases {o : GOp} {R : AV → Hp → Prop} (a : eff P o fr h R) :
    (R (.tup []) h ∧ ∀ h' R', R' (.tup []) h' → eff P o fr h' R') ∨ (eff1 P o fr h R ∧ ∀ h' R', eff1 P o fr h' R' → eff P o fr h' R') := by
  cases hg : o.g with
  | none =>
    refine .inr ⟨?_, fun h' R' hh => ?_⟩
    · simpa only [eff, hg] using a
    · simpa only [eff, hg] using hh
  | some p =>
    obtain ⟨s, want⟩ := p
    unfold eff at a
    rw [hg] at a
    simp only at a
    split at a
    · rename_i b hb
      split at a
      · rename_i hbw
        refine .inr ⟨a, fun h' R' hh => ?_⟩
        unfold eff
        rw [hg]
        simp only [hb, hbw, if_true]
        exact hh
      · rename_i hbw
        refine .inl ⟨a, fun h' R' hh => ?_⟩
        unfold eff
        rw [hg]
        simp only [hb, hbw, if_false]
        exact hh
    · rename_i hb
      refine .inl ⟨a, fun h' R' hh => ?_⟩
      unfold eff
      rw [hg]
      simp only [hb]
      exact hh
    · exact a.elim

/-- An operation that leaves memory alone: its value. -/
theorem eff_det {o : GOp} (hc : cls o.o = .det) {R : AV → Hp → Prop} (a : eff P o fr h R) : ∃ v, R v h ∧ (∀ R', R' v h → eff P o fr h R') ∧ (isLd o.o = false → ∀ h' R', R' v h' → eff P o fr h' R') ∧
    (∀ h' R', Ext1 h h' → R' v h' → eff P o fr h' R') ∧ (∀ s n ag, o.o = .ld (.t s) n ag → ∀ h' R', cellsAt h' (fr s) n = cellsAt h (fr s) n → R' v h' → eff P o fr h' R') := by
  rcases eff_cases a with ⟨a1, a2⟩ | ⟨a1, a2⟩
  · exact ⟨_, a1, fun R' => a2 h R', fun _ => a2, fun h' R' _ => a2 h' R', fun _ _ _ _ h' R' _ => a2 h' R'⟩
  · have key : ∃ v, det o.o fr h = some v ∧ R v h := by
      unfold eff1 at a1
      split at a1 <;> first | (rename_i hh; rw [hh] at hc; cases hc; done) | skip
      split at a1
      · rename_i hh
        rw [hc] at hh
        cases hh
      · split at a1
        · exact ⟨_, by assumption, a1⟩
        · exact a1.elim
    obtain ⟨v, hv, hR⟩ := key
    have mk : ∀ h' R', det o.o fr h' = some v → R' v h' → eff P o fr h' R' := by
      intro h' R' hd hr
      refine a2 h' R' ?_
      unfold eff1
      split <;> first | (rename_i hh; rw [hh] at hc; cases hc; done) | skip
      rw [hc]
      simp only
      rw [hd]
      exact hr
    refine ⟨v, hR, fun R' => mk h R' hv, fun hl h' R' => mk h' R' ?_, fun h' R' he => mk h' R' ?_, fun s n ag ho h' R' hcell => mk h' R' ?_⟩
    · rw [← hv]
      cases ho : o.o <;> rw [ho] at hl <;> first | (cases hl; done) | rfl
    · rw [← hv]
      cases ho : o.o <;> try rfl
      rename_i x n ag
      rw [ho] at hv
      simp only [det] at hv ⊢
      obtain ⟨cs, hcs, _⟩ := Option.bind_eq_some_iff.1 hv
      rw [cellsAt_ext he hcs, hcs]
    · rw [ho] at hv ⊢
      simp only [det, ev] at hv ⊢
      rw [hcell]
      exact hv

theorem eff1_ext {o : GOp} (he : extB o = true) {R : AV → Hp → Prop} (a : eff1 P o fr h R) : eff1 P o fr h (fun v h' => R v h' ∧ Ext1 h h') := by
  unfold extB at he
  unfold eff1 at *
  split at a
  · rename_i s x sz hh
    unfold appW at *
    split at a
    · exact a.elim
    · split at a
      · obtain ⟨b1, b2, b3⟩ := a
        exact ⟨b1, fun h0 => ⟨b2 h0, Ext1.refl h⟩, fun h0 b hb => ⟨b3 h0 b hb, Ext1.hset _ hb⟩⟩
      · split at a
        · exact a.elim
        · rename_i cs hcs
          obtain ⟨b1, b2, b3, b4, b5⟩ := a
          refine ⟨b1, b2, b3, b4, fun b hb => ⟨b5 b hb, ?_⟩⟩
          rcases hb with rfl | hb
          · intro y ys hy
            by_cases hyb : y = b
            · subst hyb
              rw [hcs] at hy
              injection hy with hy
              subst hy
              exact ⟨_, by simp only [hset, if_true]; rfl⟩
            · exact ⟨[], by simp [hset, hyb, hy]⟩
          · exact Ext1.hset _ hb
      · exact a.elim
  · rename_i hh
    rw [hh] at he
    cases he
  · rename_i hh
    rw [hh] at he
    cases he
  · rename_i f xs hh
    rw [hh] at he
    simp only [cls, Bool.or_eq_true, beq_iff_eq] at he
    unfold callW at *
    split at a
    · exact a.elim
    · rcases he with he | he
      · rw [he] at a ⊢
        simp only at a ⊢
        obtain ⟨r, a1, a2⟩ := a
        exact ⟨r, a1, a2, Ext1.refl h⟩
      · rw [he] at a ⊢
        simp only at a ⊢
        exact a.mono fun v h' hh => ⟨hh.1, hh.2, hh.1.ext1⟩
  · split at a
    · split at a
      · exact fun b hb => ⟨a b hb, Ext1.hset _ hb⟩
      · exact a
    · split at a
      · exact ⟨a, Ext1.refl h⟩
      · exact a

theorem eff_ext {o : GOp} (he : extB o = true) {R : AV → Hp → Prop} (a : eff P o fr h R) : eff P o fr h (fun v h' => R v h' ∧ Ext1 h h') := by
  rcases eff_cases a with ⟨a1, a2⟩ | ⟨a1, a2⟩
  · exact a2 h _ ⟨a1, Ext1.refl h⟩
  · exact a2 h _ (eff1_ext he a1)

/-- An operation that makes memory. -/
theorem eff_mem {o : GOp} (hc : cls o.o = .mem) {R : AV → Hp → Prop} (a : eff P o fr h R) :
    (R (.tup []) h ∧ ∀ h' R', R' (.tup []) h' → eff P o fr h' R') ∨ ∃ (cs : List AV) (mk : Nat → AV), (∀ b, h b = none → R (mk b) (hset h b cs)) ∧ ∀ h' R', (∀ b, h' b = none → R' (mk b) (hset h' b cs)) → eff P o fr h' R' := by
  rcases eff_cases a with ha | ⟨a1, a2⟩
  · exact .inl ha
  · right
    have key : ∃ cs mk, mem o.o fr = some (cs, mk) ∧ ∀ b, h b = none → R (mk b) (hset h b cs) := by
      unfold eff1 at a1
      split at a1 <;> first | (rename_i hh; rw [hh] at hc; cases hc; done) | skip
      rw [hc] at a1
      simp only at a1
      split at a1
      · exact ⟨_, _, by assumption, a1⟩
      · exact a1.elim
    obtain ⟨cs, mk, hm, hR⟩ := key
    refine ⟨cs, mk, hR, fun h' R' hr => a2 h' R' ?_⟩
    unfold eff1
    split <;> first | (rename_i hh; rw [hh] at hc; cases hc; done) | skip
    rw [hc]
    simp only [hm]
    exact hr

theorem eff_mem_iff {o : GOp} (hc : cls o.o = .mem) : (∀ h R, eff P o fr h R ↔ R (.tup []) h) ∨ (∃ (cs : List AV) (mk : Nat → AV), ∀ h R, eff P o fr h R ↔ ∀ b, h b = none → R (mk b) (hset h b cs)) ∨ (∀ h R, ¬ eff P o fr h R) := by
  have e1 : (∃ (cs : List AV) (mk : Nat → AV), ∀ h R, eff1 P o fr h R ↔ ∀ b, h b = none → R (mk b) (hset h b cs)) ∨ (∀ h R, ¬ eff1 P o fr h R) := by
    have form : ∀ h R, eff1 P o fr h R = (match mem o.o fr with
        | some (cs, mk) => ∀ b, h b = none → R (mk b) (hset h b cs)
        | none => False) := by
      intro h R
      unfold eff1
      split <;> first | (rename_i hh; rw [hh] at hc; cases hc; done) | skip
      rw [hc]
      rfl
    cases hm : mem o.o fr with
    | none => exact .inr fun h R a => by rw [form, hm] at a; exact a
    | some p => exact .inl ⟨p.1, p.2, fun h R => by rw [form, hm]⟩
  have lift : (∀ h R, eff P o fr h R ↔ R (.tup []) h) ∨ (∀ h R, eff P o fr h R ↔ eff1 P o fr h R) ∨ (∀ h R, ¬ eff P o fr h R) := by
    cases hg : o.g with
    | none => exact .inr (.inl fun h R => by unfold eff; rw [hg])
    | some p =>
      obtain ⟨s, want⟩ := p
      have form : ∀ h R, eff P o fr h R = (match fr s with
        | .base (.bool b) => if b = want then eff1 P o fr h R else R (.tup []) h
        | .tup [] => R (.tup []) h
        | _ => False) := by
        intro h R
        unfold eff
        rw [hg]
        rfl
      by_cases h1 : ∃ b, fr s = .base (.bool b)
      · obtain ⟨b, hb⟩ := h1
        by_cases hbw : b = want
        · exact .inr (.inl fun h R => by rw [form, hb]; simp only [hbw, if_true])
        · exact .inl fun h R => by rw [form, hb]; simp only [hbw, if_false]
      · by_cases h2 : fr s = .tup []
        · exact .inl fun h R => by rw [form, h2]
        · refine .inr (.inr fun h R a => ?_)
          rw [form] at a
          split at a
          · rename_i b hb
            exact h1 ⟨b, hb⟩
          · rename_i hb
            exact h2 hb
          · exact a
  rcases lift with l | l | l
  · exact .inl l
  · rcases e1 with ⟨cs, mk, e⟩ | e
    · exact .inr (.inl ⟨cs, mk, fun h R => (l h R).trans (e h R)⟩)
    · exact .inr (.inr fun h R a => e h R ((l h R).1 a))
  · exact .inr (.inr l)

/-- There are always fresh blocks. -/
def Fin (h : Hp) : Prop := ∃ n, ∀ b, n ≤ b → h b = none

theorem Fin.fresh {h : Hp} (f : Fin h) : ∃ b, h b = none := let ⟨n, hn⟩ := f; ⟨n, hn n (Nat.le_refl n)⟩

theorem Fin.hset {h : Hp} (f : Fin h) (b : Nat) (cs : List AV) : Fin (hset h b cs) := by
  obtain ⟨n, hn⟩ := f
  refine ⟨max n (b + 1), fun x hx => ?_⟩
  have h1 : n ≤ x := Nat.le_trans (Nat.le_max_left _ _) hx
  have h2 : b + 1 ≤ x := Nat.le_trans (Nat.le_max_right _ _) hx
  simp [AM.hset, show x ≠ b by omega, hn x h1]

theorem HR.fin {w : World} {T : Nat → Prop} (hr : HR w h T) : Fin h := by
  refine ⟨w.heap.size, fun b hb => ?_⟩
  cases hh : h b with
  | none => rfl
  | some cs => exact absurd (hr.lt hh) (by omega)

theorem Spec.fin {f : FuncId} {avs : List AV} {R : AV → Hp → Prop} (s : Spec P f avs h R) : Spec P f avs h (fun v h' => R v h' ∧ Fin h') :=
  ⟨s.1, fun T w vals hr hc => (s.2 T w vals hr hc).mono fun e w' ⟨v, h', r, g1, g2, g3, g4, g5⟩ => ⟨v, h', r, g1, ⟨g2, g4.fin⟩, g3, g4, g5⟩⟩

theorem eff_fin {o : GOp} (f : Fin h) {R : AV → Hp → Prop} (a : eff P o fr h R) : eff P o fr h (fun v h' => R v h' ∧ Fin h') := by
  rcases eff_cases a with ⟨a1, a2⟩ | ⟨a1, a2⟩
  · exact a2 h _ ⟨a1, f⟩
  · refine a2 h _ ?_
    unfold eff1 at *
    split at a1
    · unfold appW at *
      split at a1
      · exact a1.elim
      · split at a1
        · obtain ⟨b1, b2, b3⟩ := a1
          exact ⟨b1, fun h0 => ⟨b2 h0, f⟩, fun h0 b hb => ⟨b3 h0 b hb, f.hset _ _⟩⟩
        · split at a1
          · exact a1.elim
          · obtain ⟨b1, b2, b3, b4, b5⟩ := a1
            exact ⟨b1, b2, b3, b4, fun b hb => ⟨b5 b hb, f.hset _ _⟩⟩
        · exact a1.elim
    · unfold cpyW at *
      split at a1
      · exact a1.elim
      · split at a1
        · split at a1
          · exact a1.elim
          · exact ⟨a1.1, a1.2.1, a1.2.2, f.hset _ _⟩
        · exact a1.elim
    · unfold stW at *
      split at a1
      · split at a1
        · exact a1.elim
        · exact ⟨a1.1, a1.2.1, a1.2.2.1, a1.2.2.2.1, a1.2.2.2.2, f.hset _ _⟩
      · exact a1.elim
    · unfold callW at *
      split at a1
      · exact a1.elim
      · split at a1
        · exact a1.fin
        · obtain ⟨r, b1, b2⟩ := a1
          exact ⟨r, b1, b2, f⟩
        · exact a1.fin.mono fun v h' hh => ⟨hh.1.1, hh.1.2, hh.2⟩
    · split at a1
      · split at a1
        · exact fun b hb => ⟨a1 b hb, f.hset _ _⟩
        · exact a1
      · split at a1
        · exact ⟨a1, f⟩
        · exact a1

theorem eff_call1 {o : GOp} (hc : cls o.o = .call) (hm : o.md = 1) {R : AV → Hp → Prop} (a : eff P o fr h R) : ∃ r, R r h ∧ (∀ R', R' r h → eff P o fr h R') ∧ (∀ b cs, h b = none → ∀ R', R' r (hset h b cs) → eff P o fr (hset h b cs) R') := by
  rcases eff_cases a with ⟨a1, a2⟩ | ⟨a1, a2⟩
  · exact ⟨_, a1, fun R' => a2 h R', fun b cs _ R' => a2 _ R'⟩
  · cases ho : o.o <;> rw [ho] at hc <;> try cases hc
    rename_i f xs
    have e1 : ∀ h' R', callW P 1 fr f xs h' R' → eff1 P o fr h' R' := by
      intro h' R' hh
      unfold eff1
      rw [ho]
      simp only [hm]
      exact hh
    have a1' : callW P 1 fr f xs h R := by
      unfold eff1 at a1
      rw [ho] at a1
      simp only [hm] at a1
      exact a1
    unfold callW at a1'
    split at a1'
    · exact a1'.elim
    · rename_i i avs hcal
      simp only at a1'
      obtain ⟨r, s, hR⟩ := a1'
      refine ⟨r, hR, fun R' hr => a2 h R' (e1 h R' ?_), fun b cs hb R' hr => a2 _ R' (e1 _ R' ?_)⟩
      · unfold callW
        rw [hcal]
        exact ⟨r, s, hr⟩
      · unfold callW
        rw [hcal]
        refine ⟨r, (s.frame hb cs).mono fun v h'' hh => ?_, hr⟩
        obtain ⟨h', ⟨k1, k2⟩, k3, k4⟩ := hh
        exact ⟨k1, by rw [k4, k2]⟩

/-- The two may change places. -/
theorem eff_swap {x y : GOp} (hs : swapOk x y = true) (fin : Fin h) {R : AV → AV → Hp → Prop} (a : eff P x fr h (fun v h' => eff P y fr h' (fun u h'' => R v u h''))) : eff P y fr h (fun u h' => eff P x fr h' (fun v h'' => R v u h'')) := by
  unfold swapOk at hs
  simp only [Bool.and_eq_true] at hs
  have hs := hs.2
  split at hs
  · -- x leaves memory alone
    rename_i hx
    obtain ⟨v, a1, _, a3, a4, a5⟩ := eff_det hx a
    split at hs
    · rename_i hl
      simp only [Bool.or_eq_true, Bool.and_eq_true, beq_iff_eq] at hs
      rcases hs with hs | ⟨hst, hk⟩
      · exact eff_mono (fun u h' hh => a4 h' _ hh.2 hh.1) (eff_ext hs a1)
      · -- a read behind a store
        have strong : eff P y fr h (fun u h' => R v u h' ∧ (h' = h ∨ keeps fr h h' y.keep)) := by
          rcases eff_cases a1 with ⟨b1, b2⟩ | ⟨b1, b2⟩
          · exact b2 h _ ⟨b1, .inl rfl⟩
          · refine b2 h _ ?_
            cases hy : y.o <;> rw [hy] at hst <;> try cases hst
            unfold eff1 at *
            rw [hy] at b1 ⊢
            exact stW_mono (fun h' hh => ⟨hh.1, hh.2, .inr hh.1⟩) b1
        refine eff_mono (fun u h' hh => ?_) strong
        rcases hh with ⟨hR, rfl | hkeep⟩
        · exact a4 _ _ (Ext1.refl _) hR
        · -- the same value is read
          unfold keptB at hk
          split at hk
          · rename_i s n ag ho
            have hmem : ∀ (l : List (Nat × Nat)), keeps fr h h' l → l.contains (s, n) = true → cellsAt h' (fr s) n = cellsAt h (fr s) n := by
              intro l
              induction l with
              | nil => intro _ hc; cases hc
              | cons p r ih =>
                intro hkk hc
                obtain ⟨s', n'⟩ := p
                simp only [List.contains_cons, Bool.or_eq_true, beq_iff_eq, Prod.mk.injEq] at hc
                rcases hc with ⟨rfl, rfl⟩ | hc
                · exact hkk.1
                · exact ih hkk.2 hc
            exact a5 s n ag ho h' _ (hmem _ hkeep hk) hR
          · cases hk
    · rename_i hl
      exact eff_mono (fun u h' hh => a3 (by simpa using hl) h' _ hh) a1
  · -- x is a call that leaves the live blocks alone
    rename_i hx
    simp only [Bool.and_eq_true, Bool.or_eq_true, beq_iff_eq] at hs
    obtain ⟨hm, hy⟩ := hs
    obtain ⟨r, a1, a2, a3⟩ := eff_call1 hx hm a
    rcases hy with (hy | hy) | ⟨hy, hym⟩
    · rcases eff_mem hy a1 with ⟨b1, b2⟩ | ⟨cs, mk, b1, b2⟩
      · exact b2 h _ (a2 _ b1)
      · exact b2 h _ fun b hb => a3 b cs hb _ (b1 b hb)
    · obtain ⟨u, b1, b2, _, _, _⟩ := eff_det hy a1
      exact b2 _ (a2 _ b1)
    · obtain ⟨u, b1, b2, _⟩ := eff_call1 hy hym a1
      exact b2 _ (a2 _ b1)
  · rename_i hx
    simp only [beq_iff_eq] at hs
    rcases eff_mem_iff (P := P) (fr := fr) hx with e | ⟨cs, mk, e⟩ | e
    · rw [e] at a
      exact eff_mono (fun u h' hh => (e _ _).2 hh) a
    · rw [e] at a
      rcases eff_mem_iff (P := P) (fr := fr) hs with e' | ⟨cs', mk', e'⟩ | e'
      · rw [e', e]
        exact fun b hb => (e' _ _).1 (a b hb)
      · rw [e']
        intro b' hb'
        rw [e]
        intro b hb
        have hne : b ≠ b' := fun he => by subst he; simp [hset] at hb
        have hb0 : h b = none := by simpa [hset, hne] using hb
        have := (e' _ _).1 (a b hb0) b' (by simp [hset, Ne.symm hne, hb'])
        rw [hset_comm (Ne.symm hne)]
        exact this
      · obtain ⟨b, hb⟩ := fin.fresh
        exact absurd (a b hb) (e' _ _)
    · exact absurd a (e _ _)
  · rename_i hx
    simp only [beq_iff_eq] at hs
    rcases eff_mem_iff (P := P) (fr := fr) hs with e | ⟨cs, mk, e⟩ | e
    · rw [e]
      exact eff_mono (fun v h' hh => (e _ _).1 hh) a
    · rw [e]
      intro b hb
      have a' : eff P x fr h (fun v h' => ∀ b, h' b = none → R v (mk b) (hset h' b cs)) := eff_mono (fun v h' hh => (e _ _).1 hh) a
      rcases eff_cases a' with ⟨a1, a2⟩ | ⟨a1, a2⟩
      · exact a2 _ _ (a1 b hb)
      · refine a2 _ _ ?_
        cases ho : x.o <;> rw [ho] at hx <;> try cases hx
        rename_i s y sz
        unfold eff1 at *
        rw [ho] at a1 ⊢
        simp only at a1 ⊢
        unfold appW at *
        split at a1
        · exact a1.elim
        · rename_i m xs hr
          rw [readS_ext (Ext1.hset cs hb) hr]
          simp only
          split at a1
          · rename_i hsn
            obtain ⟨b1, b2, b3⟩ := a1
            refine ⟨b1, fun h0 => b2 h0 b hb, fun h0 b' hb' => ?_⟩
            have hne : b' ≠ b := fun he => by subst he; simp [hset] at hb'
            have hb0 : h b' = none := by simpa [hset, hne] using hb'
            have := b3 h0 b' hb0 b (by simp [hset, Ne.symm hne, hb])
            rw [hset_comm (Ne.symm hne)]
            exact this
          · rename_i B off len sz' hsn
            split at a1
            · exact a1.elim
            · rename_i cs0 hcs0
              obtain ⟨b1, b2, b3, b4, b5⟩ := a1
              have hBb : B ≠ b := fun he => by rw [he, hb] at hcs0; cases hcs0
              have hcs1 : hset h b cs B = some cs0 := by simp [hset, hBb, hcs0]
              rw [hcs1]
              refine ⟨b1, b2, b3, b4, fun b' hb' => ?_⟩
              have hne : b' ≠ b := by
                rcases hb' with rfl | hb'
                · exact hBb
                · intro he
                  subst he
                  simp [hset] at hb'
              have hb0 : b' = B ∨ h b' = none := by
                rcases hb' with hb' | hb'
                · exact .inl hb'
                · exact .inr (by simpa [hset, hne] using hb')
              have := b5 b' hb0 b (by simp [hset, Ne.symm hne, hb])
              rw [hset_comm (Ne.symm hne)]
              exact this
          · exact a1.elim
    · exfalso
      have a' : eff P x fr h (fun _ _ => False) := eff_mono (fun v h' hh => e _ _ hh) a
      rcases eff_cases a' with ⟨a1, _⟩ | ⟨a1, _⟩
      · exact a1
      · cases ho : x.o <;> rw [ho] at hx <;> try cases hx
        unfold eff1 at a1
        rw [ho] at a1
        simp only at a1
        unfold appW at a1
        split at a1
        · exact a1
        · split at a1
          · obtain ⟨b1, b2, b3⟩ := a1
            obtain ⟨b, hb⟩ := fin.fresh
            refine b3 ?_ b hb
            exact b2
          · split at a1
            · exact a1
            · exact a1.2.2.2.2 _ (.inl rfl)
          · exact a1
  · cases hs

end
end Go.AM
