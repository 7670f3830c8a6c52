/- The logic AM: an operation that leaves memory alone does on the machine what it does here. No Go program in it. -/
import Derived.Test.YtmihmgnjnedfcaaAMD
namespace Go.AM
open Go

section
variable {P : Program} {T : Nat → Prop} {N : Nat} {fr : Fr} {h : Hp} {a : Act} {w : World}

def DetOk (P : Program) (o : Oper) (h : Hp) (T : Nat → Prop) (a : Act) (w : World) (v : AV) : Prop := ∃ r, (execOp a.eval o).run P w = .ok (.value r) w ∧ V w h T v r

theorem d_move (rel : Rel T N fr h a w) {o : Oper} {x : Operand} {v : AV} (ho : o.op = .move x ∨ o.op = .assign x) {sx : SX} (hx : avx N x = some sx) (hd : det (.mv sx) fr h = some v) : DetOk P o h T a w v := by
  simp only [det, Option.some.injEq] at hd
  subst hd
  refine ⟨a.eval x, ?_, V.ev rel hx⟩
  rcases ho with ho | ho <;> simp [execOp, ho]

theorem d_pick (rel : Rel T N fr h a w) {o : Oper} {c x y : Operand} {v : AV} (ho : o.op = .pick c x y) {sc sx sy : SX} (hc : avx N c = some sc) (hx : avx N x = some sx) (hy : avx N y = some sy)
    (hd : det (.pick sc sx sy) fr h = some v) : DetOk P o h T a w v := by
  have V0 := V.ev rel hc
  simp only [det] at hd
  split at hd
  · rename_i t ht
    rw [ht] at V0
    injection hd with hd
    generalize hcv : a.eval c = cv at V0
    cases V0
    refine ⟨if t then a.eval x else a.eval y, ?_, ?_⟩
    · simp [execOp, ho, hcv, asBool]
    · subst hd
      cases t
      · exact V.ev rel hy
      · exact V.ev rel hx
  · cases hd

theorem d_ld (rel : Rel T N fr h a w) {o : Oper} {t : TypeId} {x : Operand} {v : AV} (ho : o.op = .load t x) {sx : SX} {ag : Bool} {n : Nat} (hx : avx N x = some sx) (hag : aggOf P t = some ag) (hn : sizeT P t = some n)
    (hd : det (.ld sx (if ag then n else 1) ag) fr h = some v) : DetOk P o h T a w v := by
  simp only [det, Option.bind_eq_some_iff] at hd
  obtain ⟨cs, hcs, hld⟩ := hd
  obtain ⟨b, off, hv, hl, hC⟩ := cellsAt_sound rel.heap (V.ev rel hx) hcs
  obtain ⟨r, hr, hV⟩ := load_sound (P := P) (t := t) (n := cs.length) hag (fun hag' => by rw [hag'] at hl; simp at hl; rw [hl]; exact hn) hC rfl hld
  refine ⟨r, ?_, hV⟩
  simp [execOp, ho, hv, Instr.loadAt, Instr.sureAddr, hr]

theorem d_nc (rel : Rel T N fr h a w) {o : Oper} {x : Operand} {v : AV} (ho : o.op = .nilCheck x) {sx : SX} (hx : avx N x = some sx) (hd : det (.nc sx) fr h = some v) : DetOk P o h T a w v := by
  have V0 := V.ev rel hx
  simp only [det] at hd
  generalize hxv : a.eval x = xv at V0
  split at hd
  · rename_i b off hb
    injection hd with hd
    subst hd
    rw [hb] at V0
    cases V0 with
    | ref b off hlt => exact ⟨_, by simp [execOp, ho, hxv], .ref b off hlt⟩
  · rename_i cs hcs
    injection hd with hd
    subst hd
    rw [hcs] at V0
    cases V0 with
    | fp cells b off c e f vs hb hh hT h1 hc hv => exact ⟨_, by simp [execOp, ho, hxv], .fp cs b off c e f vs hb hh hT h1 hc hv⟩
  · cases hd

theorem d_bin (rel : Rel T N fr h a w) {o : Oper} {op : BinOp} {t u : TypeId} {x y : Operand} {v : AV} (ho : o.op = .binOp op t x y u) {sx sy : SX} (hx : avx N x = some sx) (hy : avx N y = some sy)
    (hd : det (.bin op sx sy) fr h = some v) : DetOk P o h T a w v := by
  have V1 := V.ev rel hx
  have V2 := V.ev rel hy
  simp only [det] at hd
  generalize hxv : a.eval x = xv at V1
  generalize hyv : a.eval y = yv at V2
  unfold binA at hd
  split at hd
  · rename_i k m k' n h1 h2
    rw [h1] at V1
    rw [h2] at V2
    cases V1
    cases V2
    split at hd
    · rename_i hk
      subst hk
      cases op <;> simp only [Option.some.injEq, reduceCtorEq] at hd
      case quo =>
        split at hd
        · cases hd
        · rename_i hn
          injection hd with hd
          subst hd
          exact ⟨_, by simp [execOp, ho, hxv, hyv, eqGuard, binOp, Op.intDiv, hn], .base _ rfl⟩
      case rem =>
        split at hd
        · cases hd
        · rename_i hn
          injection hd with hd
          subst hd
          exact ⟨_, by simp [execOp, ho, hxv, hyv, eqGuard, binOp, Op.intDiv, hn], .base _ rfl⟩
      all_goals (subst hd; exact ⟨_, by simp [execOp, ho, hxv, hyv, eqGuard, binOp, Op.intArith, Op.intCmp, Op.intBits], .base _ rfl⟩)
    · cases hd
  · cases hd

theorem d_isnil (rel : Rel T N fr h a w) {o : Oper} {ne : Bool} {t u e : TypeId} {x y : Operand} {v : AV} (ho : o.op = .binOp (if ne then .neq else .eql) t x y u) (ht : P.underlying t = some (.slice e)) {sx : SX}
    (hx : avx N x = some sx) (hy : avx N y = some (.k .nils)) (hd : det (.isnil ne sx) fr h = some v) : DetOk P o h T a w v := by
  have V1 := V.ev rel hx
  have V2 := V.ev rel hy
  simp only [det, Option.map_eq_some_iff] at hd
  obtain ⟨r, hr, rfl⟩ := hd
  generalize hxv : a.eval x = xv at V1
  generalize hyv : a.eval y = yv at V2
  simp only [AM.ev] at V2
  cases V2
  have hs : ∀ (p : Option Addr) (l c : Nat), xv = .slice p l c → ∀ w' : World, (Op.equal t xv (.slice none 0 0)).run P w' = .ok p.isNone w' := by
    intro p l c hp w'
    subst hp
    unfold Op.equal Op.maxDepth Op.equalIn
    cases p <;> simp [run_underlying ht]
  have key : ∃ p l c, xv = .slice p l c ∧ p.isNone = r := by
    unfold isNil at hr
    split at hr
    · rename_i h1
      rw [h1] at V1
      injection hr with hr
      cases V1
      exact ⟨none, 0, 0, rfl, hr⟩
    · rename_i h1
      rw [h1] at V1
      injection hr with hr
      cases V1
      · exact ⟨_, _, _, rfl, hr⟩
      · exact ⟨_, _, _, rfl, hr⟩
    · rename_i h1
      rw [h1] at V1
      injection hr with hr
      cases V1
      · exact ⟨_, _, _, rfl, hr⟩
      · exact ⟨_, _, _, rfl, hr⟩
    · cases hr
  obtain ⟨p, l, c, hp, hpr⟩ := key
  have he := hs p l c hp
  subst hp
  refine ⟨.bool (r != ne), ?_, .base _ rfl⟩
  cases ne
  · simp only [Bool.false_eq_true, if_false] at ho
    simp [execOp, ho, hxv, hyv, eqGuard, binOp, he, hpr]
  · simp only [if_true] at ho
    simp [execOp, ho, hxv, hyv, eqGuard, binOp, he, hpr]

theorem eqsT_spec {t : TypeId} {n : Nat} (h : eqsT P t = some n) : ∃ fs : Array Field, P.underlying t = some (.struct fs) ∧ P.fieldsOf t = fs ∧ P.stoodInHeld t = false ∧ P.eqGuardType P.depth t = false ∧ eqsFields P 0 fs.toList = true ∧ fs.size = n := by
  unfold eqsT at h
  split at h
  · rename_i fs hu
    split at h
    · rename_i hc
      injection h with h
      exact ⟨fs, hu, by simp [Program.fieldsOf, hu], hc.1, hc.2.1, hc.2.2, h⟩
    · cases h
  · cases h

theorem run_eqsFields (w : World) (h : Hp) (T : Nat → Prop) (D : Nat) {us vs : Array Value} : ∀ (fs : List Field) (k : Nat) (xs ys : List AV) (r : Bool), eqsFields P k fs = true → xs.length = fs.length →
    (∀ (j : Nat) (hj : j < xs.length), ∃ u, us[k + j]? = some u ∧ V w h T xs[j] u) → (∀ (j : Nat) (hj : j < ys.length), ∃ u, vs[k + j]? = some u ∧ V w h T ys[j] u) → eqsA xs ys = some r →
    (Op.eqFields (D + 1) us vs fs).run P w = .ok r w
  | [], k, xs, ys, r, hf, hl, hu, hv, he => by
    have : xs = [] := List.eq_nil_of_length_eq_zero (by simpa using hl)
    subst this
    cases ys with
    | nil => simp only [eqsA, Option.some.injEq] at he; subst he; simp [Op.eqFields]
    | cons y ys => simp [eqsA] at he
  | f :: fs, k, xs, ys, r, hf, hl, hu, hv, he => by
    simp only [eqsFields, Bool.and_eq_true, bne_iff_ne, beq_iff_eq] at hf
    obtain ⟨⟨⟨h1, h2⟩, h3⟩, h4⟩ := hf
    split at h3
    case h_2 => cases h3
    rename_i ki hki
    unfold eqsA at he
    split at he
    · simp at hl
    · rename_i kk a xs' kk' b ys'
      split at he
      case isFalse => cases he
      rename_i hkk
      subst hkk
      simp only [Option.map_eq_some_iff] at he
      obtain ⟨r', he, rfl⟩ := he
      obtain ⟨u, g1, g2⟩ := hu 0 (by simp)
      obtain ⟨v, g3, g4⟩ := hv 0 (by simp)
      simp only [List.getElem_cons_zero, Nat.add_zero] at g1 g2 g3 g4
      cases g2
      cases g4
      have hpk : P.plainKey f.type = true := by simp [Program.plainKey, hki]
      have ih := run_eqsFields w h T D fs (k + 1) xs' ys' r' h4 (by simpa using hl)
        (fun j hj => by
          have := hu (j + 1) (by simpa using hj)
          simp only [List.getElem_cons_succ] at this
          rwa [show k + 1 + j = k + (j + 1) by omega])
        (fun j hj => by
          have := hv (j + 1) (by simpa using hj)
          simp only [List.getElem_cons_succ] at this
          rwa [show k + 1 + j = k + (j + 1) by omega]) he
      have p1 : (part f.type us f.offset).run P w = .ok (.int kk a) w := run_part_plain w hpk (by rw [h2]; exact g1)
      have p2 : (part f.type vs f.offset).run P w = .ok (.int kk b) w := run_part_plain w hpk (by rw [h2]; exact g3)
      simp only [Op.eqFields, ne_eq, h1, not_false_eq_true, if_true, Sem.run_bind, p1, p2, Result.andThen_ok, run_equalIn_int w D f.type kk ki a b hki]
      by_cases hab : a = b
      · subst hab
        simpa using ih
      · have : (a == b) = false := by simpa using hab
        simp [this]
    · cases he

theorem d_eqs (rel : Rel T N fr h a w) {o : Oper} {ne : Bool} {t u : TypeId} {x y : Operand} {v : AV} {n : Nat} (ho : o.op = .binOp (if ne then .neq else .eql) t x y u) (ht : eqsT P t = some n) {sx sy : SX}
    (hx : avx N x = some sx) (hy : avx N y = some sy) (hd : det (.eqs ne n sx sy) fr h = some v) : DetOk P o h T a w v := by
  have V1 := V.ev rel hx
  have V2 := V.ev rel hy
  obtain ⟨fs, g1, g2, g3, g4, g5, g6⟩ := eqsT_spec ht
  simp only [det] at hd
  generalize hxv : a.eval x = xv at V1
  generalize hyv : a.eval y = yv at V2
  split at hd
  · rename_i xs ys h1 h2
    rw [h1] at V1
    rw [h2] at V2
    split at hd
    case isFalse => cases hd
    rename_i hlen
    simp only [Option.map_eq_some_iff] at hd
    obtain ⟨r, hr, rfl⟩ := hd
    cases V1 with
    | agg _ us hl1 hv1 =>
      cases V2 with
      | agg _ vs hl2 hv2 =>
        have key := run_eqsFields (P := P) w h T 9998 (us := us) (vs := vs) fs.toList 0 xs ys r g5 (by simpa [g6] using hlen)
          (fun j hj => ⟨us[j]'(by omega), by simp, hv1 j hj (by omega)⟩) (fun j hj => ⟨vs[j]'(by omega), by simp, hv2 j hj (by omega)⟩) hr
        have heq : (Op.equalIn 10000 t (.agg us) (.agg vs)).run P w = .ok r w := by
          rw [run_equalIn_struct w 9999 t us vs (by rw [g2]; exact g1) g3, g2]
          exact key
        refine ⟨.bool (r != ne), ?_, .base _ rfl⟩
        cases ne
        · simp only [Bool.false_eq_true, if_false] at ho
          simp [execOp, ho, hxv, hyv, run_eqGuard_agg w _ t x y us vs g4, run_eql_struct w t us vs, heq]
        · simp only [if_true] at ho
          simp [execOp, ho, hxv, hyv, run_eqGuard_agg w _ t x y us vs g4, run_neq_struct w t us vs, heq]
  · cases hd

theorem d_not (rel : Rel T N fr h a w) {o : Oper} {t : TypeId} {x : Operand} {v : AV} (ho : o.op = .unOp .not t x) {sx : SX} (hx : avx N x = some sx) (hd : det (.not sx) fr h = some v) : DetOk P o h T a w v := by
  have V1 := V.ev rel hx
  simp only [det] at hd
  generalize hxv : a.eval x = xv at V1
  split at hd
  · rename_i b hb
    injection hd with hd
    subst hd
    rw [hb] at V1
    cases V1
    exact ⟨_, by simp [execOp, ho, hxv, Op.unary], .base _ rfl⟩
  · cases hd

theorem d_neg (rel : Rel T N fr h a w) {o : Oper} {t : TypeId} {x : Operand} {v : AV} (ho : o.op = .unOp .neg t x) {sx : SX} (hx : avx N x = some sx) (hd : det (.neg sx) fr h = some v) : DetOk P o h T a w v := by
  have V1 := V.ev rel hx
  simp only [det] at hd
  generalize hxv : a.eval x = xv at V1
  split at hd
  · rename_i k n hb
    injection hd with hd
    subst hd
    rw [hb] at V1
    cases V1
    exact ⟨_, by simp [execOp, ho, hxv, Op.unary, Op.intArith], .base _ rfl⟩
  · cases hd

theorem d_cvt (rel : Rel T N fr h a w) {o : Oper} {s d : TypeId} {x : Operand} {v : AV} (ho : o.op = .convert s d x) {k k' : IntKind} (hs : P.underlying s = some (.int k')) (hk : P.underlying d = some (.int k)) {sx : SX}
    (hx : avx N x = some sx) (hd : det (.cvt k sx) fr h = some v) : DetOk P o h T a w v := by
  have V1 := V.ev rel hx
  simp only [det] at hd
  generalize hxv : a.eval x = xv at V1
  split at hd
  · rename_i k1 n hb
    injection hd with hd
    subst hd
    rw [hb] at V1
    cases V1
    exact ⟨_, by simp [execOp, ho, hxv, Go.convert, run_underlying hs, run_underlying hk, Conv.intToInt], .base _ rfl⟩
  · cases hd

theorem d_ext (rel : Rel T N fr h a w) {o : Oper} {x : Operand} {i : Nat} {v : AV} (ho : o.op = .extract x i) {sx : SX} (hx : avx N x = some sx) (hd : det (.ext sx i) fr h = some v) : DetOk P o h T a w v := by
  have V1 := V.ev rel hx
  simp only [det] at hd
  generalize hxv : a.eval x = xv at V1
  split at hd
  · rename_i vs hb
    rw [hb] at V1
    cases V1 with
    | tup cells vs' hl hv =>
      obtain ⟨hi, he⟩ := List.getElem?_eq_some_iff.1 hd
      have hi' : i < vs'.size := by omega
      refine ⟨vs'[i], ?_, by rw [← he]; exact hv i hi hi'⟩
      simp [execOp, ho, hxv, Instr.extract, hi']
  · cases hd

theorem d_mkf (rel : Rel T N fr h a w) {o : Oper} {f : FuncId} {first cap : Array Operand} {v : AV} (ho : o.op = .makeFunc (.func f) first cap) {s1 s2 : List SX} (h1 : first.toList.mapM (avx N) = some s1)
    (h2 : cap.toList.mapM (avx N) = some s2) (hd : det (.mkf f s1 s2) fr h = some v) : DetOk P o h T a w v := by
  simp only [det, Option.some.injEq] at hd
  subst hd
  have c1 := Cov.operands rel h1
  have c2 := Cov.operands rel h2
  exact ⟨_, by simp [execOp, ho, Instr.makeFunc], .fn f _ _ _ _ c1.size c1.val c2.size c2.val⟩

theorem d_len (rel : Rel T N fr h a w) {o : Oper} {c : Call} {t e : TypeId} {x : Operand} {v : AV} (ho : o.op = .call c) (hc : c.callee = .builtin .len) (hargs : c.args.toList = [x]) (hts : c.argTypes.toList = [t])
    (ht : P.underlying t = some (.slice e)) {sx : SX} (hx : avx N x = some sx) (hd : det (.len sx) fr h = some v) : DetOk P o h T a w v := by
  have V1 := V.ev rel hx
  simp only [det, Option.map_eq_some_iff] at hd
  obtain ⟨n, hn, rfl⟩ := hd
  generalize hxv : a.eval x = xv at V1
  have ea : c.args = #[x] := by rw [← Array.toArray_toList (xs := c.args), hargs]
  have et : c.argTypes = #[t] := by rw [← Array.toArray_toList (xs := c.argTypes), hts]
  have key : ∃ p cp, xv = .slice p n cp := by
    unfold lenA at hn
    split at hn
    · rename_i h1
      rw [h1] at V1
      injection hn with hn
      subst hn
      cases V1
      exact ⟨_, _, rfl⟩
    · rename_i h1
      rw [h1] at V1
      injection hn with hn
      subst hn
      cases V1
      · exact ⟨_, _, rfl⟩
      · exact ⟨_, _, rfl⟩
    · rename_i h1
      rw [h1] at V1
      injection hn with hn
      subst hn
      cases V1
      · exact ⟨_, _, rfl⟩
      · exact ⟨_, _, rfl⟩
    · cases hn
  obtain ⟨p, cp, hp⟩ := key
  subst hp
  exact ⟨.int .i64 n, by simp [execOp, ho, resolve, hc, ea, et, hxv, invoke, builtin, Builtin.len_, run_underlying ht, goInt], .base _ rfl⟩

theorem d_min (rel : Rel T N fr h a w) {o : Oper} {c : Call} {x y : Operand} {v : AV} (ho : o.op = .call c) (hc : c.callee = .builtin .min) (hargs : c.args.toList = [x, y]) {sx sy : SX} (hx : avx N x = some sx)
    (hy : avx N y = some sy) (hd : det (.min sx sy) fr h = some v) : DetOk P o h T a w v := by
  have V1 := V.ev rel hx
  have V2 := V.ev rel hy
  simp only [det] at hd
  generalize hxv : a.eval x = xv at V1
  generalize hyv : a.eval y = yv at V2
  have ea : c.args = #[x, y] := by rw [← Array.toArray_toList (xs := c.args), hargs]
  split at hd
  · rename_i k m k' n h1 h2
    rw [h1] at V1
    rw [h2] at V2
    cases V1
    cases V2
    split at hd
    · rename_i hk
      subst hk
      injection hd with hd
      subst hd
      exact ⟨_, by simp [execOp, ho, resolve, hc, ea, hxv, hyv, invoke, builtin, Builtin.min_, Builtin.min2], .base _ rfl⟩
    · cases hd
  · cases hd

theorem d_fadr (rel : Rel T N fr h a w) {o : Oper} {t : TypeId} {f n : Nat} {fd : Field} {fs : Array Field} {x : Operand} {v : AV} (ho : o.op = .fieldAddr t x f) (ht : P.underlying t = some (.struct fs)) (hf : fs[f]? = some fd)
    (hn : sizeT P fd.type = some n) (h0 : n ≠ 0) {sx : SX} (hx : avx N x = some sx) (hd : det (.fadr sx fd.offset) fr h = some v) : DetOk P o h T a w v := by
  have V1 := V.ev rel hx
  simp only [det, fadrA] at hd
  generalize hxv : a.eval x = xv at V1
  have hrun : ∀ b off, (Instr.fieldAt t (.pointer (some ⟨b, off, none⟩)) f).run P w = .ok (.pointer (some ⟨b, off + fd.offset, none⟩)) w := by
    intro b off
    simp [Instr.fieldAt, run_underlying ht, hf, Instr.sureAddr, fieldPlace, run_sizeOf' hn, h0, addr_add]
  split at hd
  · rename_i b off hb
    injection hd with hd
    subst hd
    rw [hb] at V1
    cases V1 with
    | ref b off hlt => exact ⟨_, by simp [execOp, ho, hxv, hrun], .ref b _ hlt⟩
  · rename_i cells hcells
    injection hd with hd
    subst hd
    rw [hcells] at V1
    cases V1 with
    | fp cells b off c e g vs hb hh hT h1 hc hv =>
      refine ⟨.pointer (some ⟨b, off + fd.offset, none⟩), by simp [execOp, ho, hxv, hrun], .fp _ b (off + fd.offset) c e g (fun j => vs (fd.offset + j)) hb hh hT ?_ ?_ ?_⟩
      · rw [List.all_eq_true] at h1 ⊢
        exact fun x hx => h1 x (List.mem_of_mem_drop hx)
      · intro j hj
        rw [List.length_drop] at hj
        rw [Nat.add_assoc]
        exact hc _ (by omega)
      · intro j hj
        rw [List.length_drop] at hj
        rw [List.getElem_drop]
        exact hv _ (by omega)
  · cases hd

theorem run_index (b off : Nat) {t e : TypeId} {sz len cap : Nat} {k : IntKind} {i : Int} (ht : P.underlying t = some (.slice e)) (hs : sizeT P e = some sz) (h0 : 0 ≤ i) (h1 : i < len) :
    (Instr.indexAt t (.slice (some ⟨b, off, none⟩) len cap) (.int k i)).run P w = .ok (.pointer (some ⟨b, off + i.toNat * sz, none⟩)) w := by
  simp [Instr.indexAt, asIntOf, run_underlying ht, h0, h1, run_sizeOf' hs, addr_add]

theorem d_iadr (rel : Rel T N fr h a w) {o : Oper} {t e : TypeId} {sz : Nat} {x i : Operand} {v : AV} (ho : o.op = .indexAddr t x i) (ht : P.underlying t = some (.slice e)) (hs : sizeT P e = some sz) {sx si : SX}
    (hx : avx N x = some sx) (hi : avx N i = some si) (hd : det (.iadr sx si sz) fr h = some v) : DetOk P o h T a w v := by
  have V1 := V.ev rel hx
  have V2 := V.ev rel hi
  simp only [det, iadrA] at hd
  generalize hxv : a.eval x = xv at V1
  generalize hiv : a.eval i = iv at V2
  split at hd
  · rename_i k i hik
    rw [hik] at V2
    cases V2
    split at hd
    · rename_i b off len sz' hb
      rw [hb] at V1
      split at hd
      · rename_i hc
        obtain ⟨rfl, h0, h1⟩ := hc
        injection hd with hd
        subst hd
        cases V1 with
        | sl b off len sz cap c e f hbb hcc hl =>
          exact ⟨_, by simp [execOp, ho, hxv, hiv, run_index b off ht hs h0 h1], .ref b _ (Array.getElem?_eq_some_iff.1 hbb).1⟩
        | sl0 b off sz a => omega
      · cases hd
    · rename_i n cells hcells
      rw [hcells] at V1
      split at hd
      · rename_i hc
        obtain ⟨h0, h1⟩ := hc
        injection hd with hd
        subst hd
        cases V1 with
        | fs n cells b off cap c e f vs hb hh hT h1' hcc hv hn =>
          refine ⟨.pointer (some ⟨b, off + i.toNat * sz, none⟩), by simp [execOp, ho, hxv, hiv, run_index b off ht hs h0 h1], .fp _ b (off + i.toNat * sz) c e f (fun j => vs (i.toNat * sz + j)) hb hh hT ?_ ?_ ?_⟩
          · rw [List.all_eq_true] at h1' ⊢
            exact fun x hx => h1' x (List.mem_of_mem_drop hx)
          · intro j hj
            rw [List.length_drop] at hj
            rw [Nat.add_assoc]
            exact hcc _ (by omega)
          · intro j hj
            rw [List.length_drop] at hj
            rw [List.getElem_drop]
            exact hv _ (by omega)
        | fs0 a cap => omega
      · cases hd
    · cases hd
  · cases hd

theorem run_index_arr (b off : Nat) {t e : TypeId} {sz len : Nat} {k : IntKind} {i : Int} (ht : P.underlying t = some (.array len e)) (hs : sizeT P e = some sz) (h0 : 0 ≤ i) (h1 : i < len) :
    (Instr.indexAt t (.pointer (some ⟨b, off, none⟩)) (.int k i)).run P w = .ok (.pointer (some ⟨b, off + i.toNat * sz, none⟩)) w := by
  simp [Instr.indexAt, asIntOf, run_underlying ht, h0, h1, run_sizeOf' hs, addr_add, Instr.sureAddr]

theorem d_iarr (rel : Rel T N fr h a w) {o : Oper} {t e : TypeId} {sz len : Nat} {x i : Operand} {v : AV} (ho : o.op = .indexAddr t x i) (ht : P.underlying t = some (.array len e)) (hs : sizeT P e = some sz) {sx si : SX}
    (hx : avx N x = some sx) (hi : avx N i = some si) (hd : det (.iarr sx si len sz) fr h = some v) : DetOk P o h T a w v := by
  have V1 := V.ev rel hx
  have V2 := V.ev rel hi
  simp only [det, iarrA] at hd
  generalize hxv : a.eval x = xv at V1
  generalize hiv : a.eval i = iv at V2
  split at hd
  · rename_i k i hik
    rw [hik] at V2
    cases V2
    split at hd
    · rename_i hc
      obtain ⟨h0, h1⟩ := hc
      unfold fadrA at hd
      split at hd
      · rename_i b off hb
        injection hd with hd
        subst hd
        rw [hb] at V1
        cases V1 with
        | ref b off hlt => exact ⟨_, by simp [execOp, ho, hxv, hiv, run_index_arr b off ht hs h0 h1], .ref b _ hlt⟩
      · rename_i cells hcells
        injection hd with hd
        subst hd
        rw [hcells] at V1
        cases V1 with
        | fp cells b off c e g vs hb hh hT h1' hc hv =>
          refine ⟨.pointer (some ⟨b, off + i.toNat * sz, none⟩), by simp [execOp, ho, hxv, hiv, run_index_arr b off ht hs h0 h1], .fp _ b (off + i.toNat * sz) c e g (fun j => vs (i.toNat * sz + j)) hb hh hT ?_ ?_ ?_⟩
          · rw [List.all_eq_true] at h1' ⊢
            exact fun x hx => h1' x (List.mem_of_mem_drop hx)
          · intro j hj
            rw [List.length_drop] at hj
            rw [Nat.add_assoc]
            exact hc _ (by omega)
          · intro j hj
            rw [List.length_drop] at hj
            rw [List.getElem_drop]
            exact hv _ (by omega)
      · cases hd
    · cases hd
  · cases hd

theorem d_fld (rel : Rel T N fr h a w) {o : Oper} {t : TypeId} {f n : Nat} {ag : Bool} {fd : Field} {fs : Array Field} {x : Operand} {v : AV} (ho : o.op = .field t x f) (ht : P.underlying t = some (.struct fs)) (hf : fs[f]? = some fd)
    (hn : sizeT P fd.type = some n) (hag : aggOf P fd.type = some ag) {sx : SX} (hx : avx N x = some sx) (hd : det (.fld sx fd.offset (if ag then n else 1) ag) fr h = some v) : DetOk P o h T a w v := by
  have V1 := V.ev rel hx
  simp only [det] at hd
  generalize hxv : a.eval x = xv at V1
  split at hd
  · rename_i cs hcs
    rw [hcs] at V1
    cases V1 with
    | agg cells vs hl hv =>
      cases ag with
      | true =>
        simp only [if_true, ldv] at hd
        split at hd
        · rename_i hle
          injection hd with hd
          subst hd
          refine ⟨.agg (vs.extract fd.offset (fd.offset + n)), ?_, .agg _ _ (by simp; omega) (fun j hj hk => ?_)⟩
          · simp [execOp, ho, hxv, Instr.field, run_underlying ht, hf, asAgg, part, run_isAgg' hag, run_sizeOf' hn]
          · simp only [List.length_take, List.length_drop] at hj
            simp only [List.getElem_take, List.getElem_drop, Array.getElem_extract]
            exact hv _ (by omega) (by omega)
        · cases hd
      | false =>
        simp only [Bool.false_eq_true, if_false, ldv] at hd
        split at hd
        · rename_i hle
          have hlt : fd.offset < cs.length := by omega
          have hlt' : fd.offset < vs.size := by omega
          have e : (cs.drop fd.offset).take 1 = [cs[fd.offset]] := by
            rw [List.drop_eq_getElem_cons hlt]
            rfl
          rw [e] at hd
          simp only [Option.some.injEq] at hd
          subst hd
          refine ⟨vs[fd.offset], ?_, hv _ hlt hlt'⟩
          simp [execOp, ho, hxv, Instr.field, run_underlying ht, hf, asAgg, part, run_isAgg' hag, hlt']
        · cases hd
  · cases hd

theorem run_bound {k : IntKind} {n : Int} {y : Nat} {code : BoundsCode} (h0 : 0 ≤ n) (h1 : n ≤ y) : (Instr.sliceBound (.int k n) y code).run P w = .ok n.toNat w := by
  simp [Instr.sliceBound, asIntOf, h0, h1]

theorem natOf_V {x : AV} {v : Value} {n : Nat} (hV : V w h T x v) (hn : natOf x = some n) : ∃ k i, v = .int k i ∧ 0 ≤ i ∧ i.toNat = n := by
  unfold natOf at hn
  split at hn
  · rename_i k i
    split at hn
    · rename_i h0
      injection hn with hn
      cases hV
      exact ⟨k, i, rfl, h0, hn⟩
    · cases hn
  · cases hn

theorem d_slc (rel : Rel T N fr h a w) {o : Oper} {t e : TypeId} {sz : Nat} {x : Operand} {lo hi mx : Option Operand} {v : AV} (ho : o.op = .slice t x lo hi mx) (ht : P.underlying t = some (.slice e)) (hs : sizeT P e = some sz)
    {sx : SX} {slo shi smx : Option SX} (hx : avx N x = some sx) (hlo : optX N lo = some slo) (hhi : optX N hi = some shi) (hmx : optX N mx = some smx) (hm : ¬ (smx.isSome = true ∧ shi.isNone = true))
    (hd : det (.slc sx slo shi smx sz) fr h = some v) : DetOk P o h T a w v := by
  have V1 := V.ev rel hx
  simp only [det] at hd
  generalize hxv : a.eval x = xv at V1
  -- the bounds
  have opt : ∀ (y : Option Operand) (sy : Option SX) (d n : Nat), optX N y = some sy → bound fr sy d = some n → (y = none ∧ n = d) ∨ ∃ z k i, y = some z ∧ a.eval z = .int k i ∧ 0 ≤ i ∧ i.toNat = n := by
    intro y sy d n hy hb
    cases y with
    | none =>
      simp only [optX, Option.some.injEq] at hy
      subst hy
      simp only [bound, Option.some.injEq] at hb
      exact .inl ⟨rfl, hb.symm⟩
    | some z =>
      simp only [optX, Option.map_eq_some_iff] at hy
      obtain ⟨sz', hz, rfl⟩ := hy
      simp only [bound] at hb
      obtain ⟨k, i, h1, h2, h3⟩ := natOf_V (V.ev rel hz) hb
      exact .inr ⟨z, k, i, rfl, h1, h2, h3⟩
  -- the slice's own value
  split at hd
  case h_2 => cases hd
  rename_i n hn
  split at hd
  case h_2 => cases hd
  rename_i l g hl hg
  have hmb : ∃ m, (smx = none ∧ m = none ∨ ∃ s k, smx = some s ∧ natOf (ev fr s) = some k ∧ m = some k) ∧ slcA (ev fr sx) l g m sz = some v := by
    split at hd
    · exact ⟨none, .inl ⟨rfl, rfl⟩, hd⟩
    · rename_i s
      split at hd
      · rename_i k hk
        exact ⟨some k, .inr ⟨s, k, rfl, hk, rfl⟩, hd⟩
      · cases hd
  obtain ⟨m, hm1, hslc⟩ := hmb
  have key : ∀ (p : Option Addr) (cap : Nat), xv = .slice p n cap → l ≤ g → g ≤ n → n ≤ cap → (m = none ∨ m = some g) →
      ∃ c', (execOp a.eval o).run P w = .ok (.value (.slice (if c' = 0 then p else p.map (·.add (l * sz))) (g - l) c')) w ∧ g - l ≤ c' ∧ l + c' ≤ cap := by
    intro p cap hp hlg hgn hnc hmm
    subst hp
    have runs : ∀ (l h m : Nat), (Instr.sliceBounds true n cap (lo.map a.eval) (hi.map a.eval) (mx.map a.eval)).run P w = .ok (l, h, m) w → l ≤ m →
        (execOp a.eval o).run P w = .ok (.value (.slice (if m - l = 0 then p else p.map (·.add (l * sz))) (h - l) (m - l))) w := by
      intro l h m hr hlm
      have e1 : (if m = l then p else p.map (·.add (l * sz))) = (if m - l = 0 then p else p.map (·.add (l * sz))) := by
        by_cases hml : m = l
        · rw [if_pos hml, if_pos (by omega)]
        · rw [if_neg hml, if_neg (by omega)]
      simp [execOp, ho, hxv, Instr.sliceAt, Instr.slice, run_underlying ht, hr, run_sizeOf' hs, e1]
    rcases hm1 with ⟨hs1, hs2⟩ | ⟨s, k, hs1, hk, hs2⟩
    · -- no third index
      subst hs1
      have hmx0 : mx = none := by
        cases mx with
        | none => rfl
        | some z =>
          simp only [optX, Option.map_eq_some_iff] at hmx
          obtain ⟨_, _, h0⟩ := hmx
          cases h0
      subst hmx0
      refine ⟨cap - l, runs l g cap ?_ (by omega), by omega, by omega⟩
      rcases opt hi shi n g hhi hg with ⟨rfl, rfl⟩ | ⟨z, k, i, rfl, hz, h0, rfl⟩ <;> rcases opt lo slo 0 l hlo hl with ⟨rfl, rfl⟩ | ⟨z', k', i', rfl, hz', h0', rfl⟩
      · simp [Instr.sliceBounds]
      · simp [Instr.sliceBounds, hz', run_bound h0' (show i' ≤ (g : Nat) by omega)]
      · simp [Instr.sliceBounds, hz, run_bound h0 (show i ≤ (cap : Nat) by omega)]
      · simp [Instr.sliceBounds, hz, hz', run_bound h0 (show i ≤ (cap : Nat) by omega), run_bound h0' (show i' ≤ (i.toNat : Nat) by omega)]
    · subst hs1
      have hkg : k = g := by rcases hmm with hmm | hmm <;> rw [hs2] at hmm <;> simp at hmm; exact hmm
      subst hkg
      cases mx with
      | none => simp [optX] at hmx
      | some z3 =>
        simp only [optX, Option.map_eq_some_iff, Option.some.injEq] at hmx
        obtain ⟨s', hz3, rfl⟩ := hmx
        obtain ⟨k3, i3, hz3', h03, h3⟩ := natOf_V (V.ev rel hz3) hk
        refine ⟨k - l, runs l k k ?_ (by omega), by omega, by omega⟩
        rcases opt hi shi n k hhi hg with ⟨rfl, _⟩ | ⟨z, k1, i, rfl, hz, h0, hik⟩
        · exfalso
          apply hm
          simp only [optX, Option.some.injEq] at hhi
          subst hhi
          exact ⟨rfl, rfl⟩
        · rcases opt lo slo 0 l hlo hl with ⟨rfl, rfl⟩ | ⟨z', k', i', rfl, hz', h0', rfl⟩
          · simp [Instr.sliceBounds, hz, hz3', run_bound h03 (show i3 ≤ (cap : Nat) by omega), run_bound h0 (show i ≤ (k : Nat) by omega), h3, hik]
          · simp [Instr.sliceBounds, hz, hz', hz3', run_bound h03 (show i3 ≤ (cap : Nat) by omega), run_bound h0 (show i ≤ (k : Nat) by omega), run_bound h0' (show i' ≤ (k : Nat) by omega), h3, hik]
  unfold slcA at hslc
  split at hslc
  · rename_i hb
    rw [hb] at V1 hn
    simp only [lenA, Option.some.injEq] at hn
    split at hslc
    · rename_i hc
      obtain ⟨rfl, rfl, hc⟩ := hc
      injection hslc with hslc
      subst hslc
      cases V1
      obtain ⟨c', hrun, _, h2⟩ := key none 0 (by rw [← hn]) (Nat.le_refl _) (Nat.zero_le _) (by omega) hc
      have h0 : c' = 0 := by omega
      subst h0
      exact ⟨_, hrun, .nils⟩
    · cases hslc
  · rename_i b off len sz' hb
    rw [hb] at V1 hn
    simp only [lenA, Option.some.injEq] at hn
    subst hn
    split at hslc
    · rename_i hc
      obtain ⟨rfl, hlg, hgl, hc⟩ := hc
      injection hslc with hslc
      subst hslc
      cases V1 with
      | sl b off len sz cap c e f hbb hcc hlc =>
        obtain ⟨c', hrun, h1, h2⟩ := key (some ⟨b, off, none⟩) cap rfl hlg hgl hlc hc
        by_cases h0 : c' = 0
        · subst h0
          rw [if_pos rfl] at hrun
          have e0 : g - l = 0 := by omega
          rw [e0] at hrun ⊢
          exact ⟨_, hrun, .sl0 b _ _ _⟩
        · rw [if_neg h0] at hrun
          simp only [Option.map_some, addr_add] at hrun
          refine ⟨_, hrun, .sl b _ _ _ _ c e f hbb ?_ h1⟩
          have : l * sz' + c' * sz' ≤ cap * sz' := by rw [← Nat.add_mul]; exact Nat.mul_le_mul_right _ h2
          omega
      | sl0 b off sz p =>
        obtain ⟨c', hrun, h1, h2⟩ := key (some p) 0 rfl hlg hgl (Nat.le_refl _) hc
        have h0 : c' = 0 := by omega
        subst h0
        rw [if_pos rfl] at hrun
        have e0 : g - l = 0 := by omega
        rw [e0] at hrun ⊢
        exact ⟨_, hrun, .sl0 b _ _ _⟩
    · cases hslc
  · rename_i n' cells hb
    rw [hb] at V1 hn
    simp only [lenA, Option.some.injEq] at hn
    subst hn
    split at hslc
    · rename_i hc
      obtain ⟨hlg, hgl, hc⟩ := hc
      injection hslc with hslc
      subst hslc
      cases V1 with
      | fs n cells b off cap c e f vs hbb hh hT h1' hcc hv hnc =>
        obtain ⟨c', hrun, h1, h2⟩ := key (some ⟨b, off, none⟩) cap rfl hlg hgl hnc hc
        by_cases h0 : g - l = 0
        · rw [h0] at hrun ⊢
          simp only [Nat.zero_mul, List.take_zero]
          by_cases hc0 : c' = 0
          · rw [if_pos hc0] at hrun
            exact ⟨_, hrun, .fs0 _ _⟩
          · rw [if_neg hc0] at hrun
            exact ⟨_, hrun, .fs0 _ _⟩
        · rw [if_neg (by omega)] at hrun
          simp only [Option.map_some, addr_add] at hrun
          refine ⟨_, hrun, .fs _ _ b _ _ c e f (fun j => vs (l * sz + j)) hbb hh hT (all_drop_take h1' _ _) ?_ ?_ h1⟩
          · intro j hj
            simp only [List.length_take, List.length_drop] at hj
            rw [Nat.add_assoc]
            exact hcc _ (by omega)
          · intro j hj
            simp only [List.length_take, List.length_drop] at hj
            rw [List.getElem_take, List.getElem_drop]
            exact hv _ (by omega)
      | fs0 p cap =>
        obtain ⟨c', hrun, h1, h2⟩ := key (some p) cap rfl hlg hgl (Nat.zero_le _) hc
        have e0 : g - l = 0 := by omega
        rw [e0] at hrun ⊢
        simp only [List.drop_nil, List.take_nil]
        by_cases hc0 : c' = 0
        · rw [if_pos hc0] at hrun
          exact ⟨_, hrun, .fs0 _ _⟩
        · rw [if_neg hc0] at hrun
          exact ⟨_, hrun, .fs0 _ _⟩
    · cases hslc
  · cases hslc

theorem d_build (rel : Rel T N fr h a w) {o : Oper} {t : TypeId} {parts : Array (Nat × Operand)} {v : AV} (ho : o.op = .build t parts) {z : List AV} {pl : List (Nat × Nat)} {ps : List (Nat × SX)} {qs : List (Nat × Nat × SX)}
    (hz : zeroT P t = some z) (hpl : placesT P t = some pl) (hps : parts.toList.mapM (fun p => (avx N p.2).map fun x => (p.1, x)) = some ps) (hqs : ps.mapM (fun p => (pl[p.1]?).map fun q => (q.1, q.2, p.2)) = some qs)
    (hd : det (.build z qs) fr h = some v) : DetOk P o h T a w v := by
  simp only [det, Option.map_eq_some_iff] at hd
  obtain ⟨cs, hcs, rfl⟩ := hd
  unfold zeroT at hz
  cases hi : P.info? t with
  | none => simp [hi] at hz
  | some it =>
    cases hzz : it.zero with
    | none => simp [hi, hzz] at hz
    | some zv =>
      simp only [hi, hzz] at hz
      obtain ⟨hcov, _⟩ := Cov.consts (w := w) (h := h) (T := T) hz
      have hparts : ∀ (ls : List (Nat × Operand)) (ps : List (Nat × SX)) (qs : List (Nat × Nat × SX)), ls.mapM (fun p => (avx N p.2).map fun x => (p.1, x)) = some ps →
          ps.mapM (fun p => (pl[p.1]?).map fun q => (q.1, q.2, p.2)) = some qs →
          Parts w h T (pl.toArray[·]?) (qs.map fun (a, b, x) => (a, b, ev fr x)) (ls.map fun (i, x) => (i, a.eval x)) := by
        intro ls
        induction ls with
        | nil =>
          intro ps qs h1 h2
          simp at h1
          subst h1
          simp at h2
          subst h2
          trivial
        | cons p ls ih =>
          intro ps qs h1 h2
          simp only [List.mapM_cons, Option.bind_eq_bind, Option.pure_def, Option.bind_eq_some_iff, Option.map_eq_some_iff] at h1
          obtain ⟨_, ⟨x, hx, rfl⟩, ps', hps', he⟩ := h1
          injection he with he
          subst he
          simp only [List.mapM_cons, Option.bind_eq_bind, Option.pure_def, Option.bind_eq_some_iff, Option.map_eq_some_iff] at h2
          obtain ⟨_, ⟨q, hq, rfl⟩, qs', hqs', he⟩ := h2
          injection he with he
          subst he
          refine ⟨by simpa using hq, V.ev rel hx, ih ps' qs' hps' hqs'⟩
      obtain ⟨A, hA, hC⟩ := fill_sound _ _ _ _ _ (hparts _ _ _ hps hqs) hcov hcs
      refine ⟨.agg A, ?_, .agg _ _ hC.size hC.val⟩
      have hb : P.built t ((parts.map fun (i, x) => (i, a.eval x)).toList) = some A := by
        unfold placesT at hpl
        cases hu : P.underlying t with
        | none => simp [hu] at hpl
        | some d =>
          cases d <;> simp only [hu, reduceCtorEq] at hpl
          rename_i fs
          simp only [Program.built, hi, hu, hzz, hpl, Array.toList_map]
          exact hA
      simp [execOp, ho, run_build w t _ A hb]

theorem det_sound (rel : Rel T N fr h a w) {o : Oper} {so : SO} {v : AV} (hc : cop P N o = some so) (hd : det so fr h = some v) : DetOk P o h T a w v := by
  unfold cop at hc
  cases ho : o.op with
  | move x =>
    simp only [ho, Option.map_eq_some_iff] at hc
    obtain ⟨sx, hx, rfl⟩ := hc
    exact d_move rel (.inl ho) hx hd
  | assign x =>
    simp only [ho, Option.map_eq_some_iff] at hc
    obtain ⟨sx, hx, rfl⟩ := hc
    exact d_move rel (.inr ho) hx hd
  | pick c x y =>
    simp only [ho] at hc
    split at hc
    · rename_i h1 h2 h3
      injection hc with hc
      subst hc
      exact d_pick rel ho h1 h2 h3 hd
    · cases hc
  | load t x =>
    simp only [ho] at hc
    split at hc
    · rename_i h1 h2 h3
      injection hc with hc
      subst hc
      exact d_ld rel ho h1 h2 h3 hd
    · cases hc
  | nilCheck x =>
    simp only [ho, Option.map_eq_some_iff] at hc
    obtain ⟨sx, hx, rfl⟩ := hc
    exact d_nc rel ho hx hd
  | binOp op t x y u =>
    simp only [ho] at hc
    split at hc
    · rename_i h1 h2 h3
      injection hc with hc
      subst hc
      exact d_bin rel ho h1 h2 hd
    · rename_i h1 h2 h3
      split at hc
      · injection hc with hc
        subst hc
        exact d_isnil (ne := false) rel ho h3 h1 h2 hd
      · injection hc with hc
        subst hc
        exact d_isnil (ne := true) rel ho h3 h1 h2 hd
      · cases hc
    · rename_i h1 h2 h3
      split at hc
      · rename_i h4
        injection hc with hc
        subst hc
        exact d_eqs (ne := false) rel ho h4 h1 h2 hd
      · rename_i h4
        injection hc with hc
        subst hc
        exact d_eqs (ne := true) rel ho h4 h1 h2 hd
      · cases hc
    · cases hc
  | unOp op t x =>
    cases op <;> simp only [ho, reduceCtorEq, Option.map_eq_some_iff] at hc
    · obtain ⟨sx, hx, rfl⟩ := hc
      exact d_neg rel ho hx hd
    · obtain ⟨sx, hx, rfl⟩ := hc
      exact d_not rel ho hx hd
  | convert s d x =>
    simp only [ho] at hc
    split at hc
    · rename_i h1 h2 h3
      injection hc with hc
      subst hc
      exact d_cvt rel ho h1 h2 h3 hd
    · cases hc
  | slice t x lo hi mx =>
    simp only [ho] at hc
    split at hc
    · rename_i h1 h2 h3 h4 h5
      split at hc
      · cases hc
      · rename_i hm
        injection hc with hc
        subst hc
        obtain ⟨e, he, hs⟩ := Option.bind_eq_some_iff.1 h1
        refine d_slc rel ho (e := e) ?_ hs h2 h3 h4 h5 (by simpa using hm) hd
        unfold elemT at he
        split at he <;> simp_all
    · cases hc
  | fieldAddr t x f =>
    simp only [ho] at hc
    split at hc
    · rename_i h1 h2
      split at hc
      · rename_i h3
        split at hc
        · cases hc
        · rename_i h0
          injection hc with hc
          subst hc
          unfold fieldT at h1
          split at h1
          · rename_i hs
            exact d_fadr rel ho hs h1 h3 h0 h2 hd
          · cases h1
      · cases hc
    · cases hc
  | field t x f =>
    simp only [ho] at hc
    split at hc
    · rename_i h1 h2
      split at hc
      · rename_i h3 h4
        injection hc with hc
        subst hc
        unfold fieldT at h1
        split at h1
        · rename_i hs
          exact d_fld rel ho hs h1 h3 h4 h2 hd
        · cases h1
      · cases hc
    · cases hc
  | indexAddr t x i =>
    simp only [ho] at hc
    split at hc
    · rename_i h1 h2 h3
      simp only [Option.map_eq_some_iff] at hc
      obtain ⟨sz, hs, rfl⟩ := hc
      exact d_iadr rel ho h1 hs h2 h3 hd
    · rename_i h1 h2 h3
      simp only [Option.map_eq_some_iff] at hc
      obtain ⟨sz, hs, rfl⟩ := hc
      exact d_iarr rel ho h1 hs h2 h3 hd
    · cases hc
  | extract x i =>
    simp only [ho, Option.map_eq_some_iff] at hc
    obtain ⟨sx, hx, rfl⟩ := hc
    exact d_ext rel ho hx hd
  | build t parts =>
    simp only [ho] at hc
    split at hc
    · rename_i h1 h2 h3
      split at hc
      · rename_i h4
        injection hc with hc
        subst hc
        exact d_build rel ho h1 h2 h3 h4 hd
      · cases hc
    · cases hc
  | makeFunc fn first cap =>
    cases fn <;> simp only [ho, reduceCtorEq] at hc
    split at hc
    · rename_i h1 h2
      injection hc with hc
      subst hc
      exact d_mkf rel ho h1 h2 hd
    · cases hc
  | call c =>
    simp only [ho] at hc
    split at hc
    · rename_i hcal
      split at hc
      · rename_i hargs hts
        split at hc
        · rename_i h1 h2
          injection hc with hc
          subst hc
          unfold elemT at h1
          split at h1
          · rename_i hs
            exact d_len rel ho hcal hargs hts hs h2 hd
          · cases h1
        · cases hc
      · cases hc
    · rename_i hcal
      split at hc
      · rename_i hargs
        split at hc
        · rename_i h1 h2
          injection hc with hc
          subst hc
          exact d_min rel ho hcal hargs h1 h2 hd
        · cases hc
      · cases hc
    · split at hc
      · split at hc
        · split at hc
          · split at hc
            · injection hc with hc
              subst hc
              cases hd
            · cases hc
          · cases hc
        · cases hc
      · cases hc
    · split at hc
      · split at hc
        · split at hc
          · injection hc with hc
            subst hc
            cases hd
          · cases hc
        · cases hc
      · cases hc
    · split at hc
      · injection hc with hc
        subst hc
        cases hd
      · cases hc
    · cases hc
  | alloc t =>
    simp only [ho, Option.map_eq_some_iff] at hc
    obtain ⟨_, _, rfl⟩ := hc
    cases hd
  | box t x =>
    simp only [ho, Option.map_eq_some_iff] at hc
    obtain ⟨_, _, rfl⟩ := hc
    cases hd
  | buildSlice t n parts =>
    simp only [ho] at hc
    split at hc
    · split at hc
      · split at hc
        · injection hc with hc
          subst hc
          cases hd
        · cases hc
      · cases hc
    · cases hc
  | makeSlice t l c =>
    simp only [ho] at hc
    split at hc
    · split at hc
      · split at hc
        · injection hc with hc
          subst hc
          cases hd
        · cases hc
      · cases hc
    · cases hc
  | store t x y =>
    simp only [ho] at hc
    split at hc
    · injection hc with hc
      subst hc
      cases hd
    · cases hc
  | _ => simp [ho] at hc

end
end Go.AM
