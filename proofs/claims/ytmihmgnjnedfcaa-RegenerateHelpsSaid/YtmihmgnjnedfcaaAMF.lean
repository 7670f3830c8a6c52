/- The logic AM: operations that make or write memory do on the machine what they do here. No Go program in it. -/
import Derived.Test.YtmihmgnjnedfcaaAME
import Derived.IntWalk
set_option linter.unusedSimpArgs false
namespace Go.AM
open Go

section
variable {P : Program} {T : Nat → Prop} {N : Nat} {fr : Fr} {h : Hp} {a : Act} {w : World}

theorem HR.lt (hr : HR w h T) {b : Nat} {cs : List AV} (hb : h b = some cs) : b < w.heap.size := by
  obtain ⟨c, e, hw, _⟩ := hr.blk b cs hb
  exact (Array.getElem?_eq_some_iff.1 hw).1

theorem HR.fresh (hr : HR w h T) : h w.heap.size = none := by
  cases hh : h w.heap.size with
  | none => rfl
  | some cs => exact absurd (hr.lt hh) (Nat.lt_irrefl _)

/-- A new block. -/
theorem alloc_ok (hr : HR w h T) {w1 : World} (h1w : w1.heap = w.heap) (hos : w1.os = w.os) (htape : w1.tape = w.tape) (hout : w1.output = w.output) {cs : List AV} {c : Array Value} (e : TypeId) (hl : cs.length ≤ c.size)
    (h1 : cs.all one = true) (hv : ∀ (j : Nat) (hj : j < cs.length), ∃ v, c[j]? = some v ∧ V w h T cs[j] v) :
    Evo h w (hset h w.heap.size cs) (w1.alloc (.cells c e)) ∧ HR (w1.alloc (.cells c e)) (hset h w.heap.size cs) T := by
  have hheap : (w1.alloc (.cells c e)).heap = w.heap.push (.cells c e) := by simp [World.alloc, h1w]
  have old : ∀ i, i < w.heap.size → (w1.alloc (.cells c e)).heap[i]? = w.heap[i]? := by
    intro i hi
    rw [hheap, Array.getElem?_push]
    rw [if_neg (by omega)]
  have hev : Evo h w (hset h w.heap.size cs) (w1.alloc (.cells c e)) := by
    refine ⟨hos, htape, hout, by rw [hheap]; simp, fun i hi _ => old i hi, fun i c' e' f hi => ⟨c', ?_, rfl⟩, fun b hb => ?_⟩
    · rw [old i (Array.getElem?_eq_some_iff.1 hi).1]; exact hi
    · by_cases hbs : b = w.heap.size
      · exact .inr (by omega)
      · simp only [hset, hbs, if_false] at hb
        exact .inl hb
  refine ⟨hev, fun b cs' hb => ?_, hr.heldMono hev⟩
  by_cases hbs : b = w.heap.size
  · subst hbs
    simp only [hset, if_true, Option.some.injEq] at hb
    subst hb
    refine ⟨c, e, by rw [hheap]; simp, hl, h1, fun j hj => ?_⟩
    obtain ⟨v, g1, g2⟩ := hv j hj
    exact ⟨v, g1, g2.mono hev⟩
  · simp only [hset, hbs, if_false] at hb
    obtain ⟨c', e', g1, g2, g3, g4⟩ := hr.blk b cs' hb
    refine ⟨c', e', by rw [old b (hr.lt hb)]; exact g1, g2, g3, fun j hj => ?_⟩
    obtain ⟨v, k1, k2⟩ := g4 j hj
    exact ⟨v, k1, k2.mono hev⟩

/-- A live block is written. -/
theorem write_ok (hr : HR w h T) {b : Nat} {cs cs' : List AV} {c c' : Array Value} {e : TypeId} (hb : h b = some cs) (hw : w.heap[b]? = some (.cells c e (0, 0))) (hs : c'.size = c.size) (hl : cs'.length ≤ c'.size)
    (h1 : cs'.all one = true) (hv : ∀ (j : Nat) (hj : j < cs'.length), ∃ v, c'[j]? = some v ∧ V w h T cs'[j] v) : Evo h w (hset h b cs') (w.setRow b c') ∧ HR (w.setRow b c') (hset h b cs') T := by
  have hnew : (w.setRow b c').heap[b]? = some (.cells c' e (0, 0)) := setRow_heap w b c c' e (0, 0) hw
  have hev : Evo h w (hset h b cs') (w.setRow b c') := by
    refine ⟨rfl, rfl, rfl, by simp, fun i hi hn => setRow_other w b i c' (fun he => by subst he; rw [hb] at hn; cases hn), fun i c1 e1 f1 hi => ?_, fun x hx => ?_⟩
    · by_cases hib : i = b
      · subst hib
        rw [hw] at hi
        injection hi with hi
        injection hi with g1 g2 g3
        subst g1 g2 g3
        exact ⟨c', hnew, hs⟩
      · exact ⟨c1, by rw [setRow_other w b i c' hib]; exact hi, rfl⟩
    · by_cases hxb : x = b
      · subst hxb
        exact .inl (by rw [hb]; simp)
      · simp only [hset, hxb, if_false] at hx
        exact .inl hx
  refine ⟨hev, fun x xs hx => ?_, hr.heldMono hev⟩
  by_cases hxb : x = b
  · subst hxb
    simp only [hset, if_true, Option.some.injEq] at hx
    subst hx
    refine ⟨c', e, hnew, hl, h1, fun j hj => ?_⟩
    obtain ⟨v, g1, g2⟩ := hv j hj
    exact ⟨v, g1, g2.mono hev⟩
  · simp only [hset, hxb, if_false] at hx
    obtain ⟨c1, e1, g1, g2, g3, g4⟩ := hr.blk x xs hx
    refine ⟨c1, e1, by rw [setRow_other w b x c' hxb]; exact g1, g2, g3, fun j hj => ?_⟩
    obtain ⟨v, k1, k2⟩ := g4 j hj
    exact ⟨v, k1, k2.mono hev⟩

/-- What an operation that makes memory does. -/
def MemOk (P : Program) (o : Oper) (h : Hp) (T : Nat → Prop) (a : Act) (w : World) (cs : List AV) (mk : Nat → AV) : Prop :=
  ∃ b r w', (execOp a.eval o).run P w = .ok (.value r) w' ∧ h b = none ∧ Evo h w (hset h b cs) w' ∧ HR w' (hset h b cs) T ∧ V w' (hset h b cs) T (mk b) r

theorem Cov.get {cs : List AV} {A : Array Value} (hc : Cov w h T cs A) : ∀ (j : Nat) (hj : j < cs.length), ∃ v, A[j]? = some v ∧ V w h T cs[j] v := by
  intro j hj
  have hk : j < A.size := by rw [hc.size]; exact hj
  exact ⟨A[j], by simp [hk], hc.val j hj hk⟩

theorem V.newref {w : World} {h : Hp} {T : Nat → Prop} {b : Nat} (hb : b < w.heap.size) : V w h T (.ref b 0) (.pointer (some ⟨b, 0, none⟩)) := .ref b 0 hb

theorem mem_of_cells (rel : Rel T N fr h a w) {o : Oper} {cs : List AV} {c : Array Value} {e : TypeId} (hC : Cov w h T cs c) (h1 : cs.all one = true)
    (hrun : (execOp a.eval o).run P w = .ok (.value (.pointer (some ⟨w.heap.size, 0, none⟩))) (w.alloc (.cells c e))) : MemOk P o h T a w cs (fun b => .ref b 0) := by
  obtain ⟨ev, hr'⟩ := alloc_ok rel.heap rfl rfl rfl rfl e (Nat.le_of_eq hC.size.symm) h1 hC.get
  exact ⟨w.heap.size, _, _, hrun, rel.heap.fresh, ev, hr', V.newref (hr'.lt (cs := cs) (by simp [hset]))⟩

theorem mem_of_row (rel : Rel T N fr h a w) {o : Oper} {len sz : Nat} {cs : List AV} {c : Array Value} {e : TypeId} (hC : Cov w h T cs c) (h1 : cs.all one = true) (hlen : len * sz ≤ cs.length)
    (hrun : (execOp a.eval o).run P w = .ok (.value (.slice (some ⟨w.heap.size, 0, none⟩) len len)) (w.alloc (.cells c e))) : MemOk P o h T a w cs (fun b => .sl b 0 len sz) := by
  obtain ⟨ev, hr'⟩ := alloc_ok rel.heap rfl rfl rfl rfl e (Nat.le_of_eq hC.size.symm) h1 hC.get
  refine ⟨w.heap.size, _, _, hrun, rel.heap.fresh, ev, hr', .sl _ 0 len sz len c e (0, 0) ?_ (by rw [hC.size]; omega) (Nat.le_refl _)⟩
  show (w.heap.push (.cells c e))[w.heap.size]? = _
  simp

theorem zeroT_spec {t : TypeId} {z : List AV} (hz : zeroT P t = some z) : ∃ i zv, P.info? t = some i ∧ i.zero = some zv ∧ zv.cells.toList.mapM avc = some z := by
  unfold zeroT at hz
  split at hz
  · rename_i i hi
    split at hz
    · rename_i zv hzv
      exact ⟨i, zv, hi, hzv, hz⟩
    · cases hz
  · cases hz

theorem m_new (rel : Rel T N fr h a w) {o : Oper} {t : TypeId} (ho : o.op = .alloc t) {cs0 : List AV} (hz : zeroT P t = some cs0) {cs : List AV} {mk : Nat → AV} (hm : mem (.new cs0) fr = some (cs, mk)) : MemOk P o h T a w cs mk := by
  simp only [mem] at hm
  split at hm
  · rename_i h1
    injection hm with hm
    injection hm with g1 g2
    subst g1 g2
    obtain ⟨i, zv, hi, hzv, hmm⟩ := zeroT_spec hz
    obtain ⟨hC, _⟩ := Cov.consts (w := w) (h := h) (T := T) hmm
    refine mem_of_cells (e := t) rel hC h1 ?_
    simp [execOp, ho, Instr.alloc, zeroValue, typeInfo, hi, hzv, newVar, newRow]
  · cases hm

theorem m_box (rel : Rel T N fr h a w) {o : Oper} {t : TypeId} {x : Operand} (ho : o.op = .box t x) {sx : SX} (hx : avx N x = some sx) {cs : List AV} {mk : Nat → AV} (hm : mem (.box sx) fr = some (cs, mk)) : MemOk P o h T a w cs mk := by
  simp only [mem] at hm
  split at hm
  · rename_i h1
    injection hm with hm
    injection hm with g1 g2
    subst g1 g2
    obtain ⟨k1, k2⟩ := V.cells (V.ev rel hx)
    refine mem_of_cells (e := t) rel ⟨k1, k2⟩ h1 ?_
    simp [execOp, ho, Instr.box, newVar, newRow]
  · cases hm

theorem zeros_length (n : Nat) (z : List AV) : (zeros n z).length = n * z.length := by simp [zeros]

theorem zeros_get {n : Nat} {z : List AV} {j : Nat} (hj : j < n * z.length) : (zeros n z)[j]? = z[j % z.length]? := by
  induction n generalizing j with
  | zero => omega
  | succ n ih =>
    simp only [zeros, List.replicate_succ, List.flatten_cons] at ih ⊢
    by_cases hlt : j < z.length
    · rw [List.getElem?_append_left hlt, Nat.mod_eq_of_lt hlt]
    · rw [List.getElem?_append_right (by omega), ih (by rw [Nat.succ_mul] at hj; omega)]
      congr 1
      rw [← Nat.mod_eq_sub_mod (by omega)]

theorem Cov.zeros {z : List AV} {A : Array Value} (hC : Cov w h T z A) (n : Nat) (c : Array Value) (hc : c = (Array.range (n * z.length)).map (A[· % A.size]!)) : Cov w h T (AM.zeros n z) c := by
  refine ⟨by simp [hc, zeros_length], fun j hj hk => ?_⟩
  rw [zeros_length] at hj
  have hz0 : 0 < z.length := by
    rcases Nat.eq_zero_or_pos z.length with h0 | h0
    · rw [h0] at hj; omega
    · exact h0
  have hm : j % z.length < z.length := Nat.mod_lt _ hz0
  have g := zeros_get hj
  rw [List.getElem?_eq_getElem (by rw [zeros_length]; exact hj), List.getElem?_eq_getElem hm] at g
  injection g with g
  rw [g]
  have hm' : j % A.size < A.size := by rw [hC.size]; exact hm
  have e : c[j] = A[j % A.size] := by
    subst hc
    simp only [Array.getElem_map, Array.getElem_range]
    rw [getElem!_pos A (j % A.size) hm']
  rw [e]
  simp only [hC.size]
  exact hC.val _ hm (by rw [hC.size]; exact hm)

theorem all_zeros {n : Nat} {z : List AV} (h1 : z.all one = true) : (zeros n z).all one = true := by
  rw [List.all_eq_true] at h1 ⊢
  intro x hx
  simp only [zeros, List.mem_flatten, List.mem_replicate] at hx
  obtain ⟨l, ⟨_, rfl⟩, hx⟩ := hx
  exact h1 x hx

theorem sizeT_spec {t : TypeId} {n : Nat} (hs : sizeT P t = some n) : ∃ i, P.info? t = some i ∧ i.size = n := by
  simpa [sizeT] using hs

theorem run_makeSlice' (w : World) (t e : TypeId) (i : TypeInfo) (z : Value) (ht : P.underlying t = some (.slice e)) (hi : P.info? e = some i) (hz : i.zero = some z) (n : Int) (h0 : 0 ≤ n) (h1 : n ≤ 4294967296) (hby : i.bytes ≤ 4096) :
    (Instr.makeSlice t (.int .i64 n) (.int .i64 n)).run P w = .ok (.slice (some ⟨w.heap.size, 0, none⟩) n.toNat n.toNat) (w.alloc (.cells ((Array.range (n.toNat * i.size)).map (z.cells[· % z.cells.size]!)) e)) := by
  have hb : (i.bytes : Int) * n ≤ 281474976710656 := by
    have g1 : (i.bytes : Int) * n ≤ 4096 * n := Int.mul_le_mul_of_nonneg_right (by omega) h0
    omega
  have wn : IntKind.i64.wrap n = n := by
    exact IntWalk.i64_in n (by omega)
  have n1 : ¬ n < 0 := by omega
  have n2 : ¬ (281474976710656 < (i.bytes : Int) * n) := by omega
  by_cases hn : n.toNat * i.size = 0
  · simp [Instr.makeSlice, run_underlying ht, asInt, asIntOf, typeInfo, hi, sizeOf, wn, n1, n2, hn, newRow, Array.range_zero']
  · simp [Instr.makeSlice, run_underlying ht, asInt, asIntOf, typeInfo, hi, sizeOf, zeroValue, hz, wn, n1, n2, hn, newRow]

theorem m_mks (rel : Rel T N fr h a w) {o : Oper} {t e : TypeId} {x : Nat} {lx cx : Operand} (ho : o.op = .makeSlice t lx cx) (ht : P.underlying t = some (.slice e)) (hlx : avx N lx = some (.t x)) (hcx : avx N cx = some (.t x)) {sz : Nat}
    {z : List AV} {i : TypeInfo} (hs : sizeT P e = some sz) (hz : zeroT P e = some z) (hi : P.info? e = some i) (hzl : z.length = sz) (hby : i.bytes ≤ 4096) {cs : List AV} {mk : Nat → AV}
    (hm : mem (.mks (.t x) sz z) fr = some (cs, mk)) : MemOk P o h T a w cs mk := by
  have el : a.eval lx = a.tmps.getD x undef := by
    cases lx <;> simp only [avx, reduceCtorEq, Option.map_eq_some_iff, Option.some.injEq, SX.f.injEq, SX.t.injEq] at hlx
    · split at hlx
      · injection hlx with hlx; injection hlx with hlx; subst hlx; rfl
      · cases hlx
    · obtain ⟨_, _, g⟩ := hlx; cases g
  have ec : a.eval cx = a.tmps.getD x undef := by
    cases cx <;> simp only [avx, reduceCtorEq, Option.map_eq_some_iff, Option.some.injEq, SX.f.injEq, SX.t.injEq] at hcx
    · split at hcx
      · injection hcx with hcx; injection hcx with hcx; subst hcx; rfl
      · cases hcx
    · obtain ⟨_, _, g⟩ := hcx; cases g
  have V1 := V.ev rel hlx
  rw [el] at V1
  simp only [mem] at hm
  split at hm
  · rename_i n hn
    simp only [AM.ev] at hn V1
    rw [hn] at V1
    split at hm
    · rename_i hc
      obtain ⟨h0, h1, h2⟩ := hc
      injection hm with hm
      injection hm with g1 g2
      subst g1 g2
      generalize hv : a.tmps.getD x undef = v at V1 el ec
      cases V1
      obtain ⟨i', zv, hi', hzv, hmm⟩ := zeroT_spec hz
      rw [hi] at hi'
      injection hi' with hi'
      subst hi'
      obtain ⟨i', hi', hsz⟩ := sizeT_spec hs
      rw [hi] at hi'
      injection hi' with hi'
      subst hi'
      obtain ⟨hC, _⟩ := Cov.consts (w := w) (h := h) (T := T) hmm
      have hrun := run_makeSlice' (P := P) w t e i zv ht hi hzv n h0 h1 hby
      refine mem_of_row (e := e) rel (Cov.zeros hC n.toNat _ rfl) (all_zeros h2) (by rw [zeros_length, hzl]; exact Nat.le_refl _) ?_
      simp only [execOp, ho, el, ec, Sem.run_bind, hrun, Result.andThen_ok, Sem.run_pure]
      rw [hzl, ← hsz]
    · cases hm
  · cases hm

theorem m_mkl (rel : Rel T N fr h a w) {o : Oper} {t e : TypeId} {len sz : Nat} {parts : Array (Nat × Operand)} (ho : o.op = .buildSlice t len parts) (ht : P.underlying t = some (.slice e)) {z : List AV} {ps : List (Nat × SX)}
    (hs : sizeT P e = some sz) (hz : zeroT P e = some z) (hps : parts.toList.mapM (fun p => (avx N p.2).map fun x => (p.1, x)) = some ps) (hzl : z.length = sz) (hle : len * sz ≤ 1024) {cs : List AV} {mk : Nat → AV}
    (hm : mem (.mkl len sz (zeros len z) (ps.map fun p => (p.1 * sz, sz, p.2))) fr = some (cs, mk)) : MemOk P o h T a w cs mk := by
  simp only [mem] at hm
  split at hm
  · rename_i cs' hf
    split at hm
    · rename_i h1
      injection hm with hm
      injection hm with g1 g2
      subst g1 g2
      obtain ⟨i, zv, hi, hzv, hmm⟩ := zeroT_spec hz
      obtain ⟨i', hi', hsz⟩ := sizeT_spec hs
      rw [hi] at hi'
      injection hi' with hi'
      subst hi'
      obtain ⟨hC, _⟩ := Cov.consts (w := w) (h := h) (T := T) hmm
      have hCz := Cov.zeros hC len _ rfl
      have hparts : ∀ (ls : List (Nat × Operand)) (ps : List (Nat × SX)), ls.mapM (fun p => (avx N p.2).map fun x => (p.1, x)) = some ps →
          Parts w h T (fun i => some (i * sz, sz)) ((ps.map fun p => (p.1 * sz, sz, p.2)).map fun (a, b, x) => (a, b, ev fr x)) (ls.map fun (i, x) => (i, a.eval x)) := by
        intro ls
        induction ls with
        | nil =>
          intro ps h1
          simp at h1
          subst h1
          trivial
        | cons p ls ih =>
          intro ps h1
          simp only [List.mapM_cons, Option.bind_eq_bind, Option.pure_def, Option.bind_eq_some_iff, Option.map_eq_some_iff] at h1
          obtain ⟨_, ⟨x, hx, rfl⟩, ps', hps', he⟩ := h1
          injection he with he
          subst he
          exact ⟨rfl, V.ev rel hx, ih ps' hps'⟩
      obtain ⟨A, hA, hCA⟩ := fill_sound _ _ _ _ _ (hparts _ _ hps) hCz hf
      have hlen : len * sz ≤ cs'.length := by
        have : ∀ (ps : List (Nat × Nat × AV)) (c c' : List AV), afill c ps = some c' → c'.length = c.length := by
          intro ps
          induction ps with
          | nil => intro c c' hc; simp only [afill, Option.some.injEq] at hc; rw [hc]
          | cons p ps ih =>
            intro c c' hc
            obtain ⟨o, s, v⟩ := p
            simp only [afill] at hc
            split at hc
            · rename_i hcc
              rw [ih _ _ hc, splice_length (by omega)]
            · cases hc
        rw [this _ _ _ hf, zeros_length, hzl]
        exact Nat.le_refl _
      refine mem_of_row (e := e) rel hCA h1 hlen ?_
      have hbig : ¬ (2 ^ 24 < len * i.size) := by rw [hsz]; omega
      have hA' : Instr.fill (fun j => some (j * i.size, i.size)) ((Array.range (len * i.size)).map (zv.cells[· % zv.cells.size]!)) (parts.toList.map fun (j, x) => (j, a.eval x)) = some A := by
        rw [hsz, ← hzl]
        rw [hzl]
        rw [hzl] at hA
        exact hA
      by_cases h0 : len * i.size = 0
      · have hA0 : Instr.fill (fun j => some (j * i.size, i.size)) #[] (parts.toList.map fun (j, x) => (j, a.eval x)) = some A := by
          rw [h0] at hA'
          simpa [Array.range_zero'] using hA'
        simp [execOp, ho, Instr.buildSlice, run_underlying ht, sizeOf, typeInfo, hi, h0, hA0, newRow, Array.range_zero']
      · simp [execOp, ho, Instr.buildSlice, run_underlying ht, sizeOf, typeInfo, zeroValue, hi, hzv, h0, hbig, hA', newRow]
    · cases hm
  · cases hm

end
end Go.AM
