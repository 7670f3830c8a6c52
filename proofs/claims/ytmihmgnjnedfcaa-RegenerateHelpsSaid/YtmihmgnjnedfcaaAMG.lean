/- The logic AM: append, copy and store do on the machine what they do here. No Go program in it. -/
import Derived.Test.YtmihmgnjnedfcaaAMF
set_option linter.unusedSimpArgs false
namespace Go.AM
open Go

/-- append, as what follows must hold. -/
def appW (s x : AV) (sz : Nat) (h : Hp) (K : AV → Hp → Prop) : Prop :=
  match readS h x sz with
  | none => False
  | some (m, xs) => match s with
    | .nils => m ≤ 4294967296 ∧ (m = 0 → K .nils h) ∧ (m ≠ 0 → ∀ b, h b = none → K (.sl b 0 m sz) (hset h b xs))
    | .sl B off len sz' => match h B with
      | none => False
      | some cs => off = 0 ∧ sz' = sz ∧ cs.length = len * sz ∧ len + m ≤ 4294967296 ∧ ∀ b, (b = B ∨ h b = none) → K (.sl b 0 (len + m) sz) (hset h b (cs ++ xs))
    | _ => False

def cpyW (s x : AV) (h : Hp) (K : AV → Hp → Prop) : Prop :=
  match readS h x 1 with
  | none => False
  | some (m, xs) => match s with
    | .sl B off len sz => match h B with
      | none => False
      | some cs => sz = 1 ∧ off + len ≤ cs.length ∧ K (.base (.int .i64 (Nat.min m len : Nat))) (hset h B (splice cs off (xs.take (Nat.min m len))))
    | _ => False

def stW (x v : AV) (n : Nat) (h : Hp) (K : Hp → Prop) : Prop :=
  match x with
  | .ref B off => match h B with
    | none => False
    | some cs => v.cells.length = n ∧ off + n ≤ cs.length ∧ v.cells.all one = true ∧ K (hset h B (splice cs off v.cells))
  | _ => False

section
variable {P : Program} {T : Nat → Prop} {N : Nat} {fr : Fr} {h : Hp} {a : Act} {w : World}

/-- What a slice that is read yields. -/
theorem readS_sound (hr : HR w h T) {x : AV} {v : Value} (hV : V w h T x v) {sz m : Nat} {xs : List AV} (hx : readS h x sz = some (m, xs)) {t e : TypeId} (ht : P.underlying t = some (.slice e)) :
    ∃ news : List Value, Src P sz t v m news w ∧ news.length = xs.length ∧ xs.all one = true ∧ (∀ (j : Nat) (hj : j < xs.length) (hk : j < news.length), V w h T xs[j] news[j]) ∧
      ((v = .slice none 0 0 ∧ m = 0) ∨ ∃ ad cp, v = .slice (some ad) m cp ∧ ∀ j u, news[j]? = some u → w.cell? (ad.add j) = some u) := by
  have mk : ∀ (b off cap n : Nat) (cs : List AV), Cells w h T b off cs → cs.length = n * sz → ∃ news : List Value, Src P sz t (.slice (some ⟨b, off, none⟩) n cap) n news w ∧ news.length = cs.length ∧ cs.all one = true ∧
      (∀ (j : Nat) (hj : j < cs.length) (hk : j < news.length), V w h T cs[j] news[j]) ∧ (∀ j u, news[j]? = some u → w.cell? ((⟨b, off, none⟩ : Addr).add j) = some u) := by
    intro b off cap n cs hC hl
    obtain ⟨⟨vs, hg⟩, h1⟩ := hC
    have hnews : ∀ j u, ((List.range cs.length).map vs)[j]? = some u → w.cell? ((⟨b, off, none⟩ : Addr).add j) = some u := by
      intro j u hj
      obtain ⟨hlt, he⟩ := List.getElem?_eq_some_iff.1 hj
      simp only [List.length_map, List.length_range] at hlt
      simp only [List.getElem_map, List.getElem_range] at he
      rw [addr_add, (hg j hlt).1, he]
    refine ⟨(List.range cs.length).map vs, Src.ofSlice w ht _ n cap _ (by simpa using hl) hnews ?_, by simp, h1, ?_, hnews⟩
    · intro u hu
      simp only [List.mem_map, List.mem_range] at hu
      obtain ⟨j, hj, rfl⟩ := hu
      exact V.one (hg j hj).2 (List.all_eq_true.1 h1 _ (List.getElem_mem hj))
    · intro j hj hk
      simp only [List.getElem_map, List.getElem_range]
      exact (hg j hj).2
  cases hV with
  | nils =>
    simp only [readS, Option.some.injEq, Prod.mk.injEq] at hx
    obtain ⟨rfl, rfl⟩ := hx
    exact ⟨[], Src.ofNil w ht 0, rfl, rfl, (fun j hj => by cases hj), .inl ⟨rfl, rfl⟩⟩
  | fs n cells b off cap c e' f vs hb hh hT h1 hc hv hn =>
    simp only [readS] at hx
    split at hx
    · rename_i hle
      injection hx with hx
      injection hx with g1 g2
      subst g1 g2
      have hC := (Cells.of_frozen hb h1 hc hv).cut 0 (n * sz)
      simp only [Nat.add_zero, List.drop_zero] at hC
      obtain ⟨news, k1, k2, k3, k4, k5⟩ := mk b off cap n _ hC (by simp; omega)
      exact ⟨news, k1, k2, k3, k4, .inr ⟨_, _, rfl, k5⟩⟩
    · cases hx
  | fs0 p cap =>
    simp only [readS, Nat.zero_mul, List.length_nil, Nat.le_refl, if_true, List.take_nil, Option.some.injEq, Prod.mk.injEq] at hx
    obtain ⟨rfl, rfl⟩ := hx
    exact ⟨[], Src.ofSlice w ht p 0 cap [] (by simp) (fun j u hj => by cases hj) (fun u hu => by cases hu), rfl, rfl, (fun j hj => by cases hj), .inr ⟨_, _, rfl, (fun j u hj => by cases hj)⟩⟩
  | sl b off len sz' cap c e' f hb hc hl =>
    simp only [readS] at hx
    split at hx
    · rename_i cs hcs
      split at hx
      · rename_i hc2
        obtain ⟨rfl, hle⟩ := hc2
        injection hx with hx
        injection hx with g1 g2
        subst g1 g2
        have hC := (Cells.of_live hr hcs).cut off (len * sz')
        simp only [Nat.zero_add] at hC
        obtain ⟨news, k1, k2, k3, k4, k5⟩ := mk b off cap len _ hC (by simp; omega)
        exact ⟨news, k1, k2, k3, k4, .inr ⟨_, _, rfl, k5⟩⟩
      · cases hx
    · cases hx
  | sl0 b off sz' p =>
    simp only [readS] at hx
    split at hx
    · split at hx
      · injection hx with hx
        injection hx with g1 g2
        subst g1
        simp only [Nat.zero_mul, List.take_zero] at g2
        subst g2
        exact ⟨[], Src.ofSlice w ht p 0 0 [] (by simp) (fun j u hj => by cases hj) (fun u hu => by cases hu), rfl, rfl, (fun j hj => by cases hj), .inr ⟨_, _, rfl, (fun j u hj => by cases hj)⟩⟩
      · cases hx
    · cases hx
  | _ => simp [readS] at hx

theorem run_app_room (w : World) (t tx ty e : TypeId) (i : TypeInfo) (ht : P.underlying t = some (.slice e)) (hi : P.info? e = some i) (g sLen sCap : Nat) (e' : TypeId) (cur : Array Value) (hg : w.heap[g]? = some (.cells cur e' (0, 0)))
    (x : Value) (n : Nat) (news : List Value) (hs : Src P i.size tx x n news w) (hroom : sLen + n ≤ sCap) (hfit : sLen * i.size + news.length ≤ cur.size) :
    (Builtin.append_ #[t, tx] ty #[.slice (some ⟨g, 0, none⟩) sLen sCap, x]).run P w =
      .ok (.slice (some ⟨g, 0, none⟩) (sLen + n) sCap) (w.setRow g (cur.toList.take (sLen * i.size) ++ news ++ cur.toList.drop (sLen * i.size + news.length)).toArray) := by
  have hst := run_storeCells_at P g (sLen * i.size) e' news 0 cur w hg (by simpa using hfit) hs.one
  simp only [Nat.add_zero] at hst
  rcases hs.kind with ⟨e', hk⟩ | hk <;> simp [Builtin.append_, run_underlying ht, run_underlying hk, sizeOf, typeInfo, hi, hs.len, hroom, hs.cells, Addr.add_lit, hst]

def WOk (P : Program) (o : Oper) (h : Hp) (T : Nat → Prop) (a : Act) (w : World) (K : AV → Hp → Prop) : Prop :=
  ∃ v h' r w', (execOp a.eval o).run P w = .ok (.value r) w' ∧ K v h' ∧ Evo h w h' w' ∧ HR w' h' T ∧ V w' h' T v r

theorem cov_seg (cs xs : List AV) (A B : List Value) (hA : cs.length ≤ A.length) (hBl : B.length = xs.length) (off : Nat) (hoff : off + xs.length ≤ A.length) (hcs : off ≤ cs.length) (hv : ∀ (j : Nat) (hj : j < cs.length), ∃ v, A[j]? = some v ∧ V w h T cs[j] v)
    (hx : ∀ (j : Nat) (hj : j < xs.length) (hk : j < B.length), V w h T xs[j] B[j]) (R : List AV) (hR : R.length ≤ A.length)
    (hget : ∀ j, j < R.length → R[j]? = if off ≤ j ∧ j < off + xs.length then xs[j - off]? else cs[j]?) :
    ∀ (j : Nat) (hj : j < R.length), ∃ v, (A.take off ++ B ++ A.drop (off + B.length)).toArray[j]? = some v ∧ V w h T R[j] v := by
  intro j hj
  have hg := hget j hj
  rw [List.getElem?_eq_getElem hj] at hg
  rw [List.getElem?_toArray]
  by_cases h1 : off ≤ j ∧ j < off + xs.length
  · rw [if_pos h1, List.getElem?_eq_getElem (show j - off < xs.length by omega)] at hg
    injection hg with hg
    refine ⟨B[j - off]'(by omega), ?_, by rw [hg]; exact hx _ _ _⟩
    rw [List.append_assoc, List.getElem?_append_right (by simp; omega), List.getElem?_append_left (by simp; omega)]
    rw [List.length_take, Nat.min_eq_left (by omega), List.getElem?_eq_getElem]
  · rw [if_neg h1] at hg
    have hjc : j < cs.length := by
      rcases Nat.lt_or_ge j cs.length with hh | hh
      · exact hh
      · rw [List.getElem?_eq_none hh] at hg; cases hg
    rw [List.getElem?_eq_getElem hjc] at hg
    injection hg with hg
    obtain ⟨v, k1, k2⟩ := hv j hjc
    refine ⟨v, ?_, by rw [hg]; exact k2⟩
    by_cases h2 : j < off
    · rw [List.append_assoc, List.getElem?_append_left (by simp; omega), List.getElem?_take_of_lt h2]
      exact k1
    · rw [List.getElem?_append_right (by simp; omega), List.getElem?_drop]
      have e : off + B.length + (j - (A.take off ++ B).length) = j := by
        simp
        omega
      rw [e]
      exact k1

theorem w_app (rel : Rel T N fr h a w) {o : Oper} {c : Call} {t u e e2 : TypeId} {s x : Operand} (ho : o.op = .call c) (hcal : c.callee = .builtin .append) (hargs : c.args.toList = [s, x]) (hts : c.argTypes.toList = [t, u])
    (ht : P.underlying t = some (.slice e)) (hu : P.underlying u = some (.slice e2)) {ss sx : SX} (hs : avx N s = some ss) (hx : avx N x = some sx) {sz : Nat} {z : List AV} {i : TypeInfo} (hsz : sizeT P e = some sz) (hz : zeroT P e = some z)
    (hi : P.info? e = some i) (hzl : z.length = sz) (hby : i.bytes ≤ 4096) {K : AV → Hp → Prop} (hK : appW (ev fr ss) (ev fr sx) sz h K) : WOk P o h T a w K := by
  have V1 := V.ev rel hs
  have V2 := V.ev rel hx
  have ea : c.args = #[s, x] := by rw [← Array.toArray_toList (xs := c.args), hargs]
  have et : c.argTypes = #[t, u] := by rw [← Array.toArray_toList (xs := c.argTypes), hts]
  generalize hsv : a.eval s = sv at V1
  generalize hxv : a.eval x = xv at V2
  obtain ⟨i', zv, hi', hzv, hmm⟩ := zeroT_spec hz
  have hzc : zv.cells.size = sz := by rw [(Cov.consts (w := w) (h := h) (T := T) hmm).1.size, hzl]
  rw [hi] at hi'
  injection hi' with hi'
  subst hi'
  obtain ⟨i', hi', hisz⟩ := sizeT_spec hsz
  rw [hi] at hi'
  injection hi' with hi'
  subst hi'
  unfold appW at hK
  split at hK
  · exact hK.elim
  rename_i m xs hread
  obtain ⟨news, hsrc, hnl, h1, hnv, hform⟩ := readS_sound rel.heap V2 hread hu
  have hexec : ∀ r w', (Builtin.append_ #[t, u] o.type #[sv, xv]).run P w = .ok r w' → (execOp a.eval o).run P w = .ok (.value r) w' := by
    intro r w' hr
    simp [execOp, ho, resolve, hcal, ea, et, hsv, hxv, invoke, builtin, hr]
  have hnewsl : news.length = m * sz := hsrc.newsLen
  have fits : ∀ need old : Nat, old < need → need ≤ 4294967296 → Builtin.nextslicecap need old * i.bytes ≤ 281474976710656 := by
    intro need old h1 h2
    refine growslice_fits h1 ?_
    have : need * i.bytes ≤ 4294967296 * 4096 := Nat.mul_le_mul h2 hby
    omega
  split at hK
  · -- nil
    rename_i hss
    rw [hss] at V1
    cases V1
    obtain ⟨hm, hK0, hK1⟩ := hK
    by_cases hm0 : m = 0
    · subst hm0
      refine ⟨.nils, h, .slice none 0 0, w, hexec _ _ ?_, hK0 rfl, Evo.refl _ _, rel.heap, .nils⟩
      rcases hsrc.kind with ⟨e', hk⟩ | hk <;> simp [Builtin.append_, run_underlying ht, run_underlying hk, sizeOf, typeInfo, hi, hsrc.len, hisz, hsrc.cells]
    · have hrun := run_append_grow_src (P := P) w t u o.type e i zv ht hi hzv none 0 0 [] (run_firstCells_none w.drew i.size 0 0 0) xv m news (by rw [hisz]; exact hsrc) (by omega) (by omega) (fits _ _ (by omega) (by omega))
      simp only [Nat.zero_add, List.nil_append] at hrun
      obtain ⟨ev', hr'⟩ := alloc_ok rel.heap (w1 := w.drew) rfl rfl rfl rfl (cs := xs) (c := news.toArray ++ Builtin.zeroCells zv.cells (grownCap w m 0 e - m)) e (by simp; omega) h1 (fun j hj => by
        refine ⟨news[j]'(by omega), ?_, hnv j hj (by omega)⟩
        rw [Array.getElem?_append_left (by simp; omega)]
        simp [show j < news.length by omega])
      refine ⟨_, _, _, _, hexec _ _ hrun, hK1 hm0 w.heap.size rel.heap.fresh, ev', hr', ?_⟩
      refine .sl _ 0 m sz _ (news.toArray ++ Builtin.zeroCells zv.cells (grownCap w m 0 e - m)) e (0, 0) ?_ ?_ ?_
      · show (w.heap.push _)[w.heap.size]? = _
        simp
      · have hcap : m ≤ grownCap w m 0 e := by unfold grownCap Question.cut; exact Nat.le_add_right _ _
        simp [hnewsl, Builtin.zeroCells, hzc]
        rw [← Nat.add_mul]
        exact Nat.mul_le_mul_right _ (by omega)
      · unfold grownCap Question.cut
        exact Nat.le_add_right _ _
  · -- a live row
    rename_i B off len sz' hss
    rw [hss] at V1
    split at hK
    · exact hK.elim
    rename_i cs hcs
    obtain ⟨rfl, rfl, hlen, hmax, hK⟩ := hK
    obtain ⟨c0, e0, hw, hle, h1c, hvc⟩ := rel.heap.blk B cs hcs
    have hgc := (Cells.of_live rel.heap hcs)
    -- the old cells, as a list of values
    obtain ⟨⟨vs, hg⟩, _⟩ := hgc
    have holds : ∀ j v, ((List.range cs.length).map vs)[j]? = some v → w.cell? ((⟨B, 0, none⟩ : Addr).add j) = some v := by
      intro j v hj
      obtain ⟨hlt, he⟩ := List.getElem?_eq_some_iff.1 hj
      simp only [List.length_map, List.length_range] at hlt
      simp only [List.getElem_map, List.getElem_range] at he
      rw [addr_add, (hg j hlt).1, he]
    have grow : ∀ (p : Option Addr) (cap : Nat) (olds : List Value), sv = .slice p len cap → cap < len + m → olds.length = cs.length → (∀ (j : Nat) (hj : j < cs.length) (hk : j < olds.length), V w h T cs[j] olds[j]) →
        (Builtin.firstCells i.size len (.slice p len cap)).run P w.drew = .ok olds.toArray w.drew → WOk P o h T a w K := by
      intro p cap olds hp hcap hol hov hfc
      subst hp
      have hrun := run_append_grow_src (P := P) w t u o.type e i zv ht hi hzv p len cap olds hfc xv m news (by rw [hisz]; exact hsrc) hcap (by omega) (fits _ _ (by omega) (by omega))
      obtain ⟨ev', hr'⟩ := alloc_ok rel.heap (w1 := w.drew) rfl rfl rfl rfl (cs := cs ++ xs) (c := (olds ++ news).toArray ++ Builtin.zeroCells zv.cells (grownCap w (len + m) cap e - (len + m))) e (by simp; omega)
        (by rw [List.all_append, h1c, h1]; rfl) (fun j hj => by
          have hj2 : j < olds.length + news.length := by rw [List.length_append] at hj; omega
          rw [Array.getElem?_append_left (by simpa using hj2), List.getElem?_toArray]
          by_cases hjc : j < cs.length
          · refine ⟨olds[j]'(by omega), ?_, ?_⟩
            · rw [List.getElem?_append_left (by omega), List.getElem?_eq_getElem]
            · rw [List.getElem_append_left hjc]; exact hov j hjc (by omega)
          · refine ⟨news[j - olds.length]'(by omega), ?_, ?_⟩
            · rw [List.getElem?_append_right (by omega), List.getElem?_eq_getElem]
            · rw [List.getElem_append_right (by omega)]
              have := hnv (j - cs.length) (by rw [List.length_append] at hj; omega) (by omega)
              simpa only [hol] using this)
      refine ⟨_, _, _, _, hexec _ _ hrun, hK w.heap.size (.inr rel.heap.fresh), ev', hr', ?_⟩
      refine .sl _ 0 (len + m) sz' _ ((olds ++ news).toArray ++ Builtin.zeroCells zv.cells (grownCap w (len + m) cap e - (len + m))) e (0, 0) ?_ ?_ ?_
      · show (w.heap.push _)[w.heap.size]? = _
        simp
      · have hcap' : len + m ≤ grownCap w (len + m) cap e := by unfold grownCap Question.cut; exact Nat.le_add_right _ _
        simp [hnewsl, Builtin.zeroCells, hzc, hol, hlen]
        rw [← Nat.add_mul, ← Nat.add_mul]
        exact Nat.mul_le_mul_right _ (by omega)
      · unfold grownCap Question.cut
        exact Nat.le_add_right _ _
    cases V1 with
    | sl b off len sz cap c e1 f hb hc hl =>
      have hb' := hb
      rw [hw] at hb'
      injection hb' with hb'
      injection hb' with g1 g2 g3
      subst g1 g2 g3
      by_cases hroom : len + m ≤ cap
      · have hfit : len * i.size + news.length ≤ c0.size := by
          rw [hnewsl, hisz, ← Nat.add_mul]
          exact Nat.le_trans (Nat.mul_le_mul_right _ hroom) (by omega)
        have hrun := run_app_room (P := P) w t u o.type e i ht hi B len cap e0 c0 hw xv m news (by rw [hisz]; exact hsrc) hroom hfit
        rw [hisz, ← hlen] at hrun
        rw [hisz, ← hlen] at hfit
        obtain ⟨ev', hr'⟩ := write_ok rel.heap (cs' := cs ++ xs) (c' := (c0.toList.take cs.length ++ news ++ c0.toList.drop (cs.length + news.length)).toArray) hcs hw (by simp; omega) (by simp; omega)
          (by rw [List.all_append, h1c, h1]; rfl)
          (cov_seg cs xs c0.toList news (by simpa using hle) hnl cs.length (by simp; omega) (Nat.le_refl _) (fun j hj => by simpa using hvc j hj) hnv (cs ++ xs) (by simp; omega) (fun j hj => by
            by_cases hjc : j < cs.length
            · rw [List.getElem?_append_left hjc, if_neg (by omega)]
            · rw [List.getElem?_append_right (by omega), if_pos ⟨by omega, by rw [List.length_append] at hj; omega⟩]))
        refine ⟨_, _, _, _, hexec _ _ hrun, hK B (.inl rfl), ev', hr', ?_⟩
        refine .sl B 0 (len + m) _ cap _ e0 (0, 0) (setRow_heap w B c0 _ e0 (0, 0) hw) ?_ hroom
        have : (c0.toList.take cs.length ++ news ++ c0.toList.drop (cs.length + news.length)).toArray.size = c0.size := by simp; omega
        rw [this]
        exact hc
      · refine grow (some ⟨B, 0, none⟩) cap ((List.range cs.length).map vs) rfl (by omega) (by simp) (fun j hj hk => by
          simp only [List.getElem_map, List.getElem_range]; exact (hg j hj).2) ?_
        exact run_firstCells_some (P := P) w.drew i.size len ⟨B, 0, none⟩ len cap _ (by simp [hlen, hisz]) (by simpa using holds)
    | sl0 b off sz p =>
      have hc0 : cs = [] := by
        apply List.eq_nil_of_length_eq_zero
        omega
      by_cases hm0 : m = 0
      · subst hm0
        have hx0 : xs = [] := by
          apply List.eq_nil_of_length_eq_zero
          omega
        have hn0 : news = [] := by
          apply List.eq_nil_of_length_eq_zero
          omega
        subst hx0 hn0
        obtain ⟨ev', hr'⟩ := write_ok rel.heap (cs' := cs ++ []) (c' := c0) hcs hw rfl (by simpa using hle) (by simpa using h1c) (fun j hj => by simpa using hvc j (by simpa using hj))
        have hself : w.setRow B c0 = w := setRow_self w B c0 e0 (0, 0) hw
        rw [hself] at ev' hr'
        refine ⟨_, _, .slice (some p) 0 0, w, hexec _ _ ?_, hK B (.inl rfl), ev', hr', .sl0 B 0 _ p⟩
        rcases hsrc.kind with ⟨e', hk⟩ | hk <;> simp [Builtin.append_, run_underlying ht, run_underlying hk, sizeOf, typeInfo, hi, hsrc.len, hisz, hsrc.cells, storeCells]
      · refine grow (some p) 0 [] rfl (by omega) (by simp [hc0]) (fun j hj hk => by cases hk) ?_
        exact run_firstCells_some (P := P) w.drew i.size 0 p 0 0 [] (by simp) (fun j v hj => by cases hj)
  · exact hK.elim

theorem w_cpy (rel : Rel T N fr h a w) {o : Oper} {c : Call} {t u e e2 : TypeId} {s x : Operand} (ho : o.op = .call c) (hcal : c.callee = .builtin .copy) (hargs : c.args.toList = [s, x]) (hts : c.argTypes.toList = [t, u])
    (ht : P.underlying t = some (.slice e)) (hu : P.underlying u = some (.slice e2)) {ss sx : SX} (hs : avx N s = some ss) (hx : avx N x = some sx) (hsz : sizeT P e = some 1) {K : AV → Hp → Prop}
    (hK : cpyW (ev fr ss) (ev fr sx) h K) : WOk P o h T a w K := by
  have V1 := V.ev rel hs
  have V2 := V.ev rel hx
  have ea : c.args = #[s, x] := by rw [← Array.toArray_toList (xs := c.args), hargs]
  have et : c.argTypes = #[t, u] := by rw [← Array.toArray_toList (xs := c.argTypes), hts]
  generalize hsv : a.eval s = sv at V1
  generalize hxv : a.eval x = xv at V2
  unfold cpyW at hK
  split at hK
  · exact hK.elim
  rename_i m xs hread
  obtain ⟨news, hsrc, hnl, h1, hnv, hform⟩ := readS_sound rel.heap V2 hread hu
  have hnewsl : news.length = m * 1 := hsrc.newsLen
  have hexec : ∀ r w', (Builtin.copy_ #[t, u] o.type #[sv, xv]).run P w = .ok r w' → (execOp a.eval o).run P w = .ok (.value r) w' := by
    intro r w' hr
    simp [execOp, ho, resolve, hcal, ea, et, hsv, hxv, invoke, builtin, hr]
  split at hK
  · rename_i B off len sz hss
    rw [hss] at V1
    split at hK
    · exact hK.elim
    rename_i cs hcs
    obtain ⟨rfl, hle, hK⟩ := hK
    obtain ⟨c0, e0, hw, hle0, h1c, hvc⟩ := rel.heap.blk B cs hcs
    have hmin : (xs.take (Nat.min m len)).length = Nat.min m len := by
      rw [List.length_take]
      have : Nat.min m len ≤ m := Nat.min_le_left _ _
      omega
    have hminl : Nat.min m len ≤ len := Nat.min_le_right _ _
    have hnmin : (news.take (Nat.min m len)).length = Nat.min m len := by
      rw [List.length_take]
      have : Nat.min m len ≤ m := Nat.min_le_left _ _
      omega
    have hsp : off + (xs.take (Nat.min m len)).length ≤ cs.length := by omega
    have hwr : ∀ g : (w.setRow B (c0.toList.take off ++ news.take (Nat.min m len) ++ c0.toList.drop (off + (news.take (Nat.min m len)).length)).toArray) = (w.setRow B (c0.toList.take off ++ news.take (Nat.min m len) ++ c0.toList.drop (off + (news.take (Nat.min m len)).length)).toArray), True := fun _ => trivial
    obtain ⟨ev', hr'⟩ := write_ok rel.heap (cs' := splice cs off (xs.take (Nat.min m len))) (c' := (c0.toList.take off ++ news.take (Nat.min m len) ++ c0.toList.drop (off + (news.take (Nat.min m len)).length)).toArray) hcs hw
      (by simp only [List.size_toArray, List.length_append, List.length_take, List.length_drop, Array.length_toList] at hnmin ⊢; omega)
      (by rw [splice_length hsp]; simp only [List.size_toArray, List.length_append, List.length_take, List.length_drop, Array.length_toList] at hnmin ⊢; omega)
      (by
        rw [List.all_eq_true] at h1c h1 ⊢
        intro y hy
        simp only [splice, List.mem_append] at hy
        rcases hy with (hy | hy) | hy
        · exact h1c y (List.mem_of_mem_take hy)
        · exact h1 y (List.mem_of_mem_take hy)
        · exact h1c y (List.mem_of_mem_drop hy))
      (cov_seg cs (xs.take (Nat.min m len)) c0.toList (news.take (Nat.min m len)) (by simpa using hle0) (by omega) off (by simp only [Array.length_toList]; omega) (by omega) (fun j hj => by simpa using hvc j hj)
        (fun j hj hk => by simp only [List.getElem_take]; exact hnv _ _ _) _ (by rw [splice_length hsp]; simpa using hle0) (fun j hj => splice_get hsp (by rw [splice_length hsp] at hj; exact hj)))
    cases V1 with
    | sl b off len sz cap c e1 f hb hc hl =>
      rw [hw] at hb
      injection hb with hb
      injection hb with g1 g2 g3
      subst g1 g2 g3
      rcases hform with ⟨hx0, hm0⟩ | ⟨ad, cp, hx0, hcells⟩
      · subst hx0 hm0
        have e0' : Nat.min 0 len = 0 := Nat.zero_min _
        simp only [e0', List.take_zero, List.append_nil, List.length_nil, Nat.add_zero, List.take_append_drop, Array.toArray_toList] at ev' hr' hK
        have hself : w.setRow B c0 = w := setRow_self w B c0 _ _ hw
        rw [hself] at ev' hr'
        exact ⟨_, _, _, w, hexec _ _ (run_copy_nil (P := P) w t u o.type e _ len cap ht (by obtain ⟨i, hi, _⟩ := sizeT_spec hsz; simp [hi])), hK, ev', hr', .base _ rfl⟩
      · subst hx0
        have hrun := run_copy_row (P := P) w t u o.type e B off len cap ad m cp c0 _ (news.take (Nat.min m len)) ht hsz hw hnmin (fun j v hj => by
          rw [List.getElem?_take] at hj
          split at hj
          · exact hcells j v hj
          · cases hj) (by omega) (fun v hv => hsrc.one v (List.mem_of_mem_take hv))
        refine ⟨_, _, _, _, hexec _ _ hrun, hK, ev', hr', ?_⟩
        rw [hnmin]
        exact .base _ rfl
    | sl0 b off sz p =>
      have e0' : Nat.min m 0 = 0 := Nat.min_zero _
      simp only [e0', List.take_zero, List.append_nil, List.length_nil, Nat.add_zero, List.take_append_drop, Array.toArray_toList] at ev' hr' hK
      have hself : w.setRow B c0 = w := setRow_self w B c0 _ _ hw
      rw [hself] at ev' hr'
      refine ⟨_, _, .int .i64 0, w, hexec _ _ ?_, hK, ev', hr', .base _ rfl⟩
      obtain ⟨i, hi, hsi⟩ := sizeT_spec hsz
      have hf0 : (Builtin.firstCells i.size 0 xv).run P w = .ok #[] w := by
        rcases hform with ⟨hx0, hm0⟩ | ⟨ad, cp, hx0, hcells⟩
        · subst hx0
          exact run_firstCells_none w _ 0 0 0
        · subst hx0
          exact run_firstCells_some (P := P) w i.size 0 ad m cp [] (by simp) (fun j v hj => by cases hj)
      have hlo : ∀ w' : World, (Builtin.lenOf xv).run P w' = .ok m w' := hsrc.len
      simp [Builtin.copy_, run_underlying ht, hlo, sizeOf, typeInfo, hi, e0', hf0, storeCells, goInt]
  · exact hK.elim

/-- A store. -/
theorem w_st (rel : Rel T N fr h a w) {o : Oper} {t : TypeId} {x y : Operand} (ho : o.op = .store t x y) {n : Nat} (hn : sizeT P t = some n) {sx sy : SX} (hx : avx N x = some sx) (hy : avx N y = some sy) {K : Hp → Prop}
    (hK : stW (ev fr sx) (ev fr sy) n h K) : ∃ h' w', (execOp a.eval o).run P w = .ok .skip w' ∧ K h' ∧ Evo h w h' w' ∧ HR w' h' T := by
  have V1 := V.ev rel hx
  have V2 := V.ev rel hy
  generalize hxv : a.eval x = xv at V1
  generalize hyv : a.eval y = yv at V2
  unfold stW at hK
  split at hK
  · rename_i B off hB
    rw [hB] at V1
    split at hK
    · exact hK.elim
    rename_i cs hcs
    obtain ⟨hl, hle, h1, hK⟩ := hK
    obtain ⟨c0, e0, hw, hle0, h1c, hvc⟩ := rel.heap.blk B cs hcs
    cases V1
    obtain ⟨k1, k2⟩ := V.cells V2
    have hst := run_storeCells_at P B off e0 yv.cells.toList 0 c0 w hw (by simp only [Array.length_toList]; omega) (fun v hv => by
      obtain ⟨j, hj, rfl⟩ := List.mem_iff_getElem.1 hv
      simp only [Array.length_toList] at hj
      simp only [Array.getElem_toList]
      exact V.one (k2 j (by omega) hj) (List.all_eq_true.1 h1 _ (List.getElem_mem _)))
    simp only [Nat.add_zero, Array.length_toList] at hst
    have hsp : off + (ev fr sy).cells.length ≤ cs.length := by omega
    obtain ⟨ev', hr'⟩ := write_ok rel.heap (cs' := splice cs off (ev fr sy).cells) (c' := (c0.toList.take off ++ yv.cells.toList ++ c0.toList.drop (off + yv.cells.toList.length)).toArray) hcs hw
      (by simp; omega) (by rw [splice_length hsp]; simp; omega)
      (by
        rw [List.all_eq_true] at h1c h1 ⊢
        intro z hz
        simp only [splice, List.mem_append] at hz
        rcases hz with (hz | hz) | hz
        · exact h1c z (List.mem_of_mem_take hz)
        · exact h1 z hz
        · exact h1c z (List.mem_of_mem_drop hz))
      (cov_seg cs (ev fr sy).cells c0.toList yv.cells.toList (by simpa using hle0) (by simpa using k1) off (by simp only [Array.length_toList]; omega) (by omega) (fun j hj => by simpa using hvc j hj)
        (fun j hj hk => by simp only [Array.getElem_toList]; exact k2 _ _ _) _ (by rw [splice_length hsp]; simpa using hle0) (fun j hj => splice_get hsp (by rw [splice_length hsp] at hj; exact hj)))
    simp only [Array.length_toList] at ev' hr'
    refine ⟨_, _, ?_, hK, ev', hr'⟩
    simp only [execOp, ho, hxv, hyv, Instr.storeAt, Instr.sureAddr, storeVar, Sem.run_bind, Sem.run_pure, Result.andThen_ok, run_sizeOf' hn]
    rw [if_neg (by simp; omega)]
    simp [hst]
  · exact hK.elim

end
end Go.AM
