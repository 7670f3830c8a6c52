/- The logic AM: memory told by what stands in single blocks; slices that grow from nothing. No Go program in it. -/
import Derived.Test.YtmihmgnjnedfcaaAMO
set_option linter.unusedSimpArgs false
set_option linter.unusedVariables false
namespace Go.AM
open Go

theorem one_base (v : Value) : one (.base v) = true := nr rfl
theorem one_nilp : one .nilp = true := nr rfl
theorem one_nils : one .nils = true := nr rfl
theorem one_ref (b o : Nat) : one (.ref b o) = true := nr rfl
theorem one_sl (b o n s : Nat) : one (.sl b o n s) = true := nr rfl
theorem one_fp (c : List AV) : one (.fp c) = true := nr rfl
theorem one_fs (n : Nat) (c : List AV) : one (.fs n c) = true := nr rfl
theorem one_fn (f : FuncId) (a b : List AV) : one (.fn f a b) = true := nr rfl
theorem SV.one {sz : Nat} {v : AV} {n : Nat} {cells : List AV} (hv : SV sz v n cells) : one v = true := by
  rcases hv.2 with ⟨rfl, _⟩ | rfl <;> rfl
theorem IL.one {v : AV} {l : List Int} (hv : IL v l) : one v = true := SV.one hv

section
variable {P : Program} {fr : Fr} {h h' F : Hp} {K : AE → Fr → Hp → Prop}

/-- What stands in F stands in h. -/
def Kp (F h : Hp) : Prop := ∀ b xs, F b = some xs → h b = some xs

theorem Kp.refl (h : Hp) : Kp h h := fun _ _ hb => hb
theorem Kp.trans {a b c : Hp} (h1 : Kp a b) (h2 : Kp b c) : Kp a c := fun x xs hx => h2 x xs (h1 x xs hx)
theorem Kp.no (k : Kp F h) {b : Nat} (hb : h b = none) : F b = none := by
  cases hf : F b with
  | none => rfl
  | some xs => rw [k b xs hf] at hb; cases hb
theorem Kp.new (k : Kp F h) {b : Nat} (hb : h b = none) (xs : List AV) : Kp F (hset h b xs) := fun c ys hc => by
  have : c ≠ b := fun he => by rw [he, k.no hb] at hc; cases hc
  rw [hset_ne _ _ this]; exact k c ys hc
theorem Kp.set (k : Kp F h) {b : Nat} (hb : F b = none) (xs : List AV) : Kp F (hset h b xs) := fun c ys hc => by
  have : c ≠ b := fun he => by rw [he, hb] at hc; cases hc
  rw [hset_ne _ _ this]; exact k c ys hc
theorem Kp.both (k : Kp F h) (b : Nat) (xs : List AV) : Kp (hset F b xs) (hset h b xs) := fun c ys hc => by
  by_cases hcb : c = b
  · rw [hcb, hset_same] at hc ⊢; exact hc
  · rw [hset_ne _ _ hcb] at hc ⊢; exact k c ys hc
theorem Kp.sub (k : Kp F h) : Sub h F := Sub.of k

/-! ### Single blocks -/

theorem ld_at {b k n : Nat} {cs : List AV} (hb : h b = some cs) (hk : k + n ≤ cs.length) : cellsAt h (.ref b k) n = some ((cs.drop k).take n) := by
  rw [cellsAt_ref, hb]; simp only; rw [if_pos hk]
theorem ld_ints_at {b k : Nat} {l : List Int} (hb : h b = some (ints l)) (hk : k < l.length) : cellsAt h (.ref b k) 1 = some [I (l.getD k 0)] := by
  rw [ld_at hb (by rw [ints_length]; omega), take_ints l k hk]
  simp [List.getD, hk]
theorem ld_one_at {b k : Nat} {cs : List AV} (hb : h b = some cs) (hk : k < cs.length) : cellsAt h (.ref b k) 1 = some [cs.getD k .nils] := by
  rw [ld_at hb (by omega), List.drop_eq_getElem_cons hk, List.take_succ_cons, List.take_zero]
  simp only [List.getD, List.getElem?_eq_getElem hk, Option.getD_some]
theorem st_at {b k n : Nat} {cs : List AV} {v : AV} {Q : Hp → Prop} (hb : h b = some cs) (h1 : v.cells.length = n) (h2 : k + n ≤ cs.length) (h3 : v.cells.all one = true) :
    stW (.ref b k) v n h Q = Q (hset h b (splice cs k v.cells)) := by
  rw [stW_ref, hb]
  apply propext
  exact ⟨fun hh => hh.2.2.2, fun hh => ⟨h1, h2, h3, hh⟩⟩
theorem st_ints_at {b k : Nat} {l : List Int} {v : Int} {Q : Hp → Prop} (hb : h b = some (ints l)) (hk : k < l.length) :
    stW (.ref b k) (I v) 1 h Q = Q (hset h b (ints (l.set k v))) := by
  rw [st_at (v := I v) hb (by rw [cells_base]; rfl) (by rw [ints_length]; omega) (by rw [cells_base]; rfl), cells_base, splice_ints l k v hk]
theorem st_one_at {b k : Nat} {cs : List AV} {v : AV} {Q : Hp → Prop} (hb : h b = some cs) (hv : v.cells = [v]) (h1 : one v = true) (hk : k < cs.length) :
    stW (.ref b k) v 1 h Q = Q (hset h b (cs.set k v)) := by
  rw [st_at hb (by rw [hv]; rfl) (by omega) (by rw [hv]; simp [h1]), hv]
  congr 2
  simp only [splice, List.length_singleton]
  rw [List.set_eq_take_append_cons_drop, if_pos hk]
  simp
theorem st_all_at {b n : Nat} {cs cs' : List AV} {Q : Hp → Prop} (hb : h b = some cs) (h1 : cs.length = n) (h2 : cs'.length = n) (h3 : cs'.all one = true) :
    stW (.ref b 0) (.agg cs') n h Q = Q (hset h b cs') := by
  rw [st_at (v := .agg cs') hb (by rw [cells_agg]; exact h2) (by omega) (by rw [cells_agg]; exact h3)]
  congr 2
  unfold splice
  rw [List.take_zero, List.nil_append, Nat.zero_add, cells_agg, h2, List.drop_eq_nil_of_le (by omega), List.append_nil]

/-! ### Slices that grow from nothing, beside F -/

/-- A slice of n elements of sz cells that is ours, made by append out of nil. -/
def Own (sz : Nat) (F h : Hp) (v : AV) (n : Nat) (cs : List AV) : Prop :=
  Kp F h ∧ cs.length = n * sz ∧ ((n = 0 ∧ v = .nils) ∨ (0 < n ∧ ∃ c, v = .sl c 0 n sz ∧ h c = some cs ∧ F c = none))

theorem Own.nils (sz : Nat) (h : Hp) : Own sz h h .nils 0 [] := ⟨Kp.refl h, by simp, .inl ⟨rfl, rfl⟩⟩
theorem Own.kp {sz : Nat} {v : AV} {n : Nat} {cs : List AV} (o : Own sz F h v n cs) : Kp F h := o.1
theorem Own.rd {sz : Nat} {v : AV} {n : Nat} {cs : List AV} (o : Own sz F h v n cs) {b : Nat} {xs : List AV} (hb : F b = some xs) : h b = some xs := o.1 b xs hb
theorem Own.len {sz : Nat} {v : AV} {n : Nat} {cs : List AV} (o : Own sz F h v n cs) : lenA v = some n := by
  rcases o.2.2 with ⟨rfl, rfl⟩ | ⟨_, b, rfl, _, _⟩ <;> rfl
theorem Own.lenc {sz : Nat} {v : AV} {n : Nat} {cs : List AV} (o : Own sz F h v n cs) : cs.length = n * sz := o.2.1
theorem Own.one {sz : Nat} {v : AV} {n : Nat} {cs : List AV} (o : Own sz F h v n cs) : AM.one v = true := by
  rcases o.2.2 with ⟨_, rfl⟩ | ⟨_, b, rfl, _, _⟩ <;> rfl
theorem Own.cells {sz : Nat} {v : AV} {n : Nat} {cs : List AV} (o : Own sz F h v n cs) : v.cells = [v] := by
  rcases o.2.2 with ⟨_, rfl⟩ | ⟨_, b, rfl, _, _⟩ <;> rfl
theorem Own.put {sz : Nat} {v : AV} {n : Nat} {cs : List AV} (o : Own sz F h v n cs) {b : Nat} {xs : List AV} (hb : F b = some xs) (ys : List AV) : Own sz (hset F b ys) (hset h b ys) v n cs := by
  obtain ⟨hk, hl, o⟩ := o
  refine ⟨hk.both b ys, hl, ?_⟩
  rcases o with o | ⟨hn, c, h1, h2, h3⟩
  · exact .inl o
  · have : c ≠ b := fun he => by rw [he, hb] at h3; cases h3
    exact .inr ⟨hn, c, h1, by rw [hset_ne _ _ this]; exact h2, by rw [hset_ne _ _ this]; exact h3⟩
/-- A new block beside, to keep. -/
theorem Own.add {sz : Nat} {v : AV} {n : Nat} {cs : List AV} (o : Own sz F h v n cs) {b : Nat} (hb : h b = none) (ys : List AV) : Own sz (hset F b ys) (hset h b ys) v n cs := by
  obtain ⟨hk, hl, o⟩ := o
  refine ⟨hk.both b ys, hl, ?_⟩
  rcases o with o | ⟨hn, c, h1, h2, h3⟩
  · exact .inl o
  · have : c ≠ b := fun he => by rw [he, hb] at h2; cases h2
    exact .inr ⟨hn, c, h1, by rw [hset_ne _ _ this]; exact h2, by rw [hset_ne _ _ this]; exact h3⟩
/-- A new block beside, of no use. -/
theorem Own.junk {sz : Nat} {v : AV} {n : Nat} {cs : List AV} (o : Own sz F h v n cs) {b : Nat} (hb : h b = none) (ys : List AV) : Own sz F (hset h b ys) v n cs := by
  obtain ⟨hk, hl, o⟩ := o
  refine ⟨hk.new hb ys, hl, ?_⟩
  rcases o with o | ⟨hn, c, h1, h2, h3⟩
  · exact .inl o
  · have : c ≠ b := fun he => by rw [he, hb] at h2; cases h2
    exact .inr ⟨hn, c, h1, by rw [hset_ne _ _ this]; exact h2, h3⟩
theorem Own.mono {sz : Nat} {v : AV} {n : Nat} {cs : List AV} (o : Own sz F h v n cs) {F' : Hp} (k : Kp F' F) : Own sz F' h v n cs :=
  ⟨k.trans o.1, o.2.1, o.2.2.imp (fun x => x) fun ⟨hn, c, h1, h2, h3⟩ => ⟨hn, c, h1, h2, k.no h3⟩⟩

/-- append of what can be read. -/
theorem Own.app {sz : Nat} {v : AV} {n : Nat} {cs : List AV} (o : Own sz F h v n cs) {h2 : Hp} (hk2 : Kp h h2) {x : AV} {m : Nat} {xs : List AV} (hx : readS h2 x sz = some (m, xs)) (hxl : xs.length = m * sz) (hn : n + m ≤ 4294967296) {R : AV → Hp → Prop}
    (k : ∀ v' h', Own sz F h' v' (n + m) (cs ++ xs) → R v' h') : appW v x sz h2 R := by
  obtain ⟨hk, hl, o'⟩ := o
  have hkk := hk.trans hk2
  have hl2 : (cs ++ xs).length = (n + m) * sz := by rw [List.length_append, hl, hxl, Nat.add_mul]
  unfold appW
  rw [hx]
  rcases o' with ⟨rfl, rfl⟩ | ⟨hn0, c, rfl, h1, h3⟩
  · have hcs : cs = [] := List.eq_nil_of_length_eq_zero (by simpa using hl)
    subst hcs
    refine ⟨by omega, fun hm => ?_, fun hm b' hb' => ?_⟩
    · subst hm
      exact k _ _ ⟨hkk, hl2, .inl ⟨rfl, rfl⟩⟩
    · refine k _ _ ⟨hkk.new hb' xs, hl2, .inr ⟨by omega, b', by rw [Nat.zero_add], hset_same .., hkk.no hb'⟩⟩
  · simp only
    rw [hk2 c cs h1]
    refine ⟨trivial, trivial, hl, hn, fun b' hb' => ?_⟩
    have hFb : F b' = Option.none := by
      rcases hb' with rfl | hb'
      · exact h3
      · exact hkk.no hb'
    exact k _ _ ⟨hkk.set hFb _, hl2, .inr ⟨by omega, b', rfl, hset_same .., hFb⟩⟩

theorem readS_new {b m sz : Nat} {xs : List AV} (hx : xs.length = m * sz) : readS (hset h b xs) (.sl b 0 m sz) sz = some (m, xs) := by
  simp only [readS, hset_same, Nat.zero_add, hx, Nat.le_refl, and_self, if_true, List.drop_zero]
  rw [← hx, List.take_length]

/-- append of the block that has just been made for it. -/
theorem Own.app1 {sz : Nat} {v : AV} {n : Nat} {cs : List AV} (o : Own sz F h v n cs) {b m : Nat} {xs : List AV} (hb : h b = none) (hx : xs.length = m * sz) (hn : n + m ≤ 4294967296) {R : AV → Hp → Prop}
    (k : ∀ v' h', Own sz F h' v' (n + m) (cs ++ xs) → R v' h') : appW v (.sl b 0 m sz) sz (hset h b xs) R :=
  o.app ((Kp.refl h).new hb xs) (readS_new hx) hx hn k

/-- append of a slice that is only read. -/
theorem Own.apps {sz : Nat} {v : AV} {n : Nat} {cs : List AV} (o : Own sz F h v n cs) {x : AV} {m : Nat} {xs : List AV} (hx : SV sz x m xs) (hn : n + m ≤ 4294967296) {R : AV → Hp → Prop}
    (k : ∀ v' h', Own sz F h' v' (n + m) (cs ++ xs) → R v' h') : appW v x sz h R :=
  o.app (Kp.refl h) hx.read hx.1 hn k

/-- The frozen form of a slice that has grown from nothing. -/
def gl (n : Nat) (cs : List AV) : AV := if n = 0 then .nils else .fs n cs
theorem gl_one (n : Nat) (cs : List AV) : AM.one (gl n cs) = true := by
  unfold gl; split <;> rfl

theorem gl_SV {sz n : Nat} {cs : List AV} (hl : cs.length = n * sz) : SV sz (gl n cs) n cs := by
  refine ⟨hl, ?_⟩
  unfold gl
  split
  · rename_i h; exact .inl ⟨rfl, h⟩
  · exact .inr rfl

def gil (l : List Int) : AV := gl l.length (ints l)
theorem gil_IL (l : List Int) : IL (gil l) l := gl_SV (by simp [ints])

/-- Frozen: the heap goes back to what stood in G. -/
theorem Own.frz {sz : Nat} {v : AV} {n : Nat} {cs : List AV} (o : Own sz F h v n cs) {G : Hp} (k : Kp G F) : Sub h G ∧ Frz h G v (gl n cs) := by
  obtain ⟨hk, hl, o'⟩ := o
  refine ⟨(k.trans hk).sub, ?_⟩
  unfold gl
  rcases o' with ⟨rfl, rfl⟩ | ⟨hn, c, rfl, h1, h3⟩
  · exact .id _
  · rw [if_neg (by omega)]
    exact Frz.slk h1 (k.no h3) hl.symm

/-- The function ends with the slice. -/
theorem Own.ret {sz : Nat} {v : AV} {n : Nat} {cs : List AV} (o : Own sz F h' v n cs) (k : Kp h F) {r : AV} (hr : r = gl n cs) : RetP h r v h' :=
  ⟨_, (o.frz k).1, (o.frz k).2, hr.symm⟩

/-- The function ends with a block made by make. -/
theorem ret_blk {b n sz : Nat} {cs : List AV} (hb : h' b = some cs) (hf : h b = none) (k : Kp h h') (hn : n * sz = cs.length) {r : AV} (hr : r = .fs n cs) : RetP h r (.sl b 0 n sz) h' :=
  ⟨_, k.sub, Frz.slk hb hf hn, hr.symm⟩

theorem RetP.tup {vs rs : List AV} (s : Sub h' h) (hl : vs.length = rs.length) (hf : ∀ (j : Nat) (hj : j < rs.length) (hk : j < vs.length), Frz h' h vs[j] rs[j]) : RetP h (.tup rs) (.tup vs) h' :=
  ⟨.tup rs, s, .tup vs rs hl hf, rfl⟩
theorem RetP.agg {vs rs : List AV} (s : Sub h' h) (hl : vs.length = rs.length) (hf : ∀ (j : Nat) (hj : j < rs.length) (hk : j < vs.length), Frz h' h vs[j] rs[j]) : RetP h (.agg rs) (.agg vs) h' :=
  ⟨.agg rs, s, .agg vs rs hl hf, rfl⟩
theorem RetP.any {v r : AV} (s : Sub h' h) (f : Frz h' h v r) : RetP h r v h' := ⟨r, s, f, rfl⟩

theorem frz2 {x y x' y' : AV} (f1 : Frz h' h x x') (f2 : Frz h' h y y') : ∀ (j : Nat) (hj : j < [x', y'].length) (hk : j < [x, y].length), Frz h' h [x, y][j] [x', y'][j] := by
  intro j hj hk
  match j, hj with
  | 0, _ => exact f1
  | 1, _ => exact f2
theorem frz3 {x y z x' y' z' : AV} (f1 : Frz h' h x x') (f2 : Frz h' h y y') (f3 : Frz h' h z z') : ∀ (j : Nat) (hj : j < [x', y', z'].length) (hk : j < [x, y, z].length), Frz h' h [x, y, z][j] [x', y', z'][j] := by
  intro j hj hk
  match j, hj with
  | 0, _ => exact f1
  | 1, _ => exact f2
  | 2, _ => exact f3


/-- A live slice is frozen, in one slot. -/
theorem Fz_one {g : Hp} {s b n sz : Nat} {cs : List AV} {Q : Fr → Hp → Prop} (hs : fr s = .sl b 0 n sz) (hb : h b = some cs) (hg : g b = none) (k : Kp g h) (hn : n * sz = cs.length) (q : Q (upd fr s (.fs n cs)) g) : Fz [s] Q fr h :=
  ⟨g, [.fs n cs], k.sub, ⟨hs ▸ Frz.slk hb hg hn, trivial⟩, q⟩

theorem Fz_own {g : Hp} {sz : Nat} {s n : Nat} {v : AV} {cs : List AV} {Q : Fr → Hp → Prop} (hs : fr s = v) (o : Own sz F h v n cs) (k : Kp g F) (q : Q (upd fr s (gl n cs)) g) : Fz [s] Q fr h :=
  ⟨g, [gl n cs], (o.frz k).1, ⟨hs ▸ (o.frz k).2, trivial⟩, q⟩

/-- copy within a block, one up. -/
theorem cpy_up {b m : Nat} {os : List Int} {K : AV → Hp → Prop} (hb : h b = some (ints os)) (hm : os.length = m) (h0 : 0 < m) :
    cpyW (.sl b 1 (m - 1) 1) (.sl b 0 (m - 1) 1) h K = K (I ((m - 1 : Nat) : Int)) (hset h b (ints (os.take 1 ++ os.take (m - 1)))) := by
  have hr : readS h (.sl b 0 (m - 1) 1) 1 = some (m - 1, ints (os.take (m - 1))) := by
    simp [readS, hb, ints_length, ints_take]
    omega
  have e1 : List.take (m - 1) (ints (os.take (m - 1))) = ints (os.take (m - 1)) := List.take_of_length_le (by rw [ints_length, List.length_take]; omega)
  have e : splice (ints os) 1 (ints (os.take (m - 1))) = ints (os.take 1 ++ os.take (m - 1)) := by
    unfold splice
    rw [ints_length, List.length_take, List.drop_eq_nil_of_le (by rw [ints_length]; omega), List.append_nil, ints_take, ints_append]
  have e2 : Nat.min (m - 1) (m - 1) = m - 1 := Nat.min_self _
  unfold cpyW
  rw [hr]
  simp only [hb, e2, e1, e]
  apply propext
  refine ⟨fun hh => hh.2.2, fun hh => ⟨trivial, by rw [ints_length]; omega, hh⟩⟩
end
end Go.AM
