/- The information flow graph, as lists. -/
import Derived.Test.YtmihmgnjnedfcaaS3
set_option maxRecDepth 100000
set_option linter.unusedSimpArgs false
set_option linter.unusedVariables false
namespace Go.AM.Ytmihmgnjnedfcaa
open Go Go.AM
attribute [local simp ↓] awp_seq awp_reg awp_skip awp_cond awp_block awp_exit awp_ret awp_fz thenW_normal thenW_exit thenW_ret inBlk_normal inBlk_exit inBlk_ret aops_cons aops_nil e_mv e_guard e_pick e_ld e_app e_cpy e_st e_call callW_f updO_some updO_none e_bin e_isnil e_fadr e_iadr e_iarr e_len e_build e_mkf e_nc e_not e_neg e_cvt e_slc e_fld e_ext e_min e_eqs e_new e_box e_mkl e_mks
attribute [local simp] upd_apply ev_t ev_k ev_f binA_add binA_sub binA_mul binA_quo binA_rem binA_eql binA_neq binA_lss binA_leq binA_gtr binA_geq det mem frame0 keeps_nil iadrA_sl fadrA_ref fadrA_fp ldv_agg ldv_one cells_base hset_same hset_hset lenA_fs lenA_sl lenA_nils zeros_ints ints_length one_base one_nilp one_nils one_ref one_sl one_fp one_fs one_fn gl_one resA resOf bound natOf afill splice AV.cells cells_agg bindW_some condW_true condW_false condW_dec condW_ndec guardW_tup guardW_true guardW_true' guardW_false guardW_false' allocW_some pickA_true pickA_false
abbrev Arcs := List (Int × Int × Int)

/-- The cells of a list of arcs. -/
def arcC : Arcs → List AV
  | [] => []
  | (x, y, z) :: r => I x :: I y :: I z :: arcC r

def gA0 (n : Nat) : Arcs := (List.range n).map fun (v : Nat) => ((0 : Int), 2 * (v : Int) + 1, 1099511627776)
def gA1 (m : Nat) (a : Int) : Arcs := (List.range m).map fun (v : Nat) => (2 * (v : Int) + 1, 2 * (v : Int) + 2, a)
def gA2 (last : List Int) (to b : Int) (hs : List Int) : Arcs := hs.map fun x => (2 * last.getD x.toNat 0 + 2, to, b)

/-- The arcs of the repairs from number i on, and the last versions. -/
def gH (n b : Int) : Nat → List Int → Hist → Arcs × List Int
  | _, last, [] => ([], last)
  | i, last, (v, hs) :: r => (gA2 last (2 * (n + i) + 1) b hs ++ (gH n b (i + 1) (last.set v.toNat (n + i)) r).1, (gH n b (i + 1) (last.set v.toNat (n + i)) r).2)

def gL0 (n : Nat) : List Int := (List.range n).map fun (v : Nat) => (v : Int)

def graphA (n : Nat) (a b : Int) (H : Hist) (col : List Int) : Arcs :=
  gA0 n ++ gA1 (n + H.length) a ++ (gH n b 0 (gL0 n) H).1 ++ gA2 (gH n b 0 (gL0 n) H).2 (2 * ((n : Int) + H.length) + 1) 1099511627776 col

theorem arcC_length : ∀ (A : Arcs), (arcC A).length = A.length * 3
  | [] => rfl
  | (x, y, z) :: r => by simp only [arcC, List.length_cons, arcC_length r]; omega

theorem arcC_append : ∀ (A B : Arcs), arcC (A ++ B) = arcC A ++ arcC B
  | [], B => rfl
  | (x, y, z) :: r, B => by simp only [List.cons_append, arcC, arcC_append r B]

theorem gH_append (n b : Int) : ∀ (A B : Hist) (i : Nat) (last : List Int), gH n b i last (A ++ B) = ((gH n b i last A).1 ++ (gH n b (i + A.length) (gH n b i last A).2 B).1, (gH n b (i + A.length) (gH n b i last A).2 B).2)
  | [], B, i, last => by simp [gH]
  | (v, hs) :: A, B, i, last => by
    simp only [List.cons_append, gH, gH_append n b A B, List.length_cons, List.append_assoc]
    rw [show i + 1 + A.length = i + (A.length + 1) by omega]

theorem gH_len (n b : Int) : ∀ (A : Hist) (i : Nat) (last : List Int), (gH n b i last A).2.length = last.length
  | [], i, last => rfl
  | (v, hs) :: A, i, last => by simp only [gH]; rw [gH_len]; simp
end Go.AM.Ytmihmgnjnedfcaa
