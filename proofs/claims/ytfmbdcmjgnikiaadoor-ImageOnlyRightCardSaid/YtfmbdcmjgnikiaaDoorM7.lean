/- Digests: what the small codes compute. Conditions: none. The reference's trees, and the proofs' check: what the small codes compute. Conditions: none. The reference's and the program's check of a proof. Conditions: none. The program's check of a proof. Conditions: none. Comparisons, looks over lists, notices. Conditions: none. The reference's root. Conditions: none. -/
import Derived.Test.YtfmbdcmjgnikiaaDoorM4
import Derived.Test.YtfmbdcmjgnikiaaDoorM6
set_option linter.unusedSimpArgs false
set_option linter.unusedVariables false
namespace Go.Proofs.YtfmbdcmjgnikiaaDoor.Sm
open Go Go.RowKit

def stepI (x w : Int) : Int := IntKind.u64.wrap (xorI .u64 x w * 1099511628211)
def addI (x : Int) (b : List UInt8) : Int := b.foldl (fun x c => stepI x (c.toNat : Int)) x
def sumI (b : List UInt8) : Int := addI 14695981039346656037 b
def leafI (b : List UInt8) : Int := addI (stepI 14695981039346656037 0) b
def pairI (a b : Int) : Int := stepI (stepI 3750763034362895578 a) b
theorem addI_c {x : Int} {c : UInt8} {b : List UInt8} : addI x (c :: b) = addI (stepI x (c.toNat : Int)) b := rfl
theorem addI_n {x : Int} : addI x [] = x := rfl
theorem f_digest_number_step {x w : Int} {st : St} {Q : SV → St → Prop} : WpF XX .ro n_digest_number_step [.int .u64 x, .int .u64 w] st Q ↔ Q (.int .u64 (stepI x w)) st := by
  rw [F_ro (mf := m_digest_number_step) rfl rfl]
  simp only [m_digest_number_step, bC, bW, wpY', evR, evW, idx, ldc, okV, sub, setc, buildC, bnd, resOf, resL, res1, xorB, take2L, take2, takeL, take1, appF, rowOf, elemOk, plain, pl1, isRow, cellB, srcOf, LIM, Option.some.injEq, exists_eq_left', exists_eq_left, Prod.mk.injEq, if_true, if_false, ite_true, ite_false, ne_eq, eq_self, reduceCtorEq, ↓reduceIte, Nat.reduceEqDiff, Nat.reduceAdd, Nat.reduceSub, Nat.reduceMul, Nat.reduceLT, Nat.reduceLeDiff, Nat.reduceBEq, Nat.reduceBNe, Nat.reduceMod, Nat.reduceDiv, Nat.reducePow, Int.reduceEq, Int.reduceLT, Int.reduceLE, Int.reduceNeg, Int.reduceAdd, Int.reduceSub, Int.reduceMul, Int.reduceToNat, Int.reduceBEq, Int.reduceBNe, stepI]

theorem words_in {re : Env} (hre : getE re 5 = .ptr 0 0) {b : List UInt8} {nl tg : Bool} (hb : b.length < 4611686018427387904) {v7 v8 v9 : SV} {h1 : List SV} {Q : Ex → St → Prop} : ∀ (d k : Nat) (x : Int), k + d = b.length →
    (L_digest_words_1_0 XX (.yld 2) v7 v8 v9 (.tree (b.map b8) nl tg) (.int .i64 b.length) (.int .i64 k) [(1, h1), (0, [.int .u64 x])] 3 [(2, ⟨re, [11], a_digest_Add_0, y_digest_Add_0, 0, .norm⟩)] 0 Q ↔
    Q (.exit 2) ⟨[(0, .yld 2), (7, v7), (8, v8), (9, v9)], [(1, h1), (0, [.int .u64 (addI x (b.drop k))])], 3, [(2, ⟨re, [11], a_digest_Add_0, y_digest_Add_0, 0, .norm⟩)], 0⟩) := by
  intro d
  induction d with
  | zero =>
    intro k x hk
    obtain rfl : k = b.length := by omega
    rw [L_digest_words_1_0_unf]
    simp only [b_digest_words_1_0, bC, bW, wpY', evR, evW, idx, ldc, okV, sub, setc, buildC, bnd, resOf, resL, res1, xorB, take2L, take2, takeL, take1, appF, rowOf, elemOk, plain, pl1, isRow, cellB, srcOf, LIM, Option.some.injEq, exists_eq_left', exists_eq_left, Prod.mk.injEq, if_true, if_false, ite_true, ite_false, ne_eq, eq_self, reduceCtorEq, ↓reduceIte, Nat.reduceEqDiff, Nat.reduceAdd, Nat.reduceSub, Nat.reduceMul, Nat.reduceLT, Nat.reduceLeDiff, Nat.reduceBEq, Nat.reduceBNe, Nat.reduceMod, Nat.reduceDiv, Nat.reducePow, Int.reduceEq, Int.reduceLT, Int.reduceLE, Int.reduceNeg, Int.reduceAdd, Int.reduceSub, Int.reduceMul, Int.reduceToNat, Int.reduceBEq, Int.reduceBNe, Int.lt_irrefl, List.drop_length, addI_n]
  | succ d ih =>
    intro k x hk
    have hlt : k < b.length := by omega
    obtain ⟨c, hc, hd⟩ := get_some hlt
    rw [L_digest_words_1_0_unf]
    simp only [b_digest_words_1_0, bC, bW, wpY', evR, evW, idx, ldc, okV, sub, setc, buildC, bnd, resOf, resL, res1, xorB, take2L, take2, takeL, take1, appF, rowOf, elemOk, plain, pl1, isRow, cellB, srcOf, LIM, Option.some.injEq, exists_eq_left', exists_eq_left, Prod.mk.injEq, if_true, if_false, ite_true, ite_false, ne_eq, eq_self, reduceCtorEq, ↓reduceIte, Nat.reduceEqDiff, Nat.reduceAdd, Nat.reduceSub, Nat.reduceMul, Nat.reduceLT, Nat.reduceLeDiff, Nat.reduceBEq, Nat.reduceBNe, Nat.reduceMod, Nat.reduceDiv, Nat.reducePow, Int.reduceEq, Int.reduceLT, Int.reduceLE, Int.reduceNeg, Int.reduceAdd, Int.reduceSub, Int.reduceMul, Int.reduceToNat, Int.reduceBEq, Int.reduceBNe, lt_c hlt, hc, b8_eq, wu_b8, a_digest_Add_0, y_digest_Add_0, hre, f_digest_number_step, L_digest_words_1_0_eq, wi_s hlt (by omega), hd, addI_c]
    exact ih (k + 1) _ (by omega)

theorem f_digest_Add {x : Int} {b : List UInt8} {nl tg : Bool} (hb : b.length < 4611686018427387904) {st : St} {Q : SV → St → Prop} : WpF XX .ro n_digest_Add [.int .u64 x, .tree (b.map b8) nl tg] st Q ↔ Q (.int .u64 (addI x b)) st := by
  rw [F_ro (mf := m_digest_Add) rfl rfl]
  simp only [m_digest_Add, bC, bW, wpY', evR, evW, idx, ldc, okV, sub, setc, buildC, bnd, resOf, resL, res1, xorB, take2L, take2, takeL, take1, appF, rowOf, elemOk, plain, pl1, isRow, cellB, srcOf, LIM, Option.some.injEq, exists_eq_left', exists_eq_left, Prod.mk.injEq, if_true, if_false, ite_true, ite_false, ne_eq, eq_self, reduceCtorEq, ↓reduceIte, Nat.reduceEqDiff, Nat.reduceAdd, Nat.reduceSub, Nat.reduceMul, Nat.reduceLT, Nat.reduceLeDiff, Nat.reduceBEq, Nat.reduceBNe, Nat.reduceMod, Nat.reduceDiv, Nat.reducePow, Int.reduceEq, Int.reduceLT, Int.reduceLE, Int.reduceNeg, Int.reduceAdd, Int.reduceSub, Int.reduceMul, Int.reduceToNat, Int.reduceBEq, Int.reduceBNe, F_rw (X := XX) (f := n_digest_words) (mf := m_digest_words) rfl, m_digest_words, g_digest_Add_0, F_rw (X := XX) (f := n_digest_words_1) (mf := m_digest_words_1) rfl, m_digest_words_1]
  have w0 := fun re hre v7 v8 v9 h1 Q => words_in (re := re) hre (b := b) (nl := nl) (tg := tg) hb (v7 := v7) (v8 := v8) (v9 := v9) (h1 := h1) (Q := Q) b.length 0 x (by omega)
  simp only [Int.cast_ofNat_Int, List.drop_zero] at w0
  simp only [L_digest_words_1_1_eq, bC, bW, wpY', evR, evW, idx, ldc, okV, sub, setc, buildC, bnd, resOf, resL, res1, xorB, take2L, take2, takeL, take1, appF, rowOf, elemOk, plain, pl1, isRow, cellB, srcOf, LIM, Option.some.injEq, exists_eq_left', exists_eq_left, Prod.mk.injEq, if_true, if_false, ite_true, ite_false, ne_eq, eq_self, reduceCtorEq, ↓reduceIte, Nat.reduceEqDiff, Nat.reduceAdd, Nat.reduceSub, Nat.reduceMul, Nat.reduceLT, Nat.reduceLeDiff, Nat.reduceBEq, Nat.reduceBNe, Nat.reduceMod, Nat.reduceDiv, Nat.reducePow, Int.reduceEq, Int.reduceLT, Int.reduceLE, Int.reduceNeg, Int.reduceAdd, Int.reduceSub, Int.reduceMul, Int.reduceToNat, Int.reduceBEq, Int.reduceBNe]
  rw [L_digest_words_1_1_unf]
  simp only [b_digest_words_1_1, bC, bW, wpY', evR, evW, idx, ldc, okV, sub, setc, buildC, bnd, resOf, resL, res1, xorB, take2L, take2, takeL, take1, appF, rowOf, elemOk, plain, pl1, isRow, cellB, srcOf, LIM, Option.some.injEq, exists_eq_left', exists_eq_left, Prod.mk.injEq, if_true, if_false, ite_true, ite_false, ne_eq, eq_self, reduceCtorEq, ↓reduceIte, Nat.reduceEqDiff, Nat.reduceAdd, Nat.reduceSub, Nat.reduceMul, Nat.reduceLT, Nat.reduceLeDiff, Nat.reduceBEq, Nat.reduceBNe, Nat.reduceMod, Nat.reduceDiv, Nat.reducePow, Int.reduceEq, Int.reduceLT, Int.reduceLE, Int.reduceNeg, Int.reduceAdd, Int.reduceSub, Int.reduceMul, Int.reduceToNat, Int.reduceBEq, Int.reduceBNe, L_digest_words_1_0_eq, L_digest_words_1_1_eq, w0, wi]
  rw [L_digest_words_1_1_unf]
  simp only [b_digest_words_1_1, bC, bW, wpY', evR, evW, idx, ldc, okV, sub, setc, buildC, bnd, resOf, resL, res1, xorB, take2L, take2, takeL, take1, appF, rowOf, elemOk, plain, pl1, isRow, cellB, srcOf, LIM, Option.some.injEq, exists_eq_left', exists_eq_left, Prod.mk.injEq, if_true, if_false, ite_true, ite_false, ne_eq, eq_self, reduceCtorEq, ↓reduceIte, Nat.reduceEqDiff, Nat.reduceAdd, Nat.reduceSub, Nat.reduceMul, Nat.reduceLT, Nat.reduceLeDiff, Nat.reduceBEq, Nat.reduceBNe, Nat.reduceMod, Nat.reduceDiv, Nat.reducePow, Int.reduceEq, Int.reduceLT, Int.reduceLE, Int.reduceNeg, Int.reduceAdd, Int.reduceSub, Int.reduceMul, Int.reduceToNat, Int.reduceBEq, Int.reduceBNe]

def zb : List UInt8 := [0]
theorem zb_l : zb.length < 4611686018427387904 := by decide
theorem f_digest_Sum {b : List UInt8} {nl tg : Bool} (hb : b.length < 4611686018427387904) {st : St} {Q : SV → St → Prop} : WpF XX .ro n_digest_Sum [.tree (b.map b8) nl tg] st Q ↔ Q (.int .u64 (sumI b)) st := by
  rw [F_ro (mf := m_digest_Sum) rfl rfl]
  simp only [m_digest_Sum, bC, bW, wpY', evR, evW, idx, ldc, okV, sub, setc, buildC, bnd, resOf, resL, res1, xorB, take2L, take2, takeL, take1, appF, rowOf, elemOk, plain, pl1, isRow, cellB, srcOf, LIM, Option.some.injEq, exists_eq_left', exists_eq_left, Prod.mk.injEq, if_true, if_false, ite_true, ite_false, ne_eq, eq_self, reduceCtorEq, ↓reduceIte, Nat.reduceEqDiff, Nat.reduceAdd, Nat.reduceSub, Nat.reduceMul, Nat.reduceLT, Nat.reduceLeDiff, Nat.reduceBEq, Nat.reduceBNe, Nat.reduceMod, Nat.reduceDiv, Nat.reducePow, Int.reduceEq, Int.reduceLT, Int.reduceLE, Int.reduceNeg, Int.reduceAdd, Int.reduceSub, Int.reduceMul, Int.reduceToNat, Int.reduceBEq, Int.reduceBNe, f_digest_Add hb, sumI]
theorem z_digest_Sum {st : St} {Q : SV → St → Prop} : WpF XX .ro n_digest_Sum [.tree [.int .u8 0] false true] st Q ↔ Q (.int .u64 (stepI 14695981039346656037 0)) st := f_digest_Sum (nl := false) (tg := true) zb_l
theorem f_digest_Pair {a b : Int} {st : St} {Q : SV → St → Prop} : WpF XX .ro n_digest_Pair [.int .u64 a, .int .u64 b] st Q ↔ Q (.int .u64 (pairI a b)) st := by
  rw [F_ro (mf := m_digest_Pair) rfl rfl]
  simp only [m_digest_Pair, bC, bW, wpY', evR, evW, idx, ldc, okV, sub, setc, buildC, bnd, resOf, resL, res1, xorB, take2L, take2, takeL, take1, appF, rowOf, elemOk, plain, pl1, isRow, cellB, srcOf, LIM, Option.some.injEq, exists_eq_left', exists_eq_left, Prod.mk.injEq, if_true, if_false, ite_true, ite_false, ne_eq, eq_self, reduceCtorEq, ↓reduceIte, Nat.reduceEqDiff, Nat.reduceAdd, Nat.reduceSub, Nat.reduceMul, Nat.reduceLT, Nat.reduceLeDiff, Nat.reduceBEq, Nat.reduceBNe, Nat.reduceMod, Nat.reduceDiv, Nat.reducePow, Int.reduceEq, Int.reduceLT, Int.reduceLE, Int.reduceNeg, Int.reduceAdd, Int.reduceSub, Int.reduceMul, Int.reduceToNat, Int.reduceBEq, Int.reduceBNe, f_digest_number_step, pairI]

theorem L_ref05_Add {b : List UInt8} {nl tg : Bool} (hb : b.length < 4611686018427387904) {h : Heap} {nx wb : Nat} {ls : List (Nat × LRec)} {Q : Ex → St → Prop} : ∀ (d k : Nat) (x : Int), k + d = b.length →
    (L_ref05_Add_0 XX (.int .u64 x) (.tree (b.map b8) nl tg) (.int .i64 k) h nx ls wb Q ↔ Q (.exit 0) ⟨[(0, .int .u64 (addI x (b.drop k)))], h, nx, ls, wb⟩) := by
  intro d
  induction d with
  | zero =>
    intro k x hk
    obtain rfl : k = b.length := by omega
    rw [L_ref05_Add_0_unf]
    simp only [b_ref05_Add_0, bC, bW, wpY', evR, evW, idx, ldc, okV, sub, setc, buildC, bnd, resOf, resL, res1, xorB, take2L, take2, takeL, take1, appF, rowOf, elemOk, plain, pl1, isRow, cellB, srcOf, LIM, Option.some.injEq, exists_eq_left', exists_eq_left, Prod.mk.injEq, if_true, if_false, ite_true, ite_false, ne_eq, eq_self, reduceCtorEq, ↓reduceIte, Nat.reduceEqDiff, Nat.reduceAdd, Nat.reduceSub, Nat.reduceMul, Nat.reduceLT, Nat.reduceLeDiff, Nat.reduceBEq, Nat.reduceBNe, Nat.reduceMod, Nat.reduceDiv, Nat.reducePow, Int.reduceEq, Int.reduceLT, Int.reduceLE, Int.reduceNeg, Int.reduceAdd, Int.reduceSub, Int.reduceMul, Int.reduceToNat, Int.reduceBEq, Int.reduceBNe, Int.lt_irrefl, List.drop_length, addI_n]
  | succ d ih =>
    intro k x hk
    have hlt : k < b.length := by omega
    obtain ⟨c, hc, hd⟩ := get_some hlt
    rw [L_ref05_Add_0_unf]
    simp only [b_ref05_Add_0, bC, bW, wpY', evR, evW, idx, ldc, okV, sub, setc, buildC, bnd, resOf, resL, res1, xorB, take2L, take2, takeL, take1, appF, rowOf, elemOk, plain, pl1, isRow, cellB, srcOf, LIM, Option.some.injEq, exists_eq_left', exists_eq_left, Prod.mk.injEq, if_true, if_false, ite_true, ite_false, ne_eq, eq_self, reduceCtorEq, ↓reduceIte, Nat.reduceEqDiff, Nat.reduceAdd, Nat.reduceSub, Nat.reduceMul, Nat.reduceLT, Nat.reduceLeDiff, Nat.reduceBEq, Nat.reduceBNe, Nat.reduceMod, Nat.reduceDiv, Nat.reducePow, Int.reduceEq, Int.reduceLT, Int.reduceLE, Int.reduceNeg, Int.reduceAdd, Int.reduceSub, Int.reduceMul, Int.reduceToNat, Int.reduceBEq, Int.reduceBNe, lt_c hlt, hc, b8_eq, wu_b8, L_ref05_Add_0_eq, wi_s hlt (by omega), hd, addI_c, stepI]
    exact ih (k + 1) _ (by omega)
theorem f_ref05_Add {x : Int} {b : List UInt8} {nl tg : Bool} (hb : b.length < 4611686018427387904) {st : St} {Q : SV → St → Prop} : WpF XX .ro n_ref05_Add [.int .u64 x, .tree (b.map b8) nl tg] st Q ↔ Q (.int .u64 (addI x b)) st := by
  rw [F_ro (mf := m_ref05_Add) rfl rfl]
  have w0 := fun h nx wb ls Q => L_ref05_Add (b := b) (nl := nl) (tg := tg) hb (h := h) (nx := nx) (wb := wb) (ls := ls) (Q := Q) b.length 0 x (by omega)
  simp only [Int.cast_ofNat_Int, List.drop_zero] at w0
  simp only [m_ref05_Add, bC, bW, wpY', evR, evW, idx, ldc, okV, sub, setc, buildC, bnd, resOf, resL, res1, xorB, take2L, take2, takeL, take1, appF, rowOf, elemOk, plain, pl1, isRow, cellB, srcOf, LIM, Option.some.injEq, exists_eq_left', exists_eq_left, Prod.mk.injEq, if_true, if_false, ite_true, ite_false, ne_eq, eq_self, reduceCtorEq, ↓reduceIte, Nat.reduceEqDiff, Nat.reduceAdd, Nat.reduceSub, Nat.reduceMul, Nat.reduceLT, Nat.reduceLeDiff, Nat.reduceBEq, Nat.reduceBNe, Nat.reduceMod, Nat.reduceDiv, Nat.reducePow, Int.reduceEq, Int.reduceLT, Int.reduceLE, Int.reduceNeg, Int.reduceAdd, Int.reduceSub, Int.reduceMul, Int.reduceToNat, Int.reduceBEq, Int.reduceBNe, L_ref05_Add_0_eq, w0]
theorem f_ref05_Sum {b : List UInt8} {nl tg : Bool} (hb : b.length < 4611686018427387904) {st : St} {Q : SV → St → Prop} : WpF XX .ro n_ref05_Sum [.tree (b.map b8) nl tg] st Q ↔ Q (.int .u64 (sumI b)) st := by
  rw [F_ro (mf := m_ref05_Sum) rfl rfl]
  simp only [m_ref05_Sum, bC, bW, wpY', evR, evW, idx, ldc, okV, sub, setc, buildC, bnd, resOf, resL, res1, xorB, take2L, take2, takeL, take1, appF, rowOf, elemOk, plain, pl1, isRow, cellB, srcOf, LIM, Option.some.injEq, exists_eq_left', exists_eq_left, Prod.mk.injEq, if_true, if_false, ite_true, ite_false, ne_eq, eq_self, reduceCtorEq, ↓reduceIte, Nat.reduceEqDiff, Nat.reduceAdd, Nat.reduceSub, Nat.reduceMul, Nat.reduceLT, Nat.reduceLeDiff, Nat.reduceBEq, Nat.reduceBNe, Nat.reduceMod, Nat.reduceDiv, Nat.reducePow, Int.reduceEq, Int.reduceLT, Int.reduceLE, Int.reduceNeg, Int.reduceAdd, Int.reduceSub, Int.reduceMul, Int.reduceToNat, Int.reduceBEq, Int.reduceBNe, f_ref05_Add hb, sumI]
theorem z_ref05_Sum {st : St} {Q : SV → St → Prop} : WpF XX .ro n_ref05_Sum [.tree [.int .u8 0] false true] st Q ↔ Q (.int .u64 (stepI 14695981039346656037 0)) st := f_ref05_Sum (nl := false) (tg := true) zb_l
theorem f_ref05_Pair {a b : Int} {st : St} {Q : SV → St → Prop} : WpF XX .ro n_ref05_Pair [.int .u64 a, .int .u64 b] st Q ↔ Q (.int .u64 (pairI a b)) st := by
  rw [F_ro (mf := m_ref05_Pair) rfl rfl]
  simp only [m_ref05_Pair, bC, bW, wpY', evR, evW, idx, ldc, okV, sub, setc, buildC, bnd, resOf, resL, res1, xorB, take2L, take2, takeL, take1, appF, rowOf, elemOk, plain, pl1, isRow, cellB, srcOf, LIM, Option.some.injEq, exists_eq_left', exists_eq_left, Prod.mk.injEq, if_true, if_false, ite_true, ite_false, ne_eq, eq_self, reduceCtorEq, ↓reduceIte, Nat.reduceEqDiff, Nat.reduceAdd, Nat.reduceSub, Nat.reduceMul, Nat.reduceLT, Nat.reduceLeDiff, Nat.reduceBEq, Nat.reduceBNe, Nat.reduceMod, Nat.reduceDiv, Nat.reducePow, Int.reduceEq, Int.reduceLT, Int.reduceLE, Int.reduceNeg, Int.reduceAdd, Int.reduceSub, Int.reduceMul, Int.reduceToNat, Int.reduceBEq, Int.reduceBNe, pairI, stepI]
theorem leaf_eq (b : List UInt8) : addI (sumI [0]) b = leafI b := rfl
theorem f_ref35_Leaf {b : List UInt8} {nl tg : Bool} (hb : b.length < 4611686018427387904) {st : St} {Q : SV → St → Prop} : WpF XX .ro n_ref35_Leaf [.tree (b.map b8) nl tg] st Q ↔ Q (.int .u64 (leafI b)) st := by
  rw [F_ro (mf := m_ref35_Leaf) rfl rfl]
  simp only [m_ref35_Leaf, bC, bW, wpY', evR, evW, idx, ldc, okV, sub, setc, buildC, bnd, resOf, resL, res1, xorB, take2L, take2, takeL, take1, appF, rowOf, elemOk, plain, pl1, isRow, cellB, srcOf, LIM, Option.some.injEq, exists_eq_left', exists_eq_left, Prod.mk.injEq, if_true, if_false, ite_true, ite_false, ne_eq, eq_self, reduceCtorEq, ↓reduceIte, Nat.reduceEqDiff, Nat.reduceAdd, Nat.reduceSub, Nat.reduceMul, Nat.reduceLT, Nat.reduceLeDiff, Nat.reduceBEq, Nat.reduceBNe, Nat.reduceMod, Nat.reduceDiv, Nat.reducePow, Int.reduceEq, Int.reduceLT, Int.reduceLE, Int.reduceNeg, Int.reduceAdd, Int.reduceSub, Int.reduceMul, Int.reduceToNat, Int.reduceBEq, Int.reduceBNe, z_ref05_Sum, f_ref05_Add hb, leafI]
theorem f_tree_leaf {b : List UInt8} {nl0 tg0 : Bool} (hb : b.length < 4611686018427387904) {nl tg : Bool} {st : St} {Q : SV → St → Prop} : WpF XX .ro n_tree_leaf [.tree [.tree (b.map b8) nl0 tg0] nl tg] st Q ↔ Q (.int .u64 (leafI b)) st := by
  rw [F_ro (mf := m_tree_leaf) rfl rfl]
  simp only [m_tree_leaf, bC, bW, wpY', evR, evW, idx, ldc, okV, sub, setc, buildC, bnd, resOf, resL, res1, xorB, take2L, take2, takeL, take1, appF, rowOf, elemOk, plain, pl1, isRow, cellB, srcOf, LIM, Option.some.injEq, exists_eq_left', exists_eq_left, Prod.mk.injEq, if_true, if_false, ite_true, ite_false, ne_eq, eq_self, reduceCtorEq, ↓reduceIte, Nat.reduceEqDiff, Nat.reduceAdd, Nat.reduceSub, Nat.reduceMul, Nat.reduceLT, Nat.reduceLeDiff, Nat.reduceBEq, Nat.reduceBNe, Nat.reduceMod, Nat.reduceDiv, Nat.reducePow, Int.reduceEq, Int.reduceLT, Int.reduceLE, Int.reduceNeg, Int.reduceAdd, Int.reduceSub, Int.reduceMul, Int.reduceToNat, Int.reduceBEq, Int.reduceBNe, z_digest_Sum, L_tree_leaf_0_eq]
  rw [L_tree_leaf_0_unf]
  simp only [b_tree_leaf_0, bC, bW, wpY', evR, evW, idx, ldc, okV, sub, setc, buildC, bnd, resOf, resL, res1, xorB, take2L, take2, takeL, take1, appF, rowOf, elemOk, plain, pl1, isRow, cellB, srcOf, LIM, Option.some.injEq, exists_eq_left', exists_eq_left, Prod.mk.injEq, if_true, if_false, ite_true, ite_false, ne_eq, eq_self, reduceCtorEq, ↓reduceIte, Nat.reduceEqDiff, Nat.reduceAdd, Nat.reduceSub, Nat.reduceMul, Nat.reduceLT, Nat.reduceLeDiff, Nat.reduceBEq, Nat.reduceBNe, Nat.reduceMod, Nat.reduceDiv, Nat.reducePow, Int.reduceEq, Int.reduceLT, Int.reduceLE, Int.reduceNeg, Int.reduceAdd, Int.reduceSub, Int.reduceMul, Int.reduceToNat, Int.reduceBEq, Int.reduceBNe, L_tree_leaf_0_eq, f_digest_Add hb, wi]
  rw [L_tree_leaf_0_unf]
  simp only [b_tree_leaf_0, bC, bW, wpY', evR, evW, idx, ldc, okV, sub, setc, buildC, bnd, resOf, resL, res1, xorB, take2L, take2, takeL, take1, appF, rowOf, elemOk, plain, pl1, isRow, cellB, srcOf, LIM, Option.some.injEq, exists_eq_left', exists_eq_left, Prod.mk.injEq, if_true, if_false, ite_true, ite_false, ne_eq, eq_self, reduceCtorEq, ↓reduceIte, Nat.reduceEqDiff, Nat.reduceAdd, Nat.reduceSub, Nat.reduceMul, Nat.reduceLT, Nat.reduceLeDiff, Nat.reduceBEq, Nat.reduceBNe, Nat.reduceMod, Nat.reduceDiv, Nat.reducePow, Int.reduceEq, Int.reduceLT, Int.reduceLE, Int.reduceNeg, Int.reduceAdd, Int.reduceSub, Int.reduceMul, Int.reduceToNat, Int.reduceBEq, Int.reduceBNe, leafI]
end Go.Proofs.YtfmbdcmjgnikiaaDoor.Sm
namespace Go.Proofs.YtfmbdcmjgnikiaaDoor.Sm
open Go Go.RowKit

/-! ### plain functions -/
def partner (i : Nat) : Nat := if i % 2 = 0 then i + 1 else i - 1
def otherI (i n : Nat) : Int := if n ≤ partner i then -1 else (partner i : Int)
def lenF : Nat → Nat → Nat → Nat
  | 0, _, _ => 0
  | f + 1, n, i => if 1 < n then (if partner i < n then 1 else 0) + lenF f ((n + 1) / 2) (i / 2) else 0
/-- From a leaf up to the root. -/
def climb : Nat → Nat → Nat → Int → List Int → Option Int
  | 0, _, _, x, ps => if ps = [] then some x else none
  | f + 1, n, i, x, ps => if 1 < n then
      (if partner i < n then (match ps with
        | [] => none
        | p :: ps => climb f ((n + 1) / 2) (i / 2) (if i % 2 = 1 then pairI p x else pairI x p) ps)
      else climb f ((n + 1) / 2) (i / 2) x ps)
    else if ps = [] then some x else none
def checkI (root n i : Int) (page : List UInt8) (proof : List Int) : Bool :=
  decide (1 ≤ n) && decide (n ≤ 16) && decide (0 ≤ i) && decide (i < n) && decide (page.length ≤ 256) && decide (climb 16 n.toNat i.toNat (leafI page) proof = some root)

theorem half_s {n : Nat} (h : n < 4611686018427387904) : IntKind.i64.wrap ((IntKind.i64.wrap ((n : Int) + 1)).tdiv 2) = (((n + 1) / 2 : Nat) : Int) := by
  rw [wi ((n : Int) + 1) (by omega) (by omega), Int.tdiv_eq_ediv_of_nonneg (by omega), wi _ (by omega) (by omega)]
  omega
theorem half_i {i : Nat} (h : i < 4611686018427387904) : IntKind.i64.wrap ((i : Int).tdiv 2) = ((i / 2 : Nat) : Int) := by
  rw [Int.tdiv_eq_ediv_of_nonneg (by omega), wi _ (by omega) (by omega)]
  omega
theorem other_s {i : Nat} (h : i < 1152921504606846976) : IntKind.i64.wrap (IntKind.i64.wrap ((i : Int) + 1) - IntKind.i64.wrap (2 * (i : Int).tmod 2)) = (partner i : Int) := by
  rw [Int.tmod_eq_emod_of_nonneg (by omega), wi ((i : Int) + 1) (by omega) (by omega), wi (2 * _) (by omega) (by omega), wi _ (by omega) (by omega)]
  unfold partner
  split <;> omega
theorem f_ref35_other {i n : Nat} (h : i < 1152921504606846976) {st : St} {Q : SV → St → Prop} : WpF XX .ro n_ref35_other [.int .i64 i, .int .i64 n] st Q ↔ Q (.int .i64 (otherI i n)) st := by
  rw [F_ro (mf := m_ref35_other) rfl rfl]
  unfold otherI
  by_cases hn : n ≤ partner i
  · simp only [m_ref35_other, bC, bW, wpY', evR, evW, idx, ldc, okV, sub, setc, buildC, bnd, resOf, resL, res1, xorB, take2L, take2, takeL, take1, appF, rowOf, elemOk, plain, pl1, isRow, cellB, srcOf, LIM, Option.some.injEq, exists_eq_left', exists_eq_left, Prod.mk.injEq, if_true, if_false, ite_true, ite_false, ne_eq, eq_self, reduceCtorEq, ↓reduceIte, Nat.reduceEqDiff, Nat.reduceAdd, Nat.reduceSub, Nat.reduceMul, Nat.reduceLT, Nat.reduceLeDiff, Nat.reduceBEq, Nat.reduceBNe, Nat.reduceMod, Nat.reduceDiv, Nat.reducePow, Int.reduceEq, Int.reduceLT, Int.reduceLE, Int.reduceNeg, Int.reduceAdd, Int.reduceSub, Int.reduceMul, Int.reduceToNat, Int.reduceBEq, Int.reduceBNe, other_s h, Int.ofNat_le, hn]
  · simp only [m_ref35_other, bC, bW, wpY', evR, evW, idx, ldc, okV, sub, setc, buildC, bnd, resOf, resL, res1, xorB, take2L, take2, takeL, take1, appF, rowOf, elemOk, plain, pl1, isRow, cellB, srcOf, LIM, Option.some.injEq, exists_eq_left', exists_eq_left, Prod.mk.injEq, if_true, if_false, ite_true, ite_false, ne_eq, eq_self, reduceCtorEq, ↓reduceIte, Nat.reduceEqDiff, Nat.reduceAdd, Nat.reduceSub, Nat.reduceMul, Nat.reduceLT, Nat.reduceLeDiff, Nat.reduceBEq, Nat.reduceBNe, Nat.reduceMod, Nat.reduceDiv, Nat.reducePow, Int.reduceEq, Int.reduceLT, Int.reduceLE, Int.reduceNeg, Int.reduceAdd, Int.reduceSub, Int.reduceMul, Int.reduceToNat, Int.reduceBEq, Int.reduceBNe, other_s h, Int.ofNat_le, hn]
theorem otherI_nn (i n : Nat) : (0 ≤ otherI i n) = (partner i < n) := by
  unfold otherI
  split <;> simp <;> omega
theorem L_ref35_Length {h : Heap} {nx wb : Nat} {ls : List (Nat × LRec)} {Q : Ex → St → Prop} : ∀ (f n i m : Nat), n ≤ f + 1 → n < 1152921504606846976 → i < 1152921504606846976 → m + f < 1152921504606846976 →
    (L_ref35_Length_0 XX (.int .i64 n) (.int .i64 i) (.int .i64 m) h nx ls wb Q ↔ Q (.exit 0) ⟨[(5, .int .i64 (m + lenF f n i : Nat))], h, nx, ls, wb⟩) := by
  intro f
  induction f with
  | zero =>
    intro n i m hn _ hi hm
    rw [L_ref35_Length_0_unf]
    have : ¬ ((1 : Int) < (n : Int)) := by omega
    simp only [b_ref35_Length_0, bC, bW, wpY', evR, evW, idx, ldc, okV, sub, setc, buildC, bnd, resOf, resL, res1, xorB, take2L, take2, takeL, take1, appF, rowOf, elemOk, plain, pl1, isRow, cellB, srcOf, LIM, Option.some.injEq, exists_eq_left', exists_eq_left, Prod.mk.injEq, if_true, if_false, ite_true, ite_false, ne_eq, eq_self, reduceCtorEq, ↓reduceIte, Nat.reduceEqDiff, Nat.reduceAdd, Nat.reduceSub, Nat.reduceMul, Nat.reduceLT, Nat.reduceLeDiff, Nat.reduceBEq, Nat.reduceBNe, Nat.reduceMod, Nat.reduceDiv, Nat.reducePow, Int.reduceEq, Int.reduceLT, Int.reduceLE, Int.reduceNeg, Int.reduceAdd, Int.reduceSub, Int.reduceMul, Int.reduceToNat, Int.reduceBEq, Int.reduceBNe, this, lenF]
  | succ f ih =>
    intro n i m hn hn2 hi hm
    rw [L_ref35_Length_0_unf]
    by_cases h1 : 1 < n
    · have h1' : (1 : Int) < (n : Int) := by omega
      by_cases h2 : partner i < n
      · have h3 : IntKind.i64.wrap ((m : Int) + 1) = ((m + 1 : Nat) : Int) := by rw [wi _ (by omega) (by omega)]; rfl
        simp only [b_ref35_Length_0, bC, bW, wpY', evR, evW, idx, ldc, okV, sub, setc, buildC, bnd, resOf, resL, res1, xorB, take2L, take2, takeL, take1, appF, rowOf, elemOk, plain, pl1, isRow, cellB, srcOf, LIM, Option.some.injEq, exists_eq_left', exists_eq_left, Prod.mk.injEq, if_true, if_false, ite_true, ite_false, ne_eq, eq_self, reduceCtorEq, ↓reduceIte, Nat.reduceEqDiff, Nat.reduceAdd, Nat.reduceSub, Nat.reduceMul, Nat.reduceLT, Nat.reduceLeDiff, Nat.reduceBEq, Nat.reduceBNe, Nat.reduceMod, Nat.reduceDiv, Nat.reducePow, Int.reduceEq, Int.reduceLT, Int.reduceLE, Int.reduceNeg, Int.reduceAdd, Int.reduceSub, Int.reduceMul, Int.reduceToNat, Int.reduceBEq, Int.reduceBNe, h1', f_ref35_other hi, otherI_nn, h2, h3, half_s (n := n) (by omega), half_i (i := i) (by omega), L_ref35_Length_0_eq]
        rw [ih _ _ _ (by omega) (by omega) (by omega) (by omega)]
        simp only [lenF, h1, h2, if_true, Nat.add_assoc]
      · simp only [b_ref35_Length_0, bC, bW, wpY', evR, evW, idx, ldc, okV, sub, setc, buildC, bnd, resOf, resL, res1, xorB, take2L, take2, takeL, take1, appF, rowOf, elemOk, plain, pl1, isRow, cellB, srcOf, LIM, Option.some.injEq, exists_eq_left', exists_eq_left, Prod.mk.injEq, if_true, if_false, ite_true, ite_false, ne_eq, eq_self, reduceCtorEq, ↓reduceIte, Nat.reduceEqDiff, Nat.reduceAdd, Nat.reduceSub, Nat.reduceMul, Nat.reduceLT, Nat.reduceLeDiff, Nat.reduceBEq, Nat.reduceBNe, Nat.reduceMod, Nat.reduceDiv, Nat.reducePow, Int.reduceEq, Int.reduceLT, Int.reduceLE, Int.reduceNeg, Int.reduceAdd, Int.reduceSub, Int.reduceMul, Int.reduceToNat, Int.reduceBEq, Int.reduceBNe, h1', f_ref35_other hi, otherI_nn, h2, half_s (n := n) (by omega), half_i (i := i) (by omega), L_ref35_Length_0_eq]
        rw [ih _ _ _ (by omega) (by omega) (by omega) (by omega)]
        simp only [lenF, h1, h2, if_true, if_false, Nat.zero_add]
    · have h1' : ¬ ((1 : Int) < (n : Int)) := by omega
      simp only [b_ref35_Length_0, bC, bW, wpY', evR, evW, idx, ldc, okV, sub, setc, buildC, bnd, resOf, resL, res1, xorB, take2L, take2, takeL, take1, appF, rowOf, elemOk, plain, pl1, isRow, cellB, srcOf, LIM, Option.some.injEq, exists_eq_left', exists_eq_left, Prod.mk.injEq, if_true, if_false, ite_true, ite_false, ne_eq, eq_self, reduceCtorEq, ↓reduceIte, Nat.reduceEqDiff, Nat.reduceAdd, Nat.reduceSub, Nat.reduceMul, Nat.reduceLT, Nat.reduceLeDiff, Nat.reduceBEq, Nat.reduceBNe, Nat.reduceMod, Nat.reduceDiv, Nat.reducePow, Int.reduceEq, Int.reduceLT, Int.reduceLE, Int.reduceNeg, Int.reduceAdd, Int.reduceSub, Int.reduceMul, Int.reduceToNat, Int.reduceBEq, Int.reduceBNe, h1', lenF, h1]
theorem f_ref35_Length {n i : Nat} (hn : n ≤ 16) (hi : i < 1152921504606846976) {st : St} {Q : SV → St → Prop} : WpF XX .ro n_ref35_Length [.int .i64 n, .int .i64 i] st Q ↔ Q (.int .i64 (lenF 16 n i : Nat)) st := by
  rw [F_ro (mf := m_ref35_Length) rfl rfl]
  have w0 := fun h nx wb ls Q => L_ref35_Length (h := h) (nx := nx) (wb := wb) (ls := ls) (Q := Q) 16 n i 0 (by omega) (by omega) hi (by omega)
  simp only [Int.cast_ofNat_Int, Nat.zero_add] at w0
  simp only [m_ref35_Length, bC, bW, wpY', evR, evW, idx, ldc, okV, sub, setc, buildC, bnd, resOf, resL, res1, xorB, take2L, take2, takeL, take1, appF, rowOf, elemOk, plain, pl1, isRow, cellB, srcOf, LIM, Option.some.injEq, exists_eq_left', exists_eq_left, Prod.mk.injEq, if_true, if_false, ite_true, ite_false, ne_eq, eq_self, reduceCtorEq, ↓reduceIte, Nat.reduceEqDiff, Nat.reduceAdd, Nat.reduceSub, Nat.reduceMul, Nat.reduceLT, Nat.reduceLeDiff, Nat.reduceBEq, Nat.reduceBNe, Nat.reduceMod, Nat.reduceDiv, Nat.reducePow, Int.reduceEq, Int.reduceLT, Int.reduceLE, Int.reduceNeg, Int.reduceAdd, Int.reduceSub, Int.reduceMul, Int.reduceToNat, Int.reduceBEq, Int.reduceBNe, L_ref35_Length_0_eq, w0]
end Go.Proofs.YtfmbdcmjgnikiaaDoor.Sm
namespace Go.Proofs.YtfmbdcmjgnikiaaDoor.Sm
open Go Go.RowKit

theorem climb_len : ∀ (f n i : Nat) (x : Int) (ps : List Int) (r : Int), climb f n i x ps = some r → ps.length = lenF f n i
  | 0, n, i, x, ps, r, h => by
    simp only [climb] at h
    split at h
    · rename_i hp; subst hp; rfl
    · cases h
  | f + 1, n, i, x, ps, r, h => by
    simp only [climb] at h
    simp only [lenF]
    split at h
    · rename_i h1
      rw [if_pos h1]
      split at h
      · rename_i h2
        rw [if_pos h2]
        split at h
        · cases h
        · rename_i p qs
          have := climb_len f _ _ _ _ _ h
          simp only [List.length_cons, this]
          omega
      · rename_i h2
        rw [if_neg h2, Nat.zero_add]
        exact climb_len f _ _ _ _ _ h
    · rename_i h1
      rw [if_neg h1]
      split at h
      · rename_i hp; subst hp; rfl
      · cases h

theorem L_ref35_Check {ps : List Int} {nl tg : Bool} (hp : ps.length < 1152921504606846976) {v0 : SV} {h : Heap} {nx wb : Nat} {ls : List (Nat × LRec)} : ∀ (f n i u : Nat) (x : Int), n ≤ f + 1 → n < 1152921504606846976 → i < 1152921504606846976 → u + lenF f n i = ps.length →
    ∃ r, climb f n i x (ps.drop u) = some r ∧ ∀ Q : Ex → St → Prop, (L_ref35_Check_0 XX v0 (.int .i64 n) (.int .i64 i) (.tree (ps.map uV) nl tg) (.int .u64 x) (.int .i64 u) h nx ls wb Q ↔ Q (.exit 0) ⟨[(0, v0), (11, .int .u64 r)], h, nx, ls, wb⟩) := by
  intro f
  induction f with
  | zero =>
    intro n i u x hn hn2 hi hu
    simp only [lenF] at hu
    obtain rfl : u = ps.length := by omega
    refine ⟨x, by simp [climb], fun Q => ?_⟩
    rw [L_ref35_Check_0_unf]
    have : ¬ ((1 : Int) < (n : Int)) := by omega
    simp only [b_ref35_Check_0, bC, bW, wpY', evR, evW, idx, ldc, okV, sub, setc, buildC, bnd, resOf, resL, res1, xorB, take2L, take2, takeL, take1, appF, rowOf, elemOk, plain, pl1, isRow, cellB, srcOf, LIM, Option.some.injEq, exists_eq_left', exists_eq_left, Prod.mk.injEq, if_true, if_false, ite_true, ite_false, ne_eq, eq_self, reduceCtorEq, ↓reduceIte, Nat.reduceEqDiff, Nat.reduceAdd, Nat.reduceSub, Nat.reduceMul, Nat.reduceLT, Nat.reduceLeDiff, Nat.reduceBEq, Nat.reduceBNe, Nat.reduceMod, Nat.reduceDiv, Nat.reducePow, Int.reduceEq, Int.reduceLT, Int.reduceLE, Int.reduceNeg, Int.reduceAdd, Int.reduceSub, Int.reduceMul, Int.reduceToNat, Int.reduceBEq, Int.reduceBNe, this]
  | succ f ih =>
    intro n i u x hn hn2 hi hu
    by_cases h1 : 1 < n
    · have h1' : (1 : Int) < (n : Int) := by omega
      by_cases h2 : partner i < n
      · simp only [lenF, h1, h2, if_true] at hu
        have hlt : u < ps.length := by omega
        obtain ⟨c, hc, hd⟩ := get_some hlt
        obtain ⟨k, hk, hk0, hk1⟩ : ∃ k : Int, otherI i n = k ∧ 0 ≤ k ∧ (if i % 2 = 1 then k < i else (i : Int) < k ∧ ¬ k < i) := by
          refine ⟨partner i, by unfold otherI; rw [if_neg (by omega)], by omega, ?_⟩
          unfold partner
          split <;> split <;> omega
        have hw : IntKind.i64.wrap ((u : Int) + 1) = ((u + 1 : Nat) : Int) := wi_s hlt (by omega)
        by_cases h3 : i % 2 = 1
        · rw [if_pos h3] at hk1
          have hk2 : ¬ (i : Int) < k := by omega
          obtain ⟨r, r1, r2⟩ := ih ((n + 1) / 2) (i / 2) (u + 1) (pairI c x) (by omega) (by omega) (by omega) (by omega)
          refine ⟨r, ?_, fun Q => ?_⟩
          · simp only [climb, h1, h2, hd, h3, if_true]; exact r1
          · rw [L_ref35_Check_0_unf]
            simp only [b_ref35_Check_0, bC, bW, wpY', evR, evW, idx, ldc, okV, sub, setc, buildC, bnd, resOf, resL, res1, xorB, take2L, take2, takeL, take1, appF, rowOf, elemOk, plain, pl1, isRow, cellB, srcOf, LIM, Option.some.injEq, exists_eq_left', exists_eq_left, Prod.mk.injEq, if_true, if_false, ite_true, ite_false, ne_eq, eq_self, reduceCtorEq, ↓reduceIte, Nat.reduceEqDiff, Nat.reduceAdd, Nat.reduceSub, Nat.reduceMul, Nat.reduceLT, Nat.reduceLeDiff, Nat.reduceBEq, Nat.reduceBNe, Nat.reduceMod, Nat.reduceDiv, Nat.reducePow, Int.reduceEq, Int.reduceLT, Int.reduceLE, Int.reduceNeg, Int.reduceAdd, Int.reduceSub, Int.reduceMul, Int.reduceToNat, Int.reduceBEq, Int.reduceBNe, h1', f_ref35_other hi, hk, hk0, hk1, hk2, lt_c hlt, hc, uV_eq, f_ref05_Pair, hw, half_s (n := n) (by omega), half_i (i := i) (by omega), L_ref35_Check_0_eq]
            exact r2 Q
        · rw [if_neg h3] at hk1
          obtain ⟨r, r1, r2⟩ := ih ((n + 1) / 2) (i / 2) (u + 1) (pairI x c) (by omega) (by omega) (by omega) (by omega)
          refine ⟨r, ?_, fun Q => ?_⟩
          · simp only [climb, h1, h2, hd, h3, if_true, if_false]; exact r1
          · rw [L_ref35_Check_0_unf]
            simp only [b_ref35_Check_0, bC, bW, wpY', evR, evW, idx, ldc, okV, sub, setc, buildC, bnd, resOf, resL, res1, xorB, take2L, take2, takeL, take1, appF, rowOf, elemOk, plain, pl1, isRow, cellB, srcOf, LIM, Option.some.injEq, exists_eq_left', exists_eq_left, Prod.mk.injEq, if_true, if_false, ite_true, ite_false, ne_eq, eq_self, reduceCtorEq, ↓reduceIte, Nat.reduceEqDiff, Nat.reduceAdd, Nat.reduceSub, Nat.reduceMul, Nat.reduceLT, Nat.reduceLeDiff, Nat.reduceBEq, Nat.reduceBNe, Nat.reduceMod, Nat.reduceDiv, Nat.reducePow, Int.reduceEq, Int.reduceLT, Int.reduceLE, Int.reduceNeg, Int.reduceAdd, Int.reduceSub, Int.reduceMul, Int.reduceToNat, Int.reduceBEq, Int.reduceBNe, h1', f_ref35_other hi, hk, hk0, hk1.1, hk1.2, lt_c hlt, hc, uV_eq, f_ref05_Pair, hw, half_s (n := n) (by omega), half_i (i := i) (by omega), L_ref35_Check_0_eq]
            exact r2 Q
      · simp only [lenF, h1, h2, if_true, if_false, Nat.zero_add] at hu
        have hk : otherI i n = -1 := by unfold otherI; rw [if_pos (by omega)]
        have hk2 : ¬ (i : Int) < -1 := by omega
        obtain ⟨r, r1, r2⟩ := ih ((n + 1) / 2) (i / 2) u x (by omega) (by omega) (by omega) (by omega)
        refine ⟨r, ?_, fun Q => ?_⟩
        · simp only [climb, h1, h2, if_true, if_false]; exact r1
        · rw [L_ref35_Check_0_unf]
          simp only [b_ref35_Check_0, bC, bW, wpY', evR, evW, idx, ldc, okV, sub, setc, buildC, bnd, resOf, resL, res1, xorB, take2L, take2, takeL, take1, appF, rowOf, elemOk, plain, pl1, isRow, cellB, srcOf, LIM, Option.some.injEq, exists_eq_left', exists_eq_left, Prod.mk.injEq, if_true, if_false, ite_true, ite_false, ne_eq, eq_self, reduceCtorEq, ↓reduceIte, Nat.reduceEqDiff, Nat.reduceAdd, Nat.reduceSub, Nat.reduceMul, Nat.reduceLT, Nat.reduceLeDiff, Nat.reduceBEq, Nat.reduceBNe, Nat.reduceMod, Nat.reduceDiv, Nat.reducePow, Int.reduceEq, Int.reduceLT, Int.reduceLE, Int.reduceNeg, Int.reduceAdd, Int.reduceSub, Int.reduceMul, Int.reduceToNat, Int.reduceBEq, Int.reduceBNe, h1', f_ref35_other hi, hk, hk2, half_s (n := n) (by omega), half_i (i := i) (by omega), L_ref35_Check_0_eq]
          exact r2 Q
    · simp only [lenF, h1, if_false] at hu
      obtain rfl : u = ps.length := by omega
      have h1' : ¬ ((1 : Int) < (n : Int)) := by omega
      refine ⟨x, by simp [climb, h1], fun Q => ?_⟩
      rw [L_ref35_Check_0_unf]
      simp only [b_ref35_Check_0, bC, bW, wpY', evR, evW, idx, ldc, okV, sub, setc, buildC, bnd, resOf, resL, res1, xorB, take2L, take2, takeL, take1, appF, rowOf, elemOk, plain, pl1, isRow, cellB, srcOf, LIM, Option.some.injEq, exists_eq_left', exists_eq_left, Prod.mk.injEq, if_true, if_false, ite_true, ite_false, ne_eq, eq_self, reduceCtorEq, ↓reduceIte, Nat.reduceEqDiff, Nat.reduceAdd, Nat.reduceSub, Nat.reduceMul, Nat.reduceLT, Nat.reduceLeDiff, Nat.reduceBEq, Nat.reduceBNe, Nat.reduceMod, Nat.reduceDiv, Nat.reducePow, Int.reduceEq, Int.reduceLT, Int.reduceLE, Int.reduceNeg, Int.reduceAdd, Int.reduceSub, Int.reduceMul, Int.reduceToNat, Int.reduceBEq, Int.reduceBNe, h1']

theorem f_ref35_Check {root n i : Int} {page : List UInt8} {nl tg : Bool} {ps : List Int} {nl' tg' : Bool} (hpg : page.length < 1152921504606846976) (hp : ps.length < 1152921504606846976) {st : St} {Q : SV → St → Prop} :
    WpF XX .ro n_ref35_Check [.int .u64 root, .int .i64 n, .int .i64 i, .tree (page.map b8) nl tg, .tree (ps.map uV) nl' tg'] st Q ↔ Q (.bool (checkI root n i page ps)) st := by
  rw [F_ro (mf := m_ref35_Check) rfl rfl]
  unfold checkI
  by_cases h1 : n < 1
  · have : ¬ 1 ≤ n := by omega
    simp only [m_ref35_Check, bC, bW, wpY', evR, evW, idx, ldc, okV, sub, setc, buildC, bnd, resOf, resL, res1, xorB, take2L, take2, takeL, take1, appF, rowOf, elemOk, plain, pl1, isRow, cellB, srcOf, LIM, Option.some.injEq, exists_eq_left', exists_eq_left, Prod.mk.injEq, if_true, if_false, ite_true, ite_false, ne_eq, eq_self, reduceCtorEq, ↓reduceIte, Nat.reduceEqDiff, Nat.reduceAdd, Nat.reduceSub, Nat.reduceMul, Nat.reduceLT, Nat.reduceLeDiff, Nat.reduceBEq, Nat.reduceBNe, Nat.reduceMod, Nat.reduceDiv, Nat.reducePow, Int.reduceEq, Int.reduceLT, Int.reduceLE, Int.reduceNeg, Int.reduceAdd, Int.reduceSub, Int.reduceMul, Int.reduceToNat, Int.reduceBEq, Int.reduceBNe, h1, this]
  have h1' : 1 ≤ n := by omega
  by_cases h2 : 16 < n
  · have : ¬ n ≤ 16 := by omega
    simp only [m_ref35_Check, bC, bW, wpY', evR, evW, idx, ldc, okV, sub, setc, buildC, bnd, resOf, resL, res1, xorB, take2L, take2, takeL, take1, appF, rowOf, elemOk, plain, pl1, isRow, cellB, srcOf, LIM, Option.some.injEq, exists_eq_left', exists_eq_left, Prod.mk.injEq, if_true, if_false, ite_true, ite_false, ne_eq, eq_self, reduceCtorEq, ↓reduceIte, Nat.reduceEqDiff, Nat.reduceAdd, Nat.reduceSub, Nat.reduceMul, Nat.reduceLT, Nat.reduceLeDiff, Nat.reduceBEq, Nat.reduceBNe, Nat.reduceMod, Nat.reduceDiv, Nat.reducePow, Int.reduceEq, Int.reduceLT, Int.reduceLE, Int.reduceNeg, Int.reduceAdd, Int.reduceSub, Int.reduceMul, Int.reduceToNat, Int.reduceBEq, Int.reduceBNe, h1, h2, this]
  have h2' : n ≤ 16 := by omega
  by_cases h3 : i < 0
  · have : ¬ 0 ≤ i := by omega
    simp only [m_ref35_Check, bC, bW, wpY', evR, evW, idx, ldc, okV, sub, setc, buildC, bnd, resOf, resL, res1, xorB, take2L, take2, takeL, take1, appF, rowOf, elemOk, plain, pl1, isRow, cellB, srcOf, LIM, Option.some.injEq, exists_eq_left', exists_eq_left, Prod.mk.injEq, if_true, if_false, ite_true, ite_false, ne_eq, eq_self, reduceCtorEq, ↓reduceIte, Nat.reduceEqDiff, Nat.reduceAdd, Nat.reduceSub, Nat.reduceMul, Nat.reduceLT, Nat.reduceLeDiff, Nat.reduceBEq, Nat.reduceBNe, Nat.reduceMod, Nat.reduceDiv, Nat.reducePow, Int.reduceEq, Int.reduceLT, Int.reduceLE, Int.reduceNeg, Int.reduceAdd, Int.reduceSub, Int.reduceMul, Int.reduceToNat, Int.reduceBEq, Int.reduceBNe, h1, h2, h3, this]
  have h3' : 0 ≤ i := by omega
  by_cases h4 : n ≤ i
  · have : ¬ i < n := by omega
    simp only [m_ref35_Check, bC, bW, wpY', evR, evW, idx, ldc, okV, sub, setc, buildC, bnd, resOf, resL, res1, xorB, take2L, take2, takeL, take1, appF, rowOf, elemOk, plain, pl1, isRow, cellB, srcOf, LIM, Option.some.injEq, exists_eq_left', exists_eq_left, Prod.mk.injEq, if_true, if_false, ite_true, ite_false, ne_eq, eq_self, reduceCtorEq, ↓reduceIte, Nat.reduceEqDiff, Nat.reduceAdd, Nat.reduceSub, Nat.reduceMul, Nat.reduceLT, Nat.reduceLeDiff, Nat.reduceBEq, Nat.reduceBNe, Nat.reduceMod, Nat.reduceDiv, Nat.reducePow, Int.reduceEq, Int.reduceLT, Int.reduceLE, Int.reduceNeg, Int.reduceAdd, Int.reduceSub, Int.reduceMul, Int.reduceToNat, Int.reduceBEq, Int.reduceBNe, h1, h2, h3, h4, this]
  have h4' : i < n := by omega
  by_cases h5 : (256 : Int) < page.length
  · have : ¬ page.length ≤ 256 := by omega
    simp only [m_ref35_Check, bC, bW, wpY', evR, evW, idx, ldc, okV, sub, setc, buildC, bnd, resOf, resL, res1, xorB, take2L, take2, takeL, take1, appF, rowOf, elemOk, plain, pl1, isRow, cellB, srcOf, LIM, Option.some.injEq, exists_eq_left', exists_eq_left, Prod.mk.injEq, if_true, if_false, ite_true, ite_false, ne_eq, eq_self, reduceCtorEq, ↓reduceIte, Nat.reduceEqDiff, Nat.reduceAdd, Nat.reduceSub, Nat.reduceMul, Nat.reduceLT, Nat.reduceLeDiff, Nat.reduceBEq, Nat.reduceBNe, Nat.reduceMod, Nat.reduceDiv, Nat.reducePow, Int.reduceEq, Int.reduceLT, Int.reduceLE, Int.reduceNeg, Int.reduceAdd, Int.reduceSub, Int.reduceMul, Int.reduceToNat, Int.reduceBEq, Int.reduceBNe, h1, h2, h3, h4, h5, this]
  have h5' : page.length ≤ 256 := by omega
  obtain ⟨N, rfl⟩ : ∃ N : Nat, n = N := ⟨n.toNat, by omega⟩
  obtain ⟨I, rfl⟩ : ∃ I : Nat, i = I := ⟨i.toNat, by omega⟩
  by_cases h6 : ps.length = lenF 16 N I
  · obtain ⟨r, r1, r2⟩ := L_ref35_Check (nl := nl') (tg := tg') hp (v0 := .int .u64 root) (h := []) (nx := 0) (wb := 0) (ls := []) 16 N I 0 (leafI page) (by omega) (by omega) (by omega) (by omega)
    simp only [List.drop_zero] at r1
    simp only [Int.cast_ofNat_Int] at r2
    simp only [m_ref35_Check, bC, bW, wpY', evR, evW, idx, ldc, okV, sub, setc, buildC, bnd, resOf, resL, res1, xorB, take2L, take2, takeL, take1, appF, rowOf, elemOk, plain, pl1, isRow, cellB, srcOf, LIM, Option.some.injEq, exists_eq_left', exists_eq_left, Prod.mk.injEq, if_true, if_false, ite_true, ite_false, ne_eq, eq_self, reduceCtorEq, ↓reduceIte, Nat.reduceEqDiff, Nat.reduceAdd, Nat.reduceSub, Nat.reduceMul, Nat.reduceLT, Nat.reduceLeDiff, Nat.reduceBEq, Nat.reduceBNe, Nat.reduceMod, Nat.reduceDiv, Nat.reducePow, Int.reduceEq, Int.reduceLT, Int.reduceLE, Int.reduceNeg, Int.reduceAdd, Int.reduceSub, Int.reduceMul, Int.reduceToNat, Int.reduceBEq, Int.reduceBNe, h1, h2, h3, h4, h5, h1', h2', h3', h4', h5', f_ref35_Length (n := N) (i := I) (by omega) (by omega), h6, f_ref35_Leaf (b := page) (by omega), L_ref35_Check_0_eq, r2, r1]
  · have h6' : ¬ ((ps.length : Int) = (lenF 16 N I : Nat)) := by omega
    have h7 : climb 16 N I (leafI page) ps = none := by
      cases hc : climb 16 N I (leafI page) ps with
      | none => rfl
      | some r => exact absurd (climb_len _ _ _ _ _ _ hc) h6
    simp only [m_ref35_Check, bC, bW, wpY', evR, evW, idx, ldc, okV, sub, setc, buildC, bnd, resOf, resL, res1, xorB, take2L, take2, takeL, take1, appF, rowOf, elemOk, plain, pl1, isRow, cellB, srcOf, LIM, Option.some.injEq, exists_eq_left', exists_eq_left, Prod.mk.injEq, if_true, if_false, ite_true, ite_false, ne_eq, eq_self, reduceCtorEq, ↓reduceIte, Nat.reduceEqDiff, Nat.reduceAdd, Nat.reduceSub, Nat.reduceMul, Nat.reduceLT, Nat.reduceLeDiff, Nat.reduceBEq, Nat.reduceBNe, Nat.reduceMod, Nat.reduceDiv, Nat.reducePow, Int.reduceEq, Int.reduceLT, Int.reduceLE, Int.reduceNeg, Int.reduceAdd, Int.reduceSub, Int.reduceMul, Int.reduceToNat, Int.reduceBEq, Int.reduceBNe, h1, h2, h3, h4, h5, h1', h2', h3', h4', h5', f_ref35_Length (n := N) (i := I) (by omega) (by omega), h6', h7]
end Go.Proofs.YtfmbdcmjgnikiaaDoor.Sm
namespace Go.Proofs.YtfmbdcmjgnikiaaDoor.Sm
open Go Go.RowKit

theorem xor1 : ∀ i : Nat, i < 16 → xorI .i64 (i : Int) 1 = (partner i : Int) := by decide +kernel
theorem mod2 (i : Nat) : (i : Int).tmod 2 = ((i % 2 : Nat) : Int) := by rw [Int.tmod_eq_emod_of_nonneg (by omega)]; rfl

theorem L_tree_walk {re : Env} (h9 : getE re 9 = .ptr 0 0) (h10 : getE re 10 = .ptr 1 0) (h11 : getE re 11 = .ptr 2 0) {nl tg : Bool} {Q : Ex → St → Prop} {R : Prop} : ∀ (f n i : Nat) (x : Int) (ps : List Int), n ≤ f + 1 → n ≤ 16 → i < n → ps.length < 1152921504606846976 →
    (∀ (n' i' x' : Int) (ps' : List Int), climb f n i x ps = (if ps' = [] then some x' else none) → (Q (.exit 0) ⟨[], [(4, [.int .i64 i']), (3, [.int .i64 n']), (2, [.int .u64 x']), (1, [.bool false]), (0, [.tree (ps'.map uV) nl tg])], 6, [(5, ⟨re, [42, 43], a_tree_Check_0, y_tree_Check_0, 0, .norm⟩)], 0⟩ ↔ R)) →
    (∀ (e' : Env) (n' i' x' : Int), climb f n i x ps = none → (Q .ret ⟨e', [(4, [.int .i64 i']), (3, [.int .i64 n']), (2, [.int .u64 x']), (1, [.bool false]), (0, [.tree [] nl tg])], 6, [(5, ⟨re, [42, 43], a_tree_Check_0, y_tree_Check_0, 2, .ret⟩)], 0⟩ ↔ R)) →
    (L_tree_walk_1_0 XX (.yld 5) (.ptr 3 0) (.ptr 4 0) [(4, [.int .i64 i]), (3, [.int .i64 n]), (2, [.int .u64 x]), (1, [.bool false]), (0, [.tree (ps.map uV) nl tg])] 6 [(5, ⟨re, [42, 43], a_tree_Check_0, y_tree_Check_0, 0, .norm⟩)] 0 Q ↔ R) := by
  intro f
  induction f with
  | zero =>
    intro n i x ps hn hn2 hi hp q1 q2
    rw [L_tree_walk_1_0_unf]
    have : ¬ ((1 : Int) < (n : Int)) := by omega
    simp only [b_tree_walk_1_0, bC, bW, wpY', evR, evW, idx, ldc, okV, sub, setc, buildC, bnd, resOf, resL, res1, xorB, take2L, take2, takeL, take1, appF, rowOf, elemOk, plain, pl1, isRow, cellB, srcOf, LIM, Option.some.injEq, exists_eq_left', exists_eq_left, Prod.mk.injEq, if_true, if_false, ite_true, ite_false, ne_eq, eq_self, reduceCtorEq, ↓reduceIte, Nat.reduceEqDiff, Nat.reduceAdd, Nat.reduceSub, Nat.reduceMul, Nat.reduceLT, Nat.reduceLeDiff, Nat.reduceBEq, Nat.reduceBNe, Nat.reduceMod, Nat.reduceDiv, Nat.reducePow, Int.reduceEq, Int.reduceLT, Int.reduceLE, Int.reduceNeg, Int.reduceAdd, Int.reduceSub, Int.reduceMul, Int.reduceToNat, Int.reduceBEq, Int.reduceBNe, this]
    exact q1 _ _ _ _ rfl
  | succ f ih =>
    intro n i x ps hn hn2 hi hp q1 q2
    rw [L_tree_walk_1_0_unf]
    by_cases h1 : 1 < n
    · have h1' : (1 : Int) < (n : Int) := by omega
      have hx := xor1 i (by omega)
      by_cases h2 : partner i < n
      · cases ps with
        | nil =>
          simp only [b_tree_walk_1_0, bC, bW, bD, wpY', evR, evW, idx, ldc, okV, sub, setc, buildC, bnd, resOf, resL, res1, xorB, take2L, take2, takeL, take1, appF, rowOf, elemOk, plain, pl1, isRow, cellB, srcOf, LIM, Option.some.injEq, exists_eq_left', exists_eq_left, Prod.mk.injEq, if_true, if_false, ite_true, ite_false, ne_eq, eq_self, reduceCtorEq, ↓reduceIte, Nat.reduceEqDiff, Nat.reduceAdd, Nat.reduceSub, Nat.reduceMul, Nat.reduceLT, Nat.reduceLeDiff, Nat.reduceBEq, Nat.reduceBNe, Nat.reduceMod, Nat.reduceDiv, Nat.reducePow, Int.reduceEq, Int.reduceLT, Int.reduceLE, Int.reduceNeg, Int.reduceAdd, Int.reduceSub, Int.reduceMul, Int.reduceToNat, Int.reduceBEq, Int.reduceBNe, unused, fpO, rdR, rdW, own1, ptr1, ownC, sepOk, compat, disj, offR, h1', hx, Int.ofNat_lt, h2, a_tree_Check_0, y_tree_Check_0, h9, h10, h11, mod2]
          refine q2 _ _ _ _ ?_
          simp only [climb, h1, h2, if_true]
        | cons p ps =>
          simp only [List.length_cons] at hp
          have hl : ¬ (((ps.length + 1 : Nat) : Int) = 0) := by omega
          have hl1 : (0 : Int) < ((ps.length + 1 : Nat) : Int) := by omega
          have hl2 : (1 : Int) ≤ ((ps.length + 1 : Nat) : Int) := by omega
          by_cases h3 : i % 2 = 1
          · have h3' : ((i % 2 : Nat) : Int) = 1 := by omega
            simp only [b_tree_walk_1_0, bC, bW, bD, wpY', evR, evW, idx, ldc, okV, sub, setc, buildC, bnd, resOf, resL, res1, xorB, take2L, take2, takeL, take1, appF, rowOf, elemOk, plain, pl1, isRow, cellB, srcOf, LIM, Option.some.injEq, exists_eq_left', exists_eq_left, Prod.mk.injEq, if_true, if_false, ite_true, ite_false, ne_eq, eq_self, reduceCtorEq, ↓reduceIte, Nat.reduceEqDiff, Nat.reduceAdd, Nat.reduceSub, Nat.reduceMul, Nat.reduceLT, Nat.reduceLeDiff, Nat.reduceBEq, Nat.reduceBNe, Nat.reduceMod, Nat.reduceDiv, Nat.reducePow, Int.reduceEq, Int.reduceLT, Int.reduceLE, Int.reduceNeg, Int.reduceAdd, Int.reduceSub, Int.reduceMul, Int.reduceToNat, Int.reduceBEq, Int.reduceBNe, unused, fpO, rdR, rdW, own1, ptr1, ownC, sepOk, compat, disj, offR, h1', hx, Int.ofNat_lt, h2, a_tree_Check_0, y_tree_Check_0, h9, h10, h11, mod2, hl, hl1, hl2, h3', uV_eq, f_digest_Pair, half_s (n := n) (by omega), half_i (i := i) (by omega), L_tree_walk_1_0_eq]
            refine ih _ _ _ _ (by omega) (by omega) (by omega) (by omega) (fun n' i' x' ps' e => q1 _ _ _ _ ?_) (fun e' n' i' x' e => q2 _ _ _ _ ?_)
            · rw [← e]; simp only [climb, h1, h2, h3, if_true]
            · rw [← e]; simp only [climb, h1, h2, h3, if_true]
          · have h3' : ¬ (((i % 2 : Nat) : Int) = 1) := by omega
            simp only [b_tree_walk_1_0, bC, bW, bD, wpY', evR, evW, idx, ldc, okV, sub, setc, buildC, bnd, resOf, resL, res1, xorB, take2L, take2, takeL, take1, appF, rowOf, elemOk, plain, pl1, isRow, cellB, srcOf, LIM, Option.some.injEq, exists_eq_left', exists_eq_left, Prod.mk.injEq, if_true, if_false, ite_true, ite_false, ne_eq, eq_self, reduceCtorEq, ↓reduceIte, Nat.reduceEqDiff, Nat.reduceAdd, Nat.reduceSub, Nat.reduceMul, Nat.reduceLT, Nat.reduceLeDiff, Nat.reduceBEq, Nat.reduceBNe, Nat.reduceMod, Nat.reduceDiv, Nat.reducePow, Int.reduceEq, Int.reduceLT, Int.reduceLE, Int.reduceNeg, Int.reduceAdd, Int.reduceSub, Int.reduceMul, Int.reduceToNat, Int.reduceBEq, Int.reduceBNe, unused, fpO, rdR, rdW, own1, ptr1, ownC, sepOk, compat, disj, offR, h1', hx, Int.ofNat_lt, h2, a_tree_Check_0, y_tree_Check_0, h9, h10, h11, mod2, hl, hl1, hl2, h3', uV_eq, f_digest_Pair, half_s (n := n) (by omega), half_i (i := i) (by omega), L_tree_walk_1_0_eq]
            refine ih _ _ _ _ (by omega) (by omega) (by omega) (by omega) (fun n' i' x' ps' e => q1 _ _ _ _ ?_) (fun e' n' i' x' e => q2 _ _ _ _ ?_)
            · rw [← e]; simp only [climb, h1, h2, h3, if_true, if_false]
            · rw [← e]; simp only [climb, h1, h2, h3, if_true, if_false]
      · simp only [b_tree_walk_1_0, bC, bW, bD, wpY', evR, evW, idx, ldc, okV, sub, setc, buildC, bnd, resOf, resL, res1, xorB, take2L, take2, takeL, take1, appF, rowOf, elemOk, plain, pl1, isRow, cellB, srcOf, LIM, Option.some.injEq, exists_eq_left', exists_eq_left, Prod.mk.injEq, if_true, if_false, ite_true, ite_false, ne_eq, eq_self, reduceCtorEq, ↓reduceIte, Nat.reduceEqDiff, Nat.reduceAdd, Nat.reduceSub, Nat.reduceMul, Nat.reduceLT, Nat.reduceLeDiff, Nat.reduceBEq, Nat.reduceBNe, Nat.reduceMod, Nat.reduceDiv, Nat.reducePow, Int.reduceEq, Int.reduceLT, Int.reduceLE, Int.reduceNeg, Int.reduceAdd, Int.reduceSub, Int.reduceMul, Int.reduceToNat, Int.reduceBEq, Int.reduceBNe, unused, fpO, rdR, rdW, own1, ptr1, ownC, sepOk, compat, disj, offR, h1', hx, Int.ofNat_lt, h2, a_tree_Check_0, y_tree_Check_0, h9, h10, h11, mod2, half_s (n := n) (by omega), half_i (i := i) (by omega), L_tree_walk_1_0_eq]
        refine ih _ _ _ _ (by omega) (by omega) (by omega) (by omega) (fun n' i' x' ps' e => q1 _ _ _ _ ?_) (fun e' n' i' x' e => q2 _ _ _ _ ?_)
        · rw [← e]; simp only [climb, h1, h2, if_true, if_false]
        · rw [← e]; simp only [climb, h1, h2, if_true, if_false]
    · have h1' : ¬ ((1 : Int) < (n : Int)) := by omega
      simp only [b_tree_walk_1_0, bC, bW, wpY', evR, evW, idx, ldc, okV, sub, setc, buildC, bnd, resOf, resL, res1, xorB, take2L, take2, takeL, take1, appF, rowOf, elemOk, plain, pl1, isRow, cellB, srcOf, LIM, Option.some.injEq, exists_eq_left', exists_eq_left, Prod.mk.injEq, if_true, if_false, ite_true, ite_false, ne_eq, eq_self, reduceCtorEq, ↓reduceIte, Nat.reduceEqDiff, Nat.reduceAdd, Nat.reduceSub, Nat.reduceMul, Nat.reduceLT, Nat.reduceLeDiff, Nat.reduceBEq, Nat.reduceBNe, Nat.reduceMod, Nat.reduceDiv, Nat.reducePow, Int.reduceEq, Int.reduceLT, Int.reduceLE, Int.reduceNeg, Int.reduceAdd, Int.reduceSub, Int.reduceMul, Int.reduceToNat, Int.reduceBEq, Int.reduceBNe, h1']
      exact q1 _ _ _ _ (by simp only [climb, h1, if_false])

theorem f_tree_Check {root n i : Int} {page : List UInt8} {nl tg : Bool} {ps : List Int} {nl' tg' : Bool} (hpg : page.length < 1152921504606846976) (hp : ps.length < 1152921504606846976) {st : St} {Q : SV → St → Prop} :
    WpF XX .ro n_tree_Check [.int .u64 root, .int .i64 n, .int .i64 i, .tree (page.map b8) nl tg, .tree (ps.map uV) nl' tg'] st Q ↔ Q (.bool (checkI root n i page ps)) st := by
  rw [F_ro (mf := m_tree_Check) rfl rfl]
  unfold checkI
  by_cases h1 : n < 1
  · have : ¬ 1 ≤ n := by omega
    simp only [m_tree_Check, bC, bW, wpY', evR, evW, idx, ldc, okV, sub, setc, buildC, bnd, resOf, resL, res1, xorB, take2L, take2, takeL, take1, appF, rowOf, elemOk, plain, pl1, isRow, cellB, srcOf, LIM, Option.some.injEq, exists_eq_left', exists_eq_left, Prod.mk.injEq, if_true, if_false, ite_true, ite_false, ne_eq, eq_self, reduceCtorEq, ↓reduceIte, Nat.reduceEqDiff, Nat.reduceAdd, Nat.reduceSub, Nat.reduceMul, Nat.reduceLT, Nat.reduceLeDiff, Nat.reduceBEq, Nat.reduceBNe, Nat.reduceMod, Nat.reduceDiv, Nat.reducePow, Int.reduceEq, Int.reduceLT, Int.reduceLE, Int.reduceNeg, Int.reduceAdd, Int.reduceSub, Int.reduceMul, Int.reduceToNat, Int.reduceBEq, Int.reduceBNe, h1, this]
  have h1' : 1 ≤ n := by omega
  by_cases h2 : 16 < n
  · have : ¬ n ≤ 16 := by omega
    simp only [m_tree_Check, bC, bW, wpY', evR, evW, idx, ldc, okV, sub, setc, buildC, bnd, resOf, resL, res1, xorB, take2L, take2, takeL, take1, appF, rowOf, elemOk, plain, pl1, isRow, cellB, srcOf, LIM, Option.some.injEq, exists_eq_left', exists_eq_left, Prod.mk.injEq, if_true, if_false, ite_true, ite_false, ne_eq, eq_self, reduceCtorEq, ↓reduceIte, Nat.reduceEqDiff, Nat.reduceAdd, Nat.reduceSub, Nat.reduceMul, Nat.reduceLT, Nat.reduceLeDiff, Nat.reduceBEq, Nat.reduceBNe, Nat.reduceMod, Nat.reduceDiv, Nat.reducePow, Int.reduceEq, Int.reduceLT, Int.reduceLE, Int.reduceNeg, Int.reduceAdd, Int.reduceSub, Int.reduceMul, Int.reduceToNat, Int.reduceBEq, Int.reduceBNe, h1, h2, this]
  have h2' : n ≤ 16 := by omega
  by_cases h3 : i < 0
  · have : ¬ 0 ≤ i := by omega
    simp only [m_tree_Check, bC, bW, wpY', evR, evW, idx, ldc, okV, sub, setc, buildC, bnd, resOf, resL, res1, xorB, take2L, take2, takeL, take1, appF, rowOf, elemOk, plain, pl1, isRow, cellB, srcOf, LIM, Option.some.injEq, exists_eq_left', exists_eq_left, Prod.mk.injEq, if_true, if_false, ite_true, ite_false, ne_eq, eq_self, reduceCtorEq, ↓reduceIte, Nat.reduceEqDiff, Nat.reduceAdd, Nat.reduceSub, Nat.reduceMul, Nat.reduceLT, Nat.reduceLeDiff, Nat.reduceBEq, Nat.reduceBNe, Nat.reduceMod, Nat.reduceDiv, Nat.reducePow, Int.reduceEq, Int.reduceLT, Int.reduceLE, Int.reduceNeg, Int.reduceAdd, Int.reduceSub, Int.reduceMul, Int.reduceToNat, Int.reduceBEq, Int.reduceBNe, h1, h2, h3, this]
  have h3' : 0 ≤ i := by omega
  by_cases h4 : n ≤ i
  · have : ¬ i < n := by omega
    simp only [m_tree_Check, bC, bW, wpY', evR, evW, idx, ldc, okV, sub, setc, buildC, bnd, resOf, resL, res1, xorB, take2L, take2, takeL, take1, appF, rowOf, elemOk, plain, pl1, isRow, cellB, srcOf, LIM, Option.some.injEq, exists_eq_left', exists_eq_left, Prod.mk.injEq, if_true, if_false, ite_true, ite_false, ne_eq, eq_self, reduceCtorEq, ↓reduceIte, Nat.reduceEqDiff, Nat.reduceAdd, Nat.reduceSub, Nat.reduceMul, Nat.reduceLT, Nat.reduceLeDiff, Nat.reduceBEq, Nat.reduceBNe, Nat.reduceMod, Nat.reduceDiv, Nat.reducePow, Int.reduceEq, Int.reduceLT, Int.reduceLE, Int.reduceNeg, Int.reduceAdd, Int.reduceSub, Int.reduceMul, Int.reduceToNat, Int.reduceBEq, Int.reduceBNe, h1, h2, h3, h4, this]
  have h4' : i < n := by omega
  by_cases h5 : (256 : Int) < page.length
  · have : ¬ page.length ≤ 256 := by omega
    simp only [m_tree_Check, bC, bW, wpY', evR, evW, idx, ldc, okV, sub, setc, buildC, bnd, resOf, resL, res1, xorB, take2L, take2, takeL, take1, appF, rowOf, elemOk, plain, pl1, isRow, cellB, srcOf, LIM, Option.some.injEq, exists_eq_left', exists_eq_left, Prod.mk.injEq, if_true, if_false, ite_true, ite_false, ne_eq, eq_self, reduceCtorEq, ↓reduceIte, Nat.reduceEqDiff, Nat.reduceAdd, Nat.reduceSub, Nat.reduceMul, Nat.reduceLT, Nat.reduceLeDiff, Nat.reduceBEq, Nat.reduceBNe, Nat.reduceMod, Nat.reduceDiv, Nat.reducePow, Int.reduceEq, Int.reduceLT, Int.reduceLE, Int.reduceNeg, Int.reduceAdd, Int.reduceSub, Int.reduceMul, Int.reduceToNat, Int.reduceBEq, Int.reduceBNe, h1, h2, h3, h4, h5, this]
  have h5' : page.length ≤ 256 := by omega
  obtain ⟨N, rfl⟩ : ∃ N : Nat, n = N := ⟨n.toNat, by omega⟩
  obtain ⟨I, rfl⟩ : ∃ I : Nat, i = I := ⟨i.toNat, by omega⟩
  simp only [m_tree_Check, bC, bW, wpY', evR, evW, idx, ldc, okV, sub, setc, buildC, bnd, resOf, resL, res1, xorB, take2L, take2, takeL, take1, appF, rowOf, elemOk, plain, pl1, isRow, cellB, srcOf, LIM, Option.some.injEq, exists_eq_left', exists_eq_left, Prod.mk.injEq, if_true, if_false, ite_true, ite_false, ne_eq, eq_self, reduceCtorEq, ↓reduceIte, Nat.reduceEqDiff, Nat.reduceAdd, Nat.reduceSub, Nat.reduceMul, Nat.reduceLT, Nat.reduceLeDiff, Nat.reduceBEq, Nat.reduceBNe, Nat.reduceMod, Nat.reduceDiv, Nat.reducePow, Int.reduceEq, Int.reduceLT, Int.reduceLE, Int.reduceNeg, Int.reduceAdd, Int.reduceSub, Int.reduceMul, Int.reduceToNat, Int.reduceBEq, Int.reduceBNe, h1, h2, h3, h4, h5, h1', h2', h3', h4', h5', f_tree_leaf (b := page) (by omega), F_rw (X := XX) (f := n_tree_walk) (mf := m_tree_walk) rfl, m_tree_walk, g_tree_Check_0, F_rw (X := XX) (f := n_tree_walk_1) (mf := m_tree_walk_1) rfl, m_tree_walk_1, L_tree_walk_1_0_eq]
  refine L_tree_walk rfl rfl rfl 16 N I (leafI page) ps (by omega) (by omega) (by omega) hp (fun n' i' x' ps' e => ?_) (fun e' n' i' x' e => ?_)
  · by_cases hps : ps' = []
    · subst hps
      simp only [bC, bW, wpY', evR, evW, idx, ldc, okV, sub, setc, buildC, bnd, resOf, resL, res1, xorB, take2L, take2, takeL, take1, appF, rowOf, elemOk, plain, pl1, isRow, cellB, srcOf, LIM, Option.some.injEq, exists_eq_left', exists_eq_left, Prod.mk.injEq, if_true, if_false, ite_true, ite_false, ne_eq, eq_self, reduceCtorEq, ↓reduceIte, Nat.reduceEqDiff, Nat.reduceAdd, Nat.reduceSub, Nat.reduceMul, Nat.reduceLT, Nat.reduceLeDiff, Nat.reduceBEq, Nat.reduceBNe, Nat.reduceMod, Nat.reduceDiv, Nat.reducePow, Int.reduceEq, Int.reduceLT, Int.reduceLE, Int.reduceNeg, Int.reduceAdd, Int.reduceSub, Int.reduceMul, Int.reduceToNat, Int.reduceBEq, Int.reduceBNe, e]
    · have hl : ¬ ((ps'.length : Int) = 0) := by
        have : ps'.length ≠ 0 := by simpa using hps
        omega
      simp only [bC, bW, wpY', evR, evW, idx, ldc, okV, sub, setc, buildC, bnd, resOf, resL, res1, xorB, take2L, take2, takeL, take1, appF, rowOf, elemOk, plain, pl1, isRow, cellB, srcOf, LIM, Option.some.injEq, exists_eq_left', exists_eq_left, Prod.mk.injEq, if_true, if_false, ite_true, ite_false, ne_eq, eq_self, reduceCtorEq, ↓reduceIte, Nat.reduceEqDiff, Nat.reduceAdd, Nat.reduceSub, Nat.reduceMul, Nat.reduceLT, Nat.reduceLeDiff, Nat.reduceBEq, Nat.reduceBNe, Nat.reduceMod, Nat.reduceDiv, Nat.reducePow, Int.reduceEq, Int.reduceLT, Int.reduceLE, Int.reduceNeg, Int.reduceAdd, Int.reduceSub, Int.reduceMul, Int.reduceToNat, Int.reduceBEq, Int.reduceBNe, e, hl, hps]
  · simp only [bC, bW, wpY', evR, evW, idx, ldc, okV, sub, setc, buildC, bnd, resOf, resL, res1, xorB, take2L, take2, takeL, take1, appF, rowOf, elemOk, plain, pl1, isRow, cellB, srcOf, LIM, Option.some.injEq, exists_eq_left', exists_eq_left, Prod.mk.injEq, if_true, if_false, ite_true, ite_false, ne_eq, eq_self, reduceCtorEq, ↓reduceIte, Nat.reduceEqDiff, Nat.reduceAdd, Nat.reduceSub, Nat.reduceMul, Nat.reduceLT, Nat.reduceLeDiff, Nat.reduceBEq, Nat.reduceBNe, Nat.reduceMod, Nat.reduceDiv, Nat.reducePow, Int.reduceEq, Int.reduceLT, Int.reduceLE, Int.reduceNeg, Int.reduceAdd, Int.reduceSub, Int.reduceMul, Int.reduceToNat, Int.reduceBEq, Int.reduceBNe, e]
end Go.Proofs.YtfmbdcmjgnikiaaDoor.Sm
namespace Go.Proofs.YtfmbdcmjgnikiaaDoor.Sm
open Go Go.RowKit

section
variable {h : Heap} {nx wb : Nat} {ls : List (Nat × LRec)} {Q : Ex → St → Prop} {R : Prop} {st : St} {K : SV → St → Prop}

theorem b8_inj {c d : UInt8} : ((c.toNat : Int) = (d.toNat : Int)) ↔ c = d := by
  rw [Int.natCast_inj, UInt8.toNat_inj]
theorem cons_eq_iff {α : Type} {a b : α} {l m : List α} : a :: l = b :: m ↔ a = b ∧ l = m := by simp

theorem L_ref36_Bytes {a b : List UInt8} {n1 g1 n2 g2 : Bool} (ha : a.length < 4611686018427387904) (hl : a.length = b.length) : ∀ (d k : Nat), k + d = a.length →
    (a.drop k = b.drop k → (Q (.exit 0) ⟨[], h, nx, ls, wb⟩ ↔ R)) → (a.drop k ≠ b.drop k → ∀ e, getE e 4 = .bool false → (Q .ret ⟨e, h, nx, ls, wb⟩ ↔ R)) →
    (L_ref36_Bytes_0 XX (.tree (a.map b8) n1 g1) (.tree (b.map b8) n2 g2) (.int .i64 k) h nx ls wb Q ↔ R) := by
  intro d
  induction d with
  | zero =>
    intro k hk q1 q2
    obtain rfl : k = a.length := by omega
    rw [L_ref36_Bytes_0_unf]
    simp only [b_ref36_Bytes_0, bC, bW, wpY', evR, evW, idx, ldc, okV, sub, setc, buildC, bnd, resOf, resL, res1, xorB, take2L, take2, takeL, take1, appF, rowOf, elemOk, plain, pl1, isRow, cellB, srcOf, LIM, Option.some.injEq, exists_eq_left', exists_eq_left, Prod.mk.injEq, if_true, if_false, ite_true, ite_false, ne_eq, eq_self, reduceCtorEq, ↓reduceIte, Nat.reduceEqDiff, Nat.reduceAdd, Nat.reduceSub, Nat.reduceMul, Nat.reduceLT, Nat.reduceLeDiff, Nat.reduceBEq, Nat.reduceBNe, Nat.reduceMod, Nat.reduceDiv, Nat.reducePow, Int.reduceEq, Int.reduceLT, Int.reduceLE, Int.reduceNeg, Int.reduceAdd, Int.reduceSub, Int.reduceMul, Int.reduceToNat, Int.reduceBEq, Int.reduceBNe, Int.lt_irrefl]
    exact q1 (by rw [List.drop_length, hl, List.drop_length])
  | succ d ih =>
    intro k hk q1 q2
    have hlt : k < a.length := by omega
    obtain ⟨c, hc, hd⟩ := get_some hlt
    obtain ⟨c', hc', hd'⟩ := get_some (l := b) (k := k) (by omega)
    rw [L_ref36_Bytes_0_unf]
    have hlb : ((k : Int) < (b.length : Int)) = True := lt_c (by omega)
    by_cases hcc : c = c'
    · simp only [b_ref36_Bytes_0, bC, bW, bD, wpY', evR, evW, idx, ldc, okV, sub, setc, buildC, bnd, resOf, resL, res1, xorB, take2L, take2, takeL, take1, appF, rowOf, elemOk, plain, pl1, isRow, cellB, srcOf, LIM, Option.some.injEq, exists_eq_left', exists_eq_left, Prod.mk.injEq, if_true, if_false, ite_true, ite_false, ne_eq, eq_self, reduceCtorEq, ↓reduceIte, Nat.reduceEqDiff, Nat.reduceAdd, Nat.reduceSub, Nat.reduceMul, Nat.reduceLT, Nat.reduceLeDiff, Nat.reduceBEq, Nat.reduceBNe, Nat.reduceMod, Nat.reduceDiv, Nat.reducePow, Int.reduceEq, Int.reduceLT, Int.reduceLE, Int.reduceNeg, Int.reduceAdd, Int.reduceSub, Int.reduceMul, Int.reduceToNat, Int.reduceBEq, Int.reduceBNe, unused, fpO, rdR, rdW, own1, ptr1, ownC, sepOk, compat, disj, offR, lt_c hlt, hlb, hc, hc', b8_eq, b8_inj, hcc, L_ref36_Bytes_0_eq, wi_s hlt (by omega)]
      rw [hd, hd'] at q1 q2; simp only [ne_eq, cons_eq_iff] at q1 q2
      exact ih (k + 1) (by omega) (fun e => q1 ⟨hcc, e⟩) (fun e => q2 fun e' => e e'.2)
    · simp only [b_ref36_Bytes_0, bC, bW, bD, wpY', evR, evW, idx, ldc, okV, sub, setc, buildC, bnd, resOf, resL, res1, xorB, take2L, take2, takeL, take1, appF, rowOf, elemOk, plain, pl1, isRow, cellB, srcOf, LIM, Option.some.injEq, exists_eq_left', exists_eq_left, Prod.mk.injEq, if_true, if_false, ite_true, ite_false, ne_eq, eq_self, reduceCtorEq, ↓reduceIte, Nat.reduceEqDiff, Nat.reduceAdd, Nat.reduceSub, Nat.reduceMul, Nat.reduceLT, Nat.reduceLeDiff, Nat.reduceBEq, Nat.reduceBNe, Nat.reduceMod, Nat.reduceDiv, Nat.reducePow, Int.reduceEq, Int.reduceLT, Int.reduceLE, Int.reduceNeg, Int.reduceAdd, Int.reduceSub, Int.reduceMul, Int.reduceToNat, Int.reduceBEq, Int.reduceBNe, unused, fpO, rdR, rdW, own1, ptr1, ownC, sepOk, compat, disj, offR, lt_c hlt, hlb, hc, hc', b8_eq, b8_inj, hcc]
      rw [hd, hd'] at q2; simp only [ne_eq, cons_eq_iff] at q2
      exact q2 (fun e => hcc e.1) _ rfl
theorem f_ref36_Bytes {a b : List UInt8} {n1 g1 n2 g2 : Bool} (ha : a.length < 4611686018427387904) : WpF XX .ro n_ref36_Bytes [.tree (a.map b8) n1 g1, .tree (b.map b8) n2 g2] st K ↔ K (.bool (decide (a = b))) st := by
  rw [F_ro (mf := m_ref36_Bytes) rfl rfl]
  by_cases hl : a.length = b.length
  · simp only [m_ref36_Bytes, bC, bW, wpY', evR, evW, idx, ldc, okV, sub, setc, buildC, bnd, resOf, resL, res1, xorB, take2L, take2, takeL, take1, appF, rowOf, elemOk, plain, pl1, isRow, cellB, srcOf, LIM, Option.some.injEq, exists_eq_left', exists_eq_left, Prod.mk.injEq, if_true, if_false, ite_true, ite_false, ne_eq, eq_self, reduceCtorEq, ↓reduceIte, Nat.reduceEqDiff, Nat.reduceAdd, Nat.reduceSub, Nat.reduceMul, Nat.reduceLT, Nat.reduceLeDiff, Nat.reduceBEq, Nat.reduceBNe, Nat.reduceMod, Nat.reduceDiv, Nat.reducePow, Int.reduceEq, Int.reduceLT, Int.reduceLE, Int.reduceNeg, Int.reduceAdd, Int.reduceSub, Int.reduceMul, Int.reduceToNat, Int.reduceBEq, Int.reduceBNe, hl, L_ref36_Bytes_0_eq]
    refine L_ref36_Bytes ha hl a.length 0 (by omega) (fun e => ?_) (fun e en he => ?_)
    · have e : a = b := e
      simp only [bC, bW, wpY', evR, evW, idx, ldc, okV, sub, setc, buildC, bnd, resOf, resL, res1, xorB, take2L, take2, takeL, take1, appF, rowOf, elemOk, plain, pl1, isRow, cellB, srcOf, LIM, Option.some.injEq, exists_eq_left', exists_eq_left, Prod.mk.injEq, if_true, if_false, ite_true, ite_false, ne_eq, eq_self, reduceCtorEq, ↓reduceIte, Nat.reduceEqDiff, Nat.reduceAdd, Nat.reduceSub, Nat.reduceMul, Nat.reduceLT, Nat.reduceLeDiff, Nat.reduceBEq, Nat.reduceBNe, Nat.reduceMod, Nat.reduceDiv, Nat.reducePow, Int.reduceEq, Int.reduceLT, Int.reduceLE, Int.reduceNeg, Int.reduceAdd, Int.reduceSub, Int.reduceMul, Int.reduceToNat, Int.reduceBEq, Int.reduceBNe, e]
    · have e : ¬ a = b := e
      simp only [bC, bW, wpY', evR, evW, idx, ldc, okV, sub, setc, buildC, bnd, resOf, resL, res1, xorB, take2L, take2, takeL, take1, appF, rowOf, elemOk, plain, pl1, isRow, cellB, srcOf, LIM, Option.some.injEq, exists_eq_left', exists_eq_left, Prod.mk.injEq, if_true, if_false, ite_true, ite_false, ne_eq, eq_self, reduceCtorEq, ↓reduceIte, Nat.reduceEqDiff, Nat.reduceAdd, Nat.reduceSub, Nat.reduceMul, Nat.reduceLT, Nat.reduceLeDiff, Nat.reduceBEq, Nat.reduceBNe, Nat.reduceMod, Nat.reduceDiv, Nat.reducePow, Int.reduceEq, Int.reduceLT, Int.reduceLE, Int.reduceNeg, Int.reduceAdd, Int.reduceSub, Int.reduceMul, Int.reduceToNat, Int.reduceBEq, Int.reduceBNe, e, he]
  · have hn : ¬ a = b := fun e => hl (by rw [e])
    have hl' : ¬ ((a.length : Int) = (b.length : Int)) := by omega
    simp only [m_ref36_Bytes, bC, bW, wpY', evR, evW, idx, ldc, okV, sub, setc, buildC, bnd, resOf, resL, res1, xorB, take2L, take2, takeL, take1, appF, rowOf, elemOk, plain, pl1, isRow, cellB, srcOf, LIM, Option.some.injEq, exists_eq_left', exists_eq_left, Prod.mk.injEq, if_true, if_false, ite_true, ite_false, ne_eq, eq_self, reduceCtorEq, ↓reduceIte, Nat.reduceEqDiff, Nat.reduceAdd, Nat.reduceSub, Nat.reduceMul, Nat.reduceLT, Nat.reduceLeDiff, Nat.reduceBEq, Nat.reduceBNe, Nat.reduceMod, Nat.reduceDiv, Nat.reducePow, Int.reduceEq, Int.reduceLT, Int.reduceLE, Int.reduceNeg, Int.reduceAdd, Int.reduceSub, Int.reduceMul, Int.reduceToNat, Int.reduceBEq, Int.reduceBNe, hl', hn]

theorem L_ref35_Same {a b : List Int} {n1 g1 n2 g2 : Bool} (ha : a.length < 4611686018427387904) (hl : a.length = b.length) : ∀ (d k : Nat), k + d = a.length →
    (a.drop k = b.drop k → (Q (.exit 0) ⟨[], h, nx, ls, wb⟩ ↔ R)) → (a.drop k ≠ b.drop k → ∀ e, getE e 4 = .bool false → (Q .ret ⟨e, h, nx, ls, wb⟩ ↔ R)) →
    (L_ref35_Same_0 XX (.tree (a.map uV) n1 g1) (.tree (b.map uV) n2 g2) (.int .i64 k) h nx ls wb Q ↔ R) := by
  intro d
  induction d with
  | zero =>
    intro k hk q1 q2
    obtain rfl : k = a.length := by omega
    rw [L_ref35_Same_0_unf]
    simp only [b_ref35_Same_0, bC, bW, wpY', evR, evW, idx, ldc, okV, sub, setc, buildC, bnd, resOf, resL, res1, xorB, take2L, take2, takeL, take1, appF, rowOf, elemOk, plain, pl1, isRow, cellB, srcOf, LIM, Option.some.injEq, exists_eq_left', exists_eq_left, Prod.mk.injEq, if_true, if_false, ite_true, ite_false, ne_eq, eq_self, reduceCtorEq, ↓reduceIte, Nat.reduceEqDiff, Nat.reduceAdd, Nat.reduceSub, Nat.reduceMul, Nat.reduceLT, Nat.reduceLeDiff, Nat.reduceBEq, Nat.reduceBNe, Nat.reduceMod, Nat.reduceDiv, Nat.reducePow, Int.reduceEq, Int.reduceLT, Int.reduceLE, Int.reduceNeg, Int.reduceAdd, Int.reduceSub, Int.reduceMul, Int.reduceToNat, Int.reduceBEq, Int.reduceBNe, Int.lt_irrefl]
    exact q1 (by rw [List.drop_length, hl, List.drop_length])
  | succ d ih =>
    intro k hk q1 q2
    have hlt : k < a.length := by omega
    obtain ⟨c, hc, hd⟩ := get_some hlt
    obtain ⟨c', hc', hd'⟩ := get_some (l := b) (k := k) (by omega)
    rw [L_ref35_Same_0_unf]
    have hlb : ((k : Int) < (b.length : Int)) = True := lt_c (by omega)
    by_cases hcc : c = c'
    · simp only [b_ref35_Same_0, bC, bW, bD, wpY', evR, evW, idx, ldc, okV, sub, setc, buildC, bnd, resOf, resL, res1, xorB, take2L, take2, takeL, take1, appF, rowOf, elemOk, plain, pl1, isRow, cellB, srcOf, LIM, Option.some.injEq, exists_eq_left', exists_eq_left, Prod.mk.injEq, if_true, if_false, ite_true, ite_false, ne_eq, eq_self, reduceCtorEq, ↓reduceIte, Nat.reduceEqDiff, Nat.reduceAdd, Nat.reduceSub, Nat.reduceMul, Nat.reduceLT, Nat.reduceLeDiff, Nat.reduceBEq, Nat.reduceBNe, Nat.reduceMod, Nat.reduceDiv, Nat.reducePow, Int.reduceEq, Int.reduceLT, Int.reduceLE, Int.reduceNeg, Int.reduceAdd, Int.reduceSub, Int.reduceMul, Int.reduceToNat, Int.reduceBEq, Int.reduceBNe, unused, fpO, rdR, rdW, own1, ptr1, ownC, sepOk, compat, disj, offR, lt_c hlt, hlb, hc, hc', uV_eq, hcc, L_ref35_Same_0_eq, wi_s hlt (by omega)]
      rw [hd, hd'] at q1 q2; simp only [ne_eq, cons_eq_iff] at q1 q2
      exact ih (k + 1) (by omega) (fun e => q1 ⟨hcc, e⟩) (fun e => q2 fun e' => e e'.2)
    · simp only [b_ref35_Same_0, bC, bW, bD, wpY', evR, evW, idx, ldc, okV, sub, setc, buildC, bnd, resOf, resL, res1, xorB, take2L, take2, takeL, take1, appF, rowOf, elemOk, plain, pl1, isRow, cellB, srcOf, LIM, Option.some.injEq, exists_eq_left', exists_eq_left, Prod.mk.injEq, if_true, if_false, ite_true, ite_false, ne_eq, eq_self, reduceCtorEq, ↓reduceIte, Nat.reduceEqDiff, Nat.reduceAdd, Nat.reduceSub, Nat.reduceMul, Nat.reduceLT, Nat.reduceLeDiff, Nat.reduceBEq, Nat.reduceBNe, Nat.reduceMod, Nat.reduceDiv, Nat.reducePow, Int.reduceEq, Int.reduceLT, Int.reduceLE, Int.reduceNeg, Int.reduceAdd, Int.reduceSub, Int.reduceMul, Int.reduceToNat, Int.reduceBEq, Int.reduceBNe, unused, fpO, rdR, rdW, own1, ptr1, ownC, sepOk, compat, disj, offR, lt_c hlt, hlb, hc, hc', uV_eq, hcc]
      rw [hd, hd'] at q2; simp only [ne_eq, cons_eq_iff] at q2
      exact q2 (fun e => hcc e.1) _ rfl
theorem f_ref35_Same {a b : List Int} {n1 g1 n2 g2 : Bool} (ha : a.length < 4611686018427387904) : WpF XX .ro n_ref35_Same [.tree (a.map uV) n1 g1, .tree (b.map uV) n2 g2] st K ↔ K (.bool (decide (a = b))) st := by
  rw [F_ro (mf := m_ref35_Same) rfl rfl]
  by_cases hl : a.length = b.length
  · simp only [m_ref35_Same, bC, bW, wpY', evR, evW, idx, ldc, okV, sub, setc, buildC, bnd, resOf, resL, res1, xorB, take2L, take2, takeL, take1, appF, rowOf, elemOk, plain, pl1, isRow, cellB, srcOf, LIM, Option.some.injEq, exists_eq_left', exists_eq_left, Prod.mk.injEq, if_true, if_false, ite_true, ite_false, ne_eq, eq_self, reduceCtorEq, ↓reduceIte, Nat.reduceEqDiff, Nat.reduceAdd, Nat.reduceSub, Nat.reduceMul, Nat.reduceLT, Nat.reduceLeDiff, Nat.reduceBEq, Nat.reduceBNe, Nat.reduceMod, Nat.reduceDiv, Nat.reducePow, Int.reduceEq, Int.reduceLT, Int.reduceLE, Int.reduceNeg, Int.reduceAdd, Int.reduceSub, Int.reduceMul, Int.reduceToNat, Int.reduceBEq, Int.reduceBNe, hl, L_ref35_Same_0_eq]
    refine L_ref35_Same ha hl a.length 0 (by omega) (fun e => ?_) (fun e en he => ?_)
    · have e : a = b := e
      simp only [bC, bW, wpY', evR, evW, idx, ldc, okV, sub, setc, buildC, bnd, resOf, resL, res1, xorB, take2L, take2, takeL, take1, appF, rowOf, elemOk, plain, pl1, isRow, cellB, srcOf, LIM, Option.some.injEq, exists_eq_left', exists_eq_left, Prod.mk.injEq, if_true, if_false, ite_true, ite_false, ne_eq, eq_self, reduceCtorEq, ↓reduceIte, Nat.reduceEqDiff, Nat.reduceAdd, Nat.reduceSub, Nat.reduceMul, Nat.reduceLT, Nat.reduceLeDiff, Nat.reduceBEq, Nat.reduceBNe, Nat.reduceMod, Nat.reduceDiv, Nat.reducePow, Int.reduceEq, Int.reduceLT, Int.reduceLE, Int.reduceNeg, Int.reduceAdd, Int.reduceSub, Int.reduceMul, Int.reduceToNat, Int.reduceBEq, Int.reduceBNe, e]
    · have e : ¬ a = b := e
      simp only [bC, bW, wpY', evR, evW, idx, ldc, okV, sub, setc, buildC, bnd, resOf, resL, res1, xorB, take2L, take2, takeL, take1, appF, rowOf, elemOk, plain, pl1, isRow, cellB, srcOf, LIM, Option.some.injEq, exists_eq_left', exists_eq_left, Prod.mk.injEq, if_true, if_false, ite_true, ite_false, ne_eq, eq_self, reduceCtorEq, ↓reduceIte, Nat.reduceEqDiff, Nat.reduceAdd, Nat.reduceSub, Nat.reduceMul, Nat.reduceLT, Nat.reduceLeDiff, Nat.reduceBEq, Nat.reduceBNe, Nat.reduceMod, Nat.reduceDiv, Nat.reducePow, Int.reduceEq, Int.reduceLT, Int.reduceLE, Int.reduceNeg, Int.reduceAdd, Int.reduceSub, Int.reduceMul, Int.reduceToNat, Int.reduceBEq, Int.reduceBNe, e, he]
  · have hn : ¬ a = b := fun e => hl (by rw [e])
    have hl' : ¬ ((a.length : Int) = (b.length : Int)) := by omega
    simp only [m_ref35_Same, bC, bW, wpY', evR, evW, idx, ldc, okV, sub, setc, buildC, bnd, resOf, resL, res1, xorB, take2L, take2, takeL, take1, appF, rowOf, elemOk, plain, pl1, isRow, cellB, srcOf, LIM, Option.some.injEq, exists_eq_left', exists_eq_left, Prod.mk.injEq, if_true, if_false, ite_true, ite_false, ne_eq, eq_self, reduceCtorEq, ↓reduceIte, Nat.reduceEqDiff, Nat.reduceAdd, Nat.reduceSub, Nat.reduceMul, Nat.reduceLT, Nat.reduceLeDiff, Nat.reduceBEq, Nat.reduceBNe, Nat.reduceMod, Nat.reduceDiv, Nat.reducePow, Int.reduceEq, Int.reduceLT, Int.reduceLE, Int.reduceNeg, Int.reduceAdd, Int.reduceSub, Int.reduceMul, Int.reduceToNat, Int.reduceBEq, Int.reduceBNe, hl', hn]

/-- What lists of slices hold. -/
def inner {α : Type} (l : List (Sl α)) : List (List α) := l.map Sl.xs
theorem inner_c {α : Type} {a : Sl α} {l : List (Sl α)} : inner (a :: l) = a.xs :: inner l := rfl
theorem L_ref36_Lists {a b : List By} {n1 g1 n2 g2 : Bool} (ha : a.length < 4611686018427387904) (hs : ∀ p ∈ a, p.xs.length < 4611686018427387904) (hl : a.length = b.length) : ∀ (d k : Nat), k + d = a.length →
    (inner (a.drop k) = inner (b.drop k) → (Q (.exit 0) ⟨[], h, nx, ls, wb⟩ ↔ R)) → (inner (a.drop k) ≠ inner (b.drop k) → ∀ e, getE e 4 = .bool false → (Q .ret ⟨e, h, nx, ls, wb⟩ ↔ R)) →
    (L_ref36_Lists_0 XX (.tree (a.map By.v) n1 g1) (.tree (b.map By.v) n2 g2) (.int .i64 k) h nx ls wb Q ↔ R) := by
  intro d
  induction d with
  | zero =>
    intro k hk q1 q2
    obtain rfl : k = a.length := by omega
    rw [L_ref36_Lists_0_unf]
    simp only [b_ref36_Lists_0, bC, bW, wpY', evR, evW, idx, ldc, okV, sub, setc, buildC, bnd, resOf, resL, res1, xorB, take2L, take2, takeL, take1, appF, rowOf, elemOk, plain, pl1, isRow, cellB, srcOf, LIM, Option.some.injEq, exists_eq_left', exists_eq_left, Prod.mk.injEq, if_true, if_false, ite_true, ite_false, ne_eq, eq_self, reduceCtorEq, ↓reduceIte, Nat.reduceEqDiff, Nat.reduceAdd, Nat.reduceSub, Nat.reduceMul, Nat.reduceLT, Nat.reduceLeDiff, Nat.reduceBEq, Nat.reduceBNe, Nat.reduceMod, Nat.reduceDiv, Nat.reducePow, Int.reduceEq, Int.reduceLT, Int.reduceLE, Int.reduceNeg, Int.reduceAdd, Int.reduceSub, Int.reduceMul, Int.reduceToNat, Int.reduceBEq, Int.reduceBNe, Int.lt_irrefl]
    exact q1 (by rw [List.drop_length, hl, List.drop_length])
  | succ d ih =>
    intro k hk q1 q2
    have hlt : k < a.length := by omega
    obtain ⟨c, hc, hd⟩ := get_some hlt
    obtain ⟨c', hc', hd'⟩ := get_some (l := b) (k := k) (by omega)
    rw [L_ref36_Lists_0_unf]
    have hlb : ((k : Int) < (b.length : Int)) = True := lt_c (by omega)
    have hcs := hs c (List.mem_of_getElem? hc)
    by_cases hcc : c.xs = c'.xs
    · simp only [b_ref36_Lists_0, bC, bW, bD, wpY', evR, evW, idx, ldc, okV, sub, setc, buildC, bnd, resOf, resL, res1, xorB, take2L, take2, takeL, take1, appF, rowOf, elemOk, plain, pl1, isRow, cellB, srcOf, LIM, Option.some.injEq, exists_eq_left', exists_eq_left, Prod.mk.injEq, if_true, if_false, ite_true, ite_false, ne_eq, eq_self, reduceCtorEq, ↓reduceIte, Nat.reduceEqDiff, Nat.reduceAdd, Nat.reduceSub, Nat.reduceMul, Nat.reduceLT, Nat.reduceLeDiff, Nat.reduceBEq, Nat.reduceBNe, Nat.reduceMod, Nat.reduceDiv, Nat.reducePow, Int.reduceEq, Int.reduceLT, Int.reduceLE, Int.reduceNeg, Int.reduceAdd, Int.reduceSub, Int.reduceMul, Int.reduceToNat, Int.reduceBEq, Int.reduceBNe, unused, fpO, rdR, rdW, own1, ptr1, ownC, sepOk, compat, disj, offR, lt_c hlt, hlb, hc, hc', By.v, Sl.v, f_ref36_Bytes hcs, eq_true hcc, L_ref36_Lists_0_eq, wi_s hlt (by omega)]
      rw [hd, hd'] at q1 q2; simp only [ne_eq, inner_c, cons_eq_iff] at q1 q2
      exact ih (k + 1) (by omega) (fun e => q1 ⟨hcc, e⟩) (fun e => q2 fun e' => e e'.2)
    · simp only [b_ref36_Lists_0, bC, bW, bD, wpY', evR, evW, idx, ldc, okV, sub, setc, buildC, bnd, resOf, resL, res1, xorB, take2L, take2, takeL, take1, appF, rowOf, elemOk, plain, pl1, isRow, cellB, srcOf, LIM, Option.some.injEq, exists_eq_left', exists_eq_left, Prod.mk.injEq, if_true, if_false, ite_true, ite_false, ne_eq, eq_self, reduceCtorEq, ↓reduceIte, Nat.reduceEqDiff, Nat.reduceAdd, Nat.reduceSub, Nat.reduceMul, Nat.reduceLT, Nat.reduceLeDiff, Nat.reduceBEq, Nat.reduceBNe, Nat.reduceMod, Nat.reduceDiv, Nat.reducePow, Int.reduceEq, Int.reduceLT, Int.reduceLE, Int.reduceNeg, Int.reduceAdd, Int.reduceSub, Int.reduceMul, Int.reduceToNat, Int.reduceBEq, Int.reduceBNe, unused, fpO, rdR, rdW, own1, ptr1, ownC, sepOk, compat, disj, offR, lt_c hlt, hlb, hc, hc', By.v, Sl.v, f_ref36_Bytes hcs, hcc]
      rw [hd, hd'] at q2; simp only [ne_eq, inner_c, cons_eq_iff] at q2
      exact q2 (fun e => hcc e.1) _ rfl
theorem f_ref36_Lists {a b : List By} {n1 g1 n2 g2 : Bool} (ha : a.length < 4611686018427387904) (hs : ∀ p ∈ a, p.xs.length < 4611686018427387904) : WpF XX .ro n_ref36_Lists [.tree (a.map By.v) n1 g1, .tree (b.map By.v) n2 g2] st K ↔ K (.bool (decide (inner a = inner b))) st := by
  rw [F_ro (mf := m_ref36_Lists) rfl rfl]
  by_cases hl : a.length = b.length
  · simp only [m_ref36_Lists, bC, bW, wpY', evR, evW, idx, ldc, okV, sub, setc, buildC, bnd, resOf, resL, res1, xorB, take2L, take2, takeL, take1, appF, rowOf, elemOk, plain, pl1, isRow, cellB, srcOf, LIM, Option.some.injEq, exists_eq_left', exists_eq_left, Prod.mk.injEq, if_true, if_false, ite_true, ite_false, ne_eq, eq_self, reduceCtorEq, ↓reduceIte, Nat.reduceEqDiff, Nat.reduceAdd, Nat.reduceSub, Nat.reduceMul, Nat.reduceLT, Nat.reduceLeDiff, Nat.reduceBEq, Nat.reduceBNe, Nat.reduceMod, Nat.reduceDiv, Nat.reducePow, Int.reduceEq, Int.reduceLT, Int.reduceLE, Int.reduceNeg, Int.reduceAdd, Int.reduceSub, Int.reduceMul, Int.reduceToNat, Int.reduceBEq, Int.reduceBNe, hl, L_ref36_Lists_0_eq]
    refine L_ref36_Lists ha hs hl a.length 0 (by omega) (fun e => ?_) (fun e en he => ?_)
    · have e : inner a = inner b := e
      simp only [bC, bW, wpY', evR, evW, idx, ldc, okV, sub, setc, buildC, bnd, resOf, resL, res1, xorB, take2L, take2, takeL, take1, appF, rowOf, elemOk, plain, pl1, isRow, cellB, srcOf, LIM, Option.some.injEq, exists_eq_left', exists_eq_left, Prod.mk.injEq, if_true, if_false, ite_true, ite_false, ne_eq, eq_self, reduceCtorEq, ↓reduceIte, Nat.reduceEqDiff, Nat.reduceAdd, Nat.reduceSub, Nat.reduceMul, Nat.reduceLT, Nat.reduceLeDiff, Nat.reduceBEq, Nat.reduceBNe, Nat.reduceMod, Nat.reduceDiv, Nat.reducePow, Int.reduceEq, Int.reduceLT, Int.reduceLE, Int.reduceNeg, Int.reduceAdd, Int.reduceSub, Int.reduceMul, Int.reduceToNat, Int.reduceBEq, Int.reduceBNe, e]
    · have e : ¬ inner a = inner b := e
      simp only [bC, bW, wpY', evR, evW, idx, ldc, okV, sub, setc, buildC, bnd, resOf, resL, res1, xorB, take2L, take2, takeL, take1, appF, rowOf, elemOk, plain, pl1, isRow, cellB, srcOf, LIM, Option.some.injEq, exists_eq_left', exists_eq_left, Prod.mk.injEq, if_true, if_false, ite_true, ite_false, ne_eq, eq_self, reduceCtorEq, ↓reduceIte, Nat.reduceEqDiff, Nat.reduceAdd, Nat.reduceSub, Nat.reduceMul, Nat.reduceLT, Nat.reduceLeDiff, Nat.reduceBEq, Nat.reduceBNe, Nat.reduceMod, Nat.reduceDiv, Nat.reducePow, Int.reduceEq, Int.reduceLT, Int.reduceLE, Int.reduceNeg, Int.reduceAdd, Int.reduceSub, Int.reduceMul, Int.reduceToNat, Int.reduceBEq, Int.reduceBNe, e, he]
  · have hn : ¬ inner a = inner b := fun e => hl (by have := congrArg List.length e; simpa [inner] using this)
    have hl' : ¬ ((a.length : Int) = (b.length : Int)) := by omega
    simp only [m_ref36_Lists, bC, bW, wpY', evR, evW, idx, ldc, okV, sub, setc, buildC, bnd, resOf, resL, res1, xorB, take2L, take2, takeL, take1, appF, rowOf, elemOk, plain, pl1, isRow, cellB, srcOf, LIM, Option.some.injEq, exists_eq_left', exists_eq_left, Prod.mk.injEq, if_true, if_false, ite_true, ite_false, ne_eq, eq_self, reduceCtorEq, ↓reduceIte, Nat.reduceEqDiff, Nat.reduceAdd, Nat.reduceSub, Nat.reduceMul, Nat.reduceLT, Nat.reduceLeDiff, Nat.reduceBEq, Nat.reduceBNe, Nat.reduceMod, Nat.reduceDiv, Nat.reducePow, Int.reduceEq, Int.reduceLT, Int.reduceLE, Int.reduceNeg, Int.reduceAdd, Int.reduceSub, Int.reduceMul, Int.reduceToNat, Int.reduceBEq, Int.reduceBNe, hl', hn]

theorem L_ref36_proofs {a b : List (Sl Int)} {n1 g1 n2 g2 : Bool} (ha : a.length < 4611686018427387904) (hs : ∀ p ∈ a, p.xs.length < 4611686018427387904) (hl : a.length = b.length) : ∀ (d k : Nat), k + d = a.length →
    (inner (a.drop k) = inner (b.drop k) → (Q (.exit 0) ⟨[], h, nx, ls, wb⟩ ↔ R)) → (inner (a.drop k) ≠ inner (b.drop k) → ∀ e, getE e 4 = .bool false → (Q .ret ⟨e, h, nx, ls, wb⟩ ↔ R)) →
    (L_ref36_proofs_0 XX (.tree (a.map (Sl.v uV)) n1 g1) (.tree (b.map (Sl.v uV)) n2 g2) (.int .i64 k) h nx ls wb Q ↔ R) := by
  intro d
  induction d with
  | zero =>
    intro k hk q1 q2
    obtain rfl : k = a.length := by omega
    rw [L_ref36_proofs_0_unf]
    simp only [b_ref36_proofs_0, bC, bW, wpY', evR, evW, idx, ldc, okV, sub, setc, buildC, bnd, resOf, resL, res1, xorB, take2L, take2, takeL, take1, appF, rowOf, elemOk, plain, pl1, isRow, cellB, srcOf, LIM, Option.some.injEq, exists_eq_left', exists_eq_left, Prod.mk.injEq, if_true, if_false, ite_true, ite_false, ne_eq, eq_self, reduceCtorEq, ↓reduceIte, Nat.reduceEqDiff, Nat.reduceAdd, Nat.reduceSub, Nat.reduceMul, Nat.reduceLT, Nat.reduceLeDiff, Nat.reduceBEq, Nat.reduceBNe, Nat.reduceMod, Nat.reduceDiv, Nat.reducePow, Int.reduceEq, Int.reduceLT, Int.reduceLE, Int.reduceNeg, Int.reduceAdd, Int.reduceSub, Int.reduceMul, Int.reduceToNat, Int.reduceBEq, Int.reduceBNe, Int.lt_irrefl]
    exact q1 (by rw [List.drop_length, hl, List.drop_length])
  | succ d ih =>
    intro k hk q1 q2
    have hlt : k < a.length := by omega
    obtain ⟨c, hc, hd⟩ := get_some hlt
    obtain ⟨c', hc', hd'⟩ := get_some (l := b) (k := k) (by omega)
    rw [L_ref36_proofs_0_unf]
    have hlb : ((k : Int) < (b.length : Int)) = True := lt_c (by omega)
    have hcs := hs c (List.mem_of_getElem? hc)
    by_cases hcc : c.xs = c'.xs
    · simp only [b_ref36_proofs_0, bC, bW, bD, wpY', evR, evW, idx, ldc, okV, sub, setc, buildC, bnd, resOf, resL, res1, xorB, take2L, take2, takeL, take1, appF, rowOf, elemOk, plain, pl1, isRow, cellB, srcOf, LIM, Option.some.injEq, exists_eq_left', exists_eq_left, Prod.mk.injEq, if_true, if_false, ite_true, ite_false, ne_eq, eq_self, reduceCtorEq, ↓reduceIte, Nat.reduceEqDiff, Nat.reduceAdd, Nat.reduceSub, Nat.reduceMul, Nat.reduceLT, Nat.reduceLeDiff, Nat.reduceBEq, Nat.reduceBNe, Nat.reduceMod, Nat.reduceDiv, Nat.reducePow, Int.reduceEq, Int.reduceLT, Int.reduceLE, Int.reduceNeg, Int.reduceAdd, Int.reduceSub, Int.reduceMul, Int.reduceToNat, Int.reduceBEq, Int.reduceBNe, unused, fpO, rdR, rdW, own1, ptr1, ownC, sepOk, compat, disj, offR, lt_c hlt, hlb, hc, hc', Sl.v, f_ref35_Same hcs, eq_true hcc, L_ref36_proofs_0_eq, wi_s hlt (by omega)]
      rw [hd, hd'] at q1 q2; simp only [ne_eq, inner_c, cons_eq_iff] at q1 q2
      exact ih (k + 1) (by omega) (fun e => q1 ⟨hcc, e⟩) (fun e => q2 fun e' => e e'.2)
    · simp only [b_ref36_proofs_0, bC, bW, bD, wpY', evR, evW, idx, ldc, okV, sub, setc, buildC, bnd, resOf, resL, res1, xorB, take2L, take2, takeL, take1, appF, rowOf, elemOk, plain, pl1, isRow, cellB, srcOf, LIM, Option.some.injEq, exists_eq_left', exists_eq_left, Prod.mk.injEq, if_true, if_false, ite_true, ite_false, ne_eq, eq_self, reduceCtorEq, ↓reduceIte, Nat.reduceEqDiff, Nat.reduceAdd, Nat.reduceSub, Nat.reduceMul, Nat.reduceLT, Nat.reduceLeDiff, Nat.reduceBEq, Nat.reduceBNe, Nat.reduceMod, Nat.reduceDiv, Nat.reducePow, Int.reduceEq, Int.reduceLT, Int.reduceLE, Int.reduceNeg, Int.reduceAdd, Int.reduceSub, Int.reduceMul, Int.reduceToNat, Int.reduceBEq, Int.reduceBNe, unused, fpO, rdR, rdW, own1, ptr1, ownC, sepOk, compat, disj, offR, lt_c hlt, hlb, hc, hc', Sl.v, f_ref35_Same hcs, hcc]
      rw [hd, hd'] at q2; simp only [ne_eq, inner_c, cons_eq_iff] at q2
      exact q2 (fun e => hcc e.1) _ rfl
theorem f_ref36_proofs {a b : List (Sl Int)} {n1 g1 n2 g2 : Bool} (ha : a.length < 4611686018427387904) (hs : ∀ p ∈ a, p.xs.length < 4611686018427387904) : WpF XX .ro n_ref36_proofs [.tree (a.map (Sl.v uV)) n1 g1, .tree (b.map (Sl.v uV)) n2 g2] st K ↔ K (.bool (decide (inner a = inner b))) st := by
  rw [F_ro (mf := m_ref36_proofs) rfl rfl]
  by_cases hl : a.length = b.length
  · simp only [m_ref36_proofs, bC, bW, wpY', evR, evW, idx, ldc, okV, sub, setc, buildC, bnd, resOf, resL, res1, xorB, take2L, take2, takeL, take1, appF, rowOf, elemOk, plain, pl1, isRow, cellB, srcOf, LIM, Option.some.injEq, exists_eq_left', exists_eq_left, Prod.mk.injEq, if_true, if_false, ite_true, ite_false, ne_eq, eq_self, reduceCtorEq, ↓reduceIte, Nat.reduceEqDiff, Nat.reduceAdd, Nat.reduceSub, Nat.reduceMul, Nat.reduceLT, Nat.reduceLeDiff, Nat.reduceBEq, Nat.reduceBNe, Nat.reduceMod, Nat.reduceDiv, Nat.reducePow, Int.reduceEq, Int.reduceLT, Int.reduceLE, Int.reduceNeg, Int.reduceAdd, Int.reduceSub, Int.reduceMul, Int.reduceToNat, Int.reduceBEq, Int.reduceBNe, hl, L_ref36_proofs_0_eq]
    refine L_ref36_proofs ha hs hl a.length 0 (by omega) (fun e => ?_) (fun e en he => ?_)
    · have e : inner a = inner b := e
      simp only [bC, bW, wpY', evR, evW, idx, ldc, okV, sub, setc, buildC, bnd, resOf, resL, res1, xorB, take2L, take2, takeL, take1, appF, rowOf, elemOk, plain, pl1, isRow, cellB, srcOf, LIM, Option.some.injEq, exists_eq_left', exists_eq_left, Prod.mk.injEq, if_true, if_false, ite_true, ite_false, ne_eq, eq_self, reduceCtorEq, ↓reduceIte, Nat.reduceEqDiff, Nat.reduceAdd, Nat.reduceSub, Nat.reduceMul, Nat.reduceLT, Nat.reduceLeDiff, Nat.reduceBEq, Nat.reduceBNe, Nat.reduceMod, Nat.reduceDiv, Nat.reducePow, Int.reduceEq, Int.reduceLT, Int.reduceLE, Int.reduceNeg, Int.reduceAdd, Int.reduceSub, Int.reduceMul, Int.reduceToNat, Int.reduceBEq, Int.reduceBNe, e]
    · have e : ¬ inner a = inner b := e
      simp only [bC, bW, wpY', evR, evW, idx, ldc, okV, sub, setc, buildC, bnd, resOf, resL, res1, xorB, take2L, take2, takeL, take1, appF, rowOf, elemOk, plain, pl1, isRow, cellB, srcOf, LIM, Option.some.injEq, exists_eq_left', exists_eq_left, Prod.mk.injEq, if_true, if_false, ite_true, ite_false, ne_eq, eq_self, reduceCtorEq, ↓reduceIte, Nat.reduceEqDiff, Nat.reduceAdd, Nat.reduceSub, Nat.reduceMul, Nat.reduceLT, Nat.reduceLeDiff, Nat.reduceBEq, Nat.reduceBNe, Nat.reduceMod, Nat.reduceDiv, Nat.reducePow, Int.reduceEq, Int.reduceLT, Int.reduceLE, Int.reduceNeg, Int.reduceAdd, Int.reduceSub, Int.reduceMul, Int.reduceToNat, Int.reduceBEq, Int.reduceBNe, e, he]
  · have hn : ¬ inner a = inner b := fun e => hl (by have := congrArg List.length e; simpa [inner] using this)
    have hl' : ¬ ((a.length : Int) = (b.length : Int)) := by omega
    simp only [m_ref36_proofs, bC, bW, wpY', evR, evW, idx, ldc, okV, sub, setc, buildC, bnd, resOf, resL, res1, xorB, take2L, take2, takeL, take1, appF, rowOf, elemOk, plain, pl1, isRow, cellB, srcOf, LIM, Option.some.injEq, exists_eq_left', exists_eq_left, Prod.mk.injEq, if_true, if_false, ite_true, ite_false, ne_eq, eq_self, reduceCtorEq, ↓reduceIte, Nat.reduceEqDiff, Nat.reduceAdd, Nat.reduceSub, Nat.reduceMul, Nat.reduceLT, Nat.reduceLeDiff, Nat.reduceBEq, Nat.reduceBNe, Nat.reduceMod, Nat.reduceDiv, Nat.reducePow, Int.reduceEq, Int.reduceLT, Int.reduceLE, Int.reduceNeg, Int.reduceAdd, Int.reduceSub, Int.reduceMul, Int.reduceToNat, Int.reduceBEq, Int.reduceBNe, hl', hn]

/-! ### looks for a slice -/
theorem L_IndexFunc {g : Nat} {pred : List UInt8 → Bool} (hg : ∀ (xs : List UInt8) (nl tg : Bool) (st : St) (K : SV → St → Prop), WpF XX .ro g [.tree (xs.map b8) nl tg] st K ↔ K (.bool (pred xs)) st) {a : List By} {n1 g1 : Bool} (ha : a.length < 4611686018427387904) : ∀ (d k : Nat), k + d = a.length →
    ((a.drop k).any (fun p => pred p.xs) = false → (Q (.exit 0) ⟨[], h, nx, ls, wb⟩ ↔ R)) → ((a.drop k).any (fun p => pred p.xs) = true → ∀ (e : Env) (j : Nat), getE e 4 = .int .i64 j → (Q .ret ⟨e, h, nx, ls, wb⟩ ↔ R)) →
    (L_slices_IndexFunc_ssbyte_sbyte_0 XX (.tree (a.map By.v) n1 g1) (.fn g [] []) (.int .i64 a.length) (.int .i64 k) h nx ls wb Q ↔ R) := by
  intro d
  induction d with
  | zero =>
    intro k hk q1 q2
    obtain rfl : k = a.length := by omega
    rw [L_slices_IndexFunc_ssbyte_sbyte_0_unf]
    simp only [b_slices_IndexFunc_ssbyte_sbyte_0, bC, bW, wpY', evR, evW, idx, ldc, okV, sub, setc, buildC, bnd, resOf, resL, res1, xorB, take2L, take2, takeL, take1, appF, rowOf, elemOk, plain, pl1, isRow, cellB, srcOf, LIM, Option.some.injEq, exists_eq_left', exists_eq_left, Prod.mk.injEq, if_true, if_false, ite_true, ite_false, ne_eq, eq_self, reduceCtorEq, ↓reduceIte, Nat.reduceEqDiff, Nat.reduceAdd, Nat.reduceSub, Nat.reduceMul, Nat.reduceLT, Nat.reduceLeDiff, Nat.reduceBEq, Nat.reduceBNe, Nat.reduceMod, Nat.reduceDiv, Nat.reducePow, Int.reduceEq, Int.reduceLT, Int.reduceLE, Int.reduceNeg, Int.reduceAdd, Int.reduceSub, Int.reduceMul, Int.reduceToNat, Int.reduceBEq, Int.reduceBNe, Int.lt_irrefl]
    exact q1 (by rw [List.drop_length]; rfl)
  | succ d ih =>
    intro k hk q1 q2
    have hlt : k < a.length := by omega
    obtain ⟨c, hc, hd⟩ := get_some hlt
    rw [L_slices_IndexFunc_ssbyte_sbyte_0_unf]
    rw [hd, List.any_cons] at q1 q2
    cases hp : pred c.xs with
    | false =>
      simp only [b_slices_IndexFunc_ssbyte_sbyte_0, bC, bW, wpY', evR, evW, idx, ldc, okV, sub, setc, buildC, bnd, resOf, resL, res1, xorB, take2L, take2, takeL, take1, appF, rowOf, elemOk, plain, pl1, isRow, cellB, srcOf, LIM, Option.some.injEq, exists_eq_left', exists_eq_left, Prod.mk.injEq, if_true, if_false, ite_true, ite_false, ne_eq, eq_self, reduceCtorEq, ↓reduceIte, Nat.reduceEqDiff, Nat.reduceAdd, Nat.reduceSub, Nat.reduceMul, Nat.reduceLT, Nat.reduceLeDiff, Nat.reduceBEq, Nat.reduceBNe, Nat.reduceMod, Nat.reduceDiv, Nat.reducePow, Int.reduceEq, Int.reduceLT, Int.reduceLE, Int.reduceNeg, Int.reduceAdd, Int.reduceSub, Int.reduceMul, Int.reduceToNat, Int.reduceBEq, Int.reduceBNe, lt_c hlt, hc, By.v, Sl.v, hg, hp, L_slices_IndexFunc_ssbyte_sbyte_0_eq, wi_s hlt (by omega)]
      rw [hp, Bool.false_or] at q1 q2
      exact ih (k + 1) (by omega) q1 q2
    | true =>
      simp only [b_slices_IndexFunc_ssbyte_sbyte_0, bC, bW, wpY', evR, evW, idx, ldc, okV, sub, setc, buildC, bnd, resOf, resL, res1, xorB, take2L, take2, takeL, take1, appF, rowOf, elemOk, plain, pl1, isRow, cellB, srcOf, LIM, Option.some.injEq, exists_eq_left', exists_eq_left, Prod.mk.injEq, if_true, if_false, ite_true, ite_false, ne_eq, eq_self, reduceCtorEq, ↓reduceIte, Nat.reduceEqDiff, Nat.reduceAdd, Nat.reduceSub, Nat.reduceMul, Nat.reduceLT, Nat.reduceLeDiff, Nat.reduceBEq, Nat.reduceBNe, Nat.reduceMod, Nat.reduceDiv, Nat.reducePow, Int.reduceEq, Int.reduceLT, Int.reduceLE, Int.reduceNeg, Int.reduceAdd, Int.reduceSub, Int.reduceMul, Int.reduceToNat, Int.reduceBEq, Int.reduceBNe, lt_c hlt, hc, By.v, Sl.v, hg, hp]
      rw [hp, Bool.true_or] at q2
      exact q2 rfl _ k rfl
theorem f_ContainsFunc {g : Nat} {pred : List UInt8 → Bool} (hg : ∀ (xs : List UInt8) (nl tg : Bool) (st : St) (K : SV → St → Prop), WpF XX .ro g [.tree (xs.map b8) nl tg] st K ↔ K (.bool (pred xs)) st) {a : List By} {n1 g1 : Bool} (ha : a.length < 4611686018427387904) : WpF XX .ro n_slices_ContainsFunc_ssbyte_sbyte [.tree (a.map By.v) n1 g1, .fn g [] []] st K ↔ K (.bool (a.any fun p => pred p.xs)) st := by
  rw [F_ro (mf := m_slices_ContainsFunc_ssbyte_sbyte) rfl rfl]
  simp only [m_slices_ContainsFunc_ssbyte_sbyte, bC, bW, wpY', evR, evW, idx, ldc, okV, sub, setc, buildC, bnd, resOf, resL, res1, xorB, take2L, take2, takeL, take1, appF, rowOf, elemOk, plain, pl1, isRow, cellB, srcOf, LIM, Option.some.injEq, exists_eq_left', exists_eq_left, Prod.mk.injEq, if_true, if_false, ite_true, ite_false, ne_eq, eq_self, reduceCtorEq, ↓reduceIte, Nat.reduceEqDiff, Nat.reduceAdd, Nat.reduceSub, Nat.reduceMul, Nat.reduceLT, Nat.reduceLeDiff, Nat.reduceBEq, Nat.reduceBNe, Nat.reduceMod, Nat.reduceDiv, Nat.reducePow, Int.reduceEq, Int.reduceLT, Int.reduceLE, Int.reduceNeg, Int.reduceAdd, Int.reduceSub, Int.reduceMul, Int.reduceToNat, Int.reduceBEq, Int.reduceBNe]
  rw [F_ro (mf := m_slices_IndexFunc_ssbyte_sbyte) rfl rfl]
  simp only [m_slices_IndexFunc_ssbyte_sbyte, bC, bW, wpY', evR, evW, idx, ldc, okV, sub, setc, buildC, bnd, resOf, resL, res1, xorB, take2L, take2, takeL, take1, appF, rowOf, elemOk, plain, pl1, isRow, cellB, srcOf, LIM, Option.some.injEq, exists_eq_left', exists_eq_left, Prod.mk.injEq, if_true, if_false, ite_true, ite_false, ne_eq, eq_self, reduceCtorEq, ↓reduceIte, Nat.reduceEqDiff, Nat.reduceAdd, Nat.reduceSub, Nat.reduceMul, Nat.reduceLT, Nat.reduceLeDiff, Nat.reduceBEq, Nat.reduceBNe, Nat.reduceMod, Nat.reduceDiv, Nat.reducePow, Int.reduceEq, Int.reduceLT, Int.reduceLE, Int.reduceNeg, Int.reduceAdd, Int.reduceSub, Int.reduceMul, Int.reduceToNat, Int.reduceBEq, Int.reduceBNe, L_slices_IndexFunc_ssbyte_sbyte_0_eq]
  refine L_IndexFunc hg ha a.length 0 (by omega) (fun e => ?_) (fun e en j hj => ?_)
  · rw [List.drop_zero] at e
    simp only [bC, bW, wpY', evR, evW, idx, ldc, okV, sub, setc, buildC, bnd, resOf, resL, res1, xorB, take2L, take2, takeL, take1, appF, rowOf, elemOk, plain, pl1, isRow, cellB, srcOf, LIM, Option.some.injEq, exists_eq_left', exists_eq_left, Prod.mk.injEq, if_true, if_false, ite_true, ite_false, ne_eq, eq_self, reduceCtorEq, ↓reduceIte, Nat.reduceEqDiff, Nat.reduceAdd, Nat.reduceSub, Nat.reduceMul, Nat.reduceLT, Nat.reduceLeDiff, Nat.reduceBEq, Nat.reduceBNe, Nat.reduceMod, Nat.reduceDiv, Nat.reducePow, Int.reduceEq, Int.reduceLT, Int.reduceLE, Int.reduceNeg, Int.reduceAdd, Int.reduceSub, Int.reduceMul, Int.reduceToNat, Int.reduceBEq, Int.reduceBNe, e]
  · rw [List.drop_zero] at e
    simp only [bC, bW, wpY', evR, evW, idx, ldc, okV, sub, setc, buildC, bnd, resOf, resL, res1, xorB, take2L, take2, takeL, take1, appF, rowOf, elemOk, plain, pl1, isRow, cellB, srcOf, LIM, Option.some.injEq, exists_eq_left', exists_eq_left, Prod.mk.injEq, if_true, if_false, ite_true, ite_false, ne_eq, eq_self, reduceCtorEq, ↓reduceIte, Nat.reduceEqDiff, Nat.reduceAdd, Nat.reduceSub, Nat.reduceMul, Nat.reduceLT, Nat.reduceLeDiff, Nat.reduceBEq, Nat.reduceBNe, Nat.reduceMod, Nat.reduceDiv, Nat.reducePow, Int.reduceEq, Int.reduceLT, Int.reduceLE, Int.reduceNeg, Int.reduceAdd, Int.reduceSub, Int.reduceMul, Int.reduceToNat, Int.reduceBEq, Int.reduceBNe, e, hj]
theorem f_tree_arePages_1 (xs : List UInt8) (nl tg : Bool) (st : St) (K : SV → St → Prop) : WpF XX .ro n_tree_arePages_1 [.tree (xs.map b8) nl tg] st K ↔ K (.bool (decide ((256 : Int) < xs.length))) st := by
  rw [F_ro (mf := m_tree_arePages_1) rfl rfl]
  simp only [m_tree_arePages_1, bC, bW, wpY', evR, evW, idx, ldc, okV, sub, setc, buildC, bnd, resOf, resL, res1, xorB, take2L, take2, takeL, take1, appF, rowOf, elemOk, plain, pl1, isRow, cellB, srcOf, LIM, Option.some.injEq, exists_eq_left', exists_eq_left, Prod.mk.injEq, if_true, if_false, ite_true, ite_false, ne_eq, eq_self, reduceCtorEq, ↓reduceIte, Nat.reduceEqDiff, Nat.reduceAdd, Nat.reduceSub, Nat.reduceMul, Nat.reduceLT, Nat.reduceLeDiff, Nat.reduceBEq, Nat.reduceBNe, Nat.reduceMod, Nat.reduceDiv, Nat.reducePow, Int.reduceEq, Int.reduceLT, Int.reduceLE, Int.reduceNeg, Int.reduceAdd, Int.reduceSub, Int.reduceMul, Int.reduceToNat, Int.reduceBEq, Int.reduceBNe]
theorem f_image_paged_1 (xs : List UInt8) (nl tg : Bool) (st : St) (K : SV → St → Prop) : WpF XX .ro n_image_paged_1 [.tree (xs.map b8) nl tg] st K ↔ K (.bool (!decide ((xs.length : Int) = 256))) st := by
  rw [F_ro (mf := m_image_paged_1) rfl rfl]
  simp only [m_image_paged_1, bC, bW, wpY', evR, evW, idx, ldc, okV, sub, setc, buildC, bnd, resOf, resL, res1, xorB, take2L, take2, takeL, take1, appF, rowOf, elemOk, plain, pl1, isRow, cellB, srcOf, LIM, Option.some.injEq, exists_eq_left', exists_eq_left, Prod.mk.injEq, if_true, if_false, ite_true, ite_false, ne_eq, eq_self, reduceCtorEq, ↓reduceIte, Nat.reduceEqDiff, Nat.reduceAdd, Nat.reduceSub, Nat.reduceMul, Nat.reduceLT, Nat.reduceLeDiff, Nat.reduceBEq, Nat.reduceBNe, Nat.reduceMod, Nat.reduceDiv, Nat.reducePow, Int.reduceEq, Int.reduceLT, Int.reduceLE, Int.reduceNeg, Int.reduceAdd, Int.reduceSub, Int.reduceMul, Int.reduceToNat, Int.reduceBEq, Int.reduceBNe]

/-- All pages have the right length. -/
def pagedI (a : List By) : Bool := a.all fun p => decide (p.xs.length = 256)
/-- These are pages of a tree. -/
def arePagesI (a : List By) : Bool := decide (1 ≤ a.length) && decide (a.length ≤ 16) && a.all fun p => decide (p.xs.length ≤ 256)
theorem any_all {α : Type} (p q : α → Bool) (hpq : ∀ a, p a = !q a) : ∀ l : List α, (!l.any p) = l.all q
  | [] => rfl
  | a :: l => by rw [List.any_cons, List.all_cons, Bool.not_or, any_all p q hpq l, hpq, Bool.not_not]
theorem f_image_paged {a : List By} {n1 g1 : Bool} (ha : a.length < 4611686018427387904) : WpF XX .ro n_image_paged [.tree (a.map By.v) n1 g1] st K ↔ K (.bool (pagedI a)) st := by
  rw [F_ro (mf := m_image_paged) rfl rfl]
  simp only [m_image_paged, bC, bW, wpY', evR, evW, idx, ldc, okV, sub, setc, buildC, bnd, resOf, resL, res1, xorB, take2L, take2, takeL, take1, appF, rowOf, elemOk, plain, pl1, isRow, cellB, srcOf, LIM, Option.some.injEq, exists_eq_left', exists_eq_left, Prod.mk.injEq, if_true, if_false, ite_true, ite_false, ne_eq, eq_self, reduceCtorEq, ↓reduceIte, Nat.reduceEqDiff, Nat.reduceAdd, Nat.reduceSub, Nat.reduceMul, Nat.reduceLT, Nat.reduceLeDiff, Nat.reduceBEq, Nat.reduceBNe, Nat.reduceMod, Nat.reduceDiv, Nat.reducePow, Int.reduceEq, Int.reduceLT, Int.reduceLE, Int.reduceNeg, Int.reduceAdd, Int.reduceSub, Int.reduceMul, Int.reduceToNat, Int.reduceBEq, Int.reduceBNe, f_ContainsFunc f_image_paged_1 ha]
  rw [any_all _ (fun p : By => decide (p.xs.length = 256)) (fun p => by
    by_cases h : p.xs.length = 256
    · simp [h]
    · have : ¬ (p.xs.length : Int) = 256 := by omega
      simp [h, this])]
  exact Iff.rfl
theorem f_tree_arePages {a : List By} {n1 g1 : Bool} : WpF XX .ro n_tree_arePages [.tree (a.map By.v) n1 g1] st K ↔ K (.bool (arePagesI a)) st := by
  rw [F_ro (mf := m_tree_arePages) rfl rfl]
  unfold arePagesI
  by_cases h1 : (0 : Int) < a.length
  · have h1' : 1 ≤ a.length := by omega
    by_cases h2 : (a.length : Int) ≤ 16
    · have h2' : a.length ≤ 16 := by omega
      simp only [m_tree_arePages, bC, bW, wpY', evR, evW, idx, ldc, okV, sub, setc, buildC, bnd, resOf, resL, res1, xorB, take2L, take2, takeL, take1, appF, rowOf, elemOk, plain, pl1, isRow, cellB, srcOf, LIM, Option.some.injEq, exists_eq_left', exists_eq_left, Prod.mk.injEq, if_true, if_false, ite_true, ite_false, ne_eq, eq_self, reduceCtorEq, ↓reduceIte, Nat.reduceEqDiff, Nat.reduceAdd, Nat.reduceSub, Nat.reduceMul, Nat.reduceLT, Nat.reduceLeDiff, Nat.reduceBEq, Nat.reduceBNe, Nat.reduceMod, Nat.reduceDiv, Nat.reducePow, Int.reduceEq, Int.reduceLT, Int.reduceLE, Int.reduceNeg, Int.reduceAdd, Int.reduceSub, Int.reduceMul, Int.reduceToNat, Int.reduceBEq, Int.reduceBNe, h1, h1', h2, h2', f_ContainsFunc f_tree_arePages_1 (a := a) (by omega)]
      rw [any_all _ (fun p : By => decide (p.xs.length ≤ 256)) (fun p => by
        by_cases h : p.xs.length ≤ 256
        · have : ¬ (256 : Int) < (p.xs.length : Int) := by omega
          simp [h, this]
        · have : (256 : Int) < (p.xs.length : Int) := by omega
          simp [h, this])]
    · have h2' : ¬ a.length ≤ 16 := by omega
      simp only [m_tree_arePages, bC, bW, wpY', evR, evW, idx, ldc, okV, sub, setc, buildC, bnd, resOf, resL, res1, xorB, take2L, take2, takeL, take1, appF, rowOf, elemOk, plain, pl1, isRow, cellB, srcOf, LIM, Option.some.injEq, exists_eq_left', exists_eq_left, Prod.mk.injEq, if_true, if_false, ite_true, ite_false, ne_eq, eq_self, reduceCtorEq, ↓reduceIte, Nat.reduceEqDiff, Nat.reduceAdd, Nat.reduceSub, Nat.reduceMul, Nat.reduceLT, Nat.reduceLeDiff, Nat.reduceBEq, Nat.reduceBNe, Nat.reduceMod, Nat.reduceDiv, Nat.reducePow, Int.reduceEq, Int.reduceLT, Int.reduceLE, Int.reduceNeg, Int.reduceAdd, Int.reduceSub, Int.reduceMul, Int.reduceToNat, Int.reduceBEq, Int.reduceBNe, h1, h1', h2, h2']
  · have h1' : ¬ 1 ≤ a.length := by omega
    simp only [m_tree_arePages, bC, bW, wpY', evR, evW, idx, ldc, okV, sub, setc, buildC, bnd, resOf, resL, res1, xorB, take2L, take2, takeL, take1, appF, rowOf, elemOk, plain, pl1, isRow, cellB, srcOf, LIM, Option.some.injEq, exists_eq_left', exists_eq_left, Prod.mk.injEq, if_true, if_false, ite_true, ite_false, ne_eq, eq_self, reduceCtorEq, ↓reduceIte, Nat.reduceEqDiff, Nat.reduceAdd, Nat.reduceSub, Nat.reduceMul, Nat.reduceLT, Nat.reduceLeDiff, Nat.reduceBEq, Nat.reduceBNe, Nat.reduceMod, Nat.reduceDiv, Nat.reducePow, Int.reduceEq, Int.reduceLT, Int.reduceLE, Int.reduceNeg, Int.reduceAdd, Int.reduceSub, Int.reduceMul, Int.reduceToNat, Int.reduceBEq, Int.reduceBNe, h1, h1']

theorem all_drop {α : Type} {p : α → Bool} {l : List α} {k : Nat} {c : α} (hd : l.drop k = c :: l.drop (k + 1)) : (l.drop k).all p = (p c && (l.drop (k + 1)).all p) := by rw [hd, List.all_cons]
theorem L_ref36_Pages {a : List By} {n1 g1 : Bool} (ha : a.length < 4611686018427387904) : ∀ (d k : Nat), k + d = a.length →
    (pagedI (a.drop k) = true → (Q (.exit 0) ⟨[], h, nx, ls, wb⟩ ↔ R)) → (pagedI (a.drop k) = false → ∀ e, getE e 2 = .bool false → (Q .ret ⟨e, h, nx, ls, wb⟩ ↔ R)) →
    (L_ref36_Pages_0 XX (.tree (a.map By.v) n1 g1) (.int .i64 k) h nx ls wb Q ↔ R) := by
  intro d
  induction d with
  | zero =>
    intro k hk q1 q2
    obtain rfl : k = a.length := by omega
    rw [L_ref36_Pages_0_unf]
    simp only [b_ref36_Pages_0, bC, bW, wpY', evR, evW, idx, ldc, okV, sub, setc, buildC, bnd, resOf, resL, res1, xorB, take2L, take2, takeL, take1, appF, rowOf, elemOk, plain, pl1, isRow, cellB, srcOf, LIM, Option.some.injEq, exists_eq_left', exists_eq_left, Prod.mk.injEq, if_true, if_false, ite_true, ite_false, ne_eq, eq_self, reduceCtorEq, ↓reduceIte, Nat.reduceEqDiff, Nat.reduceAdd, Nat.reduceSub, Nat.reduceMul, Nat.reduceLT, Nat.reduceLeDiff, Nat.reduceBEq, Nat.reduceBNe, Nat.reduceMod, Nat.reduceDiv, Nat.reducePow, Int.reduceEq, Int.reduceLT, Int.reduceLE, Int.reduceNeg, Int.reduceAdd, Int.reduceSub, Int.reduceMul, Int.reduceToNat, Int.reduceBEq, Int.reduceBNe, Int.lt_irrefl]
    exact q1 (by rw [List.drop_length]; rfl)
  | succ d ih =>
    intro k hk q1 q2
    have hlt : k < a.length := by omega
    obtain ⟨c, hc, hd⟩ := get_some hlt
    rw [L_ref36_Pages_0_unf]
    have e := all_drop (p := fun p : By => decide (p.xs.length = 256)) hd
    by_cases hp : c.xs.length = 256
    · have hp' : ((c.xs.length : Nat) : Int) = 256 := by omega
      simp only [b_ref36_Pages_0, bC, bW, wpY', evR, evW, idx, ldc, okV, sub, setc, buildC, bnd, resOf, resL, res1, xorB, take2L, take2, takeL, take1, appF, rowOf, elemOk, plain, pl1, isRow, cellB, srcOf, LIM, Option.some.injEq, exists_eq_left', exists_eq_left, Prod.mk.injEq, if_true, if_false, ite_true, ite_false, ne_eq, eq_self, reduceCtorEq, ↓reduceIte, Nat.reduceEqDiff, Nat.reduceAdd, Nat.reduceSub, Nat.reduceMul, Nat.reduceLT, Nat.reduceLeDiff, Nat.reduceBEq, Nat.reduceBNe, Nat.reduceMod, Nat.reduceDiv, Nat.reducePow, Int.reduceEq, Int.reduceLT, Int.reduceLE, Int.reduceNeg, Int.reduceAdd, Int.reduceSub, Int.reduceMul, Int.reduceToNat, Int.reduceBEq, Int.reduceBNe, lt_c hlt, hc, By.v, Sl.v, hp', L_ref36_Pages_0_eq, wi_s hlt (by omega)]
      have e' : pagedI (a.drop k) = pagedI (a.drop (k + 1)) := by unfold pagedI; rw [e]; simp [hp]
      rw [e'] at q1 q2
      exact ih (k + 1) (by omega) q1 q2
    · have hp' : ¬ ((c.xs.length : Nat) : Int) = 256 := by omega
      simp only [b_ref36_Pages_0, bC, bW, wpY', evR, evW, idx, ldc, okV, sub, setc, buildC, bnd, resOf, resL, res1, xorB, take2L, take2, takeL, take1, appF, rowOf, elemOk, plain, pl1, isRow, cellB, srcOf, LIM, Option.some.injEq, exists_eq_left', exists_eq_left, Prod.mk.injEq, if_true, if_false, ite_true, ite_false, ne_eq, eq_self, reduceCtorEq, ↓reduceIte, Nat.reduceEqDiff, Nat.reduceAdd, Nat.reduceSub, Nat.reduceMul, Nat.reduceLT, Nat.reduceLeDiff, Nat.reduceBEq, Nat.reduceBNe, Nat.reduceMod, Nat.reduceDiv, Nat.reducePow, Int.reduceEq, Int.reduceLT, Int.reduceLE, Int.reduceNeg, Int.reduceAdd, Int.reduceSub, Int.reduceMul, Int.reduceToNat, Int.reduceBEq, Int.reduceBNe, lt_c hlt, hc, By.v, Sl.v, hp']
      exact q2 (by unfold pagedI; rw [e]; simp [hp]) _ rfl
theorem f_ref36_Pages {a : List By} {n1 g1 : Bool} (ha : a.length < 4611686018427387904) : WpF XX .ro n_ref36_Pages [.tree (a.map By.v) n1 g1] st K ↔ K (.bool (pagedI a)) st := by
  rw [F_ro (mf := m_ref36_Pages) rfl rfl]
  simp only [m_ref36_Pages, bC, bW, wpY', evR, evW, idx, ldc, okV, sub, setc, buildC, bnd, resOf, resL, res1, xorB, take2L, take2, takeL, take1, appF, rowOf, elemOk, plain, pl1, isRow, cellB, srcOf, LIM, Option.some.injEq, exists_eq_left', exists_eq_left, Prod.mk.injEq, if_true, if_false, ite_true, ite_false, ne_eq, eq_self, reduceCtorEq, ↓reduceIte, Nat.reduceEqDiff, Nat.reduceAdd, Nat.reduceSub, Nat.reduceMul, Nat.reduceLT, Nat.reduceLeDiff, Nat.reduceBEq, Nat.reduceBNe, Nat.reduceMod, Nat.reduceDiv, Nat.reducePow, Int.reduceEq, Int.reduceLT, Int.reduceLE, Int.reduceNeg, Int.reduceAdd, Int.reduceSub, Int.reduceMul, Int.reduceToNat, Int.reduceBEq, Int.reduceBNe, L_ref36_Pages_0_eq]
  refine L_ref36_Pages ha a.length 0 (by omega) (fun e => ?_) (fun e en he => ?_)
  · rw [List.drop_zero] at e
    simp only [bC, bW, wpY', evR, evW, idx, ldc, okV, sub, setc, buildC, bnd, resOf, resL, res1, xorB, take2L, take2, takeL, take1, appF, rowOf, elemOk, plain, pl1, isRow, cellB, srcOf, LIM, Option.some.injEq, exists_eq_left', exists_eq_left, Prod.mk.injEq, if_true, if_false, ite_true, ite_false, ne_eq, eq_self, reduceCtorEq, ↓reduceIte, Nat.reduceEqDiff, Nat.reduceAdd, Nat.reduceSub, Nat.reduceMul, Nat.reduceLT, Nat.reduceLeDiff, Nat.reduceBEq, Nat.reduceBNe, Nat.reduceMod, Nat.reduceDiv, Nat.reducePow, Int.reduceEq, Int.reduceLT, Int.reduceLE, Int.reduceNeg, Int.reduceAdd, Int.reduceSub, Int.reduceMul, Int.reduceToNat, Int.reduceBEq, Int.reduceBNe, e]
  · rw [List.drop_zero] at e
    simp only [bC, bW, wpY', evR, evW, idx, ldc, okV, sub, setc, buildC, bnd, resOf, resL, res1, xorB, take2L, take2, takeL, take1, appF, rowOf, elemOk, plain, pl1, isRow, cellB, srcOf, LIM, Option.some.injEq, exists_eq_left', exists_eq_left, Prod.mk.injEq, if_true, if_false, ite_true, ite_false, ne_eq, eq_self, reduceCtorEq, ↓reduceIte, Nat.reduceEqDiff, Nat.reduceAdd, Nat.reduceSub, Nat.reduceMul, Nat.reduceLT, Nat.reduceLeDiff, Nat.reduceBEq, Nat.reduceBNe, Nat.reduceMod, Nat.reduceDiv, Nat.reducePow, Int.reduceEq, Int.reduceLT, Int.reduceLE, Int.reduceNeg, Int.reduceAdd, Int.reduceSub, Int.reduceMul, Int.reduceToNat, Int.reduceBEq, Int.reduceBNe, e, he]
theorem L_ref35_Pages {a : List By} {n1 g1 : Bool} (ha : a.length < 4611686018427387904) : ∀ (d k : Nat), k + d = a.length →
    ((a.drop k).all (fun p => decide (p.xs.length ≤ 256)) = true → (Q (.exit 0) ⟨[], h, nx, ls, wb⟩ ↔ R)) → ((a.drop k).all (fun p => decide (p.xs.length ≤ 256)) = false → ∀ e, getE e 2 = .bool false → (Q .ret ⟨e, h, nx, ls, wb⟩ ↔ R)) →
    (L_ref35_Pages_0 XX (.tree (a.map By.v) n1 g1) (.int .i64 k) h nx ls wb Q ↔ R) := by
  intro d
  induction d with
  | zero =>
    intro k hk q1 q2
    obtain rfl : k = a.length := by omega
    rw [L_ref35_Pages_0_unf]
    simp only [b_ref35_Pages_0, bC, bW, wpY', evR, evW, idx, ldc, okV, sub, setc, buildC, bnd, resOf, resL, res1, xorB, take2L, take2, takeL, take1, appF, rowOf, elemOk, plain, pl1, isRow, cellB, srcOf, LIM, Option.some.injEq, exists_eq_left', exists_eq_left, Prod.mk.injEq, if_true, if_false, ite_true, ite_false, ne_eq, eq_self, reduceCtorEq, ↓reduceIte, Nat.reduceEqDiff, Nat.reduceAdd, Nat.reduceSub, Nat.reduceMul, Nat.reduceLT, Nat.reduceLeDiff, Nat.reduceBEq, Nat.reduceBNe, Nat.reduceMod, Nat.reduceDiv, Nat.reducePow, Int.reduceEq, Int.reduceLT, Int.reduceLE, Int.reduceNeg, Int.reduceAdd, Int.reduceSub, Int.reduceMul, Int.reduceToNat, Int.reduceBEq, Int.reduceBNe, Int.lt_irrefl]
    exact q1 (by rw [List.drop_length]; rfl)
  | succ d ih =>
    intro k hk q1 q2
    have hlt : k < a.length := by omega
    obtain ⟨c, hc, hd⟩ := get_some hlt
    rw [L_ref35_Pages_0_unf]
    have e := all_drop (p := fun p : By => decide (p.xs.length ≤ 256)) hd
    by_cases hp : c.xs.length ≤ 256
    · have hp' : ¬ (256 : Int) < ((c.xs.length : Nat) : Int) := by omega
      simp only [b_ref35_Pages_0, bC, bW, wpY', evR, evW, idx, ldc, okV, sub, setc, buildC, bnd, resOf, resL, res1, xorB, take2L, take2, takeL, take1, appF, rowOf, elemOk, plain, pl1, isRow, cellB, srcOf, LIM, Option.some.injEq, exists_eq_left', exists_eq_left, Prod.mk.injEq, if_true, if_false, ite_true, ite_false, ne_eq, eq_self, reduceCtorEq, ↓reduceIte, Nat.reduceEqDiff, Nat.reduceAdd, Nat.reduceSub, Nat.reduceMul, Nat.reduceLT, Nat.reduceLeDiff, Nat.reduceBEq, Nat.reduceBNe, Nat.reduceMod, Nat.reduceDiv, Nat.reducePow, Int.reduceEq, Int.reduceLT, Int.reduceLE, Int.reduceNeg, Int.reduceAdd, Int.reduceSub, Int.reduceMul, Int.reduceToNat, Int.reduceBEq, Int.reduceBNe, lt_c hlt, hc, By.v, Sl.v, hp', L_ref35_Pages_0_eq, wi_s hlt (by omega)]
      rw [e] at q1 q2
      simp only [hp, decide_true, Bool.true_and] at q1 q2
      exact ih (k + 1) (by omega) q1 q2
    · have hp' : (256 : Int) < ((c.xs.length : Nat) : Int) := by omega
      simp only [b_ref35_Pages_0, bC, bW, wpY', evR, evW, idx, ldc, okV, sub, setc, buildC, bnd, resOf, resL, res1, xorB, take2L, take2, takeL, take1, appF, rowOf, elemOk, plain, pl1, isRow, cellB, srcOf, LIM, Option.some.injEq, exists_eq_left', exists_eq_left, Prod.mk.injEq, if_true, if_false, ite_true, ite_false, ne_eq, eq_self, reduceCtorEq, ↓reduceIte, Nat.reduceEqDiff, Nat.reduceAdd, Nat.reduceSub, Nat.reduceMul, Nat.reduceLT, Nat.reduceLeDiff, Nat.reduceBEq, Nat.reduceBNe, Nat.reduceMod, Nat.reduceDiv, Nat.reducePow, Int.reduceEq, Int.reduceLT, Int.reduceLE, Int.reduceNeg, Int.reduceAdd, Int.reduceSub, Int.reduceMul, Int.reduceToNat, Int.reduceBEq, Int.reduceBNe, lt_c hlt, hc, By.v, Sl.v, hp']
      exact q2 (by rw [e]; simp [hp]) _ rfl
theorem f_ref35_Pages {a : List By} {n1 g1 : Bool} : WpF XX .ro n_ref35_Pages [.tree (a.map By.v) n1 g1] st K ↔ K (.bool (arePagesI a)) st := by
  rw [F_ro (mf := m_ref35_Pages) rfl rfl]
  unfold arePagesI
  by_cases h1 : (a.length : Int) < 1
  · have h1' : ¬ 1 ≤ a.length := by omega
    simp only [m_ref35_Pages, bC, bW, wpY', evR, evW, idx, ldc, okV, sub, setc, buildC, bnd, resOf, resL, res1, xorB, take2L, take2, takeL, take1, appF, rowOf, elemOk, plain, pl1, isRow, cellB, srcOf, LIM, Option.some.injEq, exists_eq_left', exists_eq_left, Prod.mk.injEq, if_true, if_false, ite_true, ite_false, ne_eq, eq_self, reduceCtorEq, ↓reduceIte, Nat.reduceEqDiff, Nat.reduceAdd, Nat.reduceSub, Nat.reduceMul, Nat.reduceLT, Nat.reduceLeDiff, Nat.reduceBEq, Nat.reduceBNe, Nat.reduceMod, Nat.reduceDiv, Nat.reducePow, Int.reduceEq, Int.reduceLT, Int.reduceLE, Int.reduceNeg, Int.reduceAdd, Int.reduceSub, Int.reduceMul, Int.reduceToNat, Int.reduceBEq, Int.reduceBNe, h1, h1']
  have h1' : 1 ≤ a.length := by omega
  by_cases h2 : (16 : Int) < a.length
  · have h2' : ¬ a.length ≤ 16 := by omega
    simp only [m_ref35_Pages, bC, bW, wpY', evR, evW, idx, ldc, okV, sub, setc, buildC, bnd, resOf, resL, res1, xorB, take2L, take2, takeL, take1, appF, rowOf, elemOk, plain, pl1, isRow, cellB, srcOf, LIM, Option.some.injEq, exists_eq_left', exists_eq_left, Prod.mk.injEq, if_true, if_false, ite_true, ite_false, ne_eq, eq_self, reduceCtorEq, ↓reduceIte, Nat.reduceEqDiff, Nat.reduceAdd, Nat.reduceSub, Nat.reduceMul, Nat.reduceLT, Nat.reduceLeDiff, Nat.reduceBEq, Nat.reduceBNe, Nat.reduceMod, Nat.reduceDiv, Nat.reducePow, Int.reduceEq, Int.reduceLT, Int.reduceLE, Int.reduceNeg, Int.reduceAdd, Int.reduceSub, Int.reduceMul, Int.reduceToNat, Int.reduceBEq, Int.reduceBNe, h1, h1', h2, h2']
  have h2' : a.length ≤ 16 := by omega
  simp only [m_ref35_Pages, bC, bW, wpY', evR, evW, idx, ldc, okV, sub, setc, buildC, bnd, resOf, resL, res1, xorB, take2L, take2, takeL, take1, appF, rowOf, elemOk, plain, pl1, isRow, cellB, srcOf, LIM, Option.some.injEq, exists_eq_left', exists_eq_left, Prod.mk.injEq, if_true, if_false, ite_true, ite_false, ne_eq, eq_self, reduceCtorEq, ↓reduceIte, Nat.reduceEqDiff, Nat.reduceAdd, Nat.reduceSub, Nat.reduceMul, Nat.reduceLT, Nat.reduceLeDiff, Nat.reduceBEq, Nat.reduceBNe, Nat.reduceMod, Nat.reduceDiv, Nat.reducePow, Int.reduceEq, Int.reduceLT, Int.reduceLE, Int.reduceNeg, Int.reduceAdd, Int.reduceSub, Int.reduceMul, Int.reduceToNat, Int.reduceBEq, Int.reduceBNe, h1, h1', h2, h2', L_ref35_Pages_0_eq]
  refine L_ref35_Pages (by omega) a.length 0 (by omega) (fun e => ?_) (fun e en he => ?_)
  · rw [List.drop_zero] at e
    simp only [bC, bW, wpY', evR, evW, idx, ldc, okV, sub, setc, buildC, bnd, resOf, resL, res1, xorB, take2L, take2, takeL, take1, appF, rowOf, elemOk, plain, pl1, isRow, cellB, srcOf, LIM, Option.some.injEq, exists_eq_left', exists_eq_left, Prod.mk.injEq, if_true, if_false, ite_true, ite_false, ne_eq, eq_self, reduceCtorEq, ↓reduceIte, Nat.reduceEqDiff, Nat.reduceAdd, Nat.reduceSub, Nat.reduceMul, Nat.reduceLT, Nat.reduceLeDiff, Nat.reduceBEq, Nat.reduceBNe, Nat.reduceMod, Nat.reduceDiv, Nat.reducePow, Int.reduceEq, Int.reduceLT, Int.reduceLE, Int.reduceNeg, Int.reduceAdd, Int.reduceSub, Int.reduceMul, Int.reduceToNat, Int.reduceBEq, Int.reduceBNe, e]
  · rw [List.drop_zero] at e
    simp only [bC, bW, wpY', evR, evW, idx, ldc, okV, sub, setc, buildC, bnd, resOf, resL, res1, xorB, take2L, take2, takeL, take1, appF, rowOf, elemOk, plain, pl1, isRow, cellB, srcOf, LIM, Option.some.injEq, exists_eq_left', exists_eq_left, Prod.mk.injEq, if_true, if_false, ite_true, ite_false, ne_eq, eq_self, reduceCtorEq, ↓reduceIte, Nat.reduceEqDiff, Nat.reduceAdd, Nat.reduceSub, Nat.reduceMul, Nat.reduceLT, Nat.reduceLeDiff, Nat.reduceBEq, Nat.reduceBNe, Nat.reduceMod, Nat.reduceDiv, Nat.reducePow, Int.reduceEq, Int.reduceLT, Int.reduceLE, Int.reduceNeg, Int.reduceAdd, Int.reduceSub, Int.reduceMul, Int.reduceToNat, Int.reduceBEq, Int.reduceBNe, e, he]

/-! ### sizes, notices -/
def sizedI (n : Int) : Bool := decide (1 ≤ n) && decide (n ≤ 4096)
theorem f_image_sized {n : Int} : WpF XX .ro n_image_sized [.int .i64 n] st K ↔ K (.bool (sizedI n)) st := by
  rw [F_ro (mf := m_image_sized) rfl rfl]
  unfold sizedI
  by_cases h1 : 1 ≤ n <;> simp only [m_image_sized, bC, bW, wpY', evR, evW, idx, ldc, okV, sub, setc, buildC, bnd, resOf, resL, res1, xorB, take2L, take2, takeL, take1, appF, rowOf, elemOk, plain, pl1, isRow, cellB, srcOf, LIM, Option.some.injEq, exists_eq_left', exists_eq_left, Prod.mk.injEq, if_true, if_false, ite_true, ite_false, ne_eq, eq_self, reduceCtorEq, ↓reduceIte, Nat.reduceEqDiff, Nat.reduceAdd, Nat.reduceSub, Nat.reduceMul, Nat.reduceLT, Nat.reduceLeDiff, Nat.reduceBEq, Nat.reduceBNe, Nat.reduceMod, Nat.reduceDiv, Nat.reducePow, Int.reduceEq, Int.reduceLT, Int.reduceLE, Int.reduceNeg, Int.reduceAdd, Int.reduceSub, Int.reduceMul, Int.reduceToNat, Int.reduceBEq, Int.reduceBNe, h1]
theorem f_ref36_Size {n : Int} : WpF XX .ro n_ref36_Size [.int .i64 n] st K ↔ K (.bool (sizedI n)) st := by
  rw [F_ro (mf := m_ref36_Size) rfl rfl]
  unfold sizedI
  by_cases h1 : 1 ≤ n <;> simp only [m_ref36_Size, bC, bW, wpY', evR, evW, idx, ldc, okV, sub, setc, buildC, bnd, resOf, resL, res1, xorB, take2L, take2, takeL, take1, appF, rowOf, elemOk, plain, pl1, isRow, cellB, srcOf, LIM, Option.some.injEq, exists_eq_left', exists_eq_left, Prod.mk.injEq, if_true, if_false, ite_true, ite_false, ne_eq, eq_self, reduceCtorEq, ↓reduceIte, Nat.reduceEqDiff, Nat.reduceAdd, Nat.reduceSub, Nat.reduceMul, Nat.reduceLT, Nat.reduceLeDiff, Nat.reduceBEq, Nat.reduceBNe, Nat.reduceMod, Nat.reduceDiv, Nat.reducePow, Int.reduceEq, Int.reduceLT, Int.reduceLE, Int.reduceNeg, Int.reduceAdd, Int.reduceSub, Int.reduceMul, Int.reduceToNat, Int.reduceBEq, Int.reduceBNe, h1]
def countI (n : Int) : Int := (n + 255) / 256
theorem count_s {n : Int} (h0 : 0 ≤ n) (h1 : n ≤ 1000000000000) : IntKind.i64.wrap ((IntKind.i64.wrap (IntKind.i64.wrap (n + 256) - 1)).tdiv 256) = countI n := by
  rw [wi (n + 256) (by omega) (by omega), wi (n + 256 - 1) (by omega) (by omega), Int.tdiv_eq_ediv_of_nonneg (by omega), wi _ (by omega) (by omega)]
  unfold countI
  omega
theorem f_image_count {n : Int} (h0 : 0 ≤ n) (h1 : n ≤ 1000000000000) : WpF XX .ro n_image_count [.int .i64 n] st K ↔ K (.int .i64 (countI n)) st := by
  rw [F_ro (mf := m_image_count) rfl rfl]
  simp only [m_image_count, bC, bW, wpY', evR, evW, idx, ldc, okV, sub, setc, buildC, bnd, resOf, resL, res1, xorB, take2L, take2, takeL, take1, appF, rowOf, elemOk, plain, pl1, isRow, cellB, srcOf, LIM, Option.some.injEq, exists_eq_left', exists_eq_left, Prod.mk.injEq, if_true, if_false, ite_true, ite_false, ne_eq, eq_self, reduceCtorEq, ↓reduceIte, Nat.reduceEqDiff, Nat.reduceAdd, Nat.reduceSub, Nat.reduceMul, Nat.reduceLT, Nat.reduceLeDiff, Nat.reduceBEq, Nat.reduceBNe, Nat.reduceMod, Nat.reduceDiv, Nat.reducePow, Int.reduceEq, Int.reduceLT, Int.reduceLE, Int.reduceNeg, Int.reduceAdd, Int.reduceSub, Int.reduceMul, Int.reduceToNat, Int.reduceBEq, Int.reduceBNe, count_s h0 h1]
theorem f_ref36_Count {n : Int} (h0 : 0 ≤ n) (h1 : n ≤ 1000000000000) : WpF XX .ro n_ref36_Count [.int .i64 n] st K ↔ K (.int .i64 (countI n)) st := by
  rw [F_ro (mf := m_ref36_Count) rfl rfl]
  simp only [m_ref36_Count, bC, bW, wpY', evR, evW, idx, ldc, okV, sub, setc, buildC, bnd, resOf, resL, res1, xorB, take2L, take2, takeL, take1, appF, rowOf, elemOk, plain, pl1, isRow, cellB, srcOf, LIM, Option.some.injEq, exists_eq_left', exists_eq_left, Prod.mk.injEq, if_true, if_false, ite_true, ite_false, ne_eq, eq_self, reduceCtorEq, ↓reduceIte, Nat.reduceEqDiff, Nat.reduceAdd, Nat.reduceSub, Nat.reduceMul, Nat.reduceLT, Nat.reduceLeDiff, Nat.reduceBEq, Nat.reduceBNe, Nat.reduceMod, Nat.reduceDiv, Nat.reducePow, Int.reduceEq, Int.reduceLT, Int.reduceLE, Int.reduceNeg, Int.reduceAdd, Int.reduceSub, Int.reduceMul, Int.reduceToNat, Int.reduceBEq, Int.reduceBNe, count_s h0 h1]
def noticeI (ver size start : Int) : Bool := decide (1 ≤ ver) && decide (ver ≤ 1000000000) && sizedI size && decide (0 ≤ start) && decide (start ≤ 1000000000)
theorem f_image_announced {ver size dg start : Int} : WpF XX .ro n_image_announced [.agg [.int .i64 ver, .int .i64 size, .int .u64 dg, .int .i64 start]] st K ↔ K (.bool (noticeI ver size start)) st := by
  rw [F_ro (mf := m_image_announced) rfl rfl]
  unfold noticeI
  by_cases h1 : 1 ≤ ver
  · by_cases h2 : ver ≤ 1000000000
    · cases h3 : sizedI size
      · simp only [m_image_announced, bC, bW, wpY', evR, evW, idx, ldc, okV, sub, setc, buildC, bnd, resOf, resL, res1, xorB, take2L, take2, takeL, take1, appF, rowOf, elemOk, plain, pl1, isRow, cellB, srcOf, LIM, Option.some.injEq, exists_eq_left', exists_eq_left, Prod.mk.injEq, if_true, if_false, ite_true, ite_false, ne_eq, eq_self, reduceCtorEq, ↓reduceIte, Nat.reduceEqDiff, Nat.reduceAdd, Nat.reduceSub, Nat.reduceMul, Nat.reduceLT, Nat.reduceLeDiff, Nat.reduceBEq, Nat.reduceBNe, Nat.reduceMod, Nat.reduceDiv, Nat.reducePow, Int.reduceEq, Int.reduceLT, Int.reduceLE, Int.reduceNeg, Int.reduceAdd, Int.reduceSub, Int.reduceMul, Int.reduceToNat, Int.reduceBEq, Int.reduceBNe, h1, h2, h3, f_image_sized]
      · by_cases h4 : 0 ≤ start <;> simp only [m_image_announced, bC, bW, wpY', evR, evW, idx, ldc, okV, sub, setc, buildC, bnd, resOf, resL, res1, xorB, take2L, take2, takeL, take1, appF, rowOf, elemOk, plain, pl1, isRow, cellB, srcOf, LIM, Option.some.injEq, exists_eq_left', exists_eq_left, Prod.mk.injEq, if_true, if_false, ite_true, ite_false, ne_eq, eq_self, reduceCtorEq, ↓reduceIte, Nat.reduceEqDiff, Nat.reduceAdd, Nat.reduceSub, Nat.reduceMul, Nat.reduceLT, Nat.reduceLeDiff, Nat.reduceBEq, Nat.reduceBNe, Nat.reduceMod, Nat.reduceDiv, Nat.reducePow, Int.reduceEq, Int.reduceLT, Int.reduceLE, Int.reduceNeg, Int.reduceAdd, Int.reduceSub, Int.reduceMul, Int.reduceToNat, Int.reduceBEq, Int.reduceBNe, h1, h2, h3, h4, f_image_sized]
    · simp only [m_image_announced, bC, bW, wpY', evR, evW, idx, ldc, okV, sub, setc, buildC, bnd, resOf, resL, res1, xorB, take2L, take2, takeL, take1, appF, rowOf, elemOk, plain, pl1, isRow, cellB, srcOf, LIM, Option.some.injEq, exists_eq_left', exists_eq_left, Prod.mk.injEq, if_true, if_false, ite_true, ite_false, ne_eq, eq_self, reduceCtorEq, ↓reduceIte, Nat.reduceEqDiff, Nat.reduceAdd, Nat.reduceSub, Nat.reduceMul, Nat.reduceLT, Nat.reduceLeDiff, Nat.reduceBEq, Nat.reduceBNe, Nat.reduceMod, Nat.reduceDiv, Nat.reducePow, Int.reduceEq, Int.reduceLT, Int.reduceLE, Int.reduceNeg, Int.reduceAdd, Int.reduceSub, Int.reduceMul, Int.reduceToNat, Int.reduceBEq, Int.reduceBNe, h1, h2]
  · simp only [m_image_announced, bC, bW, wpY', evR, evW, idx, ldc, okV, sub, setc, buildC, bnd, resOf, resL, res1, xorB, take2L, take2, takeL, take1, appF, rowOf, elemOk, plain, pl1, isRow, cellB, srcOf, LIM, Option.some.injEq, exists_eq_left', exists_eq_left, Prod.mk.injEq, if_true, if_false, ite_true, ite_false, ne_eq, eq_self, reduceCtorEq, ↓reduceIte, Nat.reduceEqDiff, Nat.reduceAdd, Nat.reduceSub, Nat.reduceMul, Nat.reduceLT, Nat.reduceLeDiff, Nat.reduceBEq, Nat.reduceBNe, Nat.reduceMod, Nat.reduceDiv, Nat.reducePow, Int.reduceEq, Int.reduceLT, Int.reduceLE, Int.reduceNeg, Int.reduceAdd, Int.reduceSub, Int.reduceMul, Int.reduceToNat, Int.reduceBEq, Int.reduceBNe, h1]
theorem f_ref36_Notice {ver size dg start : Int} : WpF XX .ro n_ref36_Notice [.agg [.int .i64 ver, .int .i64 size, .int .u64 dg, .int .i64 start]] st K ↔ K (.bool (noticeI ver size start)) st := by
  rw [F_ro (mf := m_ref36_Notice) rfl rfl]
  unfold noticeI
  by_cases h1 : 1 ≤ ver
  · by_cases h2 : ver ≤ 1000000000
    · cases h3 : sizedI size
      · simp only [m_ref36_Notice, bC, bW, wpY', evR, evW, idx, ldc, okV, sub, setc, buildC, bnd, resOf, resL, res1, xorB, take2L, take2, takeL, take1, appF, rowOf, elemOk, plain, pl1, isRow, cellB, srcOf, LIM, Option.some.injEq, exists_eq_left', exists_eq_left, Prod.mk.injEq, if_true, if_false, ite_true, ite_false, ne_eq, eq_self, reduceCtorEq, ↓reduceIte, Nat.reduceEqDiff, Nat.reduceAdd, Nat.reduceSub, Nat.reduceMul, Nat.reduceLT, Nat.reduceLeDiff, Nat.reduceBEq, Nat.reduceBNe, Nat.reduceMod, Nat.reduceDiv, Nat.reducePow, Int.reduceEq, Int.reduceLT, Int.reduceLE, Int.reduceNeg, Int.reduceAdd, Int.reduceSub, Int.reduceMul, Int.reduceToNat, Int.reduceBEq, Int.reduceBNe, h1, h2, h3, f_ref36_Size]
      · by_cases h4 : 0 ≤ start <;> simp only [m_ref36_Notice, bC, bW, wpY', evR, evW, idx, ldc, okV, sub, setc, buildC, bnd, resOf, resL, res1, xorB, take2L, take2, takeL, take1, appF, rowOf, elemOk, plain, pl1, isRow, cellB, srcOf, LIM, Option.some.injEq, exists_eq_left', exists_eq_left, Prod.mk.injEq, if_true, if_false, ite_true, ite_false, ne_eq, eq_self, reduceCtorEq, ↓reduceIte, Nat.reduceEqDiff, Nat.reduceAdd, Nat.reduceSub, Nat.reduceMul, Nat.reduceLT, Nat.reduceLeDiff, Nat.reduceBEq, Nat.reduceBNe, Nat.reduceMod, Nat.reduceDiv, Nat.reducePow, Int.reduceEq, Int.reduceLT, Int.reduceLE, Int.reduceNeg, Int.reduceAdd, Int.reduceSub, Int.reduceMul, Int.reduceToNat, Int.reduceBEq, Int.reduceBNe, h1, h2, h3, h4, f_ref36_Size]
    · simp only [m_ref36_Notice, bC, bW, wpY', evR, evW, idx, ldc, okV, sub, setc, buildC, bnd, resOf, resL, res1, xorB, take2L, take2, takeL, take1, appF, rowOf, elemOk, plain, pl1, isRow, cellB, srcOf, LIM, Option.some.injEq, exists_eq_left', exists_eq_left, Prod.mk.injEq, if_true, if_false, ite_true, ite_false, ne_eq, eq_self, reduceCtorEq, ↓reduceIte, Nat.reduceEqDiff, Nat.reduceAdd, Nat.reduceSub, Nat.reduceMul, Nat.reduceLT, Nat.reduceLeDiff, Nat.reduceBEq, Nat.reduceBNe, Nat.reduceMod, Nat.reduceDiv, Nat.reducePow, Int.reduceEq, Int.reduceLT, Int.reduceLE, Int.reduceNeg, Int.reduceAdd, Int.reduceSub, Int.reduceMul, Int.reduceToNat, Int.reduceBEq, Int.reduceBNe, h1, h2]
  · simp only [m_ref36_Notice, bC, bW, wpY', evR, evW, idx, ldc, okV, sub, setc, buildC, bnd, resOf, resL, res1, xorB, take2L, take2, takeL, take1, appF, rowOf, elemOk, plain, pl1, isRow, cellB, srcOf, LIM, Option.some.injEq, exists_eq_left', exists_eq_left, Prod.mk.injEq, if_true, if_false, ite_true, ite_false, ne_eq, eq_self, reduceCtorEq, ↓reduceIte, Nat.reduceEqDiff, Nat.reduceAdd, Nat.reduceSub, Nat.reduceMul, Nat.reduceLT, Nat.reduceLeDiff, Nat.reduceBEq, Nat.reduceBNe, Nat.reduceMod, Nat.reduceDiv, Nat.reducePow, Int.reduceEq, Int.reduceLT, Int.reduceLE, Int.reduceNeg, Int.reduceAdd, Int.reduceSub, Int.reduceMul, Int.reduceToNat, Int.reduceBEq, Int.reduceBNe, h1]
end
end Go.Proofs.YtfmbdcmjgnikiaaDoor.Sm
namespace Go.Proofs.YtfmbdcmjgnikiaaDoor.Sm
open Go Go.RowKit

def leavesI (a : List By) : List Int := a.map fun p => leafI p.xs
def nextI : List Int → List Int
  | a :: b :: r => pairI a b :: nextI r
  | l => l
def rootF : Nat → List Int → Int
  | 0, l => l.headD 0
  | f + 1, l => if 1 < l.length then rootF f (nextI l) else l.headD 0
def rootI (a : List By) : Int := rootF 16 (leavesI a)
theorem nextI_len : ∀ l : List Int, (nextI l).length = (l.length + 1) / 2
  | [] => rfl
  | [a] => by simp [nextI]
  | a :: b :: r => by
    rw [nextI, List.length_cons, nextI_len r, List.length_cons, List.length_cons]
    omega

section
variable {ls : List (Nat × LRec)} {Q : Ex → St → Prop} {R : Prop} {st : St} {K : SV → St → Prop}
theorem uV_all (l : List Int) : (l.map uV).all pl1 = true := Cell1.pl uV_c l
theorem L_ref35_leaves {a : List By} {n1 g1 : Bool} (ha : a.length ≤ 4294967296) (hs : ∀ p ∈ a, p.xs.length < 4611686018427387904) : ∀ (d k id : Nat) (acc : List Int), k + d = a.length → acc.length = k →
    (L_ref35_leaves_0 XX (.tree (a.map By.v) n1 g1) (.own id 0 acc.length 1) (.int .i64 k) [(id, acc.map uV)] (id + 1) ls 0 Q ↔
    Q (.exit 0) ⟨[(3, .own (id + d) 0 (acc ++ leavesI (a.drop k)).length 1)], [(id + d, (acc ++ leavesI (a.drop k)).map uV)], id + d + 1, ls, 0⟩) := by
  intro d
  induction d with
  | zero =>
    intro k id acc hk hacc
    obtain rfl : k = a.length := by omega
    rw [L_ref35_leaves_0_unf]
    simp only [b_ref35_leaves_0, bC, bW, wpY', evR, evW, idx, ldc, okV, sub, setc, buildC, bnd, resOf, resL, res1, xorB, take2L, take2, takeL, take1, appF, rowOf, elemOk, plain, pl1, isRow, cellB, srcOf, LIM, Option.some.injEq, exists_eq_left', exists_eq_left, Prod.mk.injEq, if_true, if_false, ite_true, ite_false, ne_eq, eq_self, reduceCtorEq, ↓reduceIte, Nat.reduceEqDiff, Nat.reduceAdd, Nat.reduceSub, Nat.reduceMul, Nat.reduceLT, Nat.reduceLeDiff, Nat.reduceBEq, Nat.reduceBNe, Nat.reduceMod, Nat.reduceDiv, Nat.reducePow, Int.reduceEq, Int.reduceLT, Int.reduceLE, Int.reduceNeg, Int.reduceAdd, Int.reduceSub, Int.reduceMul, Int.reduceToNat, Int.reduceBEq, Int.reduceBNe, Int.lt_irrefl, List.drop_length, leavesI]
  | succ d ih =>
    intro k id acc hk hacc
    have hlt : k < a.length := by omega
    obtain ⟨c, hc, hd⟩ := get_some hlt
    have hcs := hs c (List.mem_of_getElem? hc)
    rw [L_ref35_leaves_0_unf]
    have e : List.map uV acc ++ [SV.int IntKind.u64 (leafI c.xs)] = List.map uV (acc ++ [leafI c.xs]) := by simp [uV_eq]
    have e2 : acc.length + 1 = (acc ++ [leafI c.xs]).length := by simp
    have hL : acc.length + 1 ≤ 4294967296 := by omega
    simp only [b_ref35_leaves_0, bC, bW, wpY', evR, evW, idx, ldc, okV, sub, setc, buildC, bnd, resOf, resL, res1, xorB, take2L, take2, takeL, take1, appF, rowOf, elemOk, plain, pl1, isRow, cellB, srcOf, LIM, Option.some.injEq, exists_eq_left', exists_eq_left, Prod.mk.injEq, if_true, if_false, ite_true, ite_false, ne_eq, eq_self, reduceCtorEq, ↓reduceIte, Nat.reduceEqDiff, Nat.reduceAdd, Nat.reduceSub, Nat.reduceMul, Nat.reduceLT, Nat.reduceLeDiff, Nat.reduceBEq, Nat.reduceBNe, Nat.reduceMod, Nat.reduceDiv, Nat.reducePow, Int.reduceEq, Int.reduceLT, Int.reduceLE, Int.reduceNeg, Int.reduceAdd, Int.reduceSub, Int.reduceMul, Int.reduceToNat, Int.reduceBEq, Int.reduceBNe, lt_c hlt, hc, By.v, Sl.v, f_ref35_Leaf hcs, hL, L_ref35_leaves_0_eq, wi_s hlt (by omega)]
    rw [e, e2, ih (k + 1) (id + 1) _ (by omega) (by simp [hacc])]
    have e3 : acc ++ [leafI c.xs] ++ leavesI (a.drop (k + 1)) = acc ++ leavesI (a.drop k) := by rw [hd]; simp [leavesI]
    rw [e3, show id + 1 + d = id + (d + 1) by omega]
    simp only [List.length_append]
theorem f_ref35_leaves {a : List By} {n1 g1 : Bool} (h0 : a ≠ []) (ha : a.length ≤ 4294967296) (hs : ∀ p ∈ a, p.xs.length < 4611686018427387904) : WpF XX .ro n_ref35_leaves [.tree (a.map By.v) n1 g1] st K ↔ K (.tree ((leavesI a).map uV) false false) st := by
  rw [F_ro (mf := m_ref35_leaves) rfl rfl]
  cases a with
  | nil => exact absurd rfl h0
  | cons p ps =>
    have hp := hs p List.mem_cons_self
    have h1 : (0 : Int) < ((ps.length + 1 : Nat) : Int) := by omega
    have w0 := fun Q => L_ref35_leaves (ls := []) (Q := Q) (n1 := n1) (g1 := g1) ha hs ps.length 1 0 [leafI p.xs] (by simp; omega) rfl
    simp only [List.map_cons, List.map_nil, List.length_cons, List.length_nil, uV_eq, Int.cast_ofNat_Int, Nat.zero_add, By.v, Sl.v] at w0
    simp only [m_ref35_leaves, bC, bW, wpY', evR, evW, idx, ldc, okV, sub, setc, buildC, bnd, resOf, resL, res1, xorB, take2L, take2, takeL, take1, appF, rowOf, elemOk, plain, pl1, isRow, cellB, srcOf, LIM, Option.some.injEq, exists_eq_left', exists_eq_left, Prod.mk.injEq, if_true, if_false, ite_true, ite_false, ne_eq, eq_self, reduceCtorEq, ↓reduceIte, Nat.reduceEqDiff, Nat.reduceAdd, Nat.reduceSub, Nat.reduceMul, Nat.reduceLT, Nat.reduceLeDiff, Nat.reduceBEq, Nat.reduceBNe, Nat.reduceMod, Nat.reduceDiv, Nat.reducePow, Int.reduceEq, Int.reduceLT, Int.reduceLE, Int.reduceNeg, Int.reduceAdd, Int.reduceSub, Int.reduceMul, Int.reduceToNat, Int.reduceBEq, Int.reduceBNe, L_ref35_leaves_0_eq]
    rw [L_ref35_leaves_0_unf]
    simp only [b_ref35_leaves_0, bC, bW, wpY', evR, evW, idx, ldc, okV, sub, setc, buildC, bnd, resOf, resL, res1, xorB, take2L, take2, takeL, take1, appF, rowOf, elemOk, plain, pl1, isRow, cellB, srcOf, LIM, Option.some.injEq, exists_eq_left', exists_eq_left, Prod.mk.injEq, if_true, if_false, ite_true, ite_false, ne_eq, eq_self, reduceCtorEq, ↓reduceIte, Nat.reduceEqDiff, Nat.reduceAdd, Nat.reduceSub, Nat.reduceMul, Nat.reduceLT, Nat.reduceLeDiff, Nat.reduceBEq, Nat.reduceBNe, Nat.reduceMod, Nat.reduceDiv, Nat.reducePow, Int.reduceEq, Int.reduceLT, Int.reduceLE, Int.reduceNeg, Int.reduceAdd, Int.reduceSub, Int.reduceMul, Int.reduceToNat, Int.reduceBEq, Int.reduceBNe, h1, By.v, Sl.v, f_ref35_Leaf hp, LIM, L_ref35_leaves_0_eq, wi, w0]
    have e : leavesI (p :: ps) = leafI p.xs :: leavesI ps := rfl
    simp only [bC, bW, wpY', evR, evW, idx, ldc, okV, sub, setc, buildC, bnd, resOf, resL, res1, xorB, take2L, take2, takeL, take1, appF, rowOf, elemOk, plain, pl1, isRow, cellB, srcOf, LIM, Option.some.injEq, exists_eq_left', exists_eq_left, Prod.mk.injEq, if_true, if_false, ite_true, ite_false, ne_eq, eq_self, reduceCtorEq, ↓reduceIte, Nat.reduceEqDiff, Nat.reduceAdd, Nat.reduceSub, Nat.reduceMul, Nat.reduceLT, Nat.reduceLeDiff, Nat.reduceBEq, Nat.reduceBNe, Nat.reduceMod, Nat.reduceDiv, Nat.reducePow, Int.reduceEq, Int.reduceLT, Int.reduceLE, Int.reduceNeg, Int.reduceAdd, Int.reduceSub, Int.reduceMul, Int.reduceToNat, Int.reduceBEq, Int.reduceBNe, e, uV_all, List.append_eq, List.drop_one, List.tail_cons, uV_eq]

theorem L_ref35_Next {l : List Int} {n1 g1 : Bool} (hl : l.length ≤ 4294967296) : ∀ (d k id : Nat) (acc r : List Int), r.length ≤ d → l.drop k = r → acc.length + r.length ≤ 4294967296 → k ≤ 4294967300 →
    (L_ref35_Next_0 XX (.tree (l.map uV) n1 g1) (.own id 0 acc.length 1) (.int .i64 k) [(id, acc.map uV)] (id + 1) ls 0 Q ↔
    Q (.exit 0) ⟨[(3, .own (id + (nextI r).length) 0 (acc ++ nextI r).length 1)], [(id + (nextI r).length, (acc ++ nextI r).map uV)], id + (nextI r).length + 1, ls, 0⟩) := by
  intro d
  induction d with
  | zero =>
    intro k id acc r hr hd _ _
    obtain rfl : r = [] := by cases r <;> simp_all
    have hk : ¬ (k : Int) < (l.length : Int) := by
      have := congrArg List.length hd
      simp at this
      omega
    rw [L_ref35_Next_0_unf]
    simp only [b_ref35_Next_0, bC, bW, wpY', evR, evW, idx, ldc, okV, sub, setc, buildC, bnd, resOf, resL, res1, xorB, take2L, take2, takeL, take1, appF, rowOf, elemOk, plain, pl1, isRow, cellB, srcOf, LIM, Option.some.injEq, exists_eq_left', exists_eq_left, Prod.mk.injEq, if_true, if_false, ite_true, ite_false, ne_eq, eq_self, reduceCtorEq, ↓reduceIte, Nat.reduceEqDiff, Nat.reduceAdd, Nat.reduceSub, Nat.reduceMul, Nat.reduceLT, Nat.reduceLeDiff, Nat.reduceBEq, Nat.reduceBNe, Nat.reduceMod, Nat.reduceDiv, Nat.reducePow, Int.reduceEq, Int.reduceLT, Int.reduceLE, Int.reduceNeg, Int.reduceAdd, Int.reduceSub, Int.reduceMul, Int.reduceToNat, Int.reduceBEq, Int.reduceBNe, hk, nextI]
  | succ d ih =>
    intro k id acc r hr hd hacc hk4
    have wk2 : IntKind.i64.wrap ((k : Int) + 2) = ((k + 2 : Nat) : Int) := by rw [wi _ (by omega) (by omega)]; rfl
    have wk1 : IntKind.i64.wrap ((k : Int) + 1) = ((k + 1 : Nat) : Int) := by rw [wi _ (by omega) (by omega)]; rfl
    have hL : r ≠ [] → acc.length + 1 ≤ 4294967296 := fun h => by
      have : r.length ≠ 0 := by simpa using h
      omega
    match r, hr, hd, hacc, hL with
    | [], _, hd, _, _ =>
      have hk : ¬ (k : Int) < (l.length : Int) := by
        have := congrArg List.length hd
        simp at this
        omega
      rw [L_ref35_Next_0_unf]
      simp only [b_ref35_Next_0, bC, bW, wpY', evR, evW, idx, ldc, okV, sub, setc, buildC, bnd, resOf, resL, res1, xorB, take2L, take2, takeL, take1, appF, rowOf, elemOk, plain, pl1, isRow, cellB, srcOf, LIM, Option.some.injEq, exists_eq_left', exists_eq_left, Prod.mk.injEq, if_true, if_false, ite_true, ite_false, ne_eq, eq_self, reduceCtorEq, ↓reduceIte, Nat.reduceEqDiff, Nat.reduceAdd, Nat.reduceSub, Nat.reduceMul, Nat.reduceLT, Nat.reduceLeDiff, Nat.reduceBEq, Nat.reduceBNe, Nat.reduceMod, Nat.reduceDiv, Nat.reducePow, Int.reduceEq, Int.reduceLT, Int.reduceLE, Int.reduceNeg, Int.reduceAdd, Int.reduceSub, Int.reduceMul, Int.reduceToNat, Int.reduceBEq, Int.reduceBNe, hk, nextI]
    | [x], hr, hd, hacc, hL =>
      obtain ⟨hx, hd2, hlt⟩ := of_drop hd
      have hk1 : ¬ ((k + 1 : Nat) : Int) < (l.length : Int) := by
        have := congrArg List.length hd2
        simp at this
        omega
      have hL := hL (by simp)
      have e : List.map uV acc ++ [SV.int IntKind.u64 x] = List.map uV (acc ++ [x]) := by simp [uV_eq]
      have e2 : acc.length + 1 = (acc ++ [x]).length := by simp
      rw [L_ref35_Next_0_unf]
      simp only [b_ref35_Next_0, bC, bW, wpY', evR, evW, idx, ldc, okV, sub, setc, buildC, bnd, resOf, resL, res1, xorB, take2L, take2, takeL, take1, appF, rowOf, elemOk, plain, pl1, isRow, cellB, srcOf, LIM, Option.some.injEq, exists_eq_left', exists_eq_left, Prod.mk.injEq, if_true, if_false, ite_true, ite_false, ne_eq, eq_self, reduceCtorEq, ↓reduceIte, Nat.reduceEqDiff, Nat.reduceAdd, Nat.reduceSub, Nat.reduceMul, Nat.reduceLT, Nat.reduceLeDiff, Nat.reduceBEq, Nat.reduceBNe, Nat.reduceMod, Nat.reduceDiv, Nat.reducePow, Int.reduceEq, Int.reduceLT, Int.reduceLE, Int.reduceNeg, Int.reduceAdd, Int.reduceSub, Int.reduceMul, Int.reduceToNat, Int.reduceBEq, Int.reduceBNe, lt_c hlt, hx, uV_eq, wk1, hk1, hL, L_ref35_Next_0_eq, wk2]
      rw [e, e2, ih (k + 2) (id + 1) (acc ++ [x]) [] (by simp) (by
        have : l.length ≤ k + 2 := by omega
        exact List.drop_eq_nil_of_le this) (by simp; omega) (by omega)]
      simp [nextI]
    | x :: y :: r, hr, hd, hacc, hL =>
      obtain ⟨hx, hd2, hlt⟩ := of_drop hd
      obtain ⟨hy, hd3, hlt2⟩ := of_drop hd2
      have hL := hL (by simp)
      have e : List.map uV acc ++ [SV.int IntKind.u64 (pairI x y)] = List.map uV (acc ++ [pairI x y]) := by simp [uV_eq]
      have e2 : acc.length + 1 = (acc ++ [pairI x y]).length := by simp
      rw [L_ref35_Next_0_unf]
      simp only [b_ref35_Next_0, bC, bW, bD, wpY', evR, evW, idx, ldc, okV, sub, setc, buildC, bnd, resOf, resL, res1, xorB, take2L, take2, takeL, take1, appF, rowOf, elemOk, plain, pl1, isRow, cellB, srcOf, LIM, Option.some.injEq, exists_eq_left', exists_eq_left, Prod.mk.injEq, if_true, if_false, ite_true, ite_false, ne_eq, eq_self, reduceCtorEq, ↓reduceIte, Nat.reduceEqDiff, Nat.reduceAdd, Nat.reduceSub, Nat.reduceMul, Nat.reduceLT, Nat.reduceLeDiff, Nat.reduceBEq, Nat.reduceBNe, Nat.reduceMod, Nat.reduceDiv, Nat.reducePow, Int.reduceEq, Int.reduceLT, Int.reduceLE, Int.reduceNeg, Int.reduceAdd, Int.reduceSub, Int.reduceMul, Int.reduceToNat, Int.reduceBEq, Int.reduceBNe, unused, fpO, rdR, rdW, own1, ptr1, ownC, sepOk, compat, disj, offR, lt_c hlt, lt_c hlt2, hx, hy, uV_eq, wk1, hL, L_ref35_Next_0_eq, wk2, f_ref05_Pair]
      rw [e, e2, ih (k + 2) (id + 1) (acc ++ [pairI x y]) r (by simp at hr; omega) (by rw [← hd3]) (by simp at hacc ⊢; omega) (by omega)]
      rw [show nextI (x :: y :: r) = pairI x y :: nextI r from rfl]
      simp only [List.append_assoc, List.singleton_append, List.length_cons, show id + 1 + (nextI r).length = id + ((nextI r).length + 1) by omega, List.length_append]
theorem f_ref35_Next {l : List Int} {n1 g1 : Bool} (h0 : l ≠ []) (hl : l.length ≤ 4294967296) : WpF XX .ro n_ref35_Next [.tree (l.map uV) n1 g1] st K ↔ K (.tree ((nextI l).map uV) false false) st := by
  rw [F_ro (mf := m_ref35_Next) rfl rfl]
  match l, h0, hl with
  | [x], _, _ =>
    simp only [m_ref35_Next, bC, bW, wpY', evR, evW, idx, ldc, okV, sub, setc, buildC, bnd, resOf, resL, res1, xorB, take2L, take2, takeL, take1, appF, rowOf, elemOk, plain, pl1, isRow, cellB, srcOf, LIM, Option.some.injEq, exists_eq_left', exists_eq_left, Prod.mk.injEq, if_true, if_false, ite_true, ite_false, ne_eq, eq_self, reduceCtorEq, ↓reduceIte, Nat.reduceEqDiff, Nat.reduceAdd, Nat.reduceSub, Nat.reduceMul, Nat.reduceLT, Nat.reduceLeDiff, Nat.reduceBEq, Nat.reduceBNe, Nat.reduceMod, Nat.reduceDiv, Nat.reducePow, Int.reduceEq, Int.reduceLT, Int.reduceLE, Int.reduceNeg, Int.reduceAdd, Int.reduceSub, Int.reduceMul, Int.reduceToNat, Int.reduceBEq, Int.reduceBNe, L_ref35_Next_0_eq]
    rw [L_ref35_Next_0_unf]
    simp only [b_ref35_Next_0, bC, bW, wpY', evR, evW, idx, ldc, okV, sub, setc, buildC, bnd, resOf, resL, res1, xorB, take2L, take2, takeL, take1, appF, rowOf, elemOk, plain, pl1, isRow, cellB, srcOf, LIM, Option.some.injEq, exists_eq_left', exists_eq_left, Prod.mk.injEq, if_true, if_false, ite_true, ite_false, ne_eq, eq_self, reduceCtorEq, ↓reduceIte, Nat.reduceEqDiff, Nat.reduceAdd, Nat.reduceSub, Nat.reduceMul, Nat.reduceLT, Nat.reduceLeDiff, Nat.reduceBEq, Nat.reduceBNe, Nat.reduceMod, Nat.reduceDiv, Nat.reducePow, Int.reduceEq, Int.reduceLT, Int.reduceLE, Int.reduceNeg, Int.reduceAdd, Int.reduceSub, Int.reduceMul, Int.reduceToNat, Int.reduceBEq, Int.reduceBNe, wi, uV_eq, L_ref35_Next_0_eq]
    rw [L_ref35_Next_0_unf]
    simp only [b_ref35_Next_0, bC, bW, wpY', evR, evW, idx, ldc, okV, sub, setc, buildC, bnd, resOf, resL, res1, xorB, take2L, take2, takeL, take1, appF, rowOf, elemOk, plain, pl1, isRow, cellB, srcOf, LIM, Option.some.injEq, exists_eq_left', exists_eq_left, Prod.mk.injEq, if_true, if_false, ite_true, ite_false, ne_eq, eq_self, reduceCtorEq, ↓reduceIte, Nat.reduceEqDiff, Nat.reduceAdd, Nat.reduceSub, Nat.reduceMul, Nat.reduceLT, Nat.reduceLeDiff, Nat.reduceBEq, Nat.reduceBNe, Nat.reduceMod, Nat.reduceDiv, Nat.reducePow, Int.reduceEq, Int.reduceLT, Int.reduceLE, Int.reduceNeg, Int.reduceAdd, Int.reduceSub, Int.reduceMul, Int.reduceToNat, Int.reduceBEq, Int.reduceBNe, uV_eq, nextI]
  | x :: y :: r, _, hl =>
    have h1 : (0 : Int) < ((r.length + 1 + 1 : Nat) : Int) := by omega
    have h2 : (1 : Int) < ((r.length + 1 + 1 : Nat) : Int) := by omega
    have w0 := fun Q => L_ref35_Next (ls := []) (Q := Q) (n1 := n1) (g1 := g1) hl r.length 2 0 [pairI x y] r (Nat.le_refl _) rfl (by simp at hl ⊢; omega) (by omega)
    simp only [List.map_cons, List.map_nil, List.length_cons, List.length_nil, uV_eq, Int.cast_ofNat_Int, Nat.zero_add] at w0
    simp only [m_ref35_Next, bC, bW, wpY', evR, evW, idx, ldc, okV, sub, setc, buildC, bnd, resOf, resL, res1, xorB, take2L, take2, takeL, take1, appF, rowOf, elemOk, plain, pl1, isRow, cellB, srcOf, LIM, Option.some.injEq, exists_eq_left', exists_eq_left, Prod.mk.injEq, if_true, if_false, ite_true, ite_false, ne_eq, eq_self, reduceCtorEq, ↓reduceIte, Nat.reduceEqDiff, Nat.reduceAdd, Nat.reduceSub, Nat.reduceMul, Nat.reduceLT, Nat.reduceLeDiff, Nat.reduceBEq, Nat.reduceBNe, Nat.reduceMod, Nat.reduceDiv, Nat.reducePow, Int.reduceEq, Int.reduceLT, Int.reduceLE, Int.reduceNeg, Int.reduceAdd, Int.reduceSub, Int.reduceMul, Int.reduceToNat, Int.reduceBEq, Int.reduceBNe, L_ref35_Next_0_eq]
    rw [L_ref35_Next_0_unf]
    simp only [b_ref35_Next_0, bC, bW, bD, wpY', evR, evW, idx, ldc, okV, sub, setc, buildC, bnd, resOf, resL, res1, xorB, take2L, take2, takeL, take1, appF, rowOf, elemOk, plain, pl1, isRow, cellB, srcOf, LIM, Option.some.injEq, exists_eq_left', exists_eq_left, Prod.mk.injEq, if_true, if_false, ite_true, ite_false, ne_eq, eq_self, reduceCtorEq, ↓reduceIte, Nat.reduceEqDiff, Nat.reduceAdd, Nat.reduceSub, Nat.reduceMul, Nat.reduceLT, Nat.reduceLeDiff, Nat.reduceBEq, Nat.reduceBNe, Nat.reduceMod, Nat.reduceDiv, Nat.reducePow, Int.reduceEq, Int.reduceLT, Int.reduceLE, Int.reduceNeg, Int.reduceAdd, Int.reduceSub, Int.reduceMul, Int.reduceToNat, Int.reduceBEq, Int.reduceBNe, unused, fpO, rdR, rdW, own1, ptr1, ownC, sepOk, compat, disj, offR, h1, h2, uV_eq, f_ref05_Pair, L_ref35_Next_0_eq, wi, w0]
    have e : nextI (x :: y :: r) = pairI x y :: nextI r := rfl
    simp only [bC, bW, wpY', evR, evW, idx, ldc, okV, sub, setc, buildC, bnd, resOf, resL, res1, xorB, take2L, take2, takeL, take1, appF, rowOf, elemOk, plain, pl1, isRow, cellB, srcOf, LIM, Option.some.injEq, exists_eq_left', exists_eq_left, Prod.mk.injEq, if_true, if_false, ite_true, ite_false, ne_eq, eq_self, reduceCtorEq, ↓reduceIte, Nat.reduceEqDiff, Nat.reduceAdd, Nat.reduceSub, Nat.reduceMul, Nat.reduceLT, Nat.reduceLeDiff, Nat.reduceBEq, Nat.reduceBNe, Nat.reduceMod, Nat.reduceDiv, Nat.reducePow, Int.reduceEq, Int.reduceLT, Int.reduceLE, Int.reduceNeg, Int.reduceAdd, Int.reduceSub, Int.reduceMul, Int.reduceToNat, Int.reduceBEq, Int.reduceBNe, e, uV_all, List.append_eq, uV_eq]
theorem L_ref35_Root : ∀ (f : Nat) (l : List Int) {n1 g1 : Bool}, l ≠ [] → l.length ≤ f + 1 → l.length ≤ 4294967296 → (∀ (l' : List Int) (n2 g2 : Bool), l'.head? = some (rootF f l) → (Q (.exit 0) ⟨[(4, .tree (l'.map uV) n2 g2)], [], 0, [], 0⟩ ↔ R)) →
    (L_ref35_Root_0 XX (.tree (l.map uV) n1 g1) [] 0 [] 0 Q ↔ R) := by
  intro f
  induction f with
  | zero =>
    intro l n1 g1 h0 hl hl2 q
    have h1 : ¬ (1 : Int) < (l.length : Int) := by omega
    rw [L_ref35_Root_0_unf]
    simp only [b_ref35_Root_0, bC, bW, wpY', evR, evW, idx, ldc, okV, sub, setc, buildC, bnd, resOf, resL, res1, xorB, take2L, take2, takeL, take1, appF, rowOf, elemOk, plain, pl1, isRow, cellB, srcOf, LIM, Option.some.injEq, exists_eq_left', exists_eq_left, Prod.mk.injEq, if_true, if_false, ite_true, ite_false, ne_eq, eq_self, reduceCtorEq, ↓reduceIte, Nat.reduceEqDiff, Nat.reduceAdd, Nat.reduceSub, Nat.reduceMul, Nat.reduceLT, Nat.reduceLeDiff, Nat.reduceBEq, Nat.reduceBNe, Nat.reduceMod, Nat.reduceDiv, Nat.reducePow, Int.reduceEq, Int.reduceLT, Int.reduceLE, Int.reduceNeg, Int.reduceAdd, Int.reduceSub, Int.reduceMul, Int.reduceToNat, Int.reduceBEq, Int.reduceBNe, h1]
    refine q l n1 g1 ?_
    cases l with
    | nil => exact absurd rfl h0
    | cons a l => rfl
  | succ f ih =>
    intro l n1 g1 h0 hl hl2 q
    rw [L_ref35_Root_0_unf]
    by_cases h1 : 1 < l.length
    · have h1' : (1 : Int) < (l.length : Int) := by omega
      simp only [b_ref35_Root_0, bC, bW, wpY', evR, evW, idx, ldc, okV, sub, setc, buildC, bnd, resOf, resL, res1, xorB, take2L, take2, takeL, take1, appF, rowOf, elemOk, plain, pl1, isRow, cellB, srcOf, LIM, Option.some.injEq, exists_eq_left', exists_eq_left, Prod.mk.injEq, if_true, if_false, ite_true, ite_false, ne_eq, eq_self, reduceCtorEq, ↓reduceIte, Nat.reduceEqDiff, Nat.reduceAdd, Nat.reduceSub, Nat.reduceMul, Nat.reduceLT, Nat.reduceLeDiff, Nat.reduceBEq, Nat.reduceBNe, Nat.reduceMod, Nat.reduceDiv, Nat.reducePow, Int.reduceEq, Int.reduceLT, Int.reduceLE, Int.reduceNeg, Int.reduceAdd, Int.reduceSub, Int.reduceMul, Int.reduceToNat, Int.reduceBEq, Int.reduceBNe, h1', f_ref35_Next h0 hl2, L_ref35_Root_0_eq]
      have hn := nextI_len l
      refine ih (nextI l) (fun e => ?_) (by omega) (by omega) ?_
      · rw [e] at hn; simp at hn; omega
      · intro l' n2 g2 he
        exact q l' n2 g2 (by rw [he, rootF, if_pos h1])
    · have h1' : ¬ (1 : Int) < (l.length : Int) := by omega
      simp only [b_ref35_Root_0, bC, bW, wpY', evR, evW, idx, ldc, okV, sub, setc, buildC, bnd, resOf, resL, res1, xorB, take2L, take2, takeL, take1, appF, rowOf, elemOk, plain, pl1, isRow, cellB, srcOf, LIM, Option.some.injEq, exists_eq_left', exists_eq_left, Prod.mk.injEq, if_true, if_false, ite_true, ite_false, ne_eq, eq_self, reduceCtorEq, ↓reduceIte, Nat.reduceEqDiff, Nat.reduceAdd, Nat.reduceSub, Nat.reduceMul, Nat.reduceLT, Nat.reduceLeDiff, Nat.reduceBEq, Nat.reduceBNe, Nat.reduceMod, Nat.reduceDiv, Nat.reducePow, Int.reduceEq, Int.reduceLT, Int.reduceLE, Int.reduceNeg, Int.reduceAdd, Int.reduceSub, Int.reduceMul, Int.reduceToNat, Int.reduceBEq, Int.reduceBNe, h1']
      refine q l n1 g1 ?_
      rw [rootF, if_neg h1]
      cases l with
      | nil => exact absurd rfl h0
      | cons a l => rfl
theorem f_ref35_Root {a : List By} {n1 g1 : Bool} : WpF XX .ro n_ref35_Root [.tree (a.map By.v) n1 g1] st K ↔ K (if arePagesI a = true then .tup [.int .u64 (rootI a), .int .i64 0] else .tup [.int .u64 0, .int .i64 1]) st := by
  rw [F_ro (mf := m_ref35_Root) rfl rfl]
  cases hp : arePagesI a with
  | false => simp only [m_ref35_Root, bC, bW, wpY', evR, evW, idx, ldc, okV, sub, setc, buildC, bnd, resOf, resL, res1, xorB, take2L, take2, takeL, take1, appF, rowOf, elemOk, plain, pl1, isRow, cellB, srcOf, LIM, Option.some.injEq, exists_eq_left', exists_eq_left, Prod.mk.injEq, if_true, if_false, ite_true, ite_false, ne_eq, eq_self, reduceCtorEq, ↓reduceIte, Nat.reduceEqDiff, Nat.reduceAdd, Nat.reduceSub, Nat.reduceMul, Nat.reduceLT, Nat.reduceLeDiff, Nat.reduceBEq, Nat.reduceBNe, Nat.reduceMod, Nat.reduceDiv, Nat.reducePow, Int.reduceEq, Int.reduceLT, Int.reduceLE, Int.reduceNeg, Int.reduceAdd, Int.reduceSub, Int.reduceMul, Int.reduceToNat, Int.reduceBEq, Int.reduceBNe, f_ref35_Pages, hp]
  | true =>
    have hp' := hp
    simp only [arePagesI, Bool.and_eq_true, decide_eq_true_eq, List.all_eq_true] at hp'
    obtain ⟨⟨h1, h2⟩, h3⟩ := hp'
    have h0 : a ≠ [] := fun e => by subst e; simp at h1
    simp only [m_ref35_Root, bC, bW, wpY', evR, evW, idx, ldc, okV, sub, setc, buildC, bnd, resOf, resL, res1, xorB, take2L, take2, takeL, take1, appF, rowOf, elemOk, plain, pl1, isRow, cellB, srcOf, LIM, Option.some.injEq, exists_eq_left', exists_eq_left, Prod.mk.injEq, if_true, if_false, ite_true, ite_false, ne_eq, eq_self, reduceCtorEq, ↓reduceIte, Nat.reduceEqDiff, Nat.reduceAdd, Nat.reduceSub, Nat.reduceMul, Nat.reduceLT, Nat.reduceLeDiff, Nat.reduceBEq, Nat.reduceBNe, Nat.reduceMod, Nat.reduceDiv, Nat.reducePow, Int.reduceEq, Int.reduceLT, Int.reduceLE, Int.reduceNeg, Int.reduceAdd, Int.reduceSub, Int.reduceMul, Int.reduceToNat, Int.reduceBEq, Int.reduceBNe, f_ref35_Pages, hp, f_ref35_leaves h0 (by omega) (fun p hp => by have := h3 p hp; omega), L_ref35_Root_0_eq]
    refine L_ref35_Root 16 (leavesI a) (fun e => h0 (by simpa [leavesI] using e)) (by simp [leavesI]; omega) (by simp [leavesI]; omega) fun l' n2 g2 he => ?_
    cases l' with
    | nil => cases he
    | cons x l' =>
      simp only [List.head?_cons, Option.some.injEq] at he
      have h1 : (0 : Int) < ((l'.length + 1 : Nat) : Int) := by omega
      simp only [bC, bW, wpY', evR, evW, idx, ldc, okV, sub, setc, buildC, bnd, resOf, resL, res1, xorB, take2L, take2, takeL, take1, appF, rowOf, elemOk, plain, pl1, isRow, cellB, srcOf, LIM, Option.some.injEq, exists_eq_left', exists_eq_left, Prod.mk.injEq, if_true, if_false, ite_true, ite_false, ne_eq, eq_self, reduceCtorEq, ↓reduceIte, Nat.reduceEqDiff, Nat.reduceAdd, Nat.reduceSub, Nat.reduceMul, Nat.reduceLT, Nat.reduceLeDiff, Nat.reduceBEq, Nat.reduceBNe, Nat.reduceMod, Nat.reduceDiv, Nat.reducePow, Int.reduceEq, Int.reduceLT, Int.reduceLE, Int.reduceNeg, Int.reduceAdd, Int.reduceSub, Int.reduceMul, Int.reduceToNat, Int.reduceBEq, Int.reduceBNe, h1, uV_eq, he, rootI]
end
end Go.Proofs.YtfmbdcmjgnikiaaDoor.Sm
