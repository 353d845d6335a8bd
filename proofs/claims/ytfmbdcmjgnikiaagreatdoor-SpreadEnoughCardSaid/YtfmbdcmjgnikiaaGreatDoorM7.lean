/- Digests: what the small codes compute. Conditions: none. The reference's trees, and the proofs' check: what the small codes compute. Conditions: none. The reference's and the program's check of a proof. Conditions: none. The program's check of a proof. Conditions: none. Comparisons, looks over lists, notices. Conditions: none. The reference's root. Conditions: none. -/
import Derived.Test.YtfmbdcmjgnikiaaGreatDoorM4
import Derived.Test.YtfmbdcmjgnikiaaGreatDoorM6
set_option linter.unusedSimpArgs false
set_option linter.unusedVariables false
namespace Go.Proofs.YtfmbdcmjgnikiaaGreatDoor.Sm
open Go Go.RowKit

def stepI (x w : Int) : Int := IntKind.u64.wrap (xorI .u64 x w * 1099511628211)
def addI (x : Int) (b : List UInt8) : Int := b.foldl (fun x c => stepI x (c.toNat : Int)) x
def sumI (b : List UInt8) : Int := addI 14695981039346656037 b
def leafI (b : List UInt8) : Int := addI (stepI 14695981039346656037 0) b
def pairI (a b : Int) : Int := stepI (stepI 3750763034362895578 a) b
theorem addI_c {x : Int} {c : UInt8} {b : List UInt8} : addI x (c :: b) = addI (stepI x (c.toNat : Int)) b := rfl
theorem addI_n {x : Int} : addI x [] = x := rfl
theorem f_digest_number_step {x w : Int} {st : St} {Q : SV → St → Prop} : WpF XX .ro n_digest_number_step [.int .u64 x, .int .u64 w] st Q ↔ Q (.int .u64 (stepI x w)) st := by
  rw [F_ro (mf := m_digest_number_step) rfl rfl]
  simp only [m_digest_number_step, bC, bW, bZ, wpY', bV, seval, stepI]

theorem words_in {re : Env} (hre : getE re 5 = .ptr 0 0) {b : List UInt8} {nl tg : Bool} (hb : b.length < 4611686018427387904) {v7 v8 v9 : SV} {h1 : List SV} {Q : Ex → St → Prop} : ∀ (d k : Nat) (x : Int), k + d = b.length →
    (L_digest_words_1_0 XX (.yld 2) v7 v8 v9 (.tree (b.map b8) nl tg) (.int .i64 b.length) (.int .i64 k) [(1, h1), (0, [.int .u64 x])] 3 [(2, ⟨re, [11], a_digest_Add_0, y_digest_Add_0, 0, .norm⟩)] 0 Q ↔
    Q (.exit 2) ⟨[(0, .yld 2), (7, v7), (8, v8), (9, v9)], [(1, h1), (0, [.int .u64 (addI x (b.drop k))])], 3, [(2, ⟨re, [11], a_digest_Add_0, y_digest_Add_0, 0, .norm⟩)], 0⟩) := by
  intro d
  induction d with
  | zero =>
    intro k x hk
    obtain rfl : k = b.length := by omega
    rw [L_digest_words_1_0_unf]
    simp only [b_digest_words_1_0, bC, bW, bZ, wpY', bV, seval, Int.lt_irrefl, List.drop_length, addI_n]
  | succ d ih =>
    intro k x hk
    have hlt : k < b.length := by omega
    obtain ⟨c, hc, hd⟩ := get_some hlt
    rw [L_digest_words_1_0_unf]
    simp only [b_digest_words_1_0, bC, bW, bZ, wpY', bV, seval, lt_c hlt, hc, b8_eq, wu_b8, a_digest_Add_0, y_digest_Add_0, hre, f_digest_number_step, L_digest_words_1_0_eq, wi_s hlt (by omega), hd, addI_c]
    exact ih (k + 1) _ (by omega)

theorem f_digest_Add {x : Int} {b : List UInt8} {nl tg : Bool} (hb : b.length < 4611686018427387904) {st : St} {Q : SV → St → Prop} : WpF XX .ro n_digest_Add [.int .u64 x, .tree (b.map b8) nl tg] st Q ↔ Q (.int .u64 (addI x b)) st := by
  rw [F_ro (mf := m_digest_Add) rfl rfl]
  simp only [m_digest_Add, bC, bW, bZ, wpY', bV, seval, F_rw (X := XX) (f := n_digest_words) (mf := m_digest_words) rfl, m_digest_words, g_digest_Add_0, F_rw (X := XX) (f := n_digest_words_1) (mf := m_digest_words_1) rfl, m_digest_words_1]
  have w0 := fun re hre v7 v8 v9 h1 Q => words_in (re := re) hre (b := b) (nl := nl) (tg := tg) hb (v7 := v7) (v8 := v8) (v9 := v9) (h1 := h1) (Q := Q) b.length 0 x (by omega)
  simp only [Int.cast_ofNat_Int, List.drop_zero] at w0
  simp only [L_digest_words_1_1_eq, bC, bW, bZ, wpY', bV, seval]
  rw [L_digest_words_1_1_unf]
  simp only [b_digest_words_1_1, bC, bW, bZ, wpY', bV, seval, L_digest_words_1_0_eq, L_digest_words_1_1_eq, w0, wi]
  rw [L_digest_words_1_1_unf]
  simp only [b_digest_words_1_1, bC, bW, bZ, wpY', bV, seval]

def zb : List UInt8 := [0]
theorem zb_l : zb.length < 4611686018427387904 := by decide
theorem f_digest_Sum {b : List UInt8} {nl tg : Bool} (hb : b.length < 4611686018427387904) {st : St} {Q : SV → St → Prop} : WpF XX .ro n_digest_Sum [.tree (b.map b8) nl tg] st Q ↔ Q (.int .u64 (sumI b)) st := by
  rw [F_ro (mf := m_digest_Sum) rfl rfl]
  simp only [m_digest_Sum, bC, bW, bZ, wpY', bV, seval, f_digest_Add hb, sumI]
theorem z_digest_Sum {st : St} {Q : SV → St → Prop} : WpF XX .ro n_digest_Sum [.tree [.int .u8 0] false true] st Q ↔ Q (.int .u64 (stepI 14695981039346656037 0)) st := f_digest_Sum (nl := false) (tg := true) zb_l
theorem f_digest_Pair {a b : Int} {st : St} {Q : SV → St → Prop} : WpF XX .ro n_digest_Pair [.int .u64 a, .int .u64 b] st Q ↔ Q (.int .u64 (pairI a b)) st := by
  rw [F_ro (mf := m_digest_Pair) rfl rfl]
  simp only [m_digest_Pair, bC, bW, bZ, wpY', bV, seval, f_digest_number_step, pairI]

theorem f_tree_leaf {b : List UInt8} {nl0 tg0 : Bool} (hb : b.length < 4611686018427387904) {nl tg : Bool} {st : St} {Q : SV → St → Prop} : WpF XX .ro n_tree_leaf [.tree [.tree (b.map b8) nl0 tg0] nl tg] st Q ↔ Q (.int .u64 (leafI b)) st := by
  rw [F_ro (mf := m_tree_leaf) rfl rfl]
  simp only [m_tree_leaf, bC, bW, bZ, wpY', bV, seval, z_digest_Sum, L_tree_leaf_0_eq]
  rw [L_tree_leaf_0_unf]
  simp only [b_tree_leaf_0, bC, bW, bZ, wpY', bV, seval, L_tree_leaf_0_eq, f_digest_Add hb, wi]
  rw [L_tree_leaf_0_unf]
  simp only [b_tree_leaf_0, bC, bW, bZ, wpY', bV, seval, leafI]
end Go.Proofs.YtfmbdcmjgnikiaaGreatDoor.Sm
namespace Go.Proofs.YtfmbdcmjgnikiaaGreatDoor.Sm
open Go Go.RowKit

/-! ### plain functions -/
def partner (i : Nat) : Nat := if i % 2 = 0 then i + 1 else i - 1
/-- From a leaf up to the root. -/
def climb : Nat → Nat → Nat → Int → List Int → Option Int
  | 0, _, _, x, ps => if ps = [] then some x else none
  | f + 1, n, i, x, ps => if 1 < n then
      (if partner i < n then (match ps with
        | [] => none
        | p :: ps => climb f ((n + 1) / 2) (i / 2) (if i % 2 = 1 then pairI p x else pairI x p) ps)
      else climb f ((n + 1) / 2) (i / 2) x ps)
    else if ps = [] then some x else none
def checkI (root n i : Int) (page : List UInt8) (proof : List Int) : Bool :=
  decide (1 ≤ n) && decide (n ≤ 16) && decide (0 ≤ i) && decide (i < n) && decide (page.length ≤ 256) && decide (climb 16 n.toNat i.toNat (leafI page) proof = some root)

theorem half_s {n : Nat} (h : n < 4611686018427387904) : IntKind.i64.wrap ((IntKind.i64.wrap ((n : Int) + 1)).tdiv 2) = (((n + 1) / 2 : Nat) : Int) := by
  rw [wi ((n : Int) + 1) (by omega) (by omega), Int.tdiv_eq_ediv_of_nonneg (by omega), wi _ (by omega) (by omega)]
  omega
theorem half_i {i : Nat} (h : i < 4611686018427387904) : IntKind.i64.wrap ((i : Int).tdiv 2) = ((i / 2 : Nat) : Int) := by
  rw [Int.tdiv_eq_ediv_of_nonneg (by omega), wi _ (by omega) (by omega)]
  omega
end Go.Proofs.YtfmbdcmjgnikiaaGreatDoor.Sm
namespace Go.Proofs.YtfmbdcmjgnikiaaGreatDoor.Sm
open Go Go.RowKit

end Go.Proofs.YtfmbdcmjgnikiaaGreatDoor.Sm
namespace Go.Proofs.YtfmbdcmjgnikiaaGreatDoor.Sm
open Go Go.RowKit

theorem xor1 : ∀ i : Nat, i < 16 → xorI .i64 (i : Int) 1 = (partner i : Int) := by decide +kernel
theorem mod2 (i : Nat) : (i : Int).tmod 2 = ((i % 2 : Nat) : Int) := by rw [Int.tmod_eq_emod_of_nonneg (by omega)]; rfl

theorem L_tree_walk {re : Env} (h9 : getE re 9 = .ptr 0 0) (h10 : getE re 10 = .ptr 1 0) (h11 : getE re 11 = .ptr 2 0) {nl tg : Bool} {Q : Ex → St → Prop} {R : Prop} : ∀ (f n i : Nat) (x : Int) (ps : List Int), n ≤ f + 1 → n ≤ 16 → i < n → ps.length < 1152921504606846976 →
    (∀ (n' i' x' : Int) (ps' : List Int), climb f n i x ps = (if ps' = [] then some x' else none) → (Q (.exit 0) ⟨[], [(4, [.int .i64 i']), (3, [.int .i64 n']), (2, [.int .u64 x']), (1, [.bool false]), (0, [.tree (ps'.map uV) nl tg])], 6, [(5, ⟨re, [42, 43], a_tree_Check_0, y_tree_Check_0, 0, .norm⟩)], 0⟩ ↔ R)) →
    (∀ (e' : Env) (n' i' x' : Int), climb f n i x ps = none → (Q .ret ⟨e', [(4, [.int .i64 i']), (3, [.int .i64 n']), (2, [.int .u64 x']), (1, [.bool false]), (0, [.tree [] nl tg])], 6, [(5, ⟨re, [42, 43], a_tree_Check_0, y_tree_Check_0, 2, .ret⟩)], 0⟩ ↔ R)) →
    (L_tree_walk_1_0 XX (.yld 5) (.ptr 3 0) (.ptr 4 0) [(4, [.int .i64 i]), (3, [.int .i64 n]), (2, [.int .u64 x]), (1, [.bool false]), (0, [.tree (ps.map uV) nl tg])] 6 [(5, ⟨re, [42, 43], a_tree_Check_0, y_tree_Check_0, 0, .norm⟩)] 0 Q ↔ R) := by
  intro f
  induction f with
  | zero =>
    intro n i x ps hn hn2 hi hp q1 q2
    rw [L_tree_walk_1_0_unf]
    have : ¬ ((1 : Int) < (n : Int)) := by omega
    simp only [b_tree_walk_1_0, bC, bW, bZ, wpY', bV, seval, this]
    exact q1 _ _ _ _ rfl
  | succ f ih =>
    intro n i x ps hn hn2 hi hp q1 q2
    rw [L_tree_walk_1_0_unf]
    by_cases h1 : 1 < n
    · have h1' : (1 : Int) < (n : Int) := by omega
      have hx := xor1 i (by omega)
      by_cases h2 : partner i < n
      · cases ps with
        | nil =>
          simp only [b_tree_walk_1_0, bC, bW, bD, bZ, wpY', bV, bVD, seval, h1', hx, Int.ofNat_lt, h2, a_tree_Check_0, y_tree_Check_0, h9, h10, h11, mod2]
          refine q2 _ _ _ _ ?_
          simp only [climb, h1, h2, if_true]
        | cons p ps =>
          simp only [List.length_cons] at hp
          have hl : ¬ (((ps.length + 1 : Nat) : Int) = 0) := by omega
          have hl1 : (0 : Int) < ((ps.length + 1 : Nat) : Int) := by omega
          have hl2 : (1 : Int) ≤ ((ps.length + 1 : Nat) : Int) := by omega
          by_cases h3 : i % 2 = 1
          · have h3' : ((i % 2 : Nat) : Int) = 1 := by omega
            simp only [b_tree_walk_1_0, bC, bW, bD, bZ, wpY', bV, bVD, seval, h1', hx, Int.ofNat_lt, h2, a_tree_Check_0, y_tree_Check_0, h9, h10, h11, mod2, hl, hl1, hl2, h3', uV_eq, f_digest_Pair, half_s (n := n) (by omega), half_i (i := i) (by omega), L_tree_walk_1_0_eq]
            refine ih _ _ _ _ (by omega) (by omega) (by omega) (by omega) (fun n' i' x' ps' e => q1 _ _ _ _ ?_) (fun e' n' i' x' e => q2 _ _ _ _ ?_)
            · rw [← e]; simp only [climb, h1, h2, h3, if_true]
            · rw [← e]; simp only [climb, h1, h2, h3, if_true]
          · have h3' : ¬ (((i % 2 : Nat) : Int) = 1) := by omega
            simp only [b_tree_walk_1_0, bC, bW, bD, bZ, wpY', bV, bVD, seval, h1', hx, Int.ofNat_lt, h2, a_tree_Check_0, y_tree_Check_0, h9, h10, h11, mod2, hl, hl1, hl2, h3', uV_eq, f_digest_Pair, half_s (n := n) (by omega), half_i (i := i) (by omega), L_tree_walk_1_0_eq]
            refine ih _ _ _ _ (by omega) (by omega) (by omega) (by omega) (fun n' i' x' ps' e => q1 _ _ _ _ ?_) (fun e' n' i' x' e => q2 _ _ _ _ ?_)
            · rw [← e]; simp only [climb, h1, h2, h3, if_true, if_false]
            · rw [← e]; simp only [climb, h1, h2, h3, if_true, if_false]
      · simp only [b_tree_walk_1_0, bC, bW, bD, bZ, wpY', bV, bVD, seval, h1', hx, Int.ofNat_lt, h2, a_tree_Check_0, y_tree_Check_0, h9, h10, h11, mod2, half_s (n := n) (by omega), half_i (i := i) (by omega), L_tree_walk_1_0_eq]
        refine ih _ _ _ _ (by omega) (by omega) (by omega) (by omega) (fun n' i' x' ps' e => q1 _ _ _ _ ?_) (fun e' n' i' x' e => q2 _ _ _ _ ?_)
        · rw [← e]; simp only [climb, h1, h2, if_true, if_false]
        · rw [← e]; simp only [climb, h1, h2, if_true, if_false]
    · have h1' : ¬ ((1 : Int) < (n : Int)) := by omega
      simp only [b_tree_walk_1_0, bC, bW, bZ, wpY', bV, seval, h1']
      exact q1 _ _ _ _ (by simp only [climb, h1, if_false])

theorem f_tree_Check {root n i : Int} {page : List UInt8} {nl tg : Bool} {ps : List Int} {nl' tg' : Bool} (hpg : page.length < 1152921504606846976) (hp : ps.length < 1152921504606846976) {st : St} {Q : SV → St → Prop} :
    WpF XX .ro n_tree_Check [.int .u64 root, .int .i64 n, .int .i64 i, .tree (page.map b8) nl tg, .tree (ps.map uV) nl' tg'] st Q ↔ Q (.bool (checkI root n i page ps)) st := by
  rw [F_ro (mf := m_tree_Check) rfl rfl]
  unfold checkI
  by_cases h1 : n < 1
  · have : ¬ 1 ≤ n := by omega
    simp only [m_tree_Check, bC, bW, bZ, wpY', bV, seval, h1, this]
  have h1' : 1 ≤ n := by omega
  by_cases h2 : 16 < n
  · have : ¬ n ≤ 16 := by omega
    simp only [m_tree_Check, bC, bW, bZ, wpY', bV, seval, h1, h2, this]
  have h2' : n ≤ 16 := by omega
  by_cases h3 : i < 0
  · have : ¬ 0 ≤ i := by omega
    simp only [m_tree_Check, bC, bW, bZ, wpY', bV, seval, h1, h2, h3, this]
  have h3' : 0 ≤ i := by omega
  by_cases h4 : n ≤ i
  · have : ¬ i < n := by omega
    simp only [m_tree_Check, bC, bW, bZ, wpY', bV, seval, h1, h2, h3, h4, this]
  have h4' : i < n := by omega
  by_cases h5 : (256 : Int) < page.length
  · have : ¬ page.length ≤ 256 := by omega
    simp only [m_tree_Check, bC, bW, bZ, wpY', bV, seval, h1, h2, h3, h4, h5, this]
  have h5' : page.length ≤ 256 := by omega
  obtain ⟨N, rfl⟩ : ∃ N : Nat, n = N := ⟨n.toNat, by omega⟩
  obtain ⟨I, rfl⟩ : ∃ I : Nat, i = I := ⟨i.toNat, by omega⟩
  simp only [m_tree_Check, bC, bW, bZ, wpY', bV, seval, h1, h2, h3, h4, h5, h1', h2', h3', h4', h5', f_tree_leaf (b := page) (by omega), F_rw (X := XX) (f := n_tree_walk) (mf := m_tree_walk) rfl, m_tree_walk, g_tree_Check_0, F_rw (X := XX) (f := n_tree_walk_1) (mf := m_tree_walk_1) rfl, m_tree_walk_1, L_tree_walk_1_0_eq]
  refine L_tree_walk rfl rfl rfl 16 N I (leafI page) ps (by omega) (by omega) (by omega) hp (fun n' i' x' ps' e => ?_) (fun e' n' i' x' e => ?_)
  · by_cases hps : ps' = []
    · subst hps
      simp only [bC, bW, bZ, wpY', bV, seval, e]
    · have hl : ¬ ((ps'.length : Int) = 0) := by
        have : ps'.length ≠ 0 := by simpa using hps
        omega
      simp only [bC, bW, bZ, wpY', bV, seval, e, hl, hps]
  · simp only [bC, bW, bZ, wpY', bV, seval, e]
end Go.Proofs.YtfmbdcmjgnikiaaGreatDoor.Sm
namespace Go.Proofs.YtfmbdcmjgnikiaaGreatDoor.Sm
open Go Go.RowKit

section
variable {h : Heap} {nx wb : Nat} {ls : List (Nat × LRec)} {Q : Ex → St → Prop} {R : Prop} {st : St} {K : SV → St → Prop}

theorem b8_inj {c d : UInt8} : ((c.toNat : Int) = (d.toNat : Int)) ↔ c = d := by
  rw [Int.natCast_inj, UInt8.toNat_inj]
theorem cons_eq_iff {α : Type} {a b : α} {l m : List α} : a :: l = b :: m ↔ a = b ∧ l = m := by simp

theorem L_ref36_Bytes {a b : List UInt8} {n1 g1 n2 g2 : Bool} (ha : a.length < 4611686018427387904) (hl : a.length = b.length) : ∀ (d k : Nat), k + d = a.length →
    (a.drop k = b.drop k → (Q (.exit 0) ⟨[], h, nx, ls, wb⟩ ↔ R)) → (a.drop k ≠ b.drop k → ∀ e, getE e 4 = .bool false → (Q .ret ⟨e, h, nx, ls, wb⟩ ↔ R)) →
    (L_ref36_Bytes_0 XX (.tree (a.map b8) n1 g1) (.tree (b.map b8) n2 g2) (.int .i64 k) h nx ls wb Q ↔ R) := by
  intro d
  induction d with
  | zero =>
    intro k hk q1 q2
    obtain rfl : k = a.length := by omega
    rw [L_ref36_Bytes_0_unf]
    simp only [b_ref36_Bytes_0, bC, bW, bZ, wpY', bV, seval, Int.lt_irrefl]
    exact q1 (by rw [List.drop_length, hl, List.drop_length])
  | succ d ih =>
    intro k hk q1 q2
    have hlt : k < a.length := by omega
    obtain ⟨c, hc, hd⟩ := get_some hlt
    obtain ⟨c', hc', hd'⟩ := get_some (l := b) (k := k) (by omega)
    rw [L_ref36_Bytes_0_unf]
    have hlb : ((k : Int) < (b.length : Int)) = True := lt_c (by omega)
    by_cases hcc : c = c'
    · simp only [b_ref36_Bytes_0, bC, bW, bD, bZ, wpY', bV, bVD, seval, lt_c hlt, hlb, hc, hc', b8_eq, b8_inj, hcc, L_ref36_Bytes_0_eq, wi_s hlt (by omega)]
      rw [hd, hd'] at q1 q2; simp only [ne_eq, cons_eq_iff] at q1 q2
      exact ih (k + 1) (by omega) (fun e => q1 ⟨hcc, e⟩) (fun e => q2 fun e' => e e'.2)
    · simp only [b_ref36_Bytes_0, bC, bW, bD, bZ, wpY', bV, bVD, seval, lt_c hlt, hlb, hc, hc', b8_eq, b8_inj, hcc]
      rw [hd, hd'] at q2; simp only [ne_eq, cons_eq_iff] at q2
      exact q2 (fun e => hcc e.1) _ rfl
theorem f_ref36_Bytes {a b : List UInt8} {n1 g1 n2 g2 : Bool} (ha : a.length < 4611686018427387904) : WpF XX .ro n_ref36_Bytes [.tree (a.map b8) n1 g1, .tree (b.map b8) n2 g2] st K ↔ K (.bool (decide (a = b))) st := by
  rw [F_ro (mf := m_ref36_Bytes) rfl rfl]
  by_cases hl : a.length = b.length
  · simp only [m_ref36_Bytes, bC, bW, bZ, wpY', bV, seval, hl, L_ref36_Bytes_0_eq]
    refine L_ref36_Bytes ha hl a.length 0 (by omega) (fun e => ?_) (fun e en he => ?_)
    · have e : a = b := e
      simp only [bC, bW, bZ, wpY', bV, seval, e]
    · have e : ¬ a = b := e
      simp only [bC, bW, bZ, wpY', bV, seval, e, he]
  · have hn : ¬ a = b := fun e => hl (by rw [e])
    have hl' : ¬ ((a.length : Int) = (b.length : Int)) := by omega
    simp only [m_ref36_Bytes, bC, bW, bZ, wpY', bV, seval, hl', hn]

/-- What lists of slices hold. -/
def inner {α : Type} (l : List (Sl α)) : List (List α) := l.map Sl.xs
/-! ### looks for a slice -/
theorem L_IndexFunc {g : Nat} {pred : List UInt8 → Bool} (hg : ∀ (xs : List UInt8) (nl tg : Bool) (st : St) (K : SV → St → Prop), WpF XX .ro g [.tree (xs.map b8) nl tg] st K ↔ K (.bool (pred xs)) st) {a : List By} {n1 g1 : Bool} (ha : a.length < 4611686018427387904) : ∀ (d k : Nat), k + d = a.length →
    ((a.drop k).any (fun p => pred p.xs) = false → (Q (.exit 0) ⟨[], h, nx, ls, wb⟩ ↔ R)) → ((a.drop k).any (fun p => pred p.xs) = true → ∀ (e : Env) (j : Nat), getE e 4 = .int .i64 j → (Q .ret ⟨e, h, nx, ls, wb⟩ ↔ R)) →
    (L_slices_IndexFunc_ssbyte_sbyte_0 XX (.tree (a.map By.v) n1 g1) (.fn g [] []) (.int .i64 a.length) (.int .i64 k) h nx ls wb Q ↔ R) := by
  intro d
  induction d with
  | zero =>
    intro k hk q1 q2
    obtain rfl : k = a.length := by omega
    rw [L_slices_IndexFunc_ssbyte_sbyte_0_unf]
    simp only [b_slices_IndexFunc_ssbyte_sbyte_0, bC, bW, bZ, wpY', bV, seval, Int.lt_irrefl]
    exact q1 (by rw [List.drop_length]; rfl)
  | succ d ih =>
    intro k hk q1 q2
    have hlt : k < a.length := by omega
    obtain ⟨c, hc, hd⟩ := get_some hlt
    rw [L_slices_IndexFunc_ssbyte_sbyte_0_unf]
    rw [hd, List.any_cons] at q1 q2
    cases hp : pred c.xs with
    | false =>
      simp only [b_slices_IndexFunc_ssbyte_sbyte_0, bC, bW, bZ, wpY', bV, seval, lt_c hlt, hc, By.v, Sl.v, hg, hp, L_slices_IndexFunc_ssbyte_sbyte_0_eq, wi_s hlt (by omega)]
      rw [hp, Bool.false_or] at q1 q2
      exact ih (k + 1) (by omega) q1 q2
    | true =>
      simp only [b_slices_IndexFunc_ssbyte_sbyte_0, bC, bW, bZ, wpY', bV, seval, lt_c hlt, hc, By.v, Sl.v, hg, hp]
      rw [hp, Bool.true_or] at q2
      exact q2 rfl _ k rfl
theorem f_ContainsFunc {g : Nat} {pred : List UInt8 → Bool} (hg : ∀ (xs : List UInt8) (nl tg : Bool) (st : St) (K : SV → St → Prop), WpF XX .ro g [.tree (xs.map b8) nl tg] st K ↔ K (.bool (pred xs)) st) {a : List By} {n1 g1 : Bool} (ha : a.length < 4611686018427387904) : WpF XX .ro n_slices_ContainsFunc_ssbyte_sbyte [.tree (a.map By.v) n1 g1, .fn g [] []] st K ↔ K (.bool (a.any fun p => pred p.xs)) st := by
  rw [F_ro (mf := m_slices_ContainsFunc_ssbyte_sbyte) rfl rfl]
  simp only [m_slices_ContainsFunc_ssbyte_sbyte, bC, bW, bZ, wpY', bV, seval]
  rw [F_ro (mf := m_slices_IndexFunc_ssbyte_sbyte) rfl rfl]
  simp only [m_slices_IndexFunc_ssbyte_sbyte, bC, bW, bZ, wpY', bV, seval, L_slices_IndexFunc_ssbyte_sbyte_0_eq]
  refine L_IndexFunc hg ha a.length 0 (by omega) (fun e => ?_) (fun e en j hj => ?_)
  · rw [List.drop_zero] at e
    simp only [bC, bW, bZ, wpY', bV, seval, e]
  · rw [List.drop_zero] at e
    simp only [bC, bW, bZ, wpY', bV, seval, e, hj]
theorem f_tree_arePages_1 (xs : List UInt8) (nl tg : Bool) (st : St) (K : SV → St → Prop) : WpF XX .ro n_tree_arePages_1 [.tree (xs.map b8) nl tg] st K ↔ K (.bool (decide ((256 : Int) < xs.length))) st := by
  rw [F_ro (mf := m_tree_arePages_1) rfl rfl]
  simp only [m_tree_arePages_1, bC, bW, bZ, wpY', bV, seval]
theorem f_image_paged_1 (xs : List UInt8) (nl tg : Bool) (st : St) (K : SV → St → Prop) : WpF XX .ro n_image_paged_1 [.tree (xs.map b8) nl tg] st K ↔ K (.bool (!decide ((xs.length : Int) = 256))) st := by
  rw [F_ro (mf := m_image_paged_1) rfl rfl]
  simp only [m_image_paged_1, bC, bW, bZ, wpY', bV, seval]

/-- All pages have the right length. -/
def pagedI (a : List By) : Bool := a.all fun p => decide (p.xs.length = 256)
/-- These are pages of a tree. -/
def arePagesI (a : List By) : Bool := decide (1 ≤ a.length) && decide (a.length ≤ 16) && a.all fun p => decide (p.xs.length ≤ 256)
theorem any_all {α : Type} (p q : α → Bool) (hpq : ∀ a, p a = !q a) : ∀ l : List α, (!l.any p) = l.all q
  | [] => rfl
  | a :: l => by rw [List.any_cons, List.all_cons, Bool.not_or, any_all p q hpq l, hpq, Bool.not_not]
theorem f_image_paged {a : List By} {n1 g1 : Bool} (ha : a.length < 4611686018427387904) : WpF XX .ro n_image_paged [.tree (a.map By.v) n1 g1] st K ↔ K (.bool (pagedI a)) st := by
  rw [F_ro (mf := m_image_paged) rfl rfl]
  simp only [m_image_paged, bC, bW, bZ, wpY', bV, seval, f_ContainsFunc f_image_paged_1 ha]
  rw [any_all _ (fun p : By => decide (p.xs.length = 256)) (fun p => by
    by_cases h : p.xs.length = 256
    · simp [h]
    · have : ¬ (p.xs.length : Int) = 256 := by omega
      simp [h, this])]
  exact Iff.rfl
theorem f_tree_arePages {a : List By} {n1 g1 : Bool} : WpF XX .ro n_tree_arePages [.tree (a.map By.v) n1 g1] st K ↔ K (.bool (arePagesI a)) st := by
  rw [F_ro (mf := m_tree_arePages) rfl rfl]
  unfold arePagesI
  by_cases h1 : (0 : Int) < a.length
  · have h1' : 1 ≤ a.length := by omega
    by_cases h2 : (a.length : Int) ≤ 16
    · have h2' : a.length ≤ 16 := by omega
      simp only [m_tree_arePages, bC, bW, bZ, wpY', bV, seval, h1, h1', h2, h2', f_ContainsFunc f_tree_arePages_1 (a := a) (by omega)]
      rw [any_all _ (fun p : By => decide (p.xs.length ≤ 256)) (fun p => by
        by_cases h : p.xs.length ≤ 256
        · have : ¬ (256 : Int) < (p.xs.length : Int) := by omega
          simp [h, this]
        · have : (256 : Int) < (p.xs.length : Int) := by omega
          simp [h, this])]
    · have h2' : ¬ a.length ≤ 16 := by omega
      simp only [m_tree_arePages, bC, bW, bZ, wpY', bV, seval, h1, h1', h2, h2']
  · have h1' : ¬ 1 ≤ a.length := by omega
    simp only [m_tree_arePages, bC, bW, bZ, wpY', bV, seval, h1, h1']

/-! ### sizes, notices -/
def sizedI (n : Int) : Bool := decide (1 ≤ n) && decide (n ≤ 4096)
theorem f_image_sized {n : Int} : WpF XX .ro n_image_sized [.int .i64 n] st K ↔ K (.bool (sizedI n)) st := by
  rw [F_ro (mf := m_image_sized) rfl rfl]
  unfold sizedI
  by_cases h1 : 1 ≤ n <;> simp only [m_image_sized, bC, bW, bZ, wpY', bV, seval, h1]
def countI (n : Int) : Int := (n + 255) / 256
theorem count_s {n : Int} (h0 : 0 ≤ n) (h1 : n ≤ 1000000000000) : IntKind.i64.wrap ((IntKind.i64.wrap (IntKind.i64.wrap (n + 256) - 1)).tdiv 256) = countI n := by
  rw [wi (n + 256) (by omega) (by omega), wi (n + 256 - 1) (by omega) (by omega), Int.tdiv_eq_ediv_of_nonneg (by omega), wi _ (by omega) (by omega)]
  unfold countI
  omega
theorem f_image_count {n : Int} (h0 : 0 ≤ n) (h1 : n ≤ 1000000000000) : WpF XX .ro n_image_count [.int .i64 n] st K ↔ K (.int .i64 (countI n)) st := by
  rw [F_ro (mf := m_image_count) rfl rfl]
  simp only [m_image_count, bC, bW, bZ, wpY', bV, seval, count_s h0 h1]
def noticeI (ver size start : Int) : Bool := decide (1 ≤ ver) && decide (ver ≤ 1000000000) && sizedI size && decide (0 ≤ start) && decide (start ≤ 1000000000)
theorem f_image_announced {ver size dg start : Int} : WpF XX .ro n_image_announced [.agg [.int .i64 ver, .int .i64 size, .int .u64 dg, .int .i64 start]] st K ↔ K (.bool (noticeI ver size start)) st := by
  rw [F_ro (mf := m_image_announced) rfl rfl]
  unfold noticeI
  by_cases h1 : 1 ≤ ver
  · by_cases h2 : ver ≤ 1000000000
    · cases h3 : sizedI size
      · simp only [m_image_announced, bC, bW, bZ, wpY', bV, seval, h1, h2, h3, f_image_sized]
      · by_cases h4 : 0 ≤ start <;> simp only [m_image_announced, bC, bW, bZ, wpY', bV, seval, h1, h2, h3, h4, f_image_sized]
    · simp only [m_image_announced, bC, bW, bZ, wpY', bV, seval, h1, h2]
  · simp only [m_image_announced, bC, bW, bZ, wpY', bV, seval, h1]
end
end Go.Proofs.YtfmbdcmjgnikiaaGreatDoor.Sm
namespace Go.Proofs.YtfmbdcmjgnikiaaGreatDoor.Sm
open Go Go.RowKit

def leavesI (a : List By) : List Int := a.map fun p => leafI p.xs
def nextI : List Int → List Int
  | a :: b :: r => pairI a b :: nextI r
  | l => l
def rootF : Nat → List Int → Int
  | 0, l => l.headD 0
  | f + 1, l => if 1 < l.length then rootF f (nextI l) else l.headD 0
def rootI (a : List By) : Int := rootF 16 (leavesI a)
theorem nextI_len : ∀ l : List Int, (nextI l).length = (l.length + 1) / 2
  | [] => rfl
  | [a] => by simp [nextI]
  | a :: b :: r => by
    rw [nextI, List.length_cons, nextI_len r, List.length_cons, List.length_cons]
    omega

section
variable {ls : List (Nat × LRec)} {Q : Ex → St → Prop} {R : Prop} {st : St} {K : SV → St → Prop}
theorem uV_all (l : List Int) : (l.map uV).all pl1 = true := Cell1.pl uV_c l
end
end Go.Proofs.YtfmbdcmjgnikiaaGreatDoor.Sm
