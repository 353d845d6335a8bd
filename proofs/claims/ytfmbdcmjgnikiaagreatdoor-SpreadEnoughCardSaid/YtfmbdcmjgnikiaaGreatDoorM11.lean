/- Rows as equations, one after the other; when they are valid; what they reduce to. Conditions: none. Rows that grow, wherever they lie. Conditions: none. Equations reduced, added and solved: what the small codes compute. Conditions: none. Blocks that follow from rows; rows with one more equation. Conditions: none. -/
import Derived.Test.YtfmbdcmjgnikiaaGreatDoorM10
set_option linter.unusedSimpArgs false
set_option linter.unusedVariables false
namespace Go.Proofs.YtfmbdcmjgnikiaaGreatDoor.Sm
open Go Go.RowKit

theorem ofInt_n (a : Nat) : BitVec.ofInt 64 (a : Int) = BitVec.ofNat 64 a := by
  apply BitVec.eq_of_toNat_eq
  simp [BitVec.toNat_ofInt]
theorem and_n {a b : Nat} (ha : a < 65536) (hb : b < 65536) : andI .i64 (a : Int) (b : Int) = ((a &&& b : Nat) : Int) := by
  have h : (a &&& b) < 2 ^ 16 := Nat.and_lt_two_pow _ hb
  show IntKind.i64.wrap ((BitVec.ofInt 64 (a : Int) &&& BitVec.ofInt 64 (b : Int)).toNat : Nat) = _
  rw [ofInt_n, ofInt_n, BitVec.toNat_and, BitVec.toNat_ofNat, BitVec.toNat_ofNat, Nat.mod_eq_of_lt (by omega), Nat.mod_eq_of_lt (by omega)]
  exact wi _ (by omega) (by omega)
theorem or_n {a b : Nat} (ha : a < 65536) (hb : b < 65536) : orI .i64 (a : Int) (b : Int) = ((a ||| b : Nat) : Int) := by
  have h : (a ||| b) < 2 ^ 16 := Nat.or_lt_two_pow ha hb
  show IntKind.i64.wrap ((BitVec.ofInt 64 (a : Int) ||| BitVec.ofInt 64 (b : Int)).toNat : Nat) = _
  rw [ofInt_n, ofInt_n, BitVec.toNat_or, BitVec.toNat_ofNat, BitVec.toNat_ofNat, Nat.mod_eq_of_lt (by omega), Nat.mod_eq_of_lt (by omega)]
  exact wi _ (by omega) (by omega)
theorem xor_n {a b : Nat} (ha : a < 65536) (hb : b < 65536) : xorI .i64 (a : Int) (b : Int) = ((a ^^^ b : Nat) : Int) := by
  have h : (a ^^^ b) < 2 ^ 16 := Nat.xor_lt_two_pow ha hb
  show IntKind.i64.wrap ((BitVec.ofInt 64 (a : Int) ^^^ BitVec.ofInt 64 (b : Int)).toNat : Nat) = _
  rw [ofInt_n, ofInt_n, BitVec.toNat_xor, BitVec.toNat_ofNat, BitVec.toNat_ofNat, Nat.mod_eq_of_lt (by omega), Nat.mod_eq_of_lt (by omega)]
  exact wi _ (by omega) (by omega)
theorem lead_le (m : Nat) : leadN m ≤ m := by
  unfold leadN
  split
  · omega
  · rename_i h; exact Nat.log2_self_le h
theorem lead_lt {m : Nat} (h : m < 65536) : leadN m < 65536 := Nat.lt_of_le_of_lt (lead_le m) h

section
variable {ls : List (Nat × LRec)} {Q : Ex → St → Prop} {R : Prop} {st : St} {K : SV → St → Prop}
/-- Over the equations of rows: whatever the body does with one after the other. -/
theorem L_eqs {rows : List Rw} {nl tg : Bool} {l p q : Nat} {re : Env} {sa bd : MCode} (hl : rows.length < 4611686018427387904) (I : Nat → Heap → Nat → Prop) (E : Ex → Heap → Nat → Prop)
    (hI : ∀ k h nx h' nx', I k h nx → (∀ j, j < nx → look h' j = look h j) → nx ≤ nx' → I k h' nx')
    (hy : ∀ (k : Nat) (r : Rw) (h : Heap) (nx : Nat) (e : Env) (K : SV → St → Prop), rows[k]? = some r → I k h nx → fresh h nx → l < nx →
      (∀ h' nx', I (k + 1) h' nx' → fresh h' nx' → nx ≤ nx' → (K (.bool true) ⟨e, h', nx', (l, ⟨re, [p, q], sa, bd, 0, .norm⟩) :: ls, 0⟩ ↔ R)) →
      (∀ x h' nx', x ≠ .norm → E x h' nx' → (K (.bool false) ⟨e, h', nx', (l, ⟨re, [p, q], sa, bd, 2, x⟩) :: ls, 0⟩ ↔ R)) →
      (WpY XX l [.agg (.int .i64 r.mask :: (Bk.of r.data.xs).l.map b8), .bool (fmB r)] ⟨e, h, nx, (l, ⟨re, [p, q], sa, bd, 0, .norm⟩) :: ls, 0⟩ K ↔ R))
    (q1 : ∀ h' nx', I rows.length h' nx' → fresh h' nx' → l < nx' → (Q (.exit 0) ⟨[], h', nx', (l, ⟨re, [p, q], sa, bd, 0, .norm⟩) :: ls, 0⟩ ↔ R))
    (q2 : ∀ x e h' nx', x ≠ .norm → E x h' nx' → (Q .ret ⟨e, h', nx', (l, ⟨re, [p, q], sa, bd, 2, x⟩) :: ls, 0⟩ ↔ R)) :
    ∀ (d k : Nat) (h : Heap) (nx : Nat), k + d = rows.length → I k h nx → fresh h nx → l < nx →
      (L_solve_equations_1_0 XX (.yld l) (.tree (rows.map Rw.v) nl tg) (.int .i64 rows.length) (.int .i64 k) h nx ((l, ⟨re, [p, q], sa, bd, 0, .norm⟩) :: ls) 0 Q ↔ R) := by
  intro d
  induction d with
  | zero =>
    intro k h nx hk hi hf hlx
    obtain rfl : k = rows.length := by omega
    rw [L_solve_equations_1_0_unf]
    simp only [b_solve_equations_1_0, bC, bD, bH, bZ, bV, bVD, Nat.add_assoc, seval, Int.lt_irrefl]
    exact q1 h nx hi hf hlx
  | succ d ih =>
    intro k h nx hk hi hf hlx
    have hlt : k < rows.length := by omega
    obtain ⟨r, hr, hd⟩ := get_some hlt
    have hx : (rows.map Rw.v)[k]? = some (.agg [.int .i64 r.mask, .tree (r.data.xs.map b8) r.data.nl r.data.tg]) := by rw [List.getElem?_map, hr]; rfl
    have hfm : fmB ⟨r.mask, ⟨r.data.xs, r.data.nl, r.data.tg⟩⟩ = fmB r := rfl
    rw [L_solve_equations_1_0_unf]
    simp (disch := omega) only [b_solve_equations_1_0, bC, bD, bH, bZ, bV, bVD, Nat.add_assoc, seval, lt_c hlt, hx, f_solve_formed, hfm]
    refine hy k r _ _ _ _ hr (hI k h nx _ (nx + 1) hi (fun j hj => ?_) (by omega)) (fun j hj => ?_) (by omega) (fun h' nx' i1 i2 i3 => ?_) (fun x h' nx' i1 i2 => ?_)
    · simp (disch := omega) only [bC, bD, bH, bZ, wpY', bV, bVD, seval]
    · simp (disch := omega) only [bC, bD, bH, bZ, wpY', bV, bVD, seval]; exact hf j (by omega)
    · simp (disch := omega) only [bC, bD, bH, bZ, bV, bVD, Nat.add_assoc, seval, wi_s hlt (by omega), L_solve_equations_1_0_eq]
      exact ih (k + 1) h' nx' (by omega) i1 i2 (by omega)
    · simp (disch := omega) only [bC, bD, bH, bZ, bV, bVD, Nat.add_assoc, seval]
      exact q2 x _ h' nx' i1 i2

/-! ### when rows are valid -/
def scanV : List Rw → Nat → Nat → Option Nat
  | [], L, _ => some L
  | r :: rs, L, last => if fmB r = true ∧ leadN r.mask.toNat < last then scanV rs (L ||| leadN r.mask.toNat) (leadN r.mask.toNat) else none
def redV (L : Nat) (l : List Rw) : Bool := l.all fun r => decide (r.mask.toNat &&& L = leadN r.mask.toNat)
def validI (l : List Rw) : Bool := match scanV l 0 65536 with
  | none => false
  | some L => redV L l
theorem fm_parts {r : Rw} (h : fmB r = true) : r.mask = (r.mask.toNat : Int) ∧ 1 ≤ r.mask.toNat ∧ r.mask.toNat < 65536 ∧ r.data.xs.length = 16 := by
  simp only [fmB, Bool.and_eq_true, decide_eq_true_eq] at h
  omega
theorem scanV_all : ∀ {l : List Rw} {L last M : Nat}, scanV l L last = some M → L < 65536 → (∀ r ∈ l, fmB r = true) ∧ M < 65536
  | [], L, last, M, h, hL => by cases h; exact ⟨by simp, hL⟩
  | r :: rs, L, last, M, h, hL => by
    rw [scanV] at h
    split at h
    · rename_i hr
      have hp := fm_parts hr.1
      obtain ⟨h1, h2⟩ := scanV_all h (show (L ||| leadN r.mask.toNat) < 2 ^ 16 from Nat.or_lt_two_pow hL (lead_lt hp.2.2.1))
      exact ⟨fun x hx => by rcases List.mem_cons.1 hx with rfl | hx; exact hr.1; exact h1 x hx, h2⟩
    · cases h
theorem valid_fm {l : List Rw} (h : validI l = true) : ∀ r ∈ l, fmB r = true := by
  unfold validI at h
  split at h
  · cases h
  · rename_i L hL; exact (scanV_all hL (by omega)).1
/-- Where the walk over the rows stands. -/
def SV1 (rows : List Rw) (k : Nat) (h : Heap) (nx : Nat) : Prop := ∃ L last : Nat, look h 0 = some [.bool false] ∧ look h 1 = some [.int .i64 L] ∧ look h 2 = some [.int .i64 last] ∧ 4 < nx ∧ L < 65536 ∧ last ≤ 65536 ∧ scanV rows 0 65536 = scanV (rows.drop k) L last
def SV2 (rows : List Rw) (L : Nat) (k : Nat) (h : Heap) (nx : Nat) : Prop := look h 0 = some [.bool false] ∧ look h 1 = some [.int .i64 L] ∧ 4 < nx ∧ redV L rows = redV L (rows.drop k)
theorem f_solve_Valid {rows : List Rw} {nl tg : Bool} (hl : rows.length < 4611686018427387904) : WpF XX .ro n_solve_Valid [.tree (rows.map Rw.v) nl tg] st K ↔ K (.bool (validI rows)) st := by
  rw [F_ro (mf := m_solve_Valid) rfl rfl]
  simp only [m_solve_Valid, bC, bW, bD, bZ, wpY', bV, bVD, seval, F_rw (X := XX) (f := n_solve_equations) (mf := m_solve_equations) rfl, m_solve_equations, g_solve_Valid_0, F_rw (X := XX) (f := n_solve_equations_1) (mf := m_solve_equations_1) rfl, m_solve_equations_1, L_solve_equations_1_0_eq]
  refine L_eqs hl (SV1 rows) (fun x h nx => x = .ret ∧ look h 0 = some [.bool false] ∧ validI rows = false) ?_ ?_ ?_ ?_ rows.length 0 _ 5 (by omega) ?_ ?_ (by omega)
  · rintro k h nx h' nx' ⟨L, last, a1, a2, a3, a4, a5, a6, a7⟩ hj hn
    exact ⟨L, last, by rw [hj 0 (by omega)]; exact a1, by rw [hj 1 (by omega)]; exact a2, by rw [hj 2 (by omega)]; exact a3, by omega, a5, a6, a7⟩
  · rintro k r h nx e K hr ⟨L, last, a1, a2, a3, a4, a5, a6, a7⟩ hf hn q1 q2
    obtain ⟨hlt, _⟩ := List.getElem?_eq_some_iff.1 hr
    obtain ⟨r', hr', hd⟩ := get_some hlt
    obtain rfl : r = r' := Option.some.inj (hr.symm.trans hr')
    have hfn := hf nx (Nat.le_refl _)
    rw [hd, scanV] at a7
    cases h1 : fmB r with
    | false =>
      simp (disch := omega) only [bC, bD, bH, bZ, wpY', bV, bVD, seval, a_solve_Valid_0, y_solve_Valid_0, bK, a1, a2, a3, hfn]
      refine q2 _ _ _ (by simp) ⟨rfl, ?_, ?_⟩
      · simp (disch := omega) only [bC, bD, bH, bZ, wpY', bV, bVD, seval, a1]
      · unfold validI; rw [a7, if_neg (by simp [h1])]
    | true =>
      have hp := fm_parts h1
      have hle := lead_lt hp.2.2.1
      have e0 : ∀ st K, WpF XX .ro n_solve_equation_leading [.agg (.int .i64 r.mask :: (Bk.of r.data.xs).l.map b8)] st K ↔ K (.int .i64 (leadN r.mask.toNat)) st := fun st K => by
        rw [hp.1]; exact f_solve_leading hp.2.2.1
      by_cases h2 : leadN r.mask.toNat < last
      · have h2' : ¬ (last : Int) ≤ (leadN r.mask.toNat : Int) := by omega
        have eo := or_n a5 hle
        simp (disch := omega) only [bC, bD, bH, bZ, wpY', bV, bVD, seval, a_solve_Valid_0, y_solve_Valid_0, bK, a1, a2, a3, hfn, e0, h2', eo]
        refine q1 _ _ ⟨L ||| leadN r.mask.toNat, leadN r.mask.toNat, ?_, ?_, ?_, by omega, Nat.or_lt_two_pow (n := 16) a5 hle, by omega, ?_⟩ ?_ (by omega)
        · simp (disch := omega) only [bC, bD, bH, bZ, wpY', bV, bVD, seval, a1]
        · simp (disch := omega) only [bC, bD, bH, bZ, wpY', bV, bVD, seval, a2]
        · simp (disch := omega) only [bC, bD, bH, bZ, wpY', bV, bVD, seval, a3]
        · rw [a7, if_pos ⟨h1, h2⟩]
        · intro j hj; simp (disch := omega) only [bC, bD, bH, bZ, wpY', bV, bVD, seval]; exact hf j (by omega)
      · have h2' : (last : Int) ≤ (leadN r.mask.toNat : Int) := by omega
        simp (disch := omega) only [bC, bD, bH, bZ, wpY', bV, bVD, seval, a_solve_Valid_0, y_solve_Valid_0, bK, a1, a2, a3, hfn, e0, h2']
        refine q2 _ _ _ (by simp) ⟨rfl, ?_, ?_⟩
        · simp (disch := omega) only [bC, bD, bH, bZ, wpY', bV, bVD, seval, a1]
        · unfold validI; rw [a7, if_neg (by simp [h2])]
  · rintro h nx ⟨L, last, a1, a2, a3, a4, a5, a6, a7⟩ hf hn
    rw [List.drop_length, scanV] at a7
    have hall := (scanV_all a7 (by omega)).1
    simp (disch := omega) only [bC, bD, bH, bZ, wpY', bV, bVD, seval, g_solve_Valid_1, m_solve_equations, F_rw (X := XX) (f := n_solve_equations) (mf := m_solve_equations) rfl, F_rw (X := XX) (f := n_solve_equations_1) (mf := m_solve_equations_1) rfl, m_solve_equations_1, L_solve_equations_1_0_eq]
    refine L_eqs hl (SV2 rows L) (fun x h nx => x = .ret ∧ look h 0 = some [.bool false] ∧ redV L rows = false) ?_ ?_ ?_ ?_ rows.length 0 _ (nx + 2) (by omega) ?_ ?_ (by omega)
    · rintro k h nx h' nx' ⟨b1, b2, b3, b4⟩ hj hn
      exact ⟨by rw [hj 0 (by omega)]; exact b1, by rw [hj 1 (by omega)]; exact b2, by omega, b4⟩
    · rintro k r h nx e K hr ⟨b1, b2, b3, b4⟩ hf hn q1 q2
      obtain ⟨hlt, _⟩ := List.getElem?_eq_some_iff.1 hr
      obtain ⟨r', hr', hd⟩ := get_some hlt
      obtain rfl : r = r' := Option.some.inj (hr.symm.trans hr')
      have hfn := hf nx (Nat.le_refl _)
      have h1 := hall r (List.mem_of_getElem? hr)
      have hp := fm_parts h1
      have e0 : ∀ st K, WpF XX .ro n_solve_equation_leading [.agg (.int .i64 r.mask :: (Bk.of r.data.xs).l.map b8)] st K ↔ K (.int .i64 (leadN r.mask.toNat)) st := fun st K => by
        rw [hp.1]; exact f_solve_leading hp.2.2.1
      have ea : andI .i64 r.mask (L : Int) = ((r.mask.toNat &&& L : Nat) : Int) := by rw [hp.1]; exact and_n hp.2.2.1 a5
      have hst : redV L (rows.drop k) = (decide (r.mask.toNat &&& L = leadN r.mask.toNat) && redV L (rows.drop (k + 1))) := by rw [hd]; rfl
      rw [hst] at b4
      by_cases h2 : r.mask.toNat &&& L = leadN r.mask.toNat
      · have h2' : ((r.mask.toNat &&& L : Nat) : Int) = (leadN r.mask.toNat : Int) := by omega
        simp (disch := omega) only [bC, bD, bH, bZ, wpY', bV, bVD, seval, a_solve_Valid_1, y_solve_Valid_1, bK, b1, b2, hfn, e0, ea, eq_true h2']
        refine q1 _ _ ⟨?_, ?_, by omega, ?_⟩ ?_ (by omega)
        · simp (disch := omega) only [bC, bD, bH, bZ, wpY', bV, bVD, seval, b1]
        · simp (disch := omega) only [bC, bD, bH, bZ, wpY', bV, bVD, seval, b2]
        · rw [b4, decide_eq_true h2, Bool.true_and]
        · intro j hj; simp (disch := omega) only [bC, bD, bH, bZ, wpY', bV, bVD, seval]; exact hf j (by omega)
      · have h2' : ¬ ((r.mask.toNat &&& L : Nat) : Int) = (leadN r.mask.toNat : Int) := by omega
        simp (disch := omega) only [bC, bD, bH, bZ, wpY', bV, bVD, seval, a_solve_Valid_1, y_solve_Valid_1, bK, b1, b2, hfn, e0, ea, h2']
        refine q2 _ _ _ (by simp) ⟨rfl, ?_, ?_⟩
        · simp (disch := omega) only [bC, bD, bH, bZ, wpY', bV, bVD, seval, b1]
        · rw [b4, decide_eq_false h2, Bool.false_and]
    · rintro h nx ⟨b1, b2, b3, b4⟩ hf hn
      simp (disch := omega) only [bC, bD, bH, bZ, wpY', bV, bVD, seval, b1, validI, a7]
      rw [b4, List.drop_length]
      rfl
    · rintro x e h nx hx ⟨rfl, b1, b2⟩
      simp (disch := omega) only [bC, bD, bH, bZ, wpY', bV, bVD, seval, b1, validI, a7, b2]
    · refine ⟨?_, ?_, by omega, rfl⟩
      · simp (disch := omega) only [bC, bD, bH, bZ, wpY', bV, bVD, seval, a1]
      · simp (disch := omega) only [bC, bD, bH, bZ, wpY', bV, bVD, seval, a2]
    · intro j hj; simp (disch := omega) only [bC, bD, bH, bZ, wpY', bV, bVD, seval]; exact hf j (by omega)
  · rintro x e h nx hx ⟨rfl, b1, b2⟩
    simp (disch := omega) only [bC, bD, bH, bZ, wpY', bV, bVD, seval, b1, b2]
  · exact ⟨0, 65536, by simp (disch := omega) only [bC, bD, bH, bZ, wpY', bV, bVD, seval], by simp (disch := omega) only [bC, bD, bH, bZ, wpY', bV, bVD, seval], by simp (disch := omega) only [bC, bD, bH, bZ, wpY', bV, bVD, seval], by omega, by omega, by omega, rfl⟩
  · intro j hj; simp (disch := omega) only [bC, bD, bH, bZ, wpY', bV, bVD, seval]
end
end Go.Proofs.YtfmbdcmjgnikiaaGreatDoor.Sm
namespace Go.Proofs.YtfmbdcmjgnikiaaGreatDoor.Sm
open Go Go.RowKit

theorem cB_int {k : IntKind} {n : Int} : cellB (.int k n) = true := rfl
theorem cB_bool {b : Bool} : cellB (.bool b) = true := rfl
theorem cB_tree {xs : List SV} {a b : Bool} : cellB (.tree xs a b) = true := rfl
theorem cB_own {a b c d : Nat} : cellB (.own a b c d) = true := rfl
theorem cB_ptr {a b : Nat} : cellB (.ptr a b) = true := rfl
theorem cB_fn {a : Nat} {b c : List SV} : cellB (.fn a b c) = true := rfl
theorem cB_b8 {c : UInt8} : cellB (b8 c) = true := rfl
theorem cB_Sl {α : Type} {f : α → SV} {s : Sl α} : cellB (Sl.v f s) = true := rfl
set_option linter.defProp false in
def bB := And.intro @cB_int (And.intro @cB_bool (And.intro @cB_tree (And.intro @cB_own (And.intro @cB_ptr (And.intro @cB_fn (And.intro @cB_b8 @cB_Sl))))))
/-- Values of sz cells each. -/
def CellS {α : Type} (sz : Nat) (f : α → SV) : Prop := sz ≠ 0 ∧ ∀ a, (cellsOf (f a)).length = sz ∧ (cellsOf (f a)).all pl1 = true ∧ (cellsOf (f a)).all cellB = true ∧ (sz = 1 → cellsOf (f a) = [f a]) ∧ (sz ≠ 1 → f a = .agg (cellsOf (f a)))
/-- A row that grows: not laid yet (where em says that it may be so), or an own row from lo up to hi. -/
def RowS {α : Type} (em : Bool) (sz : Nat) (f : α → SV) (h : Heap) (lo hi : Nat) (acc : List α) (v : SV) : Prop :=
  (acc = [] ∧ v = .tree [] true true ∧ em = true) ∨ ∃ id, v = .own id 0 acc.length sz ∧ look h id = some (flat (acc.map f)) ∧ lo ≤ id ∧ id < hi ∧ (em = true → acc ≠ [])
theorem RowS.mono {α : Type} {em : Bool} {sz : Nat} {f : α → SV} {h h' : Heap} {lo hi lo' hi' : Nat} {acc : List α} {v : SV} (r : RowS em sz f h lo hi acc v) (hj : ∀ j, lo ≤ j → j < hi → look h' j = look h j) (h1 : lo' ≤ lo) (h2 : hi ≤ hi') : RowS em sz f h' lo' hi' acc v := by
  rcases r with r | ⟨id, a1, a2, a3, a4, a5⟩
  · exact .inl r
  · exact .inr ⟨id, a1, by rw [hj id a3 a4]; exact a2, by omega, by omega, a5⟩
theorem RowS.cell {α : Type} {em : Bool} {sz : Nat} {f : α → SV} {h : Heap} {lo hi : Nat} {acc : List α} {v : SV} (r : RowS em sz f h lo hi acc v) : cellsOf v = [v] ∧ cellB v = true ∧ okV v = true := by
  rcases r with ⟨_, rfl, _⟩ | ⟨id, rfl, _⟩ <;> exact ⟨rfl, rfl, rfl⟩
section
variable {α : Type} {em : Bool} {sz : Nat} {f : α → SV} (H : CellS sz f)
include H
theorem flatS_len (l : List α) : (flat (l.map f)).length = l.length * sz := by
  induction l with
  | nil => simp [flat]
  | cons a l ih => rw [List.map_cons, flat_c, List.length_append, ih, (H.2 a).1, List.length_cons, Nat.succ_mul]; omega
theorem flatS_app (l m : List α) : flat ((l ++ m).map f) = flat (l.map f) ++ flat (m.map f) := by
  have _ := H
  simp [flat, List.flatMap_append]
theorem flatS_pl (l : List α) : (flat (l.map f)).all pl1 = true := by
  induction l with
  | nil => rfl
  | cons a l ih => rw [List.map_cons, flat_c, List.all_append, ih, (H.2 a).2.1]; rfl
theorem flatS_cB (l : List α) : (flat (l.map f)).all cellB = true := by
  induction l with
  | nil => rfl
  | cons a l ih => rw [List.map_cons, flat_c, List.all_append, ih, (H.2 a).2.2.1]; rfl
theorem flatS_sub (l : List α) : sub (flat (l.map f)) 0 (l.length * sz) = flat (l.map f) := sub_all' (flatS_len H l)
theorem lenS (l : List α) : (l.map f).all (fun v => (cellsOf v).length == sz) = true := by
  simp only [List.all_map, List.all_eq_true, Function.comp]
  intro a _
  simp [(H.2 a).1]
theorem elsS (l : List α) : els sz l.length (flat (l.map f)) = l.map f := by
  unfold els
  by_cases h1 : sz = 1
  · rw [if_pos h1]
    induction l with
    | nil => rfl
    | cons a l ih => rw [List.map_cons, flat_c, (H.2 a).2.2.2.1 h1, ih]; rfl
  · rw [if_neg h1]
    apply List.ext_getElem?
    intro j
    rw [List.getElem?_map, List.getElem?_map]
    by_cases hj : j < l.length
    · rw [List.getElem?_range hj, List.getElem?_eq_getElem hj]
      show some (SV.agg (sub (flat (l.map f)) (j * sz) sz)) = some (f l[j])
      congr 1
      rw [(H.2 l[j]).2.2.2.2 h1]
      congr 1
      have hs : l.map f = (l.take j).map f ++ (f l[j] :: (l.drop (j + 1)).map f) := by
        rw [← List.map_cons, ← List.drop_eq_getElem_cons hj, ← List.map_append, List.take_append_drop]
      have ht := flatS_len H (l.take j)
      rw [List.length_take, Nat.min_eq_left (by omega)] at ht
      have hf : flat (l.map f) = flat ((l.take j).map f) ++ (cellsOf (f l[j]) ++ flat ((l.drop (j + 1)).map f)) := by
        conv => lhs; rw [hs]
        simp [flat, List.flatMap_append]
      rw [hf, sub, List.drop_append_of_le_length (by omega), List.drop_eq_nil_of_le (by omega), List.nil_append, List.take_append_of_le_length (by rw [(H.2 _).1]; omega), List.take_of_length_le (by rw [(H.2 _).1]; omega)]
    · rw [List.getElem?_eq_none (by simp; omega), List.getElem?_eq_none (by omega)]; rfl
theorem rowOf_S {h : Heap} {id : Nat} {l : List α} (hh : look h id = some (flat (l.map f))) : rowOf (look h) id 0 l.length sz = some (.tree (l.map f) false false) := by
  unfold rowOf
  rw [hh]
  simp only [flatS_sub H, flatS_len H, flatS_pl H, elsS H, and_self, if_true]
theorem RowS.exp1 {h : Heap} {lo hi : Nat} {acc : List α} {v : SV} (r : RowS em sz f h lo hi acc v) : Sm.exp1 0 (look h) v = some (.tree (acc.map f) (decide (acc = []) && em) (decide (acc = []) && em)) := by
  rcases r with ⟨rfl, rfl, rfl⟩ | ⟨id, rfl, a2, a3, a4, a5⟩
  · rfl
  · rw [exp1_own, if_neg (by omega), rowOf_S H a2]
    have : (decide (acc = []) && em) = false := by
      cases em
      · simp
      · simp [a5 rfl]
    rw [this]
theorem RowS.exp2 {h : Heap} {lo hi : Nat} {acc : List α} {v : SV} (r : RowS em sz f h lo hi acc v) : Sm.exp2 0 (look h) v = some (.tree (acc.map f) (decide (acc = []) && em) (decide (acc = []) && em)) := by
  have := RowS.exp1 H r
  rcases r with ⟨rfl, rfl, rfl⟩ | ⟨id, rfl, a2, a3, a4, a5⟩
  · rfl
  · exact this
theorem RowS.expo {h : Heap} {lo hi : Nat} {acc : List α} {v : SV} (r : RowS em sz f h lo hi acc v) : Sm.expo 0 (look h) v = some (.tree (acc.map f) (decide (acc = []) && em) (decide (acc = []) && em)) := by
  have := RowS.exp1 H r
  rcases r with ⟨rfl, rfl, rfl⟩ | ⟨id, rfl, a2, a3, a4, a5⟩
  · rfl
  · exact this
theorem append_S {h : Heap} {lo hi nx : Nat} {acc bs : List α} {v : SV} {nl tg : Bool} {x y : Arg} {ρ : Arg → SV} (r : RowS em sz f h lo hi acc v) (hf : fresh h nx) (hhi : hi ≤ nx) (hb : bs ≠ []) (hn : acc.length + bs.length ≤ 4294967296) (hx : ρ x = v) (hy : ρ y = .tree (bs.map f) nl tg) :
    ∃ v' ms, evW 0 (look h) nx ρ (.append sz x y) = some (v', ms, nx + 1) ∧ RowS em sz f (appM h ms) nx (nx + 1) (acc ++ bs) v' ∧ fresh (appM h ms) (nx + 1) ∧ ∀ j, j < nx → (j < lo ∨ hi ≤ j) → look (appM h ms) j = look h j := by
  have hbl : ¬ bs.length = 0 := fun e => hb (List.length_eq_zero_iff.1 e)
  have hfn := hf nx (Nat.le_refl _)
  have hsrc : srcOf (look h) sz (ρ y) = some (flat (bs.map f), bs.length) := by
    rw [hy]; unfold srcOf; simp only [lenS H, if_true, List.length_map]
  rw [evW.eq_2]
  rw [hsrc]
  simp only [if_neg hbl, flatS_cB H, Bool.true_eq_false, if_false]
  rw [hx]
  rcases r with ⟨rfl, rfl, rfl⟩ | ⟨id, rfl, a2, a3, a4, a5⟩
  · refine ⟨.own nx 0 bs.length sz, [(nx, some (flat (bs.map f)))], ?_, ?_, ?_, ?_⟩
    · simp only [List.all_nil, List.length_nil, Nat.zero_add, true_and]
      rw [if_pos (by unfold LIM; simpa using hn)]
      rfl
    · refine .inr ⟨nx, rfl, ?_, Nat.le_refl _, by omega, fun _ => by simpa using hb⟩
      rw [appM_s, hfn]; simp only [Option.isSome_none, Bool.false_eq_true, if_false, appM_n, look_eq, List.nil_append]
    · intro j hj
      rw [appM_s, hfn]; simp only [Option.isSome_none, Bool.false_eq_true, if_false, appM_n]
      rw [look_ne (by omega)]; exact hf j (by omega)
    · intro j hj _
      rw [appM_s, hfn]; simp only [Option.isSome_none, Bool.false_eq_true, if_false, appM_n]
      rw [look_ne (by omega)]
  · have hfd : look (del h id) nx = none := by rw [look_del_ne (by omega)]; exact hfn
    refine ⟨.own nx 0 (acc.length + bs.length) sz, [(id, none), (nx, some (flat ((acc ++ bs).map f)))], ?_, ?_, ?_, ?_⟩
    · simp only [Nat.zero_le, and_self, if_true, a2]
      rw [if_pos ⟨by rw [flatS_sub H, flatS_len H], by unfold LIM; exact hn⟩, flatS_sub H, flatS_app H]
    · refine .inr ⟨nx, by rw [List.length_append], ?_, Nat.le_refl _, by omega, fun _ e => hb (List.append_eq_nil_iff.1 e).2⟩
      rw [appM_d, appM_s, hfd]; simp only [Option.isSome_none, Bool.false_eq_true, if_false, appM_n, look_eq]
    · intro j hj
      rw [appM_d, appM_s, hfd]; simp only [Option.isSome_none, Bool.false_eq_true, if_false, appM_n]
      rw [look_ne (by omega), look_del_ne (by omega)]; exact hf j (by omega)
    · intro j hj hjj
      rw [appM_d, appM_s, hfd]; simp only [Option.isSome_none, Bool.false_eq_true, if_false, appM_n]
      rw [look_ne (by omega), look_del_ne (by omega)]
variable {X : Cx} {R : Prop}
theorem wD_append {e : Env} {h : Heap} {lo hi nx : Nat} {ls : List (Nat × LRec)} {d : Option Nat} {is : List Ins} {rd : List Nat × List Nat} {sep : List (Nat × Nat)} {fps : List FP} {Q : St → Prop} {v : SV} {nl tg : Bool} {x y : Arg} (acc bs : List α) (r : RowS em sz f h lo hi acc v) (hf : fresh h nx) (hhi : hi ≤ nx) (hb : bs ≠ []) (hn : acc.length + bs.length ≤ 4294967296)
    (hx : argV X e x = v) (hy : argV X e y = .tree (bs.map f) nl tg)
    (q : ∀ v' h', RowS em sz f h' nx (nx + 1) (acc ++ bs) v' → fresh h' (nx + 1) → (∀ j, j < nx → (j < lo ∨ hi ≤ j) → look h' j = look h j) → (DrK X is sep (fps ++ [.rd rd.1 rd.2 nx (nx + 1)]) Q (putE ⟨e, h', nx + 1, ls, 0⟩ d v') ↔ R)) :
    wD X (evW 0 (look h) nx (argV X e) (.append sz x y)) ⟨e, h, nx, ls, 0⟩ d is rd sep fps Q ↔ R := by
  obtain ⟨v', ms, e1, e2, e3, e4⟩ := append_S H r hf hhi hb hn hx hy
  have hu : unused h nx (nx + 1) = true := by simp [unused, hf nx (Nat.le_refl _)]
  rw [e1, wD_v, hu]
  simp only [true_and]
  exact q v' _ e2 e3 e4
theorem wO_append {e : Env} {h : Heap} {lo hi nx : Nat} {ls : List (Nat × LRec)} {d : Option Nat} {is : List Ins} {Q : St → Prop} {v : SV} {nl tg : Bool} {x y : Arg} (acc bs : List α) (r : RowS em sz f h lo hi acc v) (hf : fresh h nx) (hhi : hi ≤ nx) (hb : bs ≠ []) (hn : acc.length + bs.length ≤ 4294967296)
    (hx : argV X e x = v) (hy : argV X e y = .tree (bs.map f) nl tg)
    (q : ∀ v' h', RowS em sz f h' nx (nx + 1) (acc ++ bs) v' → fresh h' (nx + 1) → (∀ j, j < nx → (j < lo ∨ hi ≤ j) → look h' j = look h j) → (WpOps X is (putE ⟨e, h', nx + 1, ls, 0⟩ d v') Q ↔ R)) :
    wO X (evW 0 (look h) nx (argV X e) (.append sz x y)) ⟨e, h, nx, ls, 0⟩ d is Q ↔ R := by
  obtain ⟨v', ms, e1, e2, e3, e4⟩ := append_S H r hf hhi hb hn hx hy
  rw [e1, wO_v]
  exact q v' _ e2 e3 e4
end
theorem Cell1.S {α : Type} {f : α → SV} (h : Cell1 f) : CellS 1 f := ⟨by omega, fun a => ⟨by rw [(h a).1]; rfl, by rw [(h a).1]; simp [(h a).2.1], by rw [(h a).1]; simp [(h a).2.2.1], fun _ => (h a).1, fun e => absurd rfl e⟩⟩
theorem Rw.S : CellS 2 Rw.v := ⟨by omega, fun a => ⟨rfl, rfl, rfl, fun e => by omega, fun _ => rfl⟩⟩
end Go.Proofs.YtfmbdcmjgnikiaaGreatDoor.Sm
namespace Go.Proofs.YtfmbdcmjgnikiaaGreatDoor.Sm
open Go Go.RowKit

structure En where
  m : Nat
  b : Bk
def En.c (e : En) : List SV := .int .i64 e.m :: e.b.l.map b8
def enR (r : Rw) : En := ⟨r.mask.toNat, Bk.of r.data.xs⟩
def rowE (e : En) : Rw := ⟨e.m, ⟨e.b.l, false, false⟩⟩
def plusE (x e : En) : En := ⟨x.m ^^^ e.m, x.b.xor e.b⟩
def stepE (x e : En) : En := if x.m &&& leadN e.m ≠ 0 then plusE x e else x
def redE (l : List En) (x : En) : En := l.foldl stepE x
def elimE (e r : En) : En := if r.m &&& leadN e.m ≠ 0 then plusE r e else r
def insE (e : En) : List En → Bool → List En
  | [], p => if p then [] else [e]
  | r :: rs, p => if p = false ∧ leadN r.m < leadN e.m then e :: elimE e r :: insE e rs true else elimE e r :: insE e rs p
def slR {α : Type} (l : List α) : Sl α := ⟨l, decide (l = []), decide (l = [])⟩
/-- The rows behind one more equation, whether it said something new, and the error. -/
def addR (rows : List Rw) (x : Rw) : Sl Rw × Bool × Int :=
  if validI rows = true ∧ fmB x = true then
    let e := redE (rows.map enR) (enR x)
    if e.m = 0 then (if e.b.l = Bk.zero.l then (slR ((rows.map enR).map rowE), false, 0) else (⟨[], true, true⟩, false, 12))
    else (slR ((insE e (rows.map enR) false).map rowE), true, 0)
  else (⟨[], true, true⟩, false, 1)
def solvedI (rows : List Rw) (i : Nat) : Option Bk := if validI rows = true then ((rows.map enR).find? fun e => decide (e.m = 2 ^ i)).map En.b else none

theorem stepE_lt {x e : En} (hx : x.m < 65536) (he : e.m < 65536) : (stepE x e).m < 65536 := by
  unfold stepE plusE
  split
  · exact Nat.xor_lt_two_pow (n := 16) hx he
  · exact hx
theorem redE_lt : ∀ {l : List En} {x : En}, x.m < 65536 → (∀ e ∈ l, e.m < 65536) → (redE l x).m < 65536
  | [], x, hx, _ => hx
  | e :: l, x, hx, hl => redE_lt (l := l) (stepE_lt hx (hl e List.mem_cons_self)) fun e he => hl e (List.mem_cons_of_mem _ he)
theorem enR_m {r : Rw} (h : fmB r = true) : r.mask = ((enR r).m : Int) ∧ (enR r).m < 65536 ∧ 1 ≤ (enR r).m := by
  have := fm_parts h
  exact ⟨this.1, this.2.2.1, this.2.1⟩
theorem bk_en (r : Rw) : Bk.of r.data.xs = (enR r).b := rfl
theorem eqC17 {a : Int} {x : Bk} : eqCells (.int .i64 a :: x.l.map b8) Zi1y16 = some (decide (a = 0 ∧ x.l = Bk.zero.l)) := by
  have key : ∀ (l m : List UInt8), l.length = m.length → eqCells (l.map b8) (m.map b8) = some (decide (l = m)) := by
    intro l
    induction l with
    | nil => intro m h; cases m with | nil => rfl | cons => simp at h
    | cons c l ih =>
      intro m h
      cases m with
      | nil => simp at h
      | cons d m =>
        simp only [List.map_cons, b8_eq, eqCells, if_true]
        by_cases hcd : c = d
        · subst hcd
          simp only [beq_self_eq_true, if_true]
          rw [ih m (by simpa using h)]
          simp
        · rw [if_neg (by simp [b8_inj, hcd])]
          simp [hcd]
  have hz : Zi1y16 = .int .i64 0 :: Bk.zero.l.map b8 := rfl
  rw [hz, eqCells, if_pos rfl, key _ _ (by rw [x.h, Bk.zero.h])]
  by_cases ha : a = 0
  · subst ha; simp
  · rw [if_neg (by simpa using ha)]; simp [ha]
section
variable {ls : List (Nat × LRec)} {Q : Ex → St → Prop} {R : Prop} {st : St} {K : SV → St → Prop}
theorem en_plain (e : En) : plain (.agg (.int .i64 e.m :: e.b.l.map b8)) = true := bk_plain _ rfl _
def RV1 (rows : List Rw) (x : En) (k : Nat) (h : Heap) (nx : Nat) : Prop := ∃ y : En, look h 0 = some (.int .i64 y.m :: y.b.l.map b8) ∧ look h 1 = some Zi1y16 ∧ 3 < nx ∧ y.m < 65536 ∧ redE (rows.map enR) x = redE ((rows.drop k).map enR) y
theorem f_solve_reduce {rows : List Rw} {nl tg : Bool} {x : En} (hl : rows.length < 4611686018427387904) (hv : ∀ r ∈ rows, fmB r = true) (hx : x.m < 65536) :
    WpF XX .ro n_solve_reduce [.tree (rows.map Rw.v) nl tg, .agg (.int .i64 x.m :: x.b.l.map b8)] st K ↔ K (.agg (.int .i64 (redE (rows.map enR) x).m :: (redE (rows.map enR) x).b.l.map b8)) st := by
  rw [F_ro (mf := m_solve_reduce) rfl (by rw [List.all_cons, List.all_cons, en_plain]; rfl)]
  simp only [m_solve_reduce, bC, bW, bD, bZ, wpY', bV, bVD, seval, F_rw (X := XX) (f := n_solve_equations) (mf := m_solve_equations) rfl, m_solve_equations, g_solve_reduce_0, F_rw (X := XX) (f := n_solve_equations_1) (mf := m_solve_equations_1) rfl, m_solve_equations_1, L_solve_equations_1_0_eq]
  refine L_eqs hl (RV1 rows x) (fun x h nx => False) ?_ ?_ ?_ ?_ rows.length 0 _ 4 (by omega) ?_ ?_ (by omega)
  · rintro k h nx h' nx' ⟨y, a1, a2, a3, a4, a5⟩ hj hn
    exact ⟨y, by rw [hj 0 (by omega)]; exact a1, by rw [hj 1 (by omega)]; exact a2, by omega, a4, a5⟩
  · rintro k r h nx e K hr ⟨y, a1, a2, a3, a4, a5⟩ hf hn q1 q2
    obtain ⟨hlt, _⟩ := List.getElem?_eq_some_iff.1 hr
    obtain ⟨r', hr', hd⟩ := get_some hlt
    obtain rfl : r = r' := Option.some.inj (hr.symm.trans hr')
    have hfn := hf nx (Nat.le_refl _)
    obtain ⟨m1, m2, m3⟩ := enR_m (hv r (List.mem_of_getElem? hr))
    have ea := and_n a4 (lead_lt m2)
    have ex := xor_n a4 m2
    rw [hd, List.map_cons] at a5
    have a5 : redE (rows.map enR) x = redE ((rows.drop (k + 1)).map enR) (stepE y (enR r)) := a5
    rw [bk_en, m1]
    by_cases h1 : y.m &&& leadN (enR r).m = 0
    · have h1' : ((y.m &&& leadN (enR r).m : Nat) : Int) = 0 := by omega
      simp (disch := omega) only [bC, bD, bH, bZ, wpY', bV, bVD, seval, a_solve_reduce_0, y_solve_reduce_0, bK, a1, a2, hfn, f_solve_leading m2, ea, eq_true h1']
      refine q1 _ _ ⟨y, ?_, ?_, by omega, a4, ?_⟩ ?_ (by omega)
      · simp (disch := omega) only [bC, bD, bH, bZ, wpY', bV, bVD, seval, a1]
      · simp (disch := omega) only [bC, bD, bH, bZ, wpY', bV, bVD, seval, a2]
      · rw [a5, stepE, if_neg (by simp [h1])]
      · intro j hj; simp (disch := omega) only [bC, bD, bH, bZ, wpY', bV, bVD, seval]; exact hf j (by omega)
    · have h1' : ¬ ((y.m &&& leadN (enR r).m : Nat) : Int) = 0 := by omega
      simp (disch := omega) only [bC, bD, bH, bZ, wpY', bV, bVD, seval, a_solve_reduce_0, y_solve_reduce_0, bK, a1, a2, hfn, f_solve_leading m2, ea, h1', ex, f_solve_plus]
      refine q1 _ _ ⟨plusE y (enR r), ?_, ?_, by omega, Nat.xor_lt_two_pow (n := 16) a4 m2, ?_⟩ ?_ (by omega)
      · simp (disch := omega) only [bC, bD, bH, bZ, wpY', bV, bVD, seval, a1, plusE]
      · simp (disch := omega) only [bC, bD, bH, bZ, wpY', bV, bVD, seval, a2]
      · rw [a5, stepE, if_pos h1]
      · intro j hj; simp (disch := omega) only [bC, bD, bH, bZ, wpY', bV, bVD, seval]; exact hf j (by omega)
  · rintro h nx ⟨y, a1, a2, a3, a4, a5⟩ hf hn
    rw [List.drop_length] at a5
    have a5 : redE (rows.map enR) x = y := a5
    simp (disch := omega) only [bC, bD, bH, bZ, wpY', bV, bVD, seval, a1, a2, a5, bK]
  · rintro x e h nx hx hF; exact hF.elim
  · exact ⟨x, by simp (disch := omega) only [bC, bD, bH, bZ, wpY', bV, bVD, seval], by simp (disch := omega) only [bC, bD, bH, bZ, wpY', bV, bVD, seval], by omega, hx, rfl⟩
  · intro j hj; simp (disch := omega) only [bC, bD, bH, bZ, wpY', bV, bVD, seval]
end
end Go.Proofs.YtfmbdcmjgnikiaaGreatDoor.Sm
namespace Go.Proofs.YtfmbdcmjgnikiaaGreatDoor.Sm
open Go Go.RowKit

def optB : Option Bk → SV
  | none => .tree [] true true
  | some b => .tree (b.l.map b8) false false
section
variable {ls : List (Nat × LRec)} {Q : Ex → St → Prop} {R : Prop} {st : St} {K : SV → St → Prop}
def RV2 (rows : List Rw) (i : Nat) (k : Nat) (h : Heap) (nx : Nat) : Prop := look h 0 = some [.int .i64 i] ∧ look h 1 = some [.tree [] true true] ∧ 3 < nx ∧ (rows.map enR).find? (fun e => decide (e.m = 2 ^ i)) = ((rows.drop k).map enR).find? (fun e => decide (e.m = 2 ^ i))
theorem f_solve_Solved {rows : List Rw} {nl tg : Bool} {i : Nat} (hl : rows.length < 4611686018427387904) (hi : i < 16) :
    WpF XX .ro n_solve_Solved [.tree (rows.map Rw.v) nl tg, .int .i64 i] st K ↔ K (.tup [optB (solvedI rows i), .bool (solvedI rows i).isSome]) st := by
  rw [F_ro (mf := m_solve_Solved) rfl rfl]
  have i0 : ¬ (i : Int) < 0 := by omega
  have i16 : ¬ (16 : Int) ≤ i := by omega
  cases hv : validI rows with
  | false => simp only [m_solve_Solved, bC, bW, bD, bZ, wpY', bV, bVD, seval, f_solve_Valid hl, i0, i16, hv, solvedI, optB]
  | true =>
    have hmin : min i IntKind.i64.bits = i := Nat.min_eq_left (by simp [IntKind.bits]; omega)
    have hb : (2 : Nat) ^ i ≤ 2 ^ 16 := Nat.pow_le_pow_right (by omega) (by omega)
    have hsh : IntKind.i64.wrap (1 * 2 ^ i) = ((2 ^ i : Nat) : Int) := by
      have e : (1 * 2 ^ i : Int) = ((2 ^ i : Nat) : Int) := by simp
      rw [e]; generalize 2 ^ i = p at hb; exact wi _ (by omega) (by omega)
    have hfm := valid_fm hv
    simp only [m_solve_Solved, bC, bW, bD, bZ, wpY', bV, bVD, seval, f_solve_Valid hl, i0, i16, hv, F_rw (X := XX) (f := n_solve_equations) (mf := m_solve_equations) rfl, m_solve_equations, g_solve_Solved_0, F_rw (X := XX) (f := n_solve_equations_1) (mf := m_solve_equations_1) rfl, m_solve_equations_1, L_solve_equations_1_0_eq]
    refine L_eqs hl (RV2 rows i) (fun x h nx => x = .exit 0 ∧ 3 < nx ∧ ∃ b, look h 1 = some [.tree (b.l.map b8) false false] ∧ solvedI rows i = some b) ?_ ?_ ?_ ?_ rows.length 0 _ 4 (by omega) ?_ ?_ (by omega)
    · rintro k h nx h' nx' ⟨a1, a2, a3, a4⟩ hj hn
      exact ⟨by rw [hj 0 (by omega)]; exact a1, by rw [hj 1 (by omega)]; exact a2, by omega, a4⟩
    · rintro k r h nx e K hr ⟨a1, a2, a3, a4⟩ hf hn q1 q2
      obtain ⟨hlt, _⟩ := List.getElem?_eq_some_iff.1 hr
      obtain ⟨r', hr', hd⟩ := get_some hlt
      obtain rfl : r = r' := Option.some.inj (hr.symm.trans hr')
      have hfn := hf nx (Nat.le_refl _)
      obtain ⟨m1, m2, m3⟩ := enR_m (hfm r (List.mem_of_getElem? hr))
      rw [hd, List.map_cons, List.find?_cons] at a4
      rw [bk_en, m1]
      by_cases h1 : (enR r).m = 2 ^ i
      · have h1' : ((enR r).m : Int) = ((2 ^ i : Nat) : Int) := by rw [h1]
        simp (disch := omega) only [bC, bD, bH, bZ, wpY', bV, bVD, seval, a_solve_Solved_0, y_solve_Solved_0, bK, a1, a2, hfn, i0, hmin, hsh, eq_true h1', f_solve_row]
        refine q2 _ _ _ (by simp) ⟨rfl, by omega, (enR r).b, ?_, ?_⟩
        · simp (disch := omega) only [bC, bD, bH, bZ, wpY', bV, bVD, seval, a2]
        · rw [solvedI, if_pos hv, a4, decide_eq_true h1]; rfl
      · have h1' : ¬ ((enR r).m : Int) = ((2 ^ i : Nat) : Int) := fun e => h1 (by exact_mod_cast e)
        simp (disch := omega) only [bC, bD, bH, bZ, wpY', bV, bVD, seval, a_solve_Solved_0, y_solve_Solved_0, bK, a1, a2, hfn, i0, hmin, hsh, h1']
        refine q1 _ _ ⟨?_, ?_, by omega, ?_⟩ ?_ (by omega)
        · simp (disch := omega) only [bC, bD, bH, bZ, wpY', bV, bVD, seval, a1]
        · simp (disch := omega) only [bC, bD, bH, bZ, wpY', bV, bVD, seval, a2]
        · rw [a4, decide_eq_false h1]
        · intro j hj; simp (disch := omega) only [bC, bD, bH, bZ, wpY', bV, bVD, seval]; exact hf j (by omega)
    · rintro h nx ⟨a1, a2, a3, a4⟩ hf hn
      have e : solvedI rows i = none := by
        rw [List.drop_length] at a4
        rw [solvedI, if_pos hv, a4]; rfl
      simp (disch := omega) only [bC, bD, bH, bZ, wpY', bV, bVD, seval, a1, a2, e, optB]
    · rintro x e h nx hx ⟨rfl, hn, b, b1, b2⟩
      simp (disch := omega) only [bC, bD, bH, bZ, wpY', bV, bVD, seval, b1, b2, optB]
    · exact ⟨by simp (disch := omega) only [bC, bD, bH, bZ, wpY', bV, bVD, seval], by simp (disch := omega) only [bC, bD, bH, bZ, wpY', bV, bVD, seval], by omega, rfl⟩
    · intro j hj; simp (disch := omega) only [bC, bD, bH, bZ, wpY', bV, bVD, seval]

/-! ### one more equation -/
def RV3 (rows : List Rw) (e : En) (k : Nat) (h : Heap) (nx : Nat) : Prop := ∃ v, look h 2 = some [v] ∧ look h 1 = some (.int .i64 e.m :: e.b.l.map b8) ∧ 4 < nx ∧ RowS true 2 Rw.v h 5 nx (((rows.take k).map enR).map rowE) v
def RV4 (rows : List Rw) (e : En) (k : Nat) (h : Heap) (nx : Nat) : Prop := ∃ (v : SV) (acc : List En) (p : Bool), look h 2 = some [v] ∧ look h 1 = some (.int .i64 e.m :: e.b.l.map b8) ∧ look h 3 = some [.bool p] ∧ 5 < nx ∧ RowS true 2 Rw.v h 6 nx (acc.map rowE) v ∧ acc.length ≤ 2 * k ∧ insE e (rows.map enR) false = acc ++ insE e ((rows.drop k).map enR) p
theorem elim_lt {e r : En} (he : e.m < 65536) (hr : r.m < 65536) : (elimE e r).m < 65536 := by
  unfold elimE plusE
  split
  · exact Nat.xor_lt_two_pow (n := 16) hr he
  · exact hr
set_option maxHeartbeats 2000000 in
theorem f_solve_Add {rows : List Rw} {nl tg : Bool} {x : Rw} (hl : rows.length ≤ 1000) :
    WpF XX .ro n_solve_Add [.tree (rows.map Rw.v) nl tg, .agg [.int .i64 x.mask, .tree (x.data.xs.map b8) x.data.nl x.data.tg]] st K ↔
    K (.tup [(addR rows x).1.v Rw.v, .bool (addR rows x).2.1, .int .i64 (addR rows x).2.2]) st := by
  rw [F_ro (mf := m_solve_Add) rfl rfl]
  have hfm : fmB ⟨x.mask, ⟨x.data.xs, x.data.nl, x.data.tg⟩⟩ = fmB x := rfl
  have hll : rows.length < 4611686018427387904 := by omega
  unfold addR
  cases hv : validI rows with
  | false => simp only [m_solve_Add, bC, bW, bD, bZ, wpY', bV, bVD, seval, f_solve_formed, f_solve_Valid hll, bK, hv, hfm, Sl.v]
  | true =>
    cases hx : fmB x with
    | false => simp only [m_solve_Add, bC, bW, bD, bZ, wpY', bV, bVD, seval, f_solve_formed, f_solve_Valid hll, bK, hv, hfm, hx, Sl.v]
    | true =>
      have hfr := valid_fm hv
      obtain ⟨x1, x2, x3⟩ := enR_m hx
      have hrows : ∀ e ∈ rows.map enR, e.m < 65536 := fun e he => by
        obtain ⟨r, hr, rfl⟩ := List.mem_map.1 he
        exact (enR_m (hfr r hr)).2.1
      have he := redE_lt x2 hrows
      have er := fun st K => f_solve_reduce (st := st) (K := K) (nl := nl) (tg := tg) hll hfr x2
      rw [← bk_en x, ← x1] at er
      simp only [m_solve_Add, bC, bW, bD, bZ, wpY', bV, bVD, seval, f_solve_formed, f_solve_Valid hll, bK, hv, hfm, hx, er]
      generalize redE (rows.map enR) (enR x) = e at he
      have hq := @eqC17
      simp only [Zi1y16_eq] at hq
      have heq : ∀ a : En, By.v ⟨a.b.l, false, false⟩ = .tree (a.b.l.map b8) false false := fun _ => rfl
      by_cases h0 : e.m = 0
      · by_cases hb : e.b.l = Bk.zero.l
        · simp only [bC, bW, bD, bZ, wpY', bV, bVD, seval, h0, Int.natCast_zero, hq, eq_true hb, bK, F_rw (X := XX) (f := n_solve_equations) (mf := m_solve_equations) rfl, m_solve_equations, g_solve_Add_0, F_rw (X := XX) (f := n_solve_equations_1) (mf := m_solve_equations_1) rfl, m_solve_equations_1, L_solve_equations_1_0_eq]
          refine L_eqs hll (RV3 rows e) (fun x h nx => False) ?_ ?_ ?_ ?_ rows.length 0 _ 5 (by omega) ?_ ?_ (by omega)
          · rintro k h nx h' nx' ⟨v, a1, a2, a3, a4⟩ hj hn
            exact ⟨v, by rw [hj 2 (by omega)]; exact a1, by rw [hj 1 (by omega)]; exact a2, by omega, a4.mono (fun j _ hj' => hj j hj') (Nat.le_refl _) hn⟩
          · rintro k r h nx e0 K hr ⟨v, a1, a2, a3, a4⟩ hf hn q1 q2
            obtain ⟨hlt, _⟩ := List.getElem?_eq_some_iff.1 hr
            have ht : rows.take (k + 1) = rows.take k ++ [r] := by rw [List.take_add_one, hr]; rfl
            have hfn := hf nx (Nat.le_refl _)
            have hlk : (((rows.take k).map enR).map rowE).length = k := by simp; omega
            obtain ⟨m1, m2, m3⟩ := enR_m (hfr r (List.mem_of_getElem? hr))
            rw [bk_en, m1]
            simp (disch := omega) only [bC, bD, bH, bZ, wpY', bVA, bVD, bB, seval, a_solve_Add_0, y_solve_Add_0, bK, a1, a2, hfn, f_solve_row]
            refine wD_append Rw.S (((rows.take k).map enR).map rowE) [rowE (enR r)] (lo := 5) (hi := nx) (v := v) (a4.mono (fun j _ hj => ?_) (Nat.le_refl _) (Nat.le_refl _)) (fun j hj => ?_) (by omega) (by simp) (by rw [hlk]; simp; omega) rfl rfl fun v' h' i1 i2 i3 => ?_
            · simp (disch := omega) only [bC, bD, bH, bZ, wpY', bV, bVD, seval]
            · simp (disch := omega) only [bC, bD, bH, bZ, wpY', bV, bVD, seval]; exact hf j (by omega)
            · have j1 := i3 1 (by omega) (by omega)
              have j2 := i3 2 (by omega) (by omega)
              simp (disch := omega) only [bC, bD, bH, bZ, wpY', bV, bVD, seval, a1, a2] at j1 j2
              obtain ⟨c1, c2, c3⟩ := i1.cell
              simp (disch := omega) only [bC, bD, bH, bZ, wpY', bVA, bVD, bB, seval, j1, j2, bK, c1, c2]
              refine q1 _ _ ⟨v', ?_, ?_, by omega, ?_⟩ ?_ (by omega)
              · simp (disch := omega) only [bC, bD, bH, bZ, wpY', bV, bVD, seval, j2]
              · simp (disch := omega) only [bC, bD, bH, bZ, wpY', bV, bVD, seval, j1]
              · rw [ht, List.map_append, List.map_append]
                refine RowS.mono i1 (fun j h1 h2 => ?_) (by omega) (by omega)
                simp (disch := omega) only [bC, bD, bH, bZ, wpY', bV, bVD, seval]
              · intro j hj; simp (disch := omega) only [bC, bD, bH, bZ, wpY', bV, bVD, seval]; exact i2 j (by omega)
          · rintro h nx ⟨v, a1, a2, a3, a4⟩ hf hn
            rw [List.take_length] at a4
            have ee := RowS.exp2 Rw.S a4
            rw [Bool.and_true] at ee
            simp (disch := omega) only [bC, bD, bH, bZ, wpY', bVA, bVD, bB, seval, a1, ee, Sl.v, slR]
          · rintro x e h nx hx hF; exact hF.elim
          · refine ⟨.tree [] true true, by simp (disch := omega) only [bC, bD, bH, bZ, wpY', bV, bVD, seval], by simp (disch := omega) only [bC, bD, bH, bZ, wpY', bV, bVD, seval, h0, Int.natCast_zero], by omega, .inl ⟨rfl, rfl, rfl⟩⟩
          · intro j hj; simp (disch := omega) only [bC, bD, bH, bZ, wpY', bV, bVD, seval]
        · simp only [bC, bW, bD, bZ, wpY', bV, bVD, seval, h0, Int.natCast_zero, hq, hb, bK, Sl.v]
      · have h0' : ¬ (e.m : Int) = 0 := by omega
        simp only [bC, bW, bD, bZ, wpY', bV, bVD, seval, h0, h0', hq, bK, F_rw (X := XX) (f := n_solve_equations) (mf := m_solve_equations) rfl, m_solve_equations, g_solve_Add_1, F_rw (X := XX) (f := n_solve_equations_1) (mf := m_solve_equations_1) rfl, m_solve_equations_1, L_solve_equations_1_0_eq]
        refine L_eqs hll (RV4 rows e) (fun x h nx => False) ?_ ?_ ?_ ?_ rows.length 0 _ 6 (by omega) ?_ ?_ (by omega)
        · rintro k h nx h' nx' ⟨v, acc, p, a1, a2, a3, a4, a5, a6, a7⟩ hj hn
          exact ⟨v, acc, p, by rw [hj 2 (by omega)]; exact a1, by rw [hj 1 (by omega)]; exact a2, by rw [hj 3 (by omega)]; exact a3, by omega, a5.mono (fun j _ hj' => hj j hj') (Nat.le_refl _) hn, a6, a7⟩
        · rintro k r h nx e0 K hr ⟨v, acc, p, a1, a2, a3, a4, a5, a6, a7⟩ hf hn q1 q2
          obtain ⟨hlt, _⟩ := List.getElem?_eq_some_iff.1 hr
          obtain ⟨r', hr', hd⟩ := get_some hlt
          obtain rfl : r = r' := Option.some.inj (hr.symm.trans hr')
          have hfn := hf nx (Nat.le_refl _)
          obtain ⟨m1, m2, m3⟩ := enR_m (hfr r (List.mem_of_getElem? hr))
          rw [hd, List.map_cons, insE] at a7
          rw [bk_en, m1]
          have el := elim_lt he m2
          have ea := and_n m2 (lead_lt he)
          have ex := xor_n m2 he
          by_cases h1 : (enR r).m &&& leadN e.m = 0
          · have h1' : ((( enR r).m &&& leadN e.m : Nat) : Int) = 0 := by omega
            cases p with
            | true =>
              rw [if_neg (by simp)] at a7
              simp (disch := omega) only [bC, bD, bH, bZ, wpY', bVA, bVD, bB, seval, a_solve_Add_1, y_solve_Add_1, bK, a1, a2, a3, hfn, f_solve_row, f_solve_leading m2, f_solve_leading he, ea, eq_true h1']
              refine wD_append Rw.S (acc.map rowE) [rowE (enR r)] (lo := 6) (hi := nx) (v := v) (a5.mono (fun j _ hj => ?_) (Nat.le_refl _) (Nat.le_refl _)) (fun j hj => ?_) (by omega) (by simp) (by simp; omega) rfl rfl fun v1 g1 i1 i2 i3 => ?_
              · simp (disch := omega) only [bC, bD, bH, bZ, wpY', bV, bVD, seval]
              · simp (disch := omega) only [bC, bD, bH, bZ, wpY', bV, bVD, seval]; exact hf j (by omega)
              have j1 := i3 1 (by omega) (by omega)
              have j2 := i3 2 (by omega) (by omega)
              have j3 := i3 3 (by omega) (by omega)
              simp (disch := omega) only [bC, bD, bH, bZ, wpY', bV, bVD, seval, a1, a2, a3] at j1 j2 j3
              obtain ⟨c1, c2, _⟩ := i1.cell
              simp (disch := omega) only [bC, bD, bH, bZ, wpY', bVA, bVD, bB, seval, bK, j1, j2, j3, c1, c2]
              refine q1 _ _ ⟨v1, acc ++ [enR r], true, ?_, ?_, ?_, by omega, ?_, by simp; omega, ?_⟩ ?_ (by omega)
              · simp (disch := omega) only [bC, bD, bH, bZ, wpY', bV, bVD, seval, j2]
              · simp (disch := omega) only [bC, bD, bH, bZ, wpY', bV, bVD, seval, j1]
              · simp (disch := omega) only [bC, bD, bH, bZ, wpY', bV, bVD, seval, j3]
              · rw [show (acc ++ [enR r]).map rowE = acc.map rowE ++ [rowE (enR r)] from by simp]
                refine RowS.mono i1 (fun j h1 h2 => ?_) (by omega) (by omega)
                simp (disch := omega) only [bC, bD, bH, bZ, wpY', bV, bVD, seval]
              · rw [a7]; simp [elimE, h1]
              · intro j hj; simp (disch := omega) only [bC, bD, bH, bZ, wpY', bV, bVD, seval]; exact i2 j (by omega)
            | false =>
              by_cases hlt2 : leadN (enR r).m < leadN e.m
              · rw [if_pos ⟨rfl, hlt2⟩] at a7
                simp (disch := omega) only [bC, bD, bH, bZ, wpY', bVA, bVD, bB, seval, a_solve_Add_1, y_solve_Add_1, bK, a1, a2, a3, hfn, f_solve_row, f_solve_leading m2, f_solve_leading he, ea, lt_c hlt2, eq_true h1']
                refine wD_append Rw.S (acc.map rowE) [rowE e] (lo := 6) (hi := nx) (v := v) (a5.mono (fun j _ hj => ?_) (Nat.le_refl _) (Nat.le_refl _)) (fun j hj => ?_) (by omega) (by simp) (by simp; omega) rfl rfl fun v1 g1 i1 i2 i3 => ?_
                · simp (disch := omega) only [bC, bD, bH, bZ, wpY', bV, bVD, seval]
                · simp (disch := omega) only [bC, bD, bH, bZ, wpY', bV, bVD, seval]; exact hf j (by omega)
                have j1 := i3 1 (by omega) (by omega)
                have j2 := i3 2 (by omega) (by omega)
                have j3 := i3 3 (by omega) (by omega)
                have j4 := i3 nx (by omega) (by omega)
                simp (disch := omega) only [bC, bD, bH, bZ, wpY', bV, bVD, seval, a1, a2, a3] at j1 j2 j3 j4
                obtain ⟨c1, c2, _⟩ := i1.cell
                have hfn1 := i2 (nx + 2) (by omega)
                simp (disch := omega) only [bC, bD, bH, bZ, wpY', bVA, bVD, bB, seval, bK, j1, j2, j3, j4, hfn1, c1, c2, f_solve_row, Nat.add_assoc, f_solve_leading m2, f_solve_leading he, ea, lt_c hlt2, eq_true h1']
                refine wD_append Rw.S (acc.map rowE ++ [rowE e]) [rowE (enR r)] (lo := nx + 1) (hi := nx + 2) (v := v1) (i1.mono (fun j _ hj => ?_) (Nat.le_refl _) (Nat.le_refl _)) (fun j hj => ?_) (by omega) (by simp) (by simp; omega) rfl rfl fun v2 g2 k1 k2 k3 => ?_
                · simp (disch := omega) only [bC, bD, bH, bZ, wpY', bV, bVD, seval]
                · simp (disch := omega) only [bC, bD, bH, bZ, wpY', bV, bVD, seval]; exact i2 j (by omega)
                have l1 := k3 1 (by omega) (by omega)
                have l2 := k3 2 (by omega) (by omega)
                have l3 := k3 3 (by omega) (by omega)
                simp (disch := omega) only [bC, bD, bH, bZ, wpY', bV, bVD, seval, j1, j2, j3] at l1 l2 l3
                obtain ⟨d1, d2, _⟩ := k1.cell
                simp (disch := omega) only [bC, bD, bH, bZ, wpY', bVA, bVD, bB, seval, bK, l1, l2, l3, d1, d2, Nat.add_assoc]
                refine q1 _ _ ⟨v2, acc ++ [e, enR r], true, ?_, ?_, ?_, by omega, ?_, by simp; omega, ?_⟩ ?_ (by omega)
                · simp (disch := omega) only [bC, bD, bH, bZ, wpY', bV, bVD, seval, l2]
                · simp (disch := omega) only [bC, bD, bH, bZ, wpY', bV, bVD, seval, l1]
                · simp (disch := omega) only [bC, bD, bH, bZ, wpY', bV, bVD, seval, l3]
                · rw [show (acc ++ [e, enR r]).map rowE = (acc.map rowE ++ [rowE e]) ++ [rowE (enR r)] from by simp]
                  refine RowS.mono k1 (fun j h1 h2 => ?_) (by omega) (by omega)
                  simp (disch := omega) only [bC, bD, bH, bZ, wpY', bV, bVD, seval]
                · rw [a7]; simp [elimE, h1]
                · intro j hj; simp (disch := omega) only [bC, bD, bH, bZ, wpY', bV, bVD, seval]; exact k2 j (by omega)
              · rw [if_neg (fun h => hlt2 h.2)] at a7
                have hlt2 : ¬ ((leadN (enR r).m : Nat) : Int) < (leadN e.m : Int) := by omega
                simp (disch := omega) only [bC, bD, bH, bZ, wpY', bVA, bVD, bB, seval, a_solve_Add_1, y_solve_Add_1, bK, a1, a2, a3, hfn, f_solve_row, f_solve_leading m2, f_solve_leading he, ea, hlt2, eq_true h1']
                refine wD_append Rw.S (acc.map rowE) [rowE (enR r)] (lo := 6) (hi := nx) (v := v) (a5.mono (fun j _ hj => ?_) (Nat.le_refl _) (Nat.le_refl _)) (fun j hj => ?_) (by omega) (by simp) (by simp; omega) rfl rfl fun v1 g1 i1 i2 i3 => ?_
                · simp (disch := omega) only [bC, bD, bH, bZ, wpY', bV, bVD, seval]
                · simp (disch := omega) only [bC, bD, bH, bZ, wpY', bV, bVD, seval]; exact hf j (by omega)
                have j1 := i3 1 (by omega) (by omega)
                have j2 := i3 2 (by omega) (by omega)
                have j3 := i3 3 (by omega) (by omega)
                simp (disch := omega) only [bC, bD, bH, bZ, wpY', bV, bVD, seval, a1, a2, a3] at j1 j2 j3
                obtain ⟨c1, c2, _⟩ := i1.cell
                simp (disch := omega) only [bC, bD, bH, bZ, wpY', bVA, bVD, bB, seval, bK, j1, j2, j3, c1, c2]
                refine q1 _ _ ⟨v1, acc ++ [enR r], false, ?_, ?_, ?_, by omega, ?_, by simp; omega, ?_⟩ ?_ (by omega)
                · simp (disch := omega) only [bC, bD, bH, bZ, wpY', bV, bVD, seval, j2]
                · simp (disch := omega) only [bC, bD, bH, bZ, wpY', bV, bVD, seval, j1]
                · simp (disch := omega) only [bC, bD, bH, bZ, wpY', bV, bVD, seval, j3]
                · rw [show (acc ++ [enR r]).map rowE = acc.map rowE ++ [rowE (enR r)] from by simp]
                  refine RowS.mono i1 (fun j h1 h2 => ?_) (by omega) (by omega)
                  simp (disch := omega) only [bC, bD, bH, bZ, wpY', bV, bVD, seval]
                · rw [a7]; simp [elimE, h1]
                · intro j hj; simp (disch := omega) only [bC, bD, bH, bZ, wpY', bV, bVD, seval]; exact i2 j (by omega)
          · have h1' : ¬ ((( enR r).m &&& leadN e.m : Nat) : Int) = 0 := by omega
            cases p with
            | true =>
              rw [if_neg (by simp)] at a7
              simp (disch := omega) only [bC, bD, bH, bZ, wpY', bVA, bVD, bB, seval, a_solve_Add_1, y_solve_Add_1, bK, a1, a2, a3, hfn, f_solve_row, f_solve_leading m2, f_solve_leading he, ea, h1', ex, f_solve_plus]
              refine wD_append Rw.S (acc.map rowE) [rowE (plusE (enR r) e)] (lo := 6) (hi := nx) (v := v) (a5.mono (fun j _ hj => ?_) (Nat.le_refl _) (Nat.le_refl _)) (fun j hj => ?_) (by omega) (by simp) (by simp; omega) rfl rfl fun v1 g1 i1 i2 i3 => ?_
              · simp (disch := omega) only [bC, bD, bH, bZ, wpY', bV, bVD, seval]
              · simp (disch := omega) only [bC, bD, bH, bZ, wpY', bV, bVD, seval]; exact hf j (by omega)
              have j1 := i3 1 (by omega) (by omega)
              have j2 := i3 2 (by omega) (by omega)
              have j3 := i3 3 (by omega) (by omega)
              simp (disch := omega) only [bC, bD, bH, bZ, wpY', bV, bVD, seval, a1, a2, a3] at j1 j2 j3
              obtain ⟨c1, c2, _⟩ := i1.cell
              simp (disch := omega) only [bC, bD, bH, bZ, wpY', bVA, bVD, bB, seval, bK, j1, j2, j3, c1, c2]
              refine q1 _ _ ⟨v1, acc ++ [plusE (enR r) e], true, ?_, ?_, ?_, by omega, ?_, by simp; omega, ?_⟩ ?_ (by omega)
              · simp (disch := omega) only [bC, bD, bH, bZ, wpY', bV, bVD, seval, j2]
              · simp (disch := omega) only [bC, bD, bH, bZ, wpY', bV, bVD, seval, j1]
              · simp (disch := omega) only [bC, bD, bH, bZ, wpY', bV, bVD, seval, j3]
              · rw [show (acc ++ [plusE (enR r) e]).map rowE = acc.map rowE ++ [rowE (plusE (enR r) e)] from by simp]
                refine RowS.mono i1 (fun j h1 h2 => ?_) (by omega) (by omega)
                simp (disch := omega) only [bC, bD, bH, bZ, wpY', bV, bVD, seval]
              · rw [a7]; simp [elimE, h1]
              · intro j hj; simp (disch := omega) only [bC, bD, bH, bZ, wpY', bV, bVD, seval]; exact i2 j (by omega)
            | false =>
              by_cases hlt2 : leadN (enR r).m < leadN e.m
              · rw [if_pos ⟨rfl, hlt2⟩] at a7
                simp (disch := omega) only [bC, bD, bH, bZ, wpY', bVA, bVD, bB, seval, a_solve_Add_1, y_solve_Add_1, bK, a1, a2, a3, hfn, f_solve_row, f_solve_leading m2, f_solve_leading he, ea, lt_c hlt2, h1', ex, f_solve_plus]
                refine wD_append Rw.S (acc.map rowE) [rowE e] (lo := 6) (hi := nx) (v := v) (a5.mono (fun j _ hj => ?_) (Nat.le_refl _) (Nat.le_refl _)) (fun j hj => ?_) (by omega) (by simp) (by simp; omega) rfl rfl fun v1 g1 i1 i2 i3 => ?_
                · simp (disch := omega) only [bC, bD, bH, bZ, wpY', bV, bVD, seval]
                · simp (disch := omega) only [bC, bD, bH, bZ, wpY', bV, bVD, seval]; exact hf j (by omega)
                have j1 := i3 1 (by omega) (by omega)
                have j2 := i3 2 (by omega) (by omega)
                have j3 := i3 3 (by omega) (by omega)
                have j4 := i3 nx (by omega) (by omega)
                simp (disch := omega) only [bC, bD, bH, bZ, wpY', bV, bVD, seval, a1, a2, a3] at j1 j2 j3 j4
                obtain ⟨c1, c2, _⟩ := i1.cell
                have hfn1 := i2 (nx + 2) (by omega)
                simp (disch := omega) only [bC, bD, bH, bZ, wpY', bVA, bVD, bB, seval, bK, j1, j2, j3, j4, hfn1, c1, c2, f_solve_row, Nat.add_assoc, f_solve_leading m2, f_solve_leading he, ea, lt_c hlt2, h1', ex, f_solve_plus]
                refine wD_append Rw.S (acc.map rowE ++ [rowE e]) [rowE (plusE (enR r) e)] (lo := nx + 1) (hi := nx + 2) (v := v1) (i1.mono (fun j _ hj => ?_) (Nat.le_refl _) (Nat.le_refl _)) (fun j hj => ?_) (by omega) (by simp) (by simp; omega) rfl rfl fun v2 g2 k1 k2 k3 => ?_
                · simp (disch := omega) only [bC, bD, bH, bZ, wpY', bV, bVD, seval]
                · simp (disch := omega) only [bC, bD, bH, bZ, wpY', bV, bVD, seval]; exact i2 j (by omega)
                have l1 := k3 1 (by omega) (by omega)
                have l2 := k3 2 (by omega) (by omega)
                have l3 := k3 3 (by omega) (by omega)
                simp (disch := omega) only [bC, bD, bH, bZ, wpY', bV, bVD, seval, j1, j2, j3] at l1 l2 l3
                obtain ⟨d1, d2, _⟩ := k1.cell
                simp (disch := omega) only [bC, bD, bH, bZ, wpY', bVA, bVD, bB, seval, bK, l1, l2, l3, d1, d2, Nat.add_assoc]
                refine q1 _ _ ⟨v2, acc ++ [e, plusE (enR r) e], true, ?_, ?_, ?_, by omega, ?_, by simp; omega, ?_⟩ ?_ (by omega)
                · simp (disch := omega) only [bC, bD, bH, bZ, wpY', bV, bVD, seval, l2]
                · simp (disch := omega) only [bC, bD, bH, bZ, wpY', bV, bVD, seval, l1]
                · simp (disch := omega) only [bC, bD, bH, bZ, wpY', bV, bVD, seval, l3]
                · rw [show (acc ++ [e, plusE (enR r) e]).map rowE = (acc.map rowE ++ [rowE e]) ++ [rowE (plusE (enR r) e)] from by simp]
                  refine RowS.mono k1 (fun j h1 h2 => ?_) (by omega) (by omega)
                  simp (disch := omega) only [bC, bD, bH, bZ, wpY', bV, bVD, seval]
                · rw [a7]; simp [elimE, h1]
                · intro j hj; simp (disch := omega) only [bC, bD, bH, bZ, wpY', bV, bVD, seval]; exact k2 j (by omega)
              · rw [if_neg (fun h => hlt2 h.2)] at a7
                have hlt2 : ¬ ((leadN (enR r).m : Nat) : Int) < (leadN e.m : Int) := by omega
                simp (disch := omega) only [bC, bD, bH, bZ, wpY', bVA, bVD, bB, seval, a_solve_Add_1, y_solve_Add_1, bK, a1, a2, a3, hfn, f_solve_row, f_solve_leading m2, f_solve_leading he, ea, hlt2, h1', ex, f_solve_plus]
                refine wD_append Rw.S (acc.map rowE) [rowE (plusE (enR r) e)] (lo := 6) (hi := nx) (v := v) (a5.mono (fun j _ hj => ?_) (Nat.le_refl _) (Nat.le_refl _)) (fun j hj => ?_) (by omega) (by simp) (by simp; omega) rfl rfl fun v1 g1 i1 i2 i3 => ?_
                · simp (disch := omega) only [bC, bD, bH, bZ, wpY', bV, bVD, seval]
                · simp (disch := omega) only [bC, bD, bH, bZ, wpY', bV, bVD, seval]; exact hf j (by omega)
                have j1 := i3 1 (by omega) (by omega)
                have j2 := i3 2 (by omega) (by omega)
                have j3 := i3 3 (by omega) (by omega)
                simp (disch := omega) only [bC, bD, bH, bZ, wpY', bV, bVD, seval, a1, a2, a3] at j1 j2 j3
                obtain ⟨c1, c2, _⟩ := i1.cell
                simp (disch := omega) only [bC, bD, bH, bZ, wpY', bVA, bVD, bB, seval, bK, j1, j2, j3, c1, c2]
                refine q1 _ _ ⟨v1, acc ++ [plusE (enR r) e], false, ?_, ?_, ?_, by omega, ?_, by simp; omega, ?_⟩ ?_ (by omega)
                · simp (disch := omega) only [bC, bD, bH, bZ, wpY', bV, bVD, seval, j2]
                · simp (disch := omega) only [bC, bD, bH, bZ, wpY', bV, bVD, seval, j1]
                · simp (disch := omega) only [bC, bD, bH, bZ, wpY', bV, bVD, seval, j3]
                · rw [show (acc ++ [plusE (enR r) e]).map rowE = acc.map rowE ++ [rowE (plusE (enR r) e)] from by simp]
                  refine RowS.mono i1 (fun j h1 h2 => ?_) (by omega) (by omega)
                  simp (disch := omega) only [bC, bD, bH, bZ, wpY', bV, bVD, seval]
                · rw [a7]; simp [elimE, h1]
                · intro j hj; simp (disch := omega) only [bC, bD, bH, bZ, wpY', bV, bVD, seval]; exact i2 j (by omega)
        · rintro h nx ⟨v, acc, p, a1, a2, a3, a4, a5, a6, a7⟩ hf hn
          rw [List.drop_length] at a7
          cases p with
          | true =>
            have a7 : insE e (rows.map enR) false = acc := by simpa [insE] using a7
            have ee := RowS.exp2 Rw.S a5
            rw [Bool.and_true] at ee
            have hne : (decide (acc.map rowE = []) : Bool) = decide ((acc.map rowE) = []) := rfl
            simp (disch := omega) only [bC, bD, bH, bZ, wpY', bVA, bVD, bB, seval, a1, a2, a3, ee, a7, Sl.v, slR]
          | false =>
            have a7 : insE e (rows.map enR) false = acc ++ [e] := by simpa [insE] using a7
            simp (disch := omega) only [bC, bD, bH, bZ, wpY', bVA, bVD, bB, seval, a1, a2, a3, bK, f_solve_row]
            refine wD_append Rw.S (acc.map rowE) [rowE e] (lo := 6) (hi := nx) (v := v) (a5.mono (fun j _ hj => ?_) (Nat.le_refl _) (Nat.le_refl _)) (fun j hj => ?_) (by omega) (by simp) (by simp; omega) rfl rfl fun v1 g1 i1 i2 i3 => ?_
            · simp (disch := omega) only [bC, bD, bH, bZ, wpY', bV, bVD, seval]
            · exact hf j (by omega)
            have j2 := i3 2 (by omega) (by omega)
            simp (disch := omega) only [bC, bD, bH, bZ, wpY', bV, bVD, seval, a1] at j2
            obtain ⟨c1, c2, _⟩ := i1.cell
            have ee := RowS.exp2 Rw.S (h := upd g1 2 [v1]) (lo := nx) (hi := nx + 1) (RowS.mono i1 (fun j h1 h2 => by simp (disch := omega) only [bC, bD, bH, bZ, wpY', bV, bVD, seval]) (Nat.le_refl _) (Nat.le_refl _))
            rw [Bool.and_true] at ee
            have e2 : (acc ++ [e]).map rowE = acc.map rowE ++ [rowE e] := by simp
            simp (disch := omega) only [bC, bD, bH, bZ, wpY', bVA, bVD, bB, seval, j2, c1, c2, ee, a7, Sl.v, slR, e2]
        · rintro x e h nx hx hF; exact hF.elim
        · refine ⟨.tree [] true true, [], false, by simp (disch := omega) only [bC, bD, bH, bZ, wpY', bV, bVD, seval], by simp (disch := omega) only [bC, bD, bH, bZ, wpY', bV, bVD, seval], by simp (disch := omega) only [bC, bD, bH, bZ, wpY', bV, bVD, seval], by omega, .inl ⟨rfl, rfl, rfl⟩, by simp, by simp⟩
        · intro j hj; simp (disch := omega) only [bC, bD, bH, bZ, wpY', bV, bVD, seval]
end
end Go.Proofs.YtfmbdcmjgnikiaaGreatDoor.Sm
