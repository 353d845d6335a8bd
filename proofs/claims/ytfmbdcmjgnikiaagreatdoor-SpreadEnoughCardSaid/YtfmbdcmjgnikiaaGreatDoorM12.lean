/- Coded blocks: what the small codes compute. Conditions: none. Coded blocks made, taken; pages that follow: what the small codes compute. Conditions: none. Pages that follow from rows: what the small codes compute. Conditions: none. -/
import Derived.Test.YtfmbdcmjgnikiaaGreatDoorM11
set_option linter.unusedSimpArgs false
set_option linter.unusedVariables false
namespace Go.Proofs.YtfmbdcmjgnikiaaGreatDoor.Sm
open Go Go.RowKit

/-! ### the lowest bit -/
theorem low_and {k m : Nat} (h : 2 ^ k * (2 * m + 1) < 65536) : (2 ^ k * (2 * m + 1)) &&& (2 ^ 64 - 2 ^ k * (2 * m + 1)) = 2 ^ k := by
  have hp : 0 < 2 ^ k := Nat.two_pow_pos k
  have h1 : 2 ^ k * (2 * m + 1) = (2 ^ k * (2 * m) + (2 ^ k - 1)) + 1 := by rw [Nat.mul_add, Nat.mul_one]; omega
  apply Nat.eq_of_testBit_eq
  intro j
  rw [Nat.testBit_and]
  conv => lhs; rhs; rw [h1]
  rw [Nat.testBit_two_pow_sub_succ (by omega), Nat.testBit_two_pow_mul_add _ (by omega)]
  have h2 : 2 ^ k * (2 * m + 1) = 2 ^ k * (2 * m + 1) + 0 := rfl
  rw [h2, Nat.testBit_two_pow_mul_add _ hp, Nat.testBit_two_pow]
  by_cases hj : j < k
  · simp only [hj, if_true, Nat.zero_testBit, Bool.false_and]; simp; omega
  · simp only [hj, if_false]
    by_cases he : j = k
    · subst he
      have : j < 64 := Nat.lt_of_not_le fun hh => by
        have : 2 ^ 64 ≤ 2 ^ j := Nat.pow_le_pow_right (by omega) hh
        have h3 : 2 ^ j * 1 ≤ 2 ^ j * (2 * m + 1) := Nat.mul_le_mul_left _ (by omega)
        omega
      simp [this, Nat.testBit_zero]
    · obtain ⟨i, hi⟩ : ∃ i, j - k = i + 1 := ⟨j - k - 1, by omega⟩
      rw [hi, Nat.testBit_succ, Nat.testBit_succ, show (2 * m + 1) / 2 = m by omega, show 2 * m / 2 = m by omega]
      have : decide (k = j) = false := by simp; omega
      rw [this]
      cases m.testBit i <;> simp
theorem low_and' {k m : Nat} (h : 2 ^ k * (2 * m + 1) < 65536) : (2 ^ k * (2 * m + 1)) &&& (18446744073709551616 - 2 ^ k * (2 * m + 1)) = 2 ^ k := by
  have := low_and h
  rwa [show (2 : Nat) ^ 64 = 18446744073709551616 from by decide] at this
theorem low_clear {k m : Nat} : (2 ^ k * (2 * m + 1)) &&& (2 ^ k * (2 * m + 1) - 1) = 2 ^ (k + 1) * m := by
  have hp : 0 < 2 ^ k := Nat.two_pow_pos k
  have h1 : 2 ^ k * (2 * m + 1) - 1 = 2 ^ k * (2 * m) + (2 ^ k - 1) := by rw [Nat.mul_add, Nat.mul_one]; omega
  have h3 : 2 ^ (k + 1) * m = 2 ^ k * (2 * m) + 0 := by rw [Nat.pow_succ, Nat.add_zero, Nat.mul_assoc]
  apply Nat.eq_of_testBit_eq
  intro j
  rw [Nat.testBit_and, h1, h3, Nat.testBit_two_pow_mul_add _ (by omega), Nat.testBit_two_pow_mul_add _ hp]
  have h2 : 2 ^ k * (2 * m + 1) = 2 ^ k * (2 * m + 1) + 0 := rfl
  rw [h2, Nat.testBit_two_pow_mul_add _ hp]
  by_cases hj : j < k
  · simp only [hj, if_true, Nat.zero_testBit, Bool.false_and]
  · simp only [hj, if_false]
    by_cases he : j = k
    · subst he; simp [Nat.testBit_zero]
    · obtain ⟨i, hi⟩ : ∃ i, j - k = i + 1 := ⟨j - k - 1, by omega⟩
      rw [hi, Nat.testBit_succ, Nat.testBit_succ, show (2 * m + 1) / 2 = m by omega, show 2 * m / 2 = m by omega]
      simp
theorem odd_part : ∀ x : Nat, x ≠ 0 → ∃ k m, x = 2 ^ k * (2 * m + 1) := by
  intro x
  induction x using Nat.strongRecOn with
  | _ x ih =>
    intro hx
    by_cases h : x % 2 = 1
    · exact ⟨0, x / 2, by rw [Nat.pow_zero]; omega⟩
    · obtain ⟨k, m, e⟩ := ih (x / 2) (by omega) (by omega)
      refine ⟨k + 1, m, ?_⟩
      rw [Nat.pow_succ, Nat.mul_assoc, Nat.mul_comm, Nat.mul_assoc, Nat.mul_comm (2 * m + 1), ← e]; omega
def deBr : List Nat := [0, 1, 56, 2, 57, 49, 28, 3, 61, 58, 42, 50, 38, 29, 17, 4, 62, 47, 59, 36, 45, 43, 51, 22, 53, 39, 33, 30, 24, 18, 12, 5, 63, 55, 48, 27, 60, 41, 37, 16, 46, 35, 44, 21, 52, 32, 23, 11, 54, 26, 40, 15, 34, 20, 31, 10, 25, 14, 19, 9, 13, 8, 7, 6]
theorem argV_g1 {e : Env} : argV XX e (.g 1) = .tptr (deBr.map fun n : Nat => SV.int .u8 (n : Int)) 0 := rfl
def tzJ (k : Nat) : Nat := (2 ^ k * 285870213051353865 % 2 ^ 64) / 2 ^ 58
theorem tz_tab0 : ∀ k : Nat, k < 16 → tzJ k < 64 ∧ deBr[tzJ k]? = some k := by decide +kernel
theorem tz_tab (k : Nat) (hk : k < 16) : (IntKind.u64.wrap (((2 ^ k : Nat) : Int) * 285870213051353865)).fdiv 288230376151711744 = (tzJ k : Int) ∧ tzJ k < 64 ∧ deBr[tzJ k]? = some k := by
  refine ⟨?_, tz_tab0 k hk⟩
  unfold tzJ
  generalize 2 ^ k = x
  have e : IntKind.u64.wrap ((x : Int) * 285870213051353865) = ((x * 285870213051353865 % 2 ^ 64 : Nat) : Int) := by
    simp [IntKind.wrap, IntKind.bits, IntKind.signed]
  rw [e, Int.fdiv_eq_ediv_of_nonneg _ (by decide)]
  omega
theorem and_u {a b : Nat} (ha : a < 65536) (hb : b < 18446744073709551616) : andI .u64 (a : Int) (b : Int) = ((a &&& b : Nat) : Int) := by
  have h : (a &&& b) ≤ a := Nat.and_le_left
  show IntKind.u64.wrap ((BitVec.ofInt 64 (a : Int) &&& BitVec.ofInt 64 (b : Int)).toNat : Nat) = _
  rw [ofInt_n, ofInt_n, BitVec.toNat_and, BitVec.toNat_ofNat, BitVec.toNat_ofNat, Nat.mod_eq_of_lt (by omega), Nat.mod_eq_of_lt (by omega)]
  exact wu _ (by omega) (by omega)
section
variable {ls : List (Nat × LRec)} {Q : Ex → St → Prop} {R : Prop} {st : St} {K : SV → St → Prop}
theorem f_bits_TrailingZeros {k m : Nat} (h : 2 ^ k * (2 * m + 1) < 65536) : WpF XX .ro n_bits_TrailingZeros [.int .u64 ((2 ^ k * (2 * m + 1) : Nat) : Int)] st K ↔ K (.int .i64 k) st := by
  have hk : k < 16 := Nat.lt_of_not_le fun hh => by
    have : 2 ^ 16 ≤ 2 ^ k := Nat.pow_le_pow_right (by omega) hh
    have h3 : 2 ^ k * 1 ≤ 2 ^ k * (2 * m + 1) := Nat.mul_le_mul_left _ (by omega)
    omega
  have hl := low_and' h
  have hp : 0 < 2 ^ k * (2 * m + 1) := Nat.mul_pos (Nat.two_pow_pos k) (by omega)
  generalize 2 ^ k * (2 * m + 1) = x at h hl hp
  have w1 : IntKind.u64.wrap (0 - (x : Int)) = ((18446744073709551616 - x : Nat) : Int) := by
    simp [IntKind.wrap, IntKind.bits, IntKind.signed]; omega
  have w2 := and_u (a := x) (b := 18446744073709551616 - x) h (by omega)
  rw [hl] at w2
  obtain ⟨J, t1, t2, t3⟩ : ∃ J : Nat, (IntKind.u64.wrap (((2 ^ k : Nat) : Int) * 285870213051353865)).fdiv 288230376151711744 = (J : Int) ∧ J < 64 ∧ deBr[J]? = some k := ⟨tzJ k, tz_tab k hk⟩
  have hx : ¬ (x : Int) = 0 := by omega
  have t2' : (J : Int) < 64 := by omega
  generalize hP : (2 ^ k : Nat) = P at w2 t1
  have hmin : min 58 IntKind.u64.bits = 58 := rfl
  have w3 : IntKind.i64.wrap (k : Int) = k := wi _ (by omega) (by omega)
  rw [F_ro (mf := m_bits_TrailingZeros) rfl rfl]
  simp only [m_bits_TrailingZeros, bC, bW, bD, bZ, wpY', bV, bVD, seval]
  rw [F_ro (mf := m_bits_TrailingZeros64) rfl rfl]
  simp only [m_bits_TrailingZeros64, bC, bW, bD, bZ, wpY', bV, bVD, seval, hx, w1, w2, hmin, t1, argV_g1, t2', t3, w3]
theorem f_bits_TrailingZeros_0 : WpF XX .ro n_bits_TrailingZeros [.int .u64 0] st K ↔ K (.int .i64 64) st := by
  rw [F_ro (mf := m_bits_TrailingZeros) rfl rfl]
  simp only [m_bits_TrailingZeros, bC, bW, bD, bZ, wpY', bV, bVD, seval]
  rw [F_ro (mf := m_bits_TrailingZeros64) rfl rfl]
  simp only [m_bits_TrailingZeros64, bC, bW, bD, bZ, wpY', bV, bVD, seval]

/-! ### sets of blocks -/
def pageB (n : Int) : Bool := decide (0 ≤ n) && decide (n < 16)
def setN (seed : Int) : Nat := if seedB seed = true then (if seed < 16 then 2 ^ seed.toNat else (maskI seed).toNat) else 0
theorem set_lt (seed : Int) : setN seed < 65536 := by
  unfold setN
  split
  · rename_i h
    rw [seed_iff] at h
    split
    · have hb : (2 : Nat) ^ seed.toNat ≤ 2 ^ 15 := Nat.pow_le_pow_right (by omega) (by omega)
      omega
    · have := mask_in seed; omega
  · omega
theorem set_pos {seed : Int} (h : seedB seed = true) : 1 ≤ setN seed := by
  unfold setN
  rw [if_pos h]
  split
  · exact Nat.two_pow_pos _
  · have := mask_in seed; omega
theorem f_fountain_isSeed {n : Int} : WpF XX .ro n_fountain_isSeed [.int .i64 n] st K ↔ K (.bool (seedB n)) st := by
  rw [F_ro (mf := m_fountain_isSeed) rfl rfl]
  unfold seedB
  by_cases h : 0 ≤ n
  · simp only [m_fountain_isSeed, bC, bW, bD, bZ, wpY', bV, bVD, seval, h]
  · simp only [m_fountain_isSeed, bC, bW, bD, bZ, wpY', bV, bVD, seval, h]
theorem f_fountain_isPage {n : Int} : WpF XX .ro n_fountain_isPage [.int .i64 n] st K ↔ K (.bool (pageB n)) st := by
  rw [F_ro (mf := m_fountain_isPage) rfl rfl]
  unfold pageB
  by_cases h : 0 ≤ n
  · simp only [m_fountain_isPage, bC, bW, bD, bZ, wpY', bV, bVD, seval, h]
  · simp only [m_fountain_isPage, bC, bW, bD, bZ, wpY', bV, bVD, seval, h]
theorem pow_sh {n : Nat} (h : n < 16) : IntKind.i64.wrap (1 * 2 ^ n) = ((2 ^ n : Nat) : Int) := by
  have hb : (2 : Nat) ^ n ≤ 2 ^ 15 := Nat.pow_le_pow_right (by omega) (by omega)
  have e : (1 * 2 ^ n : Int) = ((2 ^ n : Nat) : Int) := by simp
  rw [e]; generalize 2 ^ n = p at hb; exact wi _ (by omega) (by omega)
theorem f_fountain_Set {seed : Int} : WpF XX .ro n_fountain_Set [.int .i64 seed] st K ↔ K (.int .i64 (setN seed)) st := by
  rw [F_ro (mf := m_fountain_Set) rfl rfl]
  unfold setN
  cases h : seedB seed with
  | false => simp only [m_fountain_Set, bC, bW, bD, bZ, wpY', bV, bVD, seval, f_fountain_isSeed, h, Int.natCast_zero]
  | true =>
    have hs := seed_iff.1 h
    by_cases h1 : seed < 16
    · obtain ⟨n, rfl⟩ : ∃ n : Nat, seed = n := ⟨seed.toNat, by omega⟩
      have h2 : ¬ (n : Int) < 0 := by omega
      have h3 : min n IntKind.i64.bits = n := Nat.min_eq_left (by simp [IntKind.bits]; omega)
      simp only [m_fountain_Set, bC, bW, bD, bZ, wpY', bV, bVD, seval, f_fountain_isSeed, h, h1, h2, h3, pow_sh (n := n) (by omega)]
    · have hm := mask_in seed
      have w1 : IntKind.u64.wrap seed = seed := wu _ (by omega) (by omega)
      have e : ((maskI seed).toNat : Int) = maskI seed := by omega
      simp only [m_fountain_Set, bC, bW, bD, bZ, wpY', bV, bVD, seval, f_fountain_isSeed, h, h1, w1, f_random_Mask, e]

/-! ### a coded block -/
def blkI (page : List UInt8) (i : Nat) : Bk := Bk.of ((page.drop (i * 16)).take 16)
def encB (page : List UInt8) (S : Nat) : Nat → Bk
  | 0 => Bk.zero
  | i + 1 => if S / 2 ^ i % 2 = 1 then (encB page S i).xor (blkI page i) else encB page S i
structure Bl where
  page : Int
  seed : Int
  data : By
  proof : Sl Int
def Bl.c (b : Bl) : List SV := [.int .i64 b.page, .int .i64 b.seed, .tree (b.data.xs.map b8) b.data.nl b.data.tg, .tree (b.proof.xs.map uV) b.proof.nl b.proof.tg]
def nilS {α : Type} : Sl α := ⟨[], true, true⟩
def zeroB : Bl := ⟨0, 0, nilS, nilS⟩
def encR (page : List UInt8) (number seed : Int) : Bl × Int :=
  if page.length = 256 ∧ pageB number = true ∧ seedB seed = true then (⟨number, seed, ⟨(encB page (setN seed) 16).l, false, false⟩, nilS⟩, 0) else (zeroB, 1)
theorem blk_cells {page : List UInt8} (hp : page.length = 256) {i : Nat} (hi : i < 16) : List.take 16 (List.take (256 - i * 16) (List.drop (i * 16) (page.map b8))) = (blkI page i).l.map b8 := by
  have hl : ((page.drop (i * 16)).take 16).length = 16 := by simp; omega
  rw [blkI, Bk.of_eq hl, List.take_take, Nat.min_eq_left (by omega), List.map_take, List.map_drop]
theorem f_Clone_own {b : Bk} {id : Nat} {e : Env} {h : Heap} {nx wb : Nat} (hh : look h id = some (b.l.map b8)) (hf : look h nx = none) (hid : id < nx) :
    WpF XX .ro n_slices_Clone_sbyte_byte [.own id 0 16 1] ⟨e, h, nx, ls, wb⟩ K ↔ K (.tree (b.l.map b8) false false) ⟨e, h, nx, ls, wb⟩ := by
  rw [F_roh (mf := m_slices_Clone_sbyte_byte) rfl rfl]
  simp (disch := omega) only [m_slices_Clone_sbyte_byte, bC, bD, bH, bZ, wpY', bV, bVD, seval, bK, hh, hf]
end
end Go.Proofs.YtfmbdcmjgnikiaaGreatDoor.Sm
namespace Go.Proofs.YtfmbdcmjgnikiaaGreatDoor.Sm
open Go Go.RowKit

section
variable {ls : List (Nat × LRec)} {Q : Ex → St → Prop} {R : Prop} {st : St} {K : SV → St → Prop}
def EI (page : By) (S : Nat) (i : Nat) (h : Heap) (nx : Nat) : Prop := look h 0 = some Zi2t2 ∧ look h 1 = some ((encB page.xs S i).l.map b8) ∧ look h 2 = some [.fn n_fountain_Encode_1 [] [.ptr 1 0]] ∧ look h 3 = some [.int .u64 ((2 ^ i * (S / 2 ^ i) : Nat) : Int)] ∧ look h 4 = some [.tree (page.xs.map b8) page.nl page.tg] ∧ 5 < nx
theorem div_step {S i : Nat} (hS : S < 65536) : 2 ^ i * (S / 2 ^ i) < 65536 := Nat.lt_of_le_of_lt (Nat.mul_div_le S (2 ^ i)) hS
theorem div_half (S i : Nat) : S / 2 ^ (i + 1) = S / 2 ^ i / 2 := by rw [Nat.pow_succ, Nat.div_div_eq_div_mul]
set_option maxHeartbeats 1000000 in
theorem L_enc {re : Env} (h9 : getE re 9 = .ptr 2 0) (h10 : getE re 10 = .ptr 3 0) {page : By} (hp : page.xs.length = 256) (hn : page.nl = false) {S : Nat} (hS : S < 65536) : ∀ (d i : Nat) (h : Heap) (nx : Nat), i + d = 16 → EI page S i h nx → fresh h nx →
    (∀ h' nx', EI page S 16 h' nx' → fresh h' nx' → (Q (.exit 0) ⟨[], h', nx', [(5, ⟨re, [33, 34], a_fountain_Encode_0, y_fountain_Encode_0, 0, .norm⟩)], 0⟩ ↔ R)) →
    (L_fountain_blocks_1_0 XX (.yld 5) (.ptr 4 0) (.int .i64 i) h nx [(5, ⟨re, [33, 34], a_fountain_Encode_0, y_fountain_Encode_0, 0, .norm⟩)] 0 Q ↔ R) := by
  intro d
  induction d with
  | zero =>
    intro i h nx hi he hf q
    obtain rfl : i = 16 := by omega
    rw [L_fountain_blocks_1_0_unf]
    simp only [b_fountain_blocks_1_0, bC, bD, bH, bZ, bV, bVD, Nat.add_assoc, seval, Int.lt_irrefl, Int.ofNat_eq_natCast]
    exact q h nx he hf
  | succ d ih =>
    intro i h nx hi he hf q
    obtain ⟨a0, a1, a2, a3, a4, a5⟩ := he
    have hi' : (i : Int) < 16 := by omega
    have hw : IntKind.i64.wrap ((i : Int) + 1) = ((i + 1 : Nat) : Int) := wi_s (n := 16) (by omega) (by omega)
    have hm : IntKind.i64.wrap ((i : Int) * 16) = ((i * 16 : Nat) : Int) := by rw [wi _ (by omega) (by omega)]; omega
    have hb1 : ((i * 16 : Nat) : Int) ≤ 256 := by omega
    have hb2 : i * 16 ≤ 256 := by omega
    have hx : List.take (256 - i * 16) (List.drop (i * 16) (page.xs.map b8)) = ((page.xs.drop (i * 16)).take (256 - i * 16)).map b8 := by rw [List.map_take, List.map_drop]
    have hblk : List.take 16 (((page.xs.drop (i * 16)).take (256 - i * 16)).map b8) = (blkI page.xs i).l.map b8 := by rw [← hx]; exact blk_cells hp (by omega)
    have hT : ((page.xs.drop (i * 16)).take (256 - i * 16)).length = 256 - i * 16 := by simp; omega
    revert hx hblk hT
    generalize (page.xs.drop (i * 16)).take (256 - i * 16) = T
    intro hx hblk hT
    have hE : (T.map b8).isEmpty = false := by
      cases T with
      | nil => simp at hT; omega
      | cons => rfl
    have h16 : 16 ≤ 256 - i * 16 := by omega
    have hfn := hf nx (Nat.le_refl _)
    have hlt := div_step (i := i) hS
    have hh := div_half S i
    rw [L_fountain_blocks_1_0_unf]
    by_cases h0 : S / 2 ^ i = 0
    · have e3 : ((2 ^ i * (S / 2 ^ i) : Nat) : Int) = 0 := by rw [h0, Nat.mul_zero]; rfl
      have h64 : ¬ (i : Int) = 64 := by omega
      rw [e3] at a3
      simp (disch := omega) only [b_fountain_blocks_1_0, bC, bD, bH, bZ, wpY', bV, bVD, seval, a_fountain_Encode_0, y_fountain_Encode_0, hi', hw, a0, a1, a2, a3, a4, hp, hn, b8_hd, hm, hb1, hb2, hx, hT, hE, b8_len1, b8_flat, h16, hblk, bK, h9, h10, f_bits_TrailingZeros_0, h64, L_fountain_blocks_1_0_eq]
      refine ih (i + 1) _ _ (by omega) ⟨?_, ?_, ?_, ?_, ?_, by omega⟩ (fun j hj => ?_) q
      · simp (disch := omega) only [bC, bD, bH, bZ, wpY', bV, bVD, seval, a0]
      · simp (disch := omega) only [bC, bD, bH, bZ, wpY', bV, bVD, seval, a1, encB, h0, Nat.zero_mod, Nat.zero_ne_one]
      · simp (disch := omega) only [bC, bD, bH, bZ, wpY', bV, bVD, seval, a2]
      · simp (disch := omega) only [bC, bD, bH, bZ, wpY', bV, bVD, seval, a3, hh, h0, Nat.zero_div, Int.natCast_zero]
      · simp (disch := omega) only [bC, bD, bH, bZ, wpY', bV, bVD, seval, a4, hn]
      · simp (disch := omega) only [bC, bD, bH, bZ, wpY', bV, bVD, seval]; exact hf j (by omega)
    · obtain ⟨k, m, hkm⟩ := odd_part _ h0
      have ex : 2 ^ i * (S / 2 ^ i) = 2 ^ (i + k) * (2 * m + 1) := by rw [hkm, Nat.pow_add, Nat.mul_assoc]
      rw [ex] at a3 hlt
      have etz := fun st K => f_bits_TrailingZeros (st := st) (K := K) hlt
      by_cases hk : k = 0
      · subst hk
        rw [Nat.pow_zero, Nat.one_mul] at hkm
        have hodd : S / 2 ^ i % 2 = 1 := by omega
        have hhm : S / 2 ^ (i + 1) = m := by omega
        rw [Nat.add_zero] at etz a3 hlt
        have hcl := low_clear (k := i) (m := m)
        have hps : 1 ≤ 2 ^ i * (2 * m + 1) := Nat.mul_pos (Nat.two_pow_pos i) (by omega)
        generalize 2 ^ i * (2 * m + 1) = x at etz a3 hlt hcl hps
        have w1 : IntKind.u64.wrap ((x : Int) - 1) = ((x - 1 : Nat) : Int) := by rw [wu _ (by omega) (by omega)]; omega
        have w2 := and_u (a := x) (b := x - 1) hlt (by omega)
        rw [hcl] at w2
        simp (disch := omega) only [b_fountain_blocks_1_0, bC, bD, bH, bZ, wpY', bV, bVD, seval, a_fountain_Encode_0, y_fountain_Encode_0, hi', hw, a0, a1, a2, a3, a4, hp, hn, b8_hd, hm, hb1, hb2, hx, hT, hE, b8_len1, b8_flat, h16, hblk, bK, h9, h10, etz, F_rw (X := XX) (f := n_fountain_Encode_1) (mf := m_fountain_Encode_1) rfl, m_fountain_Encode_1, L_fountain_Encode_1_0_eq, L_fountain_blocks_1_0_eq]
        refine L_add (a := encB page.xs S i) (b := blkI page.xs i) (s := 1) (nx := nx + 1) (by omega) (by omega) 16 0 _ (by omega) ?_ ?_ fun h' j1 j2 => ?_
        · rw [mixK_0]; simp (disch := omega) only [bC, bD, bH, bZ, wpY', bV, bVD, seval, a1]
        · simp (disch := omega) only [bC, bD, bH, bZ, wpY', bV, bVD, seval]
        have k0 := j2 0 (by omega)
        have k2 := j2 2 (by omega)
        have k3 := j2 3 (by omega)
        have k4 := j2 4 (by omega)
        simp (disch := omega) only [bC, bD, bH, bZ, wpY', bV, bVD, seval, a0, a2, a3, a4, hn] at k0 k2 k3 k4
        simp (disch := omega) only [bC, bD, bH, bZ, wpY', bV, bVD, seval, h9, h10, k3, w1, w2, hw, L_fountain_blocks_1_0_eq]
        refine ih (i + 1) _ _ (by omega) ⟨?_, ?_, ?_, ?_, ?_, by omega⟩ (fun j hj => ?_) q
        · simp (disch := omega) only [bC, bD, bH, bZ, wpY', bV, bVD, seval, k0]
        · simp (disch := omega) only [bC, bD, bH, bZ, wpY', bV, bVD, seval, j1, encB, hodd]
        · simp (disch := omega) only [bC, bD, bH, bZ, wpY', bV, bVD, seval, k2]
        · simp (disch := omega) only [bC, bD, bH, bZ, wpY', bV, bVD, seval, k3, hhm]
        · simp (disch := omega) only [bC, bD, bH, bZ, wpY', bV, bVD, seval, k4, hn]
        · simp (disch := omega) only [bC, bD, bH, bZ, wpY', bV, bVD, seval]
          rw [j2 j (by omega)]
          simp (disch := omega) only [bC, bD, bH, bZ, wpY', bV, bVD, seval]; exact hf j (by omega)
      · obtain ⟨k, rfl⟩ : ∃ k', k = k' + 1 := ⟨k - 1, by omega⟩
        have heven : ¬ S / 2 ^ i % 2 = 1 := by
          rw [hkm, Nat.pow_succ, Nat.mul_assoc, Nat.mul_comm, Nat.mul_assoc]
          generalize (2 * m + 1) * 2 ^ k = z
          omega
        have hne : ¬ (i : Int) = ((i + (k + 1) : Nat) : Int) := by omega
        have e3 : 2 ^ (i + (k + 1)) * (2 * m + 1) = 2 ^ (i + 1) * (S / 2 ^ (i + 1)) := by
          have h2 : 2 ^ (k + 1) * (2 * m + 1) / 2 = 2 ^ k * (2 * m + 1) := by
            rw [Nat.pow_succ, Nat.mul_assoc, Nat.mul_comm 2 (2 * m + 1), ← Nat.mul_assoc]; exact Nat.mul_div_cancel _ (by omega)
          rw [hh, hkm, h2, ← Nat.mul_assoc, ← Nat.pow_add]
          congr 2
          omega
        rw [e3] at a3 etz
        simp (disch := omega) only [b_fountain_blocks_1_0, bC, bD, bH, bZ, wpY', bV, bVD, seval, a_fountain_Encode_0, y_fountain_Encode_0, hi', hw, a0, a1, a2, a3, a4, hp, hn, b8_hd, hm, hb1, hb2, hx, hT, hE, b8_len1, b8_flat, h16, hblk, bK, h9, h10, etz, hne, L_fountain_blocks_1_0_eq]
        refine ih (i + 1) _ _ (by omega) ⟨?_, ?_, ?_, ?_, ?_, by omega⟩ (fun j hj => ?_) q
        · simp (disch := omega) only [bC, bD, bH, bZ, wpY', bV, bVD, seval, a0]
        · simp (disch := omega) only [bC, bD, bH, bZ, wpY', bV, bVD, seval, a1, encB, heven]
        · simp (disch := omega) only [bC, bD, bH, bZ, wpY', bV, bVD, seval, a2]
        · simp (disch := omega) only [bC, bD, bH, bZ, wpY', bV, bVD, seval, a3]
        · simp (disch := omega) only [bC, bD, bH, bZ, wpY', bV, bVD, seval, a4, hn]
        · simp (disch := omega) only [bC, bD, bH, bZ, wpY', bV, bVD, seval]; exact hf j (by omega)
theorem f_fountain_Encode {page : By} {number seed : Int} (hn : page.nl = true → page.xs = []) :
    WpF XX .ro n_fountain_Encode [.tree (page.xs.map b8) page.nl page.tg, .int .i64 number, .int .i64 seed] st K ↔ K (.tup [.agg (encR page.xs number seed).1.c, .int .i64 (encR page.xs number seed).2]) st := by
  rw [F_ro (mf := m_fountain_Encode) rfl rfl]
  unfold encR
  by_cases h1 : page.xs.length = 256
  case neg =>
    have h1' : ¬ (page.xs.length : Int) = 256 := by omega
    simp only [m_fountain_Encode, bC, bW, bD, bZ, wpY', bV, bVD, seval, h1, h1', zeroB, nilS, Bl.c]
  have h1' : (page.xs.length : Int) = 256 := by omega
  cases h2 : pageB number with
  | false => simp only [m_fountain_Encode, bC, bW, bD, bZ, wpY', bV, bVD, seval, h1, eq_true h1', f_fountain_isPage, h2, zeroB, nilS, Bl.c]
  | true =>
    cases h3 : seedB seed with
    | false => simp only [m_fountain_Encode, bC, bW, bD, bZ, wpY', bV, bVD, seval, h1, eq_true h1', f_fountain_isPage, h2, f_fountain_isSeed, h3, zeroB, nilS, Bl.c]
    | true =>
      have hS := set_lt seed
      have hnl : page.nl = false := by
        cases hh : page.nl with
        | false => rfl
        | true => rw [hn hh] at h1; simp at h1
      have w1 : IntKind.u64.wrap (setN seed : Int) = setN seed := wu _ (by omega) (by omega)
      have hz : (encB page.xs (setN seed) 0).l.map b8 = [.int .u8 0, .int .u8 0, .int .u8 0, .int .u8 0, .int .u8 0, .int .u8 0, .int .u8 0, .int .u8 0, .int .u8 0, .int .u8 0, .int .u8 0, .int .u8 0, .int .u8 0, .int .u8 0, .int .u8 0, .int .u8 0] := rfl
      simp only [m_fountain_Encode, bC, bW, bD, bZ, wpY', bV, bVD, seval, h1, eq_true h1', f_fountain_isPage, h2, f_fountain_isSeed, h3, f_fountain_Set, w1, F_rw (X := XX) (f := n_fountain_blocks) (mf := m_fountain_blocks) rfl, m_fountain_blocks, g_fountain_Encode_0, F_rw (X := XX) (f := n_fountain_blocks_1) (mf := m_fountain_blocks_1) rfl, m_fountain_blocks_1, L_fountain_blocks_1_0_eq]
      refine L_enc (page := page) (S := setN seed) rfl rfl h1 hnl hS 16 0 _ 6 (by omega) ⟨?_, ?_, ?_, ?_, ?_, by omega⟩ ?_ fun h' nx' he hf => ?_
      · simp (disch := omega) only [bC, bD, bH, bZ, wpY', bV, bVD, seval]
      · simp (disch := omega) only [bC, bD, bH, bZ, wpY', bV, bVD, seval, hz]
      · simp (disch := omega) only [bC, bD, bH, bZ, wpY', bV, bVD, seval]
      · simp (disch := omega) only [bC, bD, bH, bZ, wpY', bV, bVD, seval, Nat.pow_zero, Nat.div_one]
      · simp (disch := omega) only [bC, bD, bH, bZ, wpY', bV, bVD, seval]
      · intro j hj; simp (disch := omega) only [bC, bD, bH, bZ, wpY', bV, bVD, seval]
      · obtain ⟨a0, a1, a2, a3, a4, a5⟩ := he
        have hfn := hf nx' (Nat.le_refl _)
        simp (disch := omega) only [bC, bD, bH, bZ, wpY', bV, bVD, seval, a0, a1, bK, f_Clone_own (id := 1) (h := h') a1 hfn (by omega), nilS, Bl.c]
/-! ### blocks taken -/
def recvR (rows : List Rw) (b : Bl) : Sl Rw × Bool × Int :=
  if pageB b.page = true ∧ seedB b.seed = true ∧ b.data.xs.length = 16 then addR rows ⟨setN b.seed, b.data⟩ else (nilS, false, 1)
theorem f_fountain_Receive {rows : List Rw} {nl tg : Bool} {b : Bl} (hl : rows.length ≤ 1000) :
    WpF XX .ro n_fountain_Receive [.tree (rows.map Rw.v) nl tg, .agg b.c] st K ↔ K (.tup [(recvR rows b).1.v Rw.v, .bool (recvR rows b).2.1, .int .i64 (recvR rows b).2.2]) st := by
  rw [F_ro (mf := m_fountain_Receive) rfl rfl]
  have ea := fun st K => f_solve_Add (st := st) (K := K) (rows := rows) (nl := nl) (tg := tg) (x := ⟨setN b.seed, b.data⟩) hl
  unfold recvR
  cases h2 : pageB b.page with
  | false => simp only [m_fountain_Receive, bC, bW, bD, bZ, wpY', bV, bVD, seval, Bl.c, f_fountain_isPage, h2, nilS, Sl.v]
  | true =>
    cases h3 : seedB b.seed with
    | false => simp only [m_fountain_Receive, bC, bW, bD, bZ, wpY', bV, bVD, seval, Bl.c, f_fountain_isPage, h2, f_fountain_isSeed, h3, nilS, Sl.v]
    | true =>
      by_cases h1 : b.data.xs.length = 16
      · have h1' : (b.data.xs.length : Int) = 16 := by omega
        simp only [m_fountain_Receive, bC, bW, bD, bZ, wpY', bV, bVD, seval, Bl.c, f_fountain_isPage, h2, f_fountain_isSeed, h3, eq_true h1', eq_true h1, f_fountain_Set, ea, Sl.v]
      · have h1' : ¬ (b.data.xs.length : Int) = 16 := by omega
        simp only [m_fountain_Receive, bC, bW, bD, bZ, wpY', bV, bVD, seval, Bl.c, f_fountain_isPage, h2, f_fountain_isSeed, h3, h1', h1, nilS, Sl.v]
end
end Go.Proofs.YtfmbdcmjgnikiaaGreatDoor.Sm
namespace Go.Proofs.YtfmbdcmjgnikiaaGreatDoor.Sm
open Go Go.RowKit

def okF (rows : List Rw) (i : Nat) : Bool := (solvedI rows i).isSome
def flI (rows : List Rw) (k : Nat) : List Bool := (List.range 16).map fun i => decide (i < k) && okF rows i
def datO : Option Bk → List UInt8
  | some b => b.l
  | none => []
def pgB (rows : List Rw) (k : Nat) : List UInt8 := (List.range k).flatMap fun i => datO (solvedI rows i)
def fullF (rows : List Rw) : Bool := (List.range 16).all (okF rows)
/-- The page that follows from rows. -/
def pageR (rows : List Rw) : Option (List UInt8) := if fullF rows = true then some (pgB rows 16) else none
def optP : Option (List UInt8) → SV
  | none => .tree [] true true
  | some p => .tree (p.map b8) false false
theorem fl_len (rows : List Rw) (k : Nat) : (flI rows k).length = 16 := by simp [flI]
theorem fl_set (rows : List Rw) {k : Nat} (hk : k < 16) : ((flI rows k).map SV.bool).set k (.bool (okF rows k)) = (flI rows (k + 1)).map SV.bool := by
  have : (flI rows k).set k (okF rows k) = flI rows (k + 1) := by
    apply List.ext_getElem?
    intro j
    unfold flI
    rw [List.getElem?_set]
    by_cases hj : k = j
    · subst hj
      simp [hk]
    · rw [if_neg hj]
      by_cases h16 : j < 16
      · simp only [List.getElem?_map, List.getElem?_range h16, Option.map_some, Option.some.injEq]
        have : decide (j < k + 1) = decide (j < k) := by
          by_cases h : j < k
          · simp [h]; omega
          · simp [h]; omega
        rw [this]
      · simp [h16]
  rw [← this, List.map_set]
theorem fl_get (rows : List Rw) {k : Nat} (hk : k < 16) : (flI rows (k + 1))[k]? = some (okF rows k) := by simp [flI, hk]
theorem fl_16 (rows : List Rw) : flI rows 16 = (List.range 16).map (okF rows) := by
  unfold flI
  apply List.map_congr_left
  intro i hi
  simp [List.mem_range.1 hi]
theorem fl_full (rows : List Rw) : (flI rows 16).contains false = !fullF rows := by
  rw [fl_16, fullF]
  generalize List.range 16 = l
  induction l with
  | nil => rfl
  | cons i l ih =>
    rw [List.map_cons, List.contains_cons, ih, List.all_cons]
    cases okF rows i <;> simp
def f16 : List Bool := List.replicate 16 false
theorem fl_zero {rows : List Rw} (h : flI rows 16 = f16) : fullF rows = false := by
  have := fl_full rows
  rw [h, f16] at this
  cases hf : fullF rows with
  | false => rfl
  | true => rw [hf] at this; simp at this
theorem eqB_map : ∀ (l m : List Bool), l.length = m.length → eqBools (l.map SV.bool) (m.map SV.bool) = some (decide (l = m))
  | [], [], _ => rfl
  | [], _ :: _, h => by simp at h
  | _ :: _, [], h => by simp at h
  | a :: l, b :: m, h => by
    have ih := eqB_map l m (by simpa using h)
    simp only [List.map_cons, eqBools, ih]
    cases a <;> cases b <;> simp
section
variable {ls : List (Nat × LRec)} {Q : Ex → St → Prop} {R : Prop} {st : St} {K : SV → St → Prop}
theorem L_Index {fl : List Bool} {id : Nat} {h : Heap} {nx wb : Nat} (hh : look h id = some (fl.map SV.bool)) (hl : fl.length = 16) : ∀ (d k : Nat), k + d = 16 →
    ((fl.drop k).contains false = false → (Q (.exit 0) ⟨[], h, nx, ls, wb⟩ ↔ R)) →
    ((fl.drop k).contains false = true → ∀ (e : Env) (j : Nat), getE e 4 = .int .i64 j → (Q .ret ⟨e, h, nx, ls, wb⟩ ↔ R)) →
    (L_slices_Index_sbool_bool_0 XX (.own id 0 16 1) (.bool false) (.int .i64 16) (.int .i64 k) h nx ls wb Q ↔ R) := by
  intro d
  induction d with
  | zero =>
    intro k hk q1 q2
    obtain rfl : k = 16 := by omega
    rw [L_slices_Index_sbool_bool_0_unf]
    simp only [b_slices_Index_sbool_bool_0, bC, bD, bH, bZ, bV, bVD, Nat.add_assoc, seval, Int.lt_irrefl, Int.ofNat_eq_natCast]
    refine q1 ?_
    rw [List.drop_eq_nil_of_le (by omega)]; rfl
  | succ d ih =>
    intro k hk q1 q2
    obtain ⟨c, hc, hd⟩ := get_some (l := fl) (k := k) (by omega)
    have hk' : (k : Int) < 16 := by omega
    have hw : IntKind.i64.wrap ((k : Int) + 1) = ((k + 1 : Nat) : Int) := wi_s (n := 16) (by omega) (by omega)
    have hcl : (fl.map SV.bool).length = 16 := by simp [hl]
    rw [L_slices_Index_sbool_bool_0_unf]
    cases c with
    | false =>
      simp (disch := omega) only [b_slices_Index_sbool_bool_0, bC, bD, bH, bZ, wpY', bV, bVD, seval, hk', hh, hc]
      refine q2 (by rw [hd]; simp) _ k ?_
      simp only [bC, bW, bZ, wpY', bV, seval]
    | true =>
      have e : (false == true) = false := rfl
      simp (disch := omega) only [b_slices_Index_sbool_bool_0, bC, bD, bH, bZ, wpY', bV, bVD, seval, hk', hh, hc, e, hw, L_slices_Index_sbool_bool_0_eq]
      refine ih (k + 1) (by omega) (fun h => q1 (by rw [hd]; simpa using h)) (fun h => q2 (by rw [hd]; simpa using h))
theorem f_Contains_own {fl : List Bool} {id : Nat} {e : Env} {h : Heap} {nx wb : Nat} (hh : look h id = some (fl.map SV.bool)) (hl : fl.length = 16) :
    WpF XX .ro n_slices_Contains_sbool_bool [.own id 0 16 1, .bool false] ⟨e, h, nx, ls, wb⟩ K ↔ K (.bool (fl.contains false)) ⟨e, h, nx, ls, wb⟩ := by
  rw [F_roh (mf := m_slices_Contains_sbool_bool) rfl rfl]
  simp (disch := omega) only [m_slices_Contains_sbool_bool, bC, bD, bH, bZ, wpY', bV, bVD, seval]
  rw [F_roh (mf := m_slices_Index_sbool_bool) rfl rfl]
  simp (disch := omega) only [m_slices_Index_sbool_bool, bC, bD, bH, bZ, wpY', bV, bVD, seval, L_slices_Index_sbool_bool_0_eq]
  refine L_Index hh hl 16 0 (by omega) (fun hc => ?_) (fun hc e j he => ?_)
  · rw [List.drop_zero] at hc
    simp (disch := omega) only [bC, bD, bH, bZ, wpY', bV, bVD, seval, hc]
  · rw [List.drop_zero] at hc
    simp (disch := omega) only [bC, bD, bH, bZ, wpY', bV, bVD, seval, hc, he]
theorem pgB_s (rows : List Rw) (k : Nat) : pgB rows (k + 1) = pgB rows k ++ datO (solvedI rows k) := by
  simp [pgB, List.range_succ, List.flatMap_append]
theorem pgB_len (rows : List Rw) : ∀ k, (pgB rows k).length ≤ 16 * k
  | 0 => by simp [pgB]
  | k + 1 => by
    rw [pgB_s, List.length_append]
    have := pgB_len rows k
    have h2 : (datO (solvedI rows k)).length ≤ 16 := by
      cases solvedI rows k with
      | none => simp [datO]
      | some b => simp [datO, b.h]
    omega
theorem L_Page {rows : List Rw} {nl tg : Bool} (hl : rows.length < 4611686018427387904) : ∀ (d k : Nat) (v : SV) (h : Heap) (nx : Nat), k + d = 16 → look h 0 = some ((flI rows k).map SV.bool) → RowS false 1 b8 h 1 nx (pgB rows k) v → 0 < nx → fresh h nx →
    (∀ (v : SV) (h : Heap) (nx : Nat), look h 0 = some ((flI rows 16).map SV.bool) → RowS false 1 b8 h 1 nx (pgB rows 16) v → 0 < nx → fresh h nx → (Q (.exit 0) ⟨[(4, .ptr 0 0), (5, v)], h, nx, ls, 0⟩ ↔ R)) →
    (L_fountain_Page_0 XX (.tree (rows.map Rw.v) nl tg) (.ptr 0 0) v (.int .i64 k) h nx ls 0 Q ↔ R) := by
  intro d
  induction d with
  | zero =>
    intro k v h nx hk h0 hv hn hf q
    obtain rfl : k = 16 := by omega
    rw [L_fountain_Page_0_unf]
    simp only [b_fountain_Page_0, bC, bD, bH, bZ, bV, bVD, Nat.add_assoc, seval, Int.lt_irrefl, Int.ofNat_eq_natCast]
    exact q v h nx h0 hv hn hf
  | succ d ih =>
    intro k v h nx hk h0 hv hn hf q
    have hk' : (k : Int) < 16 := by omega
    have hw : IntKind.i64.wrap ((k : Int) + 1) = ((k + 1 : Nat) : Int) := wi_s (n := 16) (by omega) (by omega)
    have hset := fl_set rows (k := k) (by omega)
    have hget := fl_get rows (k := k) (by omega)
    have hln := fl_len rows k
    have hk1 : k + 1 ≤ 16 := by omega
    have hso : (solvedI rows k).isSome = okF rows k := rfl
    rw [L_fountain_Page_0_unf]
    cases hs : solvedI rows k with
    | none =>
      have hok : okF rows k = false := by rw [okF, hs]; rfl
      rw [hok] at hset hget
      simp (disch := omega) only [b_fountain_Page_0, bC, bD, bH, bZ, wpY', bV, bVD, seval, hk', f_solve_Solved hl (i := k) (by omega), hs, optB, h0, hln, hk1, hset, hget, hw, L_fountain_Page_0_eq]
      refine ih (k + 1) v _ nx (by omega) ?_ ?_ hn (fun j hj => ?_) q
      · simp (disch := omega) only [bC, bD, bH, bZ, wpY', bV, bVD, seval, h0]
      · rw [pgB_s, hs, datO, List.append_nil]
        refine hv.mono (fun j _ _ => ?_) (Nat.le_refl _) (Nat.le_refl _)
        simp (disch := omega) only [bC, bD, bH, bZ, wpY', bV, bVD, seval]
      · simp (disch := omega) only [bC, bD, bH, bZ, wpY', bV, bVD, seval]; exact hf j hj
    | some b =>
      have hok : okF rows k = true := by rw [okF, hs]; rfl
      rw [hok] at hset hget
      simp (disch := omega) only [b_fountain_Page_0, bC, bD, bH, bZ, wpY', bVA, bVD, bB, seval, hk', f_solve_Solved hl (i := k) (by omega), hs, optB, h0, hln, hk1, hset, hget, hw]
      have hpl := pgB_len rows k
      refine wO_append (Cell1.S b8_c) (pgB rows k) b.l (lo := 1) (hi := nx) (v := v) (hv.mono (fun j _ _ => ?_) (Nat.le_refl _) (Nat.le_refl _)) (fun j hj => ?_) (by omega) (fun e => ?_) (by rw [b.h]; omega) rfl rfl fun v' h' i1 i2 i3 => ?_
      · simp (disch := omega) only [bC, bD, bH, bZ, wpY', bV, bVD, seval]
      · simp (disch := omega) only [bC, bD, bH, bZ, wpY', bV, bVD, seval]; exact hf j hj
      · have := b.h; rw [e] at this; simp at this
      have j0 := i3 0 (by omega) (by omega)
      simp (disch := omega) only [bC, bD, bH, bZ, wpY', bV, bVD, seval, h0] at j0
      simp (disch := omega) only [bC, bD, bH, bZ, wpY', bVA, bVD, bB, seval, hw, L_fountain_Page_0_eq]
      refine ih (k + 1) v' _ (nx + 1) (by omega) j0 ?_ (by omega) i2 q
      rw [pgB_s, hs, datO]
      exact i1.mono (fun j _ _ => rfl) (by omega) (Nat.le_refl _)
theorem f_fountain_Page {rows : List Rw} {nl tg : Bool} (hl : rows.length < 4611686018427387904) : WpF XX .ro n_fountain_Page [.tree (rows.map Rw.v) nl tg] st K ↔ K (.tup [optP (pageR rows), .bool (pageR rows).isSome]) st := by
  rw [F_ro (mf := m_fountain_Page) rfl rfl]
  have hz : (flI rows 0).map SV.bool = [.bool false, .bool false, .bool false, .bool false, .bool false, .bool false, .bool false, .bool false, .bool false, .bool false, .bool false, .bool false, .bool false, .bool false, .bool false, .bool false] := by
    have : flI rows 0 = List.replicate 16 false := by
      apply List.eq_replicate_iff.2
      refine ⟨fl_len rows 0, fun b hb => ?_⟩
      simp only [flI, List.mem_map] at hb
      obtain ⟨i, _, rfl⟩ := hb
      simp
    rw [this]; rfl
  simp only [m_fountain_Page, bC, bW, bD, bZ, wpY', bV, bVD, seval, List.replicate_zero, L_fountain_Page_0_eq]
  refine L_Page hl 16 0 _ _ 2 (by omega) ?_ ?_ (by omega) (fun j hj => ?_) fun v h nx h0 hv hn hf => ?_
  · simp (disch := omega) only [bC, bD, bH, bZ, wpY', bV, bVD, seval, hz]
  · exact .inr ⟨1, rfl, rfl, by omega, by omega, fun h => by cases h⟩
  · simp (disch := omega) only [bC, bD, bH, bZ, wpY', bV, bVD, seval]
  · have heq := eqB_map (flI rows 16) f16 (by simp [flI, f16])
    have hrep : f16.map SV.bool = [.bool false, .bool false, .bool false, .bool false, .bool false, .bool false, .bool false, .bool false, .bool false, .bool false, .bool false, .bool false, .bool false, .bool false, .bool false, .bool false] := rfl
    rw [hrep] at heq
    have htk : List.take 16 ((flI rows 16).map SV.bool) = (flI rows 16).map SV.bool := List.take_of_length_le (by simp [fl_len])
    have hln := fl_len rows 16
    have ee := RowS.exp2 (Cell1.S b8_c) hv
    rw [Bool.and_false] at ee
    have hful := fl_full rows
    by_cases h1 : flI rows 16 = f16
    · have hF := fl_zero h1
      simp (disch := omega) only [bC, bD, bH, bZ, wpY', bVA, bVD, bB, seval, h0, htk, hln, heq, eq_true h1, pageR, hF, optP]
    · cases hF : fullF rows with
      | false =>
        rw [hF] at hful
        simp (disch := omega) only [bC, bD, bH, bZ, wpY', bVA, bVD, bB, seval, h0, htk, hln, heq, h1, f_Contains_own h0 hln, hful, pageR, hF, optP]
      | true =>
        rw [hF] at hful
        simp (disch := omega) only [bC, bD, bH, bZ, wpY', bVA, bVD, bB, seval, h0, htk, hln, heq, h1, f_Contains_own h0 hln, hful, pageR, hF, optP, ee]
end
end Go.Proofs.YtfmbdcmjgnikiaaGreatDoor.Sm
