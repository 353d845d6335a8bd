/- The next page, as the reference puts it; whole programs; equal states. Conditions: none. Whole programs; equal states; small states; notices of programs. Conditions: none. Announcing; what is small enough. Conditions: none. What is small enough to be examined. Conditions: none. Random numbers and timers: what the small codes compute. Conditions: none. Bits, blocks and equations: what the small codes compute. Conditions: none. -/
import Derived.Test.YtfmbdcmjgnikiaaGreatDoorM9
import Derived.Test.YtfmbdcmjgnikiaaGreatDoorM8
import Derived.Test.YtfmbdcmjgnikiaaGreatDoorM7
set_option linter.unusedSimpArgs false
set_option linter.unusedVariables false
namespace Go.Proofs.YtfmbdcmjgnikiaaGreatDoor.Sm
open Go Go.RowKit

section
variable {ls : List (Nat × LRec)} {Q : Ex → St → Prop} {R : Prop} {st : St} {K : SV → St → Prop}
end
end Go.Proofs.YtfmbdcmjgnikiaaGreatDoor.Sm
namespace Go.Proofs.YtfmbdcmjgnikiaaGreatDoor.Sm
open Go Go.RowKit

section
variable {h : Heap} {nx wb : Nat} {ls : List (Nat × LRec)} {Q : Ex → St → Prop} {R : Prop} {st : St} {K : SV → St → Prop}
theorem f_image_Whole {ver size dg start : Int} {pages : List By} {n1 g1 : Bool} {proofs : List (Sl Int)} {n2 g2 : Bool} {rows : List Rw} {n3 g3 : Bool} {proof : List Int} {n4 g4 : Bool} {iv bg fi ct sd : Int} (H : SpOK pages n1 proofs n2) :
    WpF XX .ro n_image_Whole [.agg [.int .i64 ver, .int .i64 size, .int .u64 dg, .int .i64 start, .tree (pages.map By.v) n1 g1, .tree (proofs.map (Sl.v uV)) n2 g2, .tree (rows.map Rw.v) n3 g3, .tree (proof.map uV) n4 g4, .int .i64 iv, .int .i64 bg, .int .i64 fi, .int .i64 ct, .int .i64 sd]] st K ↔
    K (if soundI ver size dg start pages proofs = true ∧ joinOK pages size = true ∧ allZ ((allB pages).drop size.toNat) = true then .tup [.tree (((allB pages).take size.toNat).map b8) false true, .bool true] else .tup [.tree [] true true, .bool false]) st := by
  rw [F_ro (mf := m_image_Whole) rfl rfl]
  have e0 := fun st K => f_image_sound (ver := ver) (size := size) (dg := dg) (start := start) (pages := pages) (n1 := n1) (g1 := g1) (proofs := proofs) (n2 := n2) (g2 := g2) (rows := rows) (n3 := n3) (g3 := g3) (proof := proof) (n4 := n4) (g4 := g4) (iv := iv) (bg := bg) (fi := fi) (ct := ct) (sd := sd) (st := st) (K := K) H.hl H.hlp H.hq'
  cases h1 : soundI ver size dg start pages proofs with
  | false => simp only [m_image_Whole, bC, bW, bD, bZ, wpY', bV, bVD, seval, e0, h1]
  | true =>
    cases h2 : joinOK pages size with
    | false => simp only [m_image_Whole, bC, bW, bD, bZ, wpY', bV, bVD, seval, e0, h1, f_image_Join H.hl, h2]
    | true =>
      cases h3 : allZ ((allB pages).drop size.toNat) with
      | false => simp only [m_image_Whole, bC, bW, bD, bZ, wpY', bV, bVD, seval, e0, h1, f_image_Join H.hl, h2, h3]
      | true => simp only [m_image_Whole, bC, bW, bD, bZ, wpY', bV, bVD, seval, e0, h1, f_image_Join H.hl, h2, h3]
/-! ### equal states -/
def rwE (l : List Rw) : List (Int × List UInt8) := l.map fun r => (r.mask, r.data.xs)
structure SpBnd (pages : List By) (proofs : List (Sl Int)) (rows : List Rw) (proof : List Int) : Prop where
  l1 : pages.length < 4611686018427387904
  l2 : proofs.length < 4611686018427387904
  l3 : rows.length < 4611686018427387904
  l4 : proof.length < 4611686018427387904
  s1 : ∀ p ∈ pages, p.xs.length < 4611686018427387904
  s2 : ∀ p ∈ proofs, p.xs.length < 4611686018427387904
  s3 : ∀ p ∈ rows, p.data.xs.length < 4611686018427387904
end
end Go.Proofs.YtfmbdcmjgnikiaaGreatDoor.Sm
namespace Go.Proofs.YtfmbdcmjgnikiaaGreatDoor.Sm
open Go Go.RowKit

theorem splitF_pages : ∀ (f : Nat) (b : List UInt8), (splitF f b).length ≤ f ∧ (∀ p ∈ splitF f b, p.length = 256) ∧ (b ≠ [] → f ≠ 0 → splitF f b ≠ [])
  | 0, b => by simp [splitF]
  | f + 1, b => by
    rw [splitF]
    split
    · rename_i h; simp [h]
    · obtain ⟨h1, h2, h3⟩ := splitF_pages f (b.drop 256)
      refine ⟨by simp; omega, fun p hp => ?_, by simp⟩
      rcases List.mem_cons.1 hp with rfl | hp
      · exact pad_len (by simp; omega)
      · exact h2 p hp
theorem split_pages (b : List UInt8) : (splitI b).length ≤ 16 ∧ (∀ p ∈ splitI b, p.xs.length = 256 ∧ p.nl = false ∧ p.tg = false) ∧ (b ≠ [] → splitI b ≠ []) := by
  obtain ⟨h1, h2, h3⟩ := splitF_pages 16 b
  refine ⟨by simpa [splitI] using h1, fun p hp => ?_, fun h => by simpa [splitI] using h3 h (by omega)⟩
  simp only [splitI, List.mem_map] at hp
  obtain ⟨q, hq, rfl⟩ := hp
  exact ⟨h2 q hq, rfl, rfl⟩
theorem split_are {b : List UInt8} (h : sizedI b.length = true) : arePagesI (splitI b) = true := by
  simp only [sizedI, Bool.and_eq_true, decide_eq_true_eq] at h
  obtain ⟨h1, h2, h3⟩ := split_pages b
  have h4 : splitI b ≠ [] := h3 fun e => by subst e; simp at h
  have h5 : (splitI b).length ≠ 0 := by simpa using h4
  simp only [arePagesI, Bool.and_eq_true, decide_eq_true_eq, List.all_eq_true]
  exact ⟨⟨by omega, h1⟩, fun p hp => by have := (h2 p hp).1; omega⟩

section
variable {h : Heap} {nx wb : Nat} {ls : List (Nat × LRec)} {Q : Ex → St → Prop} {R : Prop} {st : St} {K : SV → St → Prop}
theorem f_image_Announce {ver start : Int} {b : List UInt8} {nl tg : Bool} : WpF XX .ro n_image_Announce [.int .i64 ver, .tree (b.map b8) nl tg, .int .i64 start] st K ↔
    K (if noticeI ver b.length start = true then .tup [.agg [.int .i64 ver, .int .i64 b.length, .int .u64 (rootI (splitI b)), .int .i64 start], .int .i64 0] else .tup [.agg [.int .i64 0, .int .i64 0, .int .u64 0, .int .i64 0], .int .i64 1]) st := by
  rw [F_ro (mf := m_image_Announce) rfl rfl]
  cases h1 : sizedI b.length with
  | false =>
    have h2 : noticeI ver b.length start = false := by simp [noticeI, h1]
    simp only [m_image_Announce, bC, bW, bD, bZ, wpY', bV, bVD, seval, f_image_Split, h1, h2]
  | true =>
    cases h2 : noticeI ver b.length start with
    | false => simp only [m_image_Announce, bC, bW, bD, bZ, wpY', bV, bVD, seval, f_image_Split, f_image_announced, h1, h2]
    | true => simp only [m_image_Announce, bC, bW, bD, bZ, wpY', bV, bVD, seval, f_image_Split, f_image_announced, f_tree_Root, split_are h1, h1, h2]
end
end Go.Proofs.YtfmbdcmjgnikiaaGreatDoor.Sm
namespace Go.Proofs.YtfmbdcmjgnikiaaGreatDoor.Sm
open Go Go.RowKit

def fewI (pages : List By) (proofs : List (Sl Int)) (rows : List Rw) (proof : List Int) : Bool :=
  decide (pages.length ≤ 20) && decide (proofs.length ≤ 20) && decide (rows.length ≤ 40) && decide (proof.length ≤ 40) &&
  pages.all (fun p => decide (p.xs.length ≤ 1000)) && proofs.all (fun p => decide (p.xs.length ≤ 40)) && rows.all (fun p => decide (p.data.xs.length ≤ 100))
section
variable {h : Heap} {nx wb : Nat} {ls : List (Nat × LRec)} {Q : Ex → St → Prop} {R : Prop} {st : St} {K : SV → St → Prop}
end
end Go.Proofs.YtfmbdcmjgnikiaaGreatDoor.Sm
namespace Go.Proofs.YtfmbdcmjgnikiaaGreatDoor.Sm
open Go Go.RowKit

theorem argV_g3 {e : Env} : argV XX e (.g 3) = .tptr [.int .i64 30, .int .u64 13787848793156543929, .int .i64 27, .int .u64 10723151780598845931, .int .i64 31, .int .u64 1] 0 := rfl
def mixI (x : Int) (n : Nat) (f : Int) : Int := IntKind.u64.wrap (xorI .u64 x (x.fdiv (2 ^ n)) * f)
def rndN (s : Int) : Int := mixI (mixI (mixI (IntKind.u64.wrap (s + 11400714819323198485)) 30 13787848793156543929) 27 10723151780598845931) 31 1
def firstI (s : Int) : Int := IntKind.i64.wrap ((rndN s).fdiv (2 ^ 32))
def belowI (s n : Int) : Int := if 1 ≤ n ∧ n ≤ 1000000000 then (firstI s).tmod n else 0
def maskI (s : Int) : Int := 1 + (firstI s).tmod 65535
theorem rndN_in (s : Int) : 0 ≤ rndN s ∧ rndN s < 18446744073709551616 := by
  unfold rndN mixI
  generalize xorI _ _ _ * 1 = x
  simp [IntKind.wrap, IntKind.bits, IntKind.signed]
  omega
theorem firstI_in (s : Int) : 0 ≤ firstI s ∧ firstI s < 4294967296 := by
  have := rndN_in s
  unfold firstI
  rw [Int.fdiv_eq_ediv_of_nonneg _ (by decide)]
  rw [wi _ (by omega) (by omega)]
  omega
section
variable {st : St} {K : SV → St → Prop}
set_option maxRecDepth 100000 in
theorem f_random_Next {s : Int} : WpF XX .ro n_random_Next [.int .u64 s] st K ↔ K (.int .u64 (rndN s)) st := by
  rw [F_ro (mf := m_random_Next) rfl rfl]
  have h30 : min 30 IntKind.u64.bits = 30 := rfl
  have h27 : min 27 IntKind.u64.bits = 27 := rfl
  have h31 : min 31 IntKind.u64.bits = 31 := rfl
  have w1 : IntKind.i64.wrap 1 = 1 := rfl
  have w2 : IntKind.i64.wrap 2 = 2 := rfl
  have w3 : IntKind.i64.wrap 3 = 3 := rfl
  simp only [m_random_Next, bC, bW, bD, bZ, wpY', bV, bVD, seval, argV_g3, L_random_Next_0_eq]
  rw [L_random_Next_0_unf]
  simp only [b_random_Next_0, bC, bW, bD, bZ, wpY', bV, bVD, seval, h30, h27, h31, w1, w2, w3, L_random_Next_0_eq]
  rw [L_random_Next_0_unf]
  simp only [b_random_Next_0, bC, bW, bD, bZ, wpY', bV, bVD, seval, h30, h27, h31, w1, w2, w3, L_random_Next_0_eq]
  rw [L_random_Next_0_unf]
  simp only [b_random_Next_0, bC, bW, bD, bZ, wpY', bV, bVD, seval, h30, h27, h31, w1, w2, w3, L_random_Next_0_eq]
  rw [L_random_Next_0_unf]
  simp only [b_random_Next_0, bC, bW, bD, bZ, wpY', bV, bVD, seval, rndN, mixI]
theorem f_random_first {s : Int} : WpF XX .ro n_random_first [.int .u64 s] st K ↔ K (.int .i64 (firstI s)) st := by
  rw [F_ro (mf := m_random_first) rfl rfl]
  have h32 : min 32 IntKind.u64.bits = 32 := rfl
  simp only [m_random_first, bC, bW, bD, bZ, wpY', bV, bVD, seval, F_rw (X := XX) (f := n_random_halves) (mf := m_random_halves) rfl, m_random_halves, g_random_first_0, F_rw (X := XX) (f := n_random_halves_1) (mf := m_random_halves_1) rfl, m_random_halves_1, f_random_Next, L_random_halves_1_0_eq]
  rw [L_random_halves_1_0_unf]
  simp only [b_random_halves_1_0, bC, bW, bD, bZ, wpY', bV, bVD, seval, h32, a_random_first_0, y_random_first_0, firstI]
theorem f_random_Below {s n : Int} : WpF XX .ro n_random_Below [.int .u64 s, .int .i64 n] st K ↔ K (.int .i64 (belowI s n)) st := by
  rw [F_ro (mf := m_random_Below) rfl rfl]
  unfold belowI
  by_cases h1 : n < 1
  · have h2 : ¬ (1 ≤ n ∧ n ≤ 1000000000) := by omega
    simp only [m_random_Below, bC, bW, bD, bZ, wpY', bV, bVD, seval, h1, h2]
  · by_cases h2 : 1000000000 < n
    · have h3 : ¬ (1 ≤ n ∧ n ≤ 1000000000) := by omega
      simp only [m_random_Below, bC, bW, bD, bZ, wpY', bV, bVD, seval, h1, h2, h3]
    · have h3 : 1 ≤ n ∧ n ≤ 1000000000 := by omega
      have h4 : ¬ n = 0 := by omega
      simp only [m_random_Below, bC, bW, bD, bZ, wpY', bV, bVD, seval, h1, h2, eq_true h3, h4, f_random_first]
theorem mask_in (s : Int) : 1 ≤ maskI s ∧ maskI s < 65536 := by
  have := firstI_in s
  unfold maskI
  rw [Int.tmod_eq_emod_of_nonneg (by omega)]
  omega
theorem f_random_Mask {s : Int} : WpF XX .ro n_random_Mask [.int .u64 s, .int .i64 16] st K ↔ K (.int .i64 (maskI s)) st := by
  rw [F_ro (mf := m_random_Mask) rfl rfl]
  have h1 : IntKind.i64.wrap (IntKind.i64.wrap (1 * 2 ^ (min 16 IntKind.i64.bits)) - 1) = 65535 := rfl
  have h2 := mask_in s
  have h3 : IntKind.i64.wrap (1 + (firstI s).tmod 65535) = maskI s := wi _ (by unfold maskI at h2; omega) (by unfold maskI at h2; omega)
  simp only [m_random_Mask, bC, bW, bD, bZ, wpY', bV, bVD, seval, f_random_first, h1, h3]

/-! ### timers -/
structure Tm where
  iv : Int
  bg : Int
  fi : Int
  ct : Int
  sd : Int
  deriving DecidableEq
def Tm.c (t : Tm) : List SV := [.int .i64 t.iv, .int .i64 t.bg, .int .i64 t.fi, .int .i64 t.ct, .int .i64 t.sd]
def frameB (n : Int) : Bool := decide (0 ≤ n) && decide (n ≤ 999999984)
def seedB (n : Int) : Bool := decide (0 ≤ n) && decide (n ≤ 1000000000)
def validT (t : Tm) : Bool := decide (t.iv = 1 ∨ t.iv = 2 ∨ t.iv = 4 ∨ t.iv = 8) && frameB t.bg && seedB t.sd && decide (t.bg + t.iv / 2 ≤ t.fi) && decide (t.fi ≤ t.bg + t.iv - 1) && decide (0 ≤ t.ct) && decide (t.ct ≤ 100)
def beginT (len frame sd : Int) : Tm := ⟨len, frame, frame + len / 2 + belowI (1000003 * sd + frame) (len - len / 2), 0, sd⟩
def newT (sd frame : Int) : Tm := beginT 1 frame sd
def resetT (t : Tm) (frame : Int) : Tm := if validT t = true ∧ frameB frame = true ∧ t.iv ≠ 1 then beginT 1 frame t.sd else t
def hearT (t : Tm) : Tm := if validT t = true then { t with ct := min 100 (t.ct + 1) } else t
def lateT (t : Tm) (frame : Int) : Tm := if t.bg + t.iv ≤ frame then beginT (min 8 (2 * t.iv)) frame t.sd else t
def tickT (t : Tm) (frame : Int) : Tm × Bool :=
  if validT t = true ∧ frameB frame = true ∧ t.bg ≤ frame then (lateT t frame, decide (frame = (lateT t frame).fi ∧ (lateT t frame).ct < 2)) else (t, false)
theorem f_trickle_in {n lo hi : Int} : WpF XX .ro n_trickle_in_int [.int .i64 n, .int .i64 lo, .int .i64 hi] st K ↔ K (.bool (decide (lo ≤ n) && decide (n ≤ hi))) st := by
  rw [F_ro (mf := m_trickle_in_int) rfl rfl]
  by_cases h : lo ≤ n
  · simp only [m_trickle_in_int, bC, bW, bD, bZ, wpY', bV, bVD, seval, h]
  · simp only [m_trickle_in_int, bC, bW, bD, bZ, wpY', bV, bVD, seval, h]
theorem f_trickle_isFrame {n : Int} : WpF XX .ro n_trickle_isFrame [.int .i64 n] st K ↔ K (.bool (frameB n)) st := by
  rw [F_ro (mf := m_trickle_isFrame) rfl rfl]
  simp only [m_trickle_isFrame, bC, bW, bD, bZ, wpY', bV, bVD, seval, f_trickle_in, frameB]
theorem f_trickle_isSeed {n : Int} : WpF XX .ro n_trickle_isSeed [.int .i64 n] st K ↔ K (.bool (seedB n)) st := by
  rw [F_ro (mf := m_trickle_isSeed) rfl rfl]
  simp only [m_trickle_isSeed, bC, bW, bD, bZ, wpY', bV, bVD, seval, f_trickle_in, seedB]
theorem pow_iv : ∀ i : Nat, i < 9 → 1 ≤ i → (andI .i64 (i : Int) (IntKind.i64.wrap ((i : Int) - 1)) = 0 ↔ (i = 1 ∨ i = 2 ∨ i = 4 ∨ i = 8)) := by decide
theorem f_trickle_isValid {iv bg fi ct sd : Int} : WpF XX .ro n_trickle_isValid [.agg [.int .i64 iv, .int .i64 bg, .int .i64 fi, .int .i64 ct, .int .i64 sd]] st K ↔ K (.bool (validT ⟨iv, bg, fi, ct, sd⟩)) st := by
  rw [F_ro (mf := m_trickle_isValid) rfl rfl]
  unfold validT
  by_cases h1 : 1 ≤ iv ∧ iv ≤ 8
  · obtain ⟨i, rfl⟩ : ∃ i : Nat, iv = i := ⟨iv.toNat, by omega⟩
    have hp := pow_iv i (by omega) (by omega)
    have h11 : (1 : Int) ≤ i := h1.1
    have h12 : (i : Int) ≤ 8 := h1.2
    by_cases h2 : (i = 1 ∨ i = 2 ∨ i = 4 ∨ i = 8)
    · have h3 : andI .i64 (i : Int) (IntKind.i64.wrap ((i : Int) - 1)) = 0 := hp.2 h2
      have h4 : ((i : Int) = 1 ∨ (i : Int) = 2 ∨ (i : Int) = 4 ∨ (i : Int) = 8) := by omega
      cases h5 : frameB bg with
      | false => simp only [m_trickle_isValid, bC, bW, bD, bZ, wpY', bV, bVD, seval, f_trickle_in, f_trickle_isFrame, h11, h12, h3, h5, eq_true h4]
      | true =>
        cases h6 : seedB sd with
        | false => simp only [m_trickle_isValid, bC, bW, bD, bZ, wpY', bV, bVD, seval, f_trickle_in, f_trickle_isFrame, f_trickle_isSeed, h11, h12, h3, h5, h6, eq_true h4]
        | true =>
          have h5' := h5
          simp only [frameB, Bool.and_eq_true, decide_eq_true_eq] at h5'
          have w1 : IntKind.i64.wrap (bg + IntKind.i64.wrap ((i : Int).tdiv 2)) = bg + (i : Int) / 2 := by
            rw [Int.tdiv_eq_ediv_of_nonneg (by omega), wi ((i : Int) / 2) (by omega) (by omega), wi (bg + (i : Int) / 2) (by omega) (by omega)]
          have w2 : IntKind.i64.wrap (IntKind.i64.wrap (bg + (i : Int)) - 1) = bg + (i : Int) - 1 := by
            rw [wi (bg + (i : Int)) (by omega) (by omega), wi (bg + (i : Int) - 1) (by omega) (by omega)]
          by_cases h7 : bg + (i : Int) / 2 ≤ fi
          · by_cases h8 : fi ≤ bg + (i : Int) - 1
            · simp only [m_trickle_isValid, bC, bW, bD, bZ, wpY', bV, bVD, seval, f_trickle_in, f_trickle_isFrame, f_trickle_isSeed, h11, h12, h3, h5, h6, eq_true h4, w1, w2, h7, h8]
            · simp only [m_trickle_isValid, bC, bW, bD, bZ, wpY', bV, bVD, seval, f_trickle_in, f_trickle_isFrame, f_trickle_isSeed, h11, h12, h3, h5, h6, eq_true h4, w1, w2, h7, h8]
          · simp only [m_trickle_isValid, bC, bW, bD, bZ, wpY', bV, bVD, seval, f_trickle_in, f_trickle_isFrame, f_trickle_isSeed, h11, h12, h3, h5, h6, eq_true h4, w1, w2, h7]
    · have h3 : ¬ andI .i64 (i : Int) (IntKind.i64.wrap ((i : Int) - 1)) = 0 := fun e => h2 (hp.1 e)
      have h4 : ¬ ((i : Int) = 1 ∨ (i : Int) = 2 ∨ (i : Int) = 4 ∨ (i : Int) = 8) := by omega
      simp only [m_trickle_isValid, bC, bW, bD, bZ, wpY', bV, bVD, seval, f_trickle_in, h11, h12, h3, h4]
  · have h4 : ¬ (iv = 1 ∨ iv = 2 ∨ iv = 4 ∨ iv = 8) := by omega
    have h5 : (decide (1 ≤ iv) && decide (iv ≤ 8)) = false := by simp; omega
    simp only [m_trickle_isValid, bC, bW, bD, bZ, wpY', bV, bVD, seval, f_trickle_in, h4, h5]
theorem valid_parts {t : Tm} (h : validT t = true) : (t.iv = 1 ∨ t.iv = 2 ∨ t.iv = 4 ∨ t.iv = 8) ∧ (0 ≤ t.bg ∧ t.bg ≤ 999999984) ∧ (0 ≤ t.sd ∧ t.sd ≤ 1000000000) ∧ t.bg + t.iv / 2 ≤ t.fi ∧ t.fi ≤ t.bg + t.iv - 1 ∧ 0 ≤ t.ct ∧ t.ct ≤ 100 := by
  simp only [validT, frameB, seedB, Bool.and_eq_true, decide_eq_true_eq] at h
  omega
theorem frame_iff {n : Int} : frameB n = true ↔ 0 ≤ n ∧ n ≤ 999999984 := by simp [frameB]
theorem seed_iff {n : Int} : seedB n = true ↔ 0 ≤ n ∧ n ≤ 1000000000 := by simp [seedB]
theorem below_in {s n : Int} (h : 1 ≤ n) (h2 : n ≤ 1000000000) : 0 ≤ belowI s n ∧ belowI s n < n := by
  unfold belowI
  rw [if_pos ⟨h, h2⟩]
  have := firstI_in s
  rw [Int.tmod_eq_emod_of_nonneg (by omega)]
  exact ⟨Int.emod_nonneg _ (by omega), Int.emod_lt_of_pos _ (by omega)⟩
theorem begin_w {len frame sd : Int} (hl : 1 ≤ len ∧ len ≤ 8) (hf : 0 ≤ frame ∧ frame ≤ 999999984) (hs : 0 ≤ sd ∧ sd ≤ 1000000000) :
    IntKind.i64.wrap (IntKind.i64.wrap (frame + IntKind.i64.wrap (len.tdiv 2)) + belowI (IntKind.u64.wrap (IntKind.u64.wrap (1000003 * IntKind.u64.wrap sd) + IntKind.u64.wrap frame)) (IntKind.i64.wrap (len - IntKind.i64.wrap (len.tdiv 2)))) = (beginT len frame sd).fi := by
  rw [Int.tdiv_eq_ediv_of_nonneg (by omega), wi (len / 2) (by omega) (by omega), wi (frame + _) (by omega) (by omega), wi (len - _) (by omega) (by omega), wu sd (by omega) (by omega), wu frame (by omega) (by omega), wu (1000003 * sd) (by omega) (by omega), wu _ (by omega) (by omega)]
  have := below_in (s := 1000003 * sd + frame) (n := len - len / 2) (by omega) (by omega)
  rw [wi _ (by omega) (by omega)]
  rfl
theorem f_trickle_New {sd frame : Int} : WpF XX .ro n_trickle_New [.int .i64 sd, .int .i64 frame] st K ↔
    K (if seedB sd = true ∧ frameB frame = true then .tup [.agg (newT sd frame).c, .int .i64 0] else .tup [.agg [.int .i64 0, .int .i64 0, .int .i64 0, .int .i64 0, .int .i64 0], .int .i64 1]) st := by
  rw [F_ro (mf := m_trickle_New) rfl rfl]
  cases h1 : seedB sd with
  | false => simp only [m_trickle_New, bC, bW, bD, bZ, wpY', bV, bVD, seval, f_trickle_isSeed, h1]
  | true =>
    cases h2 : frameB frame with
    | false => simp only [m_trickle_New, bC, bW, bD, bZ, wpY', bV, bVD, seval, f_trickle_isSeed, f_trickle_isFrame, h1, h2]
    | true =>
      have e := begin_w (len := 1) (by omega) (frame_iff.1 h2) (seed_iff.1 h1)
      rw [show Int.tdiv 1 2 = 0 from rfl] at e
      simp only [m_trickle_New, bC, bW, bD, bZ, wpY', bV, bVD, seval, f_trickle_isSeed, f_trickle_isFrame, h1, h2, F_rw (X := XX) (f := n_ptrickle_timer_begin) (mf := m_ptrickle_timer_begin) rfl, m_ptrickle_timer_begin, f_random_Below, e, newT, Tm.c]
      rfl
theorem f_trickle_Reset {iv bg fi ct sd frame : Int} : WpF XX .ro n_trickle_Reset [.agg [.int .i64 iv, .int .i64 bg, .int .i64 fi, .int .i64 ct, .int .i64 sd], .int .i64 frame] st K ↔ K (.agg (resetT ⟨iv, bg, fi, ct, sd⟩ frame).c) st := by
  rw [F_ro (mf := m_trickle_Reset) rfl rfl]
  unfold resetT
  cases h1 : validT ⟨iv, bg, fi, ct, sd⟩ with
  | false => simp only [m_trickle_Reset, bC, bW, bD, bZ, wpY', bV, bVD, seval, f_trickle_isValid, h1, Tm.c]
  | true =>
    cases h2 : frameB frame with
    | false => simp only [m_trickle_Reset, bC, bW, bD, bZ, wpY', bV, bVD, seval, f_trickle_isValid, f_trickle_isFrame, h1, h2, Tm.c]
    | true =>
      by_cases h3 : iv = 1
      · simp only [m_trickle_Reset, bC, bW, bD, bZ, wpY', bV, bVD, seval, f_trickle_isValid, f_trickle_isFrame, h1, h2, eq_true h3, Tm.c]
      · have e := begin_w (len := 1) (by omega) (frame_iff.1 h2) (valid_parts h1).2.2.1
        rw [show Int.tdiv 1 2 = 0 from rfl] at e
        simp only [m_trickle_Reset, bC, bW, bD, bZ, wpY', bV, bVD, seval, f_trickle_isValid, f_trickle_isFrame, h1, h2, h3, F_rw (X := XX) (f := n_ptrickle_timer_begin) (mf := m_ptrickle_timer_begin) rfl, m_ptrickle_timer_begin, f_random_Below, e, Tm.c]
        rfl
theorem f_trickle_Hear {iv bg fi ct sd : Int} : WpF XX .ro n_trickle_Hear [.agg [.int .i64 iv, .int .i64 bg, .int .i64 fi, .int .i64 ct, .int .i64 sd]] st K ↔ K (.agg (hearT ⟨iv, bg, fi, ct, sd⟩).c) st := by
  rw [F_ro (mf := m_trickle_Hear) rfl rfl]
  unfold hearT
  cases h1 : validT ⟨iv, bg, fi, ct, sd⟩ with
  | false => simp only [m_trickle_Hear, bC, bW, bD, bZ, wpY', bV, bVD, seval, f_trickle_isValid, h1, Tm.c]
  | true =>
    have hv := valid_parts h1
    simp only at hv
    have w1 : IntKind.i64.wrap (ct + 1) = ct + 1 := wi _ (by omega) (by omega)
    have w2 : (if ct + 1 < 100 then ct + 1 else 100) = min 100 (ct + 1) := by omega
    simp only [m_trickle_Hear, bC, bW, bD, bZ, wpY', bV, bVD, seval, f_trickle_isValid, h1, w1, w2, Tm.c]
theorem f_trickle_Tick {iv bg fi ct sd frame : Int} : WpF XX .ro n_trickle_Tick [.agg [.int .i64 iv, .int .i64 bg, .int .i64 fi, .int .i64 ct, .int .i64 sd], .int .i64 frame] st K ↔
    K (.tup [.agg (tickT ⟨iv, bg, fi, ct, sd⟩ frame).1.c, .bool (tickT ⟨iv, bg, fi, ct, sd⟩ frame).2]) st := by
  rw [F_ro (mf := m_trickle_Tick) rfl rfl]
  unfold tickT
  cases h1 : validT ⟨iv, bg, fi, ct, sd⟩ with
  | false => simp only [m_trickle_Tick, bC, bW, bD, bZ, wpY', bV, bVD, seval, f_trickle_isValid, h1, Tm.c]
  | true =>
    cases h2 : frameB frame with
    | false => simp only [m_trickle_Tick, bC, bW, bD, bZ, wpY', bV, bVD, seval, f_trickle_isValid, f_trickle_isFrame, h1, h2, Tm.c]
    | true =>
      by_cases h3 : bg ≤ frame
      case neg =>
        have h3' : frame < bg := by omega
        simp only [m_trickle_Tick, bC, bW, bD, bZ, wpY', bV, bVD, seval, f_trickle_isValid, f_trickle_isFrame, h1, h2, h3, h3', Tm.c]
      have h3' : ¬ frame < bg := by omega
      have hv := valid_parts h1
      simp only at hv
      have hf := frame_iff.1 h2
      have w1 : IntKind.i64.wrap (bg + iv) = bg + iv := wi _ (by omega) (by omega)
      have w2 : IntKind.i64.wrap (2 * iv) = 2 * iv := wi _ (by omega) (by omega)
      have w3 : (if 2 * iv < 8 then 2 * iv else 8) = min 8 (2 * iv) := by omega
      unfold lateT
      by_cases h4 : bg + iv ≤ frame
      · have e := begin_w (len := min 8 (2 * iv)) (by omega) hf hv.2.2.1
        by_cases h5 : frame = (beginT (min 8 (2 * iv)) frame sd).fi
        · simp only [m_trickle_Tick, bC, bW, bD, bZ, wpY', bV, bVD, seval, f_trickle_isValid, f_trickle_isFrame, h1, h2, h3, h3', h4, w1, w2, w3, F_rw (X := XX) (f := n_ptrickle_timer_begin) (mf := m_ptrickle_timer_begin) rfl, m_ptrickle_timer_begin, f_random_Below, e, Tm.c, eq_true h5.symm, eq_true h5]
          rfl
        · simp only [m_trickle_Tick, bC, bW, bD, bZ, wpY', bV, bVD, seval, f_trickle_isValid, f_trickle_isFrame, h1, h2, h3, h3', h4, w1, w2, w3, F_rw (X := XX) (f := n_ptrickle_timer_begin) (mf := m_ptrickle_timer_begin) rfl, m_ptrickle_timer_begin, f_random_Below, e, Tm.c, h5]
          rfl
      · by_cases h5 : frame = fi
        · simp only [m_trickle_Tick, bC, bW, bD, bZ, wpY', bV, bVD, seval, f_trickle_isValid, f_trickle_isFrame, h1, h2, h3, h3', h4, w1, Tm.c, eq_true h5]
        · simp only [m_trickle_Tick, bC, bW, bD, bZ, wpY', bV, bVD, seval, f_trickle_isValid, f_trickle_isFrame, h1, h2, h3, h3', h4, w1, Tm.c, h5]
end
end Go.Proofs.YtfmbdcmjgnikiaaGreatDoor.Sm
namespace Go.Proofs.YtfmbdcmjgnikiaaGreatDoor.Sm
open Go Go.RowKit

/-! ### bits -/
def lenN (x : Nat) : Nat := if x = 0 then 0 else x.log2 + 1
def leadN (x : Nat) : Nat := if x = 0 then 0 else 2 ^ x.log2
theorem lenT_size : lenT.size = 256 := by decide +kernel
theorem lenT_get : ∀ j : Nat, j < 256 → (lenT.data.getD j 0).toNat = lenN j := by decide +kernel
theorem log2_256 {x : Nat} (h : 256 ≤ x) : x.log2 = 8 + (x / 256).log2 := by
  have e : ∀ y : Nat, 2 ≤ y → y.log2 = (y / 2).log2 + 1 := fun y hy => by rw [Nat.log2_def, if_pos hy]
  rw [e x (by omega), e (x / 2) (by omega), e (x / 2 / 2) (by omega), e (x / 2 / 2 / 2) (by omega), e (x / 2 / 2 / 2 / 2) (by omega), e (x / 2 / 2 / 2 / 2 / 2) (by omega), e (x / 2 / 2 / 2 / 2 / 2 / 2) (by omega), e (x / 2 / 2 / 2 / 2 / 2 / 2 / 2) (by omega)]
  simp only [Nat.div_div_eq_div_mul, Nat.reduceMul]
  omega
theorem log2_16 {x : Nat} (h : x < 65536) : x.log2 < 16 := by
  by_cases h0 : x = 0
  · subst h0; decide
  · exact (Nat.log2_lt h0).2 h
theorem len_16 {x : Nat} (h : x < 65536) : lenN x ≤ 16 := by
  have := log2_16 h
  unfold lenN
  split <;> omega
section
variable {st : St} {K : SV → St → Prop}
theorem f_bits_Len {x : Nat} (h : x < 65536) : WpF XX .ro n_bits_Len [.int .u64 x] st K ↔ K (.int .i64 (lenN x)) st := by
  rw [F_ro (mf := m_bits_Len) rfl rfl]
  simp only [m_bits_Len, bC, bW, bD, bZ, wpY', bV, bVD, seval]
  rw [F_ro (mf := m_bits_Len64) rfl rfl]
  have h1 : ¬ (4294967296 : Int) ≤ x := by omega
  have h2 : ¬ (65536 : Int) ≤ x := by omega
  have h8 : min 8 IntKind.u64.bits = 8 := rfl
  by_cases h3 : 256 ≤ x
  · have h3' : (256 : Int) ≤ x := by omega
    have e1 : (x : Int).fdiv 256 = ((x / 256 : Nat) : Int) := by rw [Int.fdiv_eq_ediv_of_nonneg _ (by decide)]; rfl
    have e2 : IntKind.u8.wrap ((x / 256 : Nat) : Int) = ((x / 256 : Nat) : Int) := wb8 _ (by omega) (by omega)
    have e3 := lenT_get (x / 256) (by omega)
    have e4 : ((x / 256 : Nat) : Int) < 256 := by omega
    have l1 := log2_256 h3
    have l2 := len_16 h
    have e5 : IntKind.i64.wrap (8 + IntKind.i64.wrap ((lenN (x / 256) : Nat) : Int)) = (lenN x : Int) := by
      have : lenN x = 8 + lenN (x / 256) := by
        unfold lenN
        rw [if_neg (by omega), if_neg (by omega), l1]; omega
      rw [wi ((lenN (x / 256) : Nat) : Int) (by omega) (by omega), wi _ (by omega) (by omega)]
      omega
    have w8 : IntKind.i64.wrap 8 = 8 := rfl
    simp only [m_bits_Len64, bC, bW, bD, bZ, wpY', bV, bVD, seval, h1, h2, h3', h8, e1, e2, lenT_size, e3, e4, e5, w8]
  · have h3' : ¬ (256 : Int) ≤ x := by omega
    have e2 : IntKind.u8.wrap (x : Int) = x := wb8 _ (by omega) (by omega)
    have e3 := lenT_get x (by omega)
    have e4 : (x : Int) < 256 := by omega
    have l2 := len_16 h
    have e5 : IntKind.i64.wrap (IntKind.i64.wrap ((lenN x : Nat) : Int)) = (lenN x : Int) := by
      rw [wi (lenN x : Int) (by omega) (by omega), wi _ (by omega) (by omega)]
    simp only [m_bits_Len64, bC, bW, bD, bZ, wpY', bV, bVD, seval, h1, h2, h3', e2, lenT_size, e3, e4, e5, Int.zero_add]

/-! ### blocks, equations -/
structure Bk where
  l : List UInt8
  h : l.length = 16
def Bk.of (d : List UInt8) : Bk := ⟨(d ++ List.replicate 16 0).take 16, by simp⟩
def Bk.zero : Bk := ⟨List.replicate 16 0, rfl⟩
def xorL (a b : List UInt8) : List UInt8 := List.zipWith (· ^^^ ·) a b
def Bk.xor (a b : Bk) : Bk := ⟨xorL a.l b.l, by simp [xorL, a.h, b.h]⟩
theorem Bk.ext {a b : Bk} (h : a.l = b.l) : a = b := by cases a; cases b; cases h; rfl
theorem Bk.of_eq {d : List UInt8} (h : d.length = 16) : (Bk.of d).l = d := by
  show (d ++ List.replicate 16 0).take 16 = d
  rw [List.take_append_of_le_length (by omega), List.take_of_length_le (by omega)]
theorem bk_take (b : Bk) : List.take 16 (b.l.map b8) = b.l.map b8 := List.take_of_length_le (by simp [b.h])
theorem bk_len (b : Bk) : b.l.length = 16 := b.h
theorem bk_all (b : Bk) : (b.l.map b8).all pl1 = true := b8_all b.l
theorem setc_bk (d : List UInt8) (x : SV) (r : List SV) : setc (x :: List.replicate 16 (SV.int .u8 0)) 1 (List.take (min d.length 16) (d.map b8)) = x :: (Bk.of d).l.map b8 := by
  have := setc_app (List.take (min d.length 16) (d.map b8)) [x] (List.replicate 16 (SV.int .u8 0)) (by simp; omega)
  simp only [List.cons_append, List.nil_append, List.length_cons, List.length_nil] at this
  rw [this]
  congr 1
  have e : SV.int .u8 0 = b8 0 := rfl
  show _ = ((d ++ List.replicate 16 0).take 16).map b8
  rw [e, List.drop_replicate, List.length_take, List.length_map, List.take_append, List.map_append, List.take_replicate, List.map_replicate, List.map_take]
  congr 1
  · rw [← List.map_take, ← List.map_take]
    congr 1
    by_cases h : d.length ≤ 16
    · rw [Nat.min_eq_left h, List.take_of_length_le (Nat.le_refl _), List.take_of_length_le h]
    · rw [Nat.min_eq_right (by omega)]
  · congr 1; omega
theorem setc_16 {y1 y2 y3 y4 y5 y6 y7 y8 y9 y10 y11 y12 y13 y14 y15 y16 : SV} {b : Bk} : setc [y1, y2, y3, y4, y5, y6, y7, y8, y9, y10, y11, y12, y13, y14, y15, y16] 0 (b.l.map b8) = b.l.map b8 := by
  rw [setc_0 _ _ (by simp [b.h]), List.drop_eq_nil_of_le (by simp [b.h]), List.append_nil]
theorem setc_16b {a b : Bk} : setc (a.l.map b8) 0 (b.l.map b8) = b.l.map b8 := by
  rw [setc_0 _ _ (by simp [b.h, a.h]), List.drop_eq_nil_of_le (by simp [b.h, a.h]), List.append_nil]
theorem setc_17 {x y1 y2 y3 y4 y5 y6 y7 y8 y9 y10 y11 y12 y13 y14 y15 y16 : SV} {b : Bk} : setc [x, y1, y2, y3, y4, y5, y6, y7, y8, y9, y10, y11, y12, y13, y14, y15, y16] 1 (b.l.map b8) = x :: b.l.map b8 := by
  have := setc_app (b.l.map b8) [x] [y1, y2, y3, y4, y5, y6, y7, y8, y9, y10, y11, y12, y13, y14, y15, y16] (by simp [b.h])
  simp only [List.cons_append, List.nil_append, List.length_cons, List.length_nil] at this
  rw [this, List.drop_eq_nil_of_le (by simp [b.h]), List.append_nil]
theorem setc_17b {x : SV} {a b : Bk} : setc (x :: a.l.map b8) 1 (b.l.map b8) = x :: b.l.map b8 := by
  have := setc_app (b.l.map b8) [x] (a.l.map b8) (by simp [b.h, a.h])
  simp only [List.cons_append, List.nil_append, List.length_cons, List.length_nil] at this
  rw [this, List.drop_eq_nil_of_le (by simp [b.h, a.h]), List.append_nil]
theorem expL_b8 (lo : Nat) (h : HL) (l : List UInt8) : expL lo h (l.map b8) = some (l.map b8) := by
  induction l with
  | nil => rfl
  | cons a l ih => rw [List.map_cons, expL_c, ih]; rfl
set_option linter.defProp false in
def bK := And.intro @bk_take (And.intro @bk_len (And.intro @b8_all (And.intro @b8_cB (And.intro @setc_16 (And.intro @setc_16b (And.intro @setc_17 (And.intro @setc_17b @expL_b8)))))))
def fmB (r : Rw) : Bool := decide (1 ≤ r.mask) && decide (r.mask < 65536) && decide (r.data.xs.length = 16)
theorem f_solve_leading {m : Nat} {b : Bk} (h : m < 65536) : WpF XX .ro n_solve_equation_leading [.agg (.int .i64 m :: b.l.map b8)] st K ↔ K (.int .i64 (leadN m)) st := by
  have hp : (([.agg (.int .i64 m :: b.l.map b8)] : List SV).all plain) = true := by simp [plain, pl1]; intro a _; rfl
  rw [F_ro (mf := m_solve_equation_leading) rfl hp]
  have w1 : IntKind.u64.wrap (m : Int) = m := wu _ (by omega) (by omega)
  have hl := len_16 h
  have h1 : ¬ ((lenN m : Nat) : Int) < 0 := by omega
  have h2 : min (lenN m) IntKind.i64.bits = lenN m := Nat.min_eq_left (by simp [IntKind.bits]; omega)
  have h3 : min 1 IntKind.i64.bits = 1 := rfl
  have w2 : (IntKind.i64.wrap (1 * 2 ^ lenN m)).fdiv 2 = (leadN m : Int) := by
    have hb : (2 : Nat) ^ lenN m ≤ 2 ^ 16 := Nat.pow_le_pow_right (by omega) hl
    have e : (1 * 2 ^ lenN m : Int) = ((2 ^ lenN m : Nat) : Int) := by simp
    have e2 : 2 ^ lenN m / 2 = leadN m := by
      unfold lenN leadN
      split
      · rfl
      · rw [Nat.pow_succ]; omega
    rw [e, ← e2]
    generalize 2 ^ lenN m = p at hb
    rw [wi _ (by omega) (by omega), Int.fdiv_eq_ediv_of_nonneg _ (by decide)]
    omega
  simp only [m_solve_equation_leading, bC, bW, bD, bZ, wpY', bV, bVD, seval, w1, f_bits_Len h, h1, h2, h3, w2]
theorem bk_plain (x : SV) (hx : pl1 x = true) (b : Bk) : plain (.agg (x :: b.l.map b8)) = true := by
  show (x :: b.l.map b8).all pl1 = true
  rw [List.all_cons, hx, bk_all]; rfl
theorem rep16 : (List.replicate 16 [SV.int .u8 0]).flatten = [.int .u8 0, .int .u8 0, .int .u8 0, .int .u8 0, .int .u8 0, .int .u8 0, .int .u8 0, .int .u8 0, .int .u8 0, .int .u8 0, .int .u8 0, .int .u8 0, .int .u8 0, .int .u8 0, .int .u8 0, .int .u8 0] := rfl
theorem f_solve_formed {mask : Int} {d : List UInt8} {nl tg : Bool} : WpF XX .ro n_solve_formed [.agg [.int .i64 mask, .tree (d.map b8) nl tg]] st K ↔
    K (.tup [.agg (.int .i64 mask :: (Bk.of d).l.map b8), .bool (fmB ⟨mask, ⟨d, nl, tg⟩⟩)]) st := by
  rw [F_ro (mf := m_solve_formed) rfl rfl]
  have hs := setc_bk d (.int .i64 mask) []
  have hr : List.replicate 16 (SV.int .u8 0) = [.int .u8 0, .int .u8 0, .int .u8 0, .int .u8 0, .int .u8 0, .int .u8 0, .int .u8 0, .int .u8 0, .int .u8 0, .int .u8 0, .int .u8 0, .int .u8 0, .int .u8 0, .int .u8 0, .int .u8 0, .int .u8 0] := rfl
  rw [hr] at hs
  by_cases h1 : 1 ≤ mask
  · by_cases h2 : mask < 65536
    · by_cases h3 : d.length = 16
      · have h3' : (d.length : Int) = 16 := by omega
        simp only [m_solve_formed, bC, bW, bD, bZ, wpY', bV, bVD, seval, b8_len1, b8_flat, hs, bK, h1, h2, eq_true h3', eq_true h3, fmB]
      · have h3' : ¬ (d.length : Int) = 16 := by omega
        simp only [m_solve_formed, bC, bW, bD, bZ, wpY', bV, bVD, seval, b8_len1, b8_flat, hs, bK, h1, h2, h3', h3, fmB]
    · simp only [m_solve_formed, bC, bW, bD, bZ, wpY', bV, bVD, seval, b8_len1, b8_flat, hs, bK, h1, h2, fmB]
  · simp only [m_solve_formed, bC, bW, bD, bZ, wpY', bV, bVD, seval, b8_len1, b8_flat, hs, bK, h1, fmB]
theorem f_solve_row {m : Int} {b : Bk} : WpF XX .ro n_solve_equation_row [.agg (.int .i64 m :: b.l.map b8)] st K ↔ K (.agg [.int .i64 m, .tree (b.l.map b8) false false]) st := by
  rw [F_ro (mf := m_solve_equation_row) rfl (by rw [List.all_cons, bk_plain _ rfl]; rfl)]
  have h1 : min 16 16 = 16 := rfl
  simp only [m_solve_equation_row, bC, bW, bD, bZ, wpY', bV, bVD, seval, rep16, bK, h1]
theorem xor_u8 (c d : UInt8) : xorI .u8 (c.toNat : Int) (d.toNat : Int) = ((c ^^^ d).toNat : Int) := by
  have e1 : BitVec.ofInt 8 (c.toNat : Int) = c.toBitVec := by
    apply BitVec.eq_of_toNat_eq
    have := c.toNat_lt
    simp [BitVec.toNat_ofInt]
  have e2 : BitVec.ofInt 8 (d.toNat : Int) = d.toBitVec := by
    apply BitVec.eq_of_toNat_eq
    simp [BitVec.toNat_ofInt]
  show IntKind.u8.wrap ((BitVec.ofInt 8 (c.toNat : Int) ^^^ BitVec.ofInt 8 (d.toNat : Int)).toNat : Nat) = _
  rw [e1, e2]
  have : (c.toBitVec ^^^ d.toBitVec).toNat = (c ^^^ d).toNat := rfl
  rw [this]
  have h := (c ^^^ d).toNat_lt
  revert h
  generalize (c ^^^ d).toNat = n
  intro h
  simp [IntKind.wrap, IntKind.bits, IntKind.signed]
  omega
def mixK (k : Nat) (a b : List UInt8) : List UInt8 := (xorL a b).take k ++ a.drop k
theorem mixK_set {a b : Bk} {k : Nat} {c e : UInt8} (hc : (mixK k a.l b.l)[k]? = some c) (he : b.l[k]? = some e) : (mixK k a.l b.l).set k (c ^^^ e) = mixK (k + 1) a.l b.l := by
  have hk : k < 16 := by have := (List.getElem?_eq_some_iff.1 he).1; rw [b.h] at this; exact this
  have hl : (xorL a.l b.l).length = 16 := (a.xor b).h
  have ht : ((xorL a.l b.l).take k).length = k := by rw [List.length_take, hl]; omega
  have hd : a.l.drop k = c :: a.l.drop (k + 1) := by
    unfold mixK at hc
    rw [List.getElem?_append_right (by omega), ht, Nat.sub_self] at hc
    obtain ⟨c', h1, h2⟩ := get_some (l := a.l) (k := k) (by rw [a.h]; exact hk)
    rw [h2] at hc ⊢
    simpa using hc
  have hx : (xorL a.l b.l)[k]? = some (c ^^^ e) := by
    unfold xorL
    have : a.l[k]? = some c := by
      obtain ⟨c', h1, h2⟩ := get_some (l := a.l) (k := k) (by rw [a.h]; exact hk)
      rw [hd] at h2
      simp only [List.cons.injEq] at h2
      rw [h1, h2.1]
    simp [List.getElem?_zipWith, this, he]
  unfold mixK
  rw [List.set_append_right _ _ (by omega), ht, Nat.sub_self, hd, List.set_cons_zero, List.take_add_one, hx]
  simp
theorem mixK_len (a b : Bk) (k : Nat) (hk : k ≤ 16) : (mixK k a.l b.l).length = 16 := by
  have hl : (xorL a.l b.l).length = 16 := (a.xor b).h
  simp [mixK, hl, a.h]; omega
theorem mixK_0 (a b : Bk) : mixK 0 a.l b.l = a.l := by simp [mixK]
theorem mixK_16 (a b : Bk) : mixK 16 a.l b.l = (a.xor b).l := by
  have hl : (xorL a.l b.l).length = 16 := (a.xor b).h
  unfold mixK
  rw [List.take_of_length_le (by omega), List.drop_eq_nil_of_le (by simp [a.h]), List.append_nil]; rfl
theorem mixK_get (a b : Bk) {k : Nat} (hk : k < 16) : ∃ c e, (mixK k a.l b.l)[k]? = some c ∧ b.l[k]? = some e :=
  ⟨_, _, List.getElem?_eq_getElem (by rw [mixK_len a b k (by omega)]; exact hk), List.getElem?_eq_getElem (by rw [b.h]; exact hk)⟩
theorem L_plus {a b : Bk} {Z : List SV} {Q : Ex → St → Prop} : ∀ (d k : Nat), k + d = 16 →
    (L_solve_block_plus_0 XX (.ptr 0 0) (.ptr 1 0) (.ptr 2 0) (.int .i64 k) [(2, Z), (1, b.l.map b8), (0, (mixK k a.l b.l).map b8)] 3 [] 0 Q ↔
      Q (.exit 0) ⟨[(2, .ptr 0 0), (4, .ptr 2 0)], [(2, Z), (1, b.l.map b8), (0, (a.xor b).l.map b8)], 3, [], 0⟩) := by
  intro d
  induction d with
  | zero =>
    intro k hk
    obtain rfl : k = 16 := by omega
    rw [L_solve_block_plus_0_unf]
    simp only [b_solve_block_plus_0, bC, bW, bD, bZ, wpY', bV, bVD, seval, Int.lt_irrefl, mixK_16, Int.ofNat_eq_natCast]
  | succ d ih =>
    intro k hk
    have hk' : (k : Int) < 16 := by omega
    obtain ⟨c, e, hc, he⟩ := mixK_get a b (k := k) (by omega)
    have hs : ((mixK k a.l b.l).map b8).set k (.int .u8 ((c ^^^ e).toNat : Int)) = (mixK (k + 1) a.l b.l).map b8 := by rw [← mixK_set hc he, List.map_set]; rfl
    have hl := mixK_len a b k (by omega)
    have hk1 : k + 1 ≤ 16 := by omega
    have hw : IntKind.i64.wrap ((k : Int) + 1) = ((k + 1 : Nat) : Int) := wi_s (n := 16) (by omega) (by omega)
    rw [L_solve_block_plus_0_unf]
    simp only [b_solve_block_plus_0, bC, bW, bD, bZ, wpY', bV, bVD, seval, hk', hc, he, b8_eq, xor_u8, hw, hl, hk1, hs, L_solve_block_plus_0_eq]
    exact ih (k + 1) (by omega)
theorem bk_plain0 (b : Bk) : plain (.agg (b.l.map b8)) = true := bk_all b
theorem f_solve_plus {a b : Bk} : WpF XX .ro n_solve_block_plus [.agg (a.l.map b8), .agg (b.l.map b8)] st K ↔ K (.agg ((a.xor b).l.map b8)) st := by
  rw [F_ro (mf := m_solve_block_plus) rfl (by rw [List.all_cons, List.all_cons, bk_plain0, bk_plain0]; rfl)]
  have w0 := fun Z Q => L_plus (a := a) (b := b) (Z := Z) (Q := Q) 16 0 (by omega)
  simp only [mixK_0, Int.cast_ofNat_Int] at w0
  simp only [m_solve_block_plus, bC, bW, bD, bZ, wpY', bV, bVD, seval, bK, L_solve_block_plus_0_eq, w0]
theorem L_add {a b : Bk} {nx wb s : Nat} {ls : List (Nat × LRec)} {Q : Ex → St → Prop} {R : Prop} (hs : s < nx) (hwb : wb ≤ s) : ∀ (d k : Nat) (h : Heap), k + d = 16 → look h s = some ((mixK k a.l b.l).map b8) → look h nx = some (b.l.map b8) →
    (∀ h', look h' s = some ((a.xor b).l.map b8) → (∀ j, j ≠ s → look h' j = look h j) → (Q (.exit 0) ⟨[], h', nx + 1, ls, wb⟩ ↔ R)) →
    (L_fountain_Encode_1_0 XX (.ptr s 0) (.ptr nx 0) (.int .i64 k) h (nx + 1) ls wb Q ↔ R) := by
  intro d
  induction d with
  | zero =>
    intro k h hk h1 h2 q
    obtain rfl : k = 16 := by omega
    rw [L_fountain_Encode_1_0_unf]
    simp only [b_fountain_Encode_1_0, bC, bW, bZ, wpY', bV, seval, Int.lt_irrefl, Int.ofNat_eq_natCast]
    rw [mixK_16] at h1
    exact q h h1 fun _ _ => rfl
  | succ d ih =>
    intro k h hk h1 h2 q
    have hk' : (k : Int) < 16 := by omega
    obtain ⟨c, e, hc, he⟩ := mixK_get a b (k := k) (by omega)
    have hs : ((mixK k a.l b.l).map b8).set k (.int .u8 ((c ^^^ e).toNat : Int)) = (mixK (k + 1) a.l b.l).map b8 := by rw [← mixK_set hc he, List.map_set]; rfl
    have hl := mixK_len a b k (by omega)
    have hk1 : k + 1 ≤ 16 := by omega
    have hw : IntKind.i64.wrap ((k : Int) + 1) = ((k + 1 : Nat) : Int) := wi_s (n := 16) (by omega) (by omega)
    rw [L_fountain_Encode_1_0_unf]
    simp (disch := omega) only [b_fountain_Encode_1_0, bC, bD, bH, bZ, wpY', bV, bVD, seval, hk', hc, he, b8_eq, xor_u8, hw, hl, hk1, hs, h1, h2, hwb, L_fountain_Encode_1_0_eq]
    refine ih (k + 1) _ (by omega) ?_ ?_ fun h' i1 i2 => q h' i1 fun j hj => ?_
    · simp (disch := omega) only [bC, bD, bH, bZ, wpY', bV, bVD, seval, h1]
    · simp (disch := omega) only [bC, bD, bH, bZ, wpY', bV, bVD, seval, h2]
    · rw [i2 j hj]; simp (disch := omega) only [bC, bD, bH, bZ, wpY', bV, bVD, seval]
end
end Go.Proofs.YtfmbdcmjgnikiaaGreatDoor.Sm
