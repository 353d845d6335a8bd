/- Joining pages, as the program does it. Conditions: none. Joining pages, as the reference does it. Conditions: none. Sound states. Conditions: none. Clones, and the next page, as the program puts it. Conditions: none. The next page, as the program puts it. Conditions: none. The next page, as the reference puts it. Conditions: none. -/
import Derived.Test.YtfmbdcmjgnikiaaGreatDoorM8
set_option linter.unusedSimpArgs false
set_option linter.unusedVariables false
namespace Go.Proofs.YtfmbdcmjgnikiaaGreatDoor.Sm
open Go Go.RowKit

section
variable {h : Heap} {nx wb : Nat} {ls : List (Nat × LRec)} {Q : Ex → St → Prop} {R : Prop} {st : St} {K : SV → St → Prop}
theorem L_concat_0 {a : List By} {n1 g1 : Bool} (ha : a.length ≤ 16) (hs : ∀ p ∈ a, p.xs.length = 256) {v0 : SV} : ∀ (d k : Nat), k + d = a.length →
    (L_slices_Concat_sbyte_byte_0 XX v0 (.int .i64 (256 * k : Nat)) (.tree (a.map By.v) n1 g1) (.int .i64 a.length) (.int .i64 k) h nx ls wb Q ↔ Q (.exit 0) ⟨[(0, v0), (3, .int .i64 (256 * a.length : Nat))], h, nx, ls, wb⟩) := by
  intro d
  induction d with
  | zero =>
    intro k hk
    obtain rfl : k = a.length := by omega
    rw [L_slices_Concat_sbyte_byte_0_unf]
    simp only [b_slices_Concat_sbyte_byte_0, bC, bW, bZ, wpY', bV, seval, Int.lt_irrefl]
  | succ d ih =>
    intro k hk
    have hlt : k < a.length := by omega
    obtain ⟨c, hc, hd⟩ := get_some hlt
    have hcs := hs c (List.mem_of_getElem? hc)
    have w1 : IntKind.i64.wrap (((256 * k : Nat) : Int) + 256) = ((256 * (k + 1) : Nat) : Int) := by rw [wi _ (by omega) (by omega)]; omega
    have w2 : ¬ ((256 * (k + 1) : Nat) : Int) < 0 := by omega
    rw [L_slices_Concat_sbyte_byte_0_unf]
    simp only [b_slices_Concat_sbyte_byte_0, bC, bW, bZ, wpY', bV, seval, lt_c hlt, hc, By.v, Sl.v, hcs, w1, w2, wi_s hlt (by omega), L_slices_Concat_sbyte_byte_0_eq]
    exact ih (k + 1) (by omega)
theorem L_concat_1 {a : List By} {n1 g1 : Bool} (ha : a.length ≤ 16) (hs : ∀ p ∈ a, p.xs.length = 256) : ∀ (d k id : Nat) (acc : List UInt8) (cs : List SV) (nx : Nat), k + d = a.length → acc.length = 256 * k → cs.take acc.length = acc.map b8 → id < nx →
    (∀ (id' nx' : Nat) (cs' : List SV), cs'.take (acc ++ allB (a.drop k)).length = (acc ++ allB (a.drop k)).map b8 → (Q (.exit 2) ⟨[(6, .own id' 0 (acc ++ allB (a.drop k)).length 1)], [(id', cs')], nx', ls, 0⟩ ↔ R)) →
    (L_slices_Concat_sbyte_byte_1 XX (.own id 0 acc.length 1) (.tree (a.map By.v) n1 g1) (.int .i64 a.length) (.int .i64 k) [(id, cs)] nx ls 0 Q ↔ R) := by
  intro d
  induction d with
  | zero =>
    intro k id acc cs nx hk hacc hcs hid q
    obtain rfl : k = a.length := by omega
    rw [L_slices_Concat_sbyte_byte_1_unf]
    simp only [b_slices_Concat_sbyte_byte_1, bC, bW, bZ, wpY', bV, seval, Int.lt_irrefl]
    have := q id nx cs (by rw [List.drop_length]; simpa [allB] using hcs)
    rw [List.drop_length] at this
    simpa [allB] using this
  | succ d ih =>
    intro k id acc cs nx hk hacc hcs hid q
    have hlt : k < a.length := by omega
    obtain ⟨c, hc, hd⟩ := get_some hlt
    have hc256 := hs c (List.mem_of_getElem? hc)
    have hL : acc.length + 256 ≤ 4294967296 := by omega
    have hall : allB (a.drop k) = c.xs ++ allB (a.drop (k + 1)) := by rw [hd]; rfl
    have hne : ¬ id = nx := by omega
    rw [L_slices_Concat_sbyte_byte_1_unf]
    have e : List.map b8 acc ++ List.map b8 c.xs = List.map b8 (acc ++ c.xs) := by rw [List.map_append]
    have e2 : acc.length + 256 = (acc ++ c.xs).length := by rw [List.length_append, hc256]
    simp only [b_slices_Concat_sbyte_byte_1, bC, bW, bZ, wpY', bV, seval, lt_c hlt, hc, By.v, Sl.v, b8_len1, b8_flat, hc256, b8_cB, hcs, hL, hne, wi_s hlt (by omega), L_slices_Concat_sbyte_byte_1_eq]
    rw [e, e2]
    refine ih (k + 1) nx (acc ++ c.xs) _ (nx + 1) (by omega) (by rw [← e2]; omega) ?_ (by omega) fun id' nx' cs' j1 => ?_
    · exact List.take_of_length_le (by simp)
    · rw [List.append_assoc, ← hall] at j1 ⊢
      exact q id' nx' cs' j1
theorem f_Concat {a : List By} {n1 g1 : Bool} (h0 : a ≠ []) (ha : a.length ≤ 16) (hs : ∀ p ∈ a, p.xs.length = 256) : WpF XX .ro n_slices_Concat_sbyte_byte [.tree (a.map By.v) n1 g1] st K ↔ K (.tree ((allB a).map b8) false false) st := by
  rw [F_ro (mf := m_slices_Concat_sbyte_byte) rfl rfl]
  have w0 := fun v0 h nx ls wb Q => L_concat_0 (v0 := v0) (h := h) (nx := nx) (ls := ls) (wb := wb) (Q := Q) (n1 := n1) (g1 := g1) ha hs a.length 0 (by omega)
  simp only [Nat.mul_zero, Int.cast_ofNat_Int] at w0
  have h1 : a.length ≠ 0 := by simpa using h0
  have h2 : ¬ ((256 * a.length : Nat) : Int) < 0 := by omega
  have h3 : (0 : Int) < ((256 * a.length : Nat) : Int) := by omega
  have h4 : ((256 * a.length : Nat) : Int) ≤ 4294967296 := by omega
  have h5 : ¬ ((256 * a.length : Nat) : Int) = 0 := by omega
  have w1 : IntKind.i64.wrap (((256 * a.length : Nat) : Int) - 0) = ((256 * a.length : Nat) : Int) := by rw [wi _ (by omega) (by omega)]; omega
  have w2 : IntKind.i64.wrap 0 = 0 := by rw [wi _ (by omega) (by omega)]
  have h6 : ((256 * a.length : Nat) : Int) + 0 ≤ 4294967296 := by omega
  simp only [m_slices_Concat_sbyte_byte, bC, bW, bZ, wpY', bV, seval, L_slices_Concat_sbyte_byte_0_eq, w0, F_rw (X := XX) (f := n_slices_Grow_sbyte_byte) (mf := m_slices_Grow_sbyte_byte) rfl, m_slices_Grow_sbyte_byte, h2, h3, h4, h5, h6, w1, w2, L_slices_Concat_sbyte_byte_1_eq]
  refine L_concat_1 ha hs a.length 0 0 [] _ _ (by omega) (by simp) rfl ?_ fun id' nx' cs' j1 => ?_
  · omega
  rw [List.nil_append, List.drop_zero] at j1 ⊢
  simp only [bC, bW, bZ, wpY', bV, seval, j1, b8_all]

def joinOK (ps : List By) (size : Int) : Bool := sizedI size && decide ((ps.length : Int) = countI size) && pagedI ps
theorem allB_len : ∀ (a : List By), (∀ p ∈ a, p.xs.length = 256) → (allB a).length = 256 * a.length
  | [], _ => rfl
  | p :: a, h => by
    have := allB_len a fun q hq => h q (List.mem_cons_of_mem _ hq)
    have hp := h p List.mem_cons_self
    simp only [allB, List.flatMap_cons, List.length_append, List.length_cons] at this ⊢
    omega
theorem f_image_Join {a : List By} {n1 g1 : Bool} {size : Int} (ha : a.length < 4611686018427387904) : WpF XX .ro n_image_Join [.tree (a.map By.v) n1 g1, .int .i64 size] st K ↔
    K (if joinOK a size = true then (if allZ ((allB a).drop size.toNat) = true then .tup [.tree (((allB a).take size.toNat).map b8) false true, .int .i64 0] else .tup [.tree [] true true, .int .i64 12]) else .tup [.tree [] true true, .int .i64 1]) st := by
  rw [F_ro (mf := m_image_Join) rfl rfl]
  unfold joinOK
  cases h1 : sizedI size with
  | false => simp only [m_image_Join, bC, bW, bZ, wpY', bV, seval, f_image_sized, h1]
  | true =>
    have h1' := h1
    simp only [sizedI, Bool.and_eq_true, decide_eq_true_eq] at h1'
    by_cases h2 : (a.length : Int) = countI size
    · cases h3 : pagedI a with
      | false => simp only [m_image_Join, bC, bW, bZ, wpY', bV, seval, f_image_sized, f_image_count (n := size) (by omega) (by omega), f_image_paged ha, h1, h2, h3]
      | true =>
        have h3' : ∀ p ∈ a, p.xs.length = 256 := fun p hp => by simpa using List.all_eq_true.1 h3 p hp
        have hc : 1 ≤ a.length ∧ a.length ≤ 16 ∧ size ≤ 256 * a.length := by unfold countI at h2; omega
        have h0 : a ≠ [] := fun e => by subst e; simp at hc
        obtain ⟨S, rfl⟩ : ∃ S : Nat, size = S := ⟨size.toNat, by omega⟩
        have hl := allB_len a h3'
        have hS : S ≤ (allB a).length := by omega
        have hS' : (S : Int) ≤ ((allB a).length : Int) := by omega
        have hd : List.take ((allB a).length - S) (List.drop S (allB a)) = List.drop S (allB a) := List.take_of_length_le (by simp)
        simp only [m_image_Join, bC, bW, bZ, wpY', bV, seval, f_image_sized, f_image_count (n := (S : Int)) (by omega) (by omega), f_image_paged ha, h1, h2, h3, f_Concat h0 hc.2.1 h3', b8_hd, hS', Int.ofNat_le, hS, ← List.map_drop, ← List.map_take, hd]
        refine f_Trim (by rw [List.length_drop]; omega) fun l' nl' tg' j1 => ?_
        cases hz : allZ ((allB a).drop S) with
        | true =>
          have : l' = [] := j1.2 hz
          subst this
          simp only [bC, bW, bZ, wpY', bV, seval, b8_hd, hS', Int.ofNat_le, hS, ← List.map_drop, ← List.map_take, ← h2]
        | false =>
          have : l' ≠ [] := fun e => by rw [j1.1 e] at hz; cases hz
          have hl' : l'.length ≠ 0 := by simpa using this
          have hl2 : (0 : Int) < (l'.length : Int) := by omega
          simp only [bC, bW, bZ, wpY', bV, seval, hl2, ← h2]
    · simp only [m_image_Join, bC, bW, bZ, wpY', bV, seval, f_image_sized, f_image_count (n := size) (by omega) (by omega), h1, h2]
end
end Go.Proofs.YtfmbdcmjgnikiaaGreatDoor.Sm
namespace Go.Proofs.YtfmbdcmjgnikiaaGreatDoor.Sm
open Go Go.RowKit

section
variable {ls : List (Nat × LRec)} {Q : Ex → St → Prop} {R : Prop} {st : St} {K : SV → St → Prop}
end
end Go.Proofs.YtfmbdcmjgnikiaaGreatDoor.Sm
namespace Go.Proofs.YtfmbdcmjgnikiaaGreatDoor.Sm
open Go Go.RowKit

structure Rw where
  mask : Int
  data : By
def Rw.v (r : Rw) : SV := .agg [.int .i64 r.mask, By.v r.data]
def Sl.ok {α : Type} (s : Sl α) : Prop := s.nl = true → s.xs = []
def provedF (dg size : Int) : Nat → List By → List (Sl Int) → Bool
  | i, p :: ps, q :: qs => checkI dg (countI size) i p.xs q.xs && provedF dg size (i + 1) ps qs
  | _, _, _ => true
def soundI (ver size dg start : Int) (pages : List By) (proofs : List (Sl Int)) : Bool :=
  noticeI ver size start && decide ((pages.length : Int) ≤ countI size) && decide (proofs.length = pages.length) && pagedI pages && provedF dg size 0 pages proofs
theorem notice_size {ver size start : Int} (h : noticeI ver size start = true) : 1 ≤ size ∧ size ≤ 4096 := by
  simp only [noticeI, sizedI, Bool.and_eq_true, decide_eq_true_eq] at h
  omega

section
variable {h : Heap} {nx wb : Nat} {ls : List (Nat × LRec)} {Q : Ex → St → Prop} {R : Prop} {st : St} {K : SV → St → Prop}
theorem f_image_proved {ver size dg start : Int} {pages : List By} {n1 g1 : Bool} {proofs : List (Sl Int)} {n2 g2 : Bool} {rows : List Rw} {n3 g3 : Bool} {proof : List Int} {n4 g4 : Bool} {iv bg fi ct sd : Int} {i : Int} {page : List UInt8} {n5 g5 : Bool} {pf : List Int} {n6 g6 : Bool} (h0 : 0 ≤ size) (h1 : size ≤ 1000000000000) (hpg : page.length < 1152921504606846976) (hp : pf.length < 1152921504606846976) :
    WpF XX .ro n_image_load_proved [.agg [.int .i64 ver, .int .i64 size, .int .u64 dg, .int .i64 start, .tree (pages.map By.v) n1 g1, .tree (proofs.map (Sl.v uV)) n2 g2, .tree (rows.map Rw.v) n3 g3, .tree (proof.map uV) n4 g4, .int .i64 iv, .int .i64 bg, .int .i64 fi, .int .i64 ct, .int .i64 sd], .int .i64 i, .tree (page.map b8) n5 g5, .tree (pf.map uV) n6 g6] st K ↔ K (.bool (checkI dg (countI size) i page pf)) st := by
  rw [F_ro (mf := m_image_load_proved) rfl rfl]
  simp only [m_image_load_proved, bC, bW, bD, bZ, wpY', bV, bVD, seval, f_image_count h0 h1, f_tree_Check hpg hp]
theorem provedF_c {dg size : Int} {k : Nat} {pages : List By} {proofs : List (Sl Int)} {p : By} {q : Sl Int} (hp : pages.drop k = p :: pages.drop (k + 1)) (hq : proofs.drop k = q :: proofs.drop (k + 1)) :
    provedF dg size k (pages.drop k) (proofs.drop k) = (checkI dg (countI size) k p.xs q.xs && provedF dg size (k + 1) (pages.drop (k + 1)) (proofs.drop (k + 1))) := by
  rw [hp, hq]; rfl
theorem L_image_sound {ver size dg start : Int} {pages : List By} {n1 g1 : Bool} {proofs : List (Sl Int)} {n2 g2 : Bool} {rows : List Rw} {n3 g3 : Bool} {proof : List Int} {n4 g4 : Bool} {iv bg fi ct sd : Int} {ls : List (Nat × LRec)} (h0 : 0 ≤ size) (h1 : size ≤ 1000000000000) (hl : pages.length ≤ 100) (hlp : proofs.length = pages.length) (hs : ∀ p ∈ pages, p.xs.length = 256) (hq : ∀ q ∈ proofs, q.xs.length < 1152921504606846976) : ∀ (d k : Nat), k + d = pages.length →
    (provedF dg size k (pages.drop k) (proofs.drop k) = true → (Q (.exit 0) ⟨[], [(0, [.int .i64 ver, .int .i64 size, .int .u64 dg, .int .i64 start, .tree (pages.map By.v) n1 g1, .tree (proofs.map (Sl.v uV)) n2 g2, .tree (rows.map Rw.v) n3 g3, .tree (proof.map uV) n4 g4, .int .i64 iv, .int .i64 bg, .int .i64 fi, .int .i64 ct, .int .i64 sd])], 1, ls, 0⟩ ↔ R)) →
    (provedF dg size k (pages.drop k) (proofs.drop k) = false → ∀ e, getE e 2 = .bool false → (Q .ret ⟨e, [(0, [.int .i64 ver, .int .i64 size, .int .u64 dg, .int .i64 start, .tree (pages.map By.v) n1 g1, .tree (proofs.map (Sl.v uV)) n2 g2, .tree (rows.map Rw.v) n3 g3, .tree (proof.map uV) n4 g4, .int .i64 iv, .int .i64 bg, .int .i64 fi, .int .i64 ct, .int .i64 sd])], 1, ls, 0⟩ ↔ R)) →
    (L_image_load_sound_0 XX (.ptr 0 0) (.tree (pages.map By.v) n1 g1) (.int .i64 pages.length) (.int .i64 k) [(0, [.int .i64 ver, .int .i64 size, .int .u64 dg, .int .i64 start, .tree (pages.map By.v) n1 g1, .tree (proofs.map (Sl.v uV)) n2 g2, .tree (rows.map Rw.v) n3 g3, .tree (proof.map uV) n4 g4, .int .i64 iv, .int .i64 bg, .int .i64 fi, .int .i64 ct, .int .i64 sd])] 1 ls 0 Q ↔ R) := by
  intro d
  induction d with
  | zero =>
    intro k hk q1 q2
    obtain rfl : k = pages.length := by omega
    rw [L_image_load_sound_0_unf]
    simp only [b_image_load_sound_0, bC, bW, bZ, wpY', bV, seval, Int.lt_irrefl]
    exact q1 (by rw [List.drop_length]; rfl)
  | succ d ih =>
    intro k hk q1 q2
    have hlt : k < pages.length := by omega
    obtain ⟨p, hp, hd⟩ := get_some hlt
    obtain ⟨q, hqk, hqd⟩ := get_some (l := proofs) (k := k) (by omega)
    have hp256 := hs p (List.mem_of_getElem? hp)
    have hqb := hq q (List.mem_of_getElem? hqk)
    have hltq : (k : Int) < (proofs.length : Int) := by omega
    have e := provedF_c (dg := dg) (size := size) hd hqd
    rw [L_image_load_sound_0_unf]
    cases hc : checkI dg (countI size) k p.xs q.xs with
    | true =>
      simp only [b_image_load_sound_0, bC, bW, bD, bZ, wpY', bV, bVD, seval, lt_c hlt, hltq, hp, hqk, By.v, Sl.v, f_image_proved (page := p.xs) (pf := q.xs) h0 h1 (by omega) hqb, hc, wi_s hlt (by omega), L_image_load_sound_0_eq]
      rw [e, hc, Bool.true_and] at q1 q2
      exact ih (k + 1) (by omega) q1 q2
    | false =>
      simp only [b_image_load_sound_0, bC, bW, bD, bZ, wpY', bV, bVD, seval, lt_c hlt, hltq, hp, hqk, By.v, Sl.v, f_image_proved (page := p.xs) (pf := q.xs) h0 h1 (by omega) hqb, hc]
      rw [e, hc, Bool.false_and] at q2
      exact q2 rfl _ rfl
theorem f_image_sound {ver size dg start : Int} {pages : List By} {n1 g1 : Bool} {proofs : List (Sl Int)} {n2 g2 : Bool} {rows : List Rw} {n3 g3 : Bool} {proof : List Int} {n4 g4 : Bool} {iv bg fi ct sd : Int} (hl : pages.length < 4611686018427387904) (hlp : proofs.length < 4611686018427387904) (hq : ∀ q ∈ proofs, q.xs.length < 1152921504606846976) :
    WpF XX .ro n_image_load_sound [.agg [.int .i64 ver, .int .i64 size, .int .u64 dg, .int .i64 start, .tree (pages.map By.v) n1 g1, .tree (proofs.map (Sl.v uV)) n2 g2, .tree (rows.map Rw.v) n3 g3, .tree (proof.map uV) n4 g4, .int .i64 iv, .int .i64 bg, .int .i64 fi, .int .i64 ct, .int .i64 sd]] st K ↔ K (.bool (soundI ver size dg start pages proofs)) st := by
  rw [F_ro (mf := m_image_load_sound) rfl rfl]
  unfold soundI
  cases h1 : noticeI ver size start with
  | false => simp only [m_image_load_sound, bC, bW, bD, bZ, wpY', bV, bVD, seval, f_image_announced, h1]
  | true =>
    have hsz := notice_size h1
    by_cases h2 : (pages.length : Int) ≤ countI size
    · have h2' : ¬ countI size < (pages.length : Int) := by omega
      by_cases h3 : proofs.length = pages.length
      · have h3' : (proofs.length : Int) = (pages.length : Int) := by omega
        cases h4 : pagedI pages with
        | false => simp only [m_image_load_sound, bC, bW, bD, bZ, wpY', bV, bVD, seval, f_image_announced, f_image_count (n := size) (by omega) (by omega), f_image_paged hl, h1, h2, h2', h3, h3', h4]
        | true =>
          have h4' : ∀ p ∈ pages, p.xs.length = 256 := fun p hp => by simpa using List.all_eq_true.1 h4 p hp
          have h5 : pages.length ≤ 16 := by unfold countI at h2; omega
          simp only [m_image_load_sound, bC, bW, bD, bZ, wpY', bV, bVD, seval, f_image_announced, f_image_count (n := size) (by omega) (by omega), f_image_paged hl, h1, h2, h2', h3, h3', h4, L_image_load_sound_0_eq]
          refine L_image_sound (by omega) (by omega) (by omega) h3 h4' hq pages.length 0 (by omega) (fun e => ?_) (fun e en he => ?_)
          · rw [List.drop_zero, List.drop_zero] at e
            simp only [bC, bW, bZ, wpY', bV, seval, e]
          · rw [List.drop_zero, List.drop_zero] at e
            simp only [bC, bW, bZ, wpY', bV, seval, e, he]
      · have h3' : ¬ (proofs.length : Int) = (pages.length : Int) := by omega
        simp only [m_image_load_sound, bC, bW, bD, bZ, wpY', bV, bVD, seval, f_image_announced, f_image_count (n := size) (by omega) (by omega), h1, h2, h2', h3, h3']
    · have h2' : countI size < (pages.length : Int) := by omega
      simp only [m_image_load_sound, bC, bW, bD, bZ, wpY', bV, bVD, seval, f_image_announced, f_image_count (n := size) (by omega) (by omega), h1, h2, h2']
end
end Go.Proofs.YtfmbdcmjgnikiaaGreatDoor.Sm
namespace Go.Proofs.YtfmbdcmjgnikiaaGreatDoor.Sm
open Go Go.RowKit

def cloneB {α : Type} (s : Sl α) : Sl α := ⟨s.xs, s.nl, decide (s.xs.length = 0)⟩
section
variable {h : Heap} {nx wb : Nat} {ls : List (Nat × LRec)} {Q : Ex → St → Prop} {R : Prop} {st : St} {K : SV → St → Prop}
theorem uV_len1 (l : List Int) : (l.map uV).all (fun v => (cellsOf v).length == 1) = true := Cell1.len1 uV_c l
theorem uV_flat (l : List Int) : flat (l.map uV) = l.map uV := Cell1.flat uV_c l
theorem uV_cB (l : List Int) : (l.map uV).all cellB = true := Cell1.cB uV_c l
theorem By_len1 (l : List By) : (l.map By.v).all (fun v => (cellsOf v).length == 1) = true := Cell1.len1 Sl.v_c l
theorem By_flat (l : List By) : flat (l.map By.v) = l.map By.v := Cell1.flat Sl.v_c l
theorem By_cB (l : List By) : (l.map By.v).all cellB = true := Cell1.cB Sl.v_c l
theorem Su_len1 (l : List (Sl Int)) : (l.map (Sl.v uV)).all (fun v => (cellsOf v).length == 1) = true := Cell1.len1 Sl.v_c l
theorem Su_flat (l : List (Sl Int)) : flat (l.map (Sl.v uV)) = l.map (Sl.v uV) := Cell1.flat Sl.v_c l
theorem Su_cB (l : List (Sl Int)) : (l.map (Sl.v uV)).all cellB = true := Cell1.cB Sl.v_c l
theorem Su_all (l : List (Sl Int)) : (l.map (Sl.v uV)).all pl1 = true := Cell1.pl Sl.v_c l
theorem f_bytes_Clone {b : List UInt8} {nl tg : Bool} (hn : nl = true → b = []) (hb : b.length ≤ 4294967296) : WpF XX .ro n_bytes_Clone [.tree (b.map b8) nl tg] st K ↔ K (.tree (b.map b8) nl (decide (b.length = 0))) st := by
  rw [F_ro (mf := m_bytes_Clone) rfl rfl]
  cases nl with
  | true =>
    obtain rfl := hn rfl
    simp only [m_bytes_Clone, bC, bW, bZ, wpY', bV, seval, xorB]
  | false =>
    by_cases h0 : b.length = 0
    · obtain rfl : b = [] := by simpa using h0
      simp only [m_bytes_Clone, bC, bW, bZ, wpY', bV, seval, xorB]
    · simp only [m_bytes_Clone, bC, bW, bZ, wpY', bV, seval, xorB, b8_len1, b8_flat, b8_cB, b8_all, h0, hb, b8_eq]
theorem f_u64_Clone {b : List Int} {nl tg : Bool} (hn : nl = true → b = []) (hb : b.length ≤ 4294967296) : WpF XX .ro n_slices_Clone_suint64_uint64 [.tree (b.map uV) nl tg] st K ↔ K (.tree (b.map uV) nl (decide (b.length = 0))) st := by
  rw [F_ro (mf := m_slices_Clone_suint64_uint64) rfl rfl]
  cases nl with
  | true =>
    obtain rfl := hn rfl
    simp only [m_slices_Clone_suint64_uint64, bC, bW, bZ, wpY', bV, seval, xorB]
  | false =>
    by_cases h0 : b.length = 0
    · obtain rfl : b = [] := by simpa using h0
      simp only [m_slices_Clone_suint64_uint64, bC, bW, bZ, wpY', bV, seval, xorB]
    · simp only [m_slices_Clone_suint64_uint64, bC, bW, bZ, wpY', bV, seval, xorB, uV_len1, uV_flat, uV_cB, uV_all, h0, hb, uV_eq]

theorem L_put_0 {ver size dg start iv bg fi ct sd : Int} {v2 v5 : SV} {L : List By} {w : Nat} (hw : 3 < w) (hL : L.length ≤ 1000) (hs : ∀ p ∈ L, p.xs.length ≤ 4294967296 ∧ p.ok) : ∀ (d k : Nat) (v : SV) (h : Heap) (nx : Nat), k + d = L.length → RowG By.v h (w + 1) nx ((L.take k).map cloneB) v → fresh h nx → w < nx →
    look h 3 = some [.int .i64 ver, .int .i64 size, .int .u64 dg, .int .i64 start, v, v5, .tree [] true true, .tree [] true true, .int .i64 iv, .int .i64 bg, .int .i64 fi, .int .i64 ct, .int .i64 sd] → look h w = some (L.map By.v) →
    (∀ (v' : SV) (h' : Heap) (nx' : Nat), RowG By.v h' (w + 1) nx' (L.map cloneB) v' → fresh h' nx' → nx ≤ nx' →
      look h' 3 = some [.int .i64 ver, .int .i64 size, .int .u64 dg, .int .i64 start, v', v5, .tree [] true true, .tree [] true true, .int .i64 iv, .int .i64 bg, .int .i64 fi, .int .i64 ct, .int .i64 sd] → (∀ j, j ≤ w → j ≠ 3 → look h' j = look h j) →
      (Q (.exit 1) ⟨[(2, v2), (6, .ptr 1 0), (8, .ptr 2 0), (9, .ptr 3 0)], h', nx', ls, 0⟩ ↔ R)) →
    (L_image_Put_0 XX v2 (.ptr 1 0) (.ptr 2 0) (.ptr 3 0) (.own w 0 L.length 1) (.int .i64 L.length) (.int .i64 k) h nx ls 0 Q ↔ R) := by
  intro d
  induction d with
  | zero =>
    intro k v h nx hk hv hf hnx h3 hwl q
    obtain rfl : k = L.length := by omega
    rw [L_image_Put_0_unf]
    simp only [b_image_Put_0, bC, bW, bZ, wpY', bV, seval, Int.lt_irrefl]
    rw [List.take_length] at hv
    exact q v h nx hv hf (Nat.le_refl _) h3 fun _ _ _ => rfl
  | succ d ih =>
    intro k v h nx hk hv hf hnx h3 hwl q
    have hlt : k < L.length := by omega
    obtain ⟨p, hp, hd⟩ := get_some hlt
    obtain ⟨hpb, hpo⟩ := hs p (List.mem_of_getElem? hp)
    have hx' : (L.map By.v)[k]? = some (.tree (p.xs.map b8) p.nl p.tg) := by rw [List.getElem?_map, hp]; rfl
    have ht : L.take (k + 1) = L.take k ++ [p] := by rw [List.take_add_one, hp]; rfl
    have hfn := hf nx (Nat.le_refl _)
    rw [L_image_Put_0_unf]
    rcases hv with ⟨h0, rfl⟩ | ⟨id, rfl, g1, g2, g3, g4⟩
    · simp (disch := omega) only [b_image_Put_0, bC, bD, bH, bZ, wpY', bV, bVD, seval, lt_c hlt, hwl, hx', h3, f_bytes_Clone hpo hpb, hfn, wi_s hlt (by omega), L_image_Put_0_eq]
      have e1 : (L.take (k + 1)).map cloneB = [cloneB p] := by rw [ht, List.map_append, h0]; rfl
      refine ih (k + 1) (.own nx 0 1 1) _ (nx + 1) (by omega) (.inr ⟨nx, by rw [e1]; rfl, ?_, by omega, by omega, by rw [e1]; simp⟩) (fun j hj => ?_) (by omega) ?_ ?_ fun v' h' nx' j1 j2 j3 j4 j5 => q v' h' nx' j1 j2 (by omega) j4 fun j hj hj3 => ?_
      · rw [e1]; simp (disch := omega) only [bC, bD, bH, bZ, wpY', bV, bVD, seval]; rfl
      · simp (disch := omega) only [bC, bD, bH, bZ, wpY', bV, bVD, seval]; exact hf j (by omega)
      · simp (disch := omega) only [bC, bD, bH, bZ, wpY', bV, bVD, seval, h3]
      · simp (disch := omega) only [bC, bD, bH, bZ, wpY', bV, bVD, seval, hwl]
      · rw [j5 j hj hj3]; simp (disch := omega) only [bC, bD, bH, bZ, wpY', bV, bVD, seval]
    · have hlen : ((L.take k).map cloneB).length = k := by simp; omega
      have hL1 : k + 1 ≤ 4294967296 := by omega
      have hfd : look (del h id) nx = none := by rw [look_del_ne (by omega)]; exact hfn
      have htk : List.take k (((L.take k).map cloneB).map By.v) = ((L.take k).map cloneB).map By.v := List.take_of_length_le (by simp; omega)
      have hlk : (L.take k).length = k := by simp; omega
      rw [hlen] at h3
      simp (disch := omega) only [b_image_Put_0, bC, bD, bH, bZ, wpY', bV, bVD, seval, lt_c hlt, hwl, hx', h3, f_bytes_Clone hpo hpb, hfn, hfd, g1, hlen, hlk, htk, hL1, wi_s hlt (by omega), L_image_Put_0_eq]
      have e1 : (L.take (k + 1)).map cloneB = (L.take k).map cloneB ++ [cloneB p] := by rw [ht, List.map_append]; rfl
      refine ih (k + 1) (.own nx 0 (k + 1) 1) _ (nx + 1) (by omega) (.inr ⟨nx, by rw [e1, List.length_append, hlen]; rfl, ?_, by omega, by omega, by rw [e1]; simp⟩) (fun j hj => ?_) (by omega) ?_ ?_ fun v' h' nx' j1 j2 j3 j4 j5 => q v' h' nx' j1 j2 (by omega) j4 fun j hj hj3 => ?_
      · rw [e1]; simp (disch := omega) only [bC, bD, bH, bZ, wpY', bV, bVD, seval, List.map_append]; rfl
      · simp (disch := omega) only [bC, bD, bH, bZ, wpY', bV, bVD, seval]; exact hf j (by omega)
      · simp (disch := omega) only [bC, bD, bH, bZ, wpY', bV, bVD, seval, h3]
      · simp (disch := omega) only [bC, bD, bH, bZ, wpY', bV, bVD, seval, hwl]
      · rw [j5 j hj hj3]; simp (disch := omega) only [bC, bD, bH, bZ, wpY', bV, bVD, seval]

theorem L_put_1 {ver size dg start iv bg fi ct sd : Int} {v4 : SV} {L : List (Sl Int)} {w : Nat} (hw : 3 < w) (hL : L.length ≤ 1000) (hs : ∀ p ∈ L, p.xs.length ≤ 4294967296 ∧ p.ok) : ∀ (d k : Nat) (v : SV) (h : Heap) (nx : Nat), k + d = L.length → RowG (Sl.v uV) h (w + 1) nx ((L.take k).map cloneB) v → fresh h nx → w < nx →
    look h 3 = some [.int .i64 ver, .int .i64 size, .int .u64 dg, .int .i64 start, v4, v, .tree [] true true, .tree [] true true, .int .i64 iv, .int .i64 bg, .int .i64 fi, .int .i64 ct, .int .i64 sd] → look h w = some (L.map (Sl.v uV)) →
    (∀ (v' : SV) (h' : Heap) (nx' : Nat), RowG (Sl.v uV) h' (w + 1) nx' (L.map cloneB) v' → fresh h' nx' → nx ≤ nx' →
      look h' 3 = some [.int .i64 ver, .int .i64 size, .int .u64 dg, .int .i64 start, v4, v', .tree [] true true, .tree [] true true, .int .i64 iv, .int .i64 bg, .int .i64 fi, .int .i64 ct, .int .i64 sd] → (∀ j, j ≤ w → j ≠ 3 → look h' j = look h j) →
      (Q (.exit 3) ⟨[(6, .ptr 1 0), (9, .ptr 3 0)], h', nx', ls, 0⟩ ↔ R)) →
    (L_image_Put_1 XX (.ptr 1 0) (.ptr 3 0) (.own w 0 L.length 1) (.int .i64 L.length) (.int .i64 k) h nx ls 0 Q ↔ R) := by
  intro d
  induction d with
  | zero =>
    intro k v h nx hk hv hf hnx h3 hwl q
    obtain rfl : k = L.length := by omega
    rw [L_image_Put_1_unf]
    simp only [b_image_Put_1, bC, bW, bZ, wpY', bV, seval, Int.lt_irrefl]
    rw [List.take_length] at hv
    exact q v h nx hv hf (Nat.le_refl _) h3 fun _ _ _ => rfl
  | succ d ih =>
    intro k v h nx hk hv hf hnx h3 hwl q
    have hlt : k < L.length := by omega
    obtain ⟨p, hp, hd⟩ := get_some hlt
    obtain ⟨hpb, hpo⟩ := hs p (List.mem_of_getElem? hp)
    have hx' : (L.map (Sl.v uV))[k]? = some (.tree (p.xs.map uV) p.nl p.tg) := by rw [List.getElem?_map, hp]; rfl
    have ht : L.take (k + 1) = L.take k ++ [p] := by rw [List.take_add_one, hp]; rfl
    have hfn := hf nx (Nat.le_refl _)
    rw [L_image_Put_1_unf]
    rcases hv with ⟨h0, rfl⟩ | ⟨id, rfl, g1, g2, g3, g4⟩
    · simp (disch := omega) only [b_image_Put_1, bC, bD, bH, bZ, wpY', bV, bVD, seval, lt_c hlt, hwl, hx', h3, f_u64_Clone hpo hpb, hfn, wi_s hlt (by omega), L_image_Put_1_eq]
      have e1 : (L.take (k + 1)).map cloneB = [cloneB p] := by rw [ht, List.map_append, h0]; rfl
      refine ih (k + 1) (.own nx 0 1 1) _ (nx + 1) (by omega) (.inr ⟨nx, by rw [e1]; rfl, ?_, by omega, by omega, by rw [e1]; simp⟩) (fun j hj => ?_) (by omega) ?_ ?_ fun v' h' nx' j1 j2 j3 j4 j5 => q v' h' nx' j1 j2 (by omega) j4 fun j hj hj3 => ?_
      · rw [e1]; simp (disch := omega) only [bC, bD, bH, bZ, wpY', bV, bVD, seval]; rfl
      · simp (disch := omega) only [bC, bD, bH, bZ, wpY', bV, bVD, seval]; exact hf j (by omega)
      · simp (disch := omega) only [bC, bD, bH, bZ, wpY', bV, bVD, seval, h3]
      · simp (disch := omega) only [bC, bD, bH, bZ, wpY', bV, bVD, seval, hwl]
      · rw [j5 j hj hj3]; simp (disch := omega) only [bC, bD, bH, bZ, wpY', bV, bVD, seval]
    · have hlen : ((L.take k).map cloneB).length = k := by simp; omega
      have hL1 : k + 1 ≤ 4294967296 := by omega
      have hfd : look (del h id) nx = none := by rw [look_del_ne (by omega)]; exact hfn
      have htk : List.take k (((L.take k).map cloneB).map (Sl.v uV)) = ((L.take k).map cloneB).map (Sl.v uV) := List.take_of_length_le (by simp; omega)
      have hlk : (L.take k).length = k := by simp; omega
      rw [hlen] at h3
      simp (disch := omega) only [b_image_Put_1, bC, bD, bH, bZ, wpY', bV, bVD, seval, lt_c hlt, hwl, hx', h3, f_u64_Clone hpo hpb, hfn, hfd, g1, hlen, hlk, htk, hL1, wi_s hlt (by omega), L_image_Put_1_eq]
      have e1 : (L.take (k + 1)).map cloneB = (L.take k).map cloneB ++ [cloneB p] := by rw [ht, List.map_append]; rfl
      refine ih (k + 1) (.own nx 0 (k + 1) 1) _ (nx + 1) (by omega) (.inr ⟨nx, by rw [e1, List.length_append, hlen]; rfl, ?_, by omega, by omega, by rw [e1]; simp⟩) (fun j hj => ?_) (by omega) ?_ ?_ fun v' h' nx' j1 j2 j3 j4 j5 => q v' h' nx' j1 j2 (by omega) j4 fun j hj hj3 => ?_
      · rw [e1]; simp (disch := omega) only [bC, bD, bH, bZ, wpY', bV, bVD, seval, List.map_append]; rfl
      · simp (disch := omega) only [bC, bD, bH, bZ, wpY', bV, bVD, seval]; exact hf j (by omega)
      · simp (disch := omega) only [bC, bD, bH, bZ, wpY', bV, bVD, seval, h3]
      · simp (disch := omega) only [bC, bD, bH, bZ, wpY', bV, bVD, seval, hwl]
      · rw [j5 j hj hj3]; simp (disch := omega) only [bC, bD, bH, bZ, wpY', bV, bVD, seval]

/-- A slice of slices is cloned, and one more is put behind: an own row of all of them. -/
theorem F_clone_By {a : List By} {n1 g1 : Bool} (hn : n1 = true → a = []) (ha : a.length ≤ 1000) {e : Env} {h : Heap} {nx wb : Nat} (hw : wb = 0) (hf : fresh h nx) (q : ∀ (v : SV) (h' : Heap) (nx' : Nat), ((∃ b, a = [] ∧ v = .tree [] b true ∧ h' = h ∧ nx' = nx) ∨ a ≠ [] ∧ v = .own nx 0 a.length 1 ∧ h' = (nx, a.map By.v) :: h ∧ nx' = nx + 1) → (K v ⟨e, h', nx', ls, wb⟩ ↔ R)) :
    WpF XX .rw n_slices_Clone_ssbyte_sbyte [.tree (a.map By.v) n1 g1] ⟨e, h, nx, ls, wb⟩ K ↔ R := by
  subst hw
  have hfn := hf nx (Nat.le_refl _)
  rw [F_rw (mf := m_slices_Clone_ssbyte_sbyte) rfl]
  cases n1 with
  | true =>
    obtain rfl := hn rfl
    simp only [m_slices_Clone_ssbyte_sbyte, bC, bW, bZ, wpY', bV, seval, xorB]
    exact q _ _ _ (.inl ⟨_, rfl, rfl, rfl, rfl⟩)
  | false =>
    by_cases h0 : a.length = 0
    · obtain rfl : a = [] := by simpa using h0
      simp only [m_slices_Clone_ssbyte_sbyte, bC, bW, bZ, wpY', bV, seval, xorB]
      exact q _ _ _ (.inl ⟨_, rfl, rfl, rfl, rfl⟩)
    · have hl : a.length ≤ 4294967296 := by omega
      simp only [m_slices_Clone_ssbyte_sbyte, bC, bW, bZ, wpY', bV, seval, xorB, By_len1, By_flat, By_cB, h0, hl, hfn]
      exact q _ _ _ (.inr ⟨fun e => by subst e; simp at h0, rfl, rfl, rfl⟩)
theorem F_clone_Su {a : List (Sl Int)} {n1 g1 : Bool} (hn : n1 = true → a = []) (ha : a.length ≤ 1000) {e : Env} {h : Heap} {nx wb : Nat} (hw : wb = 0) (hf : fresh h nx) (q : ∀ (v : SV) (h' : Heap) (nx' : Nat), ((∃ b, a = [] ∧ v = .tree [] b true ∧ h' = h ∧ nx' = nx) ∨ a ≠ [] ∧ v = .own nx 0 a.length 1 ∧ h' = (nx, a.map (Sl.v uV)) :: h ∧ nx' = nx + 1) → (K v ⟨e, h', nx', ls, wb⟩ ↔ R)) :
    WpF XX .rw n_slices_Clone_ssuint64_suint64 [.tree (a.map (Sl.v uV)) n1 g1] ⟨e, h, nx, ls, wb⟩ K ↔ R := by
  subst hw
  have hfn := hf nx (Nat.le_refl _)
  rw [F_rw (mf := m_slices_Clone_ssuint64_suint64) rfl]
  cases n1 with
  | true =>
    obtain rfl := hn rfl
    simp only [m_slices_Clone_ssuint64_suint64, bC, bW, bZ, wpY', bV, seval, xorB]
    exact q _ _ _ (.inl ⟨_, rfl, rfl, rfl, rfl⟩)
  | false =>
    by_cases h0 : a.length = 0
    · obtain rfl : a = [] := by simpa using h0
      simp only [m_slices_Clone_ssuint64_suint64, bC, bW, bZ, wpY', bV, seval, xorB]
      exact q _ _ _ (.inl ⟨_, rfl, rfl, rfl, rfl⟩)
    · have hl : a.length ≤ 4294967296 := by omega
      simp only [m_slices_Clone_ssuint64_suint64, bC, bW, bZ, wpY', bV, seval, xorB, Su_len1, Su_flat, Su_cB, h0, hl, hfn]
      exact q _ _ _ (.inr ⟨fun e => by subst e; simp at h0, rfl, rfl, rfl⟩)
end
end Go.Proofs.YtfmbdcmjgnikiaaGreatDoor.Sm
namespace Go.Proofs.YtfmbdcmjgnikiaaGreatDoor.Sm
open Go Go.RowKit

structure SpOK (pages : List By) (n1 : Bool) (proofs : List (Sl Int)) (n2 : Bool) : Prop where
  hl : pages.length < 4611686018427387904
  hlp : proofs.length < 4611686018427387904
  hp : ∀ p ∈ pages, p.ok
  hq : ∀ q ∈ proofs, q.xs.length ≤ 4294967296 ∧ q.ok
  n1 : n1 = true → pages = []
  n2 : n2 = true → proofs = []
theorem SpOK.hq' {pages : List By} {n1 : Bool} {proofs : List (Sl Int)} {n2 : Bool} (H : SpOK pages n1 proofs n2) : ∀ q ∈ proofs, q.xs.length < 1152921504606846976 := fun q hq => by have := (H.hq q hq).1; omega
theorem sound_parts {ver size dg start : Int} {pages : List By} {proofs : List (Sl Int)} (h : soundI ver size dg start pages proofs = true) : (1 ≤ size ∧ size ≤ 4096) ∧ (pages.length : Int) ≤ countI size ∧ proofs.length = pages.length ∧ (∀ p ∈ pages, p.xs.length = 256) := by
  simp only [soundI, Bool.and_eq_true, decide_eq_true_eq] at h
  obtain ⟨⟨⟨⟨h1, h2⟩, h3⟩, h4⟩, h5⟩ := h
  exact ⟨notice_size h1, h2, h3, fun p hp => by simpa using List.all_eq_true.1 h4 p hp⟩

section
variable {st : St} {K : SV → St → Prop}
set_option maxHeartbeats 1000000 in
theorem f_image_Put {ver size dg start : Int} {pages : List By} {n1 g1 : Bool} {proofs : List (Sl Int)} {n2 g2 : Bool} {rows : List Rw} {n3 g3 : Bool} {proof : List Int} {n4 g4 : Bool} {iv bg fi ct sd : Int} {page : List UInt8} {n5 g5 : Bool} {pf : List Int} {n6 g6 : Bool} (H : SpOK pages n1 proofs n2) (hpg : page.length < 1152921504606846976) (h5 : n5 = true → page = []) (hpf : pf.length ≤ 4294967296) (h6 : n6 = true → pf = []) :
    WpF XX .ro n_image_Put [.agg [.int .i64 ver, .int .i64 size, .int .u64 dg, .int .i64 start, .tree (pages.map By.v) n1 g1, .tree (proofs.map (Sl.v uV)) n2 g2, .tree (rows.map Rw.v) n3 g3, .tree (proof.map uV) n4 g4, .int .i64 iv, .int .i64 bg, .int .i64 fi, .int .i64 ct, .int .i64 sd], .tree (page.map b8) n5 g5, .tree (pf.map uV) n6 g6] st K ↔
    K (if soundI ver size dg start pages proofs = false ∨ page.length ≠ 256 then .tup [.agg [.int .i64 0, .int .i64 0, .int .u64 0, .int .i64 0, .tree [] true true, .tree [] true true, .tree [] true true, .tree [] true true, .int .i64 0, .int .i64 0, .int .i64 0, .int .i64 0, .int .i64 0], .int .i64 1] else if (pages.length : Int) = countI size then .tup [.agg [.int .i64 0, .int .i64 0, .int .u64 0, .int .i64 0, .tree [] true true, .tree [] true true, .tree [] true true, .tree [] true true, .int .i64 0, .int .i64 0, .int .i64 0, .int .i64 0, .int .i64 0], .int .i64 10]
      else if checkI dg (countI size) pages.length page pf = false then .tup [.agg [.int .i64 0, .int .i64 0, .int .u64 0, .int .i64 0, .tree [] true true, .tree [] true true, .tree [] true true, .tree [] true true, .int .i64 0, .int .i64 0, .int .i64 0, .int .i64 0, .int .i64 0], .int .i64 12]
      else .tup [.agg [.int .i64 ver, .int .i64 size, .int .u64 dg, .int .i64 start, .tree (((pages ++ [(⟨page, n5, g5⟩ : By)]).map cloneB).map By.v) false false, .tree (((proofs ++ [(⟨pf, n6, g6⟩ : Sl Int)]).map cloneB).map (Sl.v uV)) false false, .tree [] true true, .tree [] true true, .int .i64 iv, .int .i64 bg, .int .i64 fi, .int .i64 ct, .int .i64 sd], .int .i64 0]) st := by
  rw [F_ro (mf := m_image_Put) rfl rfl]
  have e0 := fun st K => f_image_sound (ver := ver) (size := size) (dg := dg) (start := start) (pages := pages) (n1 := n1) (g1 := g1) (proofs := proofs) (n2 := n2) (g2 := g2) (rows := rows) (n3 := n3) (g3 := g3) (proof := proof) (n4 := n4) (g4 := g4) (iv := iv) (bg := bg) (fi := fi) (ct := ct) (sd := sd) (st := st) (K := K) H.hl H.hlp H.hq'
  cases h1 : soundI ver size dg start pages proofs with
  | false => simp only [m_image_Put, bC, bW, bD, bZ, wpY', bV, bVD, seval, e0, h1]
  | true =>
    obtain ⟨hsz, hcn, hpl, hp256⟩ := sound_parts h1
    by_cases h2 : (page.length : Int) = 256
    · have h2' : page.length = 256 := by omega
      by_cases h3 : (pages.length : Int) = countI size
      · simp only [m_image_Put, bC, bW, bD, bZ, wpY', bV, bVD, seval, e0, h1, h2, h2', f_image_count (n := size) (by omega) (by omega), eq_true h3]
      · cases h4 : checkI dg (countI size) pages.length page pf with
        | false => simp only [m_image_Put, bC, bW, bD, bZ, wpY', bV, bVD, seval, e0, h1, h2, h2', f_image_count (n := size) (by omega) (by omega), h3, f_image_proved (size := size) (page := page) (pf := pf) (by omega) (by omega) hpg (by omega), h4]
        | true =>
          simp only [m_image_Put, bC, bW, bD, bZ, wpY', bV, bVD, seval, e0, h1, h2, h2', f_image_count (n := size) (by omega) (by omega), h3, f_image_proved (size := size) (page := page) (pf := pf) (by omega) (by omega) hpg (by omega), h4]
          have hlen : pages.length ≤ 16 := by unfold countI at hcn; omega
          refine F_clone_By H.n1 (by omega) rfl (fun j hj => by simp (disch := omega) only [bC, bD, bH, bZ, wpY', bV, bVD, seval]) fun v h' nx' hc => ?_
          have hsL : ∀ p ∈ pages ++ [(⟨page, n5, g5⟩ : By)], p.xs.length ≤ 4294967296 ∧ p.ok := fun p hp => by
            rcases List.mem_append.1 hp with hp | hp
            · exact ⟨by have := hp256 p hp; omega, H.hp p hp⟩
            · simp only [List.mem_singleton] at hp; subst hp; exact ⟨by show page.length ≤ _; omega, h5⟩
          have hsL2 : ∀ p ∈ proofs ++ [(⟨pf, n6, g6⟩ : Sl Int)], p.xs.length ≤ 4294967296 ∧ p.ok := fun p hp => by
            rcases List.mem_append.1 hp with hp | hp
            · exact H.hq p hp
            · simp only [List.mem_singleton] at hp; subst hp; exact ⟨hpf, h6⟩
          have hlL : (pages ++ [(⟨page, n5, g5⟩ : By)]).length = pages.length + 1 := by simp
          have hlL2 : (proofs ++ [(⟨pf, n6, g6⟩ : Sl Int)]).length = pages.length + 1 := by simp [hpl]
          have eL : pages.map By.v ++ [SV.tree (page.map b8) n5 g5] = (pages ++ [(⟨page, n5, g5⟩ : By)]).map By.v := by simp [By.v, Sl.v]
          have eL2 : proofs.map (Sl.v uV) ++ [SV.tree (pf.map uV) n6 g6] = (proofs ++ [(⟨pf, n6, g6⟩ : Sl Int)]).map (Sl.v uV) := by simp [Sl.v]
          have hlL3 : (proofs ++ [(⟨pf, n6, g6⟩ : Sl Int)]).length = proofs.length + 1 := by simp
          have hlim2 : proofs.length + 1 ≤ 4294967296 := by omega
          have hlim : pages.length + 1 ≤ 4294967296 := by omega
          rcases hc with ⟨b, h0, rfl, rfl, rfl⟩ | ⟨h0, rfl, rfl, rfl⟩
          · subst h0
            obtain rfl : proofs = [] := by simpa using hpl
            simp only [bC, bW, bD, bZ, wpY', bV, bVD, seval, L_image_Put_0_eq]
            refine L_put_0 (L := [] ++ [(⟨page, n5, g5⟩ : By)]) (w := 4) (by omega) (by simp) hsL 1 0 (.tree [] true true) _ 5 rfl (.inl ⟨rfl, rfl⟩) (fun j hj => by simp (disch := omega) only [bC, bD, bH, bZ, wpY', bV, bVD, seval]) (by omega) rfl rfl fun v1 h1' nx1 j1 j2 j3 j4 j5 => ?_
            have k2 := j5 2 (by omega) (by omega)
            have k1 := j5 1 (by omega) (by omega)
            simp only [bC, bW, bZ, wpY', bV, seval] at k2 k1
            rcases j1 with ⟨j1, _⟩ | ⟨idp, rfl, p1, p2, p3, p4⟩
            · exact absurd (congrArg List.length j1) (by simp)
            have hfn := j2 nx1 (Nat.le_refl _)
            have hfn1 := j2 (nx1 + 1) (by omega)
            simp (disch := omega) only [bC, bD, bH, bZ, wpY', bV, bVD, seval, k2]
            refine F_clone_Su (a := []) H.n2 (by simp) rfl j2 fun v h2' nx2 hc2 => ?_
            obtain ⟨b2, _, rfl, rfl, rfl⟩ := hc2.resolve_right fun hh => absurd rfl hh.1
            simp (disch := omega) only [bC, bD, bH, bZ, wpY', bV, bVD, seval, hfn, L_image_Put_1_eq]
            refine L_put_1 (ver := ver) (size := size) (dg := dg) (start := start) (iv := iv) (bg := bg) (fi := fi) (ct := ct) (sd := sd) (v4 := .own idp 0 ((([] : List By) ++ [(⟨page, n5, g5⟩ : By)]).map cloneB).length 1) (L := [] ++ [(⟨pf, n6, g6⟩ : Sl Int)]) (w := nx2) (by omega) (by simp) hsL2 1 0 (.tree [] true true) _ (nx2 + 1) rfl (.inl ⟨rfl, rfl⟩) (fun j hj => by simp (disch := omega) only [bC, bD, bH, bZ, wpY', bV, bVD, seval]; exact j2 j (by omega)) (by omega) ?_ ?_ fun v3 h3' nx3 m1 m2 m3 m4 m5 => ?_
            · simp (disch := omega) only [bC, bD, bH, bZ, wpY', bV, bVD, seval, j4]
            · simp (disch := omega) only [bC, bD, bH, bZ, wpY', bV, bVD, seval]; rfl
            rcases m1 with ⟨m1, _⟩ | ⟨idq, rfl, r1, r2, r3, r4⟩
            · exact absurd (congrArg List.length m1) (by simp)
            have t1 := m5 1 (by omega) (by omega)
            have tp := m5 idp (by omega) (by omega)
            simp (disch := omega) only [bC, bD, bH, bZ, wpY', bV, bVD, seval, k1, p1] at t1 tp
            simp (disch := omega) only [bC, bD, bH, bZ, wpY', bV, bVD, seval, m4, t1, tp, r1, By_all, Su_all, By.v, Sl.v, cloneB]
          · simp only [bC, bW, bD, bZ, wpY', bV, bVD, seval, hlim, eL, L_image_Put_0_eq]
            have hc1 : ((pages.length + 1 : Nat) : Int) = ((pages ++ [(⟨page, n5, g5⟩ : By)]).length : Int) := by rw [hlL]
            rw [hc1, ← hlL]
            refine L_put_0 (L := pages ++ [(⟨page, n5, g5⟩ : By)]) (w := 5) (by omega) (by rw [hlL]; omega) hsL (pages ++ [(⟨page, n5, g5⟩ : By)]).length 0 (.tree [] true true) _ 6 (by omega) (.inl ⟨rfl, rfl⟩) (fun j hj => by simp (disch := omega) only [bC, bD, bH, bZ, wpY', bV, bVD, seval]) (by omega) rfl rfl fun v1 h1' nx1 j1 j2 j3 j4 j5 => ?_
            have k2 := j5 2 (by omega) (by omega)
            have k1 := j5 1 (by omega) (by omega)
            simp only [bC, bW, bZ, wpY', bV, seval] at k2 k1
            rcases j1 with ⟨j1, _⟩ | ⟨idp, rfl, p1, p2, p3, p4⟩
            · exact absurd (congrArg List.length j1) (by simp)
            have hfn := j2 nx1 (Nat.le_refl _)
            have hfn1 := j2 (nx1 + 1) (by omega)
            simp (disch := omega) only [bC, bD, bH, bZ, wpY', bV, bVD, seval, k2]
            refine F_clone_Su H.n2 (by omega) rfl j2 fun v h2' nx2 hc2 => ?_
            rcases hc2 with ⟨b2, h02, _, _, _⟩ | ⟨h02, rfl, rfl, rfl⟩
            · exact absurd (List.length_eq_zero_iff.1 (by rw [← hpl, h02]; rfl)) h0
            simp (disch := omega) only [bC, bD, bH, bZ, wpY', bV, bVD, seval, hfn, hfn1, hlim2, Su_len1, eL2, L_image_Put_1_eq]
            have hc2 : ((proofs.length + 1 : Nat) : Int) = ((proofs ++ [(⟨pf, n6, g6⟩ : Sl Int)]).length : Int) := by rw [hlL3]
            rw [hc2, ← hlL3]
            refine L_put_1 (ver := ver) (size := size) (dg := dg) (start := start) (iv := iv) (bg := bg) (fi := fi) (ct := ct) (sd := sd) (v4 := .own idp 0 ((pages ++ [(⟨page, n5, g5⟩ : By)]).map cloneB).length 1) (L := proofs ++ [(⟨pf, n6, g6⟩ : Sl Int)]) (w := nx1 + 1) (by omega) (by rw [hlL2]; omega) hsL2 (proofs ++ [(⟨pf, n6, g6⟩ : Sl Int)]).length 0 (.tree [] true true) _ (nx1 + 2) (by omega) (.inl ⟨rfl, rfl⟩) (fun j hj => by simp (disch := omega) only [bC, bD, bH, bZ, wpY', bV, bVD, seval]; exact j2 j (by omega)) (by omega) ?_ ?_ fun v3 h3' nx3 m1 m2 m3 m4 m5 => ?_
            · simp (disch := omega) only [bC, bD, bH, bZ, wpY', bV, bVD, seval, j4]
            · simp (disch := omega) only [bC, bD, bH, bZ, wpY', bV, bVD, seval]
            rcases m1 with ⟨m1, _⟩ | ⟨idq, rfl, r1, r2, r3, r4⟩
            · exact absurd (congrArg List.length m1) (by simp)
            clear r4 p4
            generalize hG1 : (pages ++ [(⟨page, n5, g5⟩ : By)]).map cloneB = GL at m4 p1 ⊢
            generalize hG2 : (proofs ++ [(⟨pf, n6, g6⟩ : Sl Int)]).map cloneB = GL2 at m4 r1 ⊢
            have t1 := m5 1 (by omega) (by omega)
            have tp := m5 idp (by omega) (by omega)
            simp (disch := omega) only [bC, bD, bH, bZ, wpY', bV, bVD, seval, k1, p1] at t1 tp
            simp (disch := omega) only [bC, bD, bH, bZ, wpY', bV, bVD, seval, m4, t1, tp, r1, By_all, Su_all]
    · have h2' : page.length ≠ 256 := by omega
      simp only [m_image_Put, bC, bW, bD, bZ, wpY', bV, bVD, seval, e0, h1, h2, h2', or_true]
end
end Go.Proofs.YtfmbdcmjgnikiaaGreatDoor.Sm
namespace Go.Proofs.YtfmbdcmjgnikiaaGreatDoor.Sm
open Go Go.RowKit

/-- Two rows that are being built side by side. -/
def Two (pages : List By) (proofs : List (Sl Int)) (h : Heap) (nx : Nat) (v4 v5 : SV) : Prop := (pages = [] ∧ proofs = [] ∧ v4 = .tree [] true true ∧ v5 = .tree [] true true) ∨
  ∃ a b, a ≠ b ∧ v4 = .own a 0 pages.length 1 ∧ v5 = .own b 0 proofs.length 1 ∧ look h a = some (pages.map By.v) ∧ look h b = some (proofs.map (Sl.v uV)) ∧ 3 ≤ a ∧ a < nx ∧ 3 ≤ b ∧ b < nx ∧ pages ≠ []
section
variable {ls : List (Nat × LRec)} {Q : Ex → St → Prop} {R : Prop} {st : St} {K : SV → St → Prop}
end
end Go.Proofs.YtfmbdcmjgnikiaaGreatDoor.Sm
