/- Programs and their pages: split and joined. Conditions: none (plain laws). A program that is loaded page by page. Conditions: none (plain laws). A program that is loaded page by page: each call. Conditions: none. A program that is announced is loaded page by page. Conditions: none. One byte changes the root. Conditions: none (plain laws). One byte changed, another digest. Conditions: none. Other pages and other proofs prove nothing. Conditions: none (plain laws). Only the right page is taken. Conditions: none. Only the right page is taken. Conditions: none. ImageOnlyRight for every argument. Conditions: none. -/
import Derived.Test.YtfmbdcmjgnikiaaDoorM10
import Derived.Test.YtfmbdcmjgnikiaaDoorM11
set_option linter.unusedSimpArgs false
set_option linter.unusedVariables false
namespace Go.Proofs.YtfmbdcmjgnikiaaDoor.Sm
open Go

theorem splitF_flat : ∀ (f : Nat) (b : List UInt8), b.length ≤ 256 * f → (splitF f b).flatten = b ++ List.replicate (256 * ((b.length + 255) / 256) - b.length) 0 ∧ (splitF f b).length = (b.length + 255) / 256
  | 0, b, h => by
    obtain rfl : b = [] := List.length_eq_zero_iff.1 (by omega)
    simp [splitF]
  | f + 1, b, h => by
    rw [splitF]
    by_cases h0 : b = []
    · subst h0; simp
    rw [if_neg h0]
    have hb : 0 < b.length := List.length_pos_iff.2 h0
    obtain ⟨h1, h2⟩ := splitF_flat f (b.drop 256) (by simp; omega)
    rw [List.flatten_cons, h1, List.length_cons, h2, List.length_drop]
    by_cases hl : b.length ≤ 256
    · have e1 : b.drop 256 = [] := List.drop_eq_nil_of_le hl
      have e2 : b.take 256 = b := List.take_of_length_le hl
      have e3 : (b.length + 255) / 256 = 1 := by omega
      rw [e1, e2, e3, pad]
      have e4 : b.length - 256 = 0 := by omega
      rw [e4]
      simp
    · have e1 : (b.length + 255) / 256 = (b.length - 256 + 255) / 256 + 1 := by omega
      have e2 : pad (b.take 256) = b.take 256 := by
        rw [pad, List.length_take, Nat.min_eq_left (by omega)]
        simp
      rw [e1, e2, ← List.append_assoc, List.take_append_drop]
      refine ⟨?_, rfl⟩
      rw [List.append_cancel_left_eq]; refine congrArg (fun n => List.replicate n 0) ?_
      omega
theorem splitF_inv : ∀ (f : Nat) (ps : List (List UInt8)) (size : Nat), (∀ p ∈ ps, p.length = 256) → ps.length ≤ f → (size + 255) / 256 = ps.length → allZ (ps.flatten.drop size) = true → splitF f (ps.flatten.take size) = ps
  | f, [], size, hp, hf, hs, hz => by
    obtain rfl : size = 0 := by simp at hs; omega
    cases f <;> simp [splitF]
  | 0, p :: ps, size, hp, hf, hs, hz => by simp at hf
  | f + 1, p :: ps, size, hp, hf, hs, hz => by
    have hp0 := hp p List.mem_cons_self
    rw [List.length_cons] at hs hf
    have hsz : 0 < size := by omega
    rw [List.flatten_cons] at hz ⊢
    rw [splitF, if_neg (by
      intro h
      have := congrArg List.length h
      rw [List.length_take, List.length_append, hp0] at this
      simp at this; omega)]
    by_cases hl : size ≤ 256
    · have hn : ps = [] := List.length_eq_zero_iff.1 (by omega)
      subst hn
      rw [List.flatten_nil, List.append_nil] at hz ⊢
      have e1 : (p.take size).drop 256 = [] := List.drop_eq_nil_of_le (by simp; omega)
      have e2 : (p.take size).take 256 = p.take size := List.take_of_length_le (by simp; omega)
      have e3 : splitF f [] = [] := by cases f <;> simp [splitF]
      rw [e1, e2, e3, pad]
      congr 1
      have e4 : p.drop size = List.replicate (256 - size) 0 := by
        refine List.eq_replicate_iff.2 ⟨by simp [hp0], fun c hc => ?_⟩
        simpa using List.all_eq_true.1 hz c hc
      have e5 : (p.take size).length = size := by rw [List.length_take]; omega
      rw [e5, ← e4, List.take_append_drop]
    · have e1 : (p ++ ps.flatten).take size = p ++ ps.flatten.take (size - 256) := by
        rw [List.take_append, List.take_of_length_le (by omega), hp0]
      have e2 : (p ++ ps.flatten).drop size = ps.flatten.drop (size - 256) := by
        rw [List.drop_append, List.drop_eq_nil_of_le (by omega), hp0, List.nil_append]
      rw [e2] at hz
      have e3 : (p ++ ps.flatten.take (size - 256)).take 256 = p := by
        rw [List.take_append, hp0, List.take_of_length_le (by omega)]; simp
      have e4 : (p ++ ps.flatten.take (size - 256)).drop 256 = ps.flatten.take (size - 256) := by
        rw [List.drop_append, hp0, List.drop_eq_nil_of_le (by omega)]; simp
      rw [e1, e3, e4, splitF_inv f ps (size - 256) (fun q hq => hp q (List.mem_cons_of_mem _ hq)) (by omega) (by omega) hz, pad, hp0]
      simp
theorem allB_inner (a : List By) : allB a = (inner a).flatten := by simp [allB, inner, List.flatMap_def]
theorem inner_pg (l : List (List UInt8)) : inner (l.map pgV) = l := by
  rw [inner, List.map_map]
  simp [Function.comp_def, pgV]
theorem allZ_rep (n : Nat) : allZ (List.replicate n 0) = true := by simp [allZ]
theorem paged_iff {a : List By} : pagedI a = true ↔ ∀ p ∈ a, p.xs.length = 256 := by
  constructor
  · intro h p hp
    simpa using List.all_eq_true.1 h p hp
  · intro h
    refine List.all_eq_true.2 fun p hp => ?_
    simpa using h p hp
theorem sized_iff {n : Int} : sizedI n = true ↔ 1 ≤ n ∧ n ≤ 4096 := by simp [sizedI]
theorem split_len {b : List UInt8} (h : b.length ≤ 4096) : (splitI b).length = (b.length + 255) / 256 := by
  rw [splitI, List.length_map, (splitF_flat 16 b (by omega)).2]
theorem split_flat {b : List UInt8} (h : b.length ≤ 4096) : allB (splitI b) = b ++ List.replicate (256 * ((b.length + 255) / 256) - b.length) 0 := by
  rw [allB_inner, splitI, inner_pg, (splitF_flat 16 b (by omega)).1]
theorem split_paged (b : List UInt8) : pagedI (splitI b) = true := paged_iff.2 fun p hp => ((split_pages b).2.1 p hp).1
/-- The pages of a program are joined to it. -/
theorem split_join {b : List UInt8} (h : sizedI b.length = true) : joinOK (splitI b) b.length = true ∧ allZ ((allB (splitI b)).drop ((b.length : Int)).toNat) = true ∧ (allB (splitI b)).take ((b.length : Int)).toNat = b := by
  have hs := sized_iff.1 h
  have hb : b.length ≤ 4096 := by omega
  rw [split_flat hb, Int.toNat_natCast, List.drop_left, List.take_left]
  refine ⟨?_, allZ_rep _, rfl⟩
  rw [joinOK, h, split_paged, Bool.true_and, Bool.and_true, decide_eq_true_eq, split_len hb, countI]
  omega
theorem join_parts {a : List By} {size : Int} (h : joinOK a size = true) : (1 ≤ size ∧ size ≤ 4096) ∧ (a.length : Int) = countI size ∧ ∀ p ∈ a, p.xs.length = 256 := by
  simp only [joinOK, Bool.and_eq_true, decide_eq_true_eq] at h
  exact ⟨sized_iff.1 h.1.1, h.1.2, paged_iff.1 h.2⟩
/-- What is joined has the pages. -/
theorem join_split {a : List By} {size : Int} (h : joinOK a size = true) (hz : allZ ((allB a).drop size.toNat) = true) : ((allB a).take size.toNat).length = size.toNat ∧ sizedI (((allB a).take size.toNat).length : Nat) = true ∧ inner (splitI ((allB a).take size.toNat)) = inner a := by
  obtain ⟨h1, h2, h3⟩ := join_parts h
  have hl := allB_len a h3
  unfold countI at h2
  have e : ((allB a).take size.toNat).length = size.toNat := by rw [List.length_take]; omega
  refine ⟨e, by rw [e]; exact sized_iff.2 (by omega), ?_⟩
  rw [splitI, inner_pg]
  rw [allB_inner] at hz ⊢
  refine splitF_inv 16 (inner a) size.toNat (fun p hp => ?_) (by simp [inner]; omega) (by simp [inner]; omega) hz
  obtain ⟨q, hq, rfl⟩ := List.mem_map.1 hp
  exact h3 q hq
end Go.Proofs.YtfmbdcmjgnikiaaDoor.Sm
namespace Go.Proofs.YtfmbdcmjgnikiaaDoor.Sm
open Go

def prq (a : List By) (k : Nat) : Sl Int := ⟨proofI a k, decide (proofI a k = []), decide (proofI a k = [])⟩
def ldQ (a : List By) (k : Nat) : List (Sl Int) := (List.range k).map (prq a)
theorem prf_len : ∀ (f : Nat) (l : List Int) (i : Nat), (prf f l i).length ≤ f + 1
  | 0, l, i => by rw [prf]; split <;> simp
  | f + 1, l, i => by
    have := prf_len f (nextI l) (i / 2)
    rw [prf, List.length_append]
    split <;> split <;> simp <;> omega
theorem proof_len (a : List By) (k : Nat) : (proofI a k).length ≤ 17 := by rw [proofI_eq]; exact prf_len 16 _ _
theorem provedF_all {dg size : Int} : ∀ (i : Nat) (ps : List By) (qs : List (Sl Int)), (∀ (j : Nat) (p : By) (q : Sl Int), ps[j]? = some p → qs[j]? = some q → checkI dg (countI size) (i + j : Nat) p.xs q.xs = true) → provedF dg size i ps qs = true
  | i, [], qs, h => by cases qs <;> rfl
  | i, p :: ps, [], h => rfl
  | i, p :: ps, q :: qs, h => by
    have h0 := h 0 p q rfl rfl
    rw [Nat.add_zero] at h0
    simp only [provedF, h0, Bool.true_and]
    refine provedF_all (i + 1) ps qs fun j p' q' hp hq => ?_
    have := h (j + 1) p' q' hp hq
    rwa [show i + (j + 1) = i + 1 + j by omega] at this
theorem notice_sized {ver start : Int} {n : Int} (h : noticeI ver n start = true) : sizedI n = true := by
  simp only [noticeI, Bool.and_eq_true] at h
  exact h.1.1.2
theorem split_count {b : List UInt8} (h : sizedI b.length = true) : countI b.length = ((splitI b).length : Int) := by
  have := sized_iff.1 h
  rw [split_len (by omega), countI]
  omega
theorem ld_sound {b : List UInt8} {ver start : Int} (h : noticeI ver b.length start = true) {k : Nat} (hk : k ≤ (splitI b).length) : soundI ver b.length (rootI (splitI b)) start ((splitI b).take k) (ldQ (splitI b) k) = true := by
  have hs := notice_sized h
  have hc := split_count hs
  have ha := split_are hs
  have hp := split_pages b
  rw [soundI, h]
  simp only [Bool.true_and, Bool.and_eq_true, decide_eq_true_eq]
  refine ⟨⟨⟨?_, ?_⟩, ?_⟩, ?_⟩
  · rw [hc, List.length_take]; omega
  · rw [ldQ, List.length_map, List.length_range, List.length_take]; omega
  · exact paged_iff.2 fun p hp' => (hp.2.1 p (List.mem_of_mem_take hp')).1
  · refine provedF_all 0 _ _ fun j p q hp' hq => ?_
    have hj : j < k := by
      have := (List.getElem?_eq_some_iff.1 hq).1
      simpa [ldQ] using this
    rw [List.getElem?_take, if_pos hj] at hp'
    rw [ldQ, List.getElem?_map, List.getElem?_range hj] at hq
    cases hq
    rw [Nat.zero_add, hc]
    exact check_proof ha hp'
theorem ld_clone {b : List UInt8} {k : Nat} {p : By} (hp : (splitI b)[k]? = some p) : ((splitI b).take k ++ [p]).map cloneB = (splitI b).take (k + 1) := by
  have e : (splitI b).take k ++ [p] = (splitI b).take (k + 1) := by rw [List.take_add_one, hp]; rfl
  rw [e]
  refine (List.map_congr_left fun q hq => ?_).trans (List.map_id _)
  obtain ⟨h1, h2, h3⟩ := (split_pages b).2.1 q (List.mem_of_mem_take hq)
  obtain ⟨xs, nl, tg⟩ := q
  simp only at h1 h2 h3
  subst h2; subst h3
  simp [cloneB, h1]
theorem prq_clone (a : List By) (k : Nat) : cloneB (prq a k) = prq a k := by
  simp [cloneB, prq]
theorem ld_cloneQ (a : List By) (k : Nat) : (ldQ a k ++ [prq a k]).map cloneB = ldQ a (k + 1) := by
  have e : ldQ a k ++ [prq a k] = ldQ a (k + 1) := by rw [ldQ, ldQ, List.range_succ, List.map_append]; rfl
  rw [e, ldQ, List.map_map]
  exact List.map_congr_left fun j _ => prq_clone a j
theorem ld_ok (b : List UInt8) (k : Nat) (hk : k ≤ (splitI b).length) {z : Bool} (hz : z = decide (k = 0)) : SpOK ((splitI b).take k) z (ldQ (splitI b) k) z where
  hl := by have := (split_pages b).1; rw [List.length_take]; omega
  hlp := by
    have := (split_pages b).1; rw [ldQ, List.length_map, List.length_range]; omega
  hp := fun p hp => fun h => by rw [((split_pages b).2.1 p (List.mem_of_mem_take hp)).2.1] at h; cases h
  hq := fun q hq => by
    obtain ⟨j, _, rfl⟩ := List.mem_map.1 hq
    have := proof_len (splitI b) j
    exact ⟨by show (proofI (splitI b) j).length ≤ _; omega, fun h => of_decide_eq_true h⟩
  n1 := fun h => by rw [hz] at h; rw [of_decide_eq_true h, List.take_zero]
  n2 := fun h => by rw [hz] at h; rw [of_decide_eq_true h]; rfl
end Go.Proofs.YtfmbdcmjgnikiaaDoor.Sm
namespace Go.Proofs.YtfmbdcmjgnikiaaDoor.Sm
open Go Go.RowKit
section
variable {st : St} {K : SV → St → Prop} {b : List UInt8} {ver start : Int}
theorem ld_proof (hs : sizedI b.length = true) {k : Nat} (hk : k < (splitI b).length) {n1 g1 : Bool} : WpF XX .ro n_tree_Proof [.tree ((splitI b).map By.v) n1 g1, .int .i64 k] st K ↔ K (.tup [(prq (splitI b) k).v uV, .int .i64 0]) st := by
  rw [f_tree_Proof, if_pos ⟨split_are hs, by omega, by omega⟩, Int.toNat_natCast]
  rfl
theorem ld_put (hn : noticeI ver b.length start = true) {k : Nat} (hk : k < (splitI b).length) {z : Bool} (hz : z = decide (k = 0)) {p : By} (hp : (splitI b)[k]? = some p) :
    WpF XX .ro n_image_Put [.agg [.int .i64 ver, .int .i64 (b.length : Int), .int .u64 (rootI (splitI b)), .int .i64 start, .tree (((splitI b).take k).map By.v) z z, .tree ((ldQ (splitI b) k).map (Sl.v uV)) z z, .tree [] true true, .tree [] true true, .int .i64 0, .int .i64 0, .int .i64 0, .int .i64 0, .int .i64 0], .tree (p.xs.map b8) false false, .tree ((proofI (splitI b) k).map uV) (decide (proofI (splitI b) k = [])) (decide (proofI (splitI b) k = []))] st K ↔ K (.tup [.agg [.int .i64 ver, .int .i64 (b.length : Int), .int .u64 (rootI (splitI b)), .int .i64 start, .tree (((splitI b).take (k + 1)).map By.v) false false, .tree ((ldQ (splitI b) (k + 1)).map (Sl.v uV)) false false, .tree [] true true, .tree [] true true, .int .i64 0, .int .i64 0, .int .i64 0, .int .i64 0, .int .i64 0], .int .i64 0]) st := by
  have hs := notice_sized hn
  have hc := split_count hs
  obtain ⟨h1, h2, h3⟩ := (split_pages b).2.1 p (List.mem_of_getElem? hp)
  have hl := proof_len (splitI b) k
  have hT : ((splitI b).take k).length = k := by rw [List.length_take]; omega
  have := @f_image_Put st K ver b.length (rootI (splitI b)) start ((splitI b).take k) z z (ldQ (splitI b) k) z z [] true true [] true true 0 0 0 0 0 p.xs false false (proofI (splitI b) k) (decide (proofI (splitI b) k = [])) (decide (proofI (splitI b) k = [])) (ld_ok b k (by omega) hz) (by omega) (by simp) (by omega) (fun h => of_decide_eq_true h)
  refine this.trans ?_
  have hck : checkI (rootI (splitI b)) (countI b.length) ((((splitI b).take k).length : Nat) : Int) p.xs (proofI (splitI b) k) = true := by
    rw [hT, hc]
    exact check_proof (split_are hs) hp
  rw [ld_sound hn (by omega), if_neg (by simp [h1]), if_neg (by rw [hT, hc]; omega), hck, if_neg (by simp)]
  have e1 : ((splitI b).take k ++ [(⟨p.xs, false, false⟩ : By)]).map cloneB = (splitI b).take (k + 1) := by
    have : (⟨p.xs, false, false⟩ : By) = p := by
      obtain ⟨xs, nl, tg⟩ := p
      simp only at h2 h3
      subst h2; subst h3; rfl
    rw [this]
    exact ld_clone hp
  have e2 : (ldQ (splitI b) k ++ [(⟨proofI (splitI b) k, decide (proofI (splitI b) k = []), decide (proofI (splitI b) k = [])⟩ : Sl Int)]).map cloneB = ldQ (splitI b) (k + 1) := ld_cloneQ (splitI b) k
  rw [e1, e2]
theorem ld_whole (hn : noticeI ver b.length start = true) {k : Nat} (hk : k < (splitI b).length) {z : Bool} (hz : z = decide (k = 0)) : WpF XX .ro n_image_Whole [.agg [.int .i64 ver, .int .i64 (b.length : Int), .int .u64 (rootI (splitI b)), .int .i64 start, .tree (((splitI b).take k).map By.v) z z, .tree ((ldQ (splitI b) k).map (Sl.v uV)) z z, .tree [] true true, .tree [] true true, .int .i64 0, .int .i64 0, .int .i64 0, .int .i64 0, .int .i64 0]] st K ↔ K (.tup [.tree [] true true, .bool false]) st := by
  have hs := notice_sized hn
  have hc := split_count hs
  have hT : ((splitI b).take k).length = k := by rw [List.length_take]; omega
  have := @f_image_Whole st K ver b.length (rootI (splitI b)) start ((splitI b).take k) z z (ldQ (splitI b) k) z z [] true true [] true true 0 0 0 0 0 (ld_ok b k (by omega) hz)
  refine this.trans ?_
  have hj : joinOK ((splitI b).take k) b.length = false := by
    rw [joinOK, hT, hc]
    have : ¬ (k : Int) = ((splitI b).length : Int) := by omega
    simp [this]
  rw [hj, if_neg (by simp)]
theorem ld_whole_all (hn : noticeI ver b.length start = true) : WpF XX .ro n_image_Whole [.agg [.int .i64 ver, .int .i64 (b.length : Int), .int .u64 (rootI (splitI b)), .int .i64 start, .tree (((splitI b).take (splitI b).length).map By.v) false false, .tree ((ldQ (splitI b) (splitI b).length).map (Sl.v uV)) false false, .tree [] true true, .tree [] true true, .int .i64 0, .int .i64 0, .int .i64 0, .int .i64 0, .int .i64 0]] st K ↔ K (.tup [.tree (b.map b8) false true, .bool true]) st := by
  have hs := notice_sized hn
  obtain ⟨j1, j2, j3⟩ := split_join hs
  have hne : (splitI b).length ≠ 0 := fun h => by
    have := split_count hs
    have h2 := sized_iff.1 hs
    rw [h, countI] at this
    omega
  have := @f_image_Whole st K ver b.length (rootI (splitI b)) start ((splitI b).take (splitI b).length) false false (ldQ (splitI b) (splitI b).length) false false [] true true [] true true 0 0 0 0 0 (ld_ok b _ (Nat.le_refl _) (by simp [hne]))
  refine this.trans ?_
  have h4 := ld_sound hn (Nat.le_refl _)
  rw [List.take_length] at h4 ⊢
  rw [if_pos ⟨h4, j1, j2⟩, j3]
end
end Go.Proofs.YtfmbdcmjgnikiaaDoor.Sm
namespace Go.Proofs.YtfmbdcmjgnikiaaDoor.Sm
open Go Go.RowKit
section
variable {ls : List (Nat × LRec)} {Q : Ex → St → Prop} {R : Prop} {st : St} {K : SV → St → Prop}
theorem prq_v (a : List By) (k : Nat) : (prq a k).v uV = .tree ((proofI a k).map uV) (decide (proofI a k = [])) (decide (proofI a k = [])) := rfl
theorem L_loads {b : List UInt8} {nb gb : Bool} {ver start : Int} {nt : List SV} (hn : noticeI ver b.length start = true) : ∀ (d k : Nat) (z : Bool) (h : Heap) (nx : Nat), k + d = (splitI b).length → z = decide (k = 0) → fresh h nx → 2 ≤ nx → look h 1 = some [.int .i64 ver, .int .i64 (b.length : Int), .int .u64 (rootI (splitI b)), .int .i64 start, .tree (((splitI b).take k).map By.v) z z, .tree ((ldQ (splitI b) k).map (Sl.v uV)) z z, .tree [] true true, .tree [] true true, .int .i64 0, .int .i64 0, .int .i64 0, .int .i64 0, .int .i64 0] →
    (∀ (h' : Heap) (nx' : Nat), fresh h' nx' → look h' 1 = some [.int .i64 ver, .int .i64 (b.length : Int), .int .u64 (rootI (splitI b)), .int .i64 start, .tree (((splitI b).take (splitI b).length).map By.v) false false, .tree ((ldQ (splitI b) (splitI b).length).map (Sl.v uV)) false false, .tree [] true true, .tree [] true true, .int .i64 0, .int .i64 0, .int .i64 0, .int .i64 0, .int .i64 0] → (Q (.exit 0) ⟨[(0, .tree (b.map b8) nb gb), (7, .bool true), (12, .ptr 1 0)], h', nx', ls, 0⟩ ↔ R)) →
    (L_law36_ImageLoads_0 XX (.tree (b.map b8) nb gb) (.bool true) (.tree ((splitI b).map By.v) false false) (.ptr 1 0) (.tree ((splitI b).map By.v) false false) (.int .i64 (splitI b).length) (.int .i64 k) h nx ls 0 Q ↔ R) := by
  have hs := notice_sized hn
  have hn16 := (split_pages b).1
  intro d
  induction d with
  | zero =>
    intro k z h nx hk hz hf hnx h1 q
    obtain rfl : k = (splitI b).length := by omega
    have hne : (splitI b).length ≠ 0 := fun h => by
      have := split_count hs
      have h2 := sized_iff.1 hs
      rw [h, countI] at this
      omega
    have hz' : z = false := by simp [hz, hne]
    subst hz'
    rw [L_law36_ImageLoads_0_unf]
    simp only [b_law36_ImageLoads_0, bC, bW, wpY', evR, evW, idx, ldc, okV, sub, setc, buildC, bnd, resOf, resL, res1, xorB, take2L, take2, takeL, take1, appF, rowOf, elemOk, plain, pl1, isRow, cellB, srcOf, LIM, Option.some.injEq, exists_eq_left', exists_eq_left, Prod.mk.injEq, if_true, if_false, ite_true, ite_false, ne_eq, eq_self, reduceCtorEq, ↓reduceIte, Nat.reduceEqDiff, Nat.reduceAdd, Nat.reduceSub, Nat.reduceMul, Nat.reduceLT, Nat.reduceLeDiff, Nat.reduceBEq, Nat.reduceBNe, Nat.reduceMod, Nat.reduceDiv, Nat.reducePow, Int.reduceEq, Int.reduceLT, Int.reduceLE, Int.reduceNeg, Int.reduceAdd, Int.reduceSub, Int.reduceMul, Int.reduceToNat, Int.reduceBEq, Int.reduceBNe, Int.lt_irrefl]
    exact q h nx hf h1
  | succ d ih =>
    intro k z h nx hk hz hf hnx h1 q
    have hlt : k < (splitI b).length := by omega
    obtain ⟨p, hp, _⟩ := get_some hlt
    obtain ⟨p1, p2, p3⟩ := (split_pages b).2.1 p (List.mem_of_getElem? hp)
    have hx : ((splitI b).map By.v)[k]? = some (.tree (p.xs.map b8) false false) := by
      rw [List.getElem?_map, hp]
      obtain ⟨xs, nl, tg⟩ := p
      simp only at p2 p3
      subst p2; subst p3; rfl
    have f0 := hf nx (Nat.le_refl _)
    rw [L_law36_ImageLoads_0_unf]
    simp (disch := omega) only [b_law36_ImageLoads_0, bC, bD, bH, wpY', evR, evW, idx, ldc, okV, sub, setc, buildC, bnd, resOf, resL, res1, xorB, take2L, take2, takeL, take1, appF, rowOf, elemOk, plain, pl1, isRow, cellB, srcOf, LIM, Option.some.injEq, exists_eq_left', exists_eq_left, Prod.mk.injEq, if_true, if_false, ite_true, ite_false, ne_eq, eq_self, reduceCtorEq, ↓reduceIte, Nat.reduceEqDiff, Nat.reduceAdd, Nat.reduceSub, Nat.reduceMul, Nat.reduceLT, Nat.reduceLeDiff, Nat.reduceBEq, Nat.reduceBNe, Nat.reduceMod, Nat.reduceDiv, Nat.reducePow, Int.reduceEq, Int.reduceLT, Int.reduceLE, Int.reduceNeg, Int.reduceAdd, Int.reduceSub, Int.reduceMul, Int.reduceToNat, Int.reduceBEq, Int.reduceBNe, unused, fpO, rdR, rdW, own1, ptr1, ownC, sepOk, compat, disj, offR, h1, lt_c hlt, hx, ld_whole hn hlt hz, ld_proof hs hlt, prq_v, ld_put hn hlt hz hp, f0, wi_s hlt (by omega), L_law36_ImageLoads_0_eq]
    refine ih (k + 1) false _ _ (by omega) (by simp) (fun j hj => ?_) (by omega) ?_ q
    · simp (disch := omega) only [bC, bD, bH, wpY', evR, evW, idx, ldc, okV, sub, setc, buildC, bnd, resOf, resL, res1, xorB, take2L, take2, takeL, take1, appF, rowOf, elemOk, plain, pl1, isRow, cellB, srcOf, LIM, Option.some.injEq, exists_eq_left', exists_eq_left, Prod.mk.injEq, if_true, if_false, ite_true, ite_false, ne_eq, eq_self, reduceCtorEq, ↓reduceIte, Nat.reduceEqDiff, Nat.reduceAdd, Nat.reduceSub, Nat.reduceMul, Nat.reduceLT, Nat.reduceLeDiff, Nat.reduceBEq, Nat.reduceBNe, Nat.reduceMod, Nat.reduceDiv, Nat.reducePow, Int.reduceEq, Int.reduceLT, Int.reduceLE, Int.reduceNeg, Int.reduceAdd, Int.reduceSub, Int.reduceMul, Int.reduceToNat, Int.reduceBEq, Int.reduceBNe, unused, fpO, rdR, rdW, own1, ptr1, ownC, sepOk, compat, disj, offR]
      exact hf j (by omega)
    · simp (disch := omega) only [bC, bD, bH, wpY', evR, evW, idx, ldc, okV, sub, setc, buildC, bnd, resOf, resL, res1, xorB, take2L, take2, takeL, take1, appF, rowOf, elemOk, plain, pl1, isRow, cellB, srcOf, LIM, Option.some.injEq, exists_eq_left', exists_eq_left, Prod.mk.injEq, if_true, if_false, ite_true, ite_false, ne_eq, eq_self, reduceCtorEq, ↓reduceIte, Nat.reduceEqDiff, Nat.reduceAdd, Nat.reduceSub, Nat.reduceMul, Nat.reduceLT, Nat.reduceLeDiff, Nat.reduceBEq, Nat.reduceBNe, Nat.reduceMod, Nat.reduceDiv, Nat.reducePow, Int.reduceEq, Int.reduceLT, Int.reduceLE, Int.reduceNeg, Int.reduceAdd, Int.reduceSub, Int.reduceMul, Int.reduceToNat, Int.reduceBEq, Int.reduceBNe, unused, fpO, rdR, rdW, own1, ptr1, ownC, sepOk, compat, disj, offR, h1]
set_option maxHeartbeats 2000000 in
set_option maxRecDepth 100000 in
theorem law_ImageLoads {b : List UInt8} {nb gb : Bool} {ver start : Int} (hb : b.length < 4611686018427387904) :
    WpF XX .ro n_law36_ImageLoads [.tree (b.map b8) nb gb, .int .i64 ver, .int .i64 start] st K ↔ K (.bool true) st := by
  rw [F_ro (mf := m_law36_ImageLoads) rfl rfl]
  have eA := fun st K => f_image_Announce (st := st) (K := K) (ver := ver) (start := start) (b := b) (nl := nb) (tg := gb)
  cases hn : noticeI ver b.length start with
  | false =>
    simp only [hn, Bool.false_eq_true, if_false] at eA
    simp only [m_law36_ImageLoads, bC, bW, bD, wpY', evR, evW, idx, ldc, okV, sub, setc, buildC, bnd, resOf, resL, res1, xorB, take2L, take2, takeL, take1, appF, rowOf, elemOk, plain, pl1, isRow, cellB, srcOf, LIM, Option.some.injEq, exists_eq_left', exists_eq_left, Prod.mk.injEq, if_true, if_false, ite_true, ite_false, ne_eq, eq_self, reduceCtorEq, ↓reduceIte, Nat.reduceEqDiff, Nat.reduceAdd, Nat.reduceSub, Nat.reduceMul, Nat.reduceLT, Nat.reduceLeDiff, Nat.reduceBEq, Nat.reduceBNe, Nat.reduceMod, Nat.reduceDiv, Nat.reducePow, Int.reduceEq, Int.reduceLT, Int.reduceLE, Int.reduceNeg, Int.reduceAdd, Int.reduceSub, Int.reduceMul, Int.reduceToNat, Int.reduceBEq, Int.reduceBNe, unused, fpO, rdR, rdW, own1, ptr1, ownC, sepOk, compat, disj, offR, f_law36_head, eA]
  | true =>
    have hs := notice_sized hn
    simp only [hn, if_true] at eA
    have eS := fun st K => f_image_Split (st := st) (K := K) (b := b) (nl := nb) (tg := gb)
    simp only [hs, if_true] at eS
    have e3 := fun st K => f_ref36_Bytes (st := st) (K := K) (a := b) (b := b) (n1 := false) (g1 := true) (n2 := nb) (g2 := gb) hb
    simp only [decide_true] at e3
    simp only [m_law36_ImageLoads, bC, bW, bD, wpY', evR, evW, idx, ldc, okV, sub, setc, buildC, bnd, resOf, resL, res1, xorB, take2L, take2, takeL, take1, appF, rowOf, elemOk, plain, pl1, isRow, cellB, srcOf, LIM, Option.some.injEq, exists_eq_left', exists_eq_left, Prod.mk.injEq, if_true, if_false, ite_true, ite_false, ne_eq, eq_self, reduceCtorEq, ↓reduceIte, Nat.reduceEqDiff, Nat.reduceAdd, Nat.reduceSub, Nat.reduceMul, Nat.reduceLT, Nat.reduceLeDiff, Nat.reduceBEq, Nat.reduceBNe, Nat.reduceMod, Nat.reduceDiv, Nat.reducePow, Int.reduceEq, Int.reduceLT, Int.reduceLE, Int.reduceNeg, Int.reduceAdd, Int.reduceSub, Int.reduceMul, Int.reduceToNat, Int.reduceBEq, Int.reduceBNe, unused, fpO, rdR, rdW, own1, ptr1, ownC, sepOk, compat, disj, offR, f_law36_head, eA, eS, L_law36_ImageLoads_0_eq]
    refine L_loads (nt := []) hn (splitI b).length 0 true _ _ (by omega) (by simp) (fun j hj => by simp (disch := omega) only [bC, bD, bH, wpY', evR, evW, idx, ldc, okV, sub, setc, buildC, bnd, resOf, resL, res1, xorB, take2L, take2, takeL, take1, appF, rowOf, elemOk, plain, pl1, isRow, cellB, srcOf, LIM, Option.some.injEq, exists_eq_left', exists_eq_left, Prod.mk.injEq, if_true, if_false, ite_true, ite_false, ne_eq, eq_self, reduceCtorEq, ↓reduceIte, Nat.reduceEqDiff, Nat.reduceAdd, Nat.reduceSub, Nat.reduceMul, Nat.reduceLT, Nat.reduceLeDiff, Nat.reduceBEq, Nat.reduceBNe, Nat.reduceMod, Nat.reduceDiv, Nat.reducePow, Int.reduceEq, Int.reduceLT, Int.reduceLE, Int.reduceNeg, Int.reduceAdd, Int.reduceSub, Int.reduceMul, Int.reduceToNat, Int.reduceBEq, Int.reduceBNe, unused, fpO, rdR, rdW, own1, ptr1, ownC, sepOk, compat, disj, offR]) (by omega) rfl fun h' nx' hf' h1' => ?_
    have e4 := fun st K => ld_whole_all (st := st) (K := K) hn
    simp only [List.take_length] at e4
    simp only [bC, bW, bD, wpY', evR, evW, idx, ldc, okV, sub, setc, buildC, bnd, resOf, resL, res1, xorB, take2L, take2, takeL, take1, appF, rowOf, elemOk, plain, pl1, isRow, cellB, srcOf, LIM, Option.some.injEq, exists_eq_left', exists_eq_left, Prod.mk.injEq, if_true, if_false, ite_true, ite_false, ne_eq, eq_self, reduceCtorEq, ↓reduceIte, Nat.reduceEqDiff, Nat.reduceAdd, Nat.reduceSub, Nat.reduceMul, Nat.reduceLT, Nat.reduceLeDiff, Nat.reduceBEq, Nat.reduceBNe, Nat.reduceMod, Nat.reduceDiv, Nat.reducePow, Int.reduceEq, Int.reduceLT, Int.reduceLE, Int.reduceNeg, Int.reduceAdd, Int.reduceSub, Int.reduceMul, Int.reduceToNat, Int.reduceBEq, Int.reduceBNe, unused, fpO, rdR, rdW, own1, ptr1, ownC, sepOk, compat, disj, offR, h1', List.take_length, e4, e3]
end
end Go.Proofs.YtfmbdcmjgnikiaaDoor.Sm
namespace Go.Proofs.YtfmbdcmjgnikiaaDoor.Sm
open Go

theorem nextI_set : ∀ (l : List Int) (i : Nat) (x : Int), (∀ y ∈ l, InR y) → InR x → i < l.length → l.getD i 0 ≠ x → ∃ y, InR y ∧ nextI (l.set i x) = (nextI l).set (i / 2) y ∧ (nextI l).getD (i / 2) 0 ≠ y
  | [], i, x, hl, hx, hi, hn => by simp at hi
  | [a], i, x, hl, hx, hi, hn => by
    obtain rfl : i = 0 := by simpa using hi
    exact ⟨x, hx, by simp [nextI], by simpa [nextI] using hn⟩
  | a :: b :: r, i, x, hl, hx, hi, hn => by
    have ha := hl a (by simp)
    have hb := hl b (by simp)
    match i, hi, hn with
    | 0, _, hn =>
      refine ⟨pairI x b, pair_in _ _, by simp [nextI], ?_⟩
      simp only [nextI, Nat.zero_div, List.getD_cons_zero]
      exact fun e => hn (by simpa using pair_inj_l ha hx e)
    | 1, _, hn =>
      refine ⟨pairI a x, pair_in _ _, by simp [nextI], ?_⟩
      simp only [nextI]
      exact fun e => hn (by simpa using pair_inj_r hb hx (by simpa using e))
    | i + 2, hi, hn =>
      obtain ⟨y, h1, h2, h3⟩ := nextI_set r i x (fun y hy => hl y (by simp [hy])) hx (by simpa using hi) (by simpa using hn)
      have e : (i + 2) / 2 = i / 2 + 1 := by omega
      refine ⟨y, h1, ?_, ?_⟩
      · rw [e, List.set_cons_succ, List.set_cons_succ, nextI, h2, nextI, List.set_cons_succ]
      · rw [e, nextI, List.getD_cons_succ]
        exact h3
theorem root_set : ∀ (f : Nat) (l : List Int) (i : Nat) (x : Int), (∀ y ∈ l, InR y) → InR x → i < l.length → l.length ≤ f + 1 → l.getD i 0 ≠ x → rootF f (l.set i x) ≠ rootF f l
  | 0, l, i, x, hl, hx, hi, hf, hn => by
    obtain rfl : i = 0 := by omega
    cases l with
    | nil => simp at hi
    | cons a l =>
      simp only [rootF, List.set_cons_zero, List.headD_cons]
      exact fun e => hn (by simpa using e.symm)
  | f + 1, l, i, x, hl, hx, hi, hf, hn => by
    rw [rootF, rootF, List.length_set]
    by_cases h1 : 1 < l.length
    · rw [if_pos h1, if_pos h1]
      obtain ⟨y, k1, k2, k3⟩ := nextI_set l i x hl hx hi hn
      have hlen := nextI_len l
      rw [k2]
      exact root_set f (nextI l) (i / 2) y (nextI_in l hl) k1 (by omega) (by omega) k3
    · rw [if_neg h1, if_neg h1]
      obtain rfl : i = 0 := by omega
      cases l with
      | nil => simp at hi
      | cons a l =>
        simp only [List.set_cons_zero, List.headD_cons]
        exact fun e => hn (by simpa using e.symm)
theorem splitF_set : ∀ (f : Nat) (b : List UInt8) (k : Nat) (c : UInt8), b.length ≤ 256 * f → k < b.length → ∃ p, (splitF f b)[k / 256]? = some p ∧ p[k % 256]? = b[k]? ∧ splitF f (b.set k c) = (splitF f b).set (k / 256) (p.set (k % 256) c)
  | 0, b, k, c, hb, hk => by omega
  | f + 1, b, k, c, hb, hk => by
    have h0 : b ≠ [] := fun e => by subst e; simp at hk
    have h1 : b.set k c ≠ [] := fun e => h0 (by simpa using e)
    rw [splitF, if_neg h0, splitF, if_neg h1]
    by_cases hlt : k < 256
    · have e1 : k / 256 = 0 := by omega
      have e2 : k % 256 = k := by omega
      rw [e1, e2]
      have hkl : k < (b.take 256).length := by rw [List.length_take]; omega
      refine ⟨pad (b.take 256), rfl, ?_, ?_⟩
      · rw [pad, List.getElem?_append_left hkl, List.getElem?_take, if_pos hlt]
      · rw [List.set_cons_zero, List.drop_set_of_lt hlt]
        congr 1
        rw [pad, pad, List.set_append, if_pos hkl, List.take_set, List.length_set]
    · obtain ⟨p, h2, h3, h4⟩ := splitF_set f (b.drop 256) (k - 256) c (by rw [List.length_drop]; omega) (by rw [List.length_drop]; omega)
      have e1 : k / 256 = (k - 256) / 256 + 1 := by omega
      have e2 : k % 256 = (k - 256) % 256 := by omega
      rw [e1, e2]
      refine ⟨p, h2, ?_, ?_⟩
      · rw [h3, List.getElem?_drop, show 256 + (k - 256) = k by omega]
      · rw [List.set_cons_succ, ← h4, List.drop_set, if_neg hlt, List.take_set, List.set_eq_of_length_le (by rw [List.length_take]; omega)]
theorem root_byte {b : List UInt8} {k : Nat} {c d : UInt8} (hb : b.length ≤ 4096) (hk : b[k]? = some c) (hne : c ≠ d) : rootI (splitI (b.set k d)) ≠ rootI (splitI b) := by
  have hkl := (List.getElem?_eq_some_iff.1 hk).1
  obtain ⟨p, h1, h2, h3⟩ := splitF_set 16 b k d (by omega) hkl
  have e1 : splitI (b.set k d) = (splitI b).set (k / 256) (pgV (p.set (k % 256) d)) := by
    rw [splitI, h3, splitI, List.map_set]
  have e2 : leavesI (splitI (b.set k d)) = (leavesI (splitI b)).set (k / 256) (leafI (p.set (k % 256) d)) := by
    rw [e1, leavesI, List.map_set]; rfl
  have hp : (splitI b)[k / 256]? = some (pgV p) := by rw [splitI, List.getElem?_map, h1]; rfl
  have hl := (List.getElem?_eq_some_iff.1 hp).1
  have h16 := (split_pages b).1
  have hll : (leavesI (splitI b)).length = (splitI b).length := by simp [leavesI]
  rw [rootI, rootI, e2]
  refine root_set 16 _ _ _ (fun y hy => ?_) (leaf_in _) (by omega) (by omega) ?_
  · obtain ⟨q, _, rfl⟩ := List.mem_map.1 hy
    exact leaf_in _
  · rw [leavesI_getD hp]
    exact (leaf_set (h2.trans hk) hne).symm
end Go.Proofs.YtfmbdcmjgnikiaaDoor.Sm
namespace Go.Proofs.YtfmbdcmjgnikiaaDoor.Sm
open Go Go.RowKit
theorem xor_u8 (c d : UInt8) : xorI .u8 (c.toNat : Int) (d.toNat : Int) = ((c ^^^ d).toNat : Int) := by
  have e1 : BitVec.ofInt 8 (c.toNat : Int) = c.toBitVec := by
    apply BitVec.eq_of_toNat_eq
    have := c.toNat_lt
    simp [BitVec.toNat_ofInt]
  have e2 : BitVec.ofInt 8 (d.toNat : Int) = d.toBitVec := by
    apply BitVec.eq_of_toNat_eq
    simp [BitVec.toNat_ofInt]
  show IntKind.u8.wrap ((BitVec.ofInt 8 (c.toNat : Int) ^^^ BitVec.ofInt 8 (d.toNat : Int)).toNat : Nat) = _
  rw [e1, e2]
  have : (c.toBitVec ^^^ d.toBitVec).toNat = (c ^^^ d).toNat := rfl
  rw [this]
  have h := (c ^^^ d).toNat_lt
  revert h
  generalize (c ^^^ d).toNat = n
  intro h
  simp [IntKind.wrap, IntKind.bits, IntKind.signed]
  omega
theorem xor_left8 {a b c : BitVec 8} (h : a ^^^ b = a ^^^ c) : b = c := by
  have := congrArg (a ^^^ ·) h
  simpa [← BitVec.xor_assoc] using this
theorem xor_ne {c d : UInt8} (h : d ≠ 0) : c ≠ c ^^^ d := by
  intro e
  apply h
  have h1 : c.toBitVec = c.toBitVec ^^^ d.toBitVec := congrArg UInt8.toBitVec e
  have h2 : c.toBitVec ^^^ 0#8 = c.toBitVec ^^^ d.toBitVec := by rw [BitVec.xor_zero]; exact h1
  have h3 : d.toBitVec = 0#8 := (xor_left8 h2).symm
  exact UInt8.eq_of_toBitVec_eq h3
section
variable {st : St} {K : SV → St → Prop}
set_option maxHeartbeats 2000000 in
set_option maxRecDepth 100000 in
theorem law_ImageNotices {b : List UInt8} {nb gb : Bool} {ver start : Int} {A : Nat} {d : UInt8} (hA : A < 65536) :
    WpF XX .ro n_law36_ImageNotices [.tree (b.map b8) nb gb, .int .i64 ver, .int .i64 start, .int .u16 A, .int .u8 d.toNat] st K ↔ K (.bool true) st := by
  rw [F_ro (mf := m_law36_ImageNotices) rfl rfl]
  have eA := fun b nb gb st K => f_image_Announce (st := st) (K := K) (ver := ver) (start := start) (b := b) (nl := nb) (tg := gb)
  cases hn : noticeI ver b.length start with
  | false =>
    have e1 := eA b nb gb
    simp only [hn, Bool.false_eq_true, if_false] at e1
    simp only [m_law36_ImageNotices, bC, bW, bD, wpY', evR, evW, idx, ldc, okV, sub, setc, buildC, bnd, resOf, resL, res1, xorB, take2L, take2, takeL, take1, appF, rowOf, elemOk, plain, pl1, isRow, cellB, srcOf, LIM, Option.some.injEq, exists_eq_left', exists_eq_left, Prod.mk.injEq, if_true, if_false, ite_true, ite_false, ne_eq, eq_self, reduceCtorEq, ↓reduceIte, Nat.reduceEqDiff, Nat.reduceAdd, Nat.reduceSub, Nat.reduceMul, Nat.reduceLT, Nat.reduceLeDiff, Nat.reduceBEq, Nat.reduceBNe, Nat.reduceMod, Nat.reduceDiv, Nat.reducePow, Int.reduceEq, Int.reduceLT, Int.reduceLE, Int.reduceNeg, Int.reduceAdd, Int.reduceSub, Int.reduceMul, Int.reduceToNat, Int.reduceBEq, Int.reduceBNe, unused, fpO, rdR, rdW, own1, ptr1, ownC, sepOk, compat, disj, offR, f_law36_head, e1]
  | true =>
  have e1 := eA b nb gb
  simp only [hn, if_true] at e1
  by_cases hd : d = 0
  · simp only [m_law36_ImageNotices, bC, bW, bD, wpY', evR, evW, idx, ldc, okV, sub, setc, buildC, bnd, resOf, resL, res1, xorB, take2L, take2, takeL, take1, appF, rowOf, elemOk, plain, pl1, isRow, cellB, srcOf, LIM, Option.some.injEq, exists_eq_left', exists_eq_left, Prod.mk.injEq, if_true, if_false, ite_true, ite_false, ne_eq, eq_self, reduceCtorEq, ↓reduceIte, Nat.reduceEqDiff, Nat.reduceAdd, Nat.reduceSub, Nat.reduceMul, Nat.reduceLT, Nat.reduceLeDiff, Nat.reduceBEq, Nat.reduceBNe, Nat.reduceMod, Nat.reduceDiv, Nat.reducePow, Int.reduceEq, Int.reduceLT, Int.reduceLE, Int.reduceNeg, Int.reduceAdd, Int.reduceSub, Int.reduceMul, Int.reduceToNat, Int.reduceBEq, Int.reduceBNe, unused, fpO, rdR, rdW, own1, ptr1, ownC, sepOk, compat, disj, offR, f_law36_head, e1, b8_zero, eq_true hd]
  have hs := sized_iff.1 (notice_sized hn)
  have h0 : ¬ (b.length : Int) = 0 := by omega
  have h0' : ¬ b.length = 0 := by omega
  have hL : b.length ≤ 4294967296 := by omega
  have hi : A % b.length < b.length := Nat.mod_lt _ (by omega)
  have hi1 : A % b.length + 1 ≤ b.length := hi
  obtain ⟨c, hc, _⟩ := get_some hi
  have hx : (b.map b8)[A % b.length]? = some (.int .u8 c.toNat) := by rw [List.getElem?_map, hc]; rfl
  have w1 : IntKind.i64.wrap (A : Int) = A := wi _ (by omega) (by omega)
  have w2 : (A : Int).tmod (b.length : Int) = ((A % b.length : Nat) : Int) := by
    rw [Int.tmod_eq_emod_of_nonneg (by omega)]; rfl
  have w3 : (((A % b.length : Nat) : Int) < (b.length : Int)) = True := lt_c hi
  have hset : (b.map b8).set (A % b.length) (.int .u8 ((c ^^^ d).toNat : Int)) = (b.set (A % b.length) (c ^^^ d)).map b8 := by rw [List.map_set]; rfl
  have e2 := eA (b.set (A % b.length) (c ^^^ d))
  rw [List.length_set] at e2
  simp only [hn, if_true] at e2
  have hr := root_byte (b := b) (by omega) hc (xor_ne (c := c) hd)
  have hr' : ¬ rootI (splitI b) = rootI (splitI (b.set (A % b.length) (c ^^^ d))) := fun e => hr e.symm
  have htk : List.take b.length ((b.set (A % b.length) (c ^^^ d)).map b8) = (b.set (A % b.length) (c ^^^ d)).map b8 := List.take_of_length_le (by simp)
  simp only [m_law36_ImageNotices, bC, bW, bD, wpY', evR, evW, idx, ldc, okV, sub, setc, buildC, bnd, resOf, resL, res1, xorB, take2L, take2, takeL, take1, appF, rowOf, elemOk, plain, pl1, isRow, cellB, srcOf, LIM, Option.some.injEq, exists_eq_left', exists_eq_left, Prod.mk.injEq, if_true, if_false, ite_true, ite_false, ne_eq, eq_self, reduceCtorEq, ↓reduceIte, Nat.reduceEqDiff, Nat.reduceAdd, Nat.reduceSub, Nat.reduceMul, Nat.reduceLT, Nat.reduceLeDiff, Nat.reduceBEq, Nat.reduceBNe, Nat.reduceMod, Nat.reduceDiv, Nat.reducePow, Int.reduceEq, Int.reduceLT, Int.reduceLE, Int.reduceNeg, Int.reduceAdd, Int.reduceSub, Int.reduceMul, Int.reduceToNat, Int.reduceBEq, Int.reduceBNe, unused, fpO, rdR, rdW, own1, ptr1, ownC, sepOk, compat, disj, offR, f_law36_head, e1, b8_zero, hd, h0, h0', hL, b8_len1, b8_flat, b8_cB, b8_all, b8_hd, w1, w2, w3, hi, hi1, hx, xor_u8, hset, htk, e2, hr', List.length_set]
end
end Go.Proofs.YtfmbdcmjgnikiaaDoor.Sm
namespace Go.Proofs.YtfmbdcmjgnikiaaDoor.Sm
open Go

/-- How many digests are used up hangs on the place alone. -/
theorem climb_same_len : ∀ (f n i : Nat) (x y : Int) (ps qs : List Int) (r s : Int), climb f n i x ps = some r → climb f n i y qs = some s → ps.length = qs.length
  | 0, n, i, x, y, ps, qs, r, s, h1, h2 => by
    simp only [climb] at h1 h2
    split at h1
    · rename_i hp
      split at h2
      · rename_i hq; rw [hp, hq]
      · cases h2
    · cases h1
  | f + 1, n, i, x, y, ps, qs, r, s, h1, h2 => by
    by_cases hn : 1 < n
    · by_cases hp : partner i < n
      · cases ps with
        | nil => rw [climb_hit0 hn hp] at h1; cases h1
        | cons p ps =>
          cases qs with
          | nil => rw [climb_hit0 hn hp] at h2; cases h2
          | cons q qs =>
            rw [climb_hit hn hp] at h1 h2
            rw [List.length_cons, List.length_cons, climb_same_len f _ _ _ _ ps qs r s h1 h2]
      · rw [climb_miss hn hp] at h1 h2
        exact climb_same_len f _ _ _ _ ps qs r s h1 h2
    · rw [climb_end hn] at h1 h2
      split at h1
      · rename_i hp
        split at h2
        · rename_i hq; rw [hp, hq]
        · cases h2
      · cases h1
theorem check_climb {root n i : Int} {page : List UInt8} {ps : List Int} (h : checkI root n i page ps = true) : climb 16 n.toNat i.toNat (leafI page) ps = some root := by
  simp only [checkI, Bool.and_eq_true, decide_eq_true_eq] at h
  exact h.2
theorem not_check {root n i : Int} {page : List UInt8} {ps : List Int} (h : climb 16 n.toNat i.toNat (leafI page) ps = some root → False) : checkI root n i page ps = false := by
  cases hc : checkI root n i page ps with
  | false => rfl
  | true => exact (h (check_climb hc)).elim
/-- Another length. -/
theorem check_len {root n i : Int} {page page' : List UInt8} {ps qs : List Int} (h : checkI root n i page ps = true) (hl : qs.length ≠ ps.length) : checkI root n i page' qs = false :=
  not_check fun e => hl (climb_same_len _ _ _ _ _ _ _ _ _ e (check_climb h))
/-- Another byte. -/
theorem check_byte {root n i : Int} {page : List UInt8} {ps : List Int} {k : Nat} {c d : UInt8} (h : checkI root n i page ps = true) (hk : page[k]? = some c) (hne : c ≠ d) : checkI root n i (page.set k d) ps = false :=
  not_check fun e => leaf_set hk hne (climb_inj_x _ _ _ _ _ _ _ (leaf_in _) (leaf_in _) e (check_climb h))
/-- Another digest. -/
theorem check_digest {root n i : Int} {page : List UInt8} {ps : List Int} {j : Nat} {q : Int} (h : checkI root n i page ps = true) (hps : ∀ p ∈ ps, InR p) (hq : InR q) (hj : j < ps.length) (hne : ps.getD j 0 ≠ q) : checkI root n i page (ps.set j q) = false :=
  not_check fun e => hne (climb_inj_p _ _ _ _ _ _ _ _ (leaf_in _) hps hq hj (check_climb h) e)
theorem prf_in : ∀ (f : Nat) (l : List Int) (i : Nat), (∀ y ∈ l, InR y) → ∀ p ∈ prf f l i, InR p
  | 0, l, i, hl, p, hp => by
    rw [prf] at hp
    split at hp
    · rename_i h
      simp only [List.mem_singleton] at hp
      subst hp
      rw [List.getD_eq_getElem?_getD, List.getElem?_eq_getElem h]
      exact hl _ (List.getElem_mem _)
    · cases hp
  | f + 1, l, i, hl, p, hp => by
    rw [prf, List.mem_append] at hp
    rcases hp with hp | hp
    · split at hp
      · rename_i h
        simp only [List.mem_singleton] at hp
        subst hp
        rw [List.getD_eq_getElem?_getD, List.getElem?_eq_getElem h]
        exact hl _ (List.getElem_mem _)
      · cases hp
    · split at hp
      · exact prf_in f (nextI l) (i / 2) (nextI_in l hl) p hp
      · cases hp
theorem proof_in (a : List By) (k : Nat) : ∀ p ∈ proofI a k, InR p := by
  rw [proofI_eq]
  refine prf_in 16 _ _ fun y hy => ?_
  obtain ⟨q, _, rfl⟩ := List.mem_map.1 hy
  exact leaf_in _
end Go.Proofs.YtfmbdcmjgnikiaaDoor.Sm
namespace Go.Proofs.YtfmbdcmjgnikiaaDoor.Sm
open Go Go.RowKit
section
variable {ls : List (Nat × LRec)} {Q : Ex → St → Prop} {R : Prop} {st : St} {K : SV → St → Prop}
theorem prq_v' (a : List By) (k : Nat) : (prq a k).v uV = .tree ((proofI a k).map uV) (decide (proofI a k = [])) (decide (proofI a k = [])) := rfl
/-! ### some pages loaded -/
theorem L_loaded {b : List UInt8} {ver start : Int} {v10 v12 : SV} {many : Nat} (hn : noticeI ver b.length start = true) (hm : many ≤ (splitI b).length) : ∀ (d k : Nat) (z : Bool) (h : Heap) (nx : Nat), k + d = many → z = decide (k = 0) → fresh h nx → 3 ≤ nx → look h 2 = some [.int .i64 ver, .int .i64 (b.length : Int), .int .u64 (rootI (splitI b)), .int .i64 start, .tree (((splitI b).take k).map By.v) z z, .tree ((ldQ (splitI b) k).map (Sl.v uV)) z z, .tree [] true true, .tree [] true true, .int .i64 0, .int .i64 0, .int .i64 0, .int .i64 0, .int .i64 0] →
    (∀ (z' : Bool) (h' : Heap) (nx' : Nat), z' = decide (many = 0) → fresh h' nx' → 3 ≤ nx' → look h' 0 = look h 0 → look h' 2 = some [.int .i64 ver, .int .i64 (b.length : Int), .int .u64 (rootI (splitI b)), .int .i64 start, .tree (((splitI b).take many).map By.v) z' z', .tree ((ldQ (splitI b) many).map (Sl.v uV)) z' z', .tree [] true true, .tree [] true true, .int .i64 0, .int .i64 0, .int .i64 0, .int .i64 0, .int .i64 0] →
      (Q (.exit 0) ⟨[(6, .ptr 0 0), (10, v10), (11, .tree ((splitI b).map By.v) false false), (12, v12), (13, .ptr 2 0)], h', nx', ls, 0⟩ ↔ R)) →
    (L_law36_loaded_0 XX (.int .i64 many) (.ptr 0 0) v10 (.tree ((splitI b).map By.v) false false) v12 (.ptr 2 0) (.int .i64 k) h nx ls 0 Q ↔ R) := by
  have hs := notice_sized hn
  have hn16 := (split_pages b).1
  intro d
  induction d with
  | zero =>
    intro k z h nx hk hz hf hnx h1 q
    obtain rfl : k = many := by omega
    rw [L_law36_loaded_0_unf]
    simp only [b_law36_loaded_0, bC, bW, wpY', evR, evW, idx, ldc, okV, sub, setc, buildC, bnd, resOf, resL, res1, xorB, take2L, take2, takeL, take1, appF, rowOf, elemOk, plain, pl1, isRow, cellB, srcOf, LIM, Option.some.injEq, exists_eq_left', exists_eq_left, Prod.mk.injEq, if_true, if_false, ite_true, ite_false, ne_eq, eq_self, reduceCtorEq, ↓reduceIte, Nat.reduceEqDiff, Nat.reduceAdd, Nat.reduceSub, Nat.reduceMul, Nat.reduceLT, Nat.reduceLeDiff, Nat.reduceBEq, Nat.reduceBNe, Nat.reduceMod, Nat.reduceDiv, Nat.reducePow, Int.reduceEq, Int.reduceLT, Int.reduceLE, Int.reduceNeg, Int.reduceAdd, Int.reduceSub, Int.reduceMul, Int.reduceToNat, Int.reduceBEq, Int.reduceBNe, Int.lt_irrefl]
    exact q z h nx hz hf hnx rfl h1
  | succ d ih =>
    intro k z h nx hk hz hf hnx h1 q
    have hltm : k < many := by omega
    have hlt : k < (splitI b).length := by omega
    obtain ⟨p, hp, _⟩ := get_some hlt
    obtain ⟨p1, p2, p3⟩ := (split_pages b).2.1 p (List.mem_of_getElem? hp)
    have hx : ((splitI b).map By.v)[k]? = some (.tree (p.xs.map b8) false false) := by
      rw [List.getElem?_map, hp]
      obtain ⟨xs, nl, tg⟩ := p
      simp only at p2 p3
      subst p2; subst p3; rfl
    have f0 := hf nx (Nat.le_refl _)
    rw [L_law36_loaded_0_unf]
    simp (disch := omega) only [b_law36_loaded_0, bC, bD, bH, wpY', evR, evW, idx, ldc, okV, sub, setc, buildC, bnd, resOf, resL, res1, xorB, take2L, take2, takeL, take1, appF, rowOf, elemOk, plain, pl1, isRow, cellB, srcOf, LIM, Option.some.injEq, exists_eq_left', exists_eq_left, Prod.mk.injEq, if_true, if_false, ite_true, ite_false, ne_eq, eq_self, reduceCtorEq, ↓reduceIte, Nat.reduceEqDiff, Nat.reduceAdd, Nat.reduceSub, Nat.reduceMul, Nat.reduceLT, Nat.reduceLeDiff, Nat.reduceBEq, Nat.reduceBNe, Nat.reduceMod, Nat.reduceDiv, Nat.reducePow, Int.reduceEq, Int.reduceLT, Int.reduceLE, Int.reduceNeg, Int.reduceAdd, Int.reduceSub, Int.reduceMul, Int.reduceToNat, Int.reduceBEq, Int.reduceBNe, unused, fpO, rdR, rdW, own1, ptr1, ownC, sepOk, compat, disj, offR, h1, lt_c hlt, lt_c hltm, hx, ld_proof hs hlt, prq_v', ld_put hn hlt hz hp, f0, wi_s hlt (by omega), L_law36_loaded_0_eq]
    refine ih (k + 1) false _ _ (by omega) (by simp) (fun j hj => ?_) (by omega) ?_ fun z' h' nx' q1 q2 q3 q4 q5 => q z' h' nx' q1 q2 q3 (q4.trans ?_) q5
    · simp (disch := omega) only [bC, bD, bH, wpY', evR, evW, idx, ldc, okV, sub, setc, buildC, bnd, resOf, resL, res1, xorB, take2L, take2, takeL, take1, appF, rowOf, elemOk, plain, pl1, isRow, cellB, srcOf, LIM, Option.some.injEq, exists_eq_left', exists_eq_left, Prod.mk.injEq, if_true, if_false, ite_true, ite_false, ne_eq, eq_self, reduceCtorEq, ↓reduceIte, Nat.reduceEqDiff, Nat.reduceAdd, Nat.reduceSub, Nat.reduceMul, Nat.reduceLT, Nat.reduceLeDiff, Nat.reduceBEq, Nat.reduceBNe, Nat.reduceMod, Nat.reduceDiv, Nat.reducePow, Int.reduceEq, Int.reduceLT, Int.reduceLE, Int.reduceNeg, Int.reduceAdd, Int.reduceSub, Int.reduceMul, Int.reduceToNat, Int.reduceBEq, Int.reduceBNe, unused, fpO, rdR, rdW, own1, ptr1, ownC, sepOk, compat, disj, offR]
      exact hf j (by omega)
    · simp (disch := omega) only [bC, bD, bH, wpY', evR, evW, idx, ldc, okV, sub, setc, buildC, bnd, resOf, resL, res1, xorB, take2L, take2, takeL, take1, appF, rowOf, elemOk, plain, pl1, isRow, cellB, srcOf, LIM, Option.some.injEq, exists_eq_left', exists_eq_left, Prod.mk.injEq, if_true, if_false, ite_true, ite_false, ne_eq, eq_self, reduceCtorEq, ↓reduceIte, Nat.reduceEqDiff, Nat.reduceAdd, Nat.reduceSub, Nat.reduceMul, Nat.reduceLT, Nat.reduceLeDiff, Nat.reduceBEq, Nat.reduceBNe, Nat.reduceMod, Nat.reduceDiv, Nat.reducePow, Int.reduceEq, Int.reduceLT, Int.reduceLE, Int.reduceNeg, Int.reduceAdd, Int.reduceSub, Int.reduceMul, Int.reduceToNat, Int.reduceBEq, Int.reduceBNe, unused, fpO, rdR, rdW, own1, ptr1, ownC, sepOk, compat, disj, offR, h1]
    · simp (disch := omega) only [bC, bD, bH, wpY', evR, evW, idx, ldc, okV, sub, setc, buildC, bnd, resOf, resL, res1, xorB, take2L, take2, takeL, take1, appF, rowOf, elemOk, plain, pl1, isRow, cellB, srcOf, LIM, Option.some.injEq, exists_eq_left', exists_eq_left, Prod.mk.injEq, if_true, if_false, ite_true, ite_false, ne_eq, eq_self, reduceCtorEq, ↓reduceIte, Nat.reduceEqDiff, Nat.reduceAdd, Nat.reduceSub, Nat.reduceMul, Nat.reduceLT, Nat.reduceLeDiff, Nat.reduceBEq, Nat.reduceBNe, Nat.reduceMod, Nat.reduceDiv, Nat.reducePow, Int.reduceEq, Int.reduceLT, Int.reduceLE, Int.reduceNeg, Int.reduceAdd, Int.reduceSub, Int.reduceMul, Int.reduceToNat, Int.reduceBEq, Int.reduceBNe, unused, fpO, rdR, rdW, own1, ptr1, ownC, sepOk, compat, disj, offR]
theorem f_law36_loaded {b : List UInt8} {nb gb : Bool} {ver : Int} {many : Nat} (hn : noticeI ver b.length 0 = true) (hm : many ≤ (splitI b).length) :
    WpF XX .ro n_law36_loaded [.tree (b.map b8) nb gb, .int .i64 ver, .int .i64 many] st K ↔ K (.tup [.agg [.int .i64 ver, .int .i64 (b.length : Int), .int .u64 (rootI (splitI b)), .int .i64 0, .tree (((splitI b).take many).map By.v) (decide (many = 0)) (decide (many = 0)), .tree ((ldQ (splitI b) many).map (Sl.v uV)) (decide (many = 0)) (decide (many = 0)), .tree [] true true, .tree [] true true, .int .i64 0, .int .i64 0, .int .i64 0, .int .i64 0, .int .i64 0], .tree ((splitI b).map By.v) false false, .bool true]) st := by
  rw [F_ro (mf := m_law36_loaded) rfl rfl]
  have hs := notice_sized hn
  have eA := fun st K => f_image_Announce (st := st) (K := K) (ver := ver) (start := 0) (b := b) (nl := nb) (tg := gb)
  simp only [hn, if_true] at eA
  have eS := fun st K => f_image_Split (st := st) (K := K) (b := b) (nl := nb) (tg := gb)
  simp only [hs, if_true] at eS
  simp only [m_law36_loaded, bC, bW, bD, wpY', evR, evW, idx, ldc, okV, sub, setc, buildC, bnd, resOf, resL, res1, xorB, take2L, take2, takeL, take1, appF, rowOf, elemOk, plain, pl1, isRow, cellB, srcOf, LIM, Option.some.injEq, exists_eq_left', exists_eq_left, Prod.mk.injEq, if_true, if_false, ite_true, ite_false, ne_eq, eq_self, reduceCtorEq, ↓reduceIte, Nat.reduceEqDiff, Nat.reduceAdd, Nat.reduceSub, Nat.reduceMul, Nat.reduceLT, Nat.reduceLeDiff, Nat.reduceBEq, Nat.reduceBNe, Nat.reduceMod, Nat.reduceDiv, Nat.reducePow, Int.reduceEq, Int.reduceLT, Int.reduceLE, Int.reduceNeg, Int.reduceAdd, Int.reduceSub, Int.reduceMul, Int.reduceToNat, Int.reduceBEq, Int.reduceBNe, unused, fpO, rdR, rdW, own1, ptr1, ownC, sepOk, compat, disj, offR, eA, eS, L_law36_loaded_0_eq]
  refine L_loaded hn hm many 0 true _ _ (by omega) (by simp) (fun j hj => by simp (disch := omega) only [bC, bD, bH, wpY', evR, evW, idx, ldc, okV, sub, setc, buildC, bnd, resOf, resL, res1, xorB, take2L, take2, takeL, take1, appF, rowOf, elemOk, plain, pl1, isRow, cellB, srcOf, LIM, Option.some.injEq, exists_eq_left', exists_eq_left, Prod.mk.injEq, if_true, if_false, ite_true, ite_false, ne_eq, eq_self, reduceCtorEq, ↓reduceIte, Nat.reduceEqDiff, Nat.reduceAdd, Nat.reduceSub, Nat.reduceMul, Nat.reduceLT, Nat.reduceLeDiff, Nat.reduceBEq, Nat.reduceBNe, Nat.reduceMod, Nat.reduceDiv, Nat.reducePow, Int.reduceEq, Int.reduceLT, Int.reduceLE, Int.reduceNeg, Int.reduceAdd, Int.reduceSub, Int.reduceMul, Int.reduceToNat, Int.reduceBEq, Int.reduceBNe, unused, fpO, rdR, rdW, own1, ptr1, ownC, sepOk, compat, disj, offR]) (by omega) rfl fun z' h' nx' q1 q2 q3 q4 q5 => ?_
  rw [← q1]
  have q4' : look h' 0 = some [.int .i64 0, .int .i64 0, .int .u64 0, .int .i64 0, .tree [] true true, .tree [] true true, .tree [] true true, .tree [] true true, .int .i64 0, .int .i64 0, .int .i64 0, .int .i64 0, .int .i64 0] := q4.trans rfl
  simp (disch := omega) only [bC, bD, bH, wpY', evR, evW, idx, ldc, okV, sub, setc, buildC, bnd, resOf, resL, res1, xorB, take2L, take2, takeL, take1, appF, rowOf, elemOk, plain, pl1, isRow, cellB, srcOf, LIM, Option.some.injEq, exists_eq_left', exists_eq_left, Prod.mk.injEq, if_true, if_false, ite_true, ite_false, ne_eq, eq_self, reduceCtorEq, ↓reduceIte, Nat.reduceEqDiff, Nat.reduceAdd, Nat.reduceSub, Nat.reduceMul, Nat.reduceLT, Nat.reduceLeDiff, Nat.reduceBEq, Nat.reduceBNe, Nat.reduceMod, Nat.reduceDiv, Nat.reducePow, Int.reduceEq, Int.reduceLT, Int.reduceLE, Int.reduceNeg, Int.reduceAdd, Int.reduceSub, Int.reduceMul, Int.reduceToNat, Int.reduceBEq, Int.reduceBNe, unused, fpO, rdR, rdW, own1, ptr1, ownC, sepOk, compat, disj, offR, q4', q5]
end
end Go.Proofs.YtfmbdcmjgnikiaaDoor.Sm
namespace Go.Proofs.YtfmbdcmjgnikiaaDoor.Sm
open Go Go.RowKit
theorem uV_hd (l : List Int) : hdSz 1 (l.map uV) = true := Cell1.hd uV_c l
section
variable {st : St} {K : SV → St → Prop} {b : List UInt8} {ver start : Int}
theorem ld_put_bad (hn : noticeI ver b.length start = true) {k : Nat} (hk : k < (splitI b).length) {z : Bool} (hz : z = decide (k = 0)) {pg : List UInt8} {pf : List Int} (hpg : pg.length = 256) (hl : pf.length ≤ 100) {n5 g5 n6 g6 : Bool} (h5 : n5 = false) (h6 : n6 = true → pf = [])
    (hc : checkI (rootI (splitI b)) (splitI b).length k pg pf = false) :
    WpF XX .ro n_image_Put [.agg [.int .i64 ver, .int .i64 (b.length : Int), .int .u64 (rootI (splitI b)), .int .i64 start, .tree (((splitI b).take k).map By.v) z z, .tree ((ldQ (splitI b) k).map (Sl.v uV)) z z, .tree [] true true, .tree [] true true, .int .i64 0, .int .i64 0, .int .i64 0, .int .i64 0, .int .i64 0], .tree (pg.map b8) n5 g5, .tree (pf.map uV) n6 g6] st K ↔ K (.tup [.agg [.int .i64 0, .int .i64 0, .int .u64 0, .int .i64 0, .tree [] true true, .tree [] true true, .tree [] true true, .tree [] true true, .int .i64 0, .int .i64 0, .int .i64 0, .int .i64 0, .int .i64 0], .int .i64 12]) st := by
  have hs := notice_sized hn
  have hct := split_count hs
  have hT : ((splitI b).take k).length = k := by rw [List.length_take]; omega
  have := @f_image_Put st K ver b.length (rootI (splitI b)) start ((splitI b).take k) z z (ldQ (splitI b) k) z z [] true true [] true true 0 0 0 0 0 pg n5 g5 pf n6 g6 (ld_ok b k (by omega) hz) (by omega) (by rw [h5]; simp) (by omega) h6
  refine this.trans ?_
  rw [ld_sound hn (by omega), if_neg (by simp [hpg]), if_neg (by rw [hT, hct]; omega), hT, hct, hc, if_pos rfl]
set_option maxHeartbeats 4000000 in
set_option maxRecDepth 100000 in
theorem law_ImageOnlyRight {b : List UInt8} {nb gb : Bool} {M A W : Nat} {d : UInt8} {o : Int} (hM : M < 256) (hA : A < 65536) (hW : W < 256) (ho : InR o) :
    WpF XX .ro n_law36_ImageOnlyRight [.tree (b.map b8) nb gb, .int .u8 M, .int .u16 A, .int .u8 d.toNat, .int .u8 W, .int .u64 o] st K ↔ K (.bool true) st := by
  rw [F_ro (mf := m_law36_ImageOnlyRight) rfl rfl]
  by_cases h1 : (b.length : Int) < 1
  · simp only [m_law36_ImageOnlyRight, bC, bW, bD, wpY', evR, evW, idx, ldc, okV, sub, setc, buildC, bnd, resOf, resL, res1, xorB, take2L, take2, takeL, take1, appF, rowOf, elemOk, plain, pl1, isRow, cellB, srcOf, LIM, Option.some.injEq, exists_eq_left', exists_eq_left, Prod.mk.injEq, if_true, if_false, ite_true, ite_false, ne_eq, eq_self, reduceCtorEq, ↓reduceIte, Nat.reduceEqDiff, Nat.reduceAdd, Nat.reduceSub, Nat.reduceMul, Nat.reduceLT, Nat.reduceLeDiff, Nat.reduceBEq, Nat.reduceBNe, Nat.reduceMod, Nat.reduceDiv, Nat.reducePow, Int.reduceEq, Int.reduceLT, Int.reduceLE, Int.reduceNeg, Int.reduceAdd, Int.reduceSub, Int.reduceMul, Int.reduceToNat, Int.reduceBEq, Int.reduceBNe, unused, fpO, rdR, rdW, own1, ptr1, ownC, sepOk, compat, disj, offR, f_law36_head, h1]
  by_cases h2 : (4096 : Int) < b.length
  · simp only [m_law36_ImageOnlyRight, bC, bW, bD, wpY', evR, evW, idx, ldc, okV, sub, setc, buildC, bnd, resOf, resL, res1, xorB, take2L, take2, takeL, take1, appF, rowOf, elemOk, plain, pl1, isRow, cellB, srcOf, LIM, Option.some.injEq, exists_eq_left', exists_eq_left, Prod.mk.injEq, if_true, if_false, ite_true, ite_false, ne_eq, eq_self, reduceCtorEq, ↓reduceIte, Nat.reduceEqDiff, Nat.reduceAdd, Nat.reduceSub, Nat.reduceMul, Nat.reduceLT, Nat.reduceLeDiff, Nat.reduceBEq, Nat.reduceBNe, Nat.reduceMod, Nat.reduceDiv, Nat.reducePow, Int.reduceEq, Int.reduceLT, Int.reduceLE, Int.reduceNeg, Int.reduceAdd, Int.reduceSub, Int.reduceMul, Int.reduceToNat, Int.reduceBEq, Int.reduceBNe, unused, fpO, rdR, rdW, own1, ptr1, ownC, sepOk, compat, disj, offR, f_law36_head, h1, h2]
  by_cases hd : d = 0
  · simp only [m_law36_ImageOnlyRight, bC, bW, bD, wpY', evR, evW, idx, ldc, okV, sub, setc, buildC, bnd, resOf, resL, res1, xorB, take2L, take2, takeL, take1, appF, rowOf, elemOk, plain, pl1, isRow, cellB, srcOf, LIM, Option.some.injEq, exists_eq_left', exists_eq_left, Prod.mk.injEq, if_true, if_false, ite_true, ite_false, ne_eq, eq_self, reduceCtorEq, ↓reduceIte, Nat.reduceEqDiff, Nat.reduceAdd, Nat.reduceSub, Nat.reduceMul, Nat.reduceLT, Nat.reduceLeDiff, Nat.reduceBEq, Nat.reduceBNe, Nat.reduceMod, Nat.reduceDiv, Nat.reducePow, Int.reduceEq, Int.reduceLT, Int.reduceLE, Int.reduceNeg, Int.reduceAdd, Int.reduceSub, Int.reduceMul, Int.reduceToNat, Int.reduceBEq, Int.reduceBNe, unused, fpO, rdR, rdW, own1, ptr1, ownC, sepOk, compat, disj, offR, f_law36_head, h1, h2, b8_zero, eq_true hd]
  have hb : b.length ≤ 4096 := by omega
  have hs : sizedI b.length = true := sized_iff.2 (by omega)
  have hn : noticeI 1 b.length 0 = true := by simp [noticeI, hs]
  have hpl := split_len hb
  have h16 := (split_pages b).1
  have hn0 : 0 < (b.length + 255) / 256 := by omega
  have hk : M % ((b.length + 255) / 256) < (splitI b).length := by rw [hpl]; exact Nat.mod_lt _ hn0
  have w1 : IntKind.i64.wrap (M : Int) = M := wi _ (by omega) (by omega)
  have w2 : IntKind.i64.wrap ((b.length : Int) + 255) = (b.length : Int) + 255 := wi _ (by omega) (by omega)
  have w3 : IntKind.i64.wrap (((b.length : Int) + 255).tdiv 256) = (((b.length + 255) / 256 : Nat) : Int) := by rw [Int.tdiv_eq_ediv_of_nonneg (by omega), wi _ (by omega) (by omega)]; omega
  have w4 : (M : Int).tmod (((b.length + 255) / 256 : Nat) : Int) = ((M % ((b.length + 255) / 256) : Nat) : Int) := by
    rw [Int.tmod_eq_emod_of_nonneg (by omega)]; rfl
  have w5 : ¬ (((b.length + 255) / 256 : Nat) : Int) = 0 := by omega
  revert hk w4
  generalize M % ((b.length + 255) / 256) = k
  intro hk w4
  obtain ⟨p, hp, _⟩ := get_some hk
  obtain ⟨p1, p2, p3⟩ := (split_pages b).2.1 p (List.mem_of_getElem? hp)
  have hx : ((splitI b).map By.v)[k]? = some (.tree (p.xs.map b8) false false) := by
    rw [List.getElem?_map, hp]
    obtain ⟨xs, nl, tg⟩ := p
    simp only at p2 p3
    subst p2; subst p3; rfl
  have hz : ∀ z : Bool, z = decide (k = 0) → z = decide (k = 0) := fun _ h => h
  have eL := fun st K => f_law36_loaded (st := st) (K := K) (b := b) (nb := nb) (gb := gb) (ver := 1) (many := k) hn (by omega)
  have hck : checkI (rootI (splitI b)) (splitI b).length k p.xs (proofI (splitI b) k) = true := check_proof (split_are hs) hp
  have hlen := proof_len (splitI b) k
  have hin := proof_in (splitI b) k
  have ePr := fun st K => ld_proof (st := st) (K := K) (b := b) hs hk (n1 := false) (g1 := false)
  simp only [prq_v'] at ePr
  have w6 : IntKind.i64.wrap (A : Int) = A := wi _ (by omega) (by omega)
  have w7 : (A : Int).tmod 256 = ((A % 256 : Nat) : Int) := by
    rw [Int.tmod_eq_emod_of_nonneg (by omega)]; rfl
  have hi : A % 256 < 256 := Nat.mod_lt _ (by omega)
  have hi1 : A % 256 ≤ 255 := by omega
  obtain ⟨c, hc, _⟩ := get_some (l := p.xs) (k := A % 256) (by omega)
  have hxc : (p.xs.map b8)[A % 256]? = some (.int .u8 c.toNat) := by rw [List.getElem?_map, hc]; rfl
  have w8 : (((A % 256 : Nat) : Int) < 256) = True := eq_true (by omega)
  have hset : (p.xs.map b8).set (A % 256) (.int .u8 ((c ^^^ d).toNat : Int)) = (p.xs.set (A % 256) (c ^^^ d)).map b8 := by rw [List.map_set]; rfl
  have htk : List.take 256 ((p.xs.set (A % 256) (c ^^^ d)).map b8) = (p.xs.set (A % 256) (c ^^^ d)).map b8 := List.take_of_length_le (by simp; omega)
  have B1 := fun g5 g6 st K => ld_put_bad (st := st) (K := K) hn hk rfl (pg := p.xs.set (A % 256) (c ^^^ d)) (pf := proofI (splitI b) k) (n5 := false) (g5 := g5) (n6 := decide (proofI (splitI b) k = [])) (g6 := g6) (by simp [p1]) (by omega) rfl (fun h => of_decide_eq_true h) (check_byte hck hc (xor_ne hd))
  have B2 := fun g5 g6 st K => ld_put_bad (st := st) (K := K) hn hk rfl (pg := p.xs) (pf := proofI (splitI b) k ++ [o]) (n5 := false) (g5 := g5) (n6 := false) (g6 := g6) p1 (by simp; omega) rfl (by simp) (check_len hck (by simp))
  have hge : ¬ (((splitI b).length : Nat) : Int) ≤ (k : Int) := by omega
  have htP : List.take (proofI (splitI b) k).length ((proofI (splitI b) k).map uV) = (proofI (splitI b) k).map uV := List.take_of_length_le (by simp)
  have hPo : (proofI (splitI b) k).map uV ++ [.int .u64 o] = (proofI (splitI b) k ++ [o]).map uV := by simp [uV]
  have hl1 : (proofI (splitI b) k).length + 1 ≤ 4294967296 := by omega
  generalize hP : proofI (splitI b) k = P at *
  simp only [m_law36_ImageOnlyRight, bC, bW, bD, wpY', evR, evW, idx, ldc, okV, sub, setc, buildC, bnd, resOf, resL, res1, xorB, take2L, take2, takeL, take1, appF, rowOf, elemOk, plain, pl1, isRow, cellB, srcOf, LIM, Option.some.injEq, exists_eq_left', exists_eq_left, Prod.mk.injEq, if_true, if_false, ite_true, ite_false, ne_eq, eq_self, reduceCtorEq, ↓reduceIte, Nat.reduceEqDiff, Nat.reduceAdd, Nat.reduceSub, Nat.reduceMul, Nat.reduceLT, Nat.reduceLeDiff, Nat.reduceBEq, Nat.reduceBNe, Nat.reduceMod, Nat.reduceDiv, Nat.reducePow, Int.reduceEq, Int.reduceLT, Int.reduceLE, Int.reduceNeg, Int.reduceAdd, Int.reduceSub, Int.reduceMul, Int.reduceToNat, Int.reduceBEq, Int.reduceBNe, unused, fpO, rdR, rdW, own1, ptr1, ownC, sepOk, compat, disj, offR, f_law36_head, h1, h2, hd, b8_zero, w1, w2, w3, w4, w5, eL, hk, hge, lt_c hk, hx, p1, ePr, w6, w7, w8, hi, hi1, hxc, xor_u8, hset, htk, B1, B2, b8_len1, b8_flat, b8_cB, b8_all, b8_hd, List.length_set, uV_len1, uV_flat, uV_cB, uV_all, uV_hd, Int.le_refl, htP, hPo, hl1]
  by_cases hP0 : P.length = 0
  · simp only [bC, bW, bD, wpY', evR, evW, idx, ldc, okV, sub, setc, buildC, bnd, resOf, resL, res1, xorB, take2L, take2, takeL, take1, appF, rowOf, elemOk, plain, pl1, isRow, cellB, srcOf, LIM, Option.some.injEq, exists_eq_left', exists_eq_left, Prod.mk.injEq, if_true, if_false, ite_true, ite_false, ne_eq, eq_self, reduceCtorEq, ↓reduceIte, Nat.reduceEqDiff, Nat.reduceAdd, Nat.reduceSub, Nat.reduceMul, Nat.reduceLT, Nat.reduceLeDiff, Nat.reduceBEq, Nat.reduceBNe, Nat.reduceMod, Nat.reduceDiv, Nat.reducePow, Int.reduceEq, Int.reduceLT, Int.reduceLE, Int.reduceNeg, Int.reduceAdd, Int.reduceSub, Int.reduceMul, Int.reduceToNat, Int.reduceBEq, Int.reduceBNe, unused, fpO, rdR, rdW, own1, ptr1, ownC, sepOk, compat, disj, offR, hP0]
  have hP0' : ¬ (P.length : Int) = 0 := by omega
  have hPn : P ≠ [] := fun e => hP0 (by rw [e]; rfl)
  have w9 : IntKind.i64.wrap ((P.length : Int) - 1) = ((P.length - 1 : Nat) : Int) := by rw [wi _ (by omega) (by omega)]; omega
  have w10 : (((P.length - 1 : Nat) : Int) ≤ (P.length : Int)) = True := eq_true (by omega)
  have w11 : IntKind.i64.wrap (W : Int) = W := wi _ (by omega) (by omega)
  have w12 : (W : Int).tmod (P.length : Int) = ((W % P.length : Nat) : Int) := by
    rw [Int.tmod_eq_emod_of_nonneg (by omega)]; rfl
  have hj : W % P.length < P.length := Nat.mod_lt _ (by omega)
  revert hj w12
  generalize W % P.length = j
  intro w12 hj
  obtain ⟨q, hq, _⟩ := get_some hj
  have hxq : (P.map uV)[j]? = some (.int .u64 q) := by rw [List.getElem?_map, hq]; rfl
  have hj1 : j + 1 ≤ P.length := hj
  have hsetP : (P.map uV).set j (.int .u64 o) = (P.set j o).map uV := by rw [List.map_set]; rfl
  have htP2 : List.take P.length ((P.set j o).map uV) = (P.set j o).map uV := List.take_of_length_le (by simp)
  have hln : P.length - 1 ≤ P.length := by omega
  have hl0 : P.length ≤ 4294967296 := by omega
  have B3 := fun n6 g6 (h6 : n6 = true → P.take (P.length - 1) = []) st K => ld_put_bad (st := st) (K := K) hn hk rfl (pg := p.xs) (pf := P.take (P.length - 1)) (n5 := false) (g5 := false) (n6 := n6) (g6 := g6) p1 (by simp; omega) rfl h6 (check_len hck (by simp; omega))
  have B3' := fun g6 st K => B3 false g6 (by simp) st K
  have hdP : decide (P = []) = false := by simp [hPn]
  by_cases hqo : q = o
  · simp only [bC, bW, bD, wpY', evR, evW, idx, ldc, okV, sub, setc, buildC, bnd, resOf, resL, res1, xorB, take2L, take2, takeL, take1, appF, rowOf, elemOk, plain, pl1, isRow, cellB, srcOf, LIM, Option.some.injEq, exists_eq_left', exists_eq_left, Prod.mk.injEq, if_true, if_false, ite_true, ite_false, ne_eq, eq_self, reduceCtorEq, ↓reduceIte, Nat.reduceEqDiff, Nat.reduceAdd, Nat.reduceSub, Nat.reduceMul, Nat.reduceLT, Nat.reduceLeDiff, Nat.reduceBEq, Nat.reduceBNe, Nat.reduceMod, Nat.reduceDiv, Nat.reducePow, Int.reduceEq, Int.reduceLT, Int.reduceLE, Int.reduceNeg, Int.reduceAdd, Int.reduceSub, Int.reduceMul, Int.reduceToNat, Int.reduceBEq, Int.reduceBNe, unused, fpO, rdR, rdW, own1, ptr1, ownC, sepOk, compat, disj, offR, hP0, hP0', hdP, w9, w10, w11, w12, hx, p1, lt_c hk, uV_len1, uV_flat, uV_cB, uV_all, uV_hd, hln, hl0, ← List.map_take, B3', hj, lt_c hj, hj1, hxq, hqo]
  · have hgq : P.getD j 0 ≠ o := by rw [List.getD_eq_getElem?_getD, hq]; exact hqo
    have B4 := fun g6 st K => ld_put_bad (st := st) (K := K) hn hk rfl (pg := p.xs) (pf := P.set j o) (n5 := false) (g5 := false) (n6 := false) (g6 := g6) p1 (by simp; omega) rfl (by simp) (check_digest hck hin ho hj hgq)
    simp only [bC, bW, bD, wpY', evR, evW, idx, ldc, okV, sub, setc, buildC, bnd, resOf, resL, res1, xorB, take2L, take2, takeL, take1, appF, rowOf, elemOk, plain, pl1, isRow, cellB, srcOf, LIM, Option.some.injEq, exists_eq_left', exists_eq_left, Prod.mk.injEq, if_true, if_false, ite_true, ite_false, ne_eq, eq_self, reduceCtorEq, ↓reduceIte, Nat.reduceEqDiff, Nat.reduceAdd, Nat.reduceSub, Nat.reduceMul, Nat.reduceLT, Nat.reduceLeDiff, Nat.reduceBEq, Nat.reduceBNe, Nat.reduceMod, Nat.reduceDiv, Nat.reducePow, Int.reduceEq, Int.reduceLT, Int.reduceLE, Int.reduceNeg, Int.reduceAdd, Int.reduceSub, Int.reduceMul, Int.reduceToNat, Int.reduceBEq, Int.reduceBNe, unused, fpO, rdR, rdW, own1, ptr1, ownC, sepOk, compat, disj, offR, hP0, hP0', hdP, w9, w10, w11, w12, hx, p1, lt_c hk, uV_len1, uV_flat, uV_cB, uV_all, uV_hd, hln, hl0, ← List.map_take, B3', hj, lt_c hj, hj1, hxq, hqo, hsetP, htP2, List.length_set, B4]
end
end Go.Proofs.YtfmbdcmjgnikiaaDoor.Sm
namespace Go.Proofs.YtfmbdcmjgnikiaaDoor.Sm
open Go Go.RowKit

theorem g_ImageOnlyRight {st : St} {ss : List SV} (h : argL [tB, tY, tH, tY, tY, tW] ss) : WpF XX .ro n_law36_ImageOnlyRight ss st fun r _ => r = .bool true := by
  obtain ⟨_, _, rfl, a1, _, _, rfl, a2, _, _, rfl, a3, _, _, rfl, a4, _, _, rfl, a5, _, _, rfl, a6, rfl⟩ := h
  obtain ⟨b, nb, rfl, _, hb⟩ := arg_tB a1
  obtain ⟨m, rfl⟩ := arg_tY a2
  obtain ⟨A, rfl, hA⟩ := arg_tH a3
  obtain ⟨d, rfl⟩ := arg_tY a4
  obtain ⟨w, rfl⟩ := arg_tY a5
  obtain ⟨o, rfl, ho⟩ := arg_tW a6
  exact (law_ImageOnlyRight m.toNat_lt hA w.toNat_lt ho).2 rfl
end Go.Proofs.YtfmbdcmjgnikiaaDoor.Sm
