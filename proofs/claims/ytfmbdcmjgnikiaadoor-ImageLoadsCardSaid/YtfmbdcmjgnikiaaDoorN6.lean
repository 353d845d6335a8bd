/- Programs and their pages: split and joined. Conditions: none (plain laws). A program that is loaded page by page. Conditions: none (plain laws). A program that is loaded page by page: each call. Conditions: none. A program that is announced is loaded page by page. Conditions: none. ImageLoads for every argument. Conditions: none. -/
import Derived.Test.YtfmbdcmjgnikiaaDoorM10
import Derived.Test.YtfmbdcmjgnikiaaDoorM11
set_option linter.unusedSimpArgs false
set_option linter.unusedVariables false
namespace Go.Proofs.YtfmbdcmjgnikiaaDoor.Sm
open Go

theorem splitF_flat : ∀ (f : Nat) (b : List UInt8), b.length ≤ 256 * f → (splitF f b).flatten = b ++ List.replicate (256 * ((b.length + 255) / 256) - b.length) 0 ∧ (splitF f b).length = (b.length + 255) / 256
  | 0, b, h => by
    obtain rfl : b = [] := List.length_eq_zero_iff.1 (by omega)
    simp [splitF]
  | f + 1, b, h => by
    rw [splitF]
    by_cases h0 : b = []
    · subst h0; simp
    rw [if_neg h0]
    have hb : 0 < b.length := List.length_pos_iff.2 h0
    obtain ⟨h1, h2⟩ := splitF_flat f (b.drop 256) (by simp; omega)
    rw [List.flatten_cons, h1, List.length_cons, h2, List.length_drop]
    by_cases hl : b.length ≤ 256
    · have e1 : b.drop 256 = [] := List.drop_eq_nil_of_le hl
      have e2 : b.take 256 = b := List.take_of_length_le hl
      have e3 : (b.length + 255) / 256 = 1 := by omega
      rw [e1, e2, e3, pad]
      have e4 : b.length - 256 = 0 := by omega
      rw [e4]
      simp
    · have e1 : (b.length + 255) / 256 = (b.length - 256 + 255) / 256 + 1 := by omega
      have e2 : pad (b.take 256) = b.take 256 := by
        rw [pad, List.length_take, Nat.min_eq_left (by omega)]
        simp
      rw [e1, e2, ← List.append_assoc, List.take_append_drop]
      refine ⟨?_, rfl⟩
      rw [List.append_cancel_left_eq]; refine congrArg (fun n => List.replicate n 0) ?_
      omega
theorem splitF_inv : ∀ (f : Nat) (ps : List (List UInt8)) (size : Nat), (∀ p ∈ ps, p.length = 256) → ps.length ≤ f → (size + 255) / 256 = ps.length → allZ (ps.flatten.drop size) = true → splitF f (ps.flatten.take size) = ps
  | f, [], size, hp, hf, hs, hz => by
    obtain rfl : size = 0 := by simp at hs; omega
    cases f <;> simp [splitF]
  | 0, p :: ps, size, hp, hf, hs, hz => by simp at hf
  | f + 1, p :: ps, size, hp, hf, hs, hz => by
    have hp0 := hp p List.mem_cons_self
    rw [List.length_cons] at hs hf
    have hsz : 0 < size := by omega
    rw [List.flatten_cons] at hz ⊢
    rw [splitF, if_neg (by
      intro h
      have := congrArg List.length h
      rw [List.length_take, List.length_append, hp0] at this
      simp at this; omega)]
    by_cases hl : size ≤ 256
    · have hn : ps = [] := List.length_eq_zero_iff.1 (by omega)
      subst hn
      rw [List.flatten_nil, List.append_nil] at hz ⊢
      have e1 : (p.take size).drop 256 = [] := List.drop_eq_nil_of_le (by simp; omega)
      have e2 : (p.take size).take 256 = p.take size := List.take_of_length_le (by simp; omega)
      have e3 : splitF f [] = [] := by cases f <;> simp [splitF]
      rw [e1, e2, e3, pad]
      congr 1
      have e4 : p.drop size = List.replicate (256 - size) 0 := by
        refine List.eq_replicate_iff.2 ⟨by simp [hp0], fun c hc => ?_⟩
        simpa using List.all_eq_true.1 hz c hc
      have e5 : (p.take size).length = size := by rw [List.length_take]; omega
      rw [e5, ← e4, List.take_append_drop]
    · have e1 : (p ++ ps.flatten).take size = p ++ ps.flatten.take (size - 256) := by
        rw [List.take_append, List.take_of_length_le (by omega), hp0]
      have e2 : (p ++ ps.flatten).drop size = ps.flatten.drop (size - 256) := by
        rw [List.drop_append, List.drop_eq_nil_of_le (by omega), hp0, List.nil_append]
      rw [e2] at hz
      have e3 : (p ++ ps.flatten.take (size - 256)).take 256 = p := by
        rw [List.take_append, hp0, List.take_of_length_le (by omega)]; simp
      have e4 : (p ++ ps.flatten.take (size - 256)).drop 256 = ps.flatten.take (size - 256) := by
        rw [List.drop_append, hp0, List.drop_eq_nil_of_le (by omega)]; simp
      rw [e1, e3, e4, splitF_inv f ps (size - 256) (fun q hq => hp q (List.mem_cons_of_mem _ hq)) (by omega) (by omega) hz, pad, hp0]
      simp
theorem allB_inner (a : List By) : allB a = (inner a).flatten := by simp [allB, inner, List.flatMap_def]
theorem inner_pg (l : List (List UInt8)) : inner (l.map pgV) = l := by
  rw [inner, List.map_map]
  simp [Function.comp_def, pgV]
theorem allZ_rep (n : Nat) : allZ (List.replicate n 0) = true := by simp [allZ]
theorem paged_iff {a : List By} : pagedI a = true ↔ ∀ p ∈ a, p.xs.length = 256 := by
  constructor
  · intro h p hp
    simpa using List.all_eq_true.1 h p hp
  · intro h
    refine List.all_eq_true.2 fun p hp => ?_
    simpa using h p hp
theorem sized_iff {n : Int} : sizedI n = true ↔ 1 ≤ n ∧ n ≤ 4096 := by simp [sizedI]
theorem split_len {b : List UInt8} (h : b.length ≤ 4096) : (splitI b).length = (b.length + 255) / 256 := by
  rw [splitI, List.length_map, (splitF_flat 16 b (by omega)).2]
theorem split_flat {b : List UInt8} (h : b.length ≤ 4096) : allB (splitI b) = b ++ List.replicate (256 * ((b.length + 255) / 256) - b.length) 0 := by
  rw [allB_inner, splitI, inner_pg, (splitF_flat 16 b (by omega)).1]
theorem split_paged (b : List UInt8) : pagedI (splitI b) = true := paged_iff.2 fun p hp => ((split_pages b).2.1 p hp).1
/-- The pages of a program are joined to it. -/
theorem split_join {b : List UInt8} (h : sizedI b.length = true) : joinOK (splitI b) b.length = true ∧ allZ ((allB (splitI b)).drop ((b.length : Int)).toNat) = true ∧ (allB (splitI b)).take ((b.length : Int)).toNat = b := by
  have hs := sized_iff.1 h
  have hb : b.length ≤ 4096 := by omega
  rw [split_flat hb, Int.toNat_natCast, List.drop_left, List.take_left]
  refine ⟨?_, allZ_rep _, rfl⟩
  rw [joinOK, h, split_paged, Bool.true_and, Bool.and_true, decide_eq_true_eq, split_len hb, countI]
  omega
theorem join_parts {a : List By} {size : Int} (h : joinOK a size = true) : (1 ≤ size ∧ size ≤ 4096) ∧ (a.length : Int) = countI size ∧ ∀ p ∈ a, p.xs.length = 256 := by
  simp only [joinOK, Bool.and_eq_true, decide_eq_true_eq] at h
  exact ⟨sized_iff.1 h.1.1, h.1.2, paged_iff.1 h.2⟩
/-- What is joined has the pages. -/
theorem join_split {a : List By} {size : Int} (h : joinOK a size = true) (hz : allZ ((allB a).drop size.toNat) = true) : ((allB a).take size.toNat).length = size.toNat ∧ sizedI (((allB a).take size.toNat).length : Nat) = true ∧ inner (splitI ((allB a).take size.toNat)) = inner a := by
  obtain ⟨h1, h2, h3⟩ := join_parts h
  have hl := allB_len a h3
  unfold countI at h2
  have e : ((allB a).take size.toNat).length = size.toNat := by rw [List.length_take]; omega
  refine ⟨e, by rw [e]; exact sized_iff.2 (by omega), ?_⟩
  rw [splitI, inner_pg]
  rw [allB_inner] at hz ⊢
  refine splitF_inv 16 (inner a) size.toNat (fun p hp => ?_) (by simp [inner]; omega) (by simp [inner]; omega) hz
  obtain ⟨q, hq, rfl⟩ := List.mem_map.1 hp
  exact h3 q hq
end Go.Proofs.YtfmbdcmjgnikiaaDoor.Sm
namespace Go.Proofs.YtfmbdcmjgnikiaaDoor.Sm
open Go

def prq (a : List By) (k : Nat) : Sl Int := ⟨proofI a k, decide (proofI a k = []), decide (proofI a k = [])⟩
def ldQ (a : List By) (k : Nat) : List (Sl Int) := (List.range k).map (prq a)
theorem prf_len : ∀ (f : Nat) (l : List Int) (i : Nat), (prf f l i).length ≤ f + 1
  | 0, l, i => by rw [prf]; split <;> simp
  | f + 1, l, i => by
    have := prf_len f (nextI l) (i / 2)
    rw [prf, List.length_append]
    split <;> split <;> simp <;> omega
theorem proof_len (a : List By) (k : Nat) : (proofI a k).length ≤ 17 := by rw [proofI_eq]; exact prf_len 16 _ _
theorem provedF_all {dg size : Int} : ∀ (i : Nat) (ps : List By) (qs : List (Sl Int)), (∀ (j : Nat) (p : By) (q : Sl Int), ps[j]? = some p → qs[j]? = some q → checkI dg (countI size) (i + j : Nat) p.xs q.xs = true) → provedF dg size i ps qs = true
  | i, [], qs, h => by cases qs <;> rfl
  | i, p :: ps, [], h => rfl
  | i, p :: ps, q :: qs, h => by
    have h0 := h 0 p q rfl rfl
    rw [Nat.add_zero] at h0
    simp only [provedF, h0, Bool.true_and]
    refine provedF_all (i + 1) ps qs fun j p' q' hp hq => ?_
    have := h (j + 1) p' q' hp hq
    rwa [show i + (j + 1) = i + 1 + j by omega] at this
theorem notice_sized {ver start : Int} {n : Int} (h : noticeI ver n start = true) : sizedI n = true := by
  simp only [noticeI, Bool.and_eq_true] at h
  exact h.1.1.2
theorem split_count {b : List UInt8} (h : sizedI b.length = true) : countI b.length = ((splitI b).length : Int) := by
  have := sized_iff.1 h
  rw [split_len (by omega), countI]
  omega
theorem ld_sound {b : List UInt8} {ver start : Int} (h : noticeI ver b.length start = true) {k : Nat} (hk : k ≤ (splitI b).length) : soundI ver b.length (rootI (splitI b)) start ((splitI b).take k) (ldQ (splitI b) k) = true := by
  have hs := notice_sized h
  have hc := split_count hs
  have ha := split_are hs
  have hp := split_pages b
  rw [soundI, h]
  simp only [Bool.true_and, Bool.and_eq_true, decide_eq_true_eq]
  refine ⟨⟨⟨?_, ?_⟩, ?_⟩, ?_⟩
  · rw [hc, List.length_take]; omega
  · rw [ldQ, List.length_map, List.length_range, List.length_take]; omega
  · exact paged_iff.2 fun p hp' => (hp.2.1 p (List.mem_of_mem_take hp')).1
  · refine provedF_all 0 _ _ fun j p q hp' hq => ?_
    have hj : j < k := by
      have := (List.getElem?_eq_some_iff.1 hq).1
      simpa [ldQ] using this
    rw [List.getElem?_take, if_pos hj] at hp'
    rw [ldQ, List.getElem?_map, List.getElem?_range hj] at hq
    cases hq
    rw [Nat.zero_add, hc]
    exact check_proof ha hp'
theorem ld_clone {b : List UInt8} {k : Nat} {p : By} (hp : (splitI b)[k]? = some p) : ((splitI b).take k ++ [p]).map cloneB = (splitI b).take (k + 1) := by
  have e : (splitI b).take k ++ [p] = (splitI b).take (k + 1) := by rw [List.take_add_one, hp]; rfl
  rw [e]
  refine (List.map_congr_left fun q hq => ?_).trans (List.map_id _)
  obtain ⟨h1, h2, h3⟩ := (split_pages b).2.1 q (List.mem_of_mem_take hq)
  obtain ⟨xs, nl, tg⟩ := q
  simp only at h1 h2 h3
  subst h2; subst h3
  simp [cloneB, h1]
theorem prq_clone (a : List By) (k : Nat) : cloneB (prq a k) = prq a k := by
  simp [cloneB, prq]
theorem ld_cloneQ (a : List By) (k : Nat) : (ldQ a k ++ [prq a k]).map cloneB = ldQ a (k + 1) := by
  have e : ldQ a k ++ [prq a k] = ldQ a (k + 1) := by rw [ldQ, ldQ, List.range_succ, List.map_append]; rfl
  rw [e, ldQ, List.map_map]
  exact List.map_congr_left fun j _ => prq_clone a j
theorem ld_ok (b : List UInt8) (k : Nat) (hk : k ≤ (splitI b).length) {z : Bool} (hz : z = decide (k = 0)) : SpOK ((splitI b).take k) z (ldQ (splitI b) k) z where
  hl := by have := (split_pages b).1; rw [List.length_take]; omega
  hlp := by
    have := (split_pages b).1; rw [ldQ, List.length_map, List.length_range]; omega
  hp := fun p hp => fun h => by rw [((split_pages b).2.1 p (List.mem_of_mem_take hp)).2.1] at h; cases h
  hq := fun q hq => by
    obtain ⟨j, _, rfl⟩ := List.mem_map.1 hq
    have := proof_len (splitI b) j
    exact ⟨by show (proofI (splitI b) j).length ≤ _; omega, fun h => of_decide_eq_true h⟩
  n1 := fun h => by rw [hz] at h; rw [of_decide_eq_true h, List.take_zero]
  n2 := fun h => by rw [hz] at h; rw [of_decide_eq_true h]; rfl
end Go.Proofs.YtfmbdcmjgnikiaaDoor.Sm
namespace Go.Proofs.YtfmbdcmjgnikiaaDoor.Sm
open Go Go.RowKit
section
variable {st : St} {K : SV → St → Prop} {b : List UInt8} {ver start : Int}
theorem ld_proof (hs : sizedI b.length = true) {k : Nat} (hk : k < (splitI b).length) {n1 g1 : Bool} : WpF XX .ro n_tree_Proof [.tree ((splitI b).map By.v) n1 g1, .int .i64 k] st K ↔ K (.tup [(prq (splitI b) k).v uV, .int .i64 0]) st := by
  rw [f_tree_Proof, if_pos ⟨split_are hs, by omega, by omega⟩, Int.toNat_natCast]
  rfl
theorem ld_put (hn : noticeI ver b.length start = true) {k : Nat} (hk : k < (splitI b).length) {z : Bool} (hz : z = decide (k = 0)) {p : By} (hp : (splitI b)[k]? = some p) :
    WpF XX .ro n_image_Put [.agg [.int .i64 ver, .int .i64 (b.length : Int), .int .u64 (rootI (splitI b)), .int .i64 start, .tree (((splitI b).take k).map By.v) z z, .tree ((ldQ (splitI b) k).map (Sl.v uV)) z z, .tree [] true true, .tree [] true true, .int .i64 0, .int .i64 0, .int .i64 0, .int .i64 0, .int .i64 0], .tree (p.xs.map b8) false false, .tree ((proofI (splitI b) k).map uV) (decide (proofI (splitI b) k = [])) (decide (proofI (splitI b) k = []))] st K ↔ K (.tup [.agg [.int .i64 ver, .int .i64 (b.length : Int), .int .u64 (rootI (splitI b)), .int .i64 start, .tree (((splitI b).take (k + 1)).map By.v) false false, .tree ((ldQ (splitI b) (k + 1)).map (Sl.v uV)) false false, .tree [] true true, .tree [] true true, .int .i64 0, .int .i64 0, .int .i64 0, .int .i64 0, .int .i64 0], .int .i64 0]) st := by
  have hs := notice_sized hn
  have hc := split_count hs
  obtain ⟨h1, h2, h3⟩ := (split_pages b).2.1 p (List.mem_of_getElem? hp)
  have hl := proof_len (splitI b) k
  have hT : ((splitI b).take k).length = k := by rw [List.length_take]; omega
  have := @f_image_Put st K ver b.length (rootI (splitI b)) start ((splitI b).take k) z z (ldQ (splitI b) k) z z [] true true [] true true 0 0 0 0 0 p.xs false false (proofI (splitI b) k) (decide (proofI (splitI b) k = [])) (decide (proofI (splitI b) k = [])) (ld_ok b k (by omega) hz) (by omega) (by simp) (by omega) (fun h => of_decide_eq_true h)
  refine this.trans ?_
  have hck : checkI (rootI (splitI b)) (countI b.length) ((((splitI b).take k).length : Nat) : Int) p.xs (proofI (splitI b) k) = true := by
    rw [hT, hc]
    exact check_proof (split_are hs) hp
  rw [ld_sound hn (by omega), if_neg (by simp [h1]), if_neg (by rw [hT, hc]; omega), hck, if_neg (by simp)]
  have e1 : ((splitI b).take k ++ [(⟨p.xs, false, false⟩ : By)]).map cloneB = (splitI b).take (k + 1) := by
    have : (⟨p.xs, false, false⟩ : By) = p := by
      obtain ⟨xs, nl, tg⟩ := p
      simp only at h2 h3
      subst h2; subst h3; rfl
    rw [this]
    exact ld_clone hp
  have e2 : (ldQ (splitI b) k ++ [(⟨proofI (splitI b) k, decide (proofI (splitI b) k = []), decide (proofI (splitI b) k = [])⟩ : Sl Int)]).map cloneB = ldQ (splitI b) (k + 1) := ld_cloneQ (splitI b) k
  rw [e1, e2]
theorem ld_whole (hn : noticeI ver b.length start = true) {k : Nat} (hk : k < (splitI b).length) {z : Bool} (hz : z = decide (k = 0)) : WpF XX .ro n_image_Whole [.agg [.int .i64 ver, .int .i64 (b.length : Int), .int .u64 (rootI (splitI b)), .int .i64 start, .tree (((splitI b).take k).map By.v) z z, .tree ((ldQ (splitI b) k).map (Sl.v uV)) z z, .tree [] true true, .tree [] true true, .int .i64 0, .int .i64 0, .int .i64 0, .int .i64 0, .int .i64 0]] st K ↔ K (.tup [.tree [] true true, .bool false]) st := by
  have hs := notice_sized hn
  have hc := split_count hs
  have hT : ((splitI b).take k).length = k := by rw [List.length_take]; omega
  have := @f_image_Whole st K ver b.length (rootI (splitI b)) start ((splitI b).take k) z z (ldQ (splitI b) k) z z [] true true [] true true 0 0 0 0 0 (ld_ok b k (by omega) hz)
  refine this.trans ?_
  have hj : joinOK ((splitI b).take k) b.length = false := by
    rw [joinOK, hT, hc]
    have : ¬ (k : Int) = ((splitI b).length : Int) := by omega
    simp [this]
  rw [hj, if_neg (by simp)]
theorem ld_whole_all (hn : noticeI ver b.length start = true) : WpF XX .ro n_image_Whole [.agg [.int .i64 ver, .int .i64 (b.length : Int), .int .u64 (rootI (splitI b)), .int .i64 start, .tree (((splitI b).take (splitI b).length).map By.v) false false, .tree ((ldQ (splitI b) (splitI b).length).map (Sl.v uV)) false false, .tree [] true true, .tree [] true true, .int .i64 0, .int .i64 0, .int .i64 0, .int .i64 0, .int .i64 0]] st K ↔ K (.tup [.tree (b.map b8) false true, .bool true]) st := by
  have hs := notice_sized hn
  obtain ⟨j1, j2, j3⟩ := split_join hs
  have hne : (splitI b).length ≠ 0 := fun h => by
    have := split_count hs
    have h2 := sized_iff.1 hs
    rw [h, countI] at this
    omega
  have := @f_image_Whole st K ver b.length (rootI (splitI b)) start ((splitI b).take (splitI b).length) false false (ldQ (splitI b) (splitI b).length) false false [] true true [] true true 0 0 0 0 0 (ld_ok b _ (Nat.le_refl _) (by simp [hne]))
  refine this.trans ?_
  have h4 := ld_sound hn (Nat.le_refl _)
  rw [List.take_length] at h4 ⊢
  rw [if_pos ⟨h4, j1, j2⟩, j3]
end
end Go.Proofs.YtfmbdcmjgnikiaaDoor.Sm
namespace Go.Proofs.YtfmbdcmjgnikiaaDoor.Sm
open Go Go.RowKit
section
variable {ls : List (Nat × LRec)} {Q : Ex → St → Prop} {R : Prop} {st : St} {K : SV → St → Prop}
theorem prq_v (a : List By) (k : Nat) : (prq a k).v uV = .tree ((proofI a k).map uV) (decide (proofI a k = [])) (decide (proofI a k = [])) := rfl
theorem L_loads {b : List UInt8} {nb gb : Bool} {ver start : Int} {nt : List SV} (hn : noticeI ver b.length start = true) : ∀ (d k : Nat) (z : Bool) (h : Heap) (nx : Nat), k + d = (splitI b).length → z = decide (k = 0) → fresh h nx → 2 ≤ nx → look h 1 = some [.int .i64 ver, .int .i64 (b.length : Int), .int .u64 (rootI (splitI b)), .int .i64 start, .tree (((splitI b).take k).map By.v) z z, .tree ((ldQ (splitI b) k).map (Sl.v uV)) z z, .tree [] true true, .tree [] true true, .int .i64 0, .int .i64 0, .int .i64 0, .int .i64 0, .int .i64 0] →
    (∀ (h' : Heap) (nx' : Nat), fresh h' nx' → look h' 1 = some [.int .i64 ver, .int .i64 (b.length : Int), .int .u64 (rootI (splitI b)), .int .i64 start, .tree (((splitI b).take (splitI b).length).map By.v) false false, .tree ((ldQ (splitI b) (splitI b).length).map (Sl.v uV)) false false, .tree [] true true, .tree [] true true, .int .i64 0, .int .i64 0, .int .i64 0, .int .i64 0, .int .i64 0] → (Q (.exit 0) ⟨[(0, .tree (b.map b8) nb gb), (7, .bool true), (12, .ptr 1 0)], h', nx', ls, 0⟩ ↔ R)) →
    (L_law36_ImageLoads_0 XX (.tree (b.map b8) nb gb) (.bool true) (.tree ((splitI b).map By.v) false false) (.ptr 1 0) (.tree ((splitI b).map By.v) false false) (.int .i64 (splitI b).length) (.int .i64 k) h nx ls 0 Q ↔ R) := by
  have hs := notice_sized hn
  have hn16 := (split_pages b).1
  intro d
  induction d with
  | zero =>
    intro k z h nx hk hz hf hnx h1 q
    obtain rfl : k = (splitI b).length := by omega
    have hne : (splitI b).length ≠ 0 := fun h => by
      have := split_count hs
      have h2 := sized_iff.1 hs
      rw [h, countI] at this
      omega
    have hz' : z = false := by simp [hz, hne]
    subst hz'
    rw [L_law36_ImageLoads_0_unf]
    simp only [b_law36_ImageLoads_0, bC, bW, wpY', evR, evW, idx, ldc, okV, sub, setc, buildC, bnd, resOf, resL, res1, xorB, take2L, take2, takeL, take1, appF, rowOf, elemOk, plain, pl1, isRow, cellB, srcOf, LIM, Option.some.injEq, exists_eq_left', exists_eq_left, Prod.mk.injEq, if_true, if_false, ite_true, ite_false, ne_eq, eq_self, reduceCtorEq, ↓reduceIte, Nat.reduceEqDiff, Nat.reduceAdd, Nat.reduceSub, Nat.reduceMul, Nat.reduceLT, Nat.reduceLeDiff, Nat.reduceBEq, Nat.reduceBNe, Nat.reduceMod, Nat.reduceDiv, Nat.reducePow, Int.reduceEq, Int.reduceLT, Int.reduceLE, Int.reduceNeg, Int.reduceAdd, Int.reduceSub, Int.reduceMul, Int.reduceToNat, Int.reduceBEq, Int.reduceBNe, Int.lt_irrefl]
    exact q h nx hf h1
  | succ d ih =>
    intro k z h nx hk hz hf hnx h1 q
    have hlt : k < (splitI b).length := by omega
    obtain ⟨p, hp, _⟩ := get_some hlt
    obtain ⟨p1, p2, p3⟩ := (split_pages b).2.1 p (List.mem_of_getElem? hp)
    have hx : ((splitI b).map By.v)[k]? = some (.tree (p.xs.map b8) false false) := by
      rw [List.getElem?_map, hp]
      obtain ⟨xs, nl, tg⟩ := p
      simp only at p2 p3
      subst p2; subst p3; rfl
    have f0 := hf nx (Nat.le_refl _)
    rw [L_law36_ImageLoads_0_unf]
    simp (disch := omega) only [b_law36_ImageLoads_0, bC, bD, bH, wpY', evR, evW, idx, ldc, okV, sub, setc, buildC, bnd, resOf, resL, res1, xorB, take2L, take2, takeL, take1, appF, rowOf, elemOk, plain, pl1, isRow, cellB, srcOf, LIM, Option.some.injEq, exists_eq_left', exists_eq_left, Prod.mk.injEq, if_true, if_false, ite_true, ite_false, ne_eq, eq_self, reduceCtorEq, ↓reduceIte, Nat.reduceEqDiff, Nat.reduceAdd, Nat.reduceSub, Nat.reduceMul, Nat.reduceLT, Nat.reduceLeDiff, Nat.reduceBEq, Nat.reduceBNe, Nat.reduceMod, Nat.reduceDiv, Nat.reducePow, Int.reduceEq, Int.reduceLT, Int.reduceLE, Int.reduceNeg, Int.reduceAdd, Int.reduceSub, Int.reduceMul, Int.reduceToNat, Int.reduceBEq, Int.reduceBNe, unused, fpO, rdR, rdW, own1, ptr1, ownC, sepOk, compat, disj, offR, h1, lt_c hlt, hx, ld_whole hn hlt hz, ld_proof hs hlt, prq_v, ld_put hn hlt hz hp, f0, wi_s hlt (by omega), L_law36_ImageLoads_0_eq]
    refine ih (k + 1) false _ _ (by omega) (by simp) (fun j hj => ?_) (by omega) ?_ q
    · simp (disch := omega) only [bC, bD, bH, wpY', evR, evW, idx, ldc, okV, sub, setc, buildC, bnd, resOf, resL, res1, xorB, take2L, take2, takeL, take1, appF, rowOf, elemOk, plain, pl1, isRow, cellB, srcOf, LIM, Option.some.injEq, exists_eq_left', exists_eq_left, Prod.mk.injEq, if_true, if_false, ite_true, ite_false, ne_eq, eq_self, reduceCtorEq, ↓reduceIte, Nat.reduceEqDiff, Nat.reduceAdd, Nat.reduceSub, Nat.reduceMul, Nat.reduceLT, Nat.reduceLeDiff, Nat.reduceBEq, Nat.reduceBNe, Nat.reduceMod, Nat.reduceDiv, Nat.reducePow, Int.reduceEq, Int.reduceLT, Int.reduceLE, Int.reduceNeg, Int.reduceAdd, Int.reduceSub, Int.reduceMul, Int.reduceToNat, Int.reduceBEq, Int.reduceBNe, unused, fpO, rdR, rdW, own1, ptr1, ownC, sepOk, compat, disj, offR]
      exact hf j (by omega)
    · simp (disch := omega) only [bC, bD, bH, wpY', evR, evW, idx, ldc, okV, sub, setc, buildC, bnd, resOf, resL, res1, xorB, take2L, take2, takeL, take1, appF, rowOf, elemOk, plain, pl1, isRow, cellB, srcOf, LIM, Option.some.injEq, exists_eq_left', exists_eq_left, Prod.mk.injEq, if_true, if_false, ite_true, ite_false, ne_eq, eq_self, reduceCtorEq, ↓reduceIte, Nat.reduceEqDiff, Nat.reduceAdd, Nat.reduceSub, Nat.reduceMul, Nat.reduceLT, Nat.reduceLeDiff, Nat.reduceBEq, Nat.reduceBNe, Nat.reduceMod, Nat.reduceDiv, Nat.reducePow, Int.reduceEq, Int.reduceLT, Int.reduceLE, Int.reduceNeg, Int.reduceAdd, Int.reduceSub, Int.reduceMul, Int.reduceToNat, Int.reduceBEq, Int.reduceBNe, unused, fpO, rdR, rdW, own1, ptr1, ownC, sepOk, compat, disj, offR, h1]
set_option maxHeartbeats 2000000 in
set_option maxRecDepth 100000 in
theorem law_ImageLoads {b : List UInt8} {nb gb : Bool} {ver start : Int} (hb : b.length < 4611686018427387904) :
    WpF XX .ro n_law36_ImageLoads [.tree (b.map b8) nb gb, .int .i64 ver, .int .i64 start] st K ↔ K (.bool true) st := by
  rw [F_ro (mf := m_law36_ImageLoads) rfl rfl]
  have eA := fun st K => f_image_Announce (st := st) (K := K) (ver := ver) (start := start) (b := b) (nl := nb) (tg := gb)
  cases hn : noticeI ver b.length start with
  | false =>
    simp only [hn, Bool.false_eq_true, if_false] at eA
    simp only [m_law36_ImageLoads, bC, bW, bD, wpY', evR, evW, idx, ldc, okV, sub, setc, buildC, bnd, resOf, resL, res1, xorB, take2L, take2, takeL, take1, appF, rowOf, elemOk, plain, pl1, isRow, cellB, srcOf, LIM, Option.some.injEq, exists_eq_left', exists_eq_left, Prod.mk.injEq, if_true, if_false, ite_true, ite_false, ne_eq, eq_self, reduceCtorEq, ↓reduceIte, Nat.reduceEqDiff, Nat.reduceAdd, Nat.reduceSub, Nat.reduceMul, Nat.reduceLT, Nat.reduceLeDiff, Nat.reduceBEq, Nat.reduceBNe, Nat.reduceMod, Nat.reduceDiv, Nat.reducePow, Int.reduceEq, Int.reduceLT, Int.reduceLE, Int.reduceNeg, Int.reduceAdd, Int.reduceSub, Int.reduceMul, Int.reduceToNat, Int.reduceBEq, Int.reduceBNe, unused, fpO, rdR, rdW, own1, ptr1, ownC, sepOk, compat, disj, offR, f_law36_head, eA]
  | true =>
    have hs := notice_sized hn
    simp only [hn, if_true] at eA
    have eS := fun st K => f_image_Split (st := st) (K := K) (b := b) (nl := nb) (tg := gb)
    simp only [hs, if_true] at eS
    have e3 := fun st K => f_ref36_Bytes (st := st) (K := K) (a := b) (b := b) (n1 := false) (g1 := true) (n2 := nb) (g2 := gb) hb
    simp only [decide_true] at e3
    simp only [m_law36_ImageLoads, bC, bW, bD, wpY', evR, evW, idx, ldc, okV, sub, setc, buildC, bnd, resOf, resL, res1, xorB, take2L, take2, takeL, take1, appF, rowOf, elemOk, plain, pl1, isRow, cellB, srcOf, LIM, Option.some.injEq, exists_eq_left', exists_eq_left, Prod.mk.injEq, if_true, if_false, ite_true, ite_false, ne_eq, eq_self, reduceCtorEq, ↓reduceIte, Nat.reduceEqDiff, Nat.reduceAdd, Nat.reduceSub, Nat.reduceMul, Nat.reduceLT, Nat.reduceLeDiff, Nat.reduceBEq, Nat.reduceBNe, Nat.reduceMod, Nat.reduceDiv, Nat.reducePow, Int.reduceEq, Int.reduceLT, Int.reduceLE, Int.reduceNeg, Int.reduceAdd, Int.reduceSub, Int.reduceMul, Int.reduceToNat, Int.reduceBEq, Int.reduceBNe, unused, fpO, rdR, rdW, own1, ptr1, ownC, sepOk, compat, disj, offR, f_law36_head, eA, eS, L_law36_ImageLoads_0_eq]
    refine L_loads (nt := []) hn (splitI b).length 0 true _ _ (by omega) (by simp) (fun j hj => by simp (disch := omega) only [bC, bD, bH, wpY', evR, evW, idx, ldc, okV, sub, setc, buildC, bnd, resOf, resL, res1, xorB, take2L, take2, takeL, take1, appF, rowOf, elemOk, plain, pl1, isRow, cellB, srcOf, LIM, Option.some.injEq, exists_eq_left', exists_eq_left, Prod.mk.injEq, if_true, if_false, ite_true, ite_false, ne_eq, eq_self, reduceCtorEq, ↓reduceIte, Nat.reduceEqDiff, Nat.reduceAdd, Nat.reduceSub, Nat.reduceMul, Nat.reduceLT, Nat.reduceLeDiff, Nat.reduceBEq, Nat.reduceBNe, Nat.reduceMod, Nat.reduceDiv, Nat.reducePow, Int.reduceEq, Int.reduceLT, Int.reduceLE, Int.reduceNeg, Int.reduceAdd, Int.reduceSub, Int.reduceMul, Int.reduceToNat, Int.reduceBEq, Int.reduceBNe, unused, fpO, rdR, rdW, own1, ptr1, ownC, sepOk, compat, disj, offR]) (by omega) rfl fun h' nx' hf' h1' => ?_
    have e4 := fun st K => ld_whole_all (st := st) (K := K) hn
    simp only [List.take_length] at e4
    simp only [bC, bW, bD, wpY', evR, evW, idx, ldc, okV, sub, setc, buildC, bnd, resOf, resL, res1, xorB, take2L, take2, takeL, take1, appF, rowOf, elemOk, plain, pl1, isRow, cellB, srcOf, LIM, Option.some.injEq, exists_eq_left', exists_eq_left, Prod.mk.injEq, if_true, if_false, ite_true, ite_false, ne_eq, eq_self, reduceCtorEq, ↓reduceIte, Nat.reduceEqDiff, Nat.reduceAdd, Nat.reduceSub, Nat.reduceMul, Nat.reduceLT, Nat.reduceLeDiff, Nat.reduceBEq, Nat.reduceBNe, Nat.reduceMod, Nat.reduceDiv, Nat.reducePow, Int.reduceEq, Int.reduceLT, Int.reduceLE, Int.reduceNeg, Int.reduceAdd, Int.reduceSub, Int.reduceMul, Int.reduceToNat, Int.reduceBEq, Int.reduceBNe, unused, fpO, rdR, rdW, own1, ptr1, ownC, sepOk, compat, disj, offR, h1', List.take_length, e4, e3]
end
end Go.Proofs.YtfmbdcmjgnikiaaDoor.Sm
namespace Go.Proofs.YtfmbdcmjgnikiaaDoor.Sm
open Go Go.RowKit

theorem g_ImageLoads {st : St} {ss : List SV} (h : argL [tB, tI, tI] ss) : WpF XX .ro n_law36_ImageLoads ss st fun r _ => r = .bool true := by
  obtain ⟨_, _, rfl, a1, _, _, rfl, a2, _, _, rfl, a3, rfl⟩ := h
  obtain ⟨b, nb, rfl, _, hb⟩ := arg_tB a1
  obtain ⟨x, rfl, _⟩ := arg_tI a2
  obtain ⟨y, rfl, _⟩ := arg_tI a3
  exact (law_ImageLoads (by omega)).2 rfl
end Go.Proofs.YtfmbdcmjgnikiaaDoor.Sm
