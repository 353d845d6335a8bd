/- Programs and their pages: split and joined. Conditions: none (plain laws). As many pages as a size needs. Conditions: none. ImageSizes for every argument. Conditions: none. -/
import Derived.Test.YtfmbdcmjgnikiaaDoorM10
import Derived.Test.YtfmbdcmjgnikiaaDoorM11
set_option linter.unusedSimpArgs false
set_option linter.unusedVariables false
namespace Go.Proofs.YtfmbdcmjgnikiaaDoor.Sm
open Go

theorem splitF_flat : ∀ (f : Nat) (b : List UInt8), b.length ≤ 256 * f → (splitF f b).flatten = b ++ List.replicate (256 * ((b.length + 255) / 256) - b.length) 0 ∧ (splitF f b).length = (b.length + 255) / 256
  | 0, b, h => by
    obtain rfl : b = [] := List.length_eq_zero_iff.1 (by omega)
    simp [splitF]
  | f + 1, b, h => by
    rw [splitF]
    by_cases h0 : b = []
    · subst h0; simp
    rw [if_neg h0]
    have hb : 0 < b.length := List.length_pos_iff.2 h0
    obtain ⟨h1, h2⟩ := splitF_flat f (b.drop 256) (by simp; omega)
    rw [List.flatten_cons, h1, List.length_cons, h2, List.length_drop]
    by_cases hl : b.length ≤ 256
    · have e1 : b.drop 256 = [] := List.drop_eq_nil_of_le hl
      have e2 : b.take 256 = b := List.take_of_length_le hl
      have e3 : (b.length + 255) / 256 = 1 := by omega
      rw [e1, e2, e3, pad]
      have e4 : b.length - 256 = 0 := by omega
      rw [e4]
      simp
    · have e1 : (b.length + 255) / 256 = (b.length - 256 + 255) / 256 + 1 := by omega
      have e2 : pad (b.take 256) = b.take 256 := by
        rw [pad, List.length_take, Nat.min_eq_left (by omega)]
        simp
      rw [e1, e2, ← List.append_assoc, List.take_append_drop]
      refine ⟨?_, rfl⟩
      rw [List.append_cancel_left_eq]; refine congrArg (fun n => List.replicate n 0) ?_
      omega
theorem splitF_inv : ∀ (f : Nat) (ps : List (List UInt8)) (size : Nat), (∀ p ∈ ps, p.length = 256) → ps.length ≤ f → (size + 255) / 256 = ps.length → allZ (ps.flatten.drop size) = true → splitF f (ps.flatten.take size) = ps
  | f, [], size, hp, hf, hs, hz => by
    obtain rfl : size = 0 := by simp at hs; omega
    cases f <;> simp [splitF]
  | 0, p :: ps, size, hp, hf, hs, hz => by simp at hf
  | f + 1, p :: ps, size, hp, hf, hs, hz => by
    have hp0 := hp p List.mem_cons_self
    rw [List.length_cons] at hs hf
    have hsz : 0 < size := by omega
    rw [List.flatten_cons] at hz ⊢
    rw [splitF, if_neg (by
      intro h
      have := congrArg List.length h
      rw [List.length_take, List.length_append, hp0] at this
      simp at this; omega)]
    by_cases hl : size ≤ 256
    · have hn : ps = [] := List.length_eq_zero_iff.1 (by omega)
      subst hn
      rw [List.flatten_nil, List.append_nil] at hz ⊢
      have e1 : (p.take size).drop 256 = [] := List.drop_eq_nil_of_le (by simp; omega)
      have e2 : (p.take size).take 256 = p.take size := List.take_of_length_le (by simp; omega)
      have e3 : splitF f [] = [] := by cases f <;> simp [splitF]
      rw [e1, e2, e3, pad]
      congr 1
      have e4 : p.drop size = List.replicate (256 - size) 0 := by
        refine List.eq_replicate_iff.2 ⟨by simp [hp0], fun c hc => ?_⟩
        simpa using List.all_eq_true.1 hz c hc
      have e5 : (p.take size).length = size := by rw [List.length_take]; omega
      rw [e5, ← e4, List.take_append_drop]
    · have e1 : (p ++ ps.flatten).take size = p ++ ps.flatten.take (size - 256) := by
        rw [List.take_append, List.take_of_length_le (by omega), hp0]
      have e2 : (p ++ ps.flatten).drop size = ps.flatten.drop (size - 256) := by
        rw [List.drop_append, List.drop_eq_nil_of_le (by omega), hp0, List.nil_append]
      rw [e2] at hz
      have e3 : (p ++ ps.flatten.take (size - 256)).take 256 = p := by
        rw [List.take_append, hp0, List.take_of_length_le (by omega)]; simp
      have e4 : (p ++ ps.flatten.take (size - 256)).drop 256 = ps.flatten.take (size - 256) := by
        rw [List.drop_append, hp0, List.drop_eq_nil_of_le (by omega)]; simp
      rw [e1, e3, e4, splitF_inv f ps (size - 256) (fun q hq => hp q (List.mem_cons_of_mem _ hq)) (by omega) (by omega) hz, pad, hp0]
      simp
theorem allB_inner (a : List By) : allB a = (inner a).flatten := by simp [allB, inner, List.flatMap_def]
theorem inner_pg (l : List (List UInt8)) : inner (l.map pgV) = l := by
  rw [inner, List.map_map]
  simp [Function.comp_def, pgV]
theorem allZ_rep (n : Nat) : allZ (List.replicate n 0) = true := by simp [allZ]
theorem paged_iff {a : List By} : pagedI a = true ↔ ∀ p ∈ a, p.xs.length = 256 := by
  constructor
  · intro h p hp
    simpa using List.all_eq_true.1 h p hp
  · intro h
    refine List.all_eq_true.2 fun p hp => ?_
    simpa using h p hp
theorem sized_iff {n : Int} : sizedI n = true ↔ 1 ≤ n ∧ n ≤ 4096 := by simp [sizedI]
theorem split_len {b : List UInt8} (h : b.length ≤ 4096) : (splitI b).length = (b.length + 255) / 256 := by
  rw [splitI, List.length_map, (splitF_flat 16 b (by omega)).2]
theorem split_flat {b : List UInt8} (h : b.length ≤ 4096) : allB (splitI b) = b ++ List.replicate (256 * ((b.length + 255) / 256) - b.length) 0 := by
  rw [allB_inner, splitI, inner_pg, (splitF_flat 16 b (by omega)).1]
theorem split_paged (b : List UInt8) : pagedI (splitI b) = true := paged_iff.2 fun p hp => ((split_pages b).2.1 p hp).1
/-- The pages of a program are joined to it. -/
theorem split_join {b : List UInt8} (h : sizedI b.length = true) : joinOK (splitI b) b.length = true ∧ allZ ((allB (splitI b)).drop ((b.length : Int)).toNat) = true ∧ (allB (splitI b)).take ((b.length : Int)).toNat = b := by
  have hs := sized_iff.1 h
  have hb : b.length ≤ 4096 := by omega
  rw [split_flat hb, Int.toNat_natCast, List.drop_left, List.take_left]
  refine ⟨?_, allZ_rep _, rfl⟩
  rw [joinOK, h, split_paged, Bool.true_and, Bool.and_true, decide_eq_true_eq, split_len hb, countI]
  omega
theorem join_parts {a : List By} {size : Int} (h : joinOK a size = true) : (1 ≤ size ∧ size ≤ 4096) ∧ (a.length : Int) = countI size ∧ ∀ p ∈ a, p.xs.length = 256 := by
  simp only [joinOK, Bool.and_eq_true, decide_eq_true_eq] at h
  exact ⟨sized_iff.1 h.1.1, h.1.2, paged_iff.1 h.2⟩
/-- What is joined has the pages. -/
theorem join_split {a : List By} {size : Int} (h : joinOK a size = true) (hz : allZ ((allB a).drop size.toNat) = true) : ((allB a).take size.toNat).length = size.toNat ∧ sizedI (((allB a).take size.toNat).length : Nat) = true ∧ inner (splitI ((allB a).take size.toNat)) = inner a := by
  obtain ⟨h1, h2, h3⟩ := join_parts h
  have hl := allB_len a h3
  unfold countI at h2
  have e : ((allB a).take size.toNat).length = size.toNat := by rw [List.length_take]; omega
  refine ⟨e, by rw [e]; exact sized_iff.2 (by omega), ?_⟩
  rw [splitI, inner_pg]
  rw [allB_inner] at hz ⊢
  refine splitF_inv 16 (inner a) size.toNat (fun p hp => ?_) (by simp [inner]; omega) (by simp [inner]; omega) hz
  obtain ⟨q, hq, rfl⟩ := List.mem_map.1 hp
  exact h3 q hq
end Go.Proofs.YtfmbdcmjgnikiaaDoor.Sm
namespace Go.Proofs.YtfmbdcmjgnikiaaDoor.Sm
open Go Go.RowKit

theorem allZ_c {c : UInt8} {b : List UInt8} : allZ (c :: b) = (decide (c = 0) && allZ b) := rfl
theorem allZ_app (a b : List UInt8) : allZ (a ++ b) = (allZ a && allZ b) := by simp [allZ]
section
variable {h : Heap} {nx wb : Nat} {ls : List (Nat × LRec)} {Q : Ex → St → Prop} {R : Prop} {st : St} {K : SV → St → Prop}
theorem L_sizes {b : List UInt8} {nb gb : Bool} {v1 v8 v9 : SV} (hb : b.length ≤ 4096) : ∀ (d k : Nat) (z : Bool), b.length ≤ k + d → k ≤ 5000 →
    (Q (.exit 0) ⟨[(0, .tree (b.map b8) nb gb), (1, v1), (5, .bool true), (8, v8), (9, v9), (10, .bool (z && allZ (b.drop k)))], h, nx, ls, wb⟩ ↔ R) →
    (L_law36_ImageSizes_0 XX (.tree (b.map b8) nb gb) v1 (.bool true) v8 v9 (.bool z) (.int .i64 k) h nx ls wb Q ↔ R) := by
  intro d
  induction d with
  | zero =>
    intro k z hk h5 q
    have hlt : ¬ (k : Int) < (b.length : Int) := by omega
    rw [L_law36_ImageSizes_0_unf]
    simp only [b_law36_ImageSizes_0, bC, bW, wpY', evR, evW, idx, ldc, okV, sub, setc, buildC, bnd, resOf, resL, res1, xorB, take2L, take2, takeL, take1, appF, rowOf, elemOk, plain, pl1, isRow, cellB, srcOf, LIM, Option.some.injEq, exists_eq_left', exists_eq_left, Prod.mk.injEq, if_true, if_false, ite_true, ite_false, ne_eq, eq_self, reduceCtorEq, ↓reduceIte, Nat.reduceEqDiff, Nat.reduceAdd, Nat.reduceSub, Nat.reduceMul, Nat.reduceLT, Nat.reduceLeDiff, Nat.reduceBEq, Nat.reduceBNe, Nat.reduceMod, Nat.reduceDiv, Nat.reducePow, Int.reduceEq, Int.reduceLT, Int.reduceLE, Int.reduceNeg, Int.reduceAdd, Int.reduceSub, Int.reduceMul, Int.reduceToNat, Int.reduceBEq, Int.reduceBNe, hlt]
    rw [List.drop_eq_nil_of_le (by omega)] at q
    simpa [allZ] using q
  | succ d ih =>
    intro k z hk h5 q
    by_cases hlt : k < b.length
    · obtain ⟨c, hc, hd⟩ := get_some hlt
      have hx : (b.map b8)[k]? = some (.int .u8 c.toNat) := by rw [List.getElem?_map, hc]; rfl
      rw [L_law36_ImageSizes_0_unf]
      rw [hd, allZ_c, ← Bool.and_assoc] at q
      cases z with
      | false =>
        simp only [b_law36_ImageSizes_0, bC, bW, wpY', evR, evW, idx, ldc, okV, sub, setc, buildC, bnd, resOf, resL, res1, xorB, take2L, take2, takeL, take1, appF, rowOf, elemOk, plain, pl1, isRow, cellB, srcOf, LIM, Option.some.injEq, exists_eq_left', exists_eq_left, Prod.mk.injEq, if_true, if_false, ite_true, ite_false, ne_eq, eq_self, reduceCtorEq, ↓reduceIte, Nat.reduceEqDiff, Nat.reduceAdd, Nat.reduceSub, Nat.reduceMul, Nat.reduceLT, Nat.reduceLeDiff, Nat.reduceBEq, Nat.reduceBNe, Nat.reduceMod, Nat.reduceDiv, Nat.reducePow, Int.reduceEq, Int.reduceLT, Int.reduceLE, Int.reduceNeg, Int.reduceAdd, Int.reduceSub, Int.reduceMul, Int.reduceToNat, Int.reduceBEq, Int.reduceBNe, lt_c hlt, wi_s hlt (by omega), L_law36_ImageSizes_0_eq]
        exact ih (k + 1) false (by omega) (by omega) (by simpa using q)
      | true =>
        simp only [b_law36_ImageSizes_0, bC, bW, wpY', evR, evW, idx, ldc, okV, sub, setc, buildC, bnd, resOf, resL, res1, xorB, take2L, take2, takeL, take1, appF, rowOf, elemOk, plain, pl1, isRow, cellB, srcOf, LIM, Option.some.injEq, exists_eq_left', exists_eq_left, Prod.mk.injEq, if_true, if_false, ite_true, ite_false, ne_eq, eq_self, reduceCtorEq, ↓reduceIte, Nat.reduceEqDiff, Nat.reduceAdd, Nat.reduceSub, Nat.reduceMul, Nat.reduceLT, Nat.reduceLeDiff, Nat.reduceBEq, Nat.reduceBNe, Nat.reduceMod, Nat.reduceDiv, Nat.reducePow, Int.reduceEq, Int.reduceLT, Int.reduceLE, Int.reduceNeg, Int.reduceAdd, Int.reduceSub, Int.reduceMul, Int.reduceToNat, Int.reduceBEq, Int.reduceBNe, lt_c hlt, hc, b8_eq, b8_zero, wi_s hlt (by omega), L_law36_ImageSizes_0_eq]
        exact ih (k + 1) _ (by omega) (by omega) (by simpa using q)
    · have hlt' : ¬ (k : Int) < (b.length : Int) := by omega
      rw [L_law36_ImageSizes_0_unf]
      simp only [b_law36_ImageSizes_0, bC, bW, wpY', evR, evW, idx, ldc, okV, sub, setc, buildC, bnd, resOf, resL, res1, xorB, take2L, take2, takeL, take1, appF, rowOf, elemOk, plain, pl1, isRow, cellB, srcOf, LIM, Option.some.injEq, exists_eq_left', exists_eq_left, Prod.mk.injEq, if_true, if_false, ite_true, ite_false, ne_eq, eq_self, reduceCtorEq, ↓reduceIte, Nat.reduceEqDiff, Nat.reduceAdd, Nat.reduceSub, Nat.reduceMul, Nat.reduceLT, Nat.reduceLeDiff, Nat.reduceBEq, Nat.reduceBNe, Nat.reduceMod, Nat.reduceDiv, Nat.reducePow, Int.reduceEq, Int.reduceLT, Int.reduceLE, Int.reduceNeg, Int.reduceAdd, Int.reduceSub, Int.reduceMul, Int.reduceToNat, Int.reduceBEq, Int.reduceBNe, hlt']
      rw [List.drop_eq_nil_of_le (by omega)] at q
      simpa [allZ] using q
set_option maxHeartbeats 2000000 in
set_option maxRecDepth 100000 in
theorem law_ImageSizes {b : List UInt8} {nb gb : Bool} {size : Int} :
    WpF XX .ro n_law36_ImageSizes [.tree (b.map b8) nb gb, .int .i64 size] st K ↔ K (.bool true) st := by
  rw [F_ro (mf := m_law36_ImageSizes) rfl rfl]
  by_cases h1 : (b.length : Int) < 1
  · simp only [m_law36_ImageSizes, bC, bW, bD, wpY', evR, evW, idx, ldc, okV, sub, setc, buildC, bnd, resOf, resL, res1, xorB, take2L, take2, takeL, take1, appF, rowOf, elemOk, plain, pl1, isRow, cellB, srcOf, LIM, Option.some.injEq, exists_eq_left', exists_eq_left, Prod.mk.injEq, if_true, if_false, ite_true, ite_false, ne_eq, eq_self, reduceCtorEq, ↓reduceIte, Nat.reduceEqDiff, Nat.reduceAdd, Nat.reduceSub, Nat.reduceMul, Nat.reduceLT, Nat.reduceLeDiff, Nat.reduceBEq, Nat.reduceBNe, Nat.reduceMod, Nat.reduceDiv, Nat.reducePow, Int.reduceEq, Int.reduceLT, Int.reduceLE, Int.reduceNeg, Int.reduceAdd, Int.reduceSub, Int.reduceMul, Int.reduceToNat, Int.reduceBEq, Int.reduceBNe, unused, fpO, rdR, rdW, own1, ptr1, ownC, sepOk, compat, disj, offR, f_law36_head, h1]
  by_cases h2 : (4096 : Int) < b.length
  · simp only [m_law36_ImageSizes, bC, bW, bD, wpY', evR, evW, idx, ldc, okV, sub, setc, buildC, bnd, resOf, resL, res1, xorB, take2L, take2, takeL, take1, appF, rowOf, elemOk, plain, pl1, isRow, cellB, srcOf, LIM, Option.some.injEq, exists_eq_left', exists_eq_left, Prod.mk.injEq, if_true, if_false, ite_true, ite_false, ne_eq, eq_self, reduceCtorEq, ↓reduceIte, Nat.reduceEqDiff, Nat.reduceAdd, Nat.reduceSub, Nat.reduceMul, Nat.reduceLT, Nat.reduceLeDiff, Nat.reduceBEq, Nat.reduceBNe, Nat.reduceMod, Nat.reduceDiv, Nat.reducePow, Int.reduceEq, Int.reduceLT, Int.reduceLE, Int.reduceNeg, Int.reduceAdd, Int.reduceSub, Int.reduceMul, Int.reduceToNat, Int.reduceBEq, Int.reduceBNe, unused, fpO, rdR, rdW, own1, ptr1, ownC, sepOk, compat, disj, offR, f_law36_head, h1, h2]
  by_cases h3 : size < 1
  · simp only [m_law36_ImageSizes, bC, bW, bD, wpY', evR, evW, idx, ldc, okV, sub, setc, buildC, bnd, resOf, resL, res1, xorB, take2L, take2, takeL, take1, appF, rowOf, elemOk, plain, pl1, isRow, cellB, srcOf, LIM, Option.some.injEq, exists_eq_left', exists_eq_left, Prod.mk.injEq, if_true, if_false, ite_true, ite_false, ne_eq, eq_self, reduceCtorEq, ↓reduceIte, Nat.reduceEqDiff, Nat.reduceAdd, Nat.reduceSub, Nat.reduceMul, Nat.reduceLT, Nat.reduceLeDiff, Nat.reduceBEq, Nat.reduceBNe, Nat.reduceMod, Nat.reduceDiv, Nat.reducePow, Int.reduceEq, Int.reduceLT, Int.reduceLE, Int.reduceNeg, Int.reduceAdd, Int.reduceSub, Int.reduceMul, Int.reduceToNat, Int.reduceBEq, Int.reduceBNe, unused, fpO, rdR, rdW, own1, ptr1, ownC, sepOk, compat, disj, offR, f_law36_head, h1, h2, h3]
  by_cases h4 : 4096 < size
  · simp only [m_law36_ImageSizes, bC, bW, bD, wpY', evR, evW, idx, ldc, okV, sub, setc, buildC, bnd, resOf, resL, res1, xorB, take2L, take2, takeL, take1, appF, rowOf, elemOk, plain, pl1, isRow, cellB, srcOf, LIM, Option.some.injEq, exists_eq_left', exists_eq_left, Prod.mk.injEq, if_true, if_false, ite_true, ite_false, ne_eq, eq_self, reduceCtorEq, ↓reduceIte, Nat.reduceEqDiff, Nat.reduceAdd, Nat.reduceSub, Nat.reduceMul, Nat.reduceLT, Nat.reduceLeDiff, Nat.reduceBEq, Nat.reduceBNe, Nat.reduceMod, Nat.reduceDiv, Nat.reducePow, Int.reduceEq, Int.reduceLT, Int.reduceLE, Int.reduceNeg, Int.reduceAdd, Int.reduceSub, Int.reduceMul, Int.reduceToNat, Int.reduceBEq, Int.reduceBNe, unused, fpO, rdR, rdW, own1, ptr1, ownC, sepOk, compat, disj, offR, f_law36_head, h1, h2, h3, h4]
  obtain ⟨S, rfl⟩ : ∃ S : Nat, size = S := ⟨size.toNat, by omega⟩
  have hb : b.length ≤ 4096 := by omega
  have hs : sizedI b.length = true := sized_iff.2 (by omega)
  have hs2 : sizedI (S : Int) = true := sized_iff.2 (by omega)
  have e1 := fun st K => (f_image_Split (b := b) (nl := nb) (tg := gb) (st := st) (K := K))
  simp only [hs, if_true] at e1
  have hpl := split_len hb
  have w1 : IntKind.i64.wrap ((b.length : Int) + 255) = (b.length : Int) + 255 := wi _ (by omega) (by omega)
  have w2 : IntKind.i64.wrap (((b.length : Int) + 255).tdiv 256) = (((b.length + 255) / 256 : Nat) : Int) := by rw [Int.tdiv_eq_ediv_of_nonneg (by omega), wi _ (by omega) (by omega)]; omega
  have w3 : IntKind.i64.wrap ((S : Int) + 255) = (S : Int) + 255 := wi _ (by omega) (by omega)
  have w4 : IntKind.i64.wrap (((S : Int) + 255).tdiv 256) = (((S + 255) / 256 : Nat) : Int) := by rw [Int.tdiv_eq_ediv_of_nonneg (by omega), wi _ (by omega) (by omega)]; omega
  have hJl : (splitI b).length < 4611686018427387904 := by omega
  have e2 := fun st K => (f_image_Join (a := splitI b) (n1 := false) (g1 := false) (size := (S : Int)) (st := st) (K := K) hJl)
  have hj : joinOK (splitI b) (S : Int) = decide ((S + 255) / 256 = (b.length + 255) / 256) := by
    rw [joinOK, hs2, split_paged, Bool.true_and, Bool.and_true, hpl, countI]
    exact decide_eq_decide.2 (by omega)
  by_cases h5 : (S + 255) / 256 = (b.length + 255) / 256
  case neg =>
    have h5' : ¬ (((S + 255) / 256 : Nat) : Int) = (((b.length + 255) / 256 : Nat) : Int) := by omega
    simp only [hj, h5, decide_false, Bool.false_eq_true, if_false] at e2
    simp only [m_law36_ImageSizes, bC, bW, bD, wpY', evR, evW, idx, ldc, okV, sub, setc, buildC, bnd, resOf, resL, res1, xorB, take2L, take2, takeL, take1, appF, rowOf, elemOk, plain, pl1, isRow, cellB, srcOf, LIM, Option.some.injEq, exists_eq_left', exists_eq_left, Prod.mk.injEq, if_true, if_false, ite_true, ite_false, ne_eq, eq_self, reduceCtorEq, ↓reduceIte, Nat.reduceEqDiff, Nat.reduceAdd, Nat.reduceSub, Nat.reduceMul, Nat.reduceLT, Nat.reduceLeDiff, Nat.reduceBEq, Nat.reduceBNe, Nat.reduceMod, Nat.reduceDiv, Nat.reducePow, Int.reduceEq, Int.reduceLT, Int.reduceLE, Int.reduceNeg, Int.reduceAdd, Int.reduceSub, Int.reduceMul, Int.reduceToNat, Int.reduceBEq, Int.reduceBNe, unused, fpO, rdR, rdW, own1, ptr1, ownC, sepOk, compat, disj, offR, f_law36_head, h1, h2, h3, h4, e1, e2, hpl, w1, w2, w3, w4, h5']
  have hz : allZ ((allB (splitI b)).drop S) = allZ (b.drop S) := by
    rw [split_flat hb, List.drop_append, allZ_app, List.drop_replicate, allZ_rep, Bool.and_true]
  simp only [hj, h5, decide_true, if_true, Int.toNat_natCast, hz] at e2
  have h5' : (((S + 255) / 256 : Nat) : Int) = (((b.length + 255) / 256 : Nat) : Int) := by omega
  cases hzz : allZ (b.drop S) with
  | false =>
    simp only [hzz, Bool.false_eq_true, if_false] at e2
    simp only [m_law36_ImageSizes, bC, bW, bD, wpY', evR, evW, idx, ldc, okV, sub, setc, buildC, bnd, resOf, resL, res1, xorB, take2L, take2, takeL, take1, appF, rowOf, elemOk, plain, pl1, isRow, cellB, srcOf, LIM, Option.some.injEq, exists_eq_left', exists_eq_left, Prod.mk.injEq, if_true, if_false, ite_true, ite_false, ne_eq, eq_self, reduceCtorEq, ↓reduceIte, Nat.reduceEqDiff, Nat.reduceAdd, Nat.reduceSub, Nat.reduceMul, Nat.reduceLT, Nat.reduceLeDiff, Nat.reduceBEq, Nat.reduceBNe, Nat.reduceMod, Nat.reduceDiv, Nat.reducePow, Int.reduceEq, Int.reduceLT, Int.reduceLE, Int.reduceNeg, Int.reduceAdd, Int.reduceSub, Int.reduceMul, Int.reduceToNat, Int.reduceBEq, Int.reduceBNe, unused, fpO, rdR, rdW, own1, ptr1, ownC, sepOk, compat, disj, offR, f_law36_head, h1, h2, h3, h4, e1, e2, hpl, w1, w2, w3, w4, eq_true h5', L_law36_ImageSizes_0_eq]
    refine L_sizes hb b.length S true (by omega) (by omega) ?_
    simp only [bC, bW, bD, wpY', evR, evW, idx, ldc, okV, sub, setc, buildC, bnd, resOf, resL, res1, xorB, take2L, take2, takeL, take1, appF, rowOf, elemOk, plain, pl1, isRow, cellB, srcOf, LIM, Option.some.injEq, exists_eq_left', exists_eq_left, Prod.mk.injEq, if_true, if_false, ite_true, ite_false, ne_eq, eq_self, reduceCtorEq, ↓reduceIte, Nat.reduceEqDiff, Nat.reduceAdd, Nat.reduceSub, Nat.reduceMul, Nat.reduceLT, Nat.reduceLeDiff, Nat.reduceBEq, Nat.reduceBNe, Nat.reduceMod, Nat.reduceDiv, Nat.reducePow, Int.reduceEq, Int.reduceLT, Int.reduceLE, Int.reduceNeg, Int.reduceAdd, Int.reduceSub, Int.reduceMul, Int.reduceToNat, Int.reduceBEq, Int.reduceBNe, unused, fpO, rdR, rdW, own1, ptr1, ownC, sepOk, compat, disj, offR, hzz]
  | true =>
    simp only [hzz, if_true] at e2
    have hxl : ((allB (splitI b)).take S).length = S := by
      rw [split_flat hb, List.length_take, List.length_append, List.length_replicate]; omega
    have hxl' : ((((allB (splitI b)).take S).length : Nat) : Int) = (S : Int) := by rw [hxl]
    simp only [m_law36_ImageSizes, bC, bW, bD, wpY', evR, evW, idx, ldc, okV, sub, setc, buildC, bnd, resOf, resL, res1, xorB, take2L, take2, takeL, take1, appF, rowOf, elemOk, plain, pl1, isRow, cellB, srcOf, LIM, Option.some.injEq, exists_eq_left', exists_eq_left, Prod.mk.injEq, if_true, if_false, ite_true, ite_false, ne_eq, eq_self, reduceCtorEq, ↓reduceIte, Nat.reduceEqDiff, Nat.reduceAdd, Nat.reduceSub, Nat.reduceMul, Nat.reduceLT, Nat.reduceLeDiff, Nat.reduceBEq, Nat.reduceBNe, Nat.reduceMod, Nat.reduceDiv, Nat.reducePow, Int.reduceEq, Int.reduceLT, Int.reduceLE, Int.reduceNeg, Int.reduceAdd, Int.reduceSub, Int.reduceMul, Int.reduceToNat, Int.reduceBEq, Int.reduceBNe, unused, fpO, rdR, rdW, own1, ptr1, ownC, sepOk, compat, disj, offR, f_law36_head, h1, h2, h3, h4, e1, e2, hpl, w1, w2, w3, w4, eq_true h5', L_law36_ImageSizes_0_eq]
    refine L_sizes hb b.length S true (by omega) (by omega) ?_
    have key : ∀ m : Nat, m ≤ S → m ≤ b.length → ((allB (splitI b)).take S).take m = b.take m := fun m hm1 hm2 => by
      rw [split_flat hb, List.take_take, Nat.min_eq_left hm1, List.take_append, Nat.sub_eq_zero_of_le hm2, List.take_zero, List.append_nil]
    revert hxl key e2
    generalize (allB (splitI b)).take S = x
    intro e2 hxl key
    have hxl' : ((x.length : Nat) : Int) = (S : Int) := by rw [hxl]
    have s1 := fun (m : Nat) (hm1 : m ≤ S) (hm2 : m ≤ b.length) n1 g1 n2 g2 st K => f_ref36_Bytes (st := st) (K := K) (a := x.take m) (b := b.take m) (n1 := n1) (g1 := g1) (n2 := n2) (g2 := g2) (by rw [key m hm1 hm2, List.length_take]; omega)
    have s2 := fun (m : Nat) (hm1 : m ≤ S) (hm2 : m ≤ b.length) n1 g1 n2 g2 st K => (s1 m hm1 hm2 n1 g1 n2 g2 st K).trans (by rw [key m hm1 hm2, decide_eq_true rfl])
    by_cases hSb : S ≤ b.length
    · have s3 := s2 S (Nat.le_refl _) hSb
      have hSb' : ((S : Int) ≤ (b.length : Int)) = True := eq_true (by omega)
      have hSb2 : ¬ (b.length : Int) < (S : Int) := by omega
      simp only [bC, bW, bD, wpY', evR, evW, idx, ldc, okV, sub, setc, buildC, bnd, resOf, resL, res1, xorB, take2L, take2, takeL, take1, appF, rowOf, elemOk, plain, pl1, isRow, cellB, srcOf, LIM, Option.some.injEq, exists_eq_left', exists_eq_left, Prod.mk.injEq, if_true, if_false, ite_true, ite_false, ne_eq, eq_self, reduceCtorEq, ↓reduceIte, Nat.reduceEqDiff, Nat.reduceAdd, Nat.reduceSub, Nat.reduceMul, Nat.reduceLT, Nat.reduceLeDiff, Nat.reduceBEq, Nat.reduceBNe, Nat.reduceMod, Nat.reduceDiv, Nat.reducePow, Int.reduceEq, Int.reduceLT, Int.reduceLE, Int.reduceNeg, Int.reduceAdd, Int.reduceSub, Int.reduceMul, Int.reduceToNat, Int.reduceBEq, Int.reduceBNe, unused, fpO, rdR, rdW, own1, ptr1, ownC, sepOk, compat, disj, offR, hzz, hxl, hSb, hSb', hSb2, s3, b8_hd, Int.le_refl, Nat.le_refl, Int.ofNat_le, ← List.map_take]
    · have hSb3 : b.length ≤ S := by omega
      have s3 := s2 b.length hSb3 (Nat.le_refl _)
      simp only [List.take_length] at s3
      have hSb' : ¬ (S : Int) ≤ (b.length : Int) := by omega
      have hSb2 : ((b.length : Int) < (S : Int)) := by omega
      simp only [bC, bW, bD, wpY', evR, evW, idx, ldc, okV, sub, setc, buildC, bnd, resOf, resL, res1, xorB, take2L, take2, takeL, take1, appF, rowOf, elemOk, plain, pl1, isRow, cellB, srcOf, LIM, Option.some.injEq, exists_eq_left', exists_eq_left, Prod.mk.injEq, if_true, if_false, ite_true, ite_false, ne_eq, eq_self, reduceCtorEq, ↓reduceIte, Nat.reduceEqDiff, Nat.reduceAdd, Nat.reduceSub, Nat.reduceMul, Nat.reduceLT, Nat.reduceLeDiff, Nat.reduceBEq, Nat.reduceBNe, Nat.reduceMod, Nat.reduceDiv, Nat.reducePow, Int.reduceEq, Int.reduceLT, Int.reduceLE, Int.reduceNeg, Int.reduceAdd, Int.reduceSub, Int.reduceMul, Int.reduceToNat, Int.reduceBEq, Int.reduceBNe, unused, fpO, rdR, rdW, own1, ptr1, ownC, sepOk, compat, disj, offR, hzz, hxl, hSb, hSb', hSb2, hSb3, s3, b8_hd, Int.le_refl, Nat.le_refl, Int.ofNat_le, ← List.map_take]
end
end Go.Proofs.YtfmbdcmjgnikiaaDoor.Sm
namespace Go.Proofs.YtfmbdcmjgnikiaaDoor.Sm
open Go Go.RowKit

theorem g_ImageSizes {st : St} {ss : List SV} (h : argL [tB, tI] ss) : WpF XX .ro n_law36_ImageSizes ss st fun r _ => r = .bool true := by
  obtain ⟨_, _, rfl, a1, _, _, rfl, a2, rfl⟩ := h
  obtain ⟨b, nb, rfl, _, hb⟩ := arg_tB a1
  obtain ⟨x, rfl, _⟩ := arg_tI a2
  exact law_ImageSizes.2 rfl
end Go.Proofs.YtfmbdcmjgnikiaaDoor.Sm
