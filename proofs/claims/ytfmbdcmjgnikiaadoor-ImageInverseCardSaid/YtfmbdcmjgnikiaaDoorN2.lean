/- Programs and their pages: split and joined. Conditions: none (plain laws). Split and joined again. Conditions: none. ImageInverse for every argument. Conditions: none. -/
import Derived.Test.YtfmbdcmjgnikiaaDoorM10
import Derived.Test.YtfmbdcmjgnikiaaDoorM11
set_option linter.unusedSimpArgs false
set_option linter.unusedVariables false
namespace Go.Proofs.YtfmbdcmjgnikiaaDoor.Sm
open Go

theorem splitF_flat : ∀ (f : Nat) (b : List UInt8), b.length ≤ 256 * f → (splitF f b).flatten = b ++ List.replicate (256 * ((b.length + 255) / 256) - b.length) 0 ∧ (splitF f b).length = (b.length + 255) / 256
  | 0, b, h => by
    obtain rfl : b = [] := List.length_eq_zero_iff.1 (by omega)
    simp [splitF]
  | f + 1, b, h => by
    rw [splitF]
    by_cases h0 : b = []
    · subst h0; simp
    rw [if_neg h0]
    have hb : 0 < b.length := List.length_pos_iff.2 h0
    obtain ⟨h1, h2⟩ := splitF_flat f (b.drop 256) (by simp; omega)
    rw [List.flatten_cons, h1, List.length_cons, h2, List.length_drop]
    by_cases hl : b.length ≤ 256
    · have e1 : b.drop 256 = [] := List.drop_eq_nil_of_le hl
      have e2 : b.take 256 = b := List.take_of_length_le hl
      have e3 : (b.length + 255) / 256 = 1 := by omega
      rw [e1, e2, e3, pad]
      have e4 : b.length - 256 = 0 := by omega
      rw [e4]
      simp
    · have e1 : (b.length + 255) / 256 = (b.length - 256 + 255) / 256 + 1 := by omega
      have e2 : pad (b.take 256) = b.take 256 := by
        rw [pad, List.length_take, Nat.min_eq_left (by omega)]
        simp
      rw [e1, e2, ← List.append_assoc, List.take_append_drop]
      refine ⟨?_, rfl⟩
      rw [List.append_cancel_left_eq]; refine congrArg (fun n => List.replicate n 0) ?_
      omega
theorem splitF_inv : ∀ (f : Nat) (ps : List (List UInt8)) (size : Nat), (∀ p ∈ ps, p.length = 256) → ps.length ≤ f → (size + 255) / 256 = ps.length → allZ (ps.flatten.drop size) = true → splitF f (ps.flatten.take size) = ps
  | f, [], size, hp, hf, hs, hz => by
    obtain rfl : size = 0 := by simp at hs; omega
    cases f <;> simp [splitF]
  | 0, p :: ps, size, hp, hf, hs, hz => by simp at hf
  | f + 1, p :: ps, size, hp, hf, hs, hz => by
    have hp0 := hp p List.mem_cons_self
    rw [List.length_cons] at hs hf
    have hsz : 0 < size := by omega
    rw [List.flatten_cons] at hz ⊢
    rw [splitF, if_neg (by
      intro h
      have := congrArg List.length h
      rw [List.length_take, List.length_append, hp0] at this
      simp at this; omega)]
    by_cases hl : size ≤ 256
    · have hn : ps = [] := List.length_eq_zero_iff.1 (by omega)
      subst hn
      rw [List.flatten_nil, List.append_nil] at hz ⊢
      have e1 : (p.take size).drop 256 = [] := List.drop_eq_nil_of_le (by simp; omega)
      have e2 : (p.take size).take 256 = p.take size := List.take_of_length_le (by simp; omega)
      have e3 : splitF f [] = [] := by cases f <;> simp [splitF]
      rw [e1, e2, e3, pad]
      congr 1
      have e4 : p.drop size = List.replicate (256 - size) 0 := by
        refine List.eq_replicate_iff.2 ⟨by simp [hp0], fun c hc => ?_⟩
        simpa using List.all_eq_true.1 hz c hc
      have e5 : (p.take size).length = size := by rw [List.length_take]; omega
      rw [e5, ← e4, List.take_append_drop]
    · have e1 : (p ++ ps.flatten).take size = p ++ ps.flatten.take (size - 256) := by
        rw [List.take_append, List.take_of_length_le (by omega), hp0]
      have e2 : (p ++ ps.flatten).drop size = ps.flatten.drop (size - 256) := by
        rw [List.drop_append, List.drop_eq_nil_of_le (by omega), hp0, List.nil_append]
      rw [e2] at hz
      have e3 : (p ++ ps.flatten.take (size - 256)).take 256 = p := by
        rw [List.take_append, hp0, List.take_of_length_le (by omega)]; simp
      have e4 : (p ++ ps.flatten.take (size - 256)).drop 256 = ps.flatten.take (size - 256) := by
        rw [List.drop_append, hp0, List.drop_eq_nil_of_le (by omega)]; simp
      rw [e1, e3, e4, splitF_inv f ps (size - 256) (fun q hq => hp q (List.mem_cons_of_mem _ hq)) (by omega) (by omega) hz, pad, hp0]
      simp
theorem allB_inner (a : List By) : allB a = (inner a).flatten := by simp [allB, inner, List.flatMap_def]
theorem inner_pg (l : List (List UInt8)) : inner (l.map pgV) = l := by
  rw [inner, List.map_map]
  simp [Function.comp_def, pgV]
theorem allZ_rep (n : Nat) : allZ (List.replicate n 0) = true := by simp [allZ]
theorem paged_iff {a : List By} : pagedI a = true ↔ ∀ p ∈ a, p.xs.length = 256 := by
  constructor
  · intro h p hp
    simpa using List.all_eq_true.1 h p hp
  · intro h
    refine List.all_eq_true.2 fun p hp => ?_
    simpa using h p hp
theorem sized_iff {n : Int} : sizedI n = true ↔ 1 ≤ n ∧ n ≤ 4096 := by simp [sizedI]
theorem split_len {b : List UInt8} (h : b.length ≤ 4096) : (splitI b).length = (b.length + 255) / 256 := by
  rw [splitI, List.length_map, (splitF_flat 16 b (by omega)).2]
theorem split_flat {b : List UInt8} (h : b.length ≤ 4096) : allB (splitI b) = b ++ List.replicate (256 * ((b.length + 255) / 256) - b.length) 0 := by
  rw [allB_inner, splitI, inner_pg, (splitF_flat 16 b (by omega)).1]
theorem split_paged (b : List UInt8) : pagedI (splitI b) = true := paged_iff.2 fun p hp => ((split_pages b).2.1 p hp).1
/-- The pages of a program are joined to it. -/
theorem split_join {b : List UInt8} (h : sizedI b.length = true) : joinOK (splitI b) b.length = true ∧ allZ ((allB (splitI b)).drop ((b.length : Int)).toNat) = true ∧ (allB (splitI b)).take ((b.length : Int)).toNat = b := by
  have hs := sized_iff.1 h
  have hb : b.length ≤ 4096 := by omega
  rw [split_flat hb, Int.toNat_natCast, List.drop_left, List.take_left]
  refine ⟨?_, allZ_rep _, rfl⟩
  rw [joinOK, h, split_paged, Bool.true_and, Bool.and_true, decide_eq_true_eq, split_len hb, countI]
  omega
theorem join_parts {a : List By} {size : Int} (h : joinOK a size = true) : (1 ≤ size ∧ size ≤ 4096) ∧ (a.length : Int) = countI size ∧ ∀ p ∈ a, p.xs.length = 256 := by
  simp only [joinOK, Bool.and_eq_true, decide_eq_true_eq] at h
  exact ⟨sized_iff.1 h.1.1, h.1.2, paged_iff.1 h.2⟩
/-- What is joined has the pages. -/
theorem join_split {a : List By} {size : Int} (h : joinOK a size = true) (hz : allZ ((allB a).drop size.toNat) = true) : ((allB a).take size.toNat).length = size.toNat ∧ sizedI (((allB a).take size.toNat).length : Nat) = true ∧ inner (splitI ((allB a).take size.toNat)) = inner a := by
  obtain ⟨h1, h2, h3⟩ := join_parts h
  have hl := allB_len a h3
  unfold countI at h2
  have e : ((allB a).take size.toNat).length = size.toNat := by rw [List.length_take]; omega
  refine ⟨e, by rw [e]; exact sized_iff.2 (by omega), ?_⟩
  rw [splitI, inner_pg]
  rw [allB_inner] at hz ⊢
  refine splitF_inv 16 (inner a) size.toNat (fun p hp => ?_) (by simp [inner]; omega) (by simp [inner]; omega) hz
  obtain ⟨q, hq, rfl⟩ := List.mem_map.1 hp
  exact h3 q hq
end Go.Proofs.YtfmbdcmjgnikiaaDoor.Sm
namespace Go.Proofs.YtfmbdcmjgnikiaaDoor.Sm
open Go Go.RowKit
section
variable {st : St} {K : SV → St → Prop}
set_option maxHeartbeats 2000000 in
set_option maxRecDepth 100000 in
theorem law_ImageInverse {b : List UInt8} {nb gb : Bool} {a : List By} {n0 g0 : Bool} {size : Int} (hb : b.length < 4611686018427387904) (ha : a.length < 4611686018427387904) :
    WpF XX .ro n_law36_ImageInverse [.tree (b.map b8) nb gb, .tree (a.map By.v) n0 g0, .int .i64 size] st K ↔ K (.bool true) st := by
  rw [F_ro (mf := m_law36_ImageInverse) rfl rfl]
  cases hsh : shortI b a with
  | false => simp only [m_law36_ImageInverse, bC, bW, bD, wpY', evR, evW, idx, ldc, okV, sub, setc, buildC, bnd, resOf, resL, res1, xorB, take2L, take2, takeL, take1, appF, rowOf, elemOk, plain, pl1, isRow, cellB, srcOf, LIM, Option.some.injEq, exists_eq_left', exists_eq_left, Prod.mk.injEq, if_true, if_false, ite_true, ite_false, ne_eq, eq_self, reduceCtorEq, ↓reduceIte, Nat.reduceEqDiff, Nat.reduceAdd, Nat.reduceSub, Nat.reduceMul, Nat.reduceLT, Nat.reduceLeDiff, Nat.reduceBEq, Nat.reduceBNe, Nat.reduceMod, Nat.reduceDiv, Nat.reducePow, Int.reduceEq, Int.reduceLT, Int.reduceLE, Int.reduceNeg, Int.reduceAdd, Int.reduceSub, Int.reduceMul, Int.reduceToNat, Int.reduceBEq, Int.reduceBNe, unused, fpO, rdR, rdW, own1, ptr1, ownC, sepOk, compat, disj, offR, f_law36_head, f_law36_short ha, hsh]
  | true =>
  have hJ : (∃ e : Int, (e = 0) = False ∧ ∀ st K, WpF XX .ro n_image_Join [.tree (a.map By.v) n0 g0, .int .i64 size] st K ↔ K (.tup [.tree [] true true, .int .i64 e]) st) ∨
      (∃ (x : List UInt8) (l : List By), (∀ st K, WpF XX .ro n_image_Join [.tree (a.map By.v) n0 g0, .int .i64 size] st K ↔ K (.tup [.tree (x.map b8) false true, .int .i64 0]) st) ∧ (x.length : Int) = size ∧
        (∀ nl tg st K, WpF XX .ro n_image_Split [.tree (x.map b8) nl tg] st K ↔ K (.tup [.tree (l.map By.v) false false, .int .i64 0]) st) ∧ (∀ st K, WpF XX .ro n_ref36_Lists [.tree (l.map By.v) false false, .tree (a.map By.v) n0 g0] st K ↔ K (.bool true) st)) := by
    cases h1 : joinOK a size with
    | false => exact .inl ⟨1, by simp, fun st K => by rw [f_image_Join ha, h1]; rfl⟩
    | true =>
      cases h2 : allZ ((allB a).drop size.toNat) with
      | false => exact .inl ⟨12, by simp, fun st K => by rw [f_image_Join ha, h1, h2]; rfl⟩
      | true =>
        obtain ⟨k1, k2, k3⟩ := join_split h1 h2
        have k4 := (join_parts h1).1
        refine .inr ⟨_, _, fun st K => by rw [f_image_Join ha, h1, if_pos rfl, h2, if_pos rfl], by omega, fun nl tg st K => by rw [f_image_Split, k2, if_pos rfl], fun st K => ?_⟩
        have hp := split_pages ((allB a).take size.toNat)
        rw [f_ref36_Lists (by omega) (fun p hp' => by rw [(hp.2.1 p hp').1]; omega), k3]
        simp
  cases hs : sizedI b.length with
  | false =>
    have hle : ¬ ((1 : Int) ≤ b.length ∧ (b.length : Int) ≤ 4096) := by rw [← sized_iff, hs]; simp
    have e1 := fun st K => (f_image_Split (b := b) (nl := nb) (tg := gb) (st := st) (K := K))
    simp only [hs, Bool.false_eq_true, if_false] at e1
    by_cases hle1 : (1 : Int) ≤ b.length
    · have hle2 : ¬ (b.length : Int) ≤ 4096 := fun h => hle ⟨hle1, h⟩
      rcases hJ with ⟨e, he, hJ⟩ | ⟨x, l, hJ, hx, hSx, hL⟩
      · simp only [m_law36_ImageInverse, bC, bW, bD, wpY', evR, evW, idx, ldc, okV, sub, setc, buildC, bnd, resOf, resL, res1, xorB, take2L, take2, takeL, take1, appF, rowOf, elemOk, plain, pl1, isRow, cellB, srcOf, LIM, Option.some.injEq, exists_eq_left', exists_eq_left, Prod.mk.injEq, if_true, if_false, ite_true, ite_false, ne_eq, eq_self, reduceCtorEq, ↓reduceIte, Nat.reduceEqDiff, Nat.reduceAdd, Nat.reduceSub, Nat.reduceMul, Nat.reduceLT, Nat.reduceLeDiff, Nat.reduceBEq, Nat.reduceBNe, Nat.reduceMod, Nat.reduceDiv, Nat.reducePow, Int.reduceEq, Int.reduceLT, Int.reduceLE, Int.reduceNeg, Int.reduceAdd, Int.reduceSub, Int.reduceMul, Int.reduceToNat, Int.reduceBEq, Int.reduceBNe, unused, fpO, rdR, rdW, own1, ptr1, ownC, sepOk, compat, disj, offR, f_law36_head, f_law36_short ha, hsh, e1, hle1, hle2, hJ, he]
      · simp only [m_law36_ImageInverse, bC, bW, bD, wpY', evR, evW, idx, ldc, okV, sub, setc, buildC, bnd, resOf, resL, res1, xorB, take2L, take2, takeL, take1, appF, rowOf, elemOk, plain, pl1, isRow, cellB, srcOf, LIM, Option.some.injEq, exists_eq_left', exists_eq_left, Prod.mk.injEq, if_true, if_false, ite_true, ite_false, ne_eq, eq_self, reduceCtorEq, ↓reduceIte, Nat.reduceEqDiff, Nat.reduceAdd, Nat.reduceSub, Nat.reduceMul, Nat.reduceLT, Nat.reduceLeDiff, Nat.reduceBEq, Nat.reduceBNe, Nat.reduceMod, Nat.reduceDiv, Nat.reducePow, Int.reduceEq, Int.reduceLT, Int.reduceLE, Int.reduceNeg, Int.reduceAdd, Int.reduceSub, Int.reduceMul, Int.reduceToNat, Int.reduceBEq, Int.reduceBNe, unused, fpO, rdR, rdW, own1, ptr1, ownC, sepOk, compat, disj, offR, f_law36_head, f_law36_short ha, hsh, e1, hle1, hle2, hJ, hx, hSx, hL]
    · rcases hJ with ⟨e, he, hJ⟩ | ⟨x, l, hJ, hx, hSx, hL⟩
      · simp only [m_law36_ImageInverse, bC, bW, bD, wpY', evR, evW, idx, ldc, okV, sub, setc, buildC, bnd, resOf, resL, res1, xorB, take2L, take2, takeL, take1, appF, rowOf, elemOk, plain, pl1, isRow, cellB, srcOf, LIM, Option.some.injEq, exists_eq_left', exists_eq_left, Prod.mk.injEq, if_true, if_false, ite_true, ite_false, ne_eq, eq_self, reduceCtorEq, ↓reduceIte, Nat.reduceEqDiff, Nat.reduceAdd, Nat.reduceSub, Nat.reduceMul, Nat.reduceLT, Nat.reduceLeDiff, Nat.reduceBEq, Nat.reduceBNe, Nat.reduceMod, Nat.reduceDiv, Nat.reducePow, Int.reduceEq, Int.reduceLT, Int.reduceLE, Int.reduceNeg, Int.reduceAdd, Int.reduceSub, Int.reduceMul, Int.reduceToNat, Int.reduceBEq, Int.reduceBNe, unused, fpO, rdR, rdW, own1, ptr1, ownC, sepOk, compat, disj, offR, f_law36_head, f_law36_short ha, hsh, e1, hle1, hJ, he]
      · simp only [m_law36_ImageInverse, bC, bW, bD, wpY', evR, evW, idx, ldc, okV, sub, setc, buildC, bnd, resOf, resL, res1, xorB, take2L, take2, takeL, take1, appF, rowOf, elemOk, plain, pl1, isRow, cellB, srcOf, LIM, Option.some.injEq, exists_eq_left', exists_eq_left, Prod.mk.injEq, if_true, if_false, ite_true, ite_false, ne_eq, eq_self, reduceCtorEq, ↓reduceIte, Nat.reduceEqDiff, Nat.reduceAdd, Nat.reduceSub, Nat.reduceMul, Nat.reduceLT, Nat.reduceLeDiff, Nat.reduceBEq, Nat.reduceBNe, Nat.reduceMod, Nat.reduceDiv, Nat.reducePow, Int.reduceEq, Int.reduceLT, Int.reduceLE, Int.reduceNeg, Int.reduceAdd, Int.reduceSub, Int.reduceMul, Int.reduceToNat, Int.reduceBEq, Int.reduceBNe, unused, fpO, rdR, rdW, own1, ptr1, ownC, sepOk, compat, disj, offR, f_law36_head, f_law36_short ha, hsh, e1, hle1, hJ, hx, hSx, hL]
  | true =>
    obtain ⟨hle1, hle2⟩ := sized_iff.1 hs
    obtain ⟨j1, j2, j3⟩ := split_join hs
    have hp := split_pages b
    have e1 := fun st K => (f_image_Split (b := b) (nl := nb) (tg := gb) (st := st) (K := K))
    simp only [hs, if_true] at e1
    have e2 : ∀ st K, WpF XX .ro n_image_Join [.tree ((splitI b).map By.v) false false, .int .i64 b.length] st K ↔ K (.tup [.tree (b.map b8) false true, .int .i64 0]) st := fun st K => by
      rw [f_image_Join (by omega), j1, if_pos rfl, j2, if_pos rfl, j3]
    have e3 := fun st K => f_ref36_Bytes (st := st) (K := K) (a := b) (b := b) (n1 := false) (g1 := true) (n2 := nb) (g2 := gb) hb
    simp only [decide_true] at e3
    rcases hJ with ⟨e, he, hJ⟩ | ⟨x, l, hJ, hx, hSx, hL⟩
    · simp only [m_law36_ImageInverse, bC, bW, bD, wpY', evR, evW, idx, ldc, okV, sub, setc, buildC, bnd, resOf, resL, res1, xorB, take2L, take2, takeL, take1, appF, rowOf, elemOk, plain, pl1, isRow, cellB, srcOf, LIM, Option.some.injEq, exists_eq_left', exists_eq_left, Prod.mk.injEq, if_true, if_false, ite_true, ite_false, ne_eq, eq_self, reduceCtorEq, ↓reduceIte, Nat.reduceEqDiff, Nat.reduceAdd, Nat.reduceSub, Nat.reduceMul, Nat.reduceLT, Nat.reduceLeDiff, Nat.reduceBEq, Nat.reduceBNe, Nat.reduceMod, Nat.reduceDiv, Nat.reducePow, Int.reduceEq, Int.reduceLT, Int.reduceLE, Int.reduceNeg, Int.reduceAdd, Int.reduceSub, Int.reduceMul, Int.reduceToNat, Int.reduceBEq, Int.reduceBNe, unused, fpO, rdR, rdW, own1, ptr1, ownC, sepOk, compat, disj, offR, f_law36_head, f_law36_short ha, hsh, e1, e2, e3, hle1, hle2, hJ, he]
    · simp only [m_law36_ImageInverse, bC, bW, bD, wpY', evR, evW, idx, ldc, okV, sub, setc, buildC, bnd, resOf, resL, res1, xorB, take2L, take2, takeL, take1, appF, rowOf, elemOk, plain, pl1, isRow, cellB, srcOf, LIM, Option.some.injEq, exists_eq_left', exists_eq_left, Prod.mk.injEq, if_true, if_false, ite_true, ite_false, ne_eq, eq_self, reduceCtorEq, ↓reduceIte, Nat.reduceEqDiff, Nat.reduceAdd, Nat.reduceSub, Nat.reduceMul, Nat.reduceLT, Nat.reduceLeDiff, Nat.reduceBEq, Nat.reduceBNe, Nat.reduceMod, Nat.reduceDiv, Nat.reducePow, Int.reduceEq, Int.reduceLT, Int.reduceLE, Int.reduceNeg, Int.reduceAdd, Int.reduceSub, Int.reduceMul, Int.reduceToNat, Int.reduceBEq, Int.reduceBNe, unused, fpO, rdR, rdW, own1, ptr1, ownC, sepOk, compat, disj, offR, f_law36_head, f_law36_short ha, hsh, e1, e2, e3, hle1, hle2, hJ, hx, hSx, hL]
end
end Go.Proofs.YtfmbdcmjgnikiaaDoor.Sm
namespace Go.Proofs.YtfmbdcmjgnikiaaDoor.Sm
open Go Go.RowKit

theorem g_ImageInverse {st : St} {ss : List SV} (h : argL [tB, tBB, tI] ss) : WpF XX .ro n_law36_ImageInverse ss st fun r _ => r = .bool true := by
  obtain ⟨_, _, rfl, a1, _, _, rfl, a2, _, _, rfl, a3, rfl⟩ := h
  obtain ⟨b, nb, rfl, _, hb⟩ := arg_tB a1
  obtain ⟨a, n0, rfl, _, ha, _⟩ := arg_tBB a2
  obtain ⟨x, rfl, _⟩ := arg_tI a3
  exact (law_ImageInverse (by omega) (by omega)).2 rfl
end Go.Proofs.YtfmbdcmjgnikiaaDoor.Sm
