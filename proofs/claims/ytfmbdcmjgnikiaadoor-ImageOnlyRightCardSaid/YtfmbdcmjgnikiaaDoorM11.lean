/- The image layer against its reference. Conditions: none. Kinds of data, as the laws' own terms have them. Conditions: none. The laws for every argument. Conditions: none. -/
import Derived.Test.YtfmbdcmjgnikiaaDoorM10
import Derived.Test.YtfmbdcmjgnikiaaDoorM4
set_option linter.unusedSimpArgs false
set_option linter.unusedVariables false
namespace Go.Proofs.YtfmbdcmjgnikiaaDoor.Sm
open Go Go.RowKit

theorem inner_clone {α : Type} (l : List (Sl α)) : inner (l.map cloneB) = inner l := by simp [inner, cloneB]
theorem inner_ref {α : Type} (l : List (Sl α)) : inner (l.map refB) = inner l := by simp [inner, refB]
structure FewOK (pages : List By) (proofs : List (Sl Int)) (rows : List Rw) (proof : List Int) : Prop where
  l1 : pages.length ≤ 20
  l2 : proofs.length ≤ 20
  l3 : rows.length ≤ 40
  l4 : proof.length ≤ 40
  s1 : ∀ p ∈ pages, p.xs.length ≤ 1000
  s2 : ∀ p ∈ proofs, p.xs.length ≤ 40
  s3 : ∀ p ∈ rows, p.data.xs.length ≤ 100
theorem few_ok {pages : List By} {proofs : List (Sl Int)} {rows : List Rw} {proof : List Int} (h : fewI pages proofs rows proof = true) : FewOK pages proofs rows proof := by
  simp only [fewI, Bool.and_eq_true, decide_eq_true_eq, List.all_eq_true] at h
  obtain ⟨⟨⟨⟨⟨⟨h1, h2⟩, h3⟩, h4⟩, h5⟩, h6⟩, h7⟩ := h
  exact ⟨h1, h2, h3, h4, h5, h6, h7⟩
/-- What a state is, apart from its bounds. -/
structure SpIn (pages : List By) (n1 : Bool) (proofs : List (Sl Int)) (n2 : Bool) : Prop where
  hp : ∀ p ∈ pages, p.ok
  hq : ∀ q ∈ proofs, q.ok
  n1 : n1 = true → pages = []
  n2 : n2 = true → proofs = []
theorem FewOK.sp {pages : List By} {n1 : Bool} {proofs : List (Sl Int)} {n2 : Bool} {rows : List Rw} {proof : List Int} (F : FewOK pages proofs rows proof) (H : SpIn pages n1 proofs n2) : SpOK pages n1 proofs n2 :=
  ⟨by have := F.l1; omega, by have := F.l2; omega, H.hp, fun q hq => ⟨by have := F.s2 q hq; omega, H.hq q hq⟩, H.n1, H.n2⟩

section
variable {st : St} {K : SV → St → Prop}
theorem split_pair (b : List UInt8) (nl tg : Bool) : ∃ (l : List By) (n g : Bool) (e : Int), (l.length ≤ 16 ∧ ∀ p ∈ l, p.xs.length = 256) ∧
    (∀ st K, WpF XX .ro n_image_Split [.tree (b.map b8) nl tg] st K ↔ K (.tup [.tree (l.map By.v) n g, .int .i64 e]) st) ∧
    (∀ st K, WpF XX .ro n_ref36_Split [.tree (b.map b8) nl tg] st K ↔ K (.tup [.tree (l.map By.v) n g, .int .i64 e]) st) := by
  cases h : sizedI b.length with
  | true => exact ⟨splitI b, false, false, 0, ⟨(split_pages b).1, fun p hp => ((split_pages b).2.1 p hp).1⟩, fun st K => by rw [f_image_Split, h, if_pos rfl], fun st K => by rw [f_ref36_Split, h, if_pos rfl]⟩
  | false => exact ⟨[], true, true, 1, ⟨by simp, by simp⟩, fun st K => by rw [f_image_Split, h]; rfl, fun st K => by rw [f_ref36_Split, h]; rfl⟩
theorem join_pair {a : List By} {n1 g1 : Bool} {size : Int} (ha : a.length ≤ 20) : ∃ (x : List UInt8) (n g g' : Bool) (e : Int), x.length ≤ 5000 ∧
    (∀ st K, WpF XX .ro n_image_Join [.tree (a.map By.v) n1 g1, .int .i64 size] st K ↔ K (.tup [.tree (x.map b8) n g, .int .i64 e]) st) ∧
    (∀ st K, WpF XX .ro n_ref36_Join [.tree (a.map By.v) n1 g1, .int .i64 size] st K ↔ K (.tup [.tree (x.map b8) n g', .int .i64 e]) st) := by
  have h0 : a.length < 4611686018427387904 := by omega
  cases h1 : joinOK a size with
  | false => exact ⟨[], true, true, true, 1, by simp, fun st K => by rw [f_image_Join h0, h1]; rfl, fun st K => by rw [f_ref36_Join h0, h1]; rfl⟩
  | true =>
    cases h2 : allZ ((allB a).drop size.toNat) with
    | false => exact ⟨[], true, true, true, 12, by simp, fun st K => by rw [f_image_Join h0, h1, h2]; rfl, fun st K => by rw [f_ref36_Join h0, h1, h2]; rfl⟩
    | true =>
      refine ⟨(allB a).take size.toNat, false, true, false, 0, ?_, fun st K => by rw [f_image_Join h0, h1, h2]; rfl, fun st K => by rw [f_ref36_Join h0, h1, h2]; rfl⟩
      simp only [joinOK, sizedI, Bool.and_eq_true, decide_eq_true_eq] at h1
      rw [List.length_take]
      omega
theorem ann_pair (ver start : Int) (b : List UInt8) (nl tg : Bool) : ∃ (w s d t e : Int),
    (∀ st K, WpF XX .ro n_image_Announce [.int .i64 ver, .tree (b.map b8) nl tg, .int .i64 start] st K ↔ K (.tup [.agg [.int .i64 w, .int .i64 s, .int .u64 d, .int .i64 t], .int .i64 e]) st) ∧
    (∀ st K, WpF XX .ro n_ref36_Announce [.int .i64 ver, .tree (b.map b8) nl tg, .int .i64 start] st K ↔ K (.tup [.agg [.int .i64 w, .int .i64 s, .int .u64 d, .int .i64 t], .int .i64 e]) st) := by
  cases h : noticeI ver b.length start with
  | true => exact ⟨ver, b.length, rootI (splitI b), start, 0, fun st K => by rw [f_image_Announce, h, if_pos rfl], fun st K => by rw [f_ref36_Announce, h, if_pos rfl]⟩
  | false => exact ⟨0, 0, 0, 0, 1, fun st K => by rw [f_image_Announce, h]; rfl, fun st K => by rw [f_ref36_Announce, h]; rfl⟩
theorem whole_pair {ver size dg start : Int} {pages : List By} {n1 g1 : Bool} {proofs : List (Sl Int)} {n2 g2 : Bool} {rows : List Rw} {n3 g3 : Bool} {proof : List Int} {n4 g4 : Bool} {iv bg fi ct sd : Int} (H : SpOK pages n1 proofs n2) : ∃ (x : List UInt8) (n g g' f : Bool), x.length ≤ 5000 ∧
    (∀ st K, WpF XX .ro n_image_Whole [.agg [.int .i64 ver, .int .i64 size, .int .u64 dg, .int .i64 start, .tree (pages.map By.v) n1 g1, .tree (proofs.map (Sl.v uV)) n2 g2, .tree (rows.map Rw.v) n3 g3, .tree (proof.map uV) n4 g4, .int .i64 iv, .int .i64 bg, .int .i64 fi, .int .i64 ct, .int .i64 sd]] st K ↔ K (.tup [.tree (x.map b8) n g, .bool f]) st) ∧
    (∀ st K, WpF XX .ro n_ref36_Whole [.agg [.int .i64 ver, .int .i64 size, .int .u64 dg, .int .i64 start, .tree (pages.map By.v) n1 g1, .tree (proofs.map (Sl.v uV)) n2 g2, .tree (rows.map Rw.v) n3 g3, .tree (proof.map uV) n4 g4, .int .i64 iv, .int .i64 bg, .int .i64 fi, .int .i64 ct, .int .i64 sd]] st K ↔ K (.tup [.tree (x.map b8) n g', .bool f]) st) := by
  by_cases h : soundI ver size dg start pages proofs = true ∧ joinOK pages size = true ∧ allZ ((allB pages).drop size.toNat) = true
  · refine ⟨(allB pages).take size.toNat, false, true, false, true, ?_, fun st K => by rw [f_image_Whole H, if_pos h], fun st K => by rw [f_ref36_Whole H, if_pos h]⟩
    have h1 := h.2.1
    simp only [joinOK, sizedI, Bool.and_eq_true, decide_eq_true_eq] at h1
    rw [List.length_take]
    omega
  · exact ⟨[], true, true, true, false, by simp, fun st K => by rw [f_image_Whole H, if_neg h]; rfl, fun st K => by rw [f_ref36_Whole H, if_neg h]; rfl⟩
theorem put_pair {ver size dg start : Int} {pages : List By} {n1 g1 : Bool} {proofs : List (Sl Int)} {n2 g2 : Bool} {rows : List Rw} {n3 g3 : Bool} {proof : List Int} {n4 g4 : Bool} {iv bg fi ct sd : Int} {page : List UInt8} {n5 g5 : Bool} {pf : List Int} {n6 g6 : Bool} (F : FewOK pages proofs rows proof) (H : SpIn pages n1 proofs n2) (hpg : page.length ≤ 1000) (h5 : n5 = true → page = []) (hpf : pf.length ≤ 40) (h6 : n6 = true → pf = []) :
    ∃ (a0 a1 a2 a3 a4 a5 a6 a7 a8 e : Int) (ps ps' : List By) (qs qs' : List (Sl Int)) (n : Bool),
    (inner ps = inner ps' ∧ inner qs = inner qs' ∧ ps.length ≤ 21 ∧ qs.length ≤ 21 ∧ (∀ p ∈ ps, p.xs.length ≤ 1000) ∧ (∀ q ∈ qs, q.xs.length ≤ 40)) ∧
    (∀ st K, WpF XX .ro n_image_Put [.agg [.int .i64 ver, .int .i64 size, .int .u64 dg, .int .i64 start, .tree (pages.map By.v) n1 g1, .tree (proofs.map (Sl.v uV)) n2 g2, .tree (rows.map Rw.v) n3 g3, .tree (proof.map uV) n4 g4, .int .i64 iv, .int .i64 bg, .int .i64 fi, .int .i64 ct, .int .i64 sd], .tree (page.map b8) n5 g5, .tree (pf.map uV) n6 g6] st K ↔ K (.tup [.agg [.int .i64 a0, .int .i64 a1, .int .u64 a2, .int .i64 a3, .tree (ps.map By.v) n n, .tree (qs.map (Sl.v uV)) n n, .tree [] true true, .tree [] true true, .int .i64 a4, .int .i64 a5, .int .i64 a6, .int .i64 a7, .int .i64 a8], .int .i64 e]) st) ∧
    (∀ st K, WpF XX .ro n_ref36_Put [.agg [.int .i64 ver, .int .i64 size, .int .u64 dg, .int .i64 start, .tree (pages.map By.v) n1 g1, .tree (proofs.map (Sl.v uV)) n2 g2, .tree (rows.map Rw.v) n3 g3, .tree (proof.map uV) n4 g4, .int .i64 iv, .int .i64 bg, .int .i64 fi, .int .i64 ct, .int .i64 sd], .tree (page.map b8) n5 g5, .tree (pf.map uV) n6 g6] st K ↔ K (.tup [.agg [.int .i64 a0, .int .i64 a1, .int .u64 a2, .int .i64 a3, .tree (ps'.map By.v) n n, .tree (qs'.map (Sl.v uV)) n n, .tree [] true true, .tree [] true true, .int .i64 a4, .int .i64 a5, .int .i64 a6, .int .i64 a7, .int .i64 a8], .int .i64 e]) st) := by
  have S := F.sp H
  have i1 : page.length < 1152921504606846976 := by omega
  have i2 : pf.length ≤ 4294967296 := by omega
  by_cases h1 : soundI ver size dg start pages proofs = false ∨ page.length ≠ 256
  · exact ⟨0, 0, 0, 0, 0, 0, 0, 0, 0, 1, [], [], [], [], true, ⟨rfl, rfl, by simp, by simp, by simp, by simp⟩, fun st K => by rw [f_image_Put S i1 h5 i2 h6, if_pos h1]; rfl, fun st K => by rw [f_ref36_Put S i1 i2, if_pos h1]; rfl⟩
  by_cases h2 : (pages.length : Int) = countI size
  · exact ⟨0, 0, 0, 0, 0, 0, 0, 0, 0, 10, [], [], [], [], true, ⟨rfl, rfl, by simp, by simp, by simp, by simp⟩, fun st K => by rw [f_image_Put S i1 h5 i2 h6, if_neg h1, if_pos h2]; rfl, fun st K => by rw [f_ref36_Put S i1 i2, if_neg h1, if_pos h2]; rfl⟩
  by_cases h3 : checkI dg (countI size) pages.length page pf = false
  · exact ⟨0, 0, 0, 0, 0, 0, 0, 0, 0, 12, [], [], [], [], true, ⟨rfl, rfl, by simp, by simp, by simp, by simp⟩, fun st K => by rw [f_image_Put S i1 h5 i2 h6, if_neg h1, if_neg h2, if_pos h3]; rfl, fun st K => by rw [f_ref36_Put S i1 i2, if_neg h1, if_neg h2, if_pos h3]; rfl⟩
  refine ⟨ver, size, dg, start, iv, bg, fi, ct, sd, 0, _, _, _, _, false, ⟨?_, ?_, ?_, ?_, ?_, ?_⟩, fun st K => by rw [f_image_Put S i1 h5 i2 h6, if_neg h1, if_neg h2, if_neg h3], fun st K => by rw [f_ref36_Put S i1 i2, if_neg h1, if_neg h2, if_neg h3]⟩
  · rw [inner_clone, inner_ref]
  · rw [inner_clone, inner_ref]
  · have := F.l1; simp; omega
  · have := F.l2; simp; omega
  · intro p hp
    simp only [List.mem_map, List.mem_append, List.mem_singleton] at hp
    obtain ⟨q, hq | rfl, rfl⟩ := hp
    · exact F.s1 q hq
    · exact hpg
  · intro p hp
    simp only [List.mem_map, List.mem_append, List.mem_singleton] at hp
    obtain ⟨q, hq | rfl, rfl⟩ := hp
    · exact F.s2 q hq
    · exact hpf
set_option maxHeartbeats 2000000 in
set_option maxRecDepth 100000 in
theorem law_ImageMatchesReference {b : List UInt8} {nb gb : Bool} {a : List By} {n0 g0 : Bool} {jsize jver jstart : Int} {ver size dg start : Int} {pages : List By} {n1 g1 : Bool} {proofs : List (Sl Int)} {n2 g2 : Bool} {rows : List Rw} {n3 g3 : Bool} {proof : List Int} {n4 g4 : Bool} {iv bg fi ct sd : Int} {page : List UInt8} {n5 g5 : Bool} {pf : List Int} {n6 g6 : Bool}
    (ha : a.length < 4611686018427387904) (H : SpIn pages n1 proofs n2) (h5 : n5 = true → page = []) (h6 : n6 = true → pf = []) :
    WpF XX .ro n_law36_ImageMatchesReference [.tree (b.map b8) nb gb, .tree (a.map By.v) n0 g0, .int .i64 jsize, .int .i64 jver, .int .i64 jstart, .agg [.int .i64 ver, .int .i64 size, .int .u64 dg, .int .i64 start, .tree (pages.map By.v) n1 g1, .tree (proofs.map (Sl.v uV)) n2 g2, .tree (rows.map Rw.v) n3 g3, .tree (proof.map uV) n4 g4, .int .i64 iv, .int .i64 bg, .int .i64 fi, .int .i64 ct, .int .i64 sd], .tree (page.map b8) n5 g5, .tree (pf.map uV) n6 g6] st K ↔ K (.bool true) st := by
  rw [F_ro (mf := m_law36_ImageMatchesReference) rfl rfl]
  cases hsh : shortI b a with
  | false => simp only [m_law36_ImageMatchesReference, bC, bW, bD, wpY', evR, evW, idx, ldc, okV, sub, setc, buildC, bnd, resOf, resL, res1, xorB, take2L, take2, takeL, take1, appF, rowOf, elemOk, plain, pl1, isRow, cellB, srcOf, LIM, Option.some.injEq, exists_eq_left', exists_eq_left, Prod.mk.injEq, if_true, if_false, ite_true, ite_false, ne_eq, eq_self, reduceCtorEq, ↓reduceIte, Nat.reduceEqDiff, Nat.reduceAdd, Nat.reduceSub, Nat.reduceMul, Nat.reduceLT, Nat.reduceLeDiff, Nat.reduceBEq, Nat.reduceBNe, Nat.reduceMod, Nat.reduceDiv, Nat.reducePow, Int.reduceEq, Int.reduceLT, Int.reduceLE, Int.reduceNeg, Int.reduceAdd, Int.reduceSub, Int.reduceMul, Int.reduceToNat, Int.reduceBEq, Int.reduceBNe, unused, fpO, rdR, rdW, own1, ptr1, ownC, sepOk, compat, disj, offR, f_law36_head, f_law36_short ha, hsh]
  | true =>
  cases hfe : fewI pages proofs rows proof with
  | false => simp only [m_law36_ImageMatchesReference, bC, bW, bD, wpY', evR, evW, idx, ldc, okV, sub, setc, buildC, bnd, resOf, resL, res1, xorB, take2L, take2, takeL, take1, appF, rowOf, elemOk, plain, pl1, isRow, cellB, srcOf, LIM, Option.some.injEq, exists_eq_left', exists_eq_left, Prod.mk.injEq, if_true, if_false, ite_true, ite_false, ne_eq, eq_self, reduceCtorEq, ↓reduceIte, Nat.reduceEqDiff, Nat.reduceAdd, Nat.reduceSub, Nat.reduceMul, Nat.reduceLT, Nat.reduceLeDiff, Nat.reduceBEq, Nat.reduceBNe, Nat.reduceMod, Nat.reduceDiv, Nat.reducePow, Int.reduceEq, Int.reduceLT, Int.reduceLE, Int.reduceNeg, Int.reduceAdd, Int.reduceSub, Int.reduceMul, Int.reduceToNat, Int.reduceBEq, Int.reduceBNe, unused, fpO, rdR, rdW, own1, ptr1, ownC, sepOk, compat, disj, offR, f_law36_head, f_law36_short ha, hsh, f_ref36_Few, hfe]
  | true =>
  by_cases hpg : page.length ≤ 1000
  case neg =>
    have hpg' : (1000 : Int) < page.length := by omega
    simp only [m_law36_ImageMatchesReference, bC, bW, bD, wpY', evR, evW, idx, ldc, okV, sub, setc, buildC, bnd, resOf, resL, res1, xorB, take2L, take2, takeL, take1, appF, rowOf, elemOk, plain, pl1, isRow, cellB, srcOf, LIM, Option.some.injEq, exists_eq_left', exists_eq_left, Prod.mk.injEq, if_true, if_false, ite_true, ite_false, ne_eq, eq_self, reduceCtorEq, ↓reduceIte, Nat.reduceEqDiff, Nat.reduceAdd, Nat.reduceSub, Nat.reduceMul, Nat.reduceLT, Nat.reduceLeDiff, Nat.reduceBEq, Nat.reduceBNe, Nat.reduceMod, Nat.reduceDiv, Nat.reducePow, Int.reduceEq, Int.reduceLT, Int.reduceLE, Int.reduceNeg, Int.reduceAdd, Int.reduceSub, Int.reduceMul, Int.reduceToNat, Int.reduceBEq, Int.reduceBNe, unused, fpO, rdR, rdW, own1, ptr1, ownC, sepOk, compat, disj, offR, f_law36_head, f_law36_short ha, hsh, f_ref36_Few, hfe, hpg']
  have hpg' : ¬ (1000 : Int) < page.length := by omega
  by_cases hpf : pf.length ≤ 40
  case neg =>
    have hpf' : (40 : Int) < pf.length := by omega
    simp only [m_law36_ImageMatchesReference, bC, bW, bD, wpY', evR, evW, idx, ldc, okV, sub, setc, buildC, bnd, resOf, resL, res1, xorB, take2L, take2, takeL, take1, appF, rowOf, elemOk, plain, pl1, isRow, cellB, srcOf, LIM, Option.some.injEq, exists_eq_left', exists_eq_left, Prod.mk.injEq, if_true, if_false, ite_true, ite_false, ne_eq, eq_self, reduceCtorEq, ↓reduceIte, Nat.reduceEqDiff, Nat.reduceAdd, Nat.reduceSub, Nat.reduceMul, Nat.reduceLT, Nat.reduceLeDiff, Nat.reduceBEq, Nat.reduceBNe, Nat.reduceMod, Nat.reduceDiv, Nat.reducePow, Int.reduceEq, Int.reduceLT, Int.reduceLE, Int.reduceNeg, Int.reduceAdd, Int.reduceSub, Int.reduceMul, Int.reduceToNat, Int.reduceBEq, Int.reduceBNe, unused, fpO, rdR, rdW, own1, ptr1, ownC, sepOk, compat, disj, offR, f_law36_head, f_law36_short ha, hsh, f_ref36_Few, hfe, hpg', hpf']
  have hpf' : ¬ (40 : Int) < pf.length := by omega
  have F := few_ok hfe
  have hsh' := hsh
  simp only [shortI, Bool.and_eq_true, decide_eq_true_eq, List.all_eq_true] at hsh'
  obtain ⟨l, sn, sg, se, ⟨sl1, sl2⟩, s1, s2⟩ := split_pair b nb gb
  obtain ⟨x, jn, jg, jg', je, jl, j1, j2⟩ := join_pair (n1 := n0) (g1 := g0) (size := jsize) hsh'.2
  obtain ⟨av1, av2, av3, av4, ae, a1, a2⟩ := ann_pair jver jstart b nb gb
  obtain ⟨p0, p1, p2, p3, p4, p5, p6, p7, p8, pe, ps, ps', qs, qs', pn, ⟨pi1, pi2, pl1, pl2, pl3, pl4⟩, pp1, pp2⟩ := put_pair (ver := ver) (size := size) (dg := dg) (start := start) (pages := pages) (n1 := n1) (g1 := g1) (proofs := proofs) (n2 := n2) (g2 := g2) (rows := rows) (n3 := n3) (g3 := g3) (proof := proof) (n4 := n4) (g4 := g4) (iv := iv) (bg := bg) (fi := fi) (ct := ct) (sd := sd) (g5 := g5) (g6 := g6) F H hpg h5 hpf h6
  obtain ⟨y, wn, wg, wg', wf, wl, w1, w2⟩ := whole_pair (ver := ver) (size := size) (dg := dg) (start := start) (pages := pages) (n1 := n1) (g1 := g1) (proofs := proofs) (n2 := n2) (g2 := g2) (rows := rows) (n3 := n3) (g3 := g3) (proof := proof) (n4 := n4) (g4 := g4) (iv := iv) (bg := bg) (fi := fi) (ct := ct) (sd := sd) (F.sp H)
  have B : SpBnd ps qs [] [] := ⟨by omega, by omega, by simp, by simp, fun p hp => by have := pl3 p hp; omega, fun p hp => by have := pl4 p hp; omega, by simp⟩
  have hs := fun st K => f_ref36_Same (st := st) (K := K) (ver := p0) (size := p1) (dg := p2) (start := p3) (n1 := pn) (g1 := pn) (n2 := pn) (g2 := pn) (n3 := true) (g3 := true) (n4 := true) (g4 := true) (iv := p4) (bg := p5) (fi := p6) (ct := p7) (sd := p8) (ver' := p0) (size' := p1) (dg' := p2) (start' := p3) (pages' := ps') (n1' := pn) (g1' := pn) (proofs' := qs') (n2' := pn) (g2' := pn) (rows' := []) (n3' := true) (g3' := true) (proof' := []) (n4' := true) (g4' := true) (iv' := p4) (bg' := p5) (fi' := p6) (ct' := p7) (sd' := p8) B
  simp only [List.map_nil, pi1, pi2, and_self, decide_true] at hs
  have hl := fun st K => f_ref36_Lists (st := st) (K := K) (a := l) (b := l) (n1 := sn) (g1 := sg) (n2 := sn) (g2 := sg) (by omega) (fun p hp => by have := sl2 p hp; omega)
  simp only [decide_true] at hl
  have hx := fun st K => f_ref36_Bytes (st := st) (K := K) (a := x) (b := x) (n1 := jn) (g1 := jg) (n2 := jn) (g2 := jg') (by omega)
  simp only [decide_true] at hx
  have hy := fun st K => f_ref36_Bytes (st := st) (K := K) (a := y) (b := y) (n1 := wn) (g1 := wg) (n2 := wn) (g2 := wg') (by omega)
  simp only [decide_true] at hy
  simp only [m_law36_ImageMatchesReference, bC, bW, bD, wpY', evR, evW, idx, ldc, okV, sub, setc, buildC, bnd, resOf, resL, res1, xorB, take2L, take2, takeL, take1, appF, rowOf, elemOk, plain, pl1, isRow, cellB, srcOf, LIM, Option.some.injEq, exists_eq_left', exists_eq_left, Prod.mk.injEq, if_true, if_false, ite_true, ite_false, ne_eq, eq_self, reduceCtorEq, ↓reduceIte, Nat.reduceEqDiff, Nat.reduceAdd, Nat.reduceSub, Nat.reduceMul, Nat.reduceLT, Nat.reduceLeDiff, Nat.reduceBEq, Nat.reduceBNe, Nat.reduceMod, Nat.reduceDiv, Nat.reducePow, Int.reduceEq, Int.reduceLT, Int.reduceLE, Int.reduceNeg, Int.reduceAdd, Int.reduceSub, Int.reduceMul, Int.reduceToNat, Int.reduceBEq, Int.reduceBNe, unused, fpO, rdR, rdW, own1, ptr1, ownC, sepOk, compat, disj, offR, f_law36_head, f_law36_short ha, hsh, f_ref36_Few, hfe, hpg', hpf', s1, s2, j1, j2, a1, a2, pp1, pp2, w1, w2, hs, hl, hx, hy]
end
end Go.Proofs.YtfmbdcmjgnikiaaDoor.Sm
namespace Go.Proofs.YtfmbdcmjgnikiaaDoor.Sm
open Go Go.RowKit

def tI : TD := .int .i64
def tB : TD := .sl (.int .u8)
def tBB : TD := .sl tB
def tU : TD := .sl (.int .u64)
def tUU : TD := .sl tU
def tR : TD := .sl (.st [.int .i64, tB])
def tS : TD := .st [.st [.int .i64, .int .i64, .int .u64, .int .i64], tBB, tUU, tR, tU, .st [.int .i64, .int .i64, .int .i64, .int .i64, .int .i64]]

theorem lift {α : Type} {f : α → SV} {p : α → Prop} : ∀ {xs : List SV}, (∀ x ∈ xs, ∃ a, x = f a ∧ p a) → ∃ l : List α, xs = l.map f ∧ ∀ a ∈ l, p a
  | [], _ => ⟨[], rfl, by simp⟩
  | x :: xs, h => by
    obtain ⟨a, rfl, ha⟩ := h x List.mem_cons_self
    obtain ⟨l, rfl, hl⟩ := lift fun y hy => h y (List.mem_cons_of_mem _ hy)
    exact ⟨a :: l, rfl, fun b hb => by rcases List.mem_cons.1 hb with rfl | hb; exact ha; exact hl b hb⟩
theorem wf_u8 {n : Int} (h : (Lit.int .u8 n).wf = true) : ∃ c : UInt8, SV.int .u8 n = b8 c := by
  simp only [Lit.wf, IntKind.min, IntKind.max, IntKind.signed, IntKind.bits, Bool.and_eq_true, decide_eq_true_eq] at h
  have h1 : 0 ≤ n ∧ n < 256 := by simp at h; omega
  refine ⟨UInt8.ofNat n.toNat, ?_⟩
  have : (UInt8.ofNat n.toNat).toNat = n.toNat := by
    rw [UInt8.toNat_ofNat']
    omega
  rw [b8, this]
  congr 1
  omega
theorem wf_u64 {n : Int} (h : (Lit.int .u64 n).wf = true) : InR n := by
  simp only [Lit.wf, IntKind.min, IntKind.max, IntKind.signed, IntKind.bits, Bool.and_eq_true, decide_eq_true_eq] at h
  simp at h
  exact ⟨by omega, by omega⟩
theorem wf_i64 {n : Int} (h : (Lit.int .i64 n).wf = true) : -9223372036854775808 ≤ n ∧ n < 9223372036854775808 := by
  simp only [Lit.wf, IntKind.min, IntKind.max, IntKind.signed, IntKind.bits, Bool.and_eq_true, decide_eq_true_eq] at h
  simp at h
  exact ⟨by omega, by omega⟩
def MX : Nat := 140737488351232
theorem enc_tB {ys : List SV} (h : tB.enc ys) : ∃ b : By, ys = [b.v] ∧ b.ok ∧ b.xs.length ≤ 140737488351232 ∧ b.tg = false := by
  obtain ⟨xs, nl, rfl, hl, hn, hx⟩ := h
  obtain ⟨l, rfl, _⟩ := lift (f := b8) (p := fun _ => True) fun x hx' => by
    obtain ⟨zs, ⟨n, rfl, hw⟩, rfl⟩ := hx x hx'
    obtain ⟨c, hc⟩ := wf_u8 hw
    exact ⟨c, hc, trivial⟩
  exact ⟨⟨l, nl, false⟩, rfl, fun h => by simpa using hn h, by simpa [reachBytes] using hl, rfl⟩
theorem enc_tU {ys : List SV} (h : tU.enc ys) : ∃ b : Sl Int, ys = [b.v uV] ∧ b.ok ∧ b.xs.length ≤ 140737488351232 ∧ (∀ x ∈ b.xs, InR x) ∧ b.tg = false := by
  obtain ⟨xs, nl, rfl, hl, hn, hx⟩ := h
  obtain ⟨l, rfl, hr⟩ := lift (f := uV) (p := InR) fun x hx' => by
    obtain ⟨zs, ⟨n, rfl, hw⟩, rfl⟩ := hx x hx'
    exact ⟨n, rfl, wf_u64 hw⟩
  exact ⟨⟨l, nl, false⟩, rfl, fun h => by simpa using hn h, by simpa [reachBytes] using hl, hr, rfl⟩
theorem enc_tBB {ys : List SV} (h : tBB.enc ys) : ∃ (l : List By) (nl : Bool), ys = [.tree (l.map By.v) nl false] ∧ (nl = true → l = []) ∧ l.length ≤ 140737488351232 ∧ ∀ b ∈ l, b.ok ∧ b.xs.length ≤ 140737488351232 := by
  obtain ⟨xs, nl, rfl, hl, hn, hx⟩ := h
  obtain ⟨l, rfl, hr⟩ := lift (f := By.v) (p := fun b => b.ok ∧ b.xs.length ≤ 140737488351232) fun x hx' => by
    obtain ⟨zs, hz, rfl⟩ := hx x hx'
    obtain ⟨b, rfl, h1, h2, _⟩ := enc_tB hz
    exact ⟨b, rfl, h1, h2⟩
  exact ⟨l, nl, rfl, fun h => by simpa using hn h, by simpa [reachBytes] using hl, hr⟩
theorem enc_tUU {ys : List SV} (h : tUU.enc ys) : ∃ (l : List (Sl Int)) (nl : Bool), ys = [.tree (l.map (Sl.v uV)) nl false] ∧ (nl = true → l = []) ∧ l.length ≤ 140737488351232 ∧ ∀ b ∈ l, b.ok ∧ b.xs.length ≤ 140737488351232 ∧ ∀ x ∈ b.xs, InR x := by
  obtain ⟨xs, nl, rfl, hl, hn, hx⟩ := h
  obtain ⟨l, rfl, hr⟩ := lift (f := Sl.v uV) (p := fun b => b.ok ∧ b.xs.length ≤ 140737488351232 ∧ ∀ x ∈ b.xs, InR x) fun x hx' => by
    obtain ⟨zs, hz, rfl⟩ := hx x hx'
    obtain ⟨b, rfl, h1, h2, h3, _⟩ := enc_tU hz
    exact ⟨b, rfl, h1, h2, h3⟩
  exact ⟨l, nl, rfl, fun h => by simpa using hn h, by simpa [reachBytes] using hl, hr⟩
theorem enc_tR {ys : List SV} (h : tR.enc ys) : ∃ (l : List Rw) (nl : Bool), ys = [.tree (l.map Rw.v) nl false] ∧ (nl = true → l = []) ∧ l.length ≤ 140737488351232 ∧ ∀ r ∈ l, r.data.ok ∧ r.data.xs.length ≤ 140737488351232 ∧ -9223372036854775808 ≤ r.mask ∧ r.mask < 9223372036854775808 := by
  obtain ⟨xs, nl, rfl, hl, hn, hx⟩ := h
  obtain ⟨l, rfl, hr⟩ := lift (f := Rw.v) (p := fun r => r.data.ok ∧ r.data.xs.length ≤ 140737488351232 ∧ -9223372036854775808 ≤ r.mask ∧ r.mask < 9223372036854775808) fun x hx' => by
    obtain ⟨zs, hz, rfl⟩ := hx x hx'
    obtain ⟨a, b, rfl, ⟨n, rfl, hn⟩, c, d, rfl, hc, rfl⟩ := hz
    obtain ⟨b, rfl, h1, h2, _⟩ := enc_tB hc
    exact ⟨⟨n, b⟩, rfl, h1, h2, wf_i64 hn⟩
  exact ⟨l, nl, rfl, fun h => by simpa using hn h, by simpa [reachBytes] using hl, hr⟩

/-! ### arguments -/
def I64 (n : Int) : Prop := -9223372036854775808 ≤ n ∧ n < 9223372036854775808
theorem arg_tI {s : SV} (h : tI.arg s) : ∃ n, s = .int .i64 n ∧ I64 n := by
  obtain ⟨n, h, hw⟩ := h
  cases h
  exact ⟨n, rfl, wf_i64 hw⟩
theorem arg_tB {s : SV} (h : tB.arg s) : ∃ (b : List UInt8) (nl : Bool), s = .tree (b.map b8) nl false ∧ (nl = true → b = []) ∧ b.length ≤ 140737488351232 := by
  obtain ⟨⟨xs, nl, tg⟩, h1, h2, h3, h4⟩ := enc_tB h
  cases h1
  cases h4
  exact ⟨xs, nl, rfl, h2, h3⟩
theorem arg_tU {s : SV} (h : tU.arg s) : ∃ (b : List Int) (nl : Bool), s = .tree (b.map uV) nl false ∧ (nl = true → b = []) ∧ b.length ≤ 140737488351232 ∧ ∀ x ∈ b, InR x := by
  obtain ⟨⟨xs, nl, tg⟩, h1, h2, h3, h4, h5⟩ := enc_tU h
  cases h1
  cases h5
  exact ⟨xs, nl, rfl, h2, h3, h4⟩
theorem arg_tBB {s : SV} (h : tBB.arg s) : ∃ (l : List By) (nl : Bool), s = .tree (l.map By.v) nl false ∧ (nl = true → l = []) ∧ l.length ≤ 140737488351232 ∧ ∀ b ∈ l, b.ok ∧ b.xs.length ≤ 140737488351232 := by
  obtain ⟨l, nl, h1, h2⟩ := enc_tBB h
  cases h1
  exact ⟨l, nl, rfl, h2⟩
/-- What a state that is handed in is known to be. -/
structure SpArg (ver size dg start : Int) (pages : List By) (n1 : Bool) (proofs : List (Sl Int)) (n2 : Bool) (rows : List Rw) (n3 : Bool) (proof : List Int) (n4 : Bool) (iv bg fi ct sd : Int) : Prop where
  hi : (I64 ver ∧ I64 size ∧ InR dg ∧ I64 start) ∧ I64 iv ∧ I64 bg ∧ I64 fi ∧ I64 ct ∧ I64 sd
  n1 : n1 = true → pages = []
  n2 : n2 = true → proofs = []
  n3 : n3 = true → rows = []
  n4 : n4 = true → proof = []
  l1 : pages.length ≤ 140737488351232
  l2 : proofs.length ≤ 140737488351232
  l3 : rows.length ≤ 140737488351232
  l4 : proof.length ≤ 140737488351232
  p1 : ∀ b ∈ pages, b.ok ∧ b.xs.length ≤ 140737488351232
  p2 : ∀ b ∈ proofs, b.ok ∧ b.xs.length ≤ 140737488351232 ∧ ∀ x ∈ b.xs, InR x
  p3 : ∀ r ∈ rows, r.data.ok ∧ r.data.xs.length ≤ 140737488351232 ∧ -9223372036854775808 ≤ r.mask ∧ r.mask < 9223372036854775808
  p4 : ∀ x ∈ proof, InR x
theorem SpArg.sp {ver size dg start : Int} {pages : List By} {n1 : Bool} {proofs : List (Sl Int)} {n2 : Bool} {rows : List Rw} {n3 : Bool} {proof : List Int} {n4 : Bool} {iv bg fi ct sd : Int} (h : SpArg ver size dg start pages n1 proofs n2 rows n3 proof n4 iv bg fi ct sd) : SpIn pages n1 proofs n2 := ⟨fun p hp => (h.p1 p hp).1, fun q hq => (h.p2 q hq).1, h.n1, h.n2⟩
theorem arg_tS {s : SV} (h : tS.arg s) : ∃ (ver size dg start : Int) (pages : List By) (n1 : Bool) (proofs : List (Sl Int)) (n2 : Bool) (rows : List Rw) (n3 : Bool) (proof : List Int) (n4 : Bool) (iv bg fi ct sd : Int),
    s = .agg [.int .i64 ver, .int .i64 size, .int .u64 dg, .int .i64 start, .tree (pages.map By.v) n1 false, .tree (proofs.map (Sl.v uV)) n2 false, .tree (rows.map Rw.v) n3 false, .tree (proof.map uV) n4 false, .int .i64 iv, .int .i64 bg, .int .i64 fi, .int .i64 ct, .int .i64 sd] ∧
    SpArg ver size dg start pages n1 proofs n2 rows n3 proof n4 iv bg fi ct sd := by
  obtain ⟨ys, rfl, h⟩ := h
  obtain ⟨_, _, rfl, hn, _, _, rfl, hp, _, _, rfl, hq, _, _, rfl, hr, _, _, rfl, hf, _, _, rfl, ht, rfl⟩ := h
  obtain ⟨_, _, rfl, ⟨a, rfl, ha⟩, _, _, rfl, ⟨b, rfl, hb⟩, _, _, rfl, ⟨c, rfl, hc⟩, _, _, rfl, ⟨d, rfl, hd⟩, rfl⟩ := hn
  obtain ⟨_, _, rfl, ⟨e, rfl, he⟩, _, _, rfl, ⟨f, rfl, hf'⟩, _, _, rfl, ⟨g, rfl, hg⟩, _, _, rfl, ⟨i, rfl, hi⟩, _, _, rfl, ⟨j, rfl, hj⟩, rfl⟩ := ht
  obtain ⟨pages, n1, rfl, p1, p2, p3⟩ := enc_tBB hp
  obtain ⟨proofs, n2, rfl, q1, q2, q3⟩ := enc_tUU hq
  obtain ⟨rows, n3, rfl, r1, r2, r3⟩ := enc_tR hr
  obtain ⟨xs, n4, rfl, f1, f2, f3⟩ := hf
  obtain ⟨proof, rfl, f4⟩ := lift (f := uV) (p := InR) fun x hx' => by
    obtain ⟨zs, ⟨n, rfl, hw⟩, rfl⟩ := f3 x hx'
    exact ⟨n, rfl, wf_u64 hw⟩
  exact ⟨a, b, c, d, pages, n1, proofs, n2, rows, n3, proof, n4, e, f, g, i, j, rfl,
    ⟨⟨⟨wf_i64 ha, wf_i64 hb, wf_u64 hc, wf_i64 hd⟩, wf_i64 he, wf_i64 hf', wf_i64 hg, wf_i64 hi, wf_i64 hj⟩, p1, q1, r1, fun h => by simpa using f2 h, p2, q2, r2, by simpa [reachBytes] using f1, p3, q3, r3, f4⟩⟩
def tY : TD := .int .u8
def tH : TD := .int .u16
def tW : TD := .int .u64
theorem arg_tY {s : SV} (h : tY.arg s) : ∃ c : UInt8, s = .int .u8 (c.toNat : Int) := by
  obtain ⟨n, h, hw⟩ := h
  cases h
  exact wf_u8 hw
theorem arg_tH {s : SV} (h : tH.arg s) : ∃ n : Nat, s = .int .u16 (n : Int) ∧ n < 65536 := by
  obtain ⟨n, h, hw⟩ := h
  cases h
  simp only [Lit.wf, IntKind.min, IntKind.max, IntKind.signed, IntKind.bits, Bool.and_eq_true, decide_eq_true_eq] at hw
  simp at hw
  refine ⟨n.toNat, ?_, by omega⟩
  congr 1
  omega
theorem arg_tW {s : SV} (h : tW.arg s) : ∃ n, s = .int .u64 n ∧ InR n := by
  obtain ⟨n, h, hw⟩ := h
  cases h
  exact ⟨n, rfl, wf_u64 hw⟩
end Go.Proofs.YtfmbdcmjgnikiaaDoor.Sm
namespace Go.Proofs.YtfmbdcmjgnikiaaDoor.Sm
open Go Go.RowKit

theorem g_ImageMatchesReference {st : St} {ss : List SV} (h : argL [tB, tBB, tI, tI, tI, tS, tB, tU] ss) : WpF XX .ro n_law36_ImageMatchesReference ss st fun r _ => r = .bool true := by
  obtain ⟨_, _, rfl, a1, _, _, rfl, a2, _, _, rfl, a3, _, _, rfl, a4, _, _, rfl, a5, _, _, rfl, a6, _, _, rfl, a7, _, _, rfl, a8, rfl⟩ := h
  obtain ⟨b, nb, rfl, _, _⟩ := arg_tB a1
  obtain ⟨a, n0, rfl, _, ha, _⟩ := arg_tBB a2
  obtain ⟨x, rfl, _⟩ := arg_tI a3
  obtain ⟨y, rfl, _⟩ := arg_tI a4
  obtain ⟨z, rfl, _⟩ := arg_tI a5
  obtain ⟨ver, size, dg, start, pages, n1, proofs, n2, rows, n3, proof, n4, iv, bg, fi, ct, sd, rfl, H⟩ := arg_tS a6
  obtain ⟨page, n5, rfl, h5, _⟩ := arg_tB a7
  obtain ⟨pf, n6, rfl, h6, _⟩ := arg_tU a8
  exact (law_ImageMatchesReference (by omega) H.sp h5 h6).2 rfl
end Go.Proofs.YtfmbdcmjgnikiaaDoor.Sm
