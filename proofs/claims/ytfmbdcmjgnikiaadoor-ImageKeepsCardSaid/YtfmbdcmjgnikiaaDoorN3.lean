/- Programs and their pages: split and joined. Conditions: none (plain laws). What a page that is taken leaves. Conditions: none. ImageKeeps for every argument. Conditions: none. -/
import Derived.Test.YtfmbdcmjgnikiaaDoorM10
import Derived.Test.YtfmbdcmjgnikiaaDoorM11
set_option linter.unusedSimpArgs false
set_option linter.unusedVariables false
namespace Go.Proofs.YtfmbdcmjgnikiaaDoor.Sm
open Go

theorem splitF_flat : ∀ (f : Nat) (b : List UInt8), b.length ≤ 256 * f → (splitF f b).flatten = b ++ List.replicate (256 * ((b.length + 255) / 256) - b.length) 0 ∧ (splitF f b).length = (b.length + 255) / 256
  | 0, b, h => by
    obtain rfl : b = [] := List.length_eq_zero_iff.1 (by omega)
    simp [splitF]
  | f + 1, b, h => by
    rw [splitF]
    by_cases h0 : b = []
    · subst h0; simp
    rw [if_neg h0]
    have hb : 0 < b.length := List.length_pos_iff.2 h0
    obtain ⟨h1, h2⟩ := splitF_flat f (b.drop 256) (by simp; omega)
    rw [List.flatten_cons, h1, List.length_cons, h2, List.length_drop]
    by_cases hl : b.length ≤ 256
    · have e1 : b.drop 256 = [] := List.drop_eq_nil_of_le hl
      have e2 : b.take 256 = b := List.take_of_length_le hl
      have e3 : (b.length + 255) / 256 = 1 := by omega
      rw [e1, e2, e3, pad]
      have e4 : b.length - 256 = 0 := by omega
      rw [e4]
      simp
    · have e1 : (b.length + 255) / 256 = (b.length - 256 + 255) / 256 + 1 := by omega
      have e2 : pad (b.take 256) = b.take 256 := by
        rw [pad, List.length_take, Nat.min_eq_left (by omega)]
        simp
      rw [e1, e2, ← List.append_assoc, List.take_append_drop]
      refine ⟨?_, rfl⟩
      rw [List.append_cancel_left_eq]; refine congrArg (fun n => List.replicate n 0) ?_
      omega
theorem splitF_inv : ∀ (f : Nat) (ps : List (List UInt8)) (size : Nat), (∀ p ∈ ps, p.length = 256) → ps.length ≤ f → (size + 255) / 256 = ps.length → allZ (ps.flatten.drop size) = true → splitF f (ps.flatten.take size) = ps
  | f, [], size, hp, hf, hs, hz => by
    obtain rfl : size = 0 := by simp at hs; omega
    cases f <;> simp [splitF]
  | 0, p :: ps, size, hp, hf, hs, hz => by simp at hf
  | f + 1, p :: ps, size, hp, hf, hs, hz => by
    have hp0 := hp p List.mem_cons_self
    rw [List.length_cons] at hs hf
    have hsz : 0 < size := by omega
    rw [List.flatten_cons] at hz ⊢
    rw [splitF, if_neg (by
      intro h
      have := congrArg List.length h
      rw [List.length_take, List.length_append, hp0] at this
      simp at this; omega)]
    by_cases hl : size ≤ 256
    · have hn : ps = [] := List.length_eq_zero_iff.1 (by omega)
      subst hn
      rw [List.flatten_nil, List.append_nil] at hz ⊢
      have e1 : (p.take size).drop 256 = [] := List.drop_eq_nil_of_le (by simp; omega)
      have e2 : (p.take size).take 256 = p.take size := List.take_of_length_le (by simp; omega)
      have e3 : splitF f [] = [] := by cases f <;> simp [splitF]
      rw [e1, e2, e3, pad]
      congr 1
      have e4 : p.drop size = List.replicate (256 - size) 0 := by
        refine List.eq_replicate_iff.2 ⟨by simp [hp0], fun c hc => ?_⟩
        simpa using List.all_eq_true.1 hz c hc
      have e5 : (p.take size).length = size := by rw [List.length_take]; omega
      rw [e5, ← e4, List.take_append_drop]
    · have e1 : (p ++ ps.flatten).take size = p ++ ps.flatten.take (size - 256) := by
        rw [List.take_append, List.take_of_length_le (by omega), hp0]
      have e2 : (p ++ ps.flatten).drop size = ps.flatten.drop (size - 256) := by
        rw [List.drop_append, List.drop_eq_nil_of_le (by omega), hp0, List.nil_append]
      rw [e2] at hz
      have e3 : (p ++ ps.flatten.take (size - 256)).take 256 = p := by
        rw [List.take_append, hp0, List.take_of_length_le (by omega)]; simp
      have e4 : (p ++ ps.flatten.take (size - 256)).drop 256 = ps.flatten.take (size - 256) := by
        rw [List.drop_append, hp0, List.drop_eq_nil_of_le (by omega)]; simp
      rw [e1, e3, e4, splitF_inv f ps (size - 256) (fun q hq => hp q (List.mem_cons_of_mem _ hq)) (by omega) (by omega) hz, pad, hp0]
      simp
theorem allB_inner (a : List By) : allB a = (inner a).flatten := by simp [allB, inner, List.flatMap_def]
theorem inner_pg (l : List (List UInt8)) : inner (l.map pgV) = l := by
  rw [inner, List.map_map]
  simp [Function.comp_def, pgV]
theorem allZ_rep (n : Nat) : allZ (List.replicate n 0) = true := by simp [allZ]
theorem paged_iff {a : List By} : pagedI a = true ↔ ∀ p ∈ a, p.xs.length = 256 := by
  constructor
  · intro h p hp
    simpa using List.all_eq_true.1 h p hp
  · intro h
    refine List.all_eq_true.2 fun p hp => ?_
    simpa using h p hp
theorem sized_iff {n : Int} : sizedI n = true ↔ 1 ≤ n ∧ n ≤ 4096 := by simp [sizedI]
theorem split_len {b : List UInt8} (h : b.length ≤ 4096) : (splitI b).length = (b.length + 255) / 256 := by
  rw [splitI, List.length_map, (splitF_flat 16 b (by omega)).2]
theorem split_flat {b : List UInt8} (h : b.length ≤ 4096) : allB (splitI b) = b ++ List.replicate (256 * ((b.length + 255) / 256) - b.length) 0 := by
  rw [allB_inner, splitI, inner_pg, (splitF_flat 16 b (by omega)).1]
theorem split_paged (b : List UInt8) : pagedI (splitI b) = true := paged_iff.2 fun p hp => ((split_pages b).2.1 p hp).1
/-- The pages of a program are joined to it. -/
theorem split_join {b : List UInt8} (h : sizedI b.length = true) : joinOK (splitI b) b.length = true ∧ allZ ((allB (splitI b)).drop ((b.length : Int)).toNat) = true ∧ (allB (splitI b)).take ((b.length : Int)).toNat = b := by
  have hs := sized_iff.1 h
  have hb : b.length ≤ 4096 := by omega
  rw [split_flat hb, Int.toNat_natCast, List.drop_left, List.take_left]
  refine ⟨?_, allZ_rep _, rfl⟩
  rw [joinOK, h, split_paged, Bool.true_and, Bool.and_true, decide_eq_true_eq, split_len hb, countI]
  omega
theorem join_parts {a : List By} {size : Int} (h : joinOK a size = true) : (1 ≤ size ∧ size ≤ 4096) ∧ (a.length : Int) = countI size ∧ ∀ p ∈ a, p.xs.length = 256 := by
  simp only [joinOK, Bool.and_eq_true, decide_eq_true_eq] at h
  exact ⟨sized_iff.1 h.1.1, h.1.2, paged_iff.1 h.2⟩
/-- What is joined has the pages. -/
theorem join_split {a : List By} {size : Int} (h : joinOK a size = true) (hz : allZ ((allB a).drop size.toNat) = true) : ((allB a).take size.toNat).length = size.toNat ∧ sizedI (((allB a).take size.toNat).length : Nat) = true ∧ inner (splitI ((allB a).take size.toNat)) = inner a := by
  obtain ⟨h1, h2, h3⟩ := join_parts h
  have hl := allB_len a h3
  unfold countI at h2
  have e : ((allB a).take size.toNat).length = size.toNat := by rw [List.length_take]; omega
  refine ⟨e, by rw [e]; exact sized_iff.2 (by omega), ?_⟩
  rw [splitI, inner_pg]
  rw [allB_inner] at hz ⊢
  refine splitF_inv 16 (inner a) size.toNat (fun p hp => ?_) (by simp [inner]; omega) (by simp [inner]; omega) hz
  obtain ⟨q, hq, rfl⟩ := List.mem_map.1 hp
  exact h3 q hq
end Go.Proofs.YtfmbdcmjgnikiaaDoor.Sm
namespace Go.Proofs.YtfmbdcmjgnikiaaDoor.Sm
open Go Go.RowKit

theorem provedF_app {dg size : Int} {p : By} {q : Sl Int} : ∀ (i : Nat) (ps : List By) (qs : List (Sl Int)), qs.length = ps.length → provedF dg size i ((ps ++ [p]).map cloneB) ((qs ++ [q]).map cloneB) = (provedF dg size i ps qs && checkI dg (countI size) (i + ps.length : Nat) p.xs q.xs)
  | i, [], [], h => by simp [provedF, cloneB]
  | i, [], q' :: qs, h => by simp at h
  | i, p' :: ps, [], h => by simp at h
  | i, p' :: ps, q' :: qs, h => by
    have ih := provedF_app (dg := dg) (size := size) (p := p) (q := q) (i + 1) ps qs (by simpa using h)
    simp only [List.cons_append, List.map_cons, provedF, List.length_cons] at ih ⊢
    rw [ih, Bool.and_assoc]
    have e : i + 1 + ps.length = i + (ps.length + 1) := by omega
    rw [e]
    rfl
theorem sound_app {ver size dg start : Int} {pages : List By} {proofs : List (Sl Int)} {p : By} {q : Sl Int} (h : soundI ver size dg start pages proofs = true) (hn : (pages.length : Int) ≠ countI size) (hp : p.xs.length = 256) (hc : checkI dg (countI size) pages.length p.xs q.xs = true) :
    soundI ver size dg start ((pages ++ [p]).map cloneB) ((proofs ++ [q]).map cloneB) = true := by
  simp only [soundI, Bool.and_eq_true, decide_eq_true_eq] at h ⊢
  obtain ⟨⟨⟨⟨h1, h2⟩, h3⟩, h4⟩, h5⟩ := h
  refine ⟨⟨⟨⟨h1, ?_⟩, ?_⟩, ?_⟩, ?_⟩
  · simp; omega
  · simp [h3]
  · refine paged_iff.2 fun c hc' => ?_
    obtain ⟨d, hd, rfl⟩ := List.mem_map.1 hc'
    rcases List.mem_append.1 hd with hd | hd
    · exact paged_iff.1 h4 d hd
    · obtain rfl : d = p := by simpa using hd
      exact hp
  · rw [provedF_app 0 pages proofs h3, h5, Nat.zero_add, hc]; rfl

section
variable {ls : List (Nat × LRec)} {Q : Ex → St → Prop} {R : Prop} {st : St} {K : SV → St → Prop}
theorem L_keeps {ver size dg start : Int} {pages : List By} {n1 g1 : Bool} {proofs : List (Sl Int)} {n2 g2 : Bool} {rows : List Rw} {n3 g3 : Bool} {proof : List Int} {n4 g4 : Bool} {iv bg fi ct sd : Int} {ver' size' dg' start' : Int} {pages' : List By} {n1' g1' : Bool} {proofs' : List (Sl Int)} {n2' g2' : Bool} {rows' : List Rw} {n3' g3' : Bool} {proof' : List Int} {n4' g4' : Bool} {iv' bg' fi' ct' sd' : Int} {v1 v2 : SV} (hl : pages.length ≤ 100) (hl2 : pages.length ≤ pages'.length) (hq0 : proofs.length = pages.length) (hl3 : pages.length ≤ proofs'.length)
    (hp : ∀ (j : Nat) (c : By), pages[j]? = some c → c.xs.length < 4611686018427387904 ∧ ∃ c' : By, pages'[j]? = some c' ∧ c'.xs = c.xs) (hq : ∀ (j : Nat) (c : Sl Int), proofs[j]? = some c → c.xs.length < 4611686018427387904 ∧ ∃ c' : Sl Int, proofs'[j]? = some c' ∧ c'.xs = c.xs) : ∀ (d k : Nat), k + d = pages.length →
    (Q (.exit 0) ⟨[(1, v1), (2, v2), (7, .bool true), (8, .ptr 1 0), (10, .int .i64 pages.length)], [(1, [.int .i64 ver', .int .i64 size', .int .u64 dg', .int .i64 start', .tree (pages'.map By.v) n1' g1', .tree (proofs'.map (Sl.v uV)) n2' g2', .tree (rows'.map Rw.v) n3' g3', .tree (proof'.map uV) n4' g4', .int .i64 iv', .int .i64 bg', .int .i64 fi', .int .i64 ct', .int .i64 sd']), (0, [.int .i64 ver, .int .i64 size, .int .u64 dg, .int .i64 start, .tree (pages.map By.v) n1 g1, .tree (proofs.map (Sl.v uV)) n2 g2, .tree (rows.map Rw.v) n3 g3, .tree (proof.map uV) n4 g4, .int .i64 iv, .int .i64 bg, .int .i64 fi, .int .i64 ct, .int .i64 sd])], 2, ls, 0⟩ ↔ R) →
    (L_law36_ImageKeeps_0 XX v1 v2 (.ptr 0 0) (.bool true) (.ptr 1 0) (.int .i64 pages.length) (.int .i64 pages.length) (.int .i64 k) [(1, [.int .i64 ver', .int .i64 size', .int .u64 dg', .int .i64 start', .tree (pages'.map By.v) n1' g1', .tree (proofs'.map (Sl.v uV)) n2' g2', .tree (rows'.map Rw.v) n3' g3', .tree (proof'.map uV) n4' g4', .int .i64 iv', .int .i64 bg', .int .i64 fi', .int .i64 ct', .int .i64 sd']), (0, [.int .i64 ver, .int .i64 size, .int .u64 dg, .int .i64 start, .tree (pages.map By.v) n1 g1, .tree (proofs.map (Sl.v uV)) n2 g2, .tree (rows.map Rw.v) n3 g3, .tree (proof.map uV) n4 g4, .int .i64 iv, .int .i64 bg, .int .i64 fi, .int .i64 ct, .int .i64 sd])] 2 ls 0 Q ↔ R) := by
  intro d
  induction d with
  | zero =>
    intro k hk q1
    obtain rfl : k = pages.length := by omega
    rw [L_law36_ImageKeeps_0_unf]
    simp only [b_law36_ImageKeeps_0, bC, bW, wpY', evR, evW, idx, ldc, okV, sub, setc, buildC, bnd, resOf, resL, res1, xorB, take2L, take2, takeL, take1, appF, rowOf, elemOk, plain, pl1, isRow, cellB, srcOf, LIM, Option.some.injEq, exists_eq_left', exists_eq_left, Prod.mk.injEq, if_true, if_false, ite_true, ite_false, ne_eq, eq_self, reduceCtorEq, ↓reduceIte, Nat.reduceEqDiff, Nat.reduceAdd, Nat.reduceSub, Nat.reduceMul, Nat.reduceLT, Nat.reduceLeDiff, Nat.reduceBEq, Nat.reduceBNe, Nat.reduceMod, Nat.reduceDiv, Nat.reducePow, Int.reduceEq, Int.reduceLT, Int.reduceLE, Int.reduceNeg, Int.reduceAdd, Int.reduceSub, Int.reduceMul, Int.reduceToNat, Int.reduceBEq, Int.reduceBNe, Int.lt_irrefl]
    exact q1
  | succ d ih =>
    intro k hk q1
    have hlt : k < pages.length := by omega
    obtain ⟨c, hc, _⟩ := get_some hlt
    obtain ⟨e, he, _⟩ := get_some (l := proofs) (k := k) (by omega)
    obtain ⟨cs, c', hc', hcc⟩ := hp k c hc
    obtain ⟨es, e', he', hee⟩ := hq k e he
    have a1 : ((k : Int) < (pages'.length : Int)) = True := lt_c (by omega)
    have a2 : ((k : Int) < (proofs.length : Int)) = True := lt_c (by omega)
    have a3 : ((k : Int) < (proofs'.length : Int)) = True := lt_c (by omega)
    rw [L_law36_ImageKeeps_0_unf]
    have b1 : (pages.map By.v)[k]? = some (.tree (c.xs.map b8) c.nl c.tg) := by rw [List.getElem?_map, hc]; rfl
    have b2 : (pages'.map By.v)[k]? = some (.tree (c'.xs.map b8) c'.nl c'.tg) := by rw [List.getElem?_map, hc']; rfl
    have b3 : (proofs.map (Sl.v uV))[k]? = some (.tree (e.xs.map uV) e.nl e.tg) := by rw [List.getElem?_map, he]; rfl
    have b4 : (proofs'.map (Sl.v uV))[k]? = some (.tree (e'.xs.map uV) e'.nl e'.tg) := by rw [List.getElem?_map, he']; rfl
    rw [hcc] at b2
    rw [hee] at b4
    have s1 := fun st K => f_ref36_Bytes (st := st) (K := K) (a := c.xs) (b := c.xs) (n1 := c'.nl) (g1 := c'.tg) (n2 := c.nl) (g2 := c.tg) cs
    have s2 := fun st K => f_ref35_Same (st := st) (K := K) (a := e.xs) (b := e.xs) (n1 := e'.nl) (g1 := e'.tg) (n2 := e.nl) (g2 := e.tg) es
    simp only [decide_true] at s1 s2
    simp only [b_law36_ImageKeeps_0, bC, bW, bD, wpY', evR, evW, idx, ldc, okV, sub, setc, buildC, bnd, resOf, resL, res1, xorB, take2L, take2, takeL, take1, appF, rowOf, elemOk, plain, pl1, isRow, cellB, srcOf, LIM, Option.some.injEq, exists_eq_left', exists_eq_left, Prod.mk.injEq, if_true, if_false, ite_true, ite_false, ne_eq, eq_self, reduceCtorEq, ↓reduceIte, Nat.reduceEqDiff, Nat.reduceAdd, Nat.reduceSub, Nat.reduceMul, Nat.reduceLT, Nat.reduceLeDiff, Nat.reduceBEq, Nat.reduceBNe, Nat.reduceMod, Nat.reduceDiv, Nat.reducePow, Int.reduceEq, Int.reduceLT, Int.reduceLE, Int.reduceNeg, Int.reduceAdd, Int.reduceSub, Int.reduceMul, Int.reduceToNat, Int.reduceBEq, Int.reduceBNe, unused, fpO, rdR, rdW, own1, ptr1, ownC, sepOk, compat, disj, offR, lt_c hlt, a1, a2, a3, b1, b2, b3, b4, s1, s2, wi_s hlt (by omega), L_law36_ImageKeeps_0_eq]
    exact ih (k + 1) (by omega) q1
set_option maxHeartbeats 2000000 in
set_option maxRecDepth 100000 in
theorem law_ImageKeeps {ver size dg start : Int} {pages : List By} {n1 g1 : Bool} {proofs : List (Sl Int)} {n2 g2 : Bool} {rows : List Rw} {n3 g3 : Bool} {proof : List Int} {n4 g4 : Bool} {iv bg fi ct sd : Int} {page : List UInt8} {n5 g5 : Bool} {pf : List Int} {n6 g6 : Bool} (H : SpIn pages n1 proofs n2) (h5 : n5 = true → page = []) (h6 : n6 = true → pf = []) :
    WpF XX .ro n_law36_ImageKeeps [.agg [.int .i64 ver, .int .i64 size, .int .u64 dg, .int .i64 start, .tree (pages.map By.v) n1 g1, .tree (proofs.map (Sl.v uV)) n2 g2, .tree (rows.map Rw.v) n3 g3, .tree (proof.map uV) n4 g4, .int .i64 iv, .int .i64 bg, .int .i64 fi, .int .i64 ct, .int .i64 sd], .tree (page.map b8) n5 g5, .tree (pf.map uV) n6 g6] st K ↔ K (.bool true) st := by
  rw [F_ro (mf := m_law36_ImageKeeps) rfl rfl]
  cases hfe : fewI pages proofs rows proof with
  | false => simp only [m_law36_ImageKeeps, bC, bW, bD, wpY', evR, evW, idx, ldc, okV, sub, setc, buildC, bnd, resOf, resL, res1, xorB, take2L, take2, takeL, take1, appF, rowOf, elemOk, plain, pl1, isRow, cellB, srcOf, LIM, Option.some.injEq, exists_eq_left', exists_eq_left, Prod.mk.injEq, if_true, if_false, ite_true, ite_false, ne_eq, eq_self, reduceCtorEq, ↓reduceIte, Nat.reduceEqDiff, Nat.reduceAdd, Nat.reduceSub, Nat.reduceMul, Nat.reduceLT, Nat.reduceLeDiff, Nat.reduceBEq, Nat.reduceBNe, Nat.reduceMod, Nat.reduceDiv, Nat.reducePow, Int.reduceEq, Int.reduceLT, Int.reduceLE, Int.reduceNeg, Int.reduceAdd, Int.reduceSub, Int.reduceMul, Int.reduceToNat, Int.reduceBEq, Int.reduceBNe, unused, fpO, rdR, rdW, own1, ptr1, ownC, sepOk, compat, disj, offR, f_law36_head, f_ref36_Few, hfe]
  | true =>
  have F := few_ok hfe
  have fl1 := F.l1
  have fl2 := F.l2
  have e0 := fun st K => f_ref36_Sound (ver := ver) (size := size) (dg := dg) (start := start) (pages := pages) (n1 := n1) (g1 := g1) (proofs := proofs) (n2 := n2) (g2 := g2) (rows := rows) (n3 := n3) (g3 := g3) (proof := proof) (n4 := n4) (g4 := g4) (iv := iv) (bg := bg) (fi := fi) (ct := ct) (sd := sd) (st := st) (K := K) (by omega) (by omega) (fun q hq => by have := F.s2 q hq; omega)
  cases hso : soundI ver size dg start pages proofs with
  | false => simp only [m_law36_ImageKeeps, bC, bW, bD, wpY', evR, evW, idx, ldc, okV, sub, setc, buildC, bnd, resOf, resL, res1, xorB, take2L, take2, takeL, take1, appF, rowOf, elemOk, plain, pl1, isRow, cellB, srcOf, LIM, Option.some.injEq, exists_eq_left', exists_eq_left, Prod.mk.injEq, if_true, if_false, ite_true, ite_false, ne_eq, eq_self, reduceCtorEq, ↓reduceIte, Nat.reduceEqDiff, Nat.reduceAdd, Nat.reduceSub, Nat.reduceMul, Nat.reduceLT, Nat.reduceLeDiff, Nat.reduceBEq, Nat.reduceBNe, Nat.reduceMod, Nat.reduceDiv, Nat.reducePow, Int.reduceEq, Int.reduceLT, Int.reduceLE, Int.reduceNeg, Int.reduceAdd, Int.reduceSub, Int.reduceMul, Int.reduceToNat, Int.reduceBEq, Int.reduceBNe, unused, fpO, rdR, rdW, own1, ptr1, ownC, sepOk, compat, disj, offR, f_law36_head, f_ref36_Few, hfe, e0, hso]
  | true =>
  by_cases hpg : page.length ≤ 1000
  case neg =>
    have hpg' : (1000 : Int) < page.length := by omega
    simp only [m_law36_ImageKeeps, bC, bW, bD, wpY', evR, evW, idx, ldc, okV, sub, setc, buildC, bnd, resOf, resL, res1, xorB, take2L, take2, takeL, take1, appF, rowOf, elemOk, plain, pl1, isRow, cellB, srcOf, LIM, Option.some.injEq, exists_eq_left', exists_eq_left, Prod.mk.injEq, if_true, if_false, ite_true, ite_false, ne_eq, eq_self, reduceCtorEq, ↓reduceIte, Nat.reduceEqDiff, Nat.reduceAdd, Nat.reduceSub, Nat.reduceMul, Nat.reduceLT, Nat.reduceLeDiff, Nat.reduceBEq, Nat.reduceBNe, Nat.reduceMod, Nat.reduceDiv, Nat.reducePow, Int.reduceEq, Int.reduceLT, Int.reduceLE, Int.reduceNeg, Int.reduceAdd, Int.reduceSub, Int.reduceMul, Int.reduceToNat, Int.reduceBEq, Int.reduceBNe, unused, fpO, rdR, rdW, own1, ptr1, ownC, sepOk, compat, disj, offR, f_law36_head, f_ref36_Few, hfe, e0, hso, hpg']
  have hpg' : ¬ (1000 : Int) < page.length := by omega
  by_cases hpf : pf.length ≤ 40
  case neg =>
    have hpf' : (40 : Int) < pf.length := by omega
    simp only [m_law36_ImageKeeps, bC, bW, bD, wpY', evR, evW, idx, ldc, okV, sub, setc, buildC, bnd, resOf, resL, res1, xorB, take2L, take2, takeL, take1, appF, rowOf, elemOk, plain, pl1, isRow, cellB, srcOf, LIM, Option.some.injEq, exists_eq_left', exists_eq_left, Prod.mk.injEq, if_true, if_false, ite_true, ite_false, ne_eq, eq_self, reduceCtorEq, ↓reduceIte, Nat.reduceEqDiff, Nat.reduceAdd, Nat.reduceSub, Nat.reduceMul, Nat.reduceLT, Nat.reduceLeDiff, Nat.reduceBEq, Nat.reduceBNe, Nat.reduceMod, Nat.reduceDiv, Nat.reducePow, Int.reduceEq, Int.reduceLT, Int.reduceLE, Int.reduceNeg, Int.reduceAdd, Int.reduceSub, Int.reduceMul, Int.reduceToNat, Int.reduceBEq, Int.reduceBNe, unused, fpO, rdR, rdW, own1, ptr1, ownC, sepOk, compat, disj, offR, f_law36_head, f_ref36_Few, hfe, e0, hso, hpg', hpf']
  have hpf' : ¬ (40 : Int) < pf.length := by omega
  obtain ⟨hsz, hcn, hpl, hp256⟩ := sound_parts hso
  have eP := fun st K => f_image_Put (ver := ver) (size := size) (dg := dg) (start := start) (pages := pages) (n1 := n1) (g1 := g1) (proofs := proofs) (n2 := n2) (g2 := g2) (rows := rows) (n3 := n3) (g3 := g3) (proof := proof) (n4 := n4) (g4 := g4) (iv := iv) (bg := bg) (fi := fi) (ct := ct) (sd := sd) (g5 := g5) (g6 := g6) (st := st) (K := K) (F.sp H) (by omega : page.length < 1152921504606846976) h5 (by omega : pf.length ≤ 4294967296) h6
  rw [hso] at eP
  have eC := fun st K => f_ref36_Count (st := st) (K := K) (n := size) (by omega) (by omega)
  by_cases h2 : page.length = 256
  case neg =>
    have h2' : ¬ (page.length : Int) = 256 := by omega
    simp only [h2, not_false_eq_true, or_true, if_true, ne_eq] at eP
    by_cases h3 : (pages.length : Int) = countI size
    · simp only [m_law36_ImageKeeps, bC, bW, bD, wpY', evR, evW, idx, ldc, okV, sub, setc, buildC, bnd, resOf, resL, res1, xorB, take2L, take2, takeL, take1, appF, rowOf, elemOk, plain, pl1, isRow, cellB, srcOf, LIM, Option.some.injEq, exists_eq_left', exists_eq_left, Prod.mk.injEq, if_true, if_false, ite_true, ite_false, ne_eq, eq_self, reduceCtorEq, ↓reduceIte, Nat.reduceEqDiff, Nat.reduceAdd, Nat.reduceSub, Nat.reduceMul, Nat.reduceLT, Nat.reduceLeDiff, Nat.reduceBEq, Nat.reduceBNe, Nat.reduceMod, Nat.reduceDiv, Nat.reducePow, Int.reduceEq, Int.reduceLT, Int.reduceLE, Int.reduceNeg, Int.reduceAdd, Int.reduceSub, Int.reduceMul, Int.reduceToNat, Int.reduceBEq, Int.reduceBNe, unused, fpO, rdR, rdW, own1, ptr1, ownC, sepOk, compat, disj, offR, f_law36_head, f_ref36_Few, hfe, e0, hso, hpg', hpf', eP, eC, eq_true h3, h2']
    · simp only [m_law36_ImageKeeps, bC, bW, bD, wpY', evR, evW, idx, ldc, okV, sub, setc, buildC, bnd, resOf, resL, res1, xorB, take2L, take2, takeL, take1, appF, rowOf, elemOk, plain, pl1, isRow, cellB, srcOf, LIM, Option.some.injEq, exists_eq_left', exists_eq_left, Prod.mk.injEq, if_true, if_false, ite_true, ite_false, ne_eq, eq_self, reduceCtorEq, ↓reduceIte, Nat.reduceEqDiff, Nat.reduceAdd, Nat.reduceSub, Nat.reduceMul, Nat.reduceLT, Nat.reduceLeDiff, Nat.reduceBEq, Nat.reduceBNe, Nat.reduceMod, Nat.reduceDiv, Nat.reducePow, Int.reduceEq, Int.reduceLT, Int.reduceLE, Int.reduceNeg, Int.reduceAdd, Int.reduceSub, Int.reduceMul, Int.reduceToNat, Int.reduceBEq, Int.reduceBNe, unused, fpO, rdR, rdW, own1, ptr1, ownC, sepOk, compat, disj, offR, f_law36_head, f_ref36_Few, hfe, e0, hso, hpg', hpf', eP, eC, h3, h2']
  have h2' : (page.length : Int) = 256 := by omega
  simp only [h2, ne_eq, not_true, Bool.true_eq_false, or_false, if_false] at eP
  by_cases h3 : (pages.length : Int) = countI size
  · simp only [eq_true h3, if_true] at eP
    simp only [m_law36_ImageKeeps, bC, bW, bD, wpY', evR, evW, idx, ldc, okV, sub, setc, buildC, bnd, resOf, resL, res1, xorB, take2L, take2, takeL, take1, appF, rowOf, elemOk, plain, pl1, isRow, cellB, srcOf, LIM, Option.some.injEq, exists_eq_left', exists_eq_left, Prod.mk.injEq, if_true, if_false, ite_true, ite_false, ne_eq, eq_self, reduceCtorEq, ↓reduceIte, Nat.reduceEqDiff, Nat.reduceAdd, Nat.reduceSub, Nat.reduceMul, Nat.reduceLT, Nat.reduceLeDiff, Nat.reduceBEq, Nat.reduceBNe, Nat.reduceMod, Nat.reduceDiv, Nat.reducePow, Int.reduceEq, Int.reduceLT, Int.reduceLE, Int.reduceNeg, Int.reduceAdd, Int.reduceSub, Int.reduceMul, Int.reduceToNat, Int.reduceBEq, Int.reduceBNe, unused, fpO, rdR, rdW, own1, ptr1, ownC, sepOk, compat, disj, offR, f_law36_head, f_ref36_Few, hfe, e0, hso, hpg', hpf', eP, eC, eq_true h3, h2']
  simp only [h3, if_false] at eP
  cases h4 : checkI dg (countI size) pages.length page pf with
  | false =>
    simp only [h4, if_true] at eP
    simp only [m_law36_ImageKeeps, bC, bW, bD, wpY', evR, evW, idx, ldc, okV, sub, setc, buildC, bnd, resOf, resL, res1, xorB, take2L, take2, takeL, take1, appF, rowOf, elemOk, plain, pl1, isRow, cellB, srcOf, LIM, Option.some.injEq, exists_eq_left', exists_eq_left, Prod.mk.injEq, if_true, if_false, ite_true, ite_false, ne_eq, eq_self, reduceCtorEq, ↓reduceIte, Nat.reduceEqDiff, Nat.reduceAdd, Nat.reduceSub, Nat.reduceMul, Nat.reduceLT, Nat.reduceLeDiff, Nat.reduceBEq, Nat.reduceBNe, Nat.reduceMod, Nat.reduceDiv, Nat.reducePow, Int.reduceEq, Int.reduceLT, Int.reduceLE, Int.reduceNeg, Int.reduceAdd, Int.reduceSub, Int.reduceMul, Int.reduceToNat, Int.reduceBEq, Int.reduceBNe, unused, fpO, rdR, rdW, own1, ptr1, ownC, sepOk, compat, disj, offR, f_law36_head, f_ref36_Few, hfe, e0, hso, hpg', hpf', eP, eC, h3, h2']
  | true =>
    simp only [h4, Bool.true_eq_false, if_false] at eP
    have hS := sound_app (p := ⟨page, n5, g5⟩) (q := ⟨pf, n6, g6⟩) hso h3 h2 h4
    have hA : ((pages ++ [(⟨page, n5, g5⟩ : By)]).map cloneB)[pages.length]? = some (⟨page, n5, decide (page.length = 0)⟩ : By) := by
      rw [List.getElem?_map, List.getElem?_append_right (Nat.le_refl _), Nat.sub_self]; rfl
    have hB : ((proofs ++ [(⟨pf, n6, g6⟩ : Sl Int)]).map cloneB)[pages.length]? = some (⟨pf, n6, decide (pf.length = 0)⟩ : Sl Int) := by
      rw [← hpl, List.getElem?_map, List.getElem?_append_right (Nat.le_refl _), Nat.sub_self]; rfl
    have hAl : ((pages ++ [(⟨page, n5, g5⟩ : By)]).map cloneB).length = pages.length + 1 := by simp
    have hBl : ((proofs ++ [(⟨pf, n6, g6⟩ : Sl Int)]).map cloneB).length = pages.length + 1 := by simp [hpl]
    have hAj : ∀ (j : Nat) (c : By), pages[j]? = some c → c.xs.length < 4611686018427387904 ∧ ∃ c' : By, ((pages ++ [(⟨page, n5, g5⟩ : By)]).map cloneB)[j]? = some c' ∧ c'.xs = c.xs := fun j c hc => by
      have hj := (List.getElem?_eq_some_iff.1 hc).1
      have := F.s1 c (List.mem_of_getElem? hc)
      exact ⟨by omega, cloneB c, by rw [List.getElem?_map, List.getElem?_append_left hj, hc]; rfl, rfl⟩
    have hBj : ∀ (j : Nat) (c : Sl Int), proofs[j]? = some c → c.xs.length < 4611686018427387904 ∧ ∃ c' : Sl Int, ((proofs ++ [(⟨pf, n6, g6⟩ : Sl Int)]).map cloneB)[j]? = some c' ∧ c'.xs = c.xs := fun j c hc => by
      have hj := (List.getElem?_eq_some_iff.1 hc).1
      have := F.s2 c (List.mem_of_getElem? hc)
      exact ⟨by omega, cloneB c, by rw [List.getElem?_map, List.getElem?_append_left hj, hc]; rfl, rfl⟩
    have hBs : ∀ q ∈ (proofs ++ [(⟨pf, n6, g6⟩ : Sl Int)]).map cloneB, q.xs.length < 1152921504606846976 := fun q hq => by
      obtain ⟨r, hr, rfl⟩ := List.mem_map.1 hq
      rcases List.mem_append.1 hr with hr | hr
      · have := F.s2 r hr
        show r.xs.length < _
        omega
      · obtain rfl : r = ⟨pf, n6, g6⟩ := by simpa using hr
        show pf.length < _
        omega
    revert hS hA hB hAl hBl hAj hBj hBs eP
    generalize (pages ++ [(⟨page, n5, g5⟩ : By)]).map cloneB = ps
    generalize (proofs ++ [(⟨pf, n6, g6⟩ : Sl Int)]).map cloneB = qs
    intro eP hS hA hB hAl hBl hAj hBj hBs
    have e1 := fun st K => f_ref36_Sound (ver := ver) (size := size) (dg := dg) (start := start) (pages := ps) (n1 := false) (g1 := false) (proofs := qs) (n2 := false) (g2 := false) (rows := []) (n3 := true) (g3 := true) (proof := []) (n4 := true) (g4 := true) (iv := iv) (bg := bg) (fi := fi) (ct := ct) (sd := sd) (st := st) (K := K) (by omega) (by omega) hBs
    simp only [List.map_nil, hS] at e1
    have w1 : IntKind.i64.wrap ((pages.length : Int) + 1) = ((pages.length + 1 : Nat) : Int) := by rw [wi _ (by omega) (by omega)]; rfl
    have w0 : IntKind.i64.wrap 0 = 0 := by decide
    have w2 : ((pages.length : Int) < ((pages.length + 1 : Nat) : Int)) = True := lt_c (by omega)
    have bA : (ps.map By.v)[pages.length]? = some (.tree (page.map b8) n5 (decide (page.length = 0))) := by rw [List.getElem?_map, hA]; rfl
    have bB : (qs.map (Sl.v uV))[pages.length]? = some (.tree (pf.map uV) n6 (decide (pf.length = 0))) := by rw [List.getElem?_map, hB]; rfl
    have s1 := fun g st K => f_ref36_Bytes (st := st) (K := K) (a := page) (b := page) (n1 := n5) (g1 := g) (n2 := n5) (g2 := g5) (by omega)
    have s2 := fun g st K => f_ref35_Same (st := st) (K := K) (a := pf) (b := pf) (n1 := n6) (g1 := g) (n2 := n6) (g2 := g6) (by omega)
    simp only [decide_true] at s1 s2
    simp only [m_law36_ImageKeeps, bC, bW, bD, wpY', evR, evW, idx, ldc, okV, sub, setc, buildC, bnd, resOf, resL, res1, xorB, take2L, take2, takeL, take1, appF, rowOf, elemOk, plain, pl1, isRow, cellB, srcOf, LIM, Option.some.injEq, exists_eq_left', exists_eq_left, Prod.mk.injEq, if_true, if_false, ite_true, ite_false, ne_eq, eq_self, reduceCtorEq, ↓reduceIte, Nat.reduceEqDiff, Nat.reduceAdd, Nat.reduceSub, Nat.reduceMul, Nat.reduceLT, Nat.reduceLeDiff, Nat.reduceBEq, Nat.reduceBNe, Nat.reduceMod, Nat.reduceDiv, Nat.reducePow, Int.reduceEq, Int.reduceLT, Int.reduceLE, Int.reduceNeg, Int.reduceAdd, Int.reduceSub, Int.reduceMul, Int.reduceToNat, Int.reduceBEq, Int.reduceBNe, unused, fpO, rdR, rdW, own1, ptr1, ownC, sepOk, compat, disj, offR, f_law36_head, f_ref36_Few, hfe, e0, hso, hpg', hpf', eP, eC, h3, h2', hAl, hBl, w1, e1, L_law36_ImageKeeps_0_eq, w0]
    refine L_keeps (rows' := []) (proof' := []) (by omega) (by omega) hpl (by omega) hAj hBj pages.length 0 (by omega) ?_
    simp only [bC, bW, bD, wpY', evR, evW, idx, ldc, okV, sub, setc, buildC, bnd, resOf, resL, res1, xorB, take2L, take2, takeL, take1, appF, rowOf, elemOk, plain, pl1, isRow, cellB, srcOf, LIM, Option.some.injEq, exists_eq_left', exists_eq_left, Prod.mk.injEq, if_true, if_false, ite_true, ite_false, ne_eq, eq_self, reduceCtorEq, ↓reduceIte, Nat.reduceEqDiff, Nat.reduceAdd, Nat.reduceSub, Nat.reduceMul, Nat.reduceLT, Nat.reduceLeDiff, Nat.reduceBEq, Nat.reduceBNe, Nat.reduceMod, Nat.reduceDiv, Nat.reducePow, Int.reduceEq, Int.reduceLT, Int.reduceLE, Int.reduceNeg, Int.reduceAdd, Int.reduceSub, Int.reduceMul, Int.reduceToNat, Int.reduceBEq, Int.reduceBNe, unused, fpO, rdR, rdW, own1, ptr1, ownC, sepOk, compat, disj, offR, hAl, hBl, w2, bA, bB, s1, s2]
end
end Go.Proofs.YtfmbdcmjgnikiaaDoor.Sm
namespace Go.Proofs.YtfmbdcmjgnikiaaDoor.Sm
open Go Go.RowKit

theorem g_ImageKeeps {st : St} {ss : List SV} (h : argL [tS, tB, tU] ss) : WpF XX .ro n_law36_ImageKeeps ss st fun r _ => r = .bool true := by
  obtain ⟨_, _, rfl, a6, _, _, rfl, a7, _, _, rfl, a8, rfl⟩ := h
  obtain ⟨ver, size, dg, start, pages, n1, proofs, n2, rows, n3, proof, n4, iv, bg, fi, ct, sd, rfl, H⟩ := arg_tS a6
  obtain ⟨page, n5, rfl, h5, _⟩ := arg_tB a7
  obtain ⟨pf, n6, rfl, h6, _⟩ := arg_tU a8
  exact (law_ImageKeeps H.sp h5 h6).2 rfl
end Go.Proofs.YtfmbdcmjgnikiaaDoor.Sm
