/- The next page, as the reference puts it; whole programs; equal states. Conditions: none. Whole programs; equal states; small states; notices of programs. Conditions: none. Announcing; what is small enough. Conditions: none. What is small enough to be examined. Conditions: none. Digests of different things differ; proofs prove. Conditions: none (plain laws). The check that something is there: a program of 300 bytes. Conditions: none. The check that something is there. Conditions: none. -/
import Derived.Test.YtfmbdcmjgnikiaaDoorM9
import Derived.Test.YtfmbdcmjgnikiaaDoorM8
set_option linter.unusedSimpArgs false
set_option linter.unusedVariables false
namespace Go.Proofs.YtfmbdcmjgnikiaaDoor.Sm
open Go Go.RowKit

section
variable {ls : List (Nat × LRec)} {Q : Ex → St → Prop} {R : Prop} {st : St} {K : SV → St → Prop}
set_option maxHeartbeats 1000000 in
theorem f_ref36_Put {ver size dg start : Int} {pages : List By} {n1 g1 : Bool} {proofs : List (Sl Int)} {n2 g2 : Bool} {rows : List Rw} {n3 g3 : Bool} {proof : List Int} {n4 g4 : Bool} {iv bg fi ct sd : Int} {page : List UInt8} {n5 g5 : Bool} {pf : List Int} {n6 g6 : Bool} (H : SpOK pages n1 proofs n2) (hpg : page.length < 1152921504606846976) (hpf : pf.length ≤ 4294967296) :
    WpF XX .ro n_ref36_Put [.agg [.int .i64 ver, .int .i64 size, .int .u64 dg, .int .i64 start, .tree (pages.map By.v) n1 g1, .tree (proofs.map (Sl.v uV)) n2 g2, .tree (rows.map Rw.v) n3 g3, .tree (proof.map uV) n4 g4, .int .i64 iv, .int .i64 bg, .int .i64 fi, .int .i64 ct, .int .i64 sd], .tree (page.map b8) n5 g5, .tree (pf.map uV) n6 g6] st K ↔
    K (if soundI ver size dg start pages proofs = false ∨ page.length ≠ 256 then .tup [.agg [.int .i64 0, .int .i64 0, .int .u64 0, .int .i64 0, .tree [] true true, .tree [] true true, .tree [] true true, .tree [] true true, .int .i64 0, .int .i64 0, .int .i64 0, .int .i64 0, .int .i64 0], .int .i64 1] else if (pages.length : Int) = countI size then .tup [.agg [.int .i64 0, .int .i64 0, .int .u64 0, .int .i64 0, .tree [] true true, .tree [] true true, .tree [] true true, .tree [] true true, .int .i64 0, .int .i64 0, .int .i64 0, .int .i64 0, .int .i64 0], .int .i64 10]
      else if checkI dg (countI size) pages.length page pf = false then .tup [.agg [.int .i64 0, .int .i64 0, .int .u64 0, .int .i64 0, .tree [] true true, .tree [] true true, .tree [] true true, .tree [] true true, .int .i64 0, .int .i64 0, .int .i64 0, .int .i64 0, .int .i64 0], .int .i64 12]
      else .tup [.agg [.int .i64 ver, .int .i64 size, .int .u64 dg, .int .i64 start, .tree (((pages ++ [(⟨page, n5, g5⟩ : By)]).map refB).map By.v) false false, .tree (((proofs ++ [(⟨pf, n6, g6⟩ : Sl Int)]).map refB).map (Sl.v uV)) false false, .tree [] true true, .tree [] true true, .int .i64 iv, .int .i64 bg, .int .i64 fi, .int .i64 ct, .int .i64 sd], .int .i64 0]) st := by
  rw [F_ro (mf := m_ref36_Put) rfl rfl]
  have e0 := fun st K => f_ref36_Sound (ver := ver) (size := size) (dg := dg) (start := start) (pages := pages) (n1 := n1) (g1 := g1) (proofs := proofs) (n2 := n2) (g2 := g2) (rows := rows) (n3 := n3) (g3 := g3) (proof := proof) (n4 := n4) (g4 := g4) (iv := iv) (bg := bg) (fi := fi) (ct := ct) (sd := sd) (st := st) (K := K) H.hl H.hlp H.hq'
  cases h1 : soundI ver size dg start pages proofs with
  | false => simp only [m_ref36_Put, bC, bW, bD, wpY', evR, evW, idx, ldc, okV, sub, setc, buildC, bnd, resOf, resL, res1, xorB, take2L, take2, takeL, take1, appF, rowOf, elemOk, plain, pl1, isRow, cellB, srcOf, LIM, Option.some.injEq, exists_eq_left', exists_eq_left, Prod.mk.injEq, if_true, if_false, ite_true, ite_false, ne_eq, eq_self, reduceCtorEq, ↓reduceIte, Nat.reduceEqDiff, Nat.reduceAdd, Nat.reduceSub, Nat.reduceMul, Nat.reduceLT, Nat.reduceLeDiff, Nat.reduceBEq, Nat.reduceBNe, Nat.reduceMod, Nat.reduceDiv, Nat.reducePow, Int.reduceEq, Int.reduceLT, Int.reduceLE, Int.reduceNeg, Int.reduceAdd, Int.reduceSub, Int.reduceMul, Int.reduceToNat, Int.reduceBEq, Int.reduceBNe, unused, fpO, rdR, rdW, own1, ptr1, ownC, sepOk, compat, disj, offR, e0, h1]
  | true =>
    obtain ⟨hsz, hcn, hpl, hp256⟩ := sound_parts h1
    by_cases h2 : (page.length : Int) = 256
    · have h2' : page.length = 256 := by omega
      by_cases h3 : (pages.length : Int) = countI size
      · simp only [m_ref36_Put, bC, bW, bD, wpY', evR, evW, idx, ldc, okV, sub, setc, buildC, bnd, resOf, resL, res1, xorB, take2L, take2, takeL, take1, appF, rowOf, elemOk, plain, pl1, isRow, cellB, srcOf, LIM, Option.some.injEq, exists_eq_left', exists_eq_left, Prod.mk.injEq, if_true, if_false, ite_true, ite_false, ne_eq, eq_self, reduceCtorEq, ↓reduceIte, Nat.reduceEqDiff, Nat.reduceAdd, Nat.reduceSub, Nat.reduceMul, Nat.reduceLT, Nat.reduceLeDiff, Nat.reduceBEq, Nat.reduceBNe, Nat.reduceMod, Nat.reduceDiv, Nat.reducePow, Int.reduceEq, Int.reduceLT, Int.reduceLE, Int.reduceNeg, Int.reduceAdd, Int.reduceSub, Int.reduceMul, Int.reduceToNat, Int.reduceBEq, Int.reduceBNe, unused, fpO, rdR, rdW, own1, ptr1, ownC, sepOk, compat, disj, offR, e0, h1, h2, h2', f_ref36_Count (n := size) (by omega) (by omega), eq_true h3]
      · cases h4 : checkI dg (countI size) pages.length page pf with
        | false => simp only [m_ref36_Put, bC, bW, bD, wpY', evR, evW, idx, ldc, okV, sub, setc, buildC, bnd, resOf, resL, res1, xorB, take2L, take2, takeL, take1, appF, rowOf, elemOk, plain, pl1, isRow, cellB, srcOf, LIM, Option.some.injEq, exists_eq_left', exists_eq_left, Prod.mk.injEq, if_true, if_false, ite_true, ite_false, ne_eq, eq_self, reduceCtorEq, ↓reduceIte, Nat.reduceEqDiff, Nat.reduceAdd, Nat.reduceSub, Nat.reduceMul, Nat.reduceLT, Nat.reduceLeDiff, Nat.reduceBEq, Nat.reduceBNe, Nat.reduceMod, Nat.reduceDiv, Nat.reducePow, Int.reduceEq, Int.reduceLT, Int.reduceLE, Int.reduceNeg, Int.reduceAdd, Int.reduceSub, Int.reduceMul, Int.reduceToNat, Int.reduceBEq, Int.reduceBNe, unused, fpO, rdR, rdW, own1, ptr1, ownC, sepOk, compat, disj, offR, e0, h1, h2, h2', f_ref36_Count (n := size) (by omega) (by omega), h3, f_ref35_Check (page := page) (ps := pf) hpg (by omega), h4]
        | true =>
          have hlen : pages.length ≤ 16 := by unfold countI at hcn; omega
          simp only [m_ref36_Put, bC, bW, bD, wpY', evR, evW, idx, ldc, okV, sub, setc, buildC, bnd, resOf, resL, res1, xorB, take2L, take2, takeL, take1, appF, rowOf, elemOk, plain, pl1, isRow, cellB, srcOf, LIM, Option.some.injEq, exists_eq_left', exists_eq_left, Prod.mk.injEq, if_true, if_false, ite_true, ite_false, ne_eq, eq_self, reduceCtorEq, ↓reduceIte, Nat.reduceEqDiff, Nat.reduceAdd, Nat.reduceSub, Nat.reduceMul, Nat.reduceLT, Nat.reduceLeDiff, Nat.reduceBEq, Nat.reduceBNe, Nat.reduceMod, Nat.reduceDiv, Nat.reducePow, Int.reduceEq, Int.reduceLT, Int.reduceLE, Int.reduceNeg, Int.reduceAdd, Int.reduceSub, Int.reduceMul, Int.reduceToNat, Int.reduceBEq, Int.reduceBNe, unused, fpO, rdR, rdW, own1, ptr1, ownC, sepOk, compat, disj, offR, e0, h1, h2, h2', f_ref36_Count (n := size) (by omega) (by omega), h3, f_ref35_Check (page := page) (ps := pf) hpg (by omega), h4, L_ref36_Put_0_eq]
          refine L_rput (ver := ver) (size := size) (dg := dg) (start := start) (iv := iv) (bg := bg) (fi := fi) (ct := ct) (sd := sd) (pages := pages) (n1 := n1) (g1 := g1) (proofs := proofs) (n2 := n2) (g2 := g2) (rows := rows) (n3 := n3) (g3 := g3) (proof := proof) (n4 := n4) (g4 := g4) (ZZ := [.int .i64 0, .int .i64 0, .int .u64 0, .int .i64 0, .tree [] true true, .tree [] true true, .tree [] true true, .tree [] true true, .int .i64 0, .int .i64 0, .int .i64 0, .int .i64 0, .int .i64 0]) (by omega) hpl hp256 (fun q hq => (H.hq q hq).1) pages.length 0 (.tree [] true true) (.tree [] true true) _ 3 (by omega) (.inl ⟨rfl, rfl, rfl, rfl⟩) (fun j hj => by simp (disch := omega) only [bC, bD, bH, wpY', evR, evW, idx, ldc, okV, sub, setc, buildC, bnd, resOf, resL, res1, xorB, take2L, take2, takeL, take1, appF, rowOf, elemOk, plain, pl1, isRow, cellB, srcOf, LIM, Option.some.injEq, exists_eq_left', exists_eq_left, Prod.mk.injEq, if_true, if_false, ite_true, ite_false, ne_eq, eq_self, reduceCtorEq, ↓reduceIte, Nat.reduceEqDiff, Nat.reduceAdd, Nat.reduceSub, Nat.reduceMul, Nat.reduceLT, Nat.reduceLeDiff, Nat.reduceBEq, Nat.reduceBNe, Nat.reduceMod, Nat.reduceDiv, Nat.reducePow, Int.reduceEq, Int.reduceLT, Int.reduceLE, Int.reduceNeg, Int.reduceAdd, Int.reduceSub, Int.reduceMul, Int.reduceToNat, Int.reduceBEq, Int.reduceBNe, unused, fpO, rdR, rdW, own1, ptr1, ownC, sepOk, compat, disj, offR]) (by omega) rfl rfl rfl fun v4 v5 h nx hv hf hnx k1 k2 => ?_
          have f0 := hf nx (Nat.le_refl _)
          have f1 := hf (nx + 1) (by omega)
          have f2 := hf (nx + 2) (by omega)
          have f3 := hf (nx + 3) (by omega)
          have hp0 : (256 : Nat) ≤ 4294967296 := by omega
          have htk : List.take 256 (page.map b8) = page.map b8 := List.take_of_length_le (by simp; omega)
          have eA : ((pages ++ [(⟨page, n5, g5⟩ : By)]).map refB).map By.v = (pages.map refB).map By.v ++ [.tree (page.map b8) false false] := by simp [By.v, Sl.v, refB, h2']
          have hA1 : (pages.map refB).length + 1 ≤ 4294967296 := by simp; omega
          have hB1 : (proofs.map refB).length + 1 ≤ 4294967296 := by simp; omega
          by_cases hr0 : pf.length = 0
          · have hr0' : pf = [] := List.length_eq_zero_iff.1 hr0
            have eB : ((proofs ++ [(⟨pf, n6, g6⟩ : Sl Int)]).map refB).map (Sl.v uV) = (proofs.map refB).map (Sl.v uV) ++ [.tree [] true true] := by simp [Sl.v, refB, hr0']
            rw [eA, eB]
            generalize pages.map refB = A at hv hA1 ⊢
            generalize proofs.map refB = B at hv hB1 ⊢
            rcases hv with hv | hv
            · obtain ⟨rfl, rfl, rfl, rfl⟩ := hv
              simp (disch := omega) only [bC, bD, bH, wpY', evR, evW, idx, ldc, okV, sub, setc, buildC, bnd, resOf, resL, res1, xorB, take2L, take2, takeL, take1, appF, rowOf, elemOk, plain, pl1, isRow, cellB, srcOf, LIM, Option.some.injEq, exists_eq_left', exists_eq_left, Prod.mk.injEq, if_true, if_false, ite_true, ite_false, ne_eq, eq_self, reduceCtorEq, ↓reduceIte, Nat.reduceEqDiff, Nat.reduceAdd, Nat.reduceSub, Nat.reduceMul, Nat.reduceLT, Nat.reduceLeDiff, Nat.reduceBEq, Nat.reduceBNe, Nat.reduceMod, Nat.reduceDiv, Nat.reducePow, Int.reduceEq, Int.reduceLT, Int.reduceLE, Int.reduceNeg, Int.reduceAdd, Int.reduceSub, Int.reduceMul, Int.reduceToNat, Int.reduceBEq, Int.reduceBNe, unused, fpO, rdR, rdW, own1, ptr1, ownC, sepOk, compat, disj, offR, k1, k2, h2', hp0, htk, b8_len1, b8_flat, b8_cB, b8_all, f0, f1, f2, f3, hr0', Nat.add_assoc]
            · obtain ⟨a, b, hab, rfl, rfl, ha, hb, ha3, han, hb3, hbn, hne⟩ := hv
              have hTA : List.take (A.length + 1) (A.map By.v ++ [.tree (page.map b8) false false]) = A.map By.v ++ [.tree (page.map b8) false false] := List.take_of_length_le (by simp)
              have hTB : ∀ x : SV, List.take (B.length + 1) (B.map (Sl.v uV) ++ [x]) = B.map (Sl.v uV) ++ [x] := fun x => List.take_of_length_le (by simp)
              simp (disch := omega) only [bC, bD, bH, wpY', evR, evW, idx, ldc, okV, sub, setc, buildC, bnd, resOf, resL, res1, xorB, take2L, take2, takeL, take1, appF, rowOf, elemOk, plain, pl1, isRow, cellB, srcOf, LIM, Option.some.injEq, exists_eq_left', exists_eq_left, Prod.mk.injEq, if_true, if_false, ite_true, ite_false, ne_eq, eq_self, reduceCtorEq, ↓reduceIte, Nat.reduceEqDiff, Nat.reduceAdd, Nat.reduceSub, Nat.reduceMul, Nat.reduceLT, Nat.reduceLeDiff, Nat.reduceBEq, Nat.reduceBNe, Nat.reduceMod, Nat.reduceDiv, Nat.reducePow, Int.reduceEq, Int.reduceLT, Int.reduceLE, Int.reduceNeg, Int.reduceAdd, Int.reduceSub, Int.reduceMul, Int.reduceToNat, Int.reduceBEq, Int.reduceBNe, unused, fpO, rdR, rdW, own1, ptr1, ownC, sepOk, compat, disj, offR, k1, k2, h2', hp0, htk, b8_len1, b8_flat, b8_cB, b8_all, f0, f1, f2, f3, hr0', ha, hb, hA1, hB1, hTA, hTB, By_all, Su_all, Nat.add_assoc]
          · have eB : ((proofs ++ [(⟨pf, n6, g6⟩ : Sl Int)]).map refB).map (Sl.v uV) = (proofs.map refB).map (Sl.v uV) ++ [.tree (pf.map uV) false false] := by simp [Sl.v, refB, hr0]
            have htu : List.take pf.length (pf.map uV) = pf.map uV := take_len_map
            rw [eA, eB]
            generalize pages.map refB = A at hv hA1 ⊢
            generalize proofs.map refB = B at hv hB1 ⊢
            rcases hv with hv | hv
            · obtain ⟨rfl, rfl, rfl, rfl⟩ := hv
              simp (disch := omega) only [bC, bD, bH, wpY', evR, evW, idx, ldc, okV, sub, setc, buildC, bnd, resOf, resL, res1, xorB, take2L, take2, takeL, take1, appF, rowOf, elemOk, plain, pl1, isRow, cellB, srcOf, LIM, Option.some.injEq, exists_eq_left', exists_eq_left, Prod.mk.injEq, if_true, if_false, ite_true, ite_false, ne_eq, eq_self, reduceCtorEq, ↓reduceIte, Nat.reduceEqDiff, Nat.reduceAdd, Nat.reduceSub, Nat.reduceMul, Nat.reduceLT, Nat.reduceLeDiff, Nat.reduceBEq, Nat.reduceBNe, Nat.reduceMod, Nat.reduceDiv, Nat.reducePow, Int.reduceEq, Int.reduceLT, Int.reduceLE, Int.reduceNeg, Int.reduceAdd, Int.reduceSub, Int.reduceMul, Int.reduceToNat, Int.reduceBEq, Int.reduceBNe, unused, fpO, rdR, rdW, own1, ptr1, ownC, sepOk, compat, disj, offR, k1, k2, h2', hp0, htk, b8_len1, b8_flat, b8_cB, b8_all, f0, f1, f2, f3, hr0, hpf, htu, uV_len1, uV_flat, uV_cB, uV_all, Nat.add_assoc]
            · obtain ⟨a, b, hab, rfl, rfl, ha, hb, ha3, han, hb3, hbn, hne⟩ := hv
              have hTA : List.take (A.length + 1) (A.map By.v ++ [.tree (page.map b8) false false]) = A.map By.v ++ [.tree (page.map b8) false false] := List.take_of_length_le (by simp)
              have hTB : ∀ x : SV, List.take (B.length + 1) (B.map (Sl.v uV) ++ [x]) = B.map (Sl.v uV) ++ [x] := fun x => List.take_of_length_le (by simp)
              simp (disch := omega) only [bC, bD, bH, wpY', evR, evW, idx, ldc, okV, sub, setc, buildC, bnd, resOf, resL, res1, xorB, take2L, take2, takeL, take1, appF, rowOf, elemOk, plain, pl1, isRow, cellB, srcOf, LIM, Option.some.injEq, exists_eq_left', exists_eq_left, Prod.mk.injEq, if_true, if_false, ite_true, ite_false, ne_eq, eq_self, reduceCtorEq, ↓reduceIte, Nat.reduceEqDiff, Nat.reduceAdd, Nat.reduceSub, Nat.reduceMul, Nat.reduceLT, Nat.reduceLeDiff, Nat.reduceBEq, Nat.reduceBNe, Nat.reduceMod, Nat.reduceDiv, Nat.reducePow, Int.reduceEq, Int.reduceLT, Int.reduceLE, Int.reduceNeg, Int.reduceAdd, Int.reduceSub, Int.reduceMul, Int.reduceToNat, Int.reduceBEq, Int.reduceBNe, unused, fpO, rdR, rdW, own1, ptr1, ownC, sepOk, compat, disj, offR, k1, k2, h2', hp0, htk, b8_len1, b8_flat, b8_cB, b8_all, f0, f1, f2, f3, hr0, hpf, htu, uV_len1, uV_flat, uV_cB, uV_all, ha, hb, hA1, hB1, hTA, hTB, By_all, Su_all, Nat.add_assoc]
    · have h2' : page.length ≠ 256 := by omega
      simp only [m_ref36_Put, bC, bW, bD, wpY', evR, evW, idx, ldc, okV, sub, setc, buildC, bnd, resOf, resL, res1, xorB, take2L, take2, takeL, take1, appF, rowOf, elemOk, plain, pl1, isRow, cellB, srcOf, LIM, Option.some.injEq, exists_eq_left', exists_eq_left, Prod.mk.injEq, if_true, if_false, ite_true, ite_false, ne_eq, eq_self, reduceCtorEq, ↓reduceIte, Nat.reduceEqDiff, Nat.reduceAdd, Nat.reduceSub, Nat.reduceMul, Nat.reduceLT, Nat.reduceLeDiff, Nat.reduceBEq, Nat.reduceBNe, Nat.reduceMod, Nat.reduceDiv, Nat.reducePow, Int.reduceEq, Int.reduceLT, Int.reduceLE, Int.reduceNeg, Int.reduceAdd, Int.reduceSub, Int.reduceMul, Int.reduceToNat, Int.reduceBEq, Int.reduceBNe, unused, fpO, rdR, rdW, own1, ptr1, ownC, sepOk, compat, disj, offR, e0, h1, h2, h2', or_true]
end
end Go.Proofs.YtfmbdcmjgnikiaaDoor.Sm
namespace Go.Proofs.YtfmbdcmjgnikiaaDoor.Sm
open Go Go.RowKit

theorem ite3 {α : Type} {p q : Prop} [Decidable p] [Decidable q] {a b : α} : (if p then (if q then a else b) else b) = if p ∧ q then a else b := by
  by_cases hp : p <;> by_cases hq : q <;> simp [hp, hq]
section
variable {h : Heap} {nx wb : Nat} {ls : List (Nat × LRec)} {Q : Ex → St → Prop} {R : Prop} {st : St} {K : SV → St → Prop}
theorem f_image_Whole {ver size dg start : Int} {pages : List By} {n1 g1 : Bool} {proofs : List (Sl Int)} {n2 g2 : Bool} {rows : List Rw} {n3 g3 : Bool} {proof : List Int} {n4 g4 : Bool} {iv bg fi ct sd : Int} (H : SpOK pages n1 proofs n2) :
    WpF XX .ro n_image_Whole [.agg [.int .i64 ver, .int .i64 size, .int .u64 dg, .int .i64 start, .tree (pages.map By.v) n1 g1, .tree (proofs.map (Sl.v uV)) n2 g2, .tree (rows.map Rw.v) n3 g3, .tree (proof.map uV) n4 g4, .int .i64 iv, .int .i64 bg, .int .i64 fi, .int .i64 ct, .int .i64 sd]] st K ↔
    K (if soundI ver size dg start pages proofs = true ∧ joinOK pages size = true ∧ allZ ((allB pages).drop size.toNat) = true then .tup [.tree (((allB pages).take size.toNat).map b8) false true, .bool true] else .tup [.tree [] true true, .bool false]) st := by
  rw [F_ro (mf := m_image_Whole) rfl rfl]
  have e0 := fun st K => f_image_sound (ver := ver) (size := size) (dg := dg) (start := start) (pages := pages) (n1 := n1) (g1 := g1) (proofs := proofs) (n2 := n2) (g2 := g2) (rows := rows) (n3 := n3) (g3 := g3) (proof := proof) (n4 := n4) (g4 := g4) (iv := iv) (bg := bg) (fi := fi) (ct := ct) (sd := sd) (st := st) (K := K) H.hl H.hlp H.hq'
  cases h1 : soundI ver size dg start pages proofs with
  | false => simp only [m_image_Whole, bC, bW, bD, wpY', evR, evW, idx, ldc, okV, sub, setc, buildC, bnd, resOf, resL, res1, xorB, take2L, take2, takeL, take1, appF, rowOf, elemOk, plain, pl1, isRow, cellB, srcOf, LIM, Option.some.injEq, exists_eq_left', exists_eq_left, Prod.mk.injEq, if_true, if_false, ite_true, ite_false, ne_eq, eq_self, reduceCtorEq, ↓reduceIte, Nat.reduceEqDiff, Nat.reduceAdd, Nat.reduceSub, Nat.reduceMul, Nat.reduceLT, Nat.reduceLeDiff, Nat.reduceBEq, Nat.reduceBNe, Nat.reduceMod, Nat.reduceDiv, Nat.reducePow, Int.reduceEq, Int.reduceLT, Int.reduceLE, Int.reduceNeg, Int.reduceAdd, Int.reduceSub, Int.reduceMul, Int.reduceToNat, Int.reduceBEq, Int.reduceBNe, unused, fpO, rdR, rdW, own1, ptr1, ownC, sepOk, compat, disj, offR, e0, h1]
  | true =>
    cases h2 : joinOK pages size with
    | false => simp only [m_image_Whole, bC, bW, bD, wpY', evR, evW, idx, ldc, okV, sub, setc, buildC, bnd, resOf, resL, res1, xorB, take2L, take2, takeL, take1, appF, rowOf, elemOk, plain, pl1, isRow, cellB, srcOf, LIM, Option.some.injEq, exists_eq_left', exists_eq_left, Prod.mk.injEq, if_true, if_false, ite_true, ite_false, ne_eq, eq_self, reduceCtorEq, ↓reduceIte, Nat.reduceEqDiff, Nat.reduceAdd, Nat.reduceSub, Nat.reduceMul, Nat.reduceLT, Nat.reduceLeDiff, Nat.reduceBEq, Nat.reduceBNe, Nat.reduceMod, Nat.reduceDiv, Nat.reducePow, Int.reduceEq, Int.reduceLT, Int.reduceLE, Int.reduceNeg, Int.reduceAdd, Int.reduceSub, Int.reduceMul, Int.reduceToNat, Int.reduceBEq, Int.reduceBNe, unused, fpO, rdR, rdW, own1, ptr1, ownC, sepOk, compat, disj, offR, e0, h1, f_image_Join H.hl, h2]
    | true =>
      cases h3 : allZ ((allB pages).drop size.toNat) with
      | false => simp only [m_image_Whole, bC, bW, bD, wpY', evR, evW, idx, ldc, okV, sub, setc, buildC, bnd, resOf, resL, res1, xorB, take2L, take2, takeL, take1, appF, rowOf, elemOk, plain, pl1, isRow, cellB, srcOf, LIM, Option.some.injEq, exists_eq_left', exists_eq_left, Prod.mk.injEq, if_true, if_false, ite_true, ite_false, ne_eq, eq_self, reduceCtorEq, ↓reduceIte, Nat.reduceEqDiff, Nat.reduceAdd, Nat.reduceSub, Nat.reduceMul, Nat.reduceLT, Nat.reduceLeDiff, Nat.reduceBEq, Nat.reduceBNe, Nat.reduceMod, Nat.reduceDiv, Nat.reducePow, Int.reduceEq, Int.reduceLT, Int.reduceLE, Int.reduceNeg, Int.reduceAdd, Int.reduceSub, Int.reduceMul, Int.reduceToNat, Int.reduceBEq, Int.reduceBNe, unused, fpO, rdR, rdW, own1, ptr1, ownC, sepOk, compat, disj, offR, e0, h1, f_image_Join H.hl, h2, h3]
      | true => simp only [m_image_Whole, bC, bW, bD, wpY', evR, evW, idx, ldc, okV, sub, setc, buildC, bnd, resOf, resL, res1, xorB, take2L, take2, takeL, take1, appF, rowOf, elemOk, plain, pl1, isRow, cellB, srcOf, LIM, Option.some.injEq, exists_eq_left', exists_eq_left, Prod.mk.injEq, if_true, if_false, ite_true, ite_false, ne_eq, eq_self, reduceCtorEq, ↓reduceIte, Nat.reduceEqDiff, Nat.reduceAdd, Nat.reduceSub, Nat.reduceMul, Nat.reduceLT, Nat.reduceLeDiff, Nat.reduceBEq, Nat.reduceBNe, Nat.reduceMod, Nat.reduceDiv, Nat.reducePow, Int.reduceEq, Int.reduceLT, Int.reduceLE, Int.reduceNeg, Int.reduceAdd, Int.reduceSub, Int.reduceMul, Int.reduceToNat, Int.reduceBEq, Int.reduceBNe, unused, fpO, rdR, rdW, own1, ptr1, ownC, sepOk, compat, disj, offR, e0, h1, f_image_Join H.hl, h2, h3]
theorem f_ref36_Whole {ver size dg start : Int} {pages : List By} {n1 g1 : Bool} {proofs : List (Sl Int)} {n2 g2 : Bool} {rows : List Rw} {n3 g3 : Bool} {proof : List Int} {n4 g4 : Bool} {iv bg fi ct sd : Int} (H : SpOK pages n1 proofs n2) :
    WpF XX .ro n_ref36_Whole [.agg [.int .i64 ver, .int .i64 size, .int .u64 dg, .int .i64 start, .tree (pages.map By.v) n1 g1, .tree (proofs.map (Sl.v uV)) n2 g2, .tree (rows.map Rw.v) n3 g3, .tree (proof.map uV) n4 g4, .int .i64 iv, .int .i64 bg, .int .i64 fi, .int .i64 ct, .int .i64 sd]] st K ↔
    K (if soundI ver size dg start pages proofs = true ∧ joinOK pages size = true ∧ allZ ((allB pages).drop size.toNat) = true then .tup [.tree (((allB pages).take size.toNat).map b8) false false, .bool true] else .tup [.tree [] true true, .bool false]) st := by
  rw [F_ro (mf := m_ref36_Whole) rfl rfl]
  have e0 := fun st K => f_ref36_Sound (ver := ver) (size := size) (dg := dg) (start := start) (pages := pages) (n1 := n1) (g1 := g1) (proofs := proofs) (n2 := n2) (g2 := g2) (rows := rows) (n3 := n3) (g3 := g3) (proof := proof) (n4 := n4) (g4 := g4) (iv := iv) (bg := bg) (fi := fi) (ct := ct) (sd := sd) (st := st) (K := K) H.hl H.hlp H.hq'
  cases h1 : soundI ver size dg start pages proofs with
  | false => simp only [m_ref36_Whole, bC, bW, bD, wpY', evR, evW, idx, ldc, okV, sub, setc, buildC, bnd, resOf, resL, res1, xorB, take2L, take2, takeL, take1, appF, rowOf, elemOk, plain, pl1, isRow, cellB, srcOf, LIM, Option.some.injEq, exists_eq_left', exists_eq_left, Prod.mk.injEq, if_true, if_false, ite_true, ite_false, ne_eq, eq_self, reduceCtorEq, ↓reduceIte, Nat.reduceEqDiff, Nat.reduceAdd, Nat.reduceSub, Nat.reduceMul, Nat.reduceLT, Nat.reduceLeDiff, Nat.reduceBEq, Nat.reduceBNe, Nat.reduceMod, Nat.reduceDiv, Nat.reducePow, Int.reduceEq, Int.reduceLT, Int.reduceLE, Int.reduceNeg, Int.reduceAdd, Int.reduceSub, Int.reduceMul, Int.reduceToNat, Int.reduceBEq, Int.reduceBNe, unused, fpO, rdR, rdW, own1, ptr1, ownC, sepOk, compat, disj, offR, e0, h1]
  | true =>
    cases h2 : joinOK pages size with
    | false => simp only [m_ref36_Whole, bC, bW, bD, wpY', evR, evW, idx, ldc, okV, sub, setc, buildC, bnd, resOf, resL, res1, xorB, take2L, take2, takeL, take1, appF, rowOf, elemOk, plain, pl1, isRow, cellB, srcOf, LIM, Option.some.injEq, exists_eq_left', exists_eq_left, Prod.mk.injEq, if_true, if_false, ite_true, ite_false, ne_eq, eq_self, reduceCtorEq, ↓reduceIte, Nat.reduceEqDiff, Nat.reduceAdd, Nat.reduceSub, Nat.reduceMul, Nat.reduceLT, Nat.reduceLeDiff, Nat.reduceBEq, Nat.reduceBNe, Nat.reduceMod, Nat.reduceDiv, Nat.reducePow, Int.reduceEq, Int.reduceLT, Int.reduceLE, Int.reduceNeg, Int.reduceAdd, Int.reduceSub, Int.reduceMul, Int.reduceToNat, Int.reduceBEq, Int.reduceBNe, unused, fpO, rdR, rdW, own1, ptr1, ownC, sepOk, compat, disj, offR, e0, h1, f_ref36_Join H.hl, h2]
    | true =>
      cases h3 : allZ ((allB pages).drop size.toNat) with
      | false => simp only [m_ref36_Whole, bC, bW, bD, wpY', evR, evW, idx, ldc, okV, sub, setc, buildC, bnd, resOf, resL, res1, xorB, take2L, take2, takeL, take1, appF, rowOf, elemOk, plain, pl1, isRow, cellB, srcOf, LIM, Option.some.injEq, exists_eq_left', exists_eq_left, Prod.mk.injEq, if_true, if_false, ite_true, ite_false, ne_eq, eq_self, reduceCtorEq, ↓reduceIte, Nat.reduceEqDiff, Nat.reduceAdd, Nat.reduceSub, Nat.reduceMul, Nat.reduceLT, Nat.reduceLeDiff, Nat.reduceBEq, Nat.reduceBNe, Nat.reduceMod, Nat.reduceDiv, Nat.reducePow, Int.reduceEq, Int.reduceLT, Int.reduceLE, Int.reduceNeg, Int.reduceAdd, Int.reduceSub, Int.reduceMul, Int.reduceToNat, Int.reduceBEq, Int.reduceBNe, unused, fpO, rdR, rdW, own1, ptr1, ownC, sepOk, compat, disj, offR, e0, h1, f_ref36_Join H.hl, h2, h3]
      | true => simp only [m_ref36_Whole, bC, bW, bD, wpY', evR, evW, idx, ldc, okV, sub, setc, buildC, bnd, resOf, resL, res1, xorB, take2L, take2, takeL, take1, appF, rowOf, elemOk, plain, pl1, isRow, cellB, srcOf, LIM, Option.some.injEq, exists_eq_left', exists_eq_left, Prod.mk.injEq, if_true, if_false, ite_true, ite_false, ne_eq, eq_self, reduceCtorEq, ↓reduceIte, Nat.reduceEqDiff, Nat.reduceAdd, Nat.reduceSub, Nat.reduceMul, Nat.reduceLT, Nat.reduceLeDiff, Nat.reduceBEq, Nat.reduceBNe, Nat.reduceMod, Nat.reduceDiv, Nat.reducePow, Int.reduceEq, Int.reduceLT, Int.reduceLE, Int.reduceNeg, Int.reduceAdd, Int.reduceSub, Int.reduceMul, Int.reduceToNat, Int.reduceBEq, Int.reduceBNe, unused, fpO, rdR, rdW, own1, ptr1, ownC, sepOk, compat, disj, offR, e0, h1, f_ref36_Join H.hl, h2, h3]

/-! ### equal states -/
def rwE (l : List Rw) : List (Int × List UInt8) := l.map fun r => (r.mask, r.data.xs)
theorem rwE_c {r : Rw} {l : List Rw} : rwE (r :: l) = (r.mask, r.data.xs) :: rwE l := rfl
theorem L_ref36_Same {ver size dg start : Int} {pages : List By} {n1 g1 : Bool} {proofs : List (Sl Int)} {n2 g2 : Bool} {rows : List Rw} {n3 g3 : Bool} {proof : List Int} {n4 g4 : Bool} {iv bg fi ct sd : Int} {ver' size' dg' start' : Int} {pages' : List By} {n1' g1' : Bool} {proofs' : List (Sl Int)} {n2' g2' : Bool} {rows' : List Rw} {n3' g3' : Bool} {proof' : List Int} {n4' g4' : Bool} {iv' bg' fi' ct' sd' : Int} (ha : rows.length < 4611686018427387904) (hs : ∀ r ∈ rows, r.data.xs.length < 4611686018427387904) (hl : rows.length = rows'.length) : ∀ (d k : Nat), k + d = rows.length →
    (rwE (rows.drop k) = rwE (rows'.drop k) → (Q (.exit 0) ⟨[], [(1, [.int .i64 ver', .int .i64 size', .int .u64 dg', .int .i64 start', .tree (pages'.map By.v) n1' g1', .tree (proofs'.map (Sl.v uV)) n2' g2', .tree (rows'.map Rw.v) n3' g3', .tree (proof'.map uV) n4' g4', .int .i64 iv', .int .i64 bg', .int .i64 fi', .int .i64 ct', .int .i64 sd']), (0, [.int .i64 ver, .int .i64 size, .int .u64 dg, .int .i64 start, .tree (pages.map By.v) n1 g1, .tree (proofs.map (Sl.v uV)) n2 g2, .tree (rows.map Rw.v) n3 g3, .tree (proof.map uV) n4 g4, .int .i64 iv, .int .i64 bg, .int .i64 fi, .int .i64 ct, .int .i64 sd])], 2, ls, 0⟩ ↔ R)) → (¬ rwE (rows.drop k) = rwE (rows'.drop k) → ∀ e, getE e 4 = .bool false → (Q .ret ⟨e, [(1, [.int .i64 ver', .int .i64 size', .int .u64 dg', .int .i64 start', .tree (pages'.map By.v) n1' g1', .tree (proofs'.map (Sl.v uV)) n2' g2', .tree (rows'.map Rw.v) n3' g3', .tree (proof'.map uV) n4' g4', .int .i64 iv', .int .i64 bg', .int .i64 fi', .int .i64 ct', .int .i64 sd']), (0, [.int .i64 ver, .int .i64 size, .int .u64 dg, .int .i64 start, .tree (pages.map By.v) n1 g1, .tree (proofs.map (Sl.v uV)) n2 g2, .tree (rows.map Rw.v) n3 g3, .tree (proof.map uV) n4 g4, .int .i64 iv, .int .i64 bg, .int .i64 fi, .int .i64 ct, .int .i64 sd])], 2, ls, 0⟩ ↔ R)) →
    (L_ref36_Same_0 XX (.ptr 0 0) (.ptr 1 0) (.int .i64 k) [(1, [.int .i64 ver', .int .i64 size', .int .u64 dg', .int .i64 start', .tree (pages'.map By.v) n1' g1', .tree (proofs'.map (Sl.v uV)) n2' g2', .tree (rows'.map Rw.v) n3' g3', .tree (proof'.map uV) n4' g4', .int .i64 iv', .int .i64 bg', .int .i64 fi', .int .i64 ct', .int .i64 sd']), (0, [.int .i64 ver, .int .i64 size, .int .u64 dg, .int .i64 start, .tree (pages.map By.v) n1 g1, .tree (proofs.map (Sl.v uV)) n2 g2, .tree (rows.map Rw.v) n3 g3, .tree (proof.map uV) n4 g4, .int .i64 iv, .int .i64 bg, .int .i64 fi, .int .i64 ct, .int .i64 sd])] 2 ls 0 Q ↔ R) := by
  intro d
  induction d with
  | zero =>
    intro k hk q1 q2
    obtain rfl : k = rows.length := by omega
    rw [L_ref36_Same_0_unf]
    simp only [b_ref36_Same_0, bC, bW, wpY', evR, evW, idx, ldc, okV, sub, setc, buildC, bnd, resOf, resL, res1, xorB, take2L, take2, takeL, take1, appF, rowOf, elemOk, plain, pl1, isRow, cellB, srcOf, LIM, Option.some.injEq, exists_eq_left', exists_eq_left, Prod.mk.injEq, if_true, if_false, ite_true, ite_false, ne_eq, eq_self, reduceCtorEq, ↓reduceIte, Nat.reduceEqDiff, Nat.reduceAdd, Nat.reduceSub, Nat.reduceMul, Nat.reduceLT, Nat.reduceLeDiff, Nat.reduceBEq, Nat.reduceBNe, Nat.reduceMod, Nat.reduceDiv, Nat.reducePow, Int.reduceEq, Int.reduceLT, Int.reduceLE, Int.reduceNeg, Int.reduceAdd, Int.reduceSub, Int.reduceMul, Int.reduceToNat, Int.reduceBEq, Int.reduceBNe, Int.lt_irrefl]
    exact q1 (by rw [List.drop_length, hl, List.drop_length])
  | succ d ih =>
    intro k hk q1 q2
    have hlt : k < rows.length := by omega
    obtain ⟨c, hc, hd⟩ := get_some hlt
    obtain ⟨c', hc', hd'⟩ := get_some (l := rows') (k := k) (by omega)
    have hcs := hs c (List.mem_of_getElem? hc)
    have hlb : ((k : Int) < (rows'.length : Int)) = True := lt_c (by omega)
    have hx : (rows.map Rw.v)[k]? = some (.agg [.int .i64 c.mask, .tree (c.data.xs.map b8) c.data.nl c.data.tg]) := by rw [List.getElem?_map, hc]; rfl
    have hx' : (rows'.map Rw.v)[k]? = some (.agg [.int .i64 c'.mask, .tree (c'.data.xs.map b8) c'.data.nl c'.data.tg]) := by rw [List.getElem?_map, hc']; rfl
    rw [hd, hd', rwE_c, rwE_c, cons_eq_iff, Prod.mk.injEq] at q1 q2
    rw [L_ref36_Same_0_unf]
    by_cases hm : c.mask = c'.mask
    · by_cases hcc : c.data.xs = c'.data.xs
      · simp only [b_ref36_Same_0, bC, bW, bD, wpY', evR, evW, idx, ldc, okV, sub, setc, buildC, bnd, resOf, resL, res1, xorB, take2L, take2, takeL, take1, appF, rowOf, elemOk, plain, pl1, isRow, cellB, srcOf, LIM, Option.some.injEq, exists_eq_left', exists_eq_left, Prod.mk.injEq, if_true, if_false, ite_true, ite_false, ne_eq, eq_self, reduceCtorEq, ↓reduceIte, Nat.reduceEqDiff, Nat.reduceAdd, Nat.reduceSub, Nat.reduceMul, Nat.reduceLT, Nat.reduceLeDiff, Nat.reduceBEq, Nat.reduceBNe, Nat.reduceMod, Nat.reduceDiv, Nat.reducePow, Int.reduceEq, Int.reduceLT, Int.reduceLE, Int.reduceNeg, Int.reduceAdd, Int.reduceSub, Int.reduceMul, Int.reduceToNat, Int.reduceBEq, Int.reduceBNe, unused, fpO, rdR, rdW, own1, ptr1, ownC, sepOk, compat, disj, offR, lt_c hlt, hlb, hx, hx', eq_true hm, f_ref36_Bytes hcs, eq_true hcc, L_ref36_Same_0_eq, wi_s hlt (by omega)]
        exact ih (k + 1) (by omega) (fun e => q1 ⟨⟨hm, hcc⟩, e⟩) (fun e => q2 fun e' => e e'.2)
      · simp only [b_ref36_Same_0, bC, bW, bD, wpY', evR, evW, idx, ldc, okV, sub, setc, buildC, bnd, resOf, resL, res1, xorB, take2L, take2, takeL, take1, appF, rowOf, elemOk, plain, pl1, isRow, cellB, srcOf, LIM, Option.some.injEq, exists_eq_left', exists_eq_left, Prod.mk.injEq, if_true, if_false, ite_true, ite_false, ne_eq, eq_self, reduceCtorEq, ↓reduceIte, Nat.reduceEqDiff, Nat.reduceAdd, Nat.reduceSub, Nat.reduceMul, Nat.reduceLT, Nat.reduceLeDiff, Nat.reduceBEq, Nat.reduceBNe, Nat.reduceMod, Nat.reduceDiv, Nat.reducePow, Int.reduceEq, Int.reduceLT, Int.reduceLE, Int.reduceNeg, Int.reduceAdd, Int.reduceSub, Int.reduceMul, Int.reduceToNat, Int.reduceBEq, Int.reduceBNe, unused, fpO, rdR, rdW, own1, ptr1, ownC, sepOk, compat, disj, offR, lt_c hlt, hlb, hx, hx', eq_true hm, f_ref36_Bytes hcs, hcc]
        exact q2 (fun e => hcc e.1.2) _ rfl
    · simp only [b_ref36_Same_0, bC, bW, bD, wpY', evR, evW, idx, ldc, okV, sub, setc, buildC, bnd, resOf, resL, res1, xorB, take2L, take2, takeL, take1, appF, rowOf, elemOk, plain, pl1, isRow, cellB, srcOf, LIM, Option.some.injEq, exists_eq_left', exists_eq_left, Prod.mk.injEq, if_true, if_false, ite_true, ite_false, ne_eq, eq_self, reduceCtorEq, ↓reduceIte, Nat.reduceEqDiff, Nat.reduceAdd, Nat.reduceSub, Nat.reduceMul, Nat.reduceLT, Nat.reduceLeDiff, Nat.reduceBEq, Nat.reduceBNe, Nat.reduceMod, Nat.reduceDiv, Nat.reducePow, Int.reduceEq, Int.reduceLT, Int.reduceLE, Int.reduceNeg, Int.reduceAdd, Int.reduceSub, Int.reduceMul, Int.reduceToNat, Int.reduceBEq, Int.reduceBNe, unused, fpO, rdR, rdW, own1, ptr1, ownC, sepOk, compat, disj, offR, lt_c hlt, hlb, hx, hx', hm]
      exact q2 (fun e => hm e.1.1) _ rfl
structure SpBnd (pages : List By) (proofs : List (Sl Int)) (rows : List Rw) (proof : List Int) : Prop where
  l1 : pages.length < 4611686018427387904
  l2 : proofs.length < 4611686018427387904
  l3 : rows.length < 4611686018427387904
  l4 : proof.length < 4611686018427387904
  s1 : ∀ p ∈ pages, p.xs.length < 4611686018427387904
  s2 : ∀ p ∈ proofs, p.xs.length < 4611686018427387904
  s3 : ∀ p ∈ rows, p.data.xs.length < 4611686018427387904
set_option maxHeartbeats 1000000 in
theorem f_ref36_Same {ver size dg start : Int} {pages : List By} {n1 g1 : Bool} {proofs : List (Sl Int)} {n2 g2 : Bool} {rows : List Rw} {n3 g3 : Bool} {proof : List Int} {n4 g4 : Bool} {iv bg fi ct sd : Int} {ver' size' dg' start' : Int} {pages' : List By} {n1' g1' : Bool} {proofs' : List (Sl Int)} {n2' g2' : Bool} {rows' : List Rw} {n3' g3' : Bool} {proof' : List Int} {n4' g4' : Bool} {iv' bg' fi' ct' sd' : Int} (B : SpBnd pages proofs rows proof) :
    WpF XX .ro n_ref36_Same [.agg [.int .i64 ver, .int .i64 size, .int .u64 dg, .int .i64 start, .tree (pages.map By.v) n1 g1, .tree (proofs.map (Sl.v uV)) n2 g2, .tree (rows.map Rw.v) n3 g3, .tree (proof.map uV) n4 g4, .int .i64 iv, .int .i64 bg, .int .i64 fi, .int .i64 ct, .int .i64 sd], .agg [.int .i64 ver', .int .i64 size', .int .u64 dg', .int .i64 start', .tree (pages'.map By.v) n1' g1', .tree (proofs'.map (Sl.v uV)) n2' g2', .tree (rows'.map Rw.v) n3' g3', .tree (proof'.map uV) n4' g4', .int .i64 iv', .int .i64 bg', .int .i64 fi', .int .i64 ct', .int .i64 sd']] st K ↔
    K (.bool (decide ((ver = ver' ∧ size = size' ∧ dg = dg' ∧ start = start') ∧ (iv = iv' ∧ bg = bg' ∧ fi = fi' ∧ ct = ct' ∧ sd = sd') ∧ inner pages = inner pages' ∧ inner proofs = inner proofs' ∧ proof = proof' ∧ rwE rows = rwE rows'))) st := by
  rw [F_ro (mf := m_ref36_Same) rfl rfl]
  by_cases h1 : ver = ver' ∧ size = size' ∧ dg = dg' ∧ start = start'
  case neg =>
    simp only [m_ref36_Same, bC, bW, bD, wpY', evR, evW, idx, ldc, okV, sub, setc, buildC, bnd, resOf, resL, res1, xorB, take2L, take2, takeL, take1, appF, rowOf, elemOk, plain, pl1, isRow, cellB, srcOf, LIM, Option.some.injEq, exists_eq_left', exists_eq_left, Prod.mk.injEq, if_true, if_false, ite_true, ite_false, ne_eq, eq_self, reduceCtorEq, ↓reduceIte, Nat.reduceEqDiff, Nat.reduceAdd, Nat.reduceSub, Nat.reduceMul, Nat.reduceLT, Nat.reduceLeDiff, Nat.reduceBEq, Nat.reduceBNe, Nat.reduceMod, Nat.reduceDiv, Nat.reducePow, Int.reduceEq, Int.reduceLT, Int.reduceLE, Int.reduceNeg, Int.reduceAdd, Int.reduceSub, Int.reduceMul, Int.reduceToNat, Int.reduceBEq, Int.reduceBNe, unused, fpO, rdR, rdW, own1, ptr1, ownC, sepOk, compat, disj, offR, f_ref36_Lists B.l1 B.s1, f_ref36_proofs B.l2 B.s2, f_ref35_Same B.l4, h1]
  by_cases h2 : iv = iv' ∧ bg = bg' ∧ fi = fi' ∧ ct = ct' ∧ sd = sd'
  case neg =>
    simp only [m_ref36_Same, bC, bW, bD, wpY', evR, evW, idx, ldc, okV, sub, setc, buildC, bnd, resOf, resL, res1, xorB, take2L, take2, takeL, take1, appF, rowOf, elemOk, plain, pl1, isRow, cellB, srcOf, LIM, Option.some.injEq, exists_eq_left', exists_eq_left, Prod.mk.injEq, if_true, if_false, ite_true, ite_false, ne_eq, eq_self, reduceCtorEq, ↓reduceIte, Nat.reduceEqDiff, Nat.reduceAdd, Nat.reduceSub, Nat.reduceMul, Nat.reduceLT, Nat.reduceLeDiff, Nat.reduceBEq, Nat.reduceBNe, Nat.reduceMod, Nat.reduceDiv, Nat.reducePow, Int.reduceEq, Int.reduceLT, Int.reduceLE, Int.reduceNeg, Int.reduceAdd, Int.reduceSub, Int.reduceMul, Int.reduceToNat, Int.reduceBEq, Int.reduceBNe, unused, fpO, rdR, rdW, own1, ptr1, ownC, sepOk, compat, disj, offR, f_ref36_Lists B.l1 B.s1, f_ref36_proofs B.l2 B.s2, f_ref35_Same B.l4, eq_true h1, h2]
  by_cases h3 : rows.length = rows'.length
  case neg =>
    have h3' : ¬ (rows.length : Int) = (rows'.length : Int) := by omega
    have h3'' : ¬ rwE rows = rwE rows' := fun e => h3 (by have := congrArg List.length e; simpa [rwE] using this)
    simp only [m_ref36_Same, bC, bW, bD, wpY', evR, evW, idx, ldc, okV, sub, setc, buildC, bnd, resOf, resL, res1, xorB, take2L, take2, takeL, take1, appF, rowOf, elemOk, plain, pl1, isRow, cellB, srcOf, LIM, Option.some.injEq, exists_eq_left', exists_eq_left, Prod.mk.injEq, if_true, if_false, ite_true, ite_false, ne_eq, eq_self, reduceCtorEq, ↓reduceIte, Nat.reduceEqDiff, Nat.reduceAdd, Nat.reduceSub, Nat.reduceMul, Nat.reduceLT, Nat.reduceLeDiff, Nat.reduceBEq, Nat.reduceBNe, Nat.reduceMod, Nat.reduceDiv, Nat.reducePow, Int.reduceEq, Int.reduceLT, Int.reduceLE, Int.reduceNeg, Int.reduceAdd, Int.reduceSub, Int.reduceMul, Int.reduceToNat, Int.reduceBEq, Int.reduceBNe, unused, fpO, rdR, rdW, own1, ptr1, ownC, sepOk, compat, disj, offR, f_ref36_Lists B.l1 B.s1, f_ref36_proofs B.l2 B.s2, f_ref35_Same B.l4, eq_true h1, eq_true h2, h3', h3'']
  have h3' : (rows.length : Int) = (rows'.length : Int) := by omega
  by_cases h4 : inner pages = inner pages'
  case neg =>
    simp only [m_ref36_Same, bC, bW, bD, wpY', evR, evW, idx, ldc, okV, sub, setc, buildC, bnd, resOf, resL, res1, xorB, take2L, take2, takeL, take1, appF, rowOf, elemOk, plain, pl1, isRow, cellB, srcOf, LIM, Option.some.injEq, exists_eq_left', exists_eq_left, Prod.mk.injEq, if_true, if_false, ite_true, ite_false, ne_eq, eq_self, reduceCtorEq, ↓reduceIte, Nat.reduceEqDiff, Nat.reduceAdd, Nat.reduceSub, Nat.reduceMul, Nat.reduceLT, Nat.reduceLeDiff, Nat.reduceBEq, Nat.reduceBNe, Nat.reduceMod, Nat.reduceDiv, Nat.reducePow, Int.reduceEq, Int.reduceLT, Int.reduceLE, Int.reduceNeg, Int.reduceAdd, Int.reduceSub, Int.reduceMul, Int.reduceToNat, Int.reduceBEq, Int.reduceBNe, unused, fpO, rdR, rdW, own1, ptr1, ownC, sepOk, compat, disj, offR, f_ref36_Lists B.l1 B.s1, f_ref36_proofs B.l2 B.s2, f_ref35_Same B.l4, eq_true h1, eq_true h2, eq_true h3', h4]
  by_cases h5 : inner proofs = inner proofs'
  case neg =>
    simp only [m_ref36_Same, bC, bW, bD, wpY', evR, evW, idx, ldc, okV, sub, setc, buildC, bnd, resOf, resL, res1, xorB, take2L, take2, takeL, take1, appF, rowOf, elemOk, plain, pl1, isRow, cellB, srcOf, LIM, Option.some.injEq, exists_eq_left', exists_eq_left, Prod.mk.injEq, if_true, if_false, ite_true, ite_false, ne_eq, eq_self, reduceCtorEq, ↓reduceIte, Nat.reduceEqDiff, Nat.reduceAdd, Nat.reduceSub, Nat.reduceMul, Nat.reduceLT, Nat.reduceLeDiff, Nat.reduceBEq, Nat.reduceBNe, Nat.reduceMod, Nat.reduceDiv, Nat.reducePow, Int.reduceEq, Int.reduceLT, Int.reduceLE, Int.reduceNeg, Int.reduceAdd, Int.reduceSub, Int.reduceMul, Int.reduceToNat, Int.reduceBEq, Int.reduceBNe, unused, fpO, rdR, rdW, own1, ptr1, ownC, sepOk, compat, disj, offR, f_ref36_Lists B.l1 B.s1, f_ref36_proofs B.l2 B.s2, f_ref35_Same B.l4, eq_true h1, eq_true h2, eq_true h3', eq_true h4, h5]
  by_cases h6 : proof = proof'
  case neg =>
    simp only [m_ref36_Same, bC, bW, bD, wpY', evR, evW, idx, ldc, okV, sub, setc, buildC, bnd, resOf, resL, res1, xorB, take2L, take2, takeL, take1, appF, rowOf, elemOk, plain, pl1, isRow, cellB, srcOf, LIM, Option.some.injEq, exists_eq_left', exists_eq_left, Prod.mk.injEq, if_true, if_false, ite_true, ite_false, ne_eq, eq_self, reduceCtorEq, ↓reduceIte, Nat.reduceEqDiff, Nat.reduceAdd, Nat.reduceSub, Nat.reduceMul, Nat.reduceLT, Nat.reduceLeDiff, Nat.reduceBEq, Nat.reduceBNe, Nat.reduceMod, Nat.reduceDiv, Nat.reducePow, Int.reduceEq, Int.reduceLT, Int.reduceLE, Int.reduceNeg, Int.reduceAdd, Int.reduceSub, Int.reduceMul, Int.reduceToNat, Int.reduceBEq, Int.reduceBNe, unused, fpO, rdR, rdW, own1, ptr1, ownC, sepOk, compat, disj, offR, f_ref36_Lists B.l1 B.s1, f_ref36_proofs B.l2 B.s2, f_ref35_Same B.l4, eq_true h1, eq_true h2, eq_true h3', eq_true h4, eq_true h5, h6]
  simp only [m_ref36_Same, bC, bW, bD, wpY', evR, evW, idx, ldc, okV, sub, setc, buildC, bnd, resOf, resL, res1, xorB, take2L, take2, takeL, take1, appF, rowOf, elemOk, plain, pl1, isRow, cellB, srcOf, LIM, Option.some.injEq, exists_eq_left', exists_eq_left, Prod.mk.injEq, if_true, if_false, ite_true, ite_false, ne_eq, eq_self, reduceCtorEq, ↓reduceIte, Nat.reduceEqDiff, Nat.reduceAdd, Nat.reduceSub, Nat.reduceMul, Nat.reduceLT, Nat.reduceLeDiff, Nat.reduceBEq, Nat.reduceBNe, Nat.reduceMod, Nat.reduceDiv, Nat.reducePow, Int.reduceEq, Int.reduceLT, Int.reduceLE, Int.reduceNeg, Int.reduceAdd, Int.reduceSub, Int.reduceMul, Int.reduceToNat, Int.reduceBEq, Int.reduceBNe, unused, fpO, rdR, rdW, own1, ptr1, ownC, sepOk, compat, disj, offR, f_ref36_Lists B.l1 B.s1, f_ref36_proofs B.l2 B.s2, f_ref35_Same B.l4, eq_true h1, eq_true h2, eq_true h3', eq_true h4, eq_true h5, eq_true h6, L_ref36_Same_0_eq]
  refine L_ref36_Same B.l3 B.s3 h3 rows.length 0 (by omega) (fun e => ?_) (fun e en he => ?_)
  · have e : rwE rows = rwE rows' := e
    simp only [bC, bW, wpY', evR, evW, idx, ldc, okV, sub, setc, buildC, bnd, resOf, resL, res1, xorB, take2L, take2, takeL, take1, appF, rowOf, elemOk, plain, pl1, isRow, cellB, srcOf, LIM, Option.some.injEq, exists_eq_left', exists_eq_left, Prod.mk.injEq, if_true, if_false, ite_true, ite_false, ne_eq, eq_self, reduceCtorEq, ↓reduceIte, Nat.reduceEqDiff, Nat.reduceAdd, Nat.reduceSub, Nat.reduceMul, Nat.reduceLT, Nat.reduceLeDiff, Nat.reduceBEq, Nat.reduceBNe, Nat.reduceMod, Nat.reduceDiv, Nat.reducePow, Int.reduceEq, Int.reduceLT, Int.reduceLE, Int.reduceNeg, Int.reduceAdd, Int.reduceSub, Int.reduceMul, Int.reduceToNat, Int.reduceBEq, Int.reduceBNe, eq_true e]
  · have e : ¬ rwE rows = rwE rows' := e
    simp only [bC, bW, wpY', evR, evW, idx, ldc, okV, sub, setc, buildC, bnd, resOf, resL, res1, xorB, take2L, take2, takeL, take1, appF, rowOf, elemOk, plain, pl1, isRow, cellB, srcOf, LIM, Option.some.injEq, exists_eq_left', exists_eq_left, Prod.mk.injEq, if_true, if_false, ite_true, ite_false, ne_eq, eq_self, reduceCtorEq, ↓reduceIte, Nat.reduceEqDiff, Nat.reduceAdd, Nat.reduceSub, Nat.reduceMul, Nat.reduceLT, Nat.reduceLeDiff, Nat.reduceBEq, Nat.reduceBNe, Nat.reduceMod, Nat.reduceDiv, Nat.reducePow, Int.reduceEq, Int.reduceLT, Int.reduceLE, Int.reduceNeg, Int.reduceAdd, Int.reduceSub, Int.reduceMul, Int.reduceToNat, Int.reduceBEq, Int.reduceBNe, e, he]
end
end Go.Proofs.YtfmbdcmjgnikiaaDoor.Sm
namespace Go.Proofs.YtfmbdcmjgnikiaaDoor.Sm
open Go Go.RowKit

theorem splitF_pages : ∀ (f : Nat) (b : List UInt8), (splitF f b).length ≤ f ∧ (∀ p ∈ splitF f b, p.length = 256) ∧ (b ≠ [] → f ≠ 0 → splitF f b ≠ [])
  | 0, b => by simp [splitF]
  | f + 1, b => by
    rw [splitF]
    split
    · rename_i h; simp [h]
    · obtain ⟨h1, h2, h3⟩ := splitF_pages f (b.drop 256)
      refine ⟨by simp; omega, fun p hp => ?_, by simp⟩
      rcases List.mem_cons.1 hp with rfl | hp
      · exact pad_len (by simp; omega)
      · exact h2 p hp
theorem split_pages (b : List UInt8) : (splitI b).length ≤ 16 ∧ (∀ p ∈ splitI b, p.xs.length = 256 ∧ p.nl = false ∧ p.tg = false) ∧ (b ≠ [] → splitI b ≠ []) := by
  obtain ⟨h1, h2, h3⟩ := splitF_pages 16 b
  refine ⟨by simpa [splitI] using h1, fun p hp => ?_, fun h => by simpa [splitI] using h3 h (by omega)⟩
  simp only [splitI, List.mem_map] at hp
  obtain ⟨q, hq, rfl⟩ := hp
  exact ⟨h2 q hq, rfl, rfl⟩
theorem split_are {b : List UInt8} (h : sizedI b.length = true) : arePagesI (splitI b) = true := by
  simp only [sizedI, Bool.and_eq_true, decide_eq_true_eq] at h
  obtain ⟨h1, h2, h3⟩ := split_pages b
  have h4 : splitI b ≠ [] := h3 fun e => by subst e; simp at h
  have h5 : (splitI b).length ≠ 0 := by simpa using h4
  simp only [arePagesI, Bool.and_eq_true, decide_eq_true_eq, List.all_eq_true]
  exact ⟨⟨by omega, h1⟩, fun p hp => by have := (h2 p hp).1; omega⟩

section
variable {h : Heap} {nx wb : Nat} {ls : List (Nat × LRec)} {Q : Ex → St → Prop} {R : Prop} {st : St} {K : SV → St → Prop}
theorem f_image_Announce {ver start : Int} {b : List UInt8} {nl tg : Bool} : WpF XX .ro n_image_Announce [.int .i64 ver, .tree (b.map b8) nl tg, .int .i64 start] st K ↔
    K (if noticeI ver b.length start = true then .tup [.agg [.int .i64 ver, .int .i64 b.length, .int .u64 (rootI (splitI b)), .int .i64 start], .int .i64 0] else .tup [.agg [.int .i64 0, .int .i64 0, .int .u64 0, .int .i64 0], .int .i64 1]) st := by
  rw [F_ro (mf := m_image_Announce) rfl rfl]
  cases h1 : sizedI b.length with
  | false =>
    have h2 : noticeI ver b.length start = false := by simp [noticeI, h1]
    simp only [m_image_Announce, bC, bW, bD, wpY', evR, evW, idx, ldc, okV, sub, setc, buildC, bnd, resOf, resL, res1, xorB, take2L, take2, takeL, take1, appF, rowOf, elemOk, plain, pl1, isRow, cellB, srcOf, LIM, Option.some.injEq, exists_eq_left', exists_eq_left, Prod.mk.injEq, if_true, if_false, ite_true, ite_false, ne_eq, eq_self, reduceCtorEq, ↓reduceIte, Nat.reduceEqDiff, Nat.reduceAdd, Nat.reduceSub, Nat.reduceMul, Nat.reduceLT, Nat.reduceLeDiff, Nat.reduceBEq, Nat.reduceBNe, Nat.reduceMod, Nat.reduceDiv, Nat.reducePow, Int.reduceEq, Int.reduceLT, Int.reduceLE, Int.reduceNeg, Int.reduceAdd, Int.reduceSub, Int.reduceMul, Int.reduceToNat, Int.reduceBEq, Int.reduceBNe, unused, fpO, rdR, rdW, own1, ptr1, ownC, sepOk, compat, disj, offR, f_image_Split, h1, h2]
  | true =>
    cases h2 : noticeI ver b.length start with
    | false => simp only [m_image_Announce, bC, bW, bD, wpY', evR, evW, idx, ldc, okV, sub, setc, buildC, bnd, resOf, resL, res1, xorB, take2L, take2, takeL, take1, appF, rowOf, elemOk, plain, pl1, isRow, cellB, srcOf, LIM, Option.some.injEq, exists_eq_left', exists_eq_left, Prod.mk.injEq, if_true, if_false, ite_true, ite_false, ne_eq, eq_self, reduceCtorEq, ↓reduceIte, Nat.reduceEqDiff, Nat.reduceAdd, Nat.reduceSub, Nat.reduceMul, Nat.reduceLT, Nat.reduceLeDiff, Nat.reduceBEq, Nat.reduceBNe, Nat.reduceMod, Nat.reduceDiv, Nat.reducePow, Int.reduceEq, Int.reduceLT, Int.reduceLE, Int.reduceNeg, Int.reduceAdd, Int.reduceSub, Int.reduceMul, Int.reduceToNat, Int.reduceBEq, Int.reduceBNe, unused, fpO, rdR, rdW, own1, ptr1, ownC, sepOk, compat, disj, offR, f_image_Split, f_image_announced, h1, h2]
    | true => simp only [m_image_Announce, bC, bW, bD, wpY', evR, evW, idx, ldc, okV, sub, setc, buildC, bnd, resOf, resL, res1, xorB, take2L, take2, takeL, take1, appF, rowOf, elemOk, plain, pl1, isRow, cellB, srcOf, LIM, Option.some.injEq, exists_eq_left', exists_eq_left, Prod.mk.injEq, if_true, if_false, ite_true, ite_false, ne_eq, eq_self, reduceCtorEq, ↓reduceIte, Nat.reduceEqDiff, Nat.reduceAdd, Nat.reduceSub, Nat.reduceMul, Nat.reduceLT, Nat.reduceLeDiff, Nat.reduceBEq, Nat.reduceBNe, Nat.reduceMod, Nat.reduceDiv, Nat.reducePow, Int.reduceEq, Int.reduceLT, Int.reduceLE, Int.reduceNeg, Int.reduceAdd, Int.reduceSub, Int.reduceMul, Int.reduceToNat, Int.reduceBEq, Int.reduceBNe, unused, fpO, rdR, rdW, own1, ptr1, ownC, sepOk, compat, disj, offR, f_image_Split, f_image_announced, f_tree_Root, split_are h1, h1, h2]
theorem f_ref36_Announce {ver start : Int} {b : List UInt8} {nl tg : Bool} : WpF XX .ro n_ref36_Announce [.int .i64 ver, .tree (b.map b8) nl tg, .int .i64 start] st K ↔
    K (if noticeI ver b.length start = true then .tup [.agg [.int .i64 ver, .int .i64 b.length, .int .u64 (rootI (splitI b)), .int .i64 start], .int .i64 0] else .tup [.agg [.int .i64 0, .int .i64 0, .int .u64 0, .int .i64 0], .int .i64 1]) st := by
  rw [F_ro (mf := m_ref36_Announce) rfl rfl]
  cases h2 : noticeI ver b.length start with
  | false => simp only [m_ref36_Announce, bC, bW, bD, wpY', evR, evW, idx, ldc, okV, sub, setc, buildC, bnd, resOf, resL, res1, xorB, take2L, take2, takeL, take1, appF, rowOf, elemOk, plain, pl1, isRow, cellB, srcOf, LIM, Option.some.injEq, exists_eq_left', exists_eq_left, Prod.mk.injEq, if_true, if_false, ite_true, ite_false, ne_eq, eq_self, reduceCtorEq, ↓reduceIte, Nat.reduceEqDiff, Nat.reduceAdd, Nat.reduceSub, Nat.reduceMul, Nat.reduceLT, Nat.reduceLeDiff, Nat.reduceBEq, Nat.reduceBNe, Nat.reduceMod, Nat.reduceDiv, Nat.reducePow, Int.reduceEq, Int.reduceLT, Int.reduceLE, Int.reduceNeg, Int.reduceAdd, Int.reduceSub, Int.reduceMul, Int.reduceToNat, Int.reduceBEq, Int.reduceBNe, unused, fpO, rdR, rdW, own1, ptr1, ownC, sepOk, compat, disj, offR, f_ref36_Notice, h2]
  | true =>
    have h1 : sizedI b.length = true := by
      have := h2
      simp only [noticeI, Bool.and_eq_true] at this
      exact this.1.1.2
    simp only [m_ref36_Announce, bC, bW, bD, wpY', evR, evW, idx, ldc, okV, sub, setc, buildC, bnd, resOf, resL, res1, xorB, take2L, take2, takeL, take1, appF, rowOf, elemOk, plain, pl1, isRow, cellB, srcOf, LIM, Option.some.injEq, exists_eq_left', exists_eq_left, Prod.mk.injEq, if_true, if_false, ite_true, ite_false, ne_eq, eq_self, reduceCtorEq, ↓reduceIte, Nat.reduceEqDiff, Nat.reduceAdd, Nat.reduceSub, Nat.reduceMul, Nat.reduceLT, Nat.reduceLeDiff, Nat.reduceBEq, Nat.reduceBNe, Nat.reduceMod, Nat.reduceDiv, Nat.reducePow, Int.reduceEq, Int.reduceLT, Int.reduceLE, Int.reduceNeg, Int.reduceAdd, Int.reduceSub, Int.reduceMul, Int.reduceToNat, Int.reduceBEq, Int.reduceBNe, unused, fpO, rdR, rdW, own1, ptr1, ownC, sepOk, compat, disj, offR, f_ref36_Split, f_ref36_Notice, f_ref35_Root, split_are h1, h1, h2]

theorem L_short {a : List By} {n1 g1 : Bool} {v0 : SV} (ha : a.length < 4611686018427387904) : ∀ (d k : Nat), k + d = a.length →
    ((a.drop k).all (fun p => decide (p.xs.length ≤ 1000)) = true → (Q (.exit 0) ⟨[(0, v0), (1, .tree (a.map By.v) n1 g1)], h, nx, ls, wb⟩ ↔ R)) → ((a.drop k).all (fun p => decide (p.xs.length ≤ 1000)) = false → ∀ e, getE e 4 = .bool false → (Q .ret ⟨e, h, nx, ls, wb⟩ ↔ R)) →
    (L_law36_short_0 XX v0 (.tree (a.map By.v) n1 g1) (.tree (a.map By.v) n1 g1) (.int .i64 a.length) (.int .i64 k) h nx ls wb Q ↔ R) := by
  intro d
  induction d with
  | zero =>
    intro k hk q1 q2
    obtain rfl : k = a.length := by omega
    rw [L_law36_short_0_unf]
    simp only [b_law36_short_0, bC, bW, wpY', evR, evW, idx, ldc, okV, sub, setc, buildC, bnd, resOf, resL, res1, xorB, take2L, take2, takeL, take1, appF, rowOf, elemOk, plain, pl1, isRow, cellB, srcOf, LIM, Option.some.injEq, exists_eq_left', exists_eq_left, Prod.mk.injEq, if_true, if_false, ite_true, ite_false, ne_eq, eq_self, reduceCtorEq, ↓reduceIte, Nat.reduceEqDiff, Nat.reduceAdd, Nat.reduceSub, Nat.reduceMul, Nat.reduceLT, Nat.reduceLeDiff, Nat.reduceBEq, Nat.reduceBNe, Nat.reduceMod, Nat.reduceDiv, Nat.reducePow, Int.reduceEq, Int.reduceLT, Int.reduceLE, Int.reduceNeg, Int.reduceAdd, Int.reduceSub, Int.reduceMul, Int.reduceToNat, Int.reduceBEq, Int.reduceBNe, Int.lt_irrefl]
    exact q1 (by rw [List.drop_length]; rfl)
  | succ d ih =>
    intro k hk q1 q2
    have hlt : k < a.length := by omega
    obtain ⟨c, hc, hd⟩ := get_some hlt
    rw [L_law36_short_0_unf]
    have e := all_drop (p := fun p : By => decide (p.xs.length ≤ 1000)) hd
    by_cases hp : c.xs.length ≤ 1000
    · have hp' : ¬ (1000 : Int) < ((c.xs.length : Nat) : Int) := by omega
      simp only [b_law36_short_0, bC, bW, wpY', evR, evW, idx, ldc, okV, sub, setc, buildC, bnd, resOf, resL, res1, xorB, take2L, take2, takeL, take1, appF, rowOf, elemOk, plain, pl1, isRow, cellB, srcOf, LIM, Option.some.injEq, exists_eq_left', exists_eq_left, Prod.mk.injEq, if_true, if_false, ite_true, ite_false, ne_eq, eq_self, reduceCtorEq, ↓reduceIte, Nat.reduceEqDiff, Nat.reduceAdd, Nat.reduceSub, Nat.reduceMul, Nat.reduceLT, Nat.reduceLeDiff, Nat.reduceBEq, Nat.reduceBNe, Nat.reduceMod, Nat.reduceDiv, Nat.reducePow, Int.reduceEq, Int.reduceLT, Int.reduceLE, Int.reduceNeg, Int.reduceAdd, Int.reduceSub, Int.reduceMul, Int.reduceToNat, Int.reduceBEq, Int.reduceBNe, lt_c hlt, hc, By.v, Sl.v, hp', L_law36_short_0_eq, wi_s hlt (by omega)]
      rw [e] at q1 q2
      simp only [hp, decide_true, Bool.true_and] at q1 q2
      exact ih (k + 1) (by omega) q1 q2
    · have hp' : (1000 : Int) < ((c.xs.length : Nat) : Int) := by omega
      simp only [b_law36_short_0, bC, bW, wpY', evR, evW, idx, ldc, okV, sub, setc, buildC, bnd, resOf, resL, res1, xorB, take2L, take2, takeL, take1, appF, rowOf, elemOk, plain, pl1, isRow, cellB, srcOf, LIM, Option.some.injEq, exists_eq_left', exists_eq_left, Prod.mk.injEq, if_true, if_false, ite_true, ite_false, ne_eq, eq_self, reduceCtorEq, ↓reduceIte, Nat.reduceEqDiff, Nat.reduceAdd, Nat.reduceSub, Nat.reduceMul, Nat.reduceLT, Nat.reduceLeDiff, Nat.reduceBEq, Nat.reduceBNe, Nat.reduceMod, Nat.reduceDiv, Nat.reducePow, Int.reduceEq, Int.reduceLT, Int.reduceLE, Int.reduceNeg, Int.reduceAdd, Int.reduceSub, Int.reduceMul, Int.reduceToNat, Int.reduceBEq, Int.reduceBNe, lt_c hlt, hc, By.v, Sl.v, hp']
      exact q2 (by rw [e]; simp [hp]) _ rfl
def shortI (b : List UInt8) (a : List By) : Bool := a.all (fun p => decide (p.xs.length ≤ 1000)) && decide (b.length ≤ 4106) && decide (a.length ≤ 20)
theorem f_law36_short {b : List UInt8} {nl tg : Bool} {a : List By} {n1 g1 : Bool} (ha : a.length < 4611686018427387904) : WpF XX .ro n_law36_short [.tree (b.map b8) nl tg, .tree (a.map By.v) n1 g1] st K ↔ K (.bool (shortI b a)) st := by
  rw [F_ro (mf := m_law36_short) rfl rfl]
  simp only [m_law36_short, bC, bW, wpY', evR, evW, idx, ldc, okV, sub, setc, buildC, bnd, resOf, resL, res1, xorB, take2L, take2, takeL, take1, appF, rowOf, elemOk, plain, pl1, isRow, cellB, srcOf, LIM, Option.some.injEq, exists_eq_left', exists_eq_left, Prod.mk.injEq, if_true, if_false, ite_true, ite_false, ne_eq, eq_self, reduceCtorEq, ↓reduceIte, Nat.reduceEqDiff, Nat.reduceAdd, Nat.reduceSub, Nat.reduceMul, Nat.reduceLT, Nat.reduceLeDiff, Nat.reduceBEq, Nat.reduceBNe, Nat.reduceMod, Nat.reduceDiv, Nat.reducePow, Int.reduceEq, Int.reduceLT, Int.reduceLE, Int.reduceNeg, Int.reduceAdd, Int.reduceSub, Int.reduceMul, Int.reduceToNat, Int.reduceBEq, Int.reduceBNe, L_law36_short_0_eq]
  refine L_short ha a.length 0 (by omega) (fun e => ?_) (fun e en he => ?_)
  · rw [List.drop_zero] at e
    unfold shortI
    by_cases h1 : b.length ≤ 4106
    · have h1' : (b.length : Int) ≤ 4106 := by omega
      have h2 : decide ((a.length : Int) ≤ 20) = decide (a.length ≤ 20) := by
        by_cases h : a.length ≤ 20
        · have : (a.length : Int) ≤ 20 := by omega
          simp [h, this]
        · have : ¬ (a.length : Int) ≤ 20 := by omega
          simp [h, this]
      simp only [bC, bW, wpY', evR, evW, idx, ldc, okV, sub, setc, buildC, bnd, resOf, resL, res1, xorB, take2L, take2, takeL, take1, appF, rowOf, elemOk, plain, pl1, isRow, cellB, srcOf, LIM, Option.some.injEq, exists_eq_left', exists_eq_left, Prod.mk.injEq, if_true, if_false, ite_true, ite_false, ne_eq, eq_self, reduceCtorEq, ↓reduceIte, Nat.reduceEqDiff, Nat.reduceAdd, Nat.reduceSub, Nat.reduceMul, Nat.reduceLT, Nat.reduceLeDiff, Nat.reduceBEq, Nat.reduceBNe, Nat.reduceMod, Nat.reduceDiv, Nat.reducePow, Int.reduceEq, Int.reduceLT, Int.reduceLE, Int.reduceNeg, Int.reduceAdd, Int.reduceSub, Int.reduceMul, Int.reduceToNat, Int.reduceBEq, Int.reduceBNe, e, h1, h1', h2]
    · have h1' : ¬ (b.length : Int) ≤ 4106 := by omega
      simp only [bC, bW, wpY', evR, evW, idx, ldc, okV, sub, setc, buildC, bnd, resOf, resL, res1, xorB, take2L, take2, takeL, take1, appF, rowOf, elemOk, plain, pl1, isRow, cellB, srcOf, LIM, Option.some.injEq, exists_eq_left', exists_eq_left, Prod.mk.injEq, if_true, if_false, ite_true, ite_false, ne_eq, eq_self, reduceCtorEq, ↓reduceIte, Nat.reduceEqDiff, Nat.reduceAdd, Nat.reduceSub, Nat.reduceMul, Nat.reduceLT, Nat.reduceLeDiff, Nat.reduceBEq, Nat.reduceBNe, Nat.reduceMod, Nat.reduceDiv, Nat.reducePow, Int.reduceEq, Int.reduceLT, Int.reduceLE, Int.reduceNeg, Int.reduceAdd, Int.reduceSub, Int.reduceMul, Int.reduceToNat, Int.reduceBEq, Int.reduceBNe, e, h1, h1']
  · rw [List.drop_zero] at e
    unfold shortI
    simp only [bC, bW, wpY', evR, evW, idx, ldc, okV, sub, setc, buildC, bnd, resOf, resL, res1, xorB, take2L, take2, takeL, take1, appF, rowOf, elemOk, plain, pl1, isRow, cellB, srcOf, LIM, Option.some.injEq, exists_eq_left', exists_eq_left, Prod.mk.injEq, if_true, if_false, ite_true, ite_false, ne_eq, eq_self, reduceCtorEq, ↓reduceIte, Nat.reduceEqDiff, Nat.reduceAdd, Nat.reduceSub, Nat.reduceMul, Nat.reduceLT, Nat.reduceLeDiff, Nat.reduceBEq, Nat.reduceBNe, Nat.reduceMod, Nat.reduceDiv, Nat.reducePow, Int.reduceEq, Int.reduceLT, Int.reduceLE, Int.reduceNeg, Int.reduceAdd, Int.reduceSub, Int.reduceMul, Int.reduceToNat, Int.reduceBEq, Int.reduceBNe, e, he]
end
end Go.Proofs.YtfmbdcmjgnikiaaDoor.Sm
namespace Go.Proofs.YtfmbdcmjgnikiaaDoor.Sm
open Go Go.RowKit

def fewI (pages : List By) (proofs : List (Sl Int)) (rows : List Rw) (proof : List Int) : Bool :=
  decide (pages.length ≤ 20) && decide (proofs.length ≤ 20) && decide (rows.length ≤ 40) && decide (proof.length ≤ 40) &&
  pages.all (fun p => decide (p.xs.length ≤ 1000)) && proofs.all (fun p => decide (p.xs.length ≤ 40)) && rows.all (fun p => decide (p.data.xs.length ≤ 100))
section
variable {h : Heap} {nx wb : Nat} {ls : List (Nat × LRec)} {Q : Ex → St → Prop} {R : Prop} {st : St} {K : SV → St → Prop}
theorem L_few_0 {ver size dg start : Int} {pages : List By} {n1 g1 : Bool} {proofs : List (Sl Int)} {n2 g2 : Bool} {rows : List Rw} {n3 g3 : Bool} {proof : List Int} {n4 g4 : Bool} {iv bg fi ct sd : Int} (ha : pages.length ≤ 100) : ∀ (d k : Nat), k + d = pages.length →
    ((pages.drop k).all (fun p => decide (p.xs.length ≤ 1000)) = true → (Q (.exit 0) ⟨[(1, .ptr 0 0)], [(0, [.int .i64 ver, .int .i64 size, .int .u64 dg, .int .i64 start, .tree (pages.map By.v) n1 g1, .tree (proofs.map (Sl.v uV)) n2 g2, .tree (rows.map Rw.v) n3 g3, .tree (proof.map uV) n4 g4, .int .i64 iv, .int .i64 bg, .int .i64 fi, .int .i64 ct, .int .i64 sd])], 1, ls, 0⟩ ↔ R)) → ((pages.drop k).all (fun p => decide (p.xs.length ≤ 1000)) = false → ∀ e, getE e 2 = .bool false → (Q .ret ⟨e, [(0, [.int .i64 ver, .int .i64 size, .int .u64 dg, .int .i64 start, .tree (pages.map By.v) n1 g1, .tree (proofs.map (Sl.v uV)) n2 g2, .tree (rows.map Rw.v) n3 g3, .tree (proof.map uV) n4 g4, .int .i64 iv, .int .i64 bg, .int .i64 fi, .int .i64 ct, .int .i64 sd])], 1, ls, 0⟩ ↔ R)) →
    (L_ref36_Few_0 XX (.ptr 0 0) (.int .i64 k) [(0, [.int .i64 ver, .int .i64 size, .int .u64 dg, .int .i64 start, .tree (pages.map By.v) n1 g1, .tree (proofs.map (Sl.v uV)) n2 g2, .tree (rows.map Rw.v) n3 g3, .tree (proof.map uV) n4 g4, .int .i64 iv, .int .i64 bg, .int .i64 fi, .int .i64 ct, .int .i64 sd])] 1 ls 0 Q ↔ R) := by
  intro d
  induction d with
  | zero =>
    intro k hk q1 q2
    obtain rfl : k = pages.length := by omega
    rw [L_ref36_Few_0_unf]
    simp only [b_ref36_Few_0, bC, bW, wpY', evR, evW, idx, ldc, okV, sub, setc, buildC, bnd, resOf, resL, res1, xorB, take2L, take2, takeL, take1, appF, rowOf, elemOk, plain, pl1, isRow, cellB, srcOf, LIM, Option.some.injEq, exists_eq_left', exists_eq_left, Prod.mk.injEq, if_true, if_false, ite_true, ite_false, ne_eq, eq_self, reduceCtorEq, ↓reduceIte, Nat.reduceEqDiff, Nat.reduceAdd, Nat.reduceSub, Nat.reduceMul, Nat.reduceLT, Nat.reduceLeDiff, Nat.reduceBEq, Nat.reduceBNe, Nat.reduceMod, Nat.reduceDiv, Nat.reducePow, Int.reduceEq, Int.reduceLT, Int.reduceLE, Int.reduceNeg, Int.reduceAdd, Int.reduceSub, Int.reduceMul, Int.reduceToNat, Int.reduceBEq, Int.reduceBNe, Int.lt_irrefl]
    exact q1 (by rw [List.drop_length]; rfl)
  | succ d ih =>
    intro k hk q1 q2
    have hlt : k < pages.length := by omega
    obtain ⟨c, hc, hd⟩ := get_some hlt
    have hx : (pages.map By.v)[k]? = some (.tree (c.xs.map b8) c.nl c.tg) := by rw [List.getElem?_map, hc]; rfl
    rw [L_ref36_Few_0_unf]
    have e := all_drop (p := fun p : By => decide (p.xs.length ≤ 1000)) hd
    by_cases hp : c.xs.length ≤ 1000
    · have hp' : ¬ (1000 : Int) < ((c.xs.length : Nat) : Int) := by omega
      simp only [b_ref36_Few_0, bC, bW, wpY', evR, evW, idx, ldc, okV, sub, setc, buildC, bnd, resOf, resL, res1, xorB, take2L, take2, takeL, take1, appF, rowOf, elemOk, plain, pl1, isRow, cellB, srcOf, LIM, Option.some.injEq, exists_eq_left', exists_eq_left, Prod.mk.injEq, if_true, if_false, ite_true, ite_false, ne_eq, eq_self, reduceCtorEq, ↓reduceIte, Nat.reduceEqDiff, Nat.reduceAdd, Nat.reduceSub, Nat.reduceMul, Nat.reduceLT, Nat.reduceLeDiff, Nat.reduceBEq, Nat.reduceBNe, Nat.reduceMod, Nat.reduceDiv, Nat.reducePow, Int.reduceEq, Int.reduceLT, Int.reduceLE, Int.reduceNeg, Int.reduceAdd, Int.reduceSub, Int.reduceMul, Int.reduceToNat, Int.reduceBEq, Int.reduceBNe, lt_c hlt, hx, hp', L_ref36_Few_0_eq, wi_s hlt (by omega)]
      rw [e] at q1 q2
      simp only [hp, decide_true, Bool.true_and] at q1 q2
      exact ih (k + 1) (by omega) q1 q2
    · have hp' : (1000 : Int) < ((c.xs.length : Nat) : Int) := by omega
      simp only [b_ref36_Few_0, bC, bW, wpY', evR, evW, idx, ldc, okV, sub, setc, buildC, bnd, resOf, resL, res1, xorB, take2L, take2, takeL, take1, appF, rowOf, elemOk, plain, pl1, isRow, cellB, srcOf, LIM, Option.some.injEq, exists_eq_left', exists_eq_left, Prod.mk.injEq, if_true, if_false, ite_true, ite_false, ne_eq, eq_self, reduceCtorEq, ↓reduceIte, Nat.reduceEqDiff, Nat.reduceAdd, Nat.reduceSub, Nat.reduceMul, Nat.reduceLT, Nat.reduceLeDiff, Nat.reduceBEq, Nat.reduceBNe, Nat.reduceMod, Nat.reduceDiv, Nat.reducePow, Int.reduceEq, Int.reduceLT, Int.reduceLE, Int.reduceNeg, Int.reduceAdd, Int.reduceSub, Int.reduceMul, Int.reduceToNat, Int.reduceBEq, Int.reduceBNe, lt_c hlt, hx, hp']
      exact q2 (by rw [e]; simp [hp]) _ rfl
theorem L_few_1 {ver size dg start : Int} {pages : List By} {n1 g1 : Bool} {proofs : List (Sl Int)} {n2 g2 : Bool} {rows : List Rw} {n3 g3 : Bool} {proof : List Int} {n4 g4 : Bool} {iv bg fi ct sd : Int} (ha : proofs.length ≤ 100) : ∀ (d k : Nat), k + d = proofs.length →
    ((proofs.drop k).all (fun p => decide (p.xs.length ≤ 40)) = true → (Q (.exit 2) ⟨[(1, .ptr 0 0)], [(0, [.int .i64 ver, .int .i64 size, .int .u64 dg, .int .i64 start, .tree (pages.map By.v) n1 g1, .tree (proofs.map (Sl.v uV)) n2 g2, .tree (rows.map Rw.v) n3 g3, .tree (proof.map uV) n4 g4, .int .i64 iv, .int .i64 bg, .int .i64 fi, .int .i64 ct, .int .i64 sd])], 1, ls, 0⟩ ↔ R)) → ((proofs.drop k).all (fun p => decide (p.xs.length ≤ 40)) = false → ∀ e, getE e 2 = .bool false → (Q .ret ⟨e, [(0, [.int .i64 ver, .int .i64 size, .int .u64 dg, .int .i64 start, .tree (pages.map By.v) n1 g1, .tree (proofs.map (Sl.v uV)) n2 g2, .tree (rows.map Rw.v) n3 g3, .tree (proof.map uV) n4 g4, .int .i64 iv, .int .i64 bg, .int .i64 fi, .int .i64 ct, .int .i64 sd])], 1, ls, 0⟩ ↔ R)) →
    (L_ref36_Few_1 XX (.ptr 0 0) (.int .i64 k) [(0, [.int .i64 ver, .int .i64 size, .int .u64 dg, .int .i64 start, .tree (pages.map By.v) n1 g1, .tree (proofs.map (Sl.v uV)) n2 g2, .tree (rows.map Rw.v) n3 g3, .tree (proof.map uV) n4 g4, .int .i64 iv, .int .i64 bg, .int .i64 fi, .int .i64 ct, .int .i64 sd])] 1 ls 0 Q ↔ R) := by
  intro d
  induction d with
  | zero =>
    intro k hk q1 q2
    obtain rfl : k = proofs.length := by omega
    rw [L_ref36_Few_1_unf]
    simp only [b_ref36_Few_1, bC, bW, wpY', evR, evW, idx, ldc, okV, sub, setc, buildC, bnd, resOf, resL, res1, xorB, take2L, take2, takeL, take1, appF, rowOf, elemOk, plain, pl1, isRow, cellB, srcOf, LIM, Option.some.injEq, exists_eq_left', exists_eq_left, Prod.mk.injEq, if_true, if_false, ite_true, ite_false, ne_eq, eq_self, reduceCtorEq, ↓reduceIte, Nat.reduceEqDiff, Nat.reduceAdd, Nat.reduceSub, Nat.reduceMul, Nat.reduceLT, Nat.reduceLeDiff, Nat.reduceBEq, Nat.reduceBNe, Nat.reduceMod, Nat.reduceDiv, Nat.reducePow, Int.reduceEq, Int.reduceLT, Int.reduceLE, Int.reduceNeg, Int.reduceAdd, Int.reduceSub, Int.reduceMul, Int.reduceToNat, Int.reduceBEq, Int.reduceBNe, Int.lt_irrefl]
    exact q1 (by rw [List.drop_length]; rfl)
  | succ d ih =>
    intro k hk q1 q2
    have hlt : k < proofs.length := by omega
    obtain ⟨c, hc, hd⟩ := get_some hlt
    have hx : (proofs.map (Sl.v uV))[k]? = some (.tree (c.xs.map uV) c.nl c.tg) := by rw [List.getElem?_map, hc]; rfl
    rw [L_ref36_Few_1_unf]
    have e := all_drop (p := fun p : (Sl Int) => decide (p.xs.length ≤ 40)) hd
    by_cases hp : c.xs.length ≤ 40
    · have hp' : ¬ (40 : Int) < ((c.xs.length : Nat) : Int) := by omega
      simp only [b_ref36_Few_1, bC, bW, wpY', evR, evW, idx, ldc, okV, sub, setc, buildC, bnd, resOf, resL, res1, xorB, take2L, take2, takeL, take1, appF, rowOf, elemOk, plain, pl1, isRow, cellB, srcOf, LIM, Option.some.injEq, exists_eq_left', exists_eq_left, Prod.mk.injEq, if_true, if_false, ite_true, ite_false, ne_eq, eq_self, reduceCtorEq, ↓reduceIte, Nat.reduceEqDiff, Nat.reduceAdd, Nat.reduceSub, Nat.reduceMul, Nat.reduceLT, Nat.reduceLeDiff, Nat.reduceBEq, Nat.reduceBNe, Nat.reduceMod, Nat.reduceDiv, Nat.reducePow, Int.reduceEq, Int.reduceLT, Int.reduceLE, Int.reduceNeg, Int.reduceAdd, Int.reduceSub, Int.reduceMul, Int.reduceToNat, Int.reduceBEq, Int.reduceBNe, lt_c hlt, hx, hp', L_ref36_Few_1_eq, wi_s hlt (by omega)]
      rw [e] at q1 q2
      simp only [hp, decide_true, Bool.true_and] at q1 q2
      exact ih (k + 1) (by omega) q1 q2
    · have hp' : (40 : Int) < ((c.xs.length : Nat) : Int) := by omega
      simp only [b_ref36_Few_1, bC, bW, wpY', evR, evW, idx, ldc, okV, sub, setc, buildC, bnd, resOf, resL, res1, xorB, take2L, take2, takeL, take1, appF, rowOf, elemOk, plain, pl1, isRow, cellB, srcOf, LIM, Option.some.injEq, exists_eq_left', exists_eq_left, Prod.mk.injEq, if_true, if_false, ite_true, ite_false, ne_eq, eq_self, reduceCtorEq, ↓reduceIte, Nat.reduceEqDiff, Nat.reduceAdd, Nat.reduceSub, Nat.reduceMul, Nat.reduceLT, Nat.reduceLeDiff, Nat.reduceBEq, Nat.reduceBNe, Nat.reduceMod, Nat.reduceDiv, Nat.reducePow, Int.reduceEq, Int.reduceLT, Int.reduceLE, Int.reduceNeg, Int.reduceAdd, Int.reduceSub, Int.reduceMul, Int.reduceToNat, Int.reduceBEq, Int.reduceBNe, lt_c hlt, hx, hp']
      exact q2 (by rw [e]; simp [hp]) _ rfl
theorem L_few_2 {ver size dg start : Int} {pages : List By} {n1 g1 : Bool} {proofs : List (Sl Int)} {n2 g2 : Bool} {rows : List Rw} {n3 g3 : Bool} {proof : List Int} {n4 g4 : Bool} {iv bg fi ct sd : Int} (ha : rows.length ≤ 100) : ∀ (d k : Nat), k + d = rows.length →
    ((rows.drop k).all (fun p => decide (p.data.xs.length ≤ 100)) = true → (Q (.exit 4) ⟨[], [(0, [.int .i64 ver, .int .i64 size, .int .u64 dg, .int .i64 start, .tree (pages.map By.v) n1 g1, .tree (proofs.map (Sl.v uV)) n2 g2, .tree (rows.map Rw.v) n3 g3, .tree (proof.map uV) n4 g4, .int .i64 iv, .int .i64 bg, .int .i64 fi, .int .i64 ct, .int .i64 sd])], 1, ls, 0⟩ ↔ R)) → ((rows.drop k).all (fun p => decide (p.data.xs.length ≤ 100)) = false → ∀ e, getE e 2 = .bool false → (Q .ret ⟨e, [(0, [.int .i64 ver, .int .i64 size, .int .u64 dg, .int .i64 start, .tree (pages.map By.v) n1 g1, .tree (proofs.map (Sl.v uV)) n2 g2, .tree (rows.map Rw.v) n3 g3, .tree (proof.map uV) n4 g4, .int .i64 iv, .int .i64 bg, .int .i64 fi, .int .i64 ct, .int .i64 sd])], 1, ls, 0⟩ ↔ R)) →
    (L_ref36_Few_2 XX (.ptr 0 0) (.int .i64 k) [(0, [.int .i64 ver, .int .i64 size, .int .u64 dg, .int .i64 start, .tree (pages.map By.v) n1 g1, .tree (proofs.map (Sl.v uV)) n2 g2, .tree (rows.map Rw.v) n3 g3, .tree (proof.map uV) n4 g4, .int .i64 iv, .int .i64 bg, .int .i64 fi, .int .i64 ct, .int .i64 sd])] 1 ls 0 Q ↔ R) := by
  intro d
  induction d with
  | zero =>
    intro k hk q1 q2
    obtain rfl : k = rows.length := by omega
    rw [L_ref36_Few_2_unf]
    simp only [b_ref36_Few_2, bC, bW, wpY', evR, evW, idx, ldc, okV, sub, setc, buildC, bnd, resOf, resL, res1, xorB, take2L, take2, takeL, take1, appF, rowOf, elemOk, plain, pl1, isRow, cellB, srcOf, LIM, Option.some.injEq, exists_eq_left', exists_eq_left, Prod.mk.injEq, if_true, if_false, ite_true, ite_false, ne_eq, eq_self, reduceCtorEq, ↓reduceIte, Nat.reduceEqDiff, Nat.reduceAdd, Nat.reduceSub, Nat.reduceMul, Nat.reduceLT, Nat.reduceLeDiff, Nat.reduceBEq, Nat.reduceBNe, Nat.reduceMod, Nat.reduceDiv, Nat.reducePow, Int.reduceEq, Int.reduceLT, Int.reduceLE, Int.reduceNeg, Int.reduceAdd, Int.reduceSub, Int.reduceMul, Int.reduceToNat, Int.reduceBEq, Int.reduceBNe, Int.lt_irrefl]
    exact q1 (by rw [List.drop_length]; rfl)
  | succ d ih =>
    intro k hk q1 q2
    have hlt : k < rows.length := by omega
    obtain ⟨c, hc, hd⟩ := get_some hlt
    have hx : (rows.map Rw.v)[k]? = some (.agg [.int .i64 c.mask, .tree (c.data.xs.map b8) c.data.nl c.data.tg]) := by rw [List.getElem?_map, hc]; rfl
    rw [L_ref36_Few_2_unf]
    have e := all_drop (p := fun p : Rw => decide (p.data.xs.length ≤ 100)) hd
    by_cases hp : c.data.xs.length ≤ 100
    · have hp' : ¬ (100 : Int) < ((c.data.xs.length : Nat) : Int) := by omega
      simp only [b_ref36_Few_2, bC, bW, wpY', evR, evW, idx, ldc, okV, sub, setc, buildC, bnd, resOf, resL, res1, xorB, take2L, take2, takeL, take1, appF, rowOf, elemOk, plain, pl1, isRow, cellB, srcOf, LIM, Option.some.injEq, exists_eq_left', exists_eq_left, Prod.mk.injEq, if_true, if_false, ite_true, ite_false, ne_eq, eq_self, reduceCtorEq, ↓reduceIte, Nat.reduceEqDiff, Nat.reduceAdd, Nat.reduceSub, Nat.reduceMul, Nat.reduceLT, Nat.reduceLeDiff, Nat.reduceBEq, Nat.reduceBNe, Nat.reduceMod, Nat.reduceDiv, Nat.reducePow, Int.reduceEq, Int.reduceLT, Int.reduceLE, Int.reduceNeg, Int.reduceAdd, Int.reduceSub, Int.reduceMul, Int.reduceToNat, Int.reduceBEq, Int.reduceBNe, lt_c hlt, hx, hp', L_ref36_Few_2_eq, wi_s hlt (by omega)]
      rw [e] at q1 q2
      simp only [hp, decide_true, Bool.true_and] at q1 q2
      exact ih (k + 1) (by omega) q1 q2
    · have hp' : (100 : Int) < ((c.data.xs.length : Nat) : Int) := by omega
      simp only [b_ref36_Few_2, bC, bW, wpY', evR, evW, idx, ldc, okV, sub, setc, buildC, bnd, resOf, resL, res1, xorB, take2L, take2, takeL, take1, appF, rowOf, elemOk, plain, pl1, isRow, cellB, srcOf, LIM, Option.some.injEq, exists_eq_left', exists_eq_left, Prod.mk.injEq, if_true, if_false, ite_true, ite_false, ne_eq, eq_self, reduceCtorEq, ↓reduceIte, Nat.reduceEqDiff, Nat.reduceAdd, Nat.reduceSub, Nat.reduceMul, Nat.reduceLT, Nat.reduceLeDiff, Nat.reduceBEq, Nat.reduceBNe, Nat.reduceMod, Nat.reduceDiv, Nat.reducePow, Int.reduceEq, Int.reduceLT, Int.reduceLE, Int.reduceNeg, Int.reduceAdd, Int.reduceSub, Int.reduceMul, Int.reduceToNat, Int.reduceBEq, Int.reduceBNe, lt_c hlt, hx, hp']
      exact q2 (by rw [e]; simp [hp]) _ rfl
theorem f_ref36_Few {ver size dg start : Int} {pages : List By} {n1 g1 : Bool} {proofs : List (Sl Int)} {n2 g2 : Bool} {rows : List Rw} {n3 g3 : Bool} {proof : List Int} {n4 g4 : Bool} {iv bg fi ct sd : Int} : WpF XX .ro n_ref36_Few [.agg [.int .i64 ver, .int .i64 size, .int .u64 dg, .int .i64 start, .tree (pages.map By.v) n1 g1, .tree (proofs.map (Sl.v uV)) n2 g2, .tree (rows.map Rw.v) n3 g3, .tree (proof.map uV) n4 g4, .int .i64 iv, .int .i64 bg, .int .i64 fi, .int .i64 ct, .int .i64 sd]] st K ↔ K (.bool (fewI pages proofs rows proof)) st := by
  rw [F_ro (mf := m_ref36_Few) rfl rfl]
  unfold fewI
  by_cases h1 : pages.length ≤ 20
  case neg =>
    have h1' : (20 : Int) < pages.length := by omega
    simp only [m_ref36_Few, bC, bW, wpY', evR, evW, idx, ldc, okV, sub, setc, buildC, bnd, resOf, resL, res1, xorB, take2L, take2, takeL, take1, appF, rowOf, elemOk, plain, pl1, isRow, cellB, srcOf, LIM, Option.some.injEq, exists_eq_left', exists_eq_left, Prod.mk.injEq, if_true, if_false, ite_true, ite_false, ne_eq, eq_self, reduceCtorEq, ↓reduceIte, Nat.reduceEqDiff, Nat.reduceAdd, Nat.reduceSub, Nat.reduceMul, Nat.reduceLT, Nat.reduceLeDiff, Nat.reduceBEq, Nat.reduceBNe, Nat.reduceMod, Nat.reduceDiv, Nat.reducePow, Int.reduceEq, Int.reduceLT, Int.reduceLE, Int.reduceNeg, Int.reduceAdd, Int.reduceSub, Int.reduceMul, Int.reduceToNat, Int.reduceBEq, Int.reduceBNe, h1, h1']
  have h1' : ¬ (20 : Int) < pages.length := by omega
  by_cases h2 : proofs.length ≤ 20
  case neg =>
    have h2' : (20 : Int) < proofs.length := by omega
    simp only [m_ref36_Few, bC, bW, wpY', evR, evW, idx, ldc, okV, sub, setc, buildC, bnd, resOf, resL, res1, xorB, take2L, take2, takeL, take1, appF, rowOf, elemOk, plain, pl1, isRow, cellB, srcOf, LIM, Option.some.injEq, exists_eq_left', exists_eq_left, Prod.mk.injEq, if_true, if_false, ite_true, ite_false, ne_eq, eq_self, reduceCtorEq, ↓reduceIte, Nat.reduceEqDiff, Nat.reduceAdd, Nat.reduceSub, Nat.reduceMul, Nat.reduceLT, Nat.reduceLeDiff, Nat.reduceBEq, Nat.reduceBNe, Nat.reduceMod, Nat.reduceDiv, Nat.reducePow, Int.reduceEq, Int.reduceLT, Int.reduceLE, Int.reduceNeg, Int.reduceAdd, Int.reduceSub, Int.reduceMul, Int.reduceToNat, Int.reduceBEq, Int.reduceBNe, h1, h1', h2, h2']
  have h2' : ¬ (20 : Int) < proofs.length := by omega
  by_cases h3 : rows.length ≤ 40
  case neg =>
    have h3' : (40 : Int) < rows.length := by omega
    simp only [m_ref36_Few, bC, bW, wpY', evR, evW, idx, ldc, okV, sub, setc, buildC, bnd, resOf, resL, res1, xorB, take2L, take2, takeL, take1, appF, rowOf, elemOk, plain, pl1, isRow, cellB, srcOf, LIM, Option.some.injEq, exists_eq_left', exists_eq_left, Prod.mk.injEq, if_true, if_false, ite_true, ite_false, ne_eq, eq_self, reduceCtorEq, ↓reduceIte, Nat.reduceEqDiff, Nat.reduceAdd, Nat.reduceSub, Nat.reduceMul, Nat.reduceLT, Nat.reduceLeDiff, Nat.reduceBEq, Nat.reduceBNe, Nat.reduceMod, Nat.reduceDiv, Nat.reducePow, Int.reduceEq, Int.reduceLT, Int.reduceLE, Int.reduceNeg, Int.reduceAdd, Int.reduceSub, Int.reduceMul, Int.reduceToNat, Int.reduceBEq, Int.reduceBNe, h1, h1', h2, h2', h3, h3']
  have h3' : ¬ (40 : Int) < rows.length := by omega
  by_cases h4 : proof.length ≤ 40
  case neg =>
    have h4' : (40 : Int) < proof.length := by omega
    simp only [m_ref36_Few, bC, bW, wpY', evR, evW, idx, ldc, okV, sub, setc, buildC, bnd, resOf, resL, res1, xorB, take2L, take2, takeL, take1, appF, rowOf, elemOk, plain, pl1, isRow, cellB, srcOf, LIM, Option.some.injEq, exists_eq_left', exists_eq_left, Prod.mk.injEq, if_true, if_false, ite_true, ite_false, ne_eq, eq_self, reduceCtorEq, ↓reduceIte, Nat.reduceEqDiff, Nat.reduceAdd, Nat.reduceSub, Nat.reduceMul, Nat.reduceLT, Nat.reduceLeDiff, Nat.reduceBEq, Nat.reduceBNe, Nat.reduceMod, Nat.reduceDiv, Nat.reducePow, Int.reduceEq, Int.reduceLT, Int.reduceLE, Int.reduceNeg, Int.reduceAdd, Int.reduceSub, Int.reduceMul, Int.reduceToNat, Int.reduceBEq, Int.reduceBNe, h1, h1', h2, h2', h3, h3', h4, h4']
  have h4' : ¬ (40 : Int) < proof.length := by omega
  simp only [m_ref36_Few, bC, bW, wpY', evR, evW, idx, ldc, okV, sub, setc, buildC, bnd, resOf, resL, res1, xorB, take2L, take2, takeL, take1, appF, rowOf, elemOk, plain, pl1, isRow, cellB, srcOf, LIM, Option.some.injEq, exists_eq_left', exists_eq_left, Prod.mk.injEq, if_true, if_false, ite_true, ite_false, ne_eq, eq_self, reduceCtorEq, ↓reduceIte, Nat.reduceEqDiff, Nat.reduceAdd, Nat.reduceSub, Nat.reduceMul, Nat.reduceLT, Nat.reduceLeDiff, Nat.reduceBEq, Nat.reduceBNe, Nat.reduceMod, Nat.reduceDiv, Nat.reducePow, Int.reduceEq, Int.reduceLT, Int.reduceLE, Int.reduceNeg, Int.reduceAdd, Int.reduceSub, Int.reduceMul, Int.reduceToNat, Int.reduceBEq, Int.reduceBNe, h1, h1', h2, h2', h3, h3', h4, h4', L_ref36_Few_0_eq]
  refine L_few_0 (by omega) pages.length 0 (by omega) (fun e => ?_) (fun e en he => ?_)
  · rw [List.drop_zero] at e
    simp only [bC, bW, wpY', evR, evW, idx, ldc, okV, sub, setc, buildC, bnd, resOf, resL, res1, xorB, take2L, take2, takeL, take1, appF, rowOf, elemOk, plain, pl1, isRow, cellB, srcOf, LIM, Option.some.injEq, exists_eq_left', exists_eq_left, Prod.mk.injEq, if_true, if_false, ite_true, ite_false, ne_eq, eq_self, reduceCtorEq, ↓reduceIte, Nat.reduceEqDiff, Nat.reduceAdd, Nat.reduceSub, Nat.reduceMul, Nat.reduceLT, Nat.reduceLeDiff, Nat.reduceBEq, Nat.reduceBNe, Nat.reduceMod, Nat.reduceDiv, Nat.reducePow, Int.reduceEq, Int.reduceLT, Int.reduceLE, Int.reduceNeg, Int.reduceAdd, Int.reduceSub, Int.reduceMul, Int.reduceToNat, Int.reduceBEq, Int.reduceBNe, L_ref36_Few_1_eq]
    refine L_few_1 (by omega) proofs.length 0 (by omega) (fun e1 => ?_) (fun e1 en he => ?_)
    · rw [List.drop_zero] at e1
      simp only [bC, bW, wpY', evR, evW, idx, ldc, okV, sub, setc, buildC, bnd, resOf, resL, res1, xorB, take2L, take2, takeL, take1, appF, rowOf, elemOk, plain, pl1, isRow, cellB, srcOf, LIM, Option.some.injEq, exists_eq_left', exists_eq_left, Prod.mk.injEq, if_true, if_false, ite_true, ite_false, ne_eq, eq_self, reduceCtorEq, ↓reduceIte, Nat.reduceEqDiff, Nat.reduceAdd, Nat.reduceSub, Nat.reduceMul, Nat.reduceLT, Nat.reduceLeDiff, Nat.reduceBEq, Nat.reduceBNe, Nat.reduceMod, Nat.reduceDiv, Nat.reducePow, Int.reduceEq, Int.reduceLT, Int.reduceLE, Int.reduceNeg, Int.reduceAdd, Int.reduceSub, Int.reduceMul, Int.reduceToNat, Int.reduceBEq, Int.reduceBNe, L_ref36_Few_2_eq]
      refine L_few_2 (by omega) rows.length 0 (by omega) (fun e2 => ?_) (fun e2 en he => ?_)
      · rw [List.drop_zero] at e2
        simp only [bC, bW, wpY', evR, evW, idx, ldc, okV, sub, setc, buildC, bnd, resOf, resL, res1, xorB, take2L, take2, takeL, take1, appF, rowOf, elemOk, plain, pl1, isRow, cellB, srcOf, LIM, Option.some.injEq, exists_eq_left', exists_eq_left, Prod.mk.injEq, if_true, if_false, ite_true, ite_false, ne_eq, eq_self, reduceCtorEq, ↓reduceIte, Nat.reduceEqDiff, Nat.reduceAdd, Nat.reduceSub, Nat.reduceMul, Nat.reduceLT, Nat.reduceLeDiff, Nat.reduceBEq, Nat.reduceBNe, Nat.reduceMod, Nat.reduceDiv, Nat.reducePow, Int.reduceEq, Int.reduceLT, Int.reduceLE, Int.reduceNeg, Int.reduceAdd, Int.reduceSub, Int.reduceMul, Int.reduceToNat, Int.reduceBEq, Int.reduceBNe, e, e1, e2]
      · rw [List.drop_zero] at e2
        simp only [bC, bW, wpY', evR, evW, idx, ldc, okV, sub, setc, buildC, bnd, resOf, resL, res1, xorB, take2L, take2, takeL, take1, appF, rowOf, elemOk, plain, pl1, isRow, cellB, srcOf, LIM, Option.some.injEq, exists_eq_left', exists_eq_left, Prod.mk.injEq, if_true, if_false, ite_true, ite_false, ne_eq, eq_self, reduceCtorEq, ↓reduceIte, Nat.reduceEqDiff, Nat.reduceAdd, Nat.reduceSub, Nat.reduceMul, Nat.reduceLT, Nat.reduceLeDiff, Nat.reduceBEq, Nat.reduceBNe, Nat.reduceMod, Nat.reduceDiv, Nat.reducePow, Int.reduceEq, Int.reduceLT, Int.reduceLE, Int.reduceNeg, Int.reduceAdd, Int.reduceSub, Int.reduceMul, Int.reduceToNat, Int.reduceBEq, Int.reduceBNe, e, e1, e2, he]
    · rw [List.drop_zero] at e1
      simp only [bC, bW, wpY', evR, evW, idx, ldc, okV, sub, setc, buildC, bnd, resOf, resL, res1, xorB, take2L, take2, takeL, take1, appF, rowOf, elemOk, plain, pl1, isRow, cellB, srcOf, LIM, Option.some.injEq, exists_eq_left', exists_eq_left, Prod.mk.injEq, if_true, if_false, ite_true, ite_false, ne_eq, eq_self, reduceCtorEq, ↓reduceIte, Nat.reduceEqDiff, Nat.reduceAdd, Nat.reduceSub, Nat.reduceMul, Nat.reduceLT, Nat.reduceLeDiff, Nat.reduceBEq, Nat.reduceBNe, Nat.reduceMod, Nat.reduceDiv, Nat.reducePow, Int.reduceEq, Int.reduceLT, Int.reduceLE, Int.reduceNeg, Int.reduceAdd, Int.reduceSub, Int.reduceMul, Int.reduceToNat, Int.reduceBEq, Int.reduceBNe, e, e1, he]
  · rw [List.drop_zero] at e
    simp only [bC, bW, wpY', evR, evW, idx, ldc, okV, sub, setc, buildC, bnd, resOf, resL, res1, xorB, take2L, take2, takeL, take1, appF, rowOf, elemOk, plain, pl1, isRow, cellB, srcOf, LIM, Option.some.injEq, exists_eq_left', exists_eq_left, Prod.mk.injEq, if_true, if_false, ite_true, ite_false, ne_eq, eq_self, reduceCtorEq, ↓reduceIte, Nat.reduceEqDiff, Nat.reduceAdd, Nat.reduceSub, Nat.reduceMul, Nat.reduceLT, Nat.reduceLeDiff, Nat.reduceBEq, Nat.reduceBNe, Nat.reduceMod, Nat.reduceDiv, Nat.reducePow, Int.reduceEq, Int.reduceLT, Int.reduceLE, Int.reduceNeg, Int.reduceAdd, Int.reduceSub, Int.reduceMul, Int.reduceToNat, Int.reduceBEq, Int.reduceBNe, e, he]
end
end Go.Proofs.YtfmbdcmjgnikiaaDoor.Sm
namespace Go.Proofs.YtfmbdcmjgnikiaaDoor.Sm
open Go

def InR (x : Int) : Prop := 0 ≤ x ∧ x < 18446744073709551616
def bv (x : Int) : BitVec 64 := BitVec.ofInt 64 x
theorem bv_inj {x y : Int} (hx : InR x) (hy : InR y) (h : bv x = bv y) : x = y := by
  have h1 := congrArg BitVec.toNat h
  unfold bv at h1
  rw [BitVec.toNat_ofInt, BitVec.toNat_ofInt] at h1
  obtain ⟨a, b⟩ := hx
  obtain ⟨c, d⟩ := hy
  rw [Int.emod_eq_of_lt a (by simpa using b), Int.emod_eq_of_lt c (by simpa using d)] at h1
  omega
theorem wu_mod (n : Int) : IntKind.u64.wrap n = n % 18446744073709551616 := by simp [IntKind.wrap, IntKind.bits, IntKind.signed]
theorem xor_bv (x w : Int) : xorI .u64 x w = ((bv x ^^^ bv w).toNat : Int) := by
  unfold xorI bv
  rw [wu_mod]
  have := (BitVec.ofInt 64 x ^^^ BitVec.ofInt 64 w).isLt
  show (((BitVec.ofInt 64 x ^^^ BitVec.ofInt 64 w).toNat : Nat) : Int) % _ = _
  omega
theorem step_bv (x w : Int) : stepI x w = (((bv x ^^^ bv w) * 1099511628211#64).toNat : Int) := by
  unfold stepI
  rw [wu_mod, xor_bv, BitVec.toNat_mul]
  rfl
theorem step_in (x w : Int) : InR (stepI x w) := by
  rw [step_bv]
  have := ((bv x ^^^ bv w) * 1099511628211#64).isLt
  exact ⟨by omega, by omega⟩
theorem mul_inj {a b : BitVec 64} (h : a * 1099511628211#64 = b * 1099511628211#64) : a = b := by
  have h2 := congrArg (· * 14886173955864302971#64) h
  simp only [BitVec.mul_assoc] at h2
  have e : (1099511628211#64 * 14886173955864302971#64 : BitVec 64) = 1#64 := by decide
  rw [e, BitVec.mul_one, BitVec.mul_one] at h2
  exact h2
theorem step_eq {x w y v : Int} (h : stepI x w = stepI y v) : bv x ^^^ bv w = bv y ^^^ bv v := by
  rw [step_bv, step_bv] at h
  refine mul_inj (BitVec.eq_of_toNat_eq ?_)
  omega
theorem xor_left {a b c : BitVec 64} (h : a ^^^ b = a ^^^ c) : b = c := by
  have := congrArg (a ^^^ ·) h
  simpa [← BitVec.xor_assoc] using this
theorem xor_right {a b c : BitVec 64} (h : a ^^^ c = b ^^^ c) : a = b := by
  rw [BitVec.xor_comm a, BitVec.xor_comm b] at h
  exact xor_left h
theorem step_inj_w {x w v : Int} (hw : InR w) (hv : InR v) (h : stepI x w = stepI x v) : w = v := bv_inj hw hv (xor_left (step_eq h))
theorem step_inj_x {x y w : Int} (hx : InR x) (hy : InR y) (h : stepI x w = stepI y w) : x = y := bv_inj hx hy (xor_right (step_eq h))
theorem addI_in {x : Int} (hx : InR x) : ∀ b : List UInt8, InR (addI x b)
  | [] => hx
  | c :: b => addI_in (step_in _ _) b
theorem addI_inj : ∀ (b : List UInt8) {x y : Int}, InR x → InR y → addI x b = addI y b → x = y
  | [], x, y, hx, hy, h => h
  | c :: b, x, y, hx, hy, h => step_inj_x hx hy (addI_inj b (step_in _ _) (step_in _ _) h)
theorem addI_app (x : Int) (a b : List UInt8) : addI x (a ++ b) = addI (addI x a) b := by simp [addI]
theorem u8_in (c : UInt8) : InR (c.toNat : Int) := by have := c.toNat_lt; exact ⟨by omega, by omega⟩
theorem addI_set {x : Int} (hx : InR x) {b : List UInt8} {k : Nat} {c c' : UInt8} (hc : b[k]? = some c) (hne : c ≠ c') : addI x (b.set k c') ≠ addI x b := by
  have hk := (List.getElem?_eq_some_iff.1 hc).1
  have e1 : b = b.take k ++ c :: b.drop (k + 1) := by
    obtain ⟨d, hd, he⟩ := get_some hk
    rw [hd] at hc; cases hc
    rw [← he, List.take_append_drop]
  have e2 : b.set k c' = b.take k ++ c' :: b.drop (k + 1) := by
    rw [List.set_eq_take_append_cons_drop, if_pos hk]
  rw [e2]
  conv => rhs; rw [e1]
  rw [addI_app, addI_app, addI_c, addI_c]
  intro h
  have := step_inj_w (u8_in _) (u8_in _) (addI_inj _ (step_in _ _) (step_in _ _) h)
  have h3 : c'.toNat = c.toNat := by omega
  exact hne (UInt8.toNat_inj.1 h3.symm)
theorem leaf_in (b : List UInt8) : InR (leafI b) := addI_in (step_in _ _) b
theorem leaf_set {b : List UInt8} {k : Nat} {c c' : UInt8} (hc : b[k]? = some c) (hne : c ≠ c') : leafI (b.set k c') ≠ leafI b := addI_set (step_in _ _) hc hne
theorem pair_in (a b : Int) : InR (pairI a b) := step_in _ _
theorem pair_inj_l {a b c : Int} (ha : InR a) (hb : InR b) (h : pairI a c = pairI b c) : a = b :=
  step_inj_w ha hb (step_inj_x (step_in _ _) (step_in _ _) h)
theorem pair_inj_r {a b c : Int} (ha : InR a) (hb : InR b) (h : pairI c a = pairI c b) : a = b := step_inj_w ha hb h

/-! ### one level up -/
theorem nextI_get : ∀ (l : List Int) (i : Nat), i < l.length → (nextI l)[i / 2]? = some (if partner i < l.length then (if i % 2 = 1 then pairI (l.getD (partner i) 0) (l.getD i 0) else pairI (l.getD i 0) (l.getD (partner i) 0)) else l.getD i 0)
  | [], i, h => by simp at h
  | [a], i, h => by
    obtain rfl : i = 0 := by simpa using h
    simp [nextI, partner]
  | a :: b :: r, i, h => by
    rw [nextI]
    match i, h with
    | 0, _ => simp [partner]
    | 1, _ => simp [partner]
    | i + 2, h =>
      have hi : (i + 2) / 2 = i / 2 + 1 := by omega
      have hp : partner (i + 2) = partner i + 2 := by unfold partner; split <;> split <;> omega
      have hm : (i + 2) % 2 = i % 2 := by omega
      have ih := nextI_get r i (by simpa using h)
      rw [hi, List.getElem?_cons_succ, ih, hp, hm]
      have e : ∀ j, (a :: b :: r).getD (j + 2) 0 = r.getD j 0 := fun j => by simp [List.getD]
      rw [e, e]
      have : (partner i + 2 < (a :: b :: r).length) ↔ (partner i < r.length) := by simp
      simp only [this]
theorem nextI_in : ∀ (l : List Int), (∀ x ∈ l, InR x) → ∀ x ∈ nextI l, InR x
  | [], h, x, hx => by simp [nextI] at hx
  | [a], h, x, hx => by simp [nextI] at hx; subst hx; exact h _ (by simp)
  | a :: b :: r, h, x, hx => by
    rw [nextI] at hx
    rcases List.mem_cons.1 hx with rfl | hx
    · exact pair_in _ _
    · exact nextI_in r (fun y hy => h y (by simp [hy])) x hx

/-! ### the digests on the way up -/
def prf : Nat → List Int → Nat → List Int
  | 0, l, i => if partner i < l.length then [l.getD (partner i) 0] else []
  | f + 1, l, i => (if partner i < l.length then [l.getD (partner i) 0] else []) ++ (if 1 < l.length then prf f (nextI l) (i / 2) else [])
theorem runL_prf : ∀ (f : Nat) (l : List Int) (s : PS), (runL proofS f l s).out = s.out ++ prf f l s.i
  | 0, l, s => by simp only [runL, proofS, prf]; split <;> simp
  | f + 1, l, s => by
    rw [runL, prf]
    split
    · rw [runL_prf f]
      simp only [proofS]
      split <;> simp
    · simp only [proofS]
      split <;> simp
theorem proofI_eq (a : List By) (i : Nat) : proofI a i = prf 16 (leavesI a) i := by
  unfold proofI
  rw [runL_prf]
  rfl
theorem climb_hit {f n i : Nat} {x p : Int} {ps : List Int} (h1 : 1 < n) (h2 : partner i < n) : climb (f + 1) n i x (p :: ps) = climb f ((n + 1) / 2) (i / 2) (if i % 2 = 1 then pairI p x else pairI x p) ps := by simp only [climb, h1, h2, if_true]
theorem climb_hit0 {f n i : Nat} {x : Int} (h1 : 1 < n) (h2 : partner i < n) : climb (f + 1) n i x [] = none := by simp only [climb, h1, h2, if_true]
theorem climb_miss {f n i : Nat} {x : Int} {ps : List Int} (h1 : 1 < n) (h2 : ¬ partner i < n) : climb (f + 1) n i x ps = climb f ((n + 1) / 2) (i / 2) x ps := by simp only [climb, h1, h2, if_true, if_false]
theorem climb_end {f n i : Nat} {x : Int} {ps : List Int} (h1 : ¬ 1 < n) : climb (f + 1) n i x ps = if ps = [] then some x else none := by simp only [climb, h1, if_false]
theorem climb_prf : ∀ (f : Nat) (l : List Int) (i : Nat), i < l.length → l.length ≤ f + 1 → climb f l.length i (l.getD i 0) (prf f l i) = some (rootF f l)
  | 0, l, i, hi, hl => by
    have h1 : l.length = 1 := by omega
    obtain rfl : i = 0 := by omega
    have hp : ¬ partner 0 < l.length := by simp [partner]; omega
    rw [prf, if_neg hp, climb, if_pos rfl, rootF]
    cases l with
    | nil => simp at h1
    | cons a l => rfl
  | f + 1, l, i, hi, hl => by
    rw [rootF, prf]
    by_cases h1 : 1 < l.length
    · rw [if_pos h1, if_pos h1]
      have hn := nextI_len l
      have ih := climb_prf f (nextI l) (i / 2) (by omega) (by omega)
      rw [hn] at ih
      have hg := nextI_get l i hi
      have hg' : (nextI l).getD (i / 2) 0 = (if partner i < l.length then (if i % 2 = 1 then pairI (l.getD (partner i) 0) (l.getD i 0) else pairI (l.getD i 0) (l.getD (partner i) 0)) else l.getD i 0) := by
        rw [List.getD_eq_getElem?_getD, hg]; rfl
      rw [hg'] at ih
      by_cases h2 : partner i < l.length
      · rw [if_pos h2, List.singleton_append, climb_hit h1 h2]
        rw [if_pos h2] at ih
        exact ih
      · rw [if_neg h2, List.nil_append, climb_miss h1 h2]
        rw [if_neg h2] at ih
        exact ih
    · rw [if_neg h1, if_neg h1, climb_end h1]
      have h1' : l.length = 1 := by omega
      obtain rfl : i = 0 := by omega
      have hp : ¬ partner 0 < l.length := by simp [partner]; omega
      rw [if_neg hp]
      cases l with
      | nil => simp at h1'
      | cons a l => rfl
theorem leavesI_getD {a : List By} {i : Nat} {p : By} (h : a[i]? = some p) : (leavesI a).getD i 0 = leafI p.xs := by
  rw [List.getD_eq_getElem?_getD, leavesI, List.getElem?_map, h]; rfl
/-- The proof of a page proves it. -/
theorem check_proof {a : List By} (ha : arePagesI a = true) {i : Nat} {p : By} (hp : a[i]? = some p) : checkI (rootI a) a.length i p.xs (proofI a i) = true := by
  have hi := (List.getElem?_eq_some_iff.1 hp).1
  simp only [arePagesI, Bool.and_eq_true, decide_eq_true_eq, List.all_eq_true] at ha
  obtain ⟨⟨h1, h2⟩, h3⟩ := ha
  have h4 := h3 p (List.mem_of_getElem? hp)
  have hl : (leavesI a).length = a.length := by simp [leavesI]
  have := climb_prf 16 (leavesI a) i (by omega) (by omega)
  rw [hl, leavesI_getD hp, ← proofI_eq] at this
  simp only [checkI, Bool.and_eq_true, decide_eq_true_eq]
  exact ⟨⟨⟨⟨⟨by omega, by omega⟩, by omega⟩, by omega⟩, h4⟩, this⟩
/-- On the same way another leaf leads to another root. -/
theorem climb_inj_x : ∀ (f n i : Nat) (x y : Int) (ps : List Int) (r : Int), InR x → InR y → climb f n i x ps = some r → climb f n i y ps = some r → x = y
  | 0, n, i, x, y, ps, r, hx, hy, h1, h2 => by
    simp only [climb] at h1 h2
    split at h1
    · rename_i hp
      rw [if_pos hp] at h2
      cases h1; cases h2; rfl
    · cases h1
  | f + 1, n, i, x, y, ps, r, hx, hy, h1, h2 => by
    by_cases hn : 1 < n
    · by_cases hp : partner i < n
      · cases ps with
        | nil => rw [climb_hit0 hn hp] at h1; cases h1
        | cons p ps =>
          rw [climb_hit hn hp] at h1 h2
          split at h1
          · rename_i hi
            rw [if_pos hi] at h2
            exact pair_inj_r hx hy (climb_inj_x f _ _ _ _ _ _ (pair_in _ _) (pair_in _ _) h1 h2)
          · rename_i hi
            rw [if_neg hi] at h2
            exact pair_inj_l hx hy (climb_inj_x f _ _ _ _ _ _ (pair_in _ _) (pair_in _ _) h1 h2)
      · rw [climb_miss hn hp] at h1 h2
        exact climb_inj_x f _ _ _ _ _ _ hx hy h1 h2
    · rw [climb_end hn] at h1 h2
      split at h1
      · rename_i hp
        rw [if_pos hp] at h2
        cases h1; cases h2; rfl
      · cases h1
theorem climb_inj_p : ∀ (f n i : Nat) (x : Int) (ps : List Int) (j : Nat) (q : Int) (r : Int), InR x → (∀ p ∈ ps, InR p) → InR q → j < ps.length → climb f n i x ps = some r → climb f n i x (ps.set j q) = some r → ps.getD j 0 = q
  | 0, n, i, x, ps, j, q, r, hx, hps, hq, hj, h1, h2 => by
    simp only [climb] at h1
    split at h1
    · rename_i hp; subst hp; simp at hj
    · cases h1
  | f + 1, n, i, x, ps, j, q, r, hx, hps, hq, hj, h1, h2 => by
    by_cases hn : 1 < n
    · by_cases hp : partner i < n
      · cases ps with
        | nil => rw [climb_hit0 hn hp] at h1; cases h1
        | cons p ps =>
          have hpi := hps p List.mem_cons_self
          rw [climb_hit hn hp] at h1
          cases j with
          | zero =>
            rw [List.set_cons_zero, climb_hit hn hp] at h2
            split at h1
            · rename_i hi
              rw [if_pos hi] at h2
              exact pair_inj_l hpi hq (climb_inj_x f _ _ _ _ _ _ (pair_in _ _) (pair_in _ _) h1 h2)
            · rename_i hi
              rw [if_neg hi] at h2
              exact pair_inj_r hpi hq (climb_inj_x f _ _ _ _ _ _ (pair_in _ _) (pair_in _ _) h1 h2)
          | succ j =>
            rw [List.set_cons_succ, climb_hit hn hp] at h2
            have := climb_inj_p f _ _ _ ps j q r (by split <;> exact pair_in _ _) (fun y hy => hps y (List.mem_cons_of_mem _ hy)) hq (by simpa using hj) h1 h2
            simpa using this
      · rw [climb_miss hn hp] at h1 h2
        exact climb_inj_p f _ _ _ ps j q r hx hps hq hj h1 h2
    · rw [climb_end hn] at h1
      split at h1
      · rename_i hp; subst hp; simp at hj
      · cases h1
end Go.Proofs.YtfmbdcmjgnikiaaDoor.Sm
namespace Go.Proofs.YtfmbdcmjgnikiaaDoor.Sm
open Go Go.RowKit

def smp (i : Nat) : UInt8 := UInt8.ofNat (i * 7)
def sampleB : List UInt8 := (List.range 300).map smp
def P0 : List UInt8 := sampleB.take 256
def P1 : List UInt8 := pad (sampleB.drop 256)
def Z300 : List SV := (List.replicate 300 [SV.int .u8 0]).flatten
theorem Z300_eq : Z300 = List.replicate 300 (SV.int .u8 0) := by
  have : ∀ n, (List.replicate n [SV.int .u8 0]).flatten = List.replicate n (SV.int .u8 0) := fun n => by
    induction n with
    | zero => rfl
    | succ n ih => rw [List.replicate_succ, List.flatten_cons, ih]; rfl
  exact this 300
theorem Z3f : (List.replicate 300 [SV.int .u8 0]).flatten = Z300 := rfl
theorem Z300_len : Z300.length = 300 := by rw [Z300_eq, List.length_replicate]
theorem smp_s {k : Nat} (h : k < 300) : (IntKind.u8.wrap (IntKind.i64.wrap ((k : Int) * 7))) = ((smp k).toNat : Int) := by
  rw [wi _ (by omega) (by omega)]
  have e : (smp k).toNat = (k * 7) % 256 := by simp [smp, UInt8.toNat_ofNat']
  rw [e]
  simp [IntKind.wrap, IntKind.bits, IntKind.signed]
section
variable {h : Heap} {nx wb : Nat} {ls : List (Nat × LRec)} {Q : Ex → St → Prop} {R : Prop} {st : St} {K : SV → St → Prop}
theorem L_sample : ∀ (d k : Nat) (cs : List SV), k + d = 300 → cs.length = 300 → cs.take k = ((List.range k).map smp).map b8 →
    (Q (.exit 0) ⟨[(1, .own 0 0 300 1)], [(0, sampleB.map b8)], 1, ls, 0⟩ ↔ R) →
    (L_law36_sample_0 XX (.own 0 0 300 1) (.int .i64 300) (.int .i64 k) [(0, cs)] 1 ls 0 Q ↔ R) := by
  intro d
  induction d with
  | zero =>
    intro k cs hk hl hc q
    obtain rfl : k = 300 := by omega
    rw [L_law36_sample_0_unf]
    have e : cs = sampleB.map b8 := by rw [List.take_of_length_le (by omega)] at hc; exact hc
    have : ¬ ((300 : Nat) : Int) < 300 := by omega
    simp only [b_law36_sample_0, bC, bW, wpY', evR, evW, idx, ldc, okV, sub, setc, buildC, bnd, resOf, resL, res1, xorB, take2L, take2, takeL, take1, appF, rowOf, elemOk, plain, pl1, isRow, cellB, srcOf, LIM, Option.some.injEq, exists_eq_left', exists_eq_left, Prod.mk.injEq, if_true, if_false, ite_true, ite_false, ne_eq, eq_self, reduceCtorEq, ↓reduceIte, Nat.reduceEqDiff, Nat.reduceAdd, Nat.reduceSub, Nat.reduceMul, Nat.reduceLT, Nat.reduceLeDiff, Nat.reduceBEq, Nat.reduceBNe, Nat.reduceMod, Nat.reduceDiv, Nat.reducePow, Int.reduceEq, Int.reduceLT, Int.reduceLE, Int.reduceNeg, Int.reduceAdd, Int.reduceSub, Int.reduceMul, Int.reduceToNat, Int.reduceBEq, Int.reduceBNe, this]
    rw [e]
    exact q
  | succ d ih =>
    intro k cs hk hl hc q
    have hlt : k < 300 := by omega
    have hlt' : (k : Int) < 300 := by omega
    rw [L_law36_sample_0_unf]
    have hs := smp_s hlt
    have hkl : k ≤ 299 := by omega
    have wk : IntKind.i64.wrap ((k : Int) + 1) = ((k + 1 : Nat) : Int) := by rw [wi _ (by omega) (by omega)]; rfl
    simp only [b_law36_sample_0, bC, bW, wpY', evR, evW, idx, ldc, okV, sub, setc, buildC, bnd, resOf, resL, res1, xorB, take2L, take2, takeL, take1, appF, rowOf, elemOk, plain, pl1, isRow, cellB, srcOf, LIM, Option.some.injEq, exists_eq_left', exists_eq_left, Prod.mk.injEq, if_true, if_false, ite_true, ite_false, ne_eq, eq_self, reduceCtorEq, ↓reduceIte, Nat.reduceEqDiff, Nat.reduceAdd, Nat.reduceSub, Nat.reduceMul, Nat.reduceLT, Nat.reduceLeDiff, Nat.reduceBEq, Nat.reduceBNe, Nat.reduceMod, Nat.reduceDiv, Nat.reducePow, Int.reduceEq, Int.reduceLT, Int.reduceLE, Int.reduceNeg, Int.reduceAdd, Int.reduceSub, Int.reduceMul, Int.reduceToNat, Int.reduceBEq, Int.reduceBNe, hlt, hlt', hs, hl, wk, hkl, L_law36_sample_0_eq]
    refine ih (k + 1) _ (by omega) ?_ ?_ q
    · simp [hl]
    rw [List.range_succ, List.map_append, List.map_append, ← hc]
    have : k < (cs.set k (b8 (smp k))).length := by simp; omega
    rw [List.take_add_one]
    simp [hl, hlt, List.take_set, b8]
    exact List.set_eq_of_length_le (by simp; omega)
theorem f_law36_sample : WpF XX .ro n_law36_sample [] st K ↔ K (.tree (sampleB.map b8) false false) st := by
  rw [F_ro (mf := m_law36_sample) rfl rfl]
  simp only [m_law36_sample, bC, bW, wpY', evR, evW, idx, ldc, okV, sub, setc, buildC, bnd, resOf, resL, res1, xorB, take2L, take2, takeL, take1, appF, rowOf, elemOk, plain, pl1, isRow, cellB, srcOf, LIM, Option.some.injEq, exists_eq_left', exists_eq_left, Prod.mk.injEq, if_true, if_false, ite_true, ite_false, ne_eq, eq_self, reduceCtorEq, ↓reduceIte, Nat.reduceEqDiff, Nat.reduceAdd, Nat.reduceSub, Nat.reduceMul, Nat.reduceLT, Nat.reduceLeDiff, Nat.reduceBEq, Nat.reduceBNe, Nat.reduceMod, Nat.reduceDiv, Nat.reducePow, Int.reduceEq, Int.reduceLT, Int.reduceLE, Int.reduceNeg, Int.reduceAdd, Int.reduceSub, Int.reduceMul, Int.reduceToNat, Int.reduceBEq, Int.reduceBNe, Z3f, Z300_len, L_law36_sample_0_eq]
  refine L_sample 300 0 Z300 (by omega) Z300_len (by simp) ?_
  have e : (sampleB.map b8).length = 300 := by simp [sampleB]
  have e2 : List.take 300 (sampleB.map b8) = sampleB.map b8 := List.take_of_length_le (by omega)
  have e3 : sampleB.length = 300 := by simp [sampleB]
  simp only [bC, bW, wpY', evR, evW, idx, ldc, okV, sub, setc, buildC, bnd, resOf, resL, res1, xorB, take2L, take2, takeL, take1, appF, rowOf, elemOk, plain, pl1, isRow, cellB, srcOf, LIM, Option.some.injEq, exists_eq_left', exists_eq_left, Prod.mk.injEq, if_true, if_false, ite_true, ite_false, ne_eq, eq_self, reduceCtorEq, ↓reduceIte, Nat.reduceEqDiff, Nat.reduceAdd, Nat.reduceSub, Nat.reduceMul, Nat.reduceLT, Nat.reduceLeDiff, Nat.reduceBEq, Nat.reduceBNe, Nat.reduceMod, Nat.reduceDiv, Nat.reducePow, Int.reduceEq, Int.reduceLT, Int.reduceLE, Int.reduceNeg, Int.reduceAdd, Int.reduceSub, Int.reduceMul, Int.reduceToNat, Int.reduceBEq, Int.reduceBNe, e2, b8_all, e3]

theorem sample_len : sampleB.length = 300 := by simp [sampleB]
theorem P0_len : P0.length = 256 := by simp [P0, sampleB]
theorem P1_len : P1.length = 256 := pad_len (by simp [sampleB])
theorem P1_43 : P1[43]? = some 45 := by decide +kernel
theorem P1_44 : P1[44]? = some 0 := by decide +kernel
theorem sample_split : splitI sampleB = [pgV P0, pgV P1] := by
  have e : splitF 16 sampleB = [P0, P1] := by decide +kernel
  rw [splitI, e]; rfl
def l0 : Int := leafI P0
def l1 : Int := leafI P1
def Dg : Int := pairI l0 l1
theorem sample_root : rootI [pgV P0, pgV P1] = Dg := rfl
theorem page_v {p : List UInt8} : By.v (pgV p) = .tree (p.map b8) false false := rfl
def hp1 : List By := [⟨P0, false, false⟩]
def hq1 : List (Sl Int) := [⟨[l1], false, false⟩]
def hp2 : List By := [⟨P0, false, false⟩, ⟨P1, false, false⟩]
def hq2 : List (Sl Int) := [⟨[l1], false, false⟩, ⟨[l0], false, false⟩]
theorem join_a : joinOK hp2 300 = true := by decide +kernel
theorem join_b : joinOK hp2 299 = true := by decide +kernel
theorem join_c : joinOK hp2 256 = false := by decide +kernel
theorem join_d : joinOK hp1 300 = false := by decide +kernel
theorem allB_a : allZ ((allB hp2).drop 300) = true := by decide +kernel
theorem allB_b : allZ ((allB hp2).drop 299) = false := by decide +kernel
theorem allB_c : (allB hp2).take 300 = sampleB := by decide +kernel
theorem ck_0 : checkI Dg 2 0 P0 [l1] = true := by
  have : climb 16 2 0 l0 [l1] = some Dg := rfl
  simp [checkI, P0_len, show leafI P0 = l0 from rfl, this]
theorem ck_1 : checkI Dg 2 1 P1 [l0] = true := by
  have : climb 16 2 1 l1 [l0] = some Dg := rfl
  simp [checkI, P1_len, show leafI P1 = l1 from rfl, this]
theorem xor_1 {x : Int} (hx : InR x) : xorI .u64 x 1 ≠ x := by
  rw [xor_bv]
  intro h
  have e : (bv x).toNat = x := by
    unfold bv
    rw [BitVec.toNat_ofInt, Int.emod_eq_of_lt hx.1 (by simpa using hx.2)]
    have := hx.1
    omega
  have h2 : bv x ^^^ bv 1 = bv x := by
    apply BitVec.eq_of_toNat_eq
    omega
  have h3 : bv x ^^^ bv 1 = bv x ^^^ 0#64 := by rw [h2, BitVec.xor_zero]
  exact absurd (xor_left h3) (by decide)
theorem xor_in (x y : Int) : InR (xorI .u64 x y) := by
  rw [xor_bv]
  have := (bv x ^^^ bv y).isLt
  exact ⟨by omega, by omega⟩
theorem ck_2 : checkI Dg 2 1 P1 [xorI .u64 l0 1] = false := by
  have h : climb 16 2 1 l1 [xorI .u64 l0 1] = some (pairI (xorI .u64 l0 1) l1) := rfl
  have : climb 16 2 1 l1 [xorI .u64 l0 1] ≠ some Dg := fun e => by
    rw [h] at e
    exact xor_1 (leaf_in P0) (pair_inj_l (xor_in _ _) (leaf_in P0) (Option.some.inj e))
  have h2 : leafI P1 = l1 := rfl
  simp [checkI, P1_len, h2, this]
theorem cnt_300 : countI 300 = 2 := by decide
theorem not_300 : noticeI 3 300 50 = true := by decide
theorem sd_0 : soundI 3 300 Dg 50 [] [] = true := by decide
theorem pr_1 : provedF Dg 300 0 hp1 hq1 = true := by
  show (checkI Dg (countI 300) 0 P0 [l1] && true) = true
  rw [cnt_300, ck_0]; rfl
theorem pr_2 : provedF Dg 300 0 hp2 hq2 = true := by
  show (checkI Dg (countI 300) 0 P0 [l1] && (checkI Dg (countI 300) 1 P1 [l0] && true)) = true
  rw [cnt_300, ck_0, ck_1]; rfl
theorem sd_1 : soundI 3 300 Dg 50 hp1 hq1 = true := by
  have h1 : pagedI hp1 = true := by decide +kernel
  have h2 : decide (((hp1.length : Nat) : Int) ≤ countI 300) = true := rfl
  have h3 : decide (hq1.length = hp1.length) = true := rfl
  rw [soundI, not_300, pr_1, h1, h2, h3]; rfl
theorem sd_2 : soundI 3 300 Dg 50 hp2 hq2 = true := by
  have h1 : pagedI hp2 = true := by decide +kernel
  have h2 : decide (((hp2.length : Nat) : Int) ≤ countI 300) = true := rfl
  have h3 : decide (hq2.length = hp2.length) = true := rfl
  rw [soundI, not_300, pr_2, h1, h2, h3]; rfl
theorem spok_0 : SpOK [] true [] true := ⟨by simp, by simp, by simp, by simp, by simp, by simp⟩
theorem spok_1 : SpOK hp1 false hq1 false := ⟨by decide, by decide, by simp [hp1, Sl.ok], by simp [hq1, Sl.ok], by simp, by simp⟩
theorem spok_2 : SpOK hp2 false hq2 false := ⟨by decide, by decide, by simp [hp2, Sl.ok], by simp [hq2, Sl.ok], by simp, by simp⟩
end
end Go.Proofs.YtfmbdcmjgnikiaaDoor.Sm
namespace Go.Proofs.YtfmbdcmjgnikiaaDoor.Sm
open Go Go.RowKit
section
variable {st : St} {K : SV → St → Prop}
theorem hd_split : WpF XX .ro n_image_Split [.tree (sampleB.map b8) false false] st K ↔ K (.tup [.tree [.tree (P0.map b8) false false, .tree (P1.map b8) false false] false false, .int .i64 0]) st := by
  rw [f_image_Split, sample_len, sample_split]; rfl
theorem hd_splitn : WpF XX .ro n_image_Split [.tree [] true true] st K ↔ K (.tup [.tree [] true true, .int .i64 1]) st := by
  have := @f_image_Split st K [] true true
  rw [List.map_nil] at this
  rw [this]; rfl
theorem hd_ann : WpF XX .ro n_image_Announce [.int .i64 3, .tree (sampleB.map b8) false false, .int .i64 50] st K ↔ K (.tup [.agg [.int .i64 3, .int .i64 300, .int .u64 Dg, .int .i64 50], .int .i64 0]) st := by
  rw [f_image_Announce, sample_len, sample_split, sample_root]; rfl
theorem hd_join_a : WpF XX .ro n_image_Join [.tree [.tree (P0.map b8) false false, .tree (P1.map b8) false false] false false, .int .i64 300] st K ↔ K (.tup [.tree (sampleB.map b8) false true, .int .i64 0]) st := by
  have := @f_image_Join st K hp2 false false 300 (by decide)
  refine this.trans ?_
  rw [join_a, if_pos rfl, show (300 : Int).toNat = 300 from rfl, allB_a, if_pos rfl, allB_c]
theorem hd_join_b : WpF XX .ro n_image_Join [.tree [.tree (P0.map b8) false false, .tree (P1.map b8) false false] false false, .int .i64 299] st K ↔ K (.tup [.tree [] true true, .int .i64 12]) st := by
  have := @f_image_Join st K hp2 false false 299 (by decide)
  refine this.trans ?_
  rw [join_b, if_pos rfl, show (299 : Int).toNat = 299 from rfl, allB_b]; rfl
theorem hd_join_c : WpF XX .ro n_image_Join [.tree [.tree (P0.map b8) false false, .tree (P1.map b8) false false] false false, .int .i64 256] st K ↔ K (.tup [.tree [] true true, .int .i64 1]) st := by
  have := @f_image_Join st K hp2 false false 256 (by decide)
  refine this.trans ?_
  rw [join_c]; rfl
def SA (ps : List By) (qs : List (Sl Int)) (b : Bool) : SV := .agg [.int .i64 3, .int .i64 300, .int .u64 Dg, .int .i64 50, .tree (ps.map By.v) b b, .tree (qs.map (Sl.v uV)) b b, .tree [] true true, .tree [] true true, .int .i64 0, .int .i64 0, .int .i64 0, .int .i64 0, .int .i64 0]
def SA0 : List SV := [.int .i64 3, .int .i64 300, .int .u64 Dg, .int .i64 50, .tree [] true true, .tree [] true true, .tree [] true true, .tree [] true true, .int .i64 0, .int .i64 0, .int .i64 0, .int .i64 0, .int .i64 0]
theorem hd_put_0 : WpF XX .ro n_image_Put [.agg SA0, .tree (P0.map b8) false false, .tree [.int .u64 l1] false true] st K ↔ K (.tup [.agg [.int .i64 3, .int .i64 300, .int .u64 Dg, .int .i64 50, .tree (hp1.map By.v) false false, .tree (hq1.map (Sl.v uV)) false false, .tree [] true true, .tree [] true true, .int .i64 0, .int .i64 0, .int .i64 0, .int .i64 0, .int .i64 0], .int .i64 0]) st := by
  have := @f_image_Put st K 3 300 Dg 50 [] true true [] true true [] true true [] true true 0 0 0 0 0 P0 false false [l1] false true spok_0 (by rw [P0_len]; omega) (by simp) (by decide) (by simp)
  refine this.trans ?_
  rw [sd_0, cnt_300, if_neg (by simp [P0_len]), if_neg (by simp), show (([] : List By).length : Int) = 0 from rfl, ck_0, if_neg (by simp)]
  have e1 : (([] : List By) ++ [(⟨P0, false, false⟩ : By)]).map cloneB = hp1 := by simp [cloneB, hp1, P0_len]
  have e2 : (([] : List (Sl Int)) ++ [(⟨[l1], false, true⟩ : Sl Int)]).map cloneB = hq1 := by simp [cloneB, hq1]
  rw [e1, e2]
theorem hd_put_1 : WpF XX .ro n_image_Put [.agg [.int .i64 3, .int .i64 300, .int .u64 Dg, .int .i64 50, .tree (hp1.map By.v) false false, .tree (hq1.map (Sl.v uV)) false false, .tree [] true true, .tree [] true true, .int .i64 0, .int .i64 0, .int .i64 0, .int .i64 0, .int .i64 0], .tree (P1.map b8) false false, .tree [.int .u64 l0] false true] st K ↔ K (.tup [.agg [.int .i64 3, .int .i64 300, .int .u64 Dg, .int .i64 50, .tree (hp2.map By.v) false false, .tree (hq2.map (Sl.v uV)) false false, .tree [] true true, .tree [] true true, .int .i64 0, .int .i64 0, .int .i64 0, .int .i64 0, .int .i64 0], .int .i64 0]) st := by
  have := @f_image_Put st K 3 300 Dg 50 hp1 false false hq1 false false [] true true [] true true 0 0 0 0 0 P1 false false [l0] false true spok_1 (by rw [P1_len]; omega) (by simp) (by decide) (by simp)
  refine this.trans ?_
  rw [sd_1, cnt_300, if_neg (by simp [P1_len]), if_neg (by decide), show ((hp1.length : Nat) : Int) = 1 from rfl, ck_1, if_neg (by simp)]
  have e1 : (hp1 ++ [(⟨P1, false, false⟩ : By)]).map cloneB = hp2 := by simp [cloneB, hp1, hp2, P0_len, P1_len]
  have e2 : (hq1 ++ [(⟨[l0], false, true⟩ : Sl Int)]).map cloneB = hq2 := by simp [cloneB, hq1, hq2]
  rw [e1, e2]
theorem hd_put_2 : WpF XX .ro n_image_Put [.agg [.int .i64 3, .int .i64 300, .int .u64 Dg, .int .i64 50, .tree (hp2.map By.v) false false, .tree (hq2.map (Sl.v uV)) false false, .tree [] true true, .tree [] true true, .int .i64 0, .int .i64 0, .int .i64 0, .int .i64 0, .int .i64 0], .tree (P1.map b8) false false, .tree [.int .u64 l0] false true] st K ↔ K (.tup [.agg [.int .i64 0, .int .i64 0, .int .u64 0, .int .i64 0, .tree [] true true, .tree [] true true, .tree [] true true, .tree [] true true, .int .i64 0, .int .i64 0, .int .i64 0, .int .i64 0, .int .i64 0], .int .i64 10]) st := by
  have := @f_image_Put st K 3 300 Dg 50 hp2 false false hq2 false false [] true true [] true true 0 0 0 0 0 P1 false false [l0] false true spok_2 (by rw [P1_len]; omega) (by simp) (by decide) (by simp)
  refine this.trans ?_
  rw [sd_2, cnt_300, if_neg (by simp [P1_len]), if_pos (by decide)]
theorem hd_put_3 : WpF XX .ro n_image_Put [.agg [.int .i64 3, .int .i64 300, .int .u64 Dg, .int .i64 50, .tree (hp1.map By.v) false false, .tree (hq1.map (Sl.v uV)) false false, .tree [] true true, .tree [] true true, .int .i64 0, .int .i64 0, .int .i64 0, .int .i64 0, .int .i64 0], .tree (P1.map b8) false false, .tree [.int .u64 (xorI .u64 l0 1)] false true] st K ↔ K (.tup [.agg [.int .i64 0, .int .i64 0, .int .u64 0, .int .i64 0, .tree [] true true, .tree [] true true, .tree [] true true, .tree [] true true, .int .i64 0, .int .i64 0, .int .i64 0, .int .i64 0, .int .i64 0], .int .i64 12]) st := by
  have := @f_image_Put st K 3 300 Dg 50 hp1 false false hq1 false false [] true true [] true true 0 0 0 0 0 P1 false false [xorI .u64 l0 1] false true spok_1 (by rw [P1_len]; omega) (by simp) (by simp) (by simp)
  refine this.trans ?_
  rw [sd_1, cnt_300, if_neg (by simp [P1_len]), if_neg (by decide), show ((hp1.length : Nat) : Int) = 1 from rfl, ck_2, if_pos rfl]
theorem hd_whole_1 : WpF XX .ro n_image_Whole [.agg [.int .i64 3, .int .i64 300, .int .u64 Dg, .int .i64 50, .tree (hp1.map By.v) false false, .tree (hq1.map (Sl.v uV)) false false, .tree [] true true, .tree [] true true, .int .i64 0, .int .i64 0, .int .i64 0, .int .i64 0, .int .i64 0]] st K ↔ K (.tup [.tree [] true true, .bool false]) st := by
  have := @f_image_Whole st K 3 300 Dg 50 hp1 false false hq1 false false [] true true [] true true 0 0 0 0 0 spok_1
  refine this.trans ?_
  rw [join_d, if_neg (by simp)]
theorem hd_whole_2 : WpF XX .ro n_image_Whole [.agg [.int .i64 3, .int .i64 300, .int .u64 Dg, .int .i64 50, .tree (hp2.map By.v) false false, .tree (hq2.map (Sl.v uV)) false false, .tree [] true true, .tree [] true true, .int .i64 0, .int .i64 0, .int .i64 0, .int .i64 0, .int .i64 0]] st K ↔ K (.tup [.tree (sampleB.map b8) false true, .bool true]) st := by
  have := @f_image_Whole st K 3 300 Dg 50 hp2 false false hq2 false false [] true true [] true true 0 0 0 0 0 spok_2
  refine this.trans ?_
  rw [show (300 : Int).toNat = 300 from rfl, allB_a, allB_c, join_a, sd_2, if_pos ⟨rfl, rfl, rfl⟩]
theorem hd_bytes : WpF XX .ro n_ref36_Bytes [.tree (sampleB.map b8) false true, .tree (sampleB.map b8) false false] st K ↔ K (.bool true) st := by
  rw [f_ref36_Bytes (by rw [sample_len]; omega)]; simp
theorem hd_leaf0 : WpF XX .ro n_ref35_Leaf [.tree (P0.map b8) false false] st K ↔ K (.int .u64 l0) st := by
  rw [f_ref35_Leaf (by rw [P0_len]; omega)]; rfl
theorem hd_leaf1 : WpF XX .ro n_ref35_Leaf [.tree (P1.map b8) false false] st K ↔ K (.int .u64 l1) st := by
  rw [f_ref35_Leaf (by rw [P1_len]; omega)]; rfl
theorem b8_45 : b8 45 = .int .u8 45 := rfl
theorem b8_0 : b8 0 = .int .u8 0 := rfl
set_option maxHeartbeats 2000000 in
set_option maxRecDepth 100000 in
theorem f_law36_head : WpF XX .ro n_law36_head [] st K ↔ K (.bool true) st := by
  rw [F_ro (mf := m_law36_head) rfl rfl]
  have e0 := @hd_put_0
  unfold SA0 at e0
  have w1 := @P1_43
  have w2 := @P1_44
  simp only [m_law36_head, bC, bW, bD, wpY', evR, evW, idx, ldc, okV, sub, setc, buildC, bnd, resOf, resL, res1, xorB, take2L, take2, takeL, take1, appF, rowOf, elemOk, plain, pl1, isRow, cellB, srcOf, LIM, Option.some.injEq, exists_eq_left', exists_eq_left, Prod.mk.injEq, if_true, if_false, ite_true, ite_false, ne_eq, eq_self, reduceCtorEq, ↓reduceIte, Nat.reduceEqDiff, Nat.reduceAdd, Nat.reduceSub, Nat.reduceMul, Nat.reduceLT, Nat.reduceLeDiff, Nat.reduceBEq, Nat.reduceBNe, Nat.reduceMod, Nat.reduceDiv, Nat.reducePow, Int.reduceEq, Int.reduceLT, Int.reduceLE, Int.reduceNeg, Int.reduceAdd, Int.reduceSub, Int.reduceMul, Int.reduceToNat, Int.reduceBEq, Int.reduceBNe, unused, fpO, rdR, rdW, own1, ptr1, ownC, sepOk, compat, disj, offR, f_law36_sample, hd_split, hd_splitn, hd_ann, hd_join_a, hd_join_b, hd_join_c, e0, hd_put_1, hd_put_2, hd_put_3, hd_whole_1, hd_whole_2, hd_bytes, hd_leaf0, hd_leaf1, P0_len, P1_len, w1, w2, b8_45, b8_0]
end
end Go.Proofs.YtfmbdcmjgnikiaaDoor.Sm
