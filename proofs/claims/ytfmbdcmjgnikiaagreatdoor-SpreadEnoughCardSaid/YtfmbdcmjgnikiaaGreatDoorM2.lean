/- Reading operations: slices, composites, rows. Conditions: the check; the operands stand for ours. A reading operation, whole: what it hands back, and the small heap behind it. Conditions: the check; the operands stand for ours. What a reading operation hands back, in one law. Conditions: the check; the operands stand for ours. When two composites of numbers, or of truth values, are equal. Conditions: none. Changes of the small heap: writing a block, renaming it, giving it away. Conditions: none (small laws). The rows that are appended, copied, taken over. Conditions: the operands stand for ours. What a changing operation does, in one law. Conditions: the check; the operands stand for ours. The other changing operations, and all in one law. Conditions: the check; the operands stand for ours. -/
import Derived.Test.YtfmbdcmjgnikiaaGreatDoorM1
import Derived.Laws.StructEq
import Derived.Deep.AppendSrc
import Derived.Deep.Upon
import Derived.Laws.CopyRow
set_option linter.unusedSimpArgs false
set_option linter.unusedVariables false
namespace Go.Proofs.YtfmbdcmjgnikiaaGreatDoor.Sm
open Go Go.RowKit

theorem setc_len : ∀ (vs : List SV) (cs : List SV) (off : Nat), (setc cs off vs).length = cs.length
  | [], _, _ => rfl
  | v :: vs, cs, off => by rw [setc, setc_len vs]; simp
theorem setc_get : ∀ (vs : List SV) (cs : List SV) (off k : Nat), (setc cs off vs)[k]? = if off ≤ k ∧ k < off + vs.length ∧ k < cs.length then vs[k - off]? else cs[k]?
  | [], cs, off, k => by
    rw [setc, if_neg (by simp only [List.length_nil]; omega)]
  | v :: vs, cs, off, k => by
    rw [setc, setc_get vs (cs.set off v) (off + 1) k]
    simp only [List.length_set, List.length_cons]
    by_cases hk : off = k
    · subst hk
      rw [if_neg (by omega)]
      by_cases hs : off < cs.length
      · rw [if_pos ⟨Nat.le_refl _, by omega, hs⟩]
        simp [hs]
      · rw [if_neg (by omega)]
        simp [hs]
    · by_cases hin : off + 1 ≤ k ∧ k < off + 1 + vs.length ∧ k < cs.length
      · rw [if_pos hin, if_pos (by omega)]
        have e : k - off = (k - (off + 1)) + 1 := by omega
        rw [e, List.getElem?_cons_succ]
      · rw [if_neg hin, if_neg (by omega)]
        simp [hk]

theorem cells_CR {K : KK} {v : Value} {s : SV} (h : RV K v s) (ho : okV s = true) : CR K v.cells (cellsOf s) := by
  have one : ∀ {v : Value} {s : SV}, RV K v s → CR K #[v] [s] := fun {v s} h => ⟨rfl, fun i y hy => by
    cases i with
    | zero => simp at hy; subst hy; exact h
    | succ n => simp at hy⟩
  cases h with
  | undef v => simp [okV] at ho
  | tup vs cs hl hr => simp [okV] at ho
  | agg vs cs hl hr => exact ⟨hl, hr⟩
  | int k n => exact one (.int k n)
  | bool b => exact one (.bool b)
  | str s => exact one (.str s)
  | tree A len cap sz xs nl tight c h1 h2 h3 h4 h5 h6 h7 h8 h9 => exact one (.tree A len cap sz xs nl tight c h1 h2 h3 h4 h5 h6 h7 h8 h9)
  | own id off len sz o cap h1 h2 h3 h4 => exact one (.own id off len sz o cap h1 h2 h3 h4)
  | ptr id off h1 => exact one (.ptr id off h1)
  | tptr b o cs off c h1 h2 h3 => exact one (.tptr b o cs off c h1 h2 h3)
  | fn f pre caps vp vc h1 h2 h3 h4 => exact one (.fn f pre caps vp vc h1 h2 h3 h4)
  | yld l h1 => exact one (.yld l h1)

theorem CR.get {K : KK} {vs : Array Value} {cs : List SV} (h : CR K vs cs) {i : Nat} {y : SV} (hy : cs[i]? = some y) : ∃ v, vs[i]? = some v ∧ RV K v y := by
  have hlt := (List.getElem?_eq_some_iff.1 hy).1
  exact ⟨_, get_of_lt (by rw [h.1]; exact hlt), h.2 _ _ hy⟩
theorem CR.of {K : KK} {vs : Array Value} {cs : List SV} (hl : vs.size = cs.length) (h : ∀ (i : Nat) (y : SV), cs[i]? = some y → ∃ v, vs[i]? = some v ∧ RV K v y) : CR K vs cs :=
  ⟨hl, fun i y hy => by obtain ⟨v, h1, h2⟩ := h i y hy; rw [getD_of h1]; exact h2⟩

/-- What fill and setc do, alike. -/
theorem fill1 {K : KK} {place : Nat → Option (Nat × Nat)} {cells : Array Value} {cs : List SV} {v : Value} {s : SV} {i off sz : Nat} {rest : List (Nat × Value)} (hp : place i = some (off, sz)) (hc : CR K cells cs) (hv : RV K v s)
    (ho : okV s = true) (hs : (cellsOf s).length = sz) (hle : off + sz ≤ cs.length) :
    ∃ cells', Instr.fill place cells ((i, v) :: rest) = Instr.fill place cells' rest ∧ CR K cells' (setc cs off (cellsOf s)) := by
  have hcv := cells_CR hv ho
  obtain ⟨g1, g2⟩ := Great.foldl_set off v.cells.toList 0 cells
  refine ⟨(v.cells.toList.zipIdx 0).foldl (fun cs (x : Value × Nat) => cs.setIfInBounds (off + x.2) x.1) cells, ?_, CR.of (by rw [g1, setc_len, hc.1]) fun k y hy => ?_⟩
  · conv => lhs; unfold Instr.fill
    simp only [hp]
    rw [if_neg (by rw [hcv.1, hs, hc.1]; simp; omega)]
    rw [← Array.foldl_toList, Array.toList_zipIdx]
  · rw [g2 k]
    rw [setc_get] at hy
    simp only [Nat.add_zero, Array.length_toList, hcv.1, hs, hc.1] at hy ⊢
    by_cases hin : off ≤ k ∧ k < off + sz ∧ k < cs.length
    · rw [if_pos hin] at hy ⊢
      obtain ⟨u, h1, h2⟩ := hcv.get hy
      exact ⟨u, by simpa using h1, h2⟩
    · rw [if_neg hin] at hy ⊢
      exact hc.get hy

/-! ### constants -/
theorem cv1_rv {K : KK} {v : Value} {s : SV} (h : cv1 v s = true) : RV K v s := by
  unfold cv1 at h
  split at h
  · exact .undef _
  · simp only [Bool.and_eq_true, beq_iff_eq] at h
    obtain ⟨rfl, rfl⟩ := h
    exact .int _ _
  · rw [beq_iff_eq.1 h]; exact .bool _
  · rename_i a b
    have : a = b := by
      have h2 := beq_iff_eq.1 h
      cases a; cases b
      simp only at h2
      rw [Array.toList_inj.1 h2]
    rw [this]; exact .str _
  · simp only [Bool.and_eq_true, beq_iff_eq, Option.isNone_iff_eq_none] at h
    obtain ⟨⟨rfl, rfl⟩, rfl⟩ := h
    exact .tree none 0 0 0 [] true true (fun _ _ => Go.undef) rfl (Nat.le_refl _) rfl (fun _ => rfl) (fun _ => rfl) (by simp) (by simp) (by simp) (by simp)
  · cases h
theorem cvL_CR {K : KK} : ∀ {vs : List Value} {ss : List SV}, cvL vs ss = true → vs.length = ss.length ∧ ∀ (i : Nat) (y : SV), ss[i]? = some y → ∃ v, vs[i]? = some v ∧ RV K v y
  | [], [], _ => ⟨rfl, by simp⟩
  | v :: vs, s :: ss, h => by
    simp only [cvL, Bool.and_eq_true] at h
    obtain ⟨h1, h2⟩ := cvL_CR (K := K) h.2
    refine ⟨by simp [h1], fun i y hy => ?_⟩
    cases i with
    | zero =>
      simp only [List.getElem?_cons_zero, Option.some.injEq] at hy
      subst hy
      exact ⟨v, by simp, cv1_rv h.1⟩
    | succ n =>
      simp only [List.getElem?_cons_succ] at hy ⊢
      exact h2 n y hy
  | [], _ :: _, h => by simp [cvL] at h
  | _ :: _, [], h => by simp [cvL] at h
theorem cvA_CR {K : KK} {vs : Array Value} {ss : List SV} (h : cvL vs.toList ss = true) : CR K vs ss := by
  obtain ⟨h1, h2⟩ := cvL_CR (K := K) h
  exact CR.of (by simpa using h1) fun i y hy => by simpa using h2 i y hy
theorem cv_rv {K : KK} {v : Value} {s : SV} (h : cv v s = true) : RV K v s := by
  unfold cv at h
  split at h
  · obtain ⟨h1, h2⟩ := cvA_CR (K := K) h
    exact .agg _ _ h1 h2
  · exact cv1_rv h

theorem zeOf_run {P : Program} {t : TypeId} {z : List SV} (h : zeOf P t z = true) : ∃ i v, P.info? t = some i ∧ i.zero = some v ∧ ∀ K : KK, CR K v.cells z := by
  unfold zeOf at h
  split at h
  · rename_i i hi
    split at h
    · rename_i v hv
      simp only [Bool.and_eq_true] at h
      exact ⟨i, v, hi, hv, fun K => cvA_CR h.1⟩
    · cases h
  · cases h

theorem odL_rel : ∀ {xs : List Operand} {as : List Arg}, odL xs as = true → xs.length = as.length ∧ ∀ (i : Nat) (a : Arg), as[i]? = some a → ∃ x, xs[i]? = some x ∧ od x a = true
  | [], [], _ => ⟨rfl, by simp⟩
  | x :: xs, a :: as, h => by
    simp only [odL, Bool.and_eq_true] at h
    obtain ⟨h1, h2⟩ := odL_rel h.2
    refine ⟨by simp [h1], fun i y hy => ?_⟩
    cases i with
    | zero =>
      simp only [List.getElem?_cons_zero, Option.some.injEq] at hy
      subst hy
      exact ⟨x, by simp, h.1⟩
    | succ n =>
      simp only [List.getElem?_cons_succ] at hy ⊢
      exact h2 n y hy
  | [], _ :: _, h => by simp [odL] at h
  | _ :: _, [], h => by simp [odL] at h
theorem odL_CR {K : KK} {σ : Operand → Value} {ρ : Arg → SV} {xs : Array Operand} {as : List Arg} (h : odL xs.toList as = true) (hσ : ∀ x a, od x a = true → RV K (σ x) (ρ a)) : CR K (xs.map σ) (as.map ρ) := by
  obtain ⟨h1, h2⟩ := odL_rel h
  refine CR.of (by simpa using h1) fun i y hy => ?_
  rw [List.getElem?_map, Option.map_eq_some_iff] at hy
  obtain ⟨a, ha, rfl⟩ := hy
  obtain ⟨x, hx, ho⟩ := h2 i a ha
  refine ⟨σ x, ?_, hσ x a ho⟩
  rw [Array.getElem?_map]
  rw [Array.getElem?_toList] at hx
  rw [hx]
  rfl

theorem mapM_places {P : Program} : ∀ (fs : List Field), (fs.all fun f => hasT P f.type) = true → fs.mapM (fun f => (P.info? f.type).map fun i => (f.offset, i.size)) = some (fs.map fun f => (f.offset, szOf P f.type))
  | [], _ => rfl
  | f :: fs, h => by
    simp only [List.all_cons, Bool.and_eq_true] at h
    obtain ⟨i, hi⟩ := Option.isSome_iff_exists.1 (show (P.info? f.type).isSome = true from h.1)
    simp [List.mapM_cons, hi, mapM_places fs h.2, szOf]

theorem buildC_fill {P : Program} {K : KK} {σ : Operand → Value} {ρ : Arg → SV} (hσ : ∀ x a, od x a = true → RV K (σ x) (ρ a)) {t : TypeId} {place : Nat → Option (Nat × Nat)}
    (hp : ∀ i off sz, (match P.underlying t with
      | some (.struct fs) => (match fs[i]? with
        | some f => f.offset == off && hasT P f.type && szOf P f.type == sz
        | none => false)
      | some (.array _ e) => hasT P e && szOf P e == sz && off == i * sz
      | _ => false) = true → place i = some (off, sz)) : ∀ (xs : List (Nat × Operand)) (ps : List (Nat × Nat × Arg)) (cells : Array Value) (cs r : List SV), partsOk P t xs ps = true → CR K cells cs → buildC ρ cs ps = some r →
    ∃ out, Instr.fill place cells (xs.map fun x => (x.1, σ x.2)) = some out ∧ CR K out r
  | [], [], cells, cs, r, _, hc, hb => by
    simp only [buildC, Option.some.injEq] at hb
    subst hb
    exact ⟨cells, rfl, hc⟩
  | (i, x) :: xs, (off, sz, a) :: ps, cells, cs, r, h, hc, hb => by
    simp only [partsOk, Bool.and_eq_true] at h
    simp only [buildC] at hb
    split at hb
    · rename_i hh
      obtain ⟨c', h1, h2⟩ := fill1 (rest := xs.map fun x => (x.1, σ x.2)) (hp i off sz h.1.2) hc (hσ x a h.1.1) hh.1 hh.2.1 hh.2.2
      obtain ⟨out, h3, h4⟩ := buildC_fill hσ hp xs ps c' _ r h.2 h2 hb
      exact ⟨out, by simp only [List.map_cons]; rw [h1, h3], h4⟩
    · cases hb
  | [], _ :: _, _, _, _, h, _, _ => by simp [partsOk] at h
  | _ :: _, [], _, _, _, h, _, _ => by simp [partsOk] at h

theorem odO_none {l : Option Operand} (h : odO l none = true) : l = none := by cases l <;> simp_all [odO]
theorem odO_some {l : Option Operand} {a : Arg} (h : odO l (some a) = true) : ∃ x, l = some x ∧ od x a = true := by cases l <;> simp_all [odO]
theorem bnd_le {ρ : Arg → SV} {a : Option Arg} {d n m : Nat} (h : bnd ρ a d n = some m) (hd : a = none → d ≤ n) : m ≤ n := by
  cases a with
  | none => simp only [bnd, Option.some.injEq] at h; have := hd rfl; omega
  | some a =>
    simp only [bnd] at h
    split at h
    · split at h
      · cases h; omega
      · cases h
    · cases h
theorem bound_run {P : Program} {K : KK} {v : Value} {ρ : Arg → SV} {a : Arg} {d n m y : Nat} {code : BoundsCode} (hv : RV K v (ρ a)) (h : bnd ρ (some a) d n = some m) (hy : n ≤ y) (w : World) : (Instr.sliceBound v y code).run P w = .ok m w := by
  simp only [bnd] at h
  split at h
  · rename_i k i hi
    split at h
    · rename_i hh
      cases h
      rw [hi] at hv
      rw [inv_int hv]
      have h3 : i ≤ (y : Int) := by omega
      simp [Instr.sliceBound, asIntOf, Sem.run_bind, hh.1, h3, Result.andThen]
    · cases h
  · cases h

section ops
variable {P : Program} {eqTs : List (Nat × Nat)} {K : KK} {σ : Operand → Value} {ρ : Arg → SV} {q : Oper}

theorem bounds_run {lo hi mx : Option Operand} {l' h' m' : Option Arg} (hσ : ∀ x a, od x a = true → RV K (σ x) (ρ a)) (h1 : odO lo l' = true) (h2 : odO hi h' = true) (h3 : odO mx m' = true) (h4 : (mx.isNone || hi.isSome) = true)
    {len cap m b l : Nat} (hc : len ≤ cap) (hm : bnd ρ m' len len = some m) (hb : bnd ρ h' len m = some b) (hl : bnd ρ l' 0 b = some l) (w : World) :
    (Instr.sliceBounds true len cap (lo.map σ) (hi.map σ) (mx.map σ)).run P w = .ok (l, b, if m'.isSome then m else cap) w := by
  have hml : m ≤ len := bnd_le hm fun _ => Nat.le_refl _
  have low : ∀ code (M : Nat), (match lo.map σ with
      | some v => (do
        let l ← Instr.sliceBound v b code
        pure (l, b, M) : Sem (Nat × Nat × Nat))
      | none => do
        let l ← pure 0
        pure (l, b, M)).run P w = .ok (l, b, M) w := fun code M => by
    cases l' with
    | none =>
      obtain rfl := odO_none h1
      simp only [bnd, Option.some.injEq] at hl
      subst hl; rfl
    | some a =>
      obtain ⟨x, rfl, ho⟩ := odO_some h1
      simp only [Option.map_some, Sem.run_bind, bound_run (hσ x a ho) hl (Nat.le_refl _) w, Result.andThen_ok, Sem.run_pure]
  cases m' with
  | none =>
    obtain rfl := odO_none h3
    simp only [bnd, Option.some.injEq] at hm
    subst hm
    cases h' with
    | none =>
      obtain rfl := odO_none h2
      simp only [bnd, Option.some.injEq] at hb
      subst hb
      simp only [Instr.sliceBounds, Option.map_none, Sem.run_bind, Sem.run_pure, Result.andThen_ok, Option.isSome_none, Bool.false_eq_true, if_false]
      exact low _ _
    | some a =>
      obtain ⟨x, rfl, ho⟩ := odO_some h2
      have := bound_run (P := P) (code := .sliceAcap) (y := cap) (hσ x a ho) hb (by omega) w
      simp only [Instr.sliceBounds, Option.map_none, Option.map_some, Sem.run_bind, Sem.run_pure, Result.andThen_ok, Option.isSome_none, Bool.false_eq_true, if_false, if_true, this]
      exact low _ _
  | some am =>
    obtain ⟨xm, rfl, hom⟩ := odO_some h3
    have hmr := bound_run (P := P) (code := .slice3Acap) (y := cap) (hσ xm am hom) hm (by omega) w
    cases h' with
    | none =>
      obtain rfl := odO_none h2
      simp at h4
    | some a =>
      obtain ⟨x, rfl, ho⟩ := odO_some h2
      have := bound_run (P := P) (code := .slice3B) (y := m) (hσ x a ho) hb (by omega) w
      simp only [Instr.sliceBounds, Option.map_some, Sem.run_bind, Sem.run_pure, Result.andThen_ok, Option.isSome_some, if_true, hmr, this]
      exact low _ _

theorem r_slice {sz : Nat} {a : Arg} {l' h' m' : Option Arg} (hq : chkR P eqTs q.op (.slice sz a l' h' m') = true) (hσ : ∀ x a, od x a = true → RV K (σ x) (ρ a)) {len m b l : Nat}
    (hm : bnd ρ m' len len = some m) (hb : bnd ρ h' len m = some b) (hl : bnd ρ l' 0 b = some l) :
    (∀ xs nl tg, ρ a = .tree xs nl tg → xs.length = len → hdSz sz xs = true → R1 P K σ q (.tree ((xs.drop l).take (b - l)) nl (if m'.isSome then m == b else tg && b == xs.length))) ∧
    (∀ id off, ρ a = .own id off len sz → R1 P K σ q (.own id (off + l * sz) (b - l) sz)) := by
  obtain ⟨t, x, lo, hi, mx, hx, ho⟩ := inv_slice hq
  simp only [Bool.and_eq_true] at ho
  obtain ⟨⟨⟨⟨⟨h1, h2⟩, h3⟩, h4⟩, h5⟩, h6⟩ := ho
  split at h5
  · rename_i e hfd
    simp only [Bool.and_eq_true, beq_iff_eq] at h5
    have hu := slOf_und hfd
    have hr := hσ x a h1
    have hml : m ≤ len := bnd_le hm fun _ => Nat.le_refl _
    have hbm : b ≤ m := by
      refine bnd_le hb fun hn => ?_
      subst hn
      obtain rfl := odO_none h3
      cases m' with
      | none => simp only [bnd, Option.some.injEq] at hm; omega
      | some am =>
        obtain ⟨xm, rfl, _⟩ := odO_some h4
        simp at h6
    have hlb : l ≤ b := bnd_le hl fun _ => Nat.zero_le _
    have run : ∀ A cap, len ≤ cap → σ x = .slice A len cap → (execOp σ q).run P K.W = .ok (.value (.slice (if (if m'.isSome then m else cap) = l then A else A.map (·.add (l * sz))) (b - l) ((if m'.isSome then m else cap) - l))) K.W := fun A cap hc hv => by
      have hbr := bounds_run (P := P) hσ h2 h3 h4 h6 hc hm hb hl K.W
      simp only [execOp, hx, hv, Instr.sliceAt, Instr.slice, Sem.run_bind, Sem.run_pure, Result.andThen_ok, und_run hu, size_run h5.1, h5.2, hbr]
    refine ⟨fun xs nl tg h7 hlen hhd => ?_, fun id off h7 => ?_⟩
    · rw [h7] at hr
      subst hlen
      obtain ⟨A, cap, sz', c, hv, hcap, hnl, hA0, htg, hpl, hsz, hc, hrv⟩ := inv_tree hr
      have hrun := run A cap hcap hv
      have hM1 : b ≤ (if m'.isSome then m else cap) := by split <;> omega
      have hM2 : (if m'.isSome then m == b else tg && b == xs.length) = true → (if m'.isSome then m else cap) = b := by
        cases m'.isSome
        · simp only [if_false, Bool.false_eq_true, Bool.and_eq_true, beq_iff_eq]
          intro ht
          have := htg ht.1
          omega
        · simp only [if_true, beq_iff_eq]
          exact id
      have hM3 : cap = 0 → (if m'.isSome then m else cap) = 0 := by split <;> omega
      generalize (if m'.isSome then m == b else tg && b == xs.length) = tg' at hM2 ⊢
      generalize (if m'.isSome then m else cap) = M at hM1 hM2 hM3 hrun
      have hlen2 : ((xs.drop l).take (b - l)).length = b - l := by simp; omega
      have hget : ∀ j x', ((xs.drop l).take (b - l))[j]? = some x' → xs[l + j]? = some x' ∧ j < b - l := fun j x' hj => by
        have hlt := (List.getElem?_eq_some_iff.1 hj).1
        rw [hlen2] at hlt
        rw [List.getElem?_take, if_pos hlt, List.getElem?_drop] at hj
        exact ⟨hj, hlt⟩
      have hss : ∀ x' ∈ xs, sz' = sz := fun x' hx' => by
        cases xs with
        | nil => cases hx'
        | cons y ys =>
          have := hsz y (List.mem_cons_self)
          simp only [hdSz, beq_iff_eq] at hhd
          omega
      have hA' : (if M = l then A else A.map (·.add (l * sz))) = none ↔ A = none := by
        by_cases h : M = l
        · rw [if_pos h]
        · rw [if_neg h]; simp
      refine R1.of _ hrun (.tree _ (b - l) _ sz' _ nl _ (fun j i => c (l + j) i) hlen2 (by omega) ?_ (fun hn => ?_) (fun ht => ?_) ?_ ?_ ?_ ?_)
      · rw [hnl]
        by_cases h : A = none
        · rw [hA'.2 h, h]
        · have h' := fun h2 => h (hA'.1 h2)
          revert h h'
          generalize (if M = l then A else A.map (·.add (l * sz))) = A2
          cases A <;> cases A2 <;> simp
      · have := hM3 (hA0 (hA'.1 hn))
        omega
      · have := hM2 ht
        omega
      · intro x' hx'
        exact hpl x' (List.mem_of_mem_drop (List.mem_of_mem_take hx'))
      · intro x' hx'
        exact hsz x' (List.mem_of_mem_drop (List.mem_of_mem_take hx'))
      · intro j i x' y hj hy
        obtain ⟨h8, h9⟩ := hget j x' hj
        obtain ⟨A', rfl, hsp, h10, h11⟩ := hc (l + j) i x' y h8 hy
        have e1 := hss x' (List.mem_of_getElem? h8)
        subst e1
        rw [if_neg (by omega)]
        refine ⟨⟨A'.block, A'.off + l * sz', none⟩, by simp [add_addr, hsp], rfl, ?_⟩
        have e : A'.off + l * sz' + (j * sz' + i) = A'.off + ((l + j) * sz' + i) := by rw [Nat.add_mul]; omega
        simp only [e]
        exact ⟨h10, h11⟩
      · intro j i x' y hj hy
        exact hrv (l + j) i x' y (hget j x' hj).1 hy
    · rw [h7] at hr
      obtain ⟨o, cap, hv, hd, k4, k5, k6⟩ := inv_own hr
      have := run _ cap k5 hv
      have hmm : b ≤ (if m'.isSome then m else cap) ∧ (if m'.isSome then m else cap) ≤ cap := by split <;> omega
      generalize hM : (if m'.isSome then m else cap) = M at this hmm
      by_cases hM2 : M = l
      · rw [if_pos hM2] at this
        refine R1.of _ this (.own id _ _ sz o _ hd (.inl (by omega)) (by omega) ?_)
        obtain ⟨c, T, fr, g1, g2⟩ := k6
        exact ⟨c, T, fr, g1, by rw [show M - l = 0 by omega]; have := Nat.zero_le (cap * sz); omega⟩
      · rw [if_neg hM2, Option.map_some, add_addr _ _ (.inl rfl)] at this
        refine R1.of _ this (.own id _ _ sz (o + l * sz) _ hd (.inr (by omega)) (by omega) ?_)
        obtain ⟨c, T, fr, g1, g2⟩ := k6
        refine ⟨c, T, fr, g1, ?_⟩
        have e1 : l * sz + (M - l) * sz = M * sz := by rw [← Nat.add_mul]; congr 1; omega
        have e2 : M * sz ≤ cap * sz := Nat.mul_le_mul_right _ hmm.2
        omega
  · cases h5

theorem flat1 : ∀ {xs : List SV}, (∀ x ∈ xs, (cellsOf x).length = 1) → ∀ (i : Nat) (y : SV), (flat xs)[i]? = some y → ∃ x, xs[i]? = some x ∧ (cellsOf x)[0]? = some y
  | [], _, i, y, h => by simp [flat] at h
  | x :: xs, hx, i, y, h => by
    have h1 := hx x List.mem_cons_self
    obtain ⟨z, hz⟩ : ∃ z, cellsOf x = [z] := by
      match h2 : cellsOf x, h1 with
      | [z], _ => exact ⟨z, rfl⟩
    have hfl : flat (x :: xs) = z :: flat xs := by simp [flat, hz]
    rw [hfl] at h
    cases i with
    | zero =>
      simp only [List.getElem?_cons_zero, Option.some.injEq] at h
      subst h
      exact ⟨x, by simp, by simp [hz]⟩
    | succ n =>
      simp only [List.getElem?_cons_succ] at h ⊢
      exact flat1 (fun w hw => hx w (List.mem_cons_of_mem _ hw)) n y h

theorem r_s2a {n : Nat} {a : Arg} {xs : List SV} {tg : Bool} (hq : chkR P eqTs q.op (.s2a n a) = true) (ha : ∀ x, od x a = true → RV K (σ x) (ρ a)) (h1 : ρ a = .tree xs false tg) (hn : n ≤ xs.length) (hall : xs.all (fun v => (cellsOf v).length == 1) = true) (hne : xs.isEmpty = false) : R1 P K σ q (.tptr (flat xs) 0) := by
  obtain ⟨t, x, hx, ho⟩ := inv_s2a hq
  simp only [Bool.and_eq_true] at ho
  obtain ⟨h2, h3⟩ := ho
  split at h3
  · rename_i m e hfd
    simp only [beq_iff_eq] at h3
    subst h3
    have hu := arOf_und hfd
    have hr := ha x h2
    rw [h1] at hr
    obtain ⟨A, cap, sz, c, hv, hcap, hnl, hA0, htg, hpl, hsz, hc, hrv⟩ := inv_tree hr
    have hall' : ∀ x ∈ xs, (cellsOf x).length = 1 := by simpa using hall
    cases xs with
    | nil => simp at hne
    | cons x0 xs =>
      have e1 : sz = 1 := by rw [← hsz x0 List.mem_cons_self, hall' x0 List.mem_cons_self]
      subst e1
      obtain ⟨A', rfl, hsp, _⟩ := hc 0 0 x0 ((cellsOf x0)[0]'(by rw [hall' x0 List.mem_cons_self]; omega)) (by simp) (List.getElem?_eq_getElem _)
      have hA' : A' = ⟨A'.block, A'.off + 0, none⟩ := by
        obtain ⟨b, o, s⟩ := A'
        simp only at hsp
        simp [hsp]
      have hlt : ¬ (x0 :: xs).length < m := by omega
      refine R1.of (.pointer (some A')) (by simp only [execOp, hx, hv, Instr.arrayAt, Sem.run_bind, und_run hu, Result.andThen_ok, hlt, if_false]; rfl) ?_
      rw [hA']
      refine .tptr A'.block A'.off _ 0 (fun i => c i 0) (fun y hy => ?_) (fun i y hy => ?_) fun i y hy => ?_
      · obtain ⟨i, hyi⟩ := List.mem_iff_getElem?.1 hy
        obtain ⟨x', h5, h6⟩ := flat1 hall' i y hyi
        exact plain_cells (hpl x' (List.mem_of_getElem? h5)) (List.mem_of_getElem? h6)
      · obtain ⟨x', h5, h6⟩ := flat1 hall' i y hy
        obtain ⟨a', h7, _, h8, h9⟩ := hc i 0 x' y h5 h6
        cases h7
        have e : A'.off + (i * 1 + 0) = A'.off + i := by omega
        rw [e] at h8 h9
        exact ⟨h8, h9⟩
      · obtain ⟨x', h5, h6⟩ := flat1 hall' i y hy
        exact hrv i 0 x' y h5 h6
  · cases h3

theorem r_mkfn {f : Nat} {pre caps : List Arg} (hq : chkR P eqTs q.op (.mkfn f pre caps) = true) (hσ : ∀ x a, od x a = true → RV K (σ x) (ρ a)) : R1 P K σ q (.fn f (pre.map ρ) (caps.map ρ)) := by
  obtain ⟨fn, first, cs, hx, ho⟩ := inv_mkfn hq
  simp only [Bool.and_eq_true] at ho
  obtain ⟨⟨h1, h2⟩, h3⟩ := ho
  split at h1
  · rename_i f'
    obtain rfl := beq_iff_eq.1 h1
    obtain ⟨p1, p2⟩ := odL_CR h2 hσ
    obtain ⟨c1, c2⟩ := odL_CR h3 hσ
    exact R1.of (.func (.func f') (first.map σ) (cs.map σ)) (by simp [execOp, hx, Instr.makeFunc]) (.fn f' _ _ _ _ p1 c1 p2 c2)
  · cases h1

theorem r_build {z : List SV} {ps : List (Nat × Nat × Arg)} {cs : List SV} (hq : chkR P eqTs q.op (.build z ps) = true) (hσ : ∀ x a, od x a = true → RV K (σ x) (ρ a)) (he : buildC ρ z ps = some cs) : R1 P K σ q (.agg cs) := by
  obtain ⟨t, ps', hx, ho⟩ := inv_build hq
  simp only [Bool.and_eq_true] at ho
  obtain ⟨⟨h1, h2⟩, h3⟩ := ho
  obtain ⟨i, v, hi, hv, hcr⟩ := zeOf_run h1
  have : ∃ out, P.built t (ps'.map fun x => (x.1, σ x.2)).toList = some out ∧ CR K out cs := by
    unfold fieldsIn at h3
    split at h3
    · rename_i fs hu
      have hpl := mapM_places fs.toList (by simpa using h3)
      obtain ⟨out, h4, h5⟩ := buildC_fill (P := P) (t := t) (place := ((fs.toList.map fun f => (f.offset, szOf P f.type)).toArray[·]?)) hσ (fun j off sz hh => by
        rw [hu] at hh
        simp only at hh
        split at hh
        · rename_i f hf
          simp only [Bool.and_eq_true, beq_iff_eq] at hh
          simp [hf, hh.1.1, hh.2]
        · cases hh) ps'.toList ps v.cells z cs h2 (hcr K) he
      refine ⟨out, ?_, h5⟩
      unfold Program.built
      simp only [hi, hu, hv, hpl]
      simpa using h4
    · rename_i n e hu
      obtain ⟨ie, hie⟩ := Option.isSome_iff_exists.1 (show (P.info? e).isSome = true from h3)
      obtain ⟨out, h4, h5⟩ := buildC_fill (P := P) (t := t) (place := fun i => some (i * ie.size, ie.size)) hσ (fun j off sz hh => by
        rw [hu] at hh
        simp only [Bool.and_eq_true, beq_iff_eq, szOf, hie] at hh
        rw [hh.2, hh.1.2]) ps'.toList ps v.cells z cs h2 (hcr K) he
      refine ⟨out, ?_, h5⟩
      unfold Program.built
      simp only [hi, hu, hv, hie]
      simpa using h4
    · cases h3
  obtain ⟨out, h4, h5⟩ := this
  refine R1.of (.agg out) ?_ (.agg _ _ h5.1 h5.2)
  simp only [execOp, hx, Sem.run_bind, run_build K.W t _ out h4, Result.andThen_ok, Sem.run_pure]

end ops
end Go.Proofs.YtfmbdcmjgnikiaaGreatDoor.Sm
namespace Go.Proofs.YtfmbdcmjgnikiaaGreatDoor.Sm
open Go Go.RowKit

theorem shape_lt {w : World} {b n : Nat} (h : shapeAt w b n) : b < w.heap.size := by
  obtain ⟨c, T, fr, h1, _⟩ := h
  exact (Array.getElem?_eq_some_iff.1 h1).1
theorem cell_lt {w : World} {b o : Nat} {v : Value} (h : w.cell? ⟨b, o, none⟩ = some v) : b < w.heap.size := by
  obtain ⟨c, T, fr, h1, _⟩ := cell_heap h
  exact (Array.getElem?_eq_some_iff.1 h1).1

/-- Values stand as they stood when no known cell has changed. -/
theorem RV.ws {K : KK} {W' : World} (hw : WS K.W W' none2) {v : Value} {s : SV} (h : RV K v s) : RV { K with W := W' } v s :=
  RV.mono (K := K) (K' := { K with W := W' }) (fun i hi => ⟨hi, rfl⟩) (fun b o v hc hm => ⟨hw.cell? hc (fun h => h), hm⟩) (fun b n hs => hw.shape hs) h

section
variable {P : Program} {eqTs : List (Nat × Nat)} {bs : Bs} {h : HL} {ls : Nat → Option LRec} {K : KK}

theorem SimF.size (s : SimF P eqTs bs h ls K) : bs.B ≤ K.W.heap.size := Nat.le_trans s.bsz s.bel.size

theorem SimF.ws (s : SimF P eqTs bs h ls K) {W' : World} (hw : WS K.W W' none2) : SimF P eqTs bs h ls { K with W := W' } where
  bel := s.bel.trans (hw.below s.size fun _ _ h => h.elim)
  bsz := s.bsz
  mc0 := s.mc0
  hp := fun id cs hi => (s.hp id cs hi).mono (K' := { K with W := W' }) hw (s.hp id cs hi).1 rfl (fun _ h => h) (fun _ h => h) fun v s h => h.ws hw
  inj := s.inj
  low := s.low
  mcb := fun b o hm => Nat.lt_of_lt_of_le (s.mcb b o hm) hw.size
  lp := fun l r hl => (s.lp l r hl).mono (K' := { K with W := W' }) hw (s.lp l r hl).1 rfl fun v s h => h.ws hw
  linj := s.linj
  llow := s.llow
theorem Ext.ws {W' : World} (hw : WS K.W W' none2) : Ext K { K with W := W' } := Ext.of_ws (K' := { K with W := W' }) (fun v s h => h.ws hw) hw

theorem heap_new (w : World) (o : Obj) : (w.alloc o).heap[w.heap.size]? = some o := heap_alloc_new w o

/-- With one new block. -/
def KK.push (K : KK) (nx : Nat) (c : Array Value) (T : TypeId) : KK :=
  { W := K.W.alloc (.cells c T), MC := fun b o => K.MC b o ∨ (b = K.W.heap.size ∧ o < c.size), β := fun i => if i = nx then (K.W.heap.size, 0) else K.β i, dom := fun i => K.dom i ∨ i = nx }

theorem RV.push {nx : Nat} (hn : ¬ K.dom nx) (c : Array Value) (T : TypeId) {v : Value} {s : SV} (h : RV K v s) : RV (K.push nx c T) v s := by
  have hw := WS.alloc K.W (.cells c T) none2
  refine RV.mono (K := K) (K' := K.push nx c T) (fun i hi => ⟨.inl hi, ?_⟩) (fun b o v hc hm => ⟨hw.cell? hc (fun h => h), ?_⟩) (fun b n hs => hw.shape hs) h
  · simp only [KK.push]
    rw [if_neg (fun (e : i = nx) => hn (e ▸ hi))]
  · have := cell_lt hc
    simp only [KK.push]
    rintro (h1 | h1)
    · exact hm h1
    · omega

theorem SimF.push (s : SimF P eqTs bs h ls K) {nx : Nat} (hn : ¬ K.dom nx) {c : Array Value} {T : TypeId} {cs : List SV} (hlen : cs.length ≤ c.size) (hc : ∀ (i : Nat) (y : SV), cs[i]? = some y → ∃ v, c[i]? = some v ∧ RV K v y) :
    SimF P eqTs bs (fun j => if j = nx then some cs else h j) ls (K.push nx c T) ∧ Ext K (K.push nx c T) := by
  have hw := WS.alloc K.W (.cells c T) none2
  have hβ : ∀ i, K.dom i → (K.push nx c T).β i = K.β i := fun i hi => by simp only [KK.push]; rw [if_neg (fun (e : i = nx) => hn (e ▸ hi))]
  have hsz : (K.push nx c T).W.heap.size = K.W.heap.size + 1 := by
    show (K.W.alloc (.cells c T)).heap.size = _
    simp
  have hβn : (K.push nx c T).β nx = (K.W.heap.size, 0) := by simp [KK.push]
  have hblt : ∀ i ci, h i = some ci → (K.β i).1 < K.W.heap.size := fun i ci hi => by
    obtain ⟨_, c', T', h1, _⟩ := s.hp i ci hi
    exact (Array.getElem?_eq_some_iff.1 h1).1
  have hllt : ∀ i r, ls i = some r → (K.β i).1 < K.W.heap.size := fun i r hi => by
    obtain ⟨_, L, h1, _⟩ := s.lp i r hi
    exact (Array.getElem?_eq_some_iff.1 h1).1
  have hnew : ∀ i ci, (fun j => if j = nx then some cs else h j) i = some ci → (i = nx ∧ ci = cs) ∨ (i ≠ nx ∧ h i = some ci) := fun i ci hi => by
    simp only at hi
    by_cases he : i = nx
    · rw [if_pos he] at hi; exact .inl ⟨he, by cases hi; rfl⟩
    · rw [if_neg he] at hi; exact .inr ⟨he, hi⟩
  refine ⟨{ bel := s.bel.trans (hw.below s.size fun _ _ h => h.elim), bsz := s.bsz, mc0 := fun b o hb => ?_, hp := fun id ci hi => ?_, inj := fun i j ci cj hi hj hij => ?_, low := fun id ci hi hwb => ?_, mcb := fun b o hm => ?_, lp := fun l r hl => ?_, linj := fun l l' r r' hl hl' hne => ?_, llow := fun l r hl => ?_ }, Ext.of_ws (K' := K.push nx c T) (fun v y hv => hv.push hn c T) hw⟩
  · rw [← s.mc0 b o hb]
    have := s.size
    simp only [KK.push]
    exact ⟨fun hh => hh.elim id fun hh => by omega, .inl⟩
  · rcases hnew id ci hi with ⟨rfl, rfl⟩ | ⟨he, hi'⟩
    · refine ⟨.inr rfl, c, T, by rw [hβn]; exact heap_new K.W _, by rw [hβn]; simpa using hlen, fun i y hy => ?_, fun o h1 h2 => ?_⟩
      · obtain ⟨v, h1, h2⟩ := hc i y hy
        exact ⟨v, by rw [hβn]; simpa using h1, h2.push hn c T⟩
      · rw [hβn]
        exact .inr ⟨rfl, h2⟩
    · have hd := (s.hp id ci hi').1
      exact (s.hp id ci hi').mono (K' := K.push nx c T) hw (.inl hd) (hβ id hd) (fun _ h => h) (fun _ h => .inl h) fun v y hv => hv.push hn c T
  · rcases hnew i ci hi with ⟨rfl, rfl⟩ | ⟨he, hi'⟩ <;> rcases hnew j cj hj with ⟨rfl, rfl⟩ | ⟨he2, hj'⟩
    · exact absurd rfl hij
    · rw [hβn, hβ j (s.hp j cj hj').1]
      have := hblt j cj hj'
      simp only; omega
    · rw [hβn, hβ i (s.hp i ci hi').1]
      have := hblt i ci hi'
      simp only; omega
    · rw [hβ i (s.hp i ci hi').1, hβ j (s.hp j cj hj').1]
      exact s.inj i j ci cj hi' hj' hij
  · rcases hnew id ci hi with ⟨rfl, rfl⟩ | ⟨he, hi'⟩
    · rw [hβn]; exact s.size
    · rw [hβ id (s.hp id ci hi').1]
      exact s.low id ci hi' hwb
  · rw [hsz]
    simp only [KK.push] at hm
    rcases hm with hm | hm
    · have := s.mcb b o hm; omega
    · omega
  · have hd := (s.lp l r hl).1
    exact (s.lp l r hl).mono (K' := K.push nx c T) hw (.inl hd) (hβ l hd) fun v y hv => hv.push hn c T
  · rw [hβ l (s.lp l r hl).1, hβ l' (s.lp l' r' hl').1]
    exact s.linj l l' r r' hl hl' hne
  · rw [hβ l (s.lp l r hl).1]
    exact s.llow l r hl

/-- A new block that is a row of trees. -/
theorem R1.row {σ : Operand → Value} {q : Oper} (s : SimF P eqTs bs h ls K) {len sz : Nat} {xs : List SV} {c : Array Value} {T : TypeId} (hr : (execOp σ q).run P K.W = .ok (.value (.slice (some ⟨K.W.heap.size, 0, none⟩) len len)) (K.W.alloc (.cells c T)))
    (hl : xs.length = len) (hpl : ∀ x ∈ xs, plain x = true) (hsz : ∀ x ∈ xs, (cellsOf x).length = sz)
    (hc : ∀ (j i : Nat) (x y : SV), xs[j]? = some x → (cellsOf x)[i]? = some y → ∃ v, c[j * sz + i]? = some v ∧ RV K v y) : R1 P K σ q (.tree xs false true) := by
  have hw := WS.alloc K.W (.cells c T) none2
  refine ⟨_, _, hr, hw, .tree _ len len sz xs false true (fun j i => (c[j * sz + i]?).getD Go.undef) hl (Nat.le_refl _) rfl (by simp) (fun _ => rfl) hpl hsz (fun j i x y hx hy => ?_) fun j i x y hx hy => ?_⟩
  · obtain ⟨v, h1, h2⟩ := hc j i x y hx hy
    refine ⟨_, rfl, rfl, ?_, fun hm => ?_⟩
    · simp only [Nat.zero_add]
      rw [cell_of (heap_new K.W _), h1]
      simp
    · have := s.mcb _ _ hm
      simp at this
  · obtain ⟨v, h1, h2⟩ := hc j i x y hx hy
    simp only [h1, Option.getD_some]
    exact h2.ws hw

theorem partsS_rel : ∀ {ps : List (Nat × Operand)} {n : Nat} {as : List Arg}, partsS n ps as = true → ∃ xs : List Operand, odL xs as = true ∧ ps = (xs.zipIdx n).map fun x => (x.2, x.1)
  | [], n, [], _ => ⟨[], rfl, rfl⟩
  | (i, x) :: ps, n, a :: as, h => by
    simp only [partsS, Bool.and_eq_true, beq_iff_eq] at h
    obtain ⟨⟨rfl, h1⟩, h2⟩ := h
    obtain ⟨xs, h3, h4⟩ := partsS_rel h2
    exact ⟨x :: xs, by simp [odL, h1, h3], by simp [h4, List.zipIdx_cons]⟩
  | [], n, _ :: _, h => by simp [partsS] at h
  | _ :: _, n, [], h => by simp [partsS] at h

theorem map_zipIdx {σ : Operand → Value} (xs : List Operand) (n : Nat) : (((xs.zipIdx n).map fun x => (x.2, x.1)).map fun x : Nat × Operand => (x.1, σ x.2)) = ((xs.map σ).zipIdx n).map fun x => (x.2, x.1) := by
  rw [List.zipIdx_map]
  simp [List.map_map, Function.comp_def]

/-- A literal of a slice, its parts given by what they stand for. -/
theorem bslice_core {σ : Operand → Value} {q : Oper} (s : SimF P eqTs bs h ls K) {sz n : Nat} {t : TypeId} {ps : Array (Nat × Operand)} {xs : List Operand} {vs : List SV} (hx : q.op = .buildSlice t n ps) (hn0 : n = vs.length) (hps : ps.toList = (xs.zipIdx 0).map fun x => (x.2, x.1)) (hxl : xs.length = vs.length)
    (h3 : bsOk P t n sz = true)
    (hrel : ∀ (j : Nat) (x : SV), vs[j]? = some x → ∃ v, (xs.map σ)[j]? = some v ∧ RV K v x) (he : vs.all (elemOk sz) = true) : R1 P K σ q (.tree vs false true) := by
  subst hn0
  unfold bsOk at h3
  split at h3
  · rename_i e hfd
    simp only [Bool.and_eq_true, beq_iff_eq, decide_eq_true_eq] at h3
    obtain ⟨⟨⟨⟨h4, h5⟩, h6⟩, h7⟩, h8⟩ := h3
    have hu := slOf_und hfd
    obtain ⟨ie, hie⟩ := Option.isSome_iff_exists.1 (show (P.info? e).isSome = true from h4)
    have hsz : ie.size = sz := by simpa [szOf, hie] using h5
    have hel : ∀ x ∈ vs, okV x = true ∧ plain x = true ∧ (cellsOf x).length = sz := fun x hx => by
      have := List.all_eq_true.1 he x hx
      simp only [elemOk, Bool.and_eq_true, beq_iff_eq] at this
      exact ⟨this.1.1.1, this.1.1.2, this.1.2⟩
    have hcs : ∀ v ∈ xs.map σ, v.cells.size = sz := fun v hv => by
      obtain ⟨j, hj⟩ := List.mem_iff_getElem?.1 hv
      have hlt : j < vs.length := by
        have := (List.getElem?_eq_some_iff.1 hj).1
        simp at this ⊢; omega
      obtain ⟨u, hu1, hu2⟩ := hrel j _ (List.getElem?_eq_getElem hlt)
      rw [hj] at hu1
      cases hu1
      have h9 := hel _ (List.getElem_mem hlt)
      rw [(cells_CR hu2 h9.1).1, h9.2.2]
    have hpm : (ps.map fun (i, x) => (i, σ x)).toList = ((xs.map σ).zipIdx 0).map fun x => (x.2, x.1) := by
      rw [Array.toList_map, hps]
      exact map_zipIdx xs 0
    have run : ∃ T, (execOp σ q).run P K.W = .ok (.value (.slice (some ⟨K.W.heap.size, 0, none⟩) vs.length vs.length)) (K.W.alloc (.cells ((xs.map σ).flatMap fun v => v.cells.toList).toArray T)) := by
      refine ⟨e, ?_⟩
      by_cases hn : vs.length = 0
      · have : xs = [] := by cases xs <;> simp_all
        subst this
        have hps' : ps = #[] := by cases ps; simp_all
        subst hps'
        have e0 : vs.length * szOf P e = 0 := by simp [hn]
        simp only [execOp, hx, Instr.buildSlice, Sem.run_bind, und_run hu, size_run h4, Result.andThen_ok, e0]
        simp [Instr.fill, newRow, hn, Sem.run_bind, Array.range_zero']
      · have hz : ∃ z, ie.zero = some z := by
          rw [Bool.or_eq_true] at h8
          rcases h8 with h8 | h8
          · rw [beq_iff_eq, Nat.mul_eq_zero] at h8
            omega
          · rw [hie] at h8
            simp only at h8
            split at h8
            · exact ⟨_, by assumption⟩
            · cases h8
        obtain ⟨z, hz⟩ := hz
        have hf := Great.fill_whole (s := sz) (by omega) (xs.map σ) ((Array.range (vs.length * ie.size)).map (z.cells[· % z.cells.size]!)) hcs (by simp [hsz, hxl])
        simp only [execOp, hx, Sem.run_bind]
        rw [run_buildSlice K.W t e vs.length _ _ ie z hu hie hz (by rw [hsz]; omega) (by rw [hsz, Nat.mul_eq_zero]; omega) (by rw [hpm, hsz]; rw [hsz] at hf; exact hf)]
        rfl
    obtain ⟨T, run⟩ := run
    refine R1.row s run rfl (fun x hx => (hel x hx).2.1) (fun x hx => (hel x hx).2.2) fun j i x y hj hy => ?_
    have hi : i < sz := by
      have := (List.getElem?_eq_some_iff.1 hy).1
      rw [(hel x (List.mem_of_getElem? hj)).2.2] at this
      exact this
    obtain ⟨v, hv1, hv2⟩ := hrel j x hj
    obtain ⟨u, hu1, hu2⟩ := (cells_CR hv2 (hel x (List.mem_of_getElem? hj)).1).get hy
    refine ⟨u, ?_, hu2⟩
    have e1 : (j * sz + i) / sz = j := by rw [Nat.mul_comm, Nat.mul_add_div (by omega), Nat.div_eq_of_lt hi]; rfl
    have e2 : (j * sz + i) % sz = i := by rw [Nat.mul_comm, Nat.mul_add_mod, Nat.mod_eq_of_lt hi]
    rw [List.getElem?_toArray, Great.flat_get (by omega) _ hcs, e1, e2, hv1]
    exact hu1
  · cases h3

theorem odL_get {σ : Operand → Value} {ρ : Arg → SV} {xs : List Operand} {as : List Arg} (hxs : odL xs as = true) (hσ : ∀ x a, od x a = true → RV K (σ x) (ρ a)) : ∀ (j : Nat) (x : SV), (as.map ρ)[j]? = some x → ∃ v, (xs.map σ)[j]? = some v ∧ RV K v x := fun j x hj => by
  obtain ⟨hxl, hxr⟩ := odL_rel hxs
  rw [List.getElem?_map, Option.map_eq_some_iff] at hj
  obtain ⟨a, ha, rfl⟩ := hj
  obtain ⟨u, hu1, hu2⟩ := hxr j a ha
  exact ⟨σ u, by rw [List.getElem?_map, hu1]; rfl, hσ u a hu2⟩

theorem r_bslice {σ : Operand → Value} {ρ : Arg → SV} {q : Oper} (s : SimF P eqTs bs h ls K) {sz : Nat} {as : List Arg} (hq : chkR P eqTs q.op (.bslice sz as) = true) (hσ : ∀ x a, od x a = true → RV K (σ x) (ρ a)) (he : (as.map ρ).all (elemOk sz) = true) : R1 P K σ q (.tree (as.map ρ) false true) := by
  obtain ⟨t, n, ps, hx, ho⟩ := inv_bslice hq
  simp only [Bool.and_eq_true, beq_iff_eq] at ho
  obtain ⟨⟨rfl, h2⟩, h3⟩ := ho
  obtain ⟨xs, hxs, hps⟩ := partsS_rel h2
  exact bslice_core s hx (by simp) hps (by simp [(odL_rel hxs).1]) (by simpa using h3) (odL_get hxs hσ) he

theorem madeCells_get {z : Array Value} {n k : Nat} (hk : k < n) (hz : 0 < z.size) : (madeCells z n)[k]? = z[k % z.size]? := by
  have : k % z.size < z.size := Nat.mod_lt _ hz
  simp [madeCells, hk, this]

theorem make_run {σ : Operand → Value} {ρ : Arg → SV} {q : Oper} {t : TypeId} {l c : Operand} {a b : Int} {e : TypeId} {i : TypeInfo} {v : Value} (hx : q.op = .makeSlice t l c) (hu : P.underlying t = some (.slice e)) (hi : P.info? e = some i) (hv : i.zero = some v)
    (hl : σ l = .int .i64 a) (hc : σ c = .int .i64 b) (h0 : 0 ≤ a) (hab : a ≤ b) (hb : b ≤ (LIM : Int)) (hby : i.bytes ≤ 4096) : (execOp σ q).run P K.W = .ok (.value (.slice (some ⟨K.W.heap.size, 0, none⟩) a.toNat b.toNat)) (K.W.alloc (.cells (madeCells v.cells (b.toNat * i.size)) e)) := by
  have hb' : b ≤ 4294967296 := hb
  have h1 : (i.bytes : Int) * b ≤ 281474976710656 := by
    have h2 : (i.bytes : Int) ≤ 4096 := by omega
    have h3 : (i.bytes : Int) * b ≤ 4096 * b := Int.mul_le_mul_of_nonneg_right h2 (by omega)
    omega
  have := run_make (P := P) K.W t e i v hu hi hv .i64 .i64 a b h0 hab h1 (by omega)
  simp only [execOp, hx, hl, hc, Sem.run_bind, this, Result.andThen_ok]
  rfl

theorem r_mktree {σ : Operand → Value} {ρ : Arg → SV} {q : Oper} (s : SimF P eqTs bs h ls K) {z : List SV} {x y : Arg} {b : Int} (hq : chkR P eqTs q.op (.mktree z x y) = true) (hσ : ∀ x a, od x a = true → RV K (σ x) (ρ a)) (hl : ρ x = .int .i64 b) (hc : ρ y = .int .i64 b) (h0 : 0 ≤ b) (hb : b ≤ (LIM : Int)) (hz : z.all pl1 = true) :
    R1 P K σ q (.tree (List.replicate b.toNat (if z.length = 1 then z.headD .undef else .agg z)) false true) := by
  obtain ⟨t, l, c, hx, ho⟩ := inv_mktree hq
  simp only [Bool.and_eq_true] at ho
  obtain ⟨⟨h1, h2⟩, h3⟩ := ho
  split at h3
  · rename_i e hfd
    simp only [Bool.and_eq_true, beq_iff_eq, decide_eq_true_eq] at h3
    have hu := slOf_und hfd
    obtain ⟨i, v, hi, hv, hcr⟩ := zeOf_run h3.1.1
    have e1 := hσ l x h1
    have e2 := hσ c y h2
    rw [hl] at e1
    rw [hc] at e2
    have hsz : i.size = z.length := by simpa [szOf, hi] using h3.1.2
    have run := make_run (K := K) (ρ := ρ) hx hu hi hv (inv_int e1) (inv_int e2) h0 (Int.le_refl _) hb (by simpa [byOf, hi] using h3.2)
    have hcells : cellsOf (if z.length = 1 then z.headD .undef else .agg z) = z := by
      split
      · rename_i h1
        match z, h1 with
        | [a], _ =>
          simp only [List.headD_cons]
          exact pl1_cell (by simpa using hz)
      · rfl
    have hplain : plain (if z.length = 1 then z.headD .undef else .agg z) = true := by
      split
      · rename_i h1
        match z, h1 with
        | [a], _ =>
          simp only [List.headD_cons]
          have : pl1 a = true := by simpa using hz
          cases a <;> simp_all [plain, pl1]
      · exact hz
    refine R1.row (sz := z.length) s run (by simp) (fun u hu => ?_) (fun u hu => ?_) fun j k u w hj hk => ?_
    · rw [(List.mem_replicate.1 hu).2]; exact hplain
    · rw [(List.mem_replicate.1 hu).2, hcells]
    · have hjlt := (List.getElem?_eq_some_iff.1 hj).1
      rw [List.length_replicate] at hjlt
      rw [(List.mem_replicate.1 (List.mem_of_getElem? hj)).2, hcells] at hk
      have hklt := (List.getElem?_eq_some_iff.1 hk).1
      obtain ⟨u', h4, h5⟩ := (hcr K).get hk
      refine ⟨u', ?_, h5⟩
      have hvs : v.cells.size = z.length := (hcr K).1
      have hlt : j * z.length + k < b.toNat * i.size := by
        rw [hsz]
        have : (j + 1) * z.length ≤ b.toNat * z.length := Nat.mul_le_mul_right _ hjlt
        rw [Nat.add_mul] at this
        omega
      rw [madeCells_get hlt (by omega), hvs, Nat.mul_comm, Nat.mul_add_mod, Nat.mod_eq_of_lt hklt]
      exact h4
  · cases h3

/-! ### new blocks of the small heap -/
/-- The machine's operation hands back what stands for v; one block is new. -/
theorem own_alloc {σ : Operand → Value} {ρ : Arg → SV} {q : Oper} {z : List SV} (hq : chkR P eqTs q.op (.alloc z) = true) : ∃ (v : Value) (T : TypeId), (execOp σ q).run P K.W = .ok (.value (.pointer (some ⟨K.W.heap.size, 0, none⟩))) (K.W.alloc (.cells v.cells T)) ∧ CR K v.cells z := by
  obtain ⟨t, hx, ho⟩ := inv_alloc hq
  obtain ⟨i, v, hi, hv, hcr⟩ := zeOf_run ho
  refine ⟨v, t, ?_, hcr K⟩
  simp only [execOp, hx, Instr.alloc, zeroValue, Sem.run_bind, info_run hi, hv, Result.andThen_ok, Sem.run_pure]
  rfl
theorem own_box {σ : Operand → Value} {ρ : Arg → SV} {q : Oper} {a : Arg} (hq : chkR P eqTs q.op (.box a) = true) (hσ : ∀ x a, od x a = true → RV K (σ x) (ρ a)) (ho : okV (ρ a) = true) : ∃ (v : Value) (T : TypeId), (execOp σ q).run P K.W = .ok (.value (.pointer (some ⟨K.W.heap.size, 0, none⟩))) (K.W.alloc (.cells v.cells T)) ∧ CR K v.cells (cellsOf (ρ a)) := by
  obtain ⟨t, x, hx, h1⟩ := inv_box hq
  refine ⟨σ x, t, ?_, cells_CR (hσ x a h1) ho⟩
  simp only [execOp, hx, Instr.box, Sem.run_bind]
  rfl
theorem own_mk {σ : Operand → Value} {ρ : Arg → SV} {q : Oper} {z : List SV} {x y : Arg} {a b : Int} (hq : chkR P eqTs q.op (.mkslice z x y) = true) (hσ : ∀ x a, od x a = true → RV K (σ x) (ρ a)) (hl : ρ x = .int .i64 a) (hc : ρ y = .int .i64 b) (h0 : 0 ≤ a) (hab : a ≤ b) (hb : b ≤ (LIM : Int)) :
    ∃ (c : Array Value) (T : TypeId), (execOp σ q).run P K.W = .ok (.value (.slice (some ⟨K.W.heap.size, 0, none⟩) a.toNat b.toNat)) (K.W.alloc (.cells c T)) ∧ c.size = b.toNat * z.length ∧ ∀ (i : Nat) (s : SV), (List.replicate a.toNat z).flatten[i]? = some s → ∃ v, c[i]? = some v ∧ RV K v s := by
  obtain ⟨t, l, c, hx, ho⟩ := inv_mkslice hq
  simp only [Bool.and_eq_true] at ho
  obtain ⟨⟨h1, h2⟩, h3⟩ := ho
  split at h3
  · rename_i e hfd
    simp only [Bool.and_eq_true, beq_iff_eq, decide_eq_true_eq] at h3
    have hu := slOf_und hfd
    obtain ⟨i, v, hi, hv, hcr⟩ := zeOf_run h3.1.1
    have e1 := hσ l x h1
    have e2 := hσ c y h2
    rw [hl] at e1
    rw [hc] at e2
    have hsz : i.size = z.length := by simpa [szOf, hi] using h3.1.2
    have hvs : v.cells.size = z.length := (hcr K).1
    refine ⟨_, e, make_run (K := K) (ρ := ρ) hx hu hi hv (inv_int e1) (inv_int e2) h0 hab hb (by simpa [byOf, hi] using h3.2), by rw [size_madeCells, hsz], fun k s hk => ?_⟩
    have hkl := (List.getElem?_eq_some_iff.1 hk).1
    have hfl : (List.replicate a.toNat z).flatten.length = a.toNat * z.length := by simp
    rw [hfl] at hkl
    have hz0 : 0 < z.length := by
      rcases Nat.eq_zero_or_pos z.length with h | h
      · rw [h] at hkl; omega
      · exact h
    have hget : ∀ (n k : Nat), k < n * z.length → (List.replicate n z).flatten[k]? = z[k % z.length]? := by
      intro n
      induction n with
      | zero => intro k hk; omega
      | succ n ih =>
        intro k hk
        rw [List.replicate_succ, List.flatten_cons]
        by_cases hlt : k < z.length
        · rw [List.getElem?_append_left hlt, Nat.mod_eq_of_lt hlt]
        · rw [List.getElem?_append_right (by omega), ih (k - z.length) (by rw [Nat.add_mul] at hk; omega)]
          congr 1
          conv => rhs; rw [show k = k - z.length + z.length by omega]
          rw [Nat.add_mod_right]
    rw [hget _ _ hkl] at hk
    obtain ⟨u, h4, h5⟩ := (hcr K).get hk
    refine ⟨u, ?_, h5⟩
    have hle : a.toNat * z.length ≤ b.toNat * z.length := Nat.mul_le_mul_right _ (by omega)
    rw [madeCells_get (by rw [hsz]; omega) (by omega), hvs]
    exact h4
  · cases h3
end
end Go.Proofs.YtfmbdcmjgnikiaaGreatDoor.Sm
namespace Go.Proofs.YtfmbdcmjgnikiaaGreatDoor.Sm
open Go Go.RowKit

/-- Two values of the type t, n cells each, are compared cell by cell. -/
def EqT (P : Program) (t n : Nat) : Prop := ∀ (K : KK) (va vb : Array Value) (a b : List SV) (r : Bool), CR K va a → CR K vb b → a.length = n % 1000000 → b.length = n % 1000000 → eqM n a b = some r → ∀ (w : World),
  (∀ op x y, (eqGuard op t x y (.agg va) (.agg vb)).run P w = .ok () w) ∧ (Op.equal t (.agg va) (.agg vb)).run P w = .ok r w

theorem binOp_eql_agg {t : TypeId} {a b : Array Value} : binOp .eql t (.agg a) (.agg b) = (do pure (.bool (← Op.equal t (.agg a) (.agg b)))) := rfl
theorem binOp_neq_agg {t : TypeId} {a b : Array Value} : binOp .neq t (.agg a) (.agg b) = (do pure (.bool (!(← Op.equal t (.agg a) (.agg b))))) := rfl

def addH (h : HL) (nx : Nat) : Option (List SV) → HL
  | none => h
  | some cs => fun j => if j = nx then some cs else h j

section
variable {P : Program} {eqTs : List (Nat × Nat)} {bs : Bs} {h : HL} {ls : Nat → Option LRec} {K : KK} {σ : Operand → Value} {ρ : Arg → SV} {q : Oper} {nx : Nat}

theorem r_eqa {neg : Bool} {n : Nat} {x y : Arg} {a b : List SV} {r : Bool} (hE : ∀ t n, eqTs.contains (t, n) = true → EqT P t n) (hq : chkR P eqTs q.op (.eqa neg n x y) = true) (hσ : ∀ x a, od x a = true → RV K (σ x) (ρ a)) (h1 : ρ x = .agg a) (h2 : ρ y = .agg b) (ha : a.length = n % 1000000) (hb : b.length = n % 1000000) (he : eqM n a b = some r) : R1 P K σ q (.bool (xorB neg r)) := by
  obtain ⟨op, t, u, v, _, hx, ho⟩ := inv_eqa hq
  simp only [Bool.and_eq_true] at ho
  obtain ⟨⟨⟨h3, h4⟩, h5⟩, h6⟩ := ho
  have e1 := hσ u x h5
  have e2 := hσ v y h6
  rw [h1] at e1
  rw [h2] at e2
  obtain ⟨va, hva, ca1, ca2⟩ := inv_agg e1
  obtain ⟨vb, hvb, cb1, cb2⟩ := inv_agg e2
  obtain ⟨hg, hr⟩ := hE t n h4 K va vb a b r ⟨ca1, ca2⟩ ⟨cb1, cb2⟩ ha hb he K.W
  refine R1.of (.bool (xorB neg r)) (exec_bin hx (by rw [hva, hvb]; exact hg op u v) ?_) (.bool _)
  rw [hva, hvb]
  cases neg
  · obtain rfl : op = .eql := by simpa using h3
    simp [binOp_eql_agg, Sem.run_bind, hr, Result.andThen, xorB]
  · obtain rfl : op = .neq := by simpa using h3
    simp [binOp_neq_agg, Sem.run_bind, hr, Result.andThen, xorB]

/-- What a reading operation does: the value, and the small heap behind it. -/
structure RS (P : Program) (eqTs : List (Nat × Nat)) (bs : Bs) (h : HL) (ls : Nat → Option LRec) (K : KK) (nx : Nat) (σ : Operand → Value) (q : Oper) (v : SV) (c : Option (List SV)) : Prop where
  ex : ∃ val K', (execOp σ q).run P K.W = .ok (.value val) K'.W ∧ RV K' val v ∧ SimF P eqTs bs (addH h nx c) ls K' ∧ Ext K K' ∧ ∀ i, K'.dom i → K.dom i ∨ (i = nx ∧ c.isSome = true)

theorem RS.r1 (s : SimF P eqTs bs h ls K) {v : SV} (r : R1 P K σ q v) : RS P eqTs bs h ls K nx σ q v none := by
  obtain ⟨val, W', h1, h2, h3⟩ := r
  exact ⟨val, { K with W := W' }, h1, h3, s.ws h2, Ext.ws h2, fun i hi => .inl hi⟩

theorem RS.new (s : SimF P eqTs bs h ls K) (hn : ¬ K.dom nx) {v : SV} {val : Value} {c : Array Value} {T : TypeId} {cs : List SV} (hr : (execOp σ q).run P K.W = .ok (.value val) (K.W.alloc (.cells c T)))
    (hlen : cs.length ≤ c.size) (hc : ∀ (i : Nat) (y : SV), cs[i]? = some y → ∃ v, c[i]? = some v ∧ RV K v y) (hv : RV (K.push nx c T) val v) : RS P eqTs bs h ls K nx σ q v (some cs) := by
  obtain ⟨h1, h2⟩ := s.push hn (T := T) hlen hc
  exact ⟨val, K.push nx c T, hr, hv, h1, h2, fun i hi => by
    rcases hi with hi | hi
    · exact .inl hi
    · exact .inr ⟨hi, rfl⟩⟩

theorem push_β {nx : Nat} {c : Array Value} {T : TypeId} : (K.push nx c T).β nx = (K.W.heap.size, 0) := by simp [KK.push]
theorem push_ptr {nx : Nat} {c : Array Value} {T : TypeId} : RV (K.push nx c T) (.pointer (some ⟨K.W.heap.size, 0, none⟩)) (.ptr nx 0) := by
  have := RV.ptr (K := K.push nx c T) nx 0 (.inr rfl)
  rw [push_β] at this
  exact this
theorem push_shape {nx : Nat} {c : Array Value} {T : TypeId} {n : Nat} (hn : n ≤ c.size) : shapeAt (K.push nx c T).W K.W.heap.size n :=
  ⟨c, T, _, heap_new K.W _, hn⟩

theorem evR_sound (hE : ∀ t n, eqTs.contains (t, n) = true → EqT P t n) {o : ROp} (hq : chkR P eqTs q.op o = true) (hσ : ∀ x a, od x a = true → RV K (σ x) (ρ a)) (s : SimF P eqTs bs h ls K)
    {v : SV} {c : Option (List SV)} (hn : c.isSome = true → ¬ K.dom nx) (he : evR h nx ρ o = some (v, c)) : RS P eqTs bs h ls K nx σ q v c := by
  have hh : ∀ a x, od x a = true → RV K (σ x) (ρ a) := fun a x => hσ x a
  cases o with
  | mov x =>
    simp only [evR, Option.some.injEq, Prod.mk.injEq] at he
    obtain ⟨rfl, rfl⟩ := he
    exact .r1 s (r_mov hq (hh x))
  | pick c a b =>
    simp only [evR] at he
    split at he
    · simp only [Option.some.injEq, Prod.mk.injEq] at he
      obtain ⟨rfl, rfl⟩ := he
      exact .r1 s (r_pick hq (hh c) (hh a) (hh b) (by assumption))
    · cases he
  | bin op x y =>
    simp only [evR, Option.map_eq_some_iff, Prod.mk.injEq] at he
    obtain ⟨r, h1, rfl, rfl⟩ := he
    exact .r1 s (r_bin hq (hh x) (hh y) h1)
  | eqb neg x y =>
    simp only [evR] at he
    split at he
    · simp only [Option.some.injEq, Prod.mk.injEq] at he
      obtain ⟨rfl, rfl⟩ := he
      exact .r1 s (r_eqb hq (hh x) (hh y) (by assumption) (by assumption))
    · cases he
  | eqn neg x y =>
    simp only [evR] at he
    split at he
    · simp only [Option.some.injEq, Prod.mk.injEq] at he
      obtain ⟨rfl, rfl⟩ := he
      exact .r1 s (r_eqn hq (hh x) (hh y) (by assumption) (by assumption))
    · simp only [Option.some.injEq, Prod.mk.injEq] at he
      obtain ⟨rfl, rfl⟩ := he
      exact .r1 s (r_eqno hq (hh x) (hh y) (by assumption) (by assumption))
    · cases he
  | eqa neg n x y =>
    simp only [evR] at he
    split at he
    · split at he
      · rename_i hl
        simp only [Option.map_eq_some_iff, Prod.mk.injEq] at he
        obtain ⟨r, h1, rfl, rfl⟩ := he
        exact .r1 s (r_eqa hE hq hσ (by assumption) (by assumption) hl.1 hl.2 h1)
      · cases he
    · cases he
  | eqs neg x y =>
    simp only [evR] at he
    split at he
    · simp only [Option.some.injEq, Prod.mk.injEq] at he
      obtain ⟨rfl, rfl⟩ := he
      exact .r1 s (r_eqs hq (hh x) (hh y) (by assumption) (by assumption))
    · cases he
  | not x =>
    simp only [evR] at he
    split at he
    · simp only [Option.some.injEq, Prod.mk.injEq] at he
      obtain ⟨rfl, rfl⟩ := he
      exact .r1 s (r_not hq (hh x) (by assumption))
    · cases he
  | neg x =>
    simp only [evR] at he
    split at he
    · simp only [Option.some.injEq, Prod.mk.injEq] at he
      obtain ⟨rfl, rfl⟩ := he
      exact .r1 s (r_neg hq (hh x) (by assumption))
    · cases he
  | conv k x =>
    simp only [evR] at he
    split at he
    · simp only [Option.some.injEq, Prod.mk.injEq] at he
      obtain ⟨rfl, rfl⟩ := he
      exact .r1 s (r_conv hq (hh x) (by assumption))
    · cases he
  | len x =>
    simp only [evR] at he
    split at he
    · simp only [Option.some.injEq, Prod.mk.injEq] at he
      obtain ⟨rfl, rfl⟩ := he
      exact .r1 s (r_len hq (hh x) (.inl ⟨_, _, _, by assumption, rfl⟩))
    · simp only [Option.some.injEq, Prod.mk.injEq] at he
      obtain ⟨rfl, rfl⟩ := he
      exact .r1 s (r_len hq (hh x) (.inr ⟨_, _, _, by assumption⟩))
    · cases he
  | lenS x =>
    simp only [evR] at he
    split at he
    · simp only [Option.some.injEq, Prod.mk.injEq] at he
      obtain ⟨rfl, rfl⟩ := he
      exact .r1 s (r_lenS hq (hh x) (by assumption))
    · cases he
  | lenA n =>
    simp only [evR, Option.some.injEq, Prod.mk.injEq] at he
    obtain ⟨rfl, rfl⟩ := he
    exact .r1 s (r_lenA hq)
  | cap x =>
    simp only [evR] at he
    split at he
    · simp only [Option.some.injEq, Prod.mk.injEq] at he
      obtain ⟨rfl, rfl⟩ := he
      exact .r1 s (r_cap hq (hh x) (by assumption))
    · cases he
  | mn x y =>
    simp only [evR] at he
    split at he
    · simp only [Option.some.injEq, Prod.mk.injEq] at he
      obtain ⟨rfl, rfl⟩ := he
      exact .r1 s (r_mn hq (hh x) (hh y) (by assumption) (by assumption))
    · cases he
  | mx x y =>
    simp only [evR] at he
    split at he
    · simp only [Option.some.injEq, Prod.mk.injEq] at he
      obtain ⟨rfl, rfl⟩ := he
      exact .r1 s (r_mx hq (hh x) (hh y) (by assumption) (by assumption))
    · cases he
  | field off sz ag x =>
    simp only [evR] at he
    split at he
    · simp only [Option.map_eq_some_iff, Prod.mk.injEq] at he
      obtain ⟨r, h1, rfl, rfl⟩ := he
      exact .r1 s (r_field hq (hh x) (by assumption) h1)
    · cases he
  | index n sz ag x i =>
    simp only [evR] at he
    split at he
    · split at he
      · simp only [Option.map_eq_some_iff, Prod.mk.injEq] at he
        obtain ⟨r, h1, rfl, rfl⟩ := he
        exact .r1 s (r_index hq (hh x) (hh i) (by assumption) (by assumption) h1)
      · cases he
    · cases he
  | indexS x i =>
    simp only [evR] at he
    split at he
    · split at he
      · simp only [Option.some.injEq, Prod.mk.injEq] at he
        obtain ⟨rfl, rfl⟩ := he
        exact .r1 s (r_indexS hq (hh x) (hh i) (by assumption) (by assumption))
      · cases he
    · cases he
  | faddr o x =>
    simp only [evR] at he
    split at he
    · simp only [Option.some.injEq, Prod.mk.injEq] at he
      obtain ⟨rfl, rfl⟩ := he
      exact .r1 s ((r_faddr hq (hh x)).1 _ _ (by assumption))
    · simp only [Option.some.injEq, Prod.mk.injEq] at he
      obtain ⟨rfl, rfl⟩ := he
      exact .r1 s ((r_faddr hq (hh x)).2 _ _ (by assumption))
    · cases he
  | iaddr sz x i =>
    simp only [evR] at he
    split at he
    · split at he
      · split at he
        · split at he
          · rename_i hc
            simp only [Option.some.injEq, Prod.mk.injEq] at he
            obtain ⟨rfl, rfl⟩ := he
            exact .r1 s ((r_iaddr hq (hh x) (hh i)).1 _ _ _ _ _ (by assumption) (by assumption) (by assumption) hc.1 hc.2)
          · cases he
        · cases he
      · cases he
    · split at he
      · rename_i hs
        subst hs
        split at he
        · simp only [Option.some.injEq, Prod.mk.injEq] at he
          obtain ⟨rfl, rfl⟩ := he
          exact .r1 s ((r_iaddr hq (hh x) (hh i)).2 _ _ _ _ (by assumption) (by assumption))
        · cases he
      · cases he
    · cases he
  | iaddrA n sz x i =>
    simp only [evR] at he
    split at he
    · split at he
      · simp only [Option.some.injEq, Prod.mk.injEq] at he
        obtain ⟨rfl, rfl⟩ := he
        exact .r1 s ((r_iaddrA hq (hh x) (hh i) (by assumption)).1 _ _ (by assumption))
      · simp only [Option.some.injEq, Prod.mk.injEq] at he
        obtain ⟨rfl, rfl⟩ := he
        exact .r1 s ((r_iaddrA hq (hh x) (hh i) (by assumption)).2 _ _ (by assumption))
      · cases he
    · cases he
  | slice sz x lo hi mx =>
    simp only [evR] at he
    split at he
    · rename_i xs nl tg hx
      split at he
      · cases he
      · rename_i hs
        split at he
        · split at he
          · split at he
            · simp only [Option.some.injEq, Prod.mk.injEq] at he
              obtain ⟨rfl, rfl⟩ := he
              exact .r1 s ((r_slice hq hσ (by assumption) (by assumption) (by assumption)).1 _ _ _ hx rfl (by simpa using hs))
            · cases he
          · cases he
        · cases he
    · rename_i id off len s' hx
      split at he
      · rename_i hs
        subst hs
        split at he
        · split at he
          · split at he
            · simp only [Option.some.injEq, Prod.mk.injEq] at he
              obtain ⟨rfl, rfl⟩ := he
              exact .r1 s ((r_slice hq hσ (by assumption) (by assumption) (by assumption)).2 _ _ hx)
            · cases he
          · cases he
        · cases he
      · cases he
    · cases he
  | sliceA n sz x =>
    simp only [evR] at he
    split at he
    · split at he
      · rename_i cs hcs
        split at he
        · simp only [Option.some.injEq, Prod.mk.injEq] at he
          obtain ⟨rfl, rfl⟩ := he
          exact .r1 s (r_sliceA hq (hh x) (by assumption) (s.hp _ cs hcs) (by assumption))
        · cases he
      · cases he
    · cases he
  | s2a n x =>
    simp only [evR] at he
    split at he
    · split at he
      · rename_i hc
        simp only [Option.some.injEq, Prod.mk.injEq] at he
        obtain ⟨rfl, rfl⟩ := he
        exact .r1 s (r_s2a hq (hh x) (by assumption) hc.1 hc.2.1 hc.2.2)
      · cases he
    · cases he
  | build zero ps =>
    simp only [evR, Option.map_eq_some_iff, Prod.mk.injEq] at he
    obtain ⟨r, h1, rfl, rfl⟩ := he
    exact .r1 s (r_build hq hσ h1)
  | mkfn f pre caps =>
    simp only [evR, Option.some.injEq, Prod.mk.injEq] at he
    obtain ⟨rfl, rfl⟩ := he
    exact .r1 s (r_mkfn hq hσ)
  | extract i x =>
    simp only [evR] at he
    split at he
    · simp only [Option.map_eq_some_iff, Prod.mk.injEq] at he
      obtain ⟨r, h1, rfl, rfl⟩ := he
      exact .r1 s (r_extract hq (hh x) (by assumption) h1)
    · cases he
  | nilck x =>
    simp only [evR] at he
    have hr := r_nilck (P := P) (eqTs := eqTs) (K := K) (σ := σ) (ρ := ρ) (q := q) (a := x) hq (hh x)
    split at he
    · rename_i id off hx
      simp only [Option.some.injEq, Prod.mk.injEq] at he
      obtain ⟨rfl, rfl⟩ := he
      rw [hx] at hr
      exact .r1 s (hr (.inl ⟨_, _, rfl⟩))
    · rename_i cs off hx
      simp only [Option.some.injEq, Prod.mk.injEq] at he
      obtain ⟨rfl, rfl⟩ := he
      rw [hx] at hr
      exact .r1 s (hr (.inr ⟨_, _, rfl⟩))
    · cases he
  | load sz ag x =>
    simp only [evR] at he
    split at he
    · split at he
      · rename_i cs hcs
        simp only [Option.map_eq_some_iff, Prod.mk.injEq] at he
        obtain ⟨r, h1, rfl, rfl⟩ := he
        exact .r1 s (r_load_p hq (hh x) (by assumption) (s.hp _ cs hcs) h1)
      · cases he
    · simp only [Option.map_eq_some_iff, Prod.mk.injEq] at he
      obtain ⟨r, h1, rfl, rfl⟩ := he
      exact .r1 s (r_load_t hq (hh x) (by assumption) h1)
    · cases he
  | alloc zero =>
    simp only [evR, Option.some.injEq, Prod.mk.injEq] at he
    obtain ⟨rfl, rfl⟩ := he
    obtain ⟨v, T, hr, hc⟩ := own_alloc (K := K) (σ := σ) (ρ := ρ) hq
    exact .new s (hn rfl) hr (by rw [hc.1]; exact Nat.le_refl _) (fun i y hy => hc.get hy) push_ptr
  | box x =>
    simp only [evR] at he
    split at he
    · simp only [Option.some.injEq, Prod.mk.injEq] at he
      obtain ⟨rfl, rfl⟩ := he
      obtain ⟨v, T, hr, hc⟩ := own_box (K := K) (σ := σ) (ρ := ρ) hq hσ (by assumption)
      exact .new s (hn rfl) hr (by rw [hc.1]; exact Nat.le_refl _) (fun i y hy => hc.get hy) push_ptr
    · cases he
  | bslice sz ps =>
    simp only [evR] at he
    split at he
    · simp only [Option.some.injEq, Prod.mk.injEq] at he
      obtain ⟨rfl, rfl⟩ := he
      exact .r1 s (r_bslice s hq hσ (by assumption))
    · cases he
  | mkslice zero l c =>
    simp only [evR] at he
    split at he
    · split at he
      · rename_i a b hl hc hb
        simp only [Option.some.injEq, Prod.mk.injEq] at he
        obtain ⟨rfl, rfl⟩ := he
        obtain ⟨vs, T, hr, hs, hcr⟩ := own_mk (K := K) (σ := σ) (ρ := ρ) hq hσ hl hc hb.1 hb.2.1 hb.2.2
        have hle : a.toNat * zero.length ≤ b.toNat * zero.length := Nat.mul_le_mul_right _ (by omega)
        refine .new s (hn rfl) hr (by simp [hs]; omega) hcr ?_
        have hsh := push_shape (K := K) (nx := nx) (c := vs) (T := T) (n := 0 + b.toNat * zero.length) (by omega)
        have := RV.own (K := K.push nx vs T) nx 0 a.toNat zero.length 0 b.toNat (.inr rfl) (.inr (by rw [push_β])) (by omega) (by rw [push_β]; exact hsh)
        rw [push_β] at this
        exact this
      · cases he
    · cases he
  | mktree zero l c =>
    simp only [evR] at he
    split at he
    · split at he
      · rename_i a b hl hc hb
        simp only [Option.some.injEq, Prod.mk.injEq] at he
        obtain ⟨rfl, rfl⟩ := he
        obtain ⟨h0, rfl, h1, h2⟩ := hb
        exact .r1 s (r_mktree s hq hσ hl hc h0 h1 h2)
      · cases he
    · cases he
end
end Go.Proofs.YtfmbdcmjgnikiaaGreatDoor.Sm
namespace Go.Proofs.YtfmbdcmjgnikiaaGreatDoor.Sm
open Go Go.RowKit

def fldsFit (P : Program) (q : TypeId → Nat → Bool) : List Field → Nat → Nat → Bool
  | [], o, n => o == n
  | f :: fs, o, n => decide (f.name ≠ "_") && decide (f.offset = o) && memT P f.type (szOf P f.type) (agOf P f.type) && q f.type (szOf P f.type) && fldsFit P q fs (o + szOf P f.type) n
def eqFit (P : Program) (bo : Bool) : Nat → TypeId → Nat → Bool
  | 0, _, _ => false
  | d + 1, t, n => match P.underlying t with
    | some (.int _) => !bo && n == 1
    | some .bool => bo && n == 1
    | some (.struct fs) => !P.stoodInHeld t && fldsFit P (eqFit P bo d) fs.toList 0 n
    | some (.array len e) => memT P e (szOf P e) (agOf P e) && n == len * szOf P e && eqFit P bo d e (szOf P e)
    | _ => false
def eqOK (P : Program) (t n : Nat) : Bool := agOf P t && eqFit P (decide (1000000 ≤ n)) 100 t (n % 1000000) && !P.eqGuardType P.depth t
def eqX (bo : Bool) (a b : List SV) : Option Bool := if bo then eqBools a b else eqCells a b

theorem eqX_nil {bo : Bool} : eqX bo [] [] = some true := by cases bo <;> rfl
theorem eqX_app {bo : Bool} {c d : List SV} {r : Bool} : ∀ (a b : List SV), a.length = b.length → eqX bo (a ++ c) (b ++ d) = some r → ∃ r1, eqX bo a b = some r1 ∧ (r1 = false → r = false) ∧ (r1 = true → eqX bo c d = some r)
  | [], [], _, h => ⟨true, eqX_nil, ⟨fun h => (nomatch h), fun _ => h⟩⟩
  | x :: a, [], hl, _ => by simp at hl
  | [], y :: b, hl, _ => by simp at hl
  | x :: a, y :: b, hl, h => by
    have ih := eqX_app (bo := bo) (c := c) (d := d) (r := r) a b (by simpa using hl)
    cases bo
    · simp only [eqX, Bool.false_eq_true, if_false, List.cons_append] at h ih ⊢
      cases x <;> cases y <;> simp only [eqCells] at h <;> try (cases h; done)
      rename_i k p k' q
      simp only [eqCells]
      split at h
      · rename_i hk
        rw [if_pos hk]
        split at h
        · rename_i hp
          rw [if_pos hp]
          exact ih h
        · rename_i hp
          rw [if_neg hp]
          cases h
          exact ⟨false, rfl, fun _ => rfl, fun h => nomatch h⟩
      · cases h
    · simp only [eqX, if_true, List.cons_append] at h ih ⊢
      cases x <;> cases y <;> simp only [eqBools] at h <;> try (cases h; done)
      rename_i p q
      simp only [eqBools]
      split at h
      · rename_i hp
        rw [if_pos hp]
        exact ih h
      · rename_i hp
        rw [if_neg hp]
        cases h
        exact ⟨false, rfl, fun _ => rfl, fun h => nomatch h⟩

section
variable {P : Program} {K : KK} {w : World} {bo : Bool}
theorem flds_le {q : TypeId → Nat → Bool} : ∀ {fs : List Field} {o n : Nat}, fldsFit P q fs o n = true → o ≤ n
  | [], o, n, h => by simp only [fldsFit, beq_iff_eq] at h; omega
  | f :: fs, o, n, h => by
    simp only [fldsFit, Bool.and_eq_true] at h
    have := flds_le h.2
    omega
theorem fit_one {d : Nat} {t n : Nat} (h : eqFit P bo d t n = true) (ha : agOf P t = false) : n = 1 := by
  cases d with
  | zero => cases h
  | succ d =>
    simp only [eqFit] at h
    unfold agOf at ha
    split at h <;> simp_all
/-- The cells that a value of a type is made of. -/
def Cz (P : Program) (t : TypeId) (x : SV) (a : List SV) : Prop := if agOf P t = true then x = .agg a else a = [x]
theorem cz_part {t : TypeId} {A : List SV} {o s : Nat} {d : Nat} (hf : eqFit P bo d t s = true) (hl : o + s ≤ A.length) : ∃ x, ldc A o s (agOf P t) = some x ∧ Cz P t x (sub A o s) := by
  cases ha : agOf P t with
  | true => exact ⟨.agg (sub A o s), by simp [ldc, hl], by simp [Cz, ha]⟩
  | false =>
    obtain rfl := fit_one hf ha
    obtain ⟨x, hx, hd⟩ : ∃ x, A[o]? = some x ∧ A.drop o = x :: A.drop (o + 1) := ⟨A[o], List.getElem?_eq_getElem (by omega), List.drop_eq_getElem_cons (by omega)⟩
    refine ⟨x, by simp [ldc, hx], ?_⟩
    simp [Cz, ha, sub, hd]
theorem sub_drop {A : List SV} {o s : Nat} : A.drop o = sub A o s ++ A.drop (o + s) := by
  rw [sub, ← List.drop_drop, List.take_append_drop]
theorem sub_len {A : List SV} {o s : Nat} (h : o + s ≤ A.length) : (sub A o s).length = s := by simp [sub]; omega
abbrev IHe (P : Program) (bo : Bool) (d : Nat) : Prop := ∀ (t n : Nat), eqFit P bo d t n = true → ∀ (dd : Nat), d ≤ dd → ∀ (K : KK) (v u : Value) (x y : SV) (a b : List SV) (r : Bool), RV K v x → RV K u y → Cz P t x a → Cz P t y b → a.length = n → b.length = n → eqX bo a b = some r → ∀ w, (Op.equalIn dd t v u).run P w = .ok r w
theorem run_flds {d dd : Nat} (IH : IHe P bo d) (hdd : d ≤ dd) {va vb : Array Value} {A B : List SV} (ha : CR K va A) (hb : CR K vb B) (hl : A.length = B.length) {r : Bool} : ∀ (fs : List Field) (o : Nat), fldsFit P (eqFit P bo d) fs o A.length = true → eqX bo (A.drop o) (B.drop o) = some r → (Op.eqFields dd va vb fs).run P w = .ok r w
  | [], o, hf, he => by
    simp only [fldsFit, beq_iff_eq] at hf
    rw [List.drop_eq_nil_of_le (by omega), List.drop_eq_nil_of_le (by omega), eqX_nil] at he
    cases he
    rfl
  | f :: fs, o, hf, he => by
    simp only [fldsFit, Bool.and_eq_true, decide_eq_true_eq] at hf
    obtain ⟨⟨⟨⟨f1, f2⟩, f3⟩, f4⟩, f5⟩ := hf
    have hle := flds_le f5
    obtain ⟨x, hx, cx⟩ := cz_part (A := A) f4 hle
    obtain ⟨y, hy, cy⟩ := cz_part (A := B) (o := o) f4 (by omega)
    obtain ⟨v, rv, hv⟩ := part_run ha f3 hx w
    obtain ⟨u, ru, hu⟩ := part_run hb f3 hy w
    rw [sub_drop (A := A) (s := szOf P f.type), sub_drop (A := B) (s := szOf P f.type)] at he
    obtain ⟨r1, e1, e2, e3⟩ := eqX_app _ _ (by rw [sub_len hle, sub_len (by omega)]) he
    have h1 := IH _ _ f4 dd hdd K v u x y _ _ r1 hv hu cx cy (sub_len hle) (sub_len (by omega)) e1 w
    unfold Op.eqFields
    rw [if_pos f1, f2]
    simp only [Sem.run_bind, rv, ru, h1, Result.andThen_ok]
    cases r1 with
    | false => rw [e2 rfl]; simp
    | true => simpa using run_flds IH hdd ha hb hl fs _ f5 (e3 rfl)
theorem run_arr {d dd : Nat} (IH : IHe P bo d) (hdd : d ≤ dd) {va vb : Array Value} {A B : List SV} (ha : CR K va A) (hb : CR K vb B) (hl : A.length = B.length) {e : TypeId} (hm : memT P e (szOf P e) (agOf P e) = true) (hf : eqFit P bo d e (szOf P e) = true) {r : Bool} :
    ∀ (m k : Nat), (k + m) * szOf P e = A.length → eqX bo (A.drop (k * szOf P e)) (B.drop (k * szOf P e)) = some r →
      (forIn (List.range' k m 1) ((none, ()) : Option Bool × Unit) fun i _ => (do
            let a ← part e va (i * szOf P e)
            let b ← part e vb (i * szOf P e)
            let c ← Op.equalIn dd e a b
            if (!c) = true then pure (ForInStep.done (some false, ())) else pure (ForInStep.yield (none, ())) : Sem (ForInStep (Option Bool × Unit)))).run P w = .ok (if r then (none, ()) else (some false, ())) w
  | 0, k, hk, he => by
    rw [Nat.add_zero] at hk
    rw [List.drop_eq_nil_of_le (by omega), List.drop_eq_nil_of_le (by omega), eqX_nil] at he
    cases he
    simp
  | m + 1, k, hk, he => by
    have hs : (k + 1) * szOf P e = k * szOf P e + szOf P e := Nat.succ_mul _ _
    have hle : k * szOf P e + szOf P e ≤ A.length := by
      rw [← hk, ← hs]; exact Nat.mul_le_mul_right _ (by omega)
    obtain ⟨x, hx, cx⟩ := cz_part (A := A) (o := k * szOf P e) hf hle
    obtain ⟨y, hy, cy⟩ := cz_part (A := B) (o := k * szOf P e) hf (by omega)
    obtain ⟨v, rv, hv⟩ := part_run ha hm hx w
    obtain ⟨u, ru, hu⟩ := part_run hb hm hy w
    rw [sub_drop (A := A) (s := szOf P e), sub_drop (A := B) (s := szOf P e)] at he
    obtain ⟨r1, e1, e2, e3⟩ := eqX_app _ _ (by rw [sub_len hle, sub_len (by omega)]) he
    have h1 := IH _ _ hf dd hdd K v u x y _ _ r1 hv hu cx cy (sub_len hle) (sub_len (by omega)) e1 w
    have ih := run_arr IH hdd ha hb hl hm hf (r := r) m (k + 1) (by rw [← hk]; congr 1; omega)
    rw [hs] at ih
    simp only [List.range'_succ, List.forIn_cons, Sem.run_bind, rv, ru, h1, Result.andThen_ok] at ih ⊢
    cases r1 with
    | false => rw [e2 rfl]; simp
    | true => simpa using ih (e3 rfl)
theorem run_equal : ∀ (d : Nat), IHe P bo d
  | 0 => fun t n h => by cases h
  | d + 1 => by
    intro t n h dd hdd K v u x y a b r hv hu cx cy la lb he w
    obtain ⟨dd, rfl⟩ : ∃ m, dd = m + 1 := ⟨dd - 1, by omega⟩
    have IH := run_equal d
    simp only [eqFit] at h
    split at h
    · rename_i k hu'
      simp only [Bool.and_eq_true, beq_iff_eq, Bool.not_eq_true'] at h
      obtain ⟨rfl, rfl⟩ := h
      have hag : agOf P t = false := by simp [agOf, hu']
      simp only [Cz, hag, Bool.false_eq_true, if_false] at cx cy
      subst cx; subst cy
      simp only [eqX, Bool.false_eq_true, if_false] at he
      cases x <;> cases y <;> simp only [eqCells] at he <;> try (cases he; done)
      rename_i k1 p k2 q
      split at he
      · rename_i hk
        subst hk
        rw [inv_int hv, inv_int hu, run_equalIn_int w _ _ k1 k p q hu']
        split at he
        · rename_i hpq; cases he; rw [hpq]
        · rename_i hpq; cases he; rw [Bool.not_eq_true] at hpq; rw [hpq]
      · cases he
    · rename_i hu'
      simp only [Bool.and_eq_true, beq_iff_eq] at h
      obtain ⟨rfl, rfl⟩ := h
      have hag : agOf P t = false := by simp [agOf, hu']
      simp only [Cz, hag, Bool.false_eq_true, if_false] at cx cy
      subst cx; subst cy
      simp only [eqX, if_true] at he
      cases x <;> cases y <;> simp only [eqBools] at he <;> try (cases he; done)
      rename_i p q
      rw [inv_bool hv, inv_bool hu, run_equalIn_bool' w _ _ p q hu']
      split at he
      · rename_i hpq; cases he; rw [hpq]
      · rename_i hpq; cases he; rw [Bool.not_eq_true] at hpq; rw [hpq]
    · rename_i fs hu'
      simp only [Bool.and_eq_true, Bool.not_eq_true'] at h
      obtain ⟨h1, h2⟩ := h
      have hag : agOf P t = true := by simp [agOf, hu']
      simp only [Cz, hag, if_true] at cx cy
      subst cx; subst cy
      obtain ⟨va, rfl, ca1, ca2⟩ := inv_agg hv
      obtain ⟨vb, rfl, cb1, cb2⟩ := inv_agg hu
      have hfo : P.fieldsOf t = fs := by simp [Program.fieldsOf, hu']
      rw [run_equalIn_struct w dd t va vb (by rw [hfo]; exact hu') h1, hfo]
      exact run_flds IH (by omega) ⟨ca1, ca2⟩ ⟨cb1, cb2⟩ (by omega) fs.toList 0 (by rw [la]; exact h2) he
    · rename_i len e hu'
      simp only [Bool.and_eq_true, beq_iff_eq] at h
      obtain ⟨⟨h1, h2⟩, h3⟩ := h
      have hag : agOf P t = true := by simp [agOf, hu']
      simp only [Cz, hag, if_true] at cx cy
      subst cx; subst cy
      obtain ⟨va, rfl, ca1, ca2⟩ := inv_agg hv
      obtain ⟨vb, rfl, cb1, cb2⟩ := inv_agg hu
      have h1' := h1
      simp only [memT, Bool.and_eq_true] at h1'
      have hsz := fun w => size_run (w := w) h1'.1.1.1
      have := run_arr (w := w) (r := r) IH (show d ≤ dd by omega) ⟨ca1, ca2⟩ ⟨cb1, cb2⟩ (by omega) h1 h3 len 0 (by rw [Nat.zero_add]; omega) (by simpa using he)
      rw [Op.equalIn]
      simp only [Sem.run_bind, run_underlying hu', Result.andThen_ok, hsz, Std.Legacy.Range.forIn_eq_forIn_range', Std.Legacy.Range.size, Nat.sub_zero, Nat.add_sub_cancel, Nat.div_one]
      rw [this]
      cases r <;> simp
    · cases h
theorem eqT_of {t n : Nat} (h : eqOK P t n = true) : EqT P t n := by
  simp only [eqOK, Bool.and_eq_true, Bool.not_eq_true'] at h
  obtain ⟨⟨h1, h2⟩, h3⟩ := h
  intro K va vb a b r ca cb la lb he w
  refine ⟨fun op x y => run_eqGuard_agg w op t x y va vb h3, ?_⟩
  show (Op.equalIn 10000 t (.agg va) (.agg vb)).run P w = _
  have he' : eqX (decide (1000000 ≤ n)) a b = some r := by
    unfold eqM at he
    unfold eqX
    by_cases hn : n < 1000000
    · rw [if_pos hn] at he; rw [if_neg (by simp; omega)]; exact he
    · rw [if_neg hn] at he; rw [if_pos (by simp; omega)]; exact he
  exact run_equal (bo := decide (1000000 ≤ n)) 100 t _ h2 10000 (by omega) K (.agg va) (.agg vb) (.agg a) (.agg b) a b r (.agg _ _ ca.1 ca.2) (.agg _ _ cb.1 cb.2) (by simp [Cz, h1]) (by simp [Cz, h1]) la lb he' w
end
end Go.Proofs.YtfmbdcmjgnikiaaGreatDoor.Sm
namespace Go.Proofs.YtfmbdcmjgnikiaaGreatDoor.Sm
open Go Go.RowKit

theorem WS.setRow {w : World} {g : Nat} {c c' : Array Value} {T : TypeId} {fr : Nat × Nat} (hg : w.heap[g]? = some (.cells c T fr)) (hs : c'.size = c.size) {M : Nat → Nat → Prop} (hm : ∀ o, ¬ M g o → c'[o]? = c[o]?) : WS w (w.setRow g c') M := by
  refine ⟨rfl, rfl, rfl, by simp, fun k o hk ho => ?_, fun k c1 T1 fr1 hk => ?_⟩
  · have : k ≠ g := fun e => by
      subst e
      rw [hg] at hk
      cases hk
      exact ho _ _ _ rfl
    rw [setRow_other w g k c' this]; exact hk
  · by_cases e : k = g
    · subst e
      rw [hg] at hk
      cases hk
      exact ⟨c', setRow_heap w k c c' T fr hg, hs, fun o ho => hm o ho⟩
    · exact ⟨c1, by rw [setRow_other w g k c' e]; exact hk, rfl, fun _ _ => rfl⟩

section
variable {P : Program} {eqTs : List (Nat × Nat)} {bs : Bs} {h : HL} {ls : Nat → Option LRec} {K : KK} {σ : Operand → Value} {ρ : Arg → SV} {q : Oper} {nx : Nat}

def dropH (h : HL) (id : Nat) : HL := fun j => if j = id then none else h j
def putH (h : HL) (id : Nat) (cs : List SV) : HL := fun j => if j = id then some cs else h j

theorem SimF.sub (s : SimF P eqTs bs h ls K) {h' : HL} (hs : ∀ i cs, h' i = some cs → h i = some cs) : SimF P eqTs bs h' ls K where
  bel := s.bel
  bsz := s.bsz
  mc0 := s.mc0
  hp := fun id cs hi => s.hp id cs (hs _ _ hi)
  inj := fun i j ci cj hi hj => s.inj i j ci cj (hs _ _ hi) (hs _ _ hj)
  low := fun id cs hi => s.low id cs (hs _ _ hi)
  mcb := s.mcb
  lp := s.lp
  linj := s.linj
  llow := s.llow
theorem dropH_sub {id : Nat} : ∀ i cs, dropH h id i = some cs → h i = some cs := fun i cs hi => by
  unfold dropH at hi
  split at hi
  · cases hi
  · exact hi
theorem SimF.drop (s : SimF P eqTs bs h ls K) (id : Nat) : SimF P eqTs bs (dropH h id) ls K := s.sub dropH_sub
theorem dropH_ne {id i : Nat} {cs : List SV} (hi : dropH h id i = some cs) : i ≠ id ∧ h i = some cs := by
  unfold dropH at hi
  split at hi
  · cases hi
  · exact ⟨by assumption, hi⟩

theorem SimF.put (s : SimF P eqTs bs h ls K) {id : Nat} {cs : List SV} (ho : HO K id cs) (hinj : ∀ j cj, h j = some cj → j ≠ id → (K.β j).1 ≠ (K.β id).1) (hlow : bs.wb ≤ id → bs.B ≤ (K.β id).1) : SimF P eqTs bs (putH h id cs) ls K := by
  have hnew : ∀ i ci, putH h id cs i = some ci → (i = id ∧ ci = cs) ∨ (i ≠ id ∧ h i = some ci) := fun i ci hi => by
    unfold putH at hi
    by_cases he : i = id
    · rw [if_pos he] at hi; exact .inl ⟨he, by cases hi; rfl⟩
    · rw [if_neg he] at hi; exact .inr ⟨he, hi⟩
  refine { bel := s.bel, bsz := s.bsz, mc0 := s.mc0, hp := fun i ci hi => ?_, inj := fun i j ci cj hi hj hij => ?_, low := fun i ci hi hwb => ?_, mcb := s.mcb, lp := s.lp, linj := s.linj, llow := s.llow }
  · rcases hnew i ci hi with ⟨rfl, rfl⟩ | ⟨he, hi'⟩
    · exact ho
    · exact s.hp i ci hi'
  · rcases hnew i ci hi with ⟨rfl, rfl⟩ | ⟨he, hi'⟩ <;> rcases hnew j cj hj with ⟨rfl, rfl⟩ | ⟨he2, hj'⟩
    · exact absurd rfl hij
    · exact fun e => hinj j cj hj' he2 e.symm
    · exact hinj i ci hi' he
    · exact s.inj i j ci cj hi' hj' hij
  · rcases hnew i ci hi with ⟨rfl, rfl⟩ | ⟨he, hi'⟩
    · exact hlow hwb
    · exact s.low i ci hi' hwb

/-- A new name for a block. -/
def KK.name (K : KK) (nx : Nat) (b : Nat × Nat) : KK := { K with β := fun i => if i = nx then b else K.β i, dom := fun i => K.dom i ∨ i = nx }
theorem name_β {b : Nat × Nat} : (K.name nx b).β nx = b := by simp [KK.name]
theorem name_ne {b : Nat × Nat} (hn : ¬ K.dom nx) {i : Nat} (hi : K.dom i) : (K.name nx b).β i = K.β i := by
  simp only [KK.name]
  rw [if_neg (fun (e : i = nx) => hn (e ▸ hi))]
theorem RV.name {b : Nat × Nat} (hn : ¬ K.dom nx) {v : Value} {y : SV} (hv : RV K v y) : RV (K.name nx b) v y :=
  RV.mono (K := K) (K' := K.name nx b) (fun i hi => ⟨.inl hi, name_ne hn hi⟩) (fun _ _ _ h1 h2 => ⟨h1, h2⟩) (fun _ _ h => h) hv
theorem SimF.name (s : SimF P eqTs bs h ls K) (hn : ¬ K.dom nx) (b : Nat × Nat) : SimF P eqTs bs h ls (K.name nx b) ∧ Ext K (K.name nx b) := by
  have hw : WS K.W (K.name nx b).W none2 := WS.refl _ _
  refine ⟨{ bel := s.bel, bsz := s.bsz, mc0 := s.mc0, hp := fun i ci hi => ?_, inj := fun i j ci cj hi hj hij => ?_, low := fun i ci hi hwb => ?_, mcb := s.mcb, lp := fun l r hl => ?_, linj := fun l l' r r' hl hl' hne => ?_, llow := fun l r hl => ?_ }, Ext.of_ws (K' := K.name nx b) (fun v y hv => hv.name hn) hw⟩
  · have hd := (s.hp i ci hi).1
    exact (s.hp i ci hi).mono (K' := K.name nx b) hw (.inl hd) (name_ne hn hd) (fun _ h => h) (fun _ h => h) fun v y hv => hv.name hn
  · rw [name_ne hn (s.hp i ci hi).1, name_ne hn (s.hp j cj hj).1]
    exact s.inj i j ci cj hi hj hij
  · rw [name_ne hn (s.hp i ci hi).1]
    exact s.low i ci hi hwb
  · have hd := (s.lp l r hl).1
    exact (s.lp l r hl).mono (K' := K.name nx b) hw (.inl hd) (name_ne hn hd) fun v y hv => hv.name hn
  · rw [name_ne hn (s.lp l r hl).1, name_ne hn (s.lp l' r' hl').1]
    exact s.linj l l' r r' hl hl' hne
  · rw [name_ne hn (s.lp l r hl).1]
    exact s.llow l r hl

/-- The cells of a block that may change are given up: no one writes it any more. -/
def KK.free (K : KK) (g : Nat) : KK := { K with MC := fun b o => K.MC b o ∧ b ≠ g }
theorem RV.free {g : Nat} {v : Value} {y : SV} (hv : RV K v y) : RV (K.free g) v y :=
  RV.mono (K := K) (K' := K.free g) (fun i hi => ⟨hi, rfl⟩) (fun _ _ _ h1 h2 => ⟨h1, fun h => h2 h.1⟩) (fun _ _ h => h) hv
theorem SimF.free (s : SimF P eqTs bs h ls K) {id : Nat} {cs : List SV} (hid : h id = some cs) (hwb : bs.wb ≤ id) : SimF P eqTs bs (dropH h id) ls (K.free (K.β id).1) ∧ Ext K (K.free (K.β id).1) := by
  have hw : WS K.W (K.free (K.β id).1).W none2 := WS.refl _ _
  have hB := s.low id cs hid hwb
  refine ⟨{ bel := s.bel, bsz := s.bsz, mc0 := fun b o hb => ?_, hp := fun i ci hi => ?_, inj := fun i j ci cj hi hj hij => s.inj i j ci cj (dropH_sub _ _ hi) (dropH_sub _ _ hj) hij, low := fun i ci hi hwb => s.low i ci (dropH_sub _ _ hi) hwb, mcb := fun b o hm => s.mcb b o hm.1, lp := fun l r hl => ?_, linj := s.linj, llow := s.llow }, Ext.of_ws (K' := K.free (K.β id).1) (fun v y hv => hv.free) hw⟩
  · rw [← s.mc0 b o hb]
    exact ⟨fun hh => hh.1, fun hh => ⟨hh, by omega⟩⟩
  · obtain ⟨hne, hi'⟩ := dropH_ne hi
    have hne2 := s.inj i id ci cs hi' hid hne
    exact (s.hp i ci hi').mono (K' := K.free (K.β id).1) hw (s.hp i ci hi').1 rfl (fun _ h => h) (fun _ h => ⟨h, hne2⟩) fun v y hv => hv.free
  · exact (s.lp l r hl).mono (K' := K.free (K.β id).1) hw (s.lp l r hl).1 rfl fun v y hv => hv.free

/-- A block's cells, from lo on, are written. -/
theorem SimF.write (s : SimF P eqTs bs h ls K) {id : Nat} {cs : List SV} (hid : h id = some cs) (hwb : bs.wb ≤ id) {c c' : Array Value} {T : TypeId} (hc : K.W.heap[(K.β id).1]? = some (.cells c T (0, 0))) (hs : c'.size = c.size) (hlo : ∀ o, o < (K.β id).2 → c'[o]? = c[o]?) :
    SimF P eqTs bs (dropH h id) ls { K with W := K.W.setRow (K.β id).1 c' } ∧ Ext K { K with W := K.W.setRow (K.β id).1 c' } ∧ (K.W.setRow (K.β id).1 c').heap[(K.β id).1]? = some (.cells c' T (0, 0)) := by
  have hB := s.low id cs hid hwb
  have hw : WS K.W (K.W.setRow (K.β id).1 c') (fun b o => b = (K.β id).1 ∧ (K.β id).2 ≤ o) := WS.setRow hc hs fun o ho => hlo o (by
    by_cases h : o < (K.β id).2
    · exact h
    · exact absurd ⟨rfl, by omega⟩ ho)
  have hMC : ∀ o, (K.β id).2 ≤ o → o < c.size → K.MC (K.β id).1 o := by
    obtain ⟨_, c1, T1, h1, _, _, h4⟩ := s.hp id cs hid
    rw [hc] at h1
    cases h1
    exact h4
  have hrv : ∀ v y, RV K v y → RV { K with W := K.W.setRow (K.β id).1 c' } v y := fun v y hv =>
    RV.mono (K := K) (K' := { K with W := K.W.setRow (K.β id).1 c' }) (fun i hi => ⟨hi, rfl⟩) (fun b o u h1 h2 => ⟨hw.cell? h1 (fun hm => by
      obtain ⟨rfl, hm2⟩ := hm
      rw [cell_of hc] at h1
      exact h2 (hMC o hm2 (Array.getElem?_eq_some_iff.1 h1).1)), h2⟩) (fun _ _ h => hw.shape h) hv
  refine ⟨{ bel := s.bel.trans (hw.below s.size fun b o hm => by rw [hm.1]; exact hB), bsz := s.bsz, mc0 := s.mc0, hp := fun i ci hi => ?_, inj := fun i j ci cj hi hj hij => s.inj i j ci cj (dropH_sub _ _ hi) (dropH_sub _ _ hj) hij, low := fun i ci hi hwb => s.low i ci (dropH_sub _ _ hi) hwb, mcb := fun b o hm => by simpa using s.mcb b o hm, lp := fun l r hl => ?_, linj := s.linj, llow := s.llow }, Ext.of_ws (K' := { K with W := K.W.setRow (K.β id).1 c' }) hrv hw, setRow_heap _ _ c c' T _ hc⟩
  · obtain ⟨hne, hi'⟩ := dropH_ne hi
    have hne2 := s.inj i id ci cs hi' hid hne
    exact (s.hp i ci hi').mono (K' := { K with W := K.W.setRow (K.β id).1 c' }) hw (s.hp i ci hi').1 rfl (fun _ h => hne2 h.1) (fun _ h => h) hrv
  · exact (s.lp l r hl).mono (K' := { K with W := K.W.setRow (K.β id).1 c' }) hw (s.lp l r hl).1 rfl hrv

theorem cellB_one {v : Value} {y : SV} (hv : RV K v y) (hy : cellB y = true) : v.oneCell' = true := by
  cases hv <;> first | rfl | simp [cellB] at hy

theorem okV_of_cells {x : SV} (h : (cellsOf x).all cellB = true) : okV x = true := by
  cases x <;> simp_all [cellsOf, cellB, okV]

/-- The cells of a row, from o on, put in. -/
def putC (c : Array Value) (o : Nat) (vs : List Value) : Array Value := (c.toList.take o ++ vs ++ c.toList.drop (o + vs.length)).toArray
theorem putC_size {c : Array Value} {o : Nat} {vs : List Value} (h : o + vs.length ≤ c.size) : (putC c o vs).size = c.size := by
  simp [putC]; omega
theorem putC_get {c : Array Value} {o : Nat} {vs : List Value} (h : o + vs.length ≤ c.size) (k : Nat) : (putC c o vs)[k]? = if o ≤ k ∧ k < o + vs.length then vs[k - o]? else c[k]? := by
  unfold putC
  have e1 : (c.toList.take o).length = o := by simp; omega
  rw [List.getElem?_toArray]
  by_cases h1 : k < o
  · rw [if_neg (by omega), List.append_assoc, List.getElem?_append_left (by omega), List.getElem?_take, if_pos h1, Array.getElem?_toList]
  · by_cases h2 : k < o + vs.length
    · rw [if_pos (by omega), List.append_assoc, List.getElem?_append_right (by omega), e1, List.getElem?_append_left (by omega)]
    · rw [if_neg (by omega), List.getElem?_append_right (by simp; omega), List.length_append, e1, List.getElem?_drop, Array.getElem?_toList]
      congr 1
      omega

theorem HO.block {id : Nat} {cs : List SV} (ho : HO K id cs) : ∃ c T, K.W.heap[(K.β id).1]? = some (.cells c T (0, 0)) ∧ (K.β id).2 + cs.length ≤ c.size := by
  obtain ⟨_, c, T, h1, h2, _⟩ := ho
  exact ⟨c, T, h1, h2⟩

/-- The cells cs of a block, at off, become us. -/
theorem SimF.setc (s : SimF P eqTs bs h ls K) {id : Nat} {cs us : List SV} (hid : h id = some cs) (hwb : bs.wb ≤ id) {c : Array Value} {T : TypeId} (hc : K.W.heap[(K.β id).1]? = some (.cells c T (0, 0))) {off : Nat} {vs : List Value} (hl : vs.length = us.length) (hle : off + us.length ≤ cs.length)
    (hr : ∀ (i : Nat) (y : SV), us[i]? = some y → ∃ v, vs[i]? = some v ∧ RV K v y) :
    SimF P eqTs bs (putH h id (Sm.setc cs off us)) ls { K with W := K.W.setRow (K.β id).1 (putC c ((K.β id).2 + off) vs) } ∧ Ext K { K with W := K.W.setRow (K.β id).1 (putC c ((K.β id).2 + off) vs) } := by
  obtain ⟨hd, c1, T1, h1, h2, h3, h4⟩ := s.hp id cs hid
  rw [hc] at h1
  cases h1
  have hfit : (K.β id).2 + off + vs.length ≤ c.size := by omega
  obtain ⟨g1, g2, g3⟩ := s.write hid hwb hc (putC_size hfit) fun o ho => by rw [putC_get hfit, if_neg (by omega)]
  refine ⟨?_, g2⟩
  have hget : ∀ (i : Nat) (y : SV), (Sm.setc cs off us)[i]? = some y → ∃ v, (putC c ((K.β id).2 + off) vs)[(K.β id).2 + i]? = some v ∧ RV K v y := fun i y hy => by
    rw [setc_get] at hy
    by_cases hin : off ≤ i ∧ i < off + us.length ∧ i < cs.length
    · rw [if_pos hin] at hy
      obtain ⟨v, k1, k2⟩ := hr _ _ hy
      refine ⟨v, ?_, k2⟩
      rw [putC_get hfit, if_pos (by omega), ← k1]
      congr 1
      omega
    · rw [if_neg hin] at hy
      obtain ⟨v, k1, k2⟩ := h3 _ _ hy
      have := (List.getElem?_eq_some_iff.1 hy).1
      exact ⟨v, by rw [putC_get hfit, if_neg (by omega)]; exact k1, k2⟩
  have := g1.put (id := id) (cs := Sm.setc cs off us) ⟨hd, _, T, g3, by rw [setc_len, putC_size hfit]; exact h2, fun i y hy => by
      obtain ⟨v, k1, k2⟩ := hget i y hy
      exact ⟨v, k1, g2.rv _ _ k2⟩, fun o ho hlt => h4 o ho (by rw [putC_size hfit] at hlt; exact hlt)⟩ (fun j cj hj hne => s.inj j id cj cs (dropH_sub _ _ hj) hid hne) (fun _ => s.low id cs hid hwb)
  have e : putH (dropH h id) id (Sm.setc cs off us) = putH h id (Sm.setc cs off us) := by
    funext j
    unfold putH dropH
    split <;> simp_all
  rw [e] at this
  exact this

end
end Go.Proofs.YtfmbdcmjgnikiaaGreatDoor.Sm
namespace Go.Proofs.YtfmbdcmjgnikiaaGreatDoor.Sm
open Go Go.RowKit

theorem cell_eq {w w' : World} (h : w'.heap = w.heap) (a : Addr) : w'.cell? a = w.cell? a := by
  unfold World.cell?
  rw [h]
theorem WS.drew (w : World) : WS w w.drew none2 := ⟨rfl, rfl, rfl, Nat.le_refl _, fun _ _ h _ => h, fun _ c _ _ h => ⟨c, h, rfl, fun _ _ => rfl⟩⟩

theorem flat_get {sz : Nat} (hs : 0 < sz) : ∀ (xs : List SV), (∀ x ∈ xs, (cellsOf x).length = sz) → ∀ k, (flat xs)[k]? = (xs[k / sz]?).bind fun x => (cellsOf x)[k % sz]?
  | [], _, k => by simp [flat]
  | x :: xs, hx, k => by
    have hxs : (cellsOf x).length = sz := hx x List.mem_cons_self
    have e : flat (x :: xs) = cellsOf x ++ flat xs := by simp [flat]
    rw [e]
    by_cases hk : k < sz
    · rw [List.getElem?_append_left (by omega), Nat.div_eq_of_lt hk, Nat.mod_eq_of_lt hk]
      simp
    · have h1 : k / sz = (k - sz) / sz + 1 := by
        have := Nat.sub_add_cancel (Nat.le_of_not_lt hk)
        conv => lhs; rw [← this]
        rw [Nat.add_div_right _ hs]
      have h2 : k % sz = (k - sz) % sz := by
        have := Nat.sub_add_cancel (Nat.le_of_not_lt hk)
        conv => lhs; rw [← this]
        rw [Nat.add_mod_right]
      rw [List.getElem?_append_right (by omega), hxs, flat_get hs xs (fun u hu => hx u (List.mem_cons_of_mem _ hu)) (k - sz), h1, h2, List.getElem?_cons_succ]
theorem flat_len {sz : Nat} : ∀ (xs : List SV), (∀ x ∈ xs, (cellsOf x).length = sz) → (flat xs).length = xs.length * sz
  | [], _ => by simp [flat]
  | x :: xs, hx => by
    have e : flat (x :: xs) = cellsOf x ++ flat xs := by simp [flat]
    rw [e, List.length_append, hx x List.mem_cons_self, flat_len xs fun u hu => hx u (List.mem_cons_of_mem _ hu), List.length_cons, Nat.add_mul]
    omega

section
variable {P : Program} {eqTs : List (Nat × Nat)} {bs : Bs} {h : HL} {ls : Nat → Option LRec} {K : KK} {σ : Operand → Value} {ρ : Arg → SV} {q : Oper} {nx : Nat}

/-- The cells of a row that is appended or copied. -/
theorem cells_src (s : SimF P eqTs bs h ls K) {sz m : Nat} {v : Value} {y : SV} {ys : List SV} (hv : RV K v y) (he : srcOf h sz y = some (ys, m)) (h0 : sz ≠ 0) :
    ∃ (news : List Value) (A : Option Addr) (c : Nat), v = .slice A m c ∧ m ≤ c ∧ news.length = m * sz ∧ ys.length = m * sz ∧ (∀ (i : Nat) (z : SV), ys[i]? = some z → ∃ u, news[i]? = some u ∧ RV K u z) ∧
      ∀ (w : World) (n : Nat), w.heap = K.W.heap → n ≤ m → (Builtin.firstCells sz n v).run P w = .ok (news.take (n * sz)).toArray w := by
  -- a row that lies behind an address
  have row : ∀ (a : Addr) (c : Nat), v = .slice (some a) m c → ys.length = m * sz → (∀ k z, ys[k]? = some z → a.spot = none ∧ ∃ u, K.W.cell? ⟨a.block, a.off + k, none⟩ = some u ∧ RV K u z) →
      ∃ news : List Value, news.length = m * sz ∧ (∀ (i : Nat) (z : SV), ys[i]? = some z → ∃ u, news[i]? = some u ∧ RV K u z) ∧
      ∀ (w : World) (n : Nat), w.heap = K.W.heap → n ≤ m → (Builtin.firstCells sz n v).run P w = .ok (news.take (n * sz)).toArray w := fun a c hva hyl hcell => by
    refine ⟨(List.range (m * sz)).map fun k => (K.W.cell? ⟨a.block, a.off + k, none⟩).getD Go.undef, by simp, fun i z hz => ?_, fun w n hw hn => ?_⟩
    · obtain ⟨_, u, h1, h2⟩ := hcell i z hz
      have := (List.getElem?_eq_some_iff.1 hz).1
      exact ⟨u, by rw [List.getElem?_map, List.getElem?_range (by omega)]; simp [h1], h2⟩
    · have hle : n * sz ≤ m * sz := Nat.mul_le_mul_right _ hn
      have hget : ∀ j, j < n * sz → w.cell? (a.add j) = some ((K.W.cell? ⟨a.block, a.off + j, none⟩).getD Go.undef) := fun j hj => by
        obtain ⟨hsp, u, h1, h2⟩ := hcell j _ (List.getElem?_eq_getElem (by omega : j < ys.length))
        rw [cell_eq hw, add_addr _ _ (.inl hsp), h1]
        rfl
      have := run_loadCells (P := P) w a (n * sz) (fun k => (K.W.cell? ⟨a.block, a.off + k, none⟩).getD Go.undef) hget
      rw [hva]
      simp only [Builtin.firstCells]
      rw [this]
      congr 2
      rw [← List.map_take, List.take_range, Nat.min_eq_left hle]
  cases y <;> simp only [srcOf, reduceCtorEq] at he
  · rename_i xs nl tg
    split at he
    · rename_i hall
      simp only [Option.some.injEq, Prod.mk.injEq] at he
      obtain ⟨rfl, rfl⟩ := he
      have hall' : ∀ x ∈ xs, (cellsOf x).length = sz := by simpa using hall
      obtain ⟨A, cap, sz', c, hva, hcap, hnl, hA0, htg, hpl, hsz, hc, hrv⟩ := inv_tree hv
      have hlen := flat_len xs hall'
      cases A with
      | none =>
        have hcz := hA0 rfl
        have hxs : xs = [] := by cases xs <;> simp_all
        subst hxs
        exact ⟨[], none, cap, hva, hcap, by simp, hlen, by simp [flat], fun w n hw hn => by
          rw [hva]
          simp [Builtin.firstCells]⟩
      | some a =>
        obtain ⟨news, h1, h2, h3⟩ := row a cap hva hlen fun k z hz => by
          rw [flat_get (by omega) xs hall'] at hz
          obtain ⟨x, hx, hxz⟩ := Option.bind_eq_some_iff.1 hz
          obtain ⟨a', h4, h5, h6, h7⟩ := hc _ _ x z hx hxz
          cases h4
          have e1 : sz' = sz := by rw [← hsz x (List.mem_of_getElem? hx), hall' x (List.mem_of_getElem? hx)]
          subst e1
          have e2 : k / sz' * sz' + k % sz' = k := by rw [Nat.mul_comm]; exact Nat.div_add_mod k sz'
          rw [e2] at h6
          exact ⟨h5, _, h6, hrv _ _ x z hx hxz⟩
        exact ⟨news, some a, cap, hva, hcap, h1, hlen, h2, h3⟩
    · cases he
  · rename_i id off len s'
    split at he
    · rename_i hs
      subst hs
      split at he
      · rename_i cs hcs
        split at he
        · rename_i hl
          simp only [Option.some.injEq, Prod.mk.injEq] at he
          obtain ⟨rfl, rfl⟩ := he
          obtain ⟨o, cap, hva, hd, k4, k5, k6⟩ := inv_own hv
          have ho := (s.hp id cs hcs).cell
          obtain ⟨news, h1, h2, h3⟩ := row ⟨(K.β id).1, o, none⟩ cap hva hl fun k z hz => by
            have hk := (List.getElem?_eq_some_iff.1 hz).1
            rw [hl] at hk
            have hlen : 0 < len := by
              rcases Nat.eq_zero_or_pos len with e | e
              · rw [e] at hk; omega
              · exact e
            obtain rfl : o = (K.β id).2 + off := by omega
            have hz2 : cs[off + k]? = some z := by
              simpa [sub, hk, List.getElem?_take, List.getElem?_drop] using hz
            obtain ⟨u, h5, h6⟩ := ho _ _ hz2
            rw [← Nat.add_assoc] at h5
            exact ⟨rfl, u, h5, h6⟩
          exact ⟨news, _, cap, hva, k5, h1, hl, h2, h3⟩
        · cases he
      · cases he
    · cases he

theorem src_of (s : SimF P eqTs bs h ls K) {sz m : Nat} {u : TypeId} {v : Value} {y : SV} {ys : List SV} (hu : (slOf P u).isSome = true) (hv : RV K v y) (he : srcOf h sz y = some (ys, m)) (h0 : sz ≠ 0) (hone : ys.all cellB = true) :
    ∃ news, Src P sz u v m news K.W ∧ ys.length = m * sz ∧ ∀ (i : Nat) (z : SV), ys[i]? = some z → ∃ u, news[i]? = some u ∧ RV K u z := by
  obtain ⟨news, A, c, hva, hmc, h1, h2, h3, h4⟩ := cells_src (P := P) s hv he h0
  obtain ⟨e, he⟩ := Option.isSome_iff_exists.1 hu
  have ht : news.take (m * sz) = news := by rw [← h1, List.take_length]
  refine ⟨news, ⟨.inl ⟨e, slOf_und he⟩, fun w' => by rw [hva]; rfl, by rw [h4 K.W m rfl (Nat.le_refl _), ht], by rw [h4 K.W.drew m rfl (Nat.le_refl _), ht], h1, fun x hx => ?_⟩, h2, h3⟩
  obtain ⟨i, hi⟩ := List.mem_iff_getElem?.1 hx
  have hlt := (List.getElem?_eq_some_iff.1 hi).1
  obtain ⟨w, h5, h6⟩ := h3 i _ (List.getElem?_eq_getElem (by omega : i < ys.length))
  rw [hi] at h5
  cases h5
  exact cellB_one h6 (List.all_eq_true.1 hone _ (List.getElem_mem (by omega : i < ys.length)))

/-- Elements out of cells. -/
theorem els_get {sz len : Nat} {cs : List SV} (hl : cs.length = len * sz) (hp : cs.all pl1 = true) : (els sz len cs).length = len ∧ ∀ (j : Nat) (x : SV), (els sz len cs)[j]? = some x → plain x = true ∧ (cellsOf x).length = sz ∧ ∀ (i : Nat) (y : SV), (cellsOf x)[i]? = some y → cs[j * sz + i]? = some y := by
  unfold els
  by_cases h1 : sz = 1
  · subst h1
    rw [if_pos rfl]
    refine ⟨by omega, fun j x hx => ?_⟩
    have hpx := List.all_eq_true.1 hp x (List.mem_of_getElem? hx)
    have hc := pl1_cell hpx
    refine ⟨by cases x <;> simp_all [plain, pl1], by simp [hc], fun i y hy => ?_⟩
    rw [hc] at hy
    cases i with
    | zero => simp at hy; subst hy; simpa using hx
    | succ n => simp at hy
  · rw [if_neg h1]
    refine ⟨by simp, fun j x hx => ?_⟩
    rw [List.getElem?_map, Option.map_eq_some_iff] at hx
    obtain ⟨k, hk, rfl⟩ := hx
    have hj := (List.getElem?_eq_some_iff.1 hk).1
    rw [List.getElem?_range (by simpa using hj)] at hk
    cases hk
    have hj' : j < len := by simpa using hj
    have hle : j * sz + sz ≤ len * sz := by
      have : (j + 1) * sz ≤ len * sz := Nat.mul_le_mul_right _ hj'
      rw [Nat.add_mul] at this
      omega
    refine ⟨?_, by simp [cellsOf, sub]; omega, fun i y hy => ?_⟩
    · simp only [plain, List.all_eq_true]
      intro y hy
      exact List.all_eq_true.1 hp y (List.mem_of_mem_drop (List.mem_of_mem_take hy))
    · simp only [cellsOf] at hy
      have hi : i < sz := by
        have := (List.getElem?_eq_some_iff.1 hy).1
        simp [sub] at this; omega
      simpa [sub, hi, List.getElem?_take, List.getElem?_drop] using hy

theorem RV.els {b o len cap sz : Nat} {cs : List SV} (hlc : len ≤ cap) (hl : cs.length = len * sz) (hp : cs.all pl1 = true) (hc : ∀ (k : Nat) (y : SV), cs[k]? = some y → ∃ v, K.W.cell? ⟨b, o + k, none⟩ = some v ∧ ¬ K.MC b (o + k) ∧ RV K v y) :
    RV K (.slice (some ⟨b, o, none⟩) len cap) (.tree (Sm.els sz len cs) false false) := by
  obtain ⟨h1, h2⟩ := els_get hl hp
  refine .tree _ len cap sz _ false false (fun j i => (K.W.cell? ⟨b, o + (j * sz + i), none⟩).getD Go.undef) h1 hlc rfl (by simp) (by simp) (fun x hx => ?_) (fun x hx => ?_) (fun j i x y hx hy => ?_) fun j i x y hx hy => ?_
  · obtain ⟨j, hj⟩ := List.mem_iff_getElem?.1 hx
    exact (h2 j x hj).1
  · obtain ⟨j, hj⟩ := List.mem_iff_getElem?.1 hx
    exact (h2 j x hj).2.1
  · obtain ⟨v, h3, h4, h5⟩ := hc _ _ ((h2 j x hx).2.2 i y hy)
    exact ⟨_, rfl, rfl, by simp [h3], h4⟩
  · obtain ⟨v, h3, h4, h5⟩ := hc _ _ ((h2 j x hx).2.2 i y hy)
    simp only [h3, Option.getD_some]
    exact h5

/-! ### what is taken over -/
theorem take1_sound (s : SimF P eqTs bs h ls K) {v : Value} {y u : SV} {ms : Mods} (hv : RV K v y) (he : take1 bs.wb h y = some (u, ms)) :
    ∃ K', K'.W = K.W ∧ K'.dom = K.dom ∧ RV K' v u ∧ SimF P eqTs bs (appF h ms) ls K' ∧ Ext K K' := by
  have triv : ∀ {y : SV}, RV K v y → (if pl1 y then some (y, ([] : Mods)) else none) = some (u, ms) → ∃ K', K'.W = K.W ∧ K'.dom = K.dom ∧ RV K' v u ∧ SimF P eqTs bs (appF h ms) ls K' ∧ Ext K K' := fun {y} hv he => by
    split at he
    · simp only [Option.some.injEq, Prod.mk.injEq] at he
      obtain ⟨rfl, rfl⟩ := he
      exact ⟨K, rfl, rfl, hv, s, Ext.refl K⟩
    · cases he
  cases y with
  | own id off len sz =>
    simp only [take1] at he
    split at he
    · rename_i hwb
      rw [Option.map_eq_some_iff] at he
      obtain ⟨r, hr, he⟩ := he
      simp only [Prod.mk.injEq] at he
      obtain ⟨rfl, rfl⟩ := he
      unfold rowOf at hr
      split at hr
      · rename_i cs hcs
        simp only at hr
        split at hr
        · rename_i hc
          cases hr
          obtain ⟨o, cap, hva, hd, k4, k5, k6⟩ := inv_own hv
          obtain ⟨g1, g2⟩ := s.free hcs hwb
          refine ⟨K.free (K.β id).1, rfl, rfl, ?_, g1, g2⟩
          rw [hva]
          refine RV.els k5 hc.1 hc.2 fun k y hy => ?_
          have hk := (List.getElem?_eq_some_iff.1 hy).1
          rw [hc.1] at hk
          have hlen : 0 < len := by
            rcases Nat.eq_zero_or_pos len with e | e
            · rw [e] at hk; omega
            · exact e
          obtain rfl : o = (K.β id).2 + off := by omega
          have hz2 : cs[off + k]? = some y := by
            simpa [sub, hk, List.getElem?_take, List.getElem?_drop] using hy
          obtain ⟨v, h5, h6⟩ := (s.hp id cs hcs).cell _ _ hz2
          rw [← Nat.add_assoc] at h5
          exact ⟨v, h5, fun hm => hm.2 rfl, h6.free⟩
        · cases hr
      · cases hr
    · cases he
  | _ => exact triv hv he

theorem appF_app (h : HL) (a b : Mods) : appF h (a ++ b) = appF (appF h a) b := by
  induction a generalizing h with
  | nil => rfl
  | cons x a ih => obtain ⟨i, c⟩ := x; exact ih _

theorem takeL_sound : ∀ {h : HL} {K : KK} {vs : List Value} {ys us : List SV} {ms : Mods}, SimF P eqTs bs h ls K → vs.length = ys.length → (∀ (i : Nat) (y : SV), ys[i]? = some y → ∃ v, vs[i]? = some v ∧ RV K v y) → takeL bs.wb h ys = some (us, ms) →
    ∃ K', K'.W = K.W ∧ K'.dom = K.dom ∧ us.length = ys.length ∧ (∀ (i : Nat) (u : SV), us[i]? = some u → ∃ v, vs[i]? = some v ∧ RV K' v u) ∧ SimF P eqTs bs (appF h ms) ls K' ∧ Ext K K'
  | h, K, vs, [], us, ms, s, hl, hr, he => by
    simp only [takeL, Option.some.injEq, Prod.mk.injEq] at he
    obtain ⟨rfl, rfl⟩ := he
    exact ⟨K, rfl, rfl, rfl, by simp, s, Ext.refl K⟩
  | h, K, [], y :: ys, us, ms, s, hl, hr, he => by simp at hl
  | h, K, v :: vs, y :: ys, us, ms, s, hl, hr, he => by
    simp only [takeL] at he
    split at he
    · rename_i u m1 h1
      split at he
      · rename_i us' m2 h2
        simp only [Option.some.injEq, Prod.mk.injEq] at he
        obtain ⟨rfl, rfl⟩ := he
        obtain ⟨v', hv', hvy⟩ := hr 0 y (by simp)
        simp only [List.getElem?_cons_zero, Option.some.injEq] at hv'
        subst hv'
        obtain ⟨K1, e1, d1, r1, s1, x1⟩ := take1_sound s hvy h1
        obtain ⟨K2, e2, d2, l2, r2, s2, x2⟩ := takeL_sound (vs := vs) s1 (by simpa using hl) (fun i z hz => by
          obtain ⟨v', hv', hvz⟩ := hr (i + 1) z (by simpa using hz)
          exact ⟨v', by simpa using hv', x1.rv _ _ hvz⟩) h2
        refine ⟨K2, e2.trans e1, d2.trans d1, by simp [l2], fun i z hz => ?_, by rw [appF_app]; exact s2, x1.trans x2⟩
        cases i with
        | zero =>
          simp only [List.getElem?_cons_zero, Option.some.injEq] at hz
          subst hz
          exact ⟨v, by simp, x2.rv _ _ r1⟩
        | succ n =>
          simp only [List.getElem?_cons_succ] at hz ⊢
          exact r2 n z hz
      · cases he
    · cases he

theorem take2_sound (s : SimF P eqTs bs h ls K) {v : Value} {y u : SV} {ms : Mods} (hv : RV K v y) (he : take2 bs.wb h y = some (u, ms)) :
    ∃ K', K'.W = K.W ∧ K'.dom = K.dom ∧ RV K' v u ∧ SimF P eqTs bs (appF h ms) ls K' ∧ Ext K K' := by
  cases y with
  | agg cs =>
    simp only [take2, Option.map_eq_some_iff, Prod.mk.injEq] at he
    obtain ⟨⟨us, m⟩, h1, rfl, rfl⟩ := he
    obtain ⟨va, hva, c1, c2⟩ := inv_agg hv
    obtain ⟨K', e1, d1, l1, r1, s1, x1⟩ := takeL_sound (vs := va.toList) s (by simpa using c1) (fun i y hy => by
      obtain ⟨v', h2, h3⟩ := CR.get ⟨c1, c2⟩ hy
      exact ⟨v', by simpa using h2, h3⟩) h1
    refine ⟨K', e1, d1, ?_, s1, x1⟩
    rw [hva]
    have := CR.of (K := K') (vs := va) (cs := us) (by omega) fun i y hy => by
      obtain ⟨v', h2, h3⟩ := r1 i y hy
      exact ⟨v', by simpa using h2, h3⟩
    exact .agg va us this.1 this.2
  | _ => exact take1_sound s hv he

theorem take2L_sound : ∀ {h : HL} {K : KK} {vs : List Value} {ys us : List SV} {ms : Mods}, SimF P eqTs bs h ls K → vs.length = ys.length → (∀ (i : Nat) (y : SV), ys[i]? = some y → ∃ v, vs[i]? = some v ∧ RV K v y) → take2L bs.wb h ys = some (us, ms) →
    ∃ K', K'.W = K.W ∧ K'.dom = K.dom ∧ us.length = ys.length ∧ (∀ (i : Nat) (u : SV), us[i]? = some u → ∃ v, vs[i]? = some v ∧ RV K' v u) ∧ SimF P eqTs bs (appF h ms) ls K' ∧ Ext K K'
  | h, K, vs, [], us, ms, s, hl, hr, he => by
    simp only [take2L, Option.some.injEq, Prod.mk.injEq] at he
    obtain ⟨rfl, rfl⟩ := he
    exact ⟨K, rfl, rfl, rfl, by simp, s, Ext.refl K⟩
  | h, K, [], y :: ys, us, ms, s, hl, hr, he => by simp at hl
  | h, K, v :: vs, y :: ys, us, ms, s, hl, hr, he => by
    simp only [take2L] at he
    split at he
    · rename_i u m1 h1
      split at he
      · rename_i us' m2 h2
        simp only [Option.some.injEq, Prod.mk.injEq] at he
        obtain ⟨rfl, rfl⟩ := he
        obtain ⟨v', hv', hvy⟩ := hr 0 y (by simp)
        simp only [List.getElem?_cons_zero, Option.some.injEq] at hv'
        subst hv'
        obtain ⟨K1, e1, d1, r1, s1, x1⟩ := take2_sound s hvy h1
        obtain ⟨K2, e2, d2, l2, r2, s2, x2⟩ := take2L_sound (vs := vs) s1 (by simpa using hl) (fun i z hz => by
          obtain ⟨v', hv', hvz⟩ := hr (i + 1) z (by simpa using hz)
          exact ⟨v', by simpa using hv', x1.rv _ _ hvz⟩) h2
        refine ⟨K2, e2.trans e1, d2.trans d1, by simp [l2], fun i z hz => ?_, by rw [appF_app]; exact s2, x1.trans x2⟩
        cases i with
        | zero =>
          simp only [List.getElem?_cons_zero, Option.some.injEq] at hz
          subst hz
          exact ⟨v, by simp, x2.rv _ _ r1⟩
        | succ n =>
          simp only [List.getElem?_cons_succ] at hz ⊢
          exact r2 n z hz
      · cases he
    · cases he
end
end Go.Proofs.YtfmbdcmjgnikiaaGreatDoor.Sm
namespace Go.Proofs.YtfmbdcmjgnikiaaGreatDoor.Sm
open Go Go.RowKit

section
variable {P : Program} {eqTs : List (Nat × Nat)} {bs : Bs} {h : HL} {ls : Nat → Option LRec} {K : KK} {σ : Operand → Value} {ρ : Arg → SV} {q : Oper} {nx : Nat}

/-- What a changing operation does. -/
structure WO (P : Program) (eqTs : List (Nat × Nat)) (bs : Bs) (h : HL) (ls : Nat → Option LRec) (K : KK) (nx : Nat) (σ : Operand → Value) (q : Oper) (v : SV) (ms : Mods) (nx' : Nat) : Prop where
  ex : ∃ (n : Next) (val : Value) (K' : KK), (execOp σ q).run P K.W = .ok n K'.W ∧ (n = .value val ∨ (n = .skip ∧ val = Go.undef)) ∧ RV K' val v ∧ SimF P eqTs bs (appF h ms) ls K' ∧ Ext K K' ∧ ∀ i, K'.dom i → K.dom i ∨ (nx ≤ i ∧ i < nx')

theorem storeCells_run {w : World} {g o : Nat} {c : Array Value} {T : TypeId} {vs : List Value} (hc : w.heap[g]? = some (.cells c T (0, 0))) (hle : o + vs.length ≤ c.size) (h1 : ∀ v ∈ vs, v.oneCell' = true) : (storeCells ⟨g, o, none⟩ vs).run P w = .ok () (w.setRow g (putC c o vs)) := by
  have := run_storeCells_at P g o T vs 0 c w hc (by omega) h1
  simpa [putC] using this

theorem exec_append {x y : Operand} {t u : TypeId} {v : Value} {w w' : World} (hx : q.op = .call ⟨.builtin .append, #[x, y], #[t, u]⟩) (hr : (Builtin.append_ #[t, u] q.type #[σ x, σ y]).run P w = .ok v w') : (execOp σ q).run P w = .ok (.value v) w' := by
  simp [execOp, hx, resolve, invoke, builtin, Sem.run_bind, hr, Result.andThen]
theorem exec_copy {x y : Operand} {t u : TypeId} {v : Value} {w w' : World} (hx : q.op = .call ⟨.builtin .copy, #[x, y], #[t, u]⟩) (hr : (Builtin.copy_ #[t, u] q.type #[σ x, σ y]).run P w = .ok v w') : (execOp σ q).run P w = .ok (.value v) w' := by
  simp [execOp, hx, resolve, invoke, builtin, Sem.run_bind, hr, Result.andThen]

theorem append_room {w : World} {t tx ty e : TypeId} {i : TypeInfo} (ht : P.underlying t = some (.slice e)) (hi : P.info? e = some i) {b off sLen sCap n : Nat} {x : Value} {news : List Value} (hs : Src P i.size tx x n news w) (hroom : sLen + n ≤ sCap) {c : Array Value} {T : TypeId}
    (hc : w.heap[b]? = some (.cells c T (0, 0))) (hle : off + sLen * i.size + news.length ≤ c.size) :
    (Builtin.append_ #[t, tx] ty #[.slice (some ⟨b, off, none⟩) sLen sCap, x]).run P w = .ok (.slice (some ⟨b, off, none⟩) (sLen + n) sCap) (w.setRow b (putC c (off + sLen * i.size) news)) := by
  have hst := storeCells_run (P := P) hc hle hs.one
  rcases hs.kind with ⟨e', hk⟩ | hk <;> simp [Builtin.append_, run_underlying ht, run_underlying hk, sizeOf, typeInfo, hi, hs.len, hroom, hs.cells, Addr.add_lit, hst]

theorem w_store {sz : Nat} {x v : Arg} {id off : Nat} {cs : List SV} (hq : chkW P q.op (.store sz x v) = true) (hσ : ∀ x a, od x a = true → RV K (σ x) (ρ a)) (s : SimF P eqTs bs h ls K)
    (h1 : ρ x = .ptr id off) (hwb : bs.wb ≤ id) (hid : h id = some cs) (hl : (cellsOf (ρ v)).length = sz) (hle : off + sz ≤ cs.length) (hall : (cellsOf (ρ v)).all cellB = true) : WO P eqTs bs h ls K nx σ q .undef [(id, some (setc cs off (cellsOf (ρ v))))] nx := by
  obtain ⟨t, p, u, hx, ho⟩ := inv_store hq
  simp only [Bool.and_eq_true, beq_iff_eq] at ho
  obtain ⟨⟨⟨⟨h2, h3⟩, h4⟩, h5⟩, h6⟩ := ho
  have hp := hσ p x h2
  have hv := hσ u v h3
  rw [h1] at hp
  obtain ⟨hpv, hd⟩ := inv_ptr hp
  have hcr := cells_CR hv (okV_of_cells hall)
  obtain ⟨c, T, hc, hsz⟩ := (s.hp id cs hid).block
  have hone : ∀ z ∈ (σ u).cells.toList, z.oneCell' = true := fun z hz => by
    obtain ⟨i, hi⟩ := List.mem_iff_getElem?.1 hz
    have hlt := (List.getElem?_eq_some_iff.1 hi).1
    rw [Array.length_toList, hcr.1] at hlt
    obtain ⟨w, h7, h8⟩ := hcr.get (List.getElem?_eq_getElem hlt)
    rw [Array.getElem?_toList, h7] at hi
    cases hi
    exact cellB_one h8 (List.all_eq_true.1 hall _ (List.getElem_mem hlt))
  have hrun := storeCells_run (P := P) (o := (K.β id).2 + off) (vs := (σ u).cells.toList) hc (by rw [Array.length_toList, hcr.1]; omega) hone
  obtain ⟨g1, g2⟩ := s.setc (off := off) (us := cellsOf (ρ v)) (vs := (σ u).cells.toList) hid hwb hc (by simpa using hcr.1) (by omega) fun i y hy => by simpa using hcr.get hy
  refine ⟨.skip, Go.undef, _, ?_, .inr ⟨rfl, rfl⟩, .undef _, g1, g2, fun i hi => .inl hi⟩
  have hne : ¬ ((σ u).cells.size ≠ szOf P t) := by rw [hcr.1, hl, h6]; simp
  simp only [execOp, hx, hpv, Instr.storeAt, Instr.sureAddr, storeVar, Sem.run_bind, Sem.run_pure, Result.andThen_ok, size_run h4, hne, if_false, hrun]

theorem elem_facts {t : TypeId} {sz : Nat} (h : elOk P t sz = true) :
    ∃ e i z, P.underlying t = some (.slice e) ∧ P.info? e = some i ∧ i.zero = some z ∧ i.size = sz ∧ i.bytes ≤ 4096 ∧ sz ≠ 0 ∧ z.cells.size = sz := by
  unfold elOk at h
  split at h
  · rename_i e he
    simp only [Bool.and_eq_true, beq_iff_eq, decide_eq_true_eq] at h
    obtain ⟨⟨⟨⟨h1, h2⟩, h3⟩, h4⟩, h5⟩ := h
    split at h5
    · rename_i i hi
      split at h5
      · rename_i z hz
        exact ⟨e, i, z, slOf_und he, hi, hz, by simpa [szOf, hi] using h2, by simpa [byOf, hi] using h3, h4, by simpa using h5⟩
      · cases h5
    · cases h5
  · cases h

/-- A row grows into a new block. -/
theorem append_grow (s : SimF P eqTs bs h ls K) {t tx ty e : TypeId} {i : TypeInfo} {z : Value} (ht : P.underlying t = some (.slice e)) (hi : P.info? e = some i) (hz : i.zero = some z) (hzs : z.cells.size = i.size) (hby : i.bytes ≤ 4096) (h0 : i.size ≠ 0)
    {v x : Value} {sx : SV} {olds ys : List SV} {n m cap : Nat} {A : Option Addr} (hv : RV K v sx) (hva : v = .slice A n cap) (hol : srcOf h i.size sx = some (olds, n)) {news : List Value} (hs : Src P i.size tx x m news K.W) (hyl : ys.length = m * i.size) (hys : ∀ (j : Nat) (y : SV), ys[j]? = some y → ∃ u, news[j]? = some u ∧ RV K u y)
    (hg : cap < n + m) (hlim : n + m ≤ LIM) : ∃ (c : Array Value) (cap' : Nat), (Builtin.append_ #[t, tx] ty #[v, x]).run P K.W = .ok (.slice (some ⟨K.W.heap.size, 0, none⟩) (n + m) cap') (K.W.drew.alloc (.cells c e)) ∧ n + m ≤ cap' ∧ cap' * i.size ≤ c.size ∧ (olds ++ ys).length = (n + m) * i.size ∧
      ∀ (j : Nat) (y : SV), (olds ++ ys)[j]? = some y → ∃ u, c[j]? = some u ∧ RV K u y := by
  obtain ⟨os, A', c', hva', hmc, h1, h2, h3, h4⟩ := cells_src (P := P) s hv hol h0
  rw [hva] at hva'
  cases hva'
  have hfc := h4 K.W.drew n rfl (Nat.le_refl _)
  have htk : os.take (n * i.size) = os := by rw [← h1, List.take_length]
  rw [htk, hva] at hfc
  have hlim' : n + m ≤ 4294967296 := hlim
  have hge := grownCap_ge K.W (n + m) cap e
  have := run_append_grow_src (P := P) K.W t tx ty e i z ht hi hz A n cap os hfc x m news hs hg (by omega) (growslice_fits hg (by
    have : (n + m) * i.bytes ≤ 4294967296 * 4096 := Nat.mul_le_mul hlim' hby
    omega))
  rw [hva]
  have hnl : news.length = m * i.size := hs.newsLen
  refine ⟨_, _, this, hge, ?_, by rw [List.length_append, h2, hyl, Nat.add_mul], fun j y hy => ?_⟩
  · simp only [Array.size_append, List.size_toArray, List.length_append, Builtin.zeroCells, Array.size_map, Array.size_range, hzs, h1, hnl]
    rw [← Nat.add_mul, ← Nat.add_mul]
    exact Nat.mul_le_mul_right _ (by omega)
  · have hj := (List.getElem?_eq_some_iff.1 hy).1
    rw [List.length_append] at hj
    by_cases hlt : j < olds.length
    · rw [List.getElem?_append_left hlt] at hy
      obtain ⟨u, h5, h6⟩ := h3 j y hy
      exact ⟨u, by rw [Array.getElem?_append_left (by simp; omega)]; simp [List.getElem?_append_left (show j < os.length by omega), h5], h6⟩
    · rw [List.getElem?_append_right (by omega)] at hy
      obtain ⟨u, h5, h6⟩ := hys _ y hy
      refine ⟨u, ?_, h6⟩
      rw [Array.getElem?_append_left (by simp; omega)]
      rw [List.getElem?_toArray, List.getElem?_append_right (by omega), ← h5]
      congr 1
      omega

/-- The new block gets a name. -/
theorem grow_own (s : SimF P eqTs bs h ls K) (hn : ¬ K.dom nx) {c : Array Value} {T : TypeId} {cs : List SV} {len cap sz : Nat} (hlc : len ≤ cap) (hcap : cap * sz ≤ c.size) (hl : cs.length = len * sz) (hc : ∀ (i : Nat) (y : SV), cs[i]? = some y → ∃ u, c[i]? = some u ∧ RV K u y) :
    ∃ K' : KK, K'.W = K.W.drew.alloc (.cells c T) ∧ RV K' (.slice (some ⟨K.W.heap.size, 0, none⟩) len cap) (.own nx 0 len sz) ∧ SimF P eqTs bs (putH h nx cs) ls K' ∧ Ext K K' ∧ ∀ i, K'.dom i → K.dom i ∨ i = nx := by
  have hw := WS.drew K.W
  have s1 := s.ws hw
  have x1 := Ext.ws (K := K) hw
  have hle : len * sz ≤ cap * sz := Nat.mul_le_mul_right _ hlc
  obtain ⟨s2, x2⟩ := s1.push (nx := nx) hn (c := c) (T := T) (cs := cs) (by omega) fun i y hy => by
    obtain ⟨u, h1, h2⟩ := hc i y hy
    exact ⟨u, h1, x1.rv _ _ h2⟩
  refine ⟨_, rfl, ?_, s2, x1.trans x2, fun i hi => hi⟩
  have hsh := push_shape (K := { K with W := K.W.drew }) (nx := nx) (c := c) (T := T) (n := 0 + cap * sz) (by omega)
  have := RV.own (K := KK.push { K with W := K.W.drew } nx c T) nx 0 len sz 0 cap (.inr rfl) (.inr (by rw [push_β])) hlc (by rw [push_β]; exact hsh)
  rw [push_β] at this
  exact this

/-- The new block is a row of trees. -/
theorem grow_tree (s : SimF P eqTs bs h ls K) {c : Array Value} {T : TypeId} {cs : List SV} {len cap sz : Nat} (hlc : len ≤ cap) (hl : cs.length = len * sz) (hp : cs.all pl1 = true) (hc : ∀ (i : Nat) (y : SV), cs[i]? = some y → ∃ u, c[i]? = some u ∧ RV K u y) :
    ∃ K' : KK, K'.W = K.W.drew.alloc (.cells c T) ∧ RV K' (.slice (some ⟨K.W.heap.size, 0, none⟩) len cap) (.tree (els sz len cs) false false) ∧ SimF P eqTs bs h ls K' ∧ Ext K K' ∧ ∀ i, K'.dom i → K.dom i := by
  have hw : WS K.W (K.W.drew.alloc (.cells c T)) none2 := (WS.drew K.W).trans (WS.alloc _ _ _)
  refine ⟨{ K with W := K.W.drew.alloc (.cells c T) }, rfl, ?_, s.ws hw, Ext.ws hw, fun i hi => hi⟩
  refine RV.els hlc hl hp fun k y hy => ?_
  obtain ⟨u, h1, h2⟩ := hc k y hy
  refine ⟨u, ?_, fun hm => ?_, h2.ws hw⟩
  · rw [Nat.zero_add]
    have := cell_of (o := k) (heap_new K.W.drew (.cells c T))
    exact this.trans h1
  · have := s.mcb _ _ hm
    simp at this

theorem own_facts (s : SimF P eqTs bs h ls K) {v : Value} {id off len sz : Nat} {cs : List SV} (hv : RV K v (.own id off len sz)) (hid : h id = some cs) (hcl : (sub cs off (len * sz)).length = len * sz) :
    srcOf h sz (.own id off len sz) = some (sub cs off (len * sz), len) := by
  simp only [srcOf, if_true, hid, hcl]

/-- The row is written on in its own block. -/
theorem room_write (s : SimF P eqTs bs h ls K) {id : Nat} {cs : List SV} (hid : h id = some cs) (hwb : bs.wb ≤ id) {c : Array Value} {T : TypeId} (hc : K.W.heap[(K.β id).1]? = some (.cells c T (0, 0))) {off len sz m cap : Nat} {news : List Value} {ys : List SV} (hcl : (sub cs off (len * sz)).length = len * sz)
    (hnl : news.length = m * sz) (hyl : ys.length = m * sz) (hfit : (K.β id).2 + off + cap * sz ≤ c.size) (hroom : len + m ≤ cap) (hys : ∀ (j : Nat) (y : SV), ys[j]? = some y → ∃ u, news[j]? = some u ∧ RV K u y) :
    ∀ (k : Nat) (y : SV), (sub cs off (len * sz) ++ ys)[k]? = some y → ∃ u, (putC c ((K.β id).2 + off + len * sz) news)[(K.β id).2 + off + k]? = some u ∧ RV K u y := by
  intro k y hy
  obtain ⟨_, c1, T1, h1, h2, h3, h4⟩ := s.hp id cs hid
  rw [hc] at h1
  cases h1
  have hle : (len + m) * sz ≤ cap * sz := Nat.mul_le_mul_right _ hroom
  rw [Nat.add_mul] at hle
  have hf2 : (K.β id).2 + off + len * sz + news.length ≤ c.size := by omega
  rw [putC_get hf2]
  by_cases hlt : k < len * sz
  · rw [List.getElem?_append_left (by omega)] at hy
    have hz2 : cs[off + k]? = some y := by
      simpa [sub, hlt, List.getElem?_take, List.getElem?_drop] using hy
    obtain ⟨u, h5, h6⟩ := h3 _ _ hz2
    rw [if_neg (by omega)]
    rw [← Nat.add_assoc] at h5
    exact ⟨u, h5, h6⟩
  · rw [List.getElem?_append_right (by omega), hcl] at hy
    obtain ⟨u, h5, h6⟩ := hys _ _ hy
    have := (List.getElem?_eq_some_iff.1 hy).1
    rw [if_pos (by omega)]
    refine ⟨u, ?_, h6⟩
    rw [← h5]
    congr 1
    omega

theorem isRow_slice {v : Value} {y : SV} (hv : RV K v y) (hr : isRow y = true) : ∃ A len cap, v = .slice A len cap ∧ len ≤ cap := by
  cases y <;> simp only [isRow, reduceCtorEq] at hr
  · obtain ⟨A, cap, _, _, h, h2, _⟩ := inv_tree hv
    exact ⟨A, _, cap, h, h2⟩
  · obtain ⟨o, cap, h, _, _, h2, _⟩ := inv_own hv
    exact ⟨_, _, cap, h, h2⟩

/-- What the last step of an append onto an own row leaves. -/
theorem room_facts (s : SimF P eqTs bs h ls K) {id off len sz : Nat} {cs : List SV} {v : Value} (hv : RV K v (.own id off len sz)) (hid : h id = some cs) {m : Nat} (hm : m ≠ 0) :
    ∃ (o cap : Nat) (c : Array Value) (T : TypeId), v = .slice (some ⟨(K.β id).1, o, none⟩) len cap ∧ len ≤ cap ∧ (len + m ≤ cap → o = (K.β id).2 + off) ∧ K.W.heap[(K.β id).1]? = some (.cells c T (0, 0)) ∧ (K.β id).2 + cs.length ≤ c.size ∧ o + cap * sz ≤ c.size := by
  obtain ⟨o, cap, hva, hd, k4, k5, k6⟩ := inv_own hv
  obtain ⟨c, T, hc, hsz⟩ := (s.hp id cs hid).block
  obtain ⟨c1, T1, fr, g1, g2⟩ := k6
  rw [hc] at g1
  cases g1
  exact ⟨o, cap, c, T, hva, k5, fun h => by omega, hc, hsz, g2⟩

theorem w_append {sz : Nat} {x y : Arg} {v : SV} {ms : Mods} {nx' : Nat} (hq : chkW P q.op (.append sz x y) = true) (hσ : ∀ x a, od x a = true → RV K (σ x) (ρ a)) (s : SimF P eqTs bs h ls K) (hn : nx < nx' → ¬ K.dom nx)
    (he : evW bs.wb h nx ρ (.append sz x y) = some (v, ms, nx')) : WO P eqTs bs h ls K nx σ q v ms nx' := by
  obtain ⟨⟨callee, A, T⟩, hx, ho⟩ := inv_append hq
  simp only at ho
  split at ho
  · obtain ⟨p, r, t, u, rfl, rfl, hp⟩ := args22 ho
    simp only [Bool.and_eq_true] at hp
    obtain ⟨⟨⟨h1, h2⟩, h3⟩, h4⟩ := hp
    obtain ⟨e, i, z, ht, hi, hz, rfl, hby, h0, hzs⟩ := elem_facts h4
    have hp := hσ p x h1
    have hr := hσ r y h2
    simp only [evW] at he
    split at he
    · rename_i ys m hsrc
      split at he
      · rename_i hm0
        subst hm0
        split at he
        · rename_i hrow
          simp only [Option.some.injEq, Prod.mk.injEq] at he
          obtain ⟨rfl, rfl, rfl⟩ := he
          obtain ⟨A, len, cap, hva, hlc⟩ := isRow_slice hp hrow
          have hys : ys = [] := by
            obtain ⟨_, _, _, _, _, _, hl, _⟩ := cells_src (P := P) s hr hsrc h0
            exact List.eq_nil_of_length_eq_zero (by omega)
          subst hys
          obtain ⟨news, hs, _, _⟩ := src_of s h3 hr hsrc h0 rfl
          have hnn : news = [] := List.eq_nil_of_length_eq_zero (by rw [hs.newsLen]; omega)
          subst hnn
          have hrun := run_append_nothing (P := P) K.W t u q.type e i ht hi A len cap hlc (σ r) hs
          rw [← hva] at hrun
          exact ⟨_, σ p, K, exec_append hx hrun, .inl rfl, hp, s, Ext.refl K, fun i hi => .inl hi⟩
        · cases he
      · rename_i hm0
        split at he
        · cases he
        · rename_i hcb
          have hcb' : ys.all cellB = true := by simpa using hcb
          obtain ⟨news, hs, hyl, hys⟩ := src_of s h3 hr hsrc h0 hcb'
          split at he
          · rename_i xs nl hxe
            split at he
            · rename_i hc
              simp only [Option.some.injEq, Prod.mk.injEq] at he
              obtain ⟨rfl, rfl, rfl⟩ := he
              rw [hxe] at hp
              obtain ⟨A, cap, sz', cc, hva, hcap, _, _, htg, _⟩ := inv_tree hp
              have hcap' := htg rfl
              have hol : srcOf h i.size (.tree xs nl true) = some (flat xs, xs.length) := by simp only [srcOf]; rw [if_pos hc.1]
              obtain ⟨c, cap', hrun, g1, g2, g3, g4⟩ := append_grow (ty := q.type) s ht hi hz hzs hby h0 hp hva hol hs hyl hys (by omega) hc.2
              obtain ⟨K', e1, e2, e3, e4, e5⟩ := grow_own (nx := nx) (T := e) s (hn (by omega)) g1 g2 g3 g4
              exact ⟨_, _, K', by rw [e1]; exact exec_append hx hrun, .inl rfl, e2, e3, e4, fun i hi => (e5 i hi).imp id fun h => by omega⟩
            · cases he
          · rename_i id off len s' hxe
            split at he
            · rename_i hsw
              obtain ⟨rfl, hwb⟩ := hsw
              split at he
              · rename_i cs hid
                split at he
                · rename_i hc
                  simp only [Option.some.injEq, Prod.mk.injEq] at he
                  obtain ⟨rfl, rfl, rfl⟩ := he
                  have hn := hn (by omega)
                  rw [hxe] at hp
                  obtain ⟨o, cap, c, T, hva, hlc, hoo, hcc, hsz1, hsz2⟩ := room_facts s hp hid hm0
                  by_cases hroom : len + m ≤ cap
                  · obtain rfl := hoo hroom
                    have hle : (len + m) * i.size ≤ cap * i.size := Nat.mul_le_mul_right _ hroom
                    have hle' := hle
                    rw [Nat.add_mul] at hle'
                    have hnl : news.length = m * i.size := hs.newsLen
                    have hrun := append_room (ty := q.type) (off := (K.β id).2 + off) (sLen := len) ht hi hs hroom hcc (by omega)
                    rw [← hva] at hrun
                    have hfit : (K.β id).2 + off + len * i.size + news.length ≤ c.size := by omega
                    have hget := room_write s hid hwb hcc hc.1 hnl hyl hsz2 hroom hys
                    obtain ⟨w1, w2, w3⟩ := s.write hid hwb hcc (putC_size hfit) fun o ho => by rw [putC_get hfit, if_neg (by omega)]
                    obtain ⟨n1, n2⟩ := w1.name (nx := nx) hn ((K.β id).1, (K.β id).2 + off)
                    have hMC : ∀ o, (K.β id).2 ≤ o → o < c.size → K.MC (K.β id).1 o := by
                      obtain ⟨_, c1, T1, q1, _, _, q4⟩ := s.hp id cs hid
                      rw [hcc] at q1
                      cases q1
                      exact q4
                    have hnel : ∀ j cj, dropH h id j = some cj → j ≠ nx := fun j cj hj e => hn (e ▸ (s.hp j cj (dropH_sub _ _ hj)).1)
                    have hso := n1.put (id := nx) (cs := sub cs off (len * i.size) ++ ys) ⟨.inr rfl, _, T, by rw [name_β]; exact w3, by rw [name_β, putC_size hfit, List.length_append, hc.1, hyl]; simp only; omega, fun k y hy => by
                        obtain ⟨a, b1, b2⟩ := hget k y hy
                        exact ⟨a, by rw [name_β]; exact b1, n2.rv _ _ (w2.rv _ _ b2)⟩, fun o ho hlt => by
                        rw [name_β] at ho ⊢
                        rw [putC_size hfit] at hlt
                        simp only at ho ⊢
                        exact hMC o (by omega) hlt⟩ (fun j cj hj hne => by
                        have e1 := name_ne (K := { K with W := K.W.setRow (K.β id).1 (putC c ((K.β id).2 + off + len * i.size) news) }) (b := ((K.β id).1, (K.β id).2 + off)) hn (s.hp j cj (dropH_sub _ _ hj)).1
                        rw [name_β, e1]
                        exact s.inj j id cj cs (dropH_sub _ _ hj) hid (dropH_ne hj).1) (fun _ => by
                        rw [name_β]
                        exact s.low id cs hid hwb)
                    refine ⟨_, _, _, exec_append hx hrun, .inl rfl, ?_, hso, w2.trans n2, fun j hj => ?_⟩
                    · have hsh : shapeAt (K.W.setRow (K.β id).1 (putC c ((K.β id).2 + off + len * i.size) news)) (K.β id).1 ((K.β id).2 + off + cap * i.size) := ⟨_, T, _, w3, by rw [putC_size hfit]; exact hsz2⟩
                      have := RV.own (K := KK.name { K with W := K.W.setRow (K.β id).1 (putC c ((K.β id).2 + off + len * i.size) news) } nx ((K.β id).1, (K.β id).2 + off)) nx 0 (len + m) i.size ((K.β id).2 + off) cap (.inr rfl) (.inr (by rw [name_β]; rfl)) hroom (by rw [name_β]; exact hsh)
                      rw [name_β] at this
                      exact this
                    · rcases hj with hj | hj
                      · exact .inl hj
                      · exact .inr (by omega)
                  · have hol := own_facts s hp hid hc.1
                    obtain ⟨c', cap', hrun, g1, g2, g3, g4⟩ := append_grow (ty := q.type) s ht hi hz hzs hby h0 hp hva hol hs hyl hys (by omega) hc.2
                    obtain ⟨K', e1, e2, e3, e4, e5⟩ := grow_own (nx := nx) (T := e) (s.drop id) hn g1 g2 g3 g4
                    exact ⟨_, _, K', by rw [e1]; exact exec_append hx hrun, .inl rfl, e2, e3, e4, fun i hi => (e5 i hi).imp (·) fun h => by omega⟩
                · cases he
              · cases he
            · cases he
          · cases he
    · cases he
  · cases ho
end
end Go.Proofs.YtfmbdcmjgnikiaaGreatDoor.Sm
namespace Go.Proofs.YtfmbdcmjgnikiaaGreatDoor.Sm
open Go Go.RowKit

section
variable {P : Program} {eqTs : List (Nat × Nat)} {bs : Bs} {h : HL} {ls : Nat → Option LRec} {K : KK} {σ : Operand → Value} {ρ : Arg → SV} {q : Oper} {nx : Nat}

theorem w_appendT {sz : Nat} {x y : Arg} {v : SV} {ms : Mods} {nx' : Nat} (hq : chkW P q.op (.appendT sz x y) = true) (hσ : ∀ x a, od x a = true → RV K (σ x) (ρ a)) (s : SimF P eqTs bs h ls K)
    (he : evW bs.wb h nx ρ (.appendT sz x y) = some (v, ms, nx')) : WO P eqTs bs h ls K nx σ q v ms nx' := by
  obtain ⟨⟨callee, A, T⟩, hx, ho⟩ := inv_appendT hq
  simp only at ho
  split at ho
  · obtain ⟨p, r, t, u, rfl, rfl, hp⟩ := args22 ho
    simp only [Bool.and_eq_true] at hp
    obtain ⟨⟨⟨h1, h2⟩, h3⟩, h4⟩ := hp
    obtain ⟨e, i, z, ht, hi, hz, rfl, hby, h0, hzs⟩ := elem_facts h4
    have hp := hσ p x h1
    have hr := hσ r y h2
    simp only [evW] at he
    split at he
    · rename_i ys m hsrc
      split at he
      · rename_i hm0
        subst hm0
        split at he
        · rename_i xs nl tg hxe
          simp only [Option.some.injEq, Prod.mk.injEq] at he
          obtain ⟨rfl, rfl, rfl⟩ := he
          rw [hxe] at hp
          obtain ⟨A, len, cap, hva, hlc⟩ := isRow_slice hp rfl
          have hys : ys = [] := by
            obtain ⟨_, _, _, _, _, _, hl, _⟩ := cells_src (P := P) s hr hsrc h0
            exact List.eq_nil_of_length_eq_zero (by omega)
          subst hys
          obtain ⟨news, hs, _, _⟩ := src_of s h3 hr hsrc h0 rfl
          have hnn : news = [] := List.eq_nil_of_length_eq_zero (by rw [hs.newsLen]; omega)
          subst hnn
          have hrun := run_append_nothing (P := P) K.W t u q.type e i ht hi A len cap hlc (σ r) hs
          rw [← hva] at hrun
          exact ⟨_, σ p, K, exec_append hx hrun, .inl rfl, hp, s, Ext.refl K, fun i hi => .inl hi⟩
        · cases he
      · rename_i hm0
        split at he
        · cases he
        · rename_i hcb
          have hcb' : ys.all (fun v => cellB v && pl1 v) = true := by simpa using hcb
          have hcb1 : ys.all cellB = true := by
            simp only [List.all_eq_true, Bool.and_eq_true] at hcb' ⊢
            exact fun x hx => (hcb' x hx).1
          have hcb2 : ys.all pl1 = true := by
            simp only [List.all_eq_true, Bool.and_eq_true] at hcb' ⊢
            exact fun x hx => (hcb' x hx).2
          obtain ⟨news, hs, hyl, hys⟩ := src_of s h3 hr hsrc h0 hcb1
          split at he
          · rename_i xs nl hxe
            split at he
            · rename_i hc
              simp only [Option.some.injEq, Prod.mk.injEq] at he
              obtain ⟨rfl, rfl, rfl⟩ := he
              rw [hxe] at hp
              obtain ⟨A, cap, sz', cc, hva, hcap, _, _, htg, hpl, _⟩ := inv_tree hp
              have hcap' := htg rfl
              have hol : srcOf h i.size (.tree xs nl true) = some (flat xs, xs.length) := by simp only [srcOf]; rw [if_pos hc.1]
              obtain ⟨c, cap', hrun, g1, g2, g3, g4⟩ := append_grow (ty := q.type) s ht hi hz hzs hby h0 hp hva hol hs hyl hys (by omega) hc.2
              have hplf : (flat xs ++ ys).all pl1 = true := by
                rw [List.all_append, Bool.and_eq_true]
                refine ⟨?_, hcb2⟩
                simp only [flat, List.all_flatMap, List.all_eq_true]
                exact fun x hx z hz => plain_cells (hpl x hx) hz
              obtain ⟨K', e1, e2, e3, e4, e5⟩ := grow_tree (T := e) s g1 g3 hplf g4
              exact ⟨_, _, K', by rw [e1]; exact exec_append hx hrun, .inl rfl, e2, e3, e4, fun i hi => .inl (e5 i hi)⟩
            · cases he
          · rename_i id off len s' hxe
            split at he
            · rename_i hsw
              obtain ⟨rfl, hwb⟩ := hsw
              split at he
              · rename_i cs hid
                split at he
                · rename_i hc
                  simp only [Option.some.injEq, Prod.mk.injEq] at he
                  obtain ⟨rfl, rfl, rfl⟩ := he
                  rw [hxe] at hp
                  have hplf : (sub cs off (len * i.size) ++ ys).all pl1 = true := by
                    rw [List.all_append, Bool.and_eq_true]
                    exact ⟨hc.2.2, hcb2⟩
                  obtain ⟨o, cap, c, T, hva, hlc, hoo, hcc, hsz1, hsz2⟩ := room_facts s hp hid hm0
                  by_cases hroom : len + m ≤ cap
                  · obtain rfl := hoo hroom
                    have hle : (len + m) * i.size ≤ cap * i.size := Nat.mul_le_mul_right _ hroom
                    have hle' := hle
                    rw [Nat.add_mul] at hle'
                    have hnl : news.length = m * i.size := hs.newsLen
                    have hrun := append_room (ty := q.type) (off := (K.β id).2 + off) (sLen := len) ht hi hs hroom hcc (by omega)
                    rw [← hva] at hrun
                    have hfit : (K.β id).2 + off + len * i.size + news.length ≤ c.size := by omega
                    have hget := room_write s hid hwb hcc hc.1 hnl hyl hsz2 hroom hys
                    obtain ⟨w1, w2, w3⟩ := s.write hid hwb hcc (putC_size hfit) fun o ho => by rw [putC_get hfit, if_neg (by omega)]
                    have hMC : ∀ o, (K.β id).2 ≤ o → o < c.size → K.MC (K.β id).1 o := by
                      obtain ⟨_, c1, T1, q1, _, _, q4⟩ := s.hp id cs hid
                      rw [hcc] at q1
                      cases q1
                      exact q4
                    have hso := w1.put (id := id) (cs := []) ⟨(s.hp id cs hid).1, _, T, w3, by rw [putC_size hfit]; simp only [List.length_nil]; omega, by simp, fun o ho hlt => hMC o ho (by rw [putC_size hfit] at hlt; exact hlt)⟩ (fun j cj hj hne => s.inj j id cj cs (dropH_sub _ _ hj) hid (dropH_ne hj).1) (fun _ => s.low id cs hid hwb)
                    obtain ⟨f1, f2⟩ := hso.free (id := id) (cs := []) (by simp [putH]) hwb
                    have ed : dropH (putH (dropH h id) id []) id = dropH h id := by
                      funext j
                      unfold dropH putH
                      split <;> simp_all
                    rw [ed] at f1
                    refine ⟨_, _, _, exec_append hx hrun, .inl rfl, ?_, f1, w2.trans f2, fun j hj => .inl hj⟩
                    refine RV.els (K := KK.free { K with W := K.W.setRow (K.β id).1 (putC c ((K.β id).2 + off + len * i.size) news) } (K.β id).1) hroom (by rw [List.length_append, hc.1, hyl, Nat.add_mul]) hplf fun k y hy => ?_
                    obtain ⟨a, b1, b2⟩ := hget k y hy
                    refine ⟨a, ?_, fun hm => hm.2 rfl, f2.rv _ _ (w2.rv _ _ b2)⟩
                    have := cell_of (o := (K.β id).2 + off + k) w3
                    exact this.trans b1
                  · have hol := own_facts s hp hid hc.1
                    obtain ⟨c', cap', hrun, g1, g2, g3, g4⟩ := append_grow (ty := q.type) s ht hi hz hzs hby h0 hp hva hol hs hyl hys (by omega) hc.2.1
                    obtain ⟨K', e1, e2, e3, e4, e5⟩ := grow_tree (T := e) (s.drop id) g1 g3 hplf g4
                    exact ⟨_, _, K', by rw [e1]; exact exec_append hx hrun, .inl rfl, e2, e3, e4, fun i hi => .inl (e5 i hi)⟩
                · cases he
              · cases he
            · cases he
          · cases he
    · cases he
  · cases ho

theorem zeroCells_get {z : Array Value} {n k : Nat} (hk : k < n * z.size) : (Builtin.zeroCells z n)[k]? = z[k % z.size]? := by
  have hz : 0 < z.size := by
    rcases Nat.eq_zero_or_pos z.size with e | e
    · rw [e] at hk; omega
    · exact e
  have : k % z.size < z.size := Nat.mod_lt _ hz
  simp [Builtin.zeroCells, hk, this]

theorem repl_get (z : List SV) : ∀ (n k : Nat), k < n * z.length → (List.replicate n z).flatten[k]? = z[k % z.length]? := by
  intro n
  induction n with
  | zero => intro k hk; omega
  | succ n ih =>
    intro k hk
    rw [List.replicate_succ, List.flatten_cons]
    by_cases hlt : k < z.length
    · rw [List.getElem?_append_left hlt, Nat.mod_eq_of_lt hlt]
    · rw [List.getElem?_append_right (by omega), ih (k - z.length) (by rw [Nat.add_mul] at hk; omega)]
      congr 1
      conv => rhs; rw [show k = k - z.length + z.length by omega]
      rw [Nat.add_mod_right]

theorem append_zeros {w : World} {t tx ty e : TypeId} {k0 : IntKind} {i : TypeInfo} {z : Value} (ht : P.underlying t = some (.slice e)) (htx : P.underlying tx = some (.int k0)) (hi : P.info? e = some i) (hz : i.zero = some z) (hby : i.bytes ≤ 4096) (h0 : i.size ≠ 0)
    {A : Option Addr} {n m : Nat} {olds : List Value} (hold : (Builtin.firstCells i.size n (.slice A n n)).run P w.drew = .ok olds.toArray w.drew) (hm : m ≠ 0) (hlim : n + m ≤ LIM) :
    (Builtin.append_ #[t, tx] ty #[.slice A n n, .int .i64 (m : Int)]).run P w = .ok (.slice (some ⟨w.heap.size, 0, none⟩) (n + m) (grownCap w (n + m) n e)) (w.drew.alloc (.cells (olds.toArray ++ Builtin.zeroCells z.cells m ++ Builtin.zeroCells z.cells (grownCap w (n + m) n e - (n + m))) e)) := by
  have hlim' : n + m ≤ 4294967296 := hlim
  have hwr : IntKind.i64.wrap (m : Int) = m := by rw [IntKind.wrap_i64]; omega
  have n1 : ¬ ((m : Int) < 0) := by omega
  have hmb : m * i.bytes ≤ 4294967296 * 4096 := Nat.mul_le_mul (by omega) hby
  have n2 : ¬ (281474976710656 < (m : Int) * (i.bytes : Int)) := by
    rw [← Int.natCast_mul]
    omega
  have n3 : ¬ (n + m ≤ n) := by omega
  have n4 : ¬ (9223372036854775807 < ((n : Int) + (m : Int))) := by omega
  have hfit := growslice_fits (need := n + m) (old := n) (bytes := i.bytes) (by omega) (by
    have : (n + m) * i.bytes ≤ 4294967296 * 4096 := Nat.mul_le_mul hlim' hby
    omega)
  have n5 : ¬ (281474976710656 < Builtin.nextslicecap (n + m) n * i.bytes) := by omega
  have n6 : ¬ (m * i.size = 0) := by rw [Nat.mul_eq_zero]; omega
  simp [Builtin.append_, run_underlying ht, run_underlying htx, asInt, asIntOf, sizeOf, typeInfo, zeroValue, hi, hz, hwr, n1, n2, n3, n4, n5, n6, Question.forced, hold, newRow, grownCap]

theorem w_appendZ {zero : List SV} {x y : Arg} {v : SV} {ms : Mods} {nx' : Nat} (hq : chkW P q.op (.appendZ zero x y) = true) (hσ : ∀ x a, od x a = true → RV K (σ x) (ρ a)) (s : SimF P eqTs bs h ls K) (hn : nx < nx' → ¬ K.dom nx)
    (he : evW bs.wb h nx ρ (.appendZ zero x y) = some (v, ms, nx')) : WO P eqTs bs h ls K nx σ q v ms nx' := by
  obtain ⟨⟨callee, A, T⟩, hx, ho⟩ := inv_appendZ hq
  simp only at ho
  split at ho
  · obtain ⟨p, r, t, u, rfl, rfl, hp⟩ := args22 ho
    simp only [Bool.and_eq_true] at hp
    obtain ⟨⟨⟨h1, h2⟩, h3⟩, h4⟩ := hp
    have hp := hσ p x h1
    have hr := hσ r y h2
    split at h3
    · rename_i k0 hu
      split at h4
      · rename_i e hfd
        simp only [Bool.and_eq_true, beq_iff_eq, decide_eq_true_eq] at h4
        obtain ⟨⟨⟨h5, h6⟩, h7⟩, h8⟩ := h4
        have ht := slOf_und hfd
        obtain ⟨i, z, hi, hz, hcr⟩ := zeOf_run h5
        have hsz : i.size = zero.length := by simpa [szOf, hi] using h6
        have hby : i.bytes ≤ 4096 := by simpa [byOf, hi] using h7
        have hzs : z.cells.size = zero.length := (hcr K).1
        simp only [evW] at he
        split at he
        · rename_i xs nl k hxe hye
          rw [hye] at hr
          have hr := inv_int hr
          rw [hxe] at hp
          split at he
          · rename_i hc
            obtain ⟨A, cap, sz', cc, hva, hcap, _, _, htg, hpl, _⟩ := inv_tree hp
            obtain rfl := htg rfl
            split at he
            · rename_i hk0
              subst hk0
              simp only [Option.some.injEq, Prod.mk.injEq] at he
              obtain ⟨rfl, rfl, rfl⟩ := he
              have hwr : IntKind.i64.wrap 0 = 0 := by rw [IntKind.wrap_i64]; rfl
              have hrun : (Builtin.append_ #[t, u] q.type #[σ p, σ r]).run P K.W = .ok (.slice A xs.length xs.length) K.W := by
                rw [hva, hr]
                cases A <;> simp [Builtin.append_, run_underlying ht, run_underlying hu, asInt, asIntOf, sizeOf, typeInfo, hi, hwr, storeCells]
              refine ⟨_, σ p, K, exec_append hx (by rw [hrun, hva]), .inl rfl, ?_, s, Ext.refl K, fun i hi => .inl hi⟩
              rw [hxe]; exact hp
            · rename_i hk0
              simp only [Option.some.injEq, Prod.mk.injEq] at he
              obtain ⟨rfl, rfl, rfl⟩ := he
              have hall : (xs.all fun v => (cellsOf v).length == i.size) = true := by rw [hsz]; exact hc.2.2.1
              have hol : srcOf h i.size (.tree xs nl true) = some (flat xs, xs.length) := by simp only [srcOf]; rw [if_pos hall]
              obtain ⟨os, A', c', hva', hmc, g1, g2, g3, g4⟩ := cells_src (P := P) s hp hol (by omega)
              rw [hva] at hva'
              cases hva'
              have hfc := g4 K.W.drew xs.length rfl (Nat.le_refl _)
              have htk : os.take (xs.length * i.size) = os := by rw [← g1, List.take_length]
              rw [htk, hva] at hfc
              have hlim : xs.length + k.toNat ≤ LIM := by
                have := hc.2.1
                omega
              have hrun := append_zeros (ty := q.type) ht hu hi hz hby (by omega) hfc (m := k.toNat) (by omega) hlim
              have hkk : ((k.toNat : Nat) : Int) = k := by omega
              rw [hkk, ← hva, ← hr] at hrun
              have hge := grownCap_ge K.W (xs.length + k.toNat) xs.length e
              obtain ⟨K', e1, e2, e3, e4, e5⟩ := grow_own (nx := nx) (T := e) (cap := grownCap K.W (xs.length + k.toNat) xs.length e) (sz := zero.length) (len := xs.length + k.toNat) (cs := flat xs ++ (List.replicate k.toNat zero).flatten)
                (c := os.toArray ++ Builtin.zeroCells z.cells k.toNat ++ Builtin.zeroCells z.cells (grownCap K.W (xs.length + k.toNat) xs.length e - (xs.length + k.toNat))) s (hn (by omega)) hge (by
                  simp only [Array.size_append, List.size_toArray, Builtin.zeroCells, Array.size_map, Array.size_range, hzs, g1, hsz]
                  rw [← Nat.add_mul, ← Nat.add_mul]
                  exact Nat.mul_le_mul_right _ (by omega)) (by
                  rw [List.length_append, g2, hsz, Nat.add_mul]
                  simp) fun j y hy => by
                  have hj := (List.getElem?_eq_some_iff.1 hy).1
                  have hfl : (List.replicate k.toNat zero).flatten.length = k.toNat * zero.length := by simp
                  have hzc : (Builtin.zeroCells z.cells k.toNat).size = k.toNat * zero.length := by simp [Builtin.zeroCells, hzs]
                  rw [List.length_append, hfl] at hj
                  by_cases hlt : j < (flat xs).length
                  · rw [List.getElem?_append_left hlt] at hy
                    obtain ⟨u, b1, b2⟩ := g3 j y hy
                    refine ⟨u, ?_, b2⟩
                    rw [Array.getElem?_append_left (by simp; omega), Array.getElem?_append_left (by simp; omega)]
                    simpa using b1
                  · rw [List.getElem?_append_right (by omega), repl_get zero _ _ (by omega)] at hy
                    obtain ⟨u, b1, b2⟩ := (hcr K).get hy
                    refine ⟨u, ?_, b2⟩
                    rw [Array.getElem?_append_left (by simp [hzc]; omega), Array.getElem?_append_right (by simp; omega), zeroCells_get (by rw [hzs]; simp; omega), hzs]
                    rw [← b1]
                    simp only [List.size_toArray, g1, g2]
              exact ⟨_, _, K', by rw [e1]; exact exec_append hx hrun, .inl rfl, e2, e3, e4, fun i hi => (e5 i hi).imp id fun h => by omega⟩
          · cases he
        · cases he
      · cases h4
    · cases h3
  · cases ho

theorem w_copy {sz : Nat} {x y : Arg} {v : SV} {ms : Mods} {nx' : Nat} (hq : chkW P q.op (.copy sz x y) = true) (hσ : ∀ x a, od x a = true → RV K (σ x) (ρ a)) (s : SimF P eqTs bs h ls K)
    (he : evW bs.wb h nx ρ (.copy sz x y) = some (v, ms, nx')) : WO P eqTs bs h ls K nx σ q v ms nx' := by
  obtain ⟨⟨callee, A, T⟩, hx, ho⟩ := inv_copy hq
  simp only at ho
  split at ho
  · obtain ⟨p, r, t, u, rfl, rfl, hp⟩ := args22 ho
    simp only [Bool.and_eq_true, decide_eq_true_eq] at hp
    obtain ⟨⟨⟨h1, h2⟩, h0⟩, h4⟩ := hp
    have hp := hσ p x h1
    have hr := hσ r y h2
    split at h4
    · rename_i e hfd
      simp only [Bool.and_eq_true, beq_iff_eq] at h4
      have ht := slOf_und hfd
      simp only [evW] at he
      split at he
      · rename_i ys m hsrc
        split at he
        · rename_i id off len s' hxe
          split at he
          · rename_i hsw
            obtain ⟨rfl, hwb⟩ := hsw
            split at he
            · rename_i cs hid
              split at he
              · rename_i hc
                simp only [Option.some.injEq, Prod.mk.injEq] at he
                obtain ⟨rfl, rfl, rfl⟩ := he
                rw [hxe] at hp
                obtain ⟨o, cap, hva, hd, k4, k5, k6⟩ := inv_own hp
                obtain ⟨c, T, hcc, hsz⟩ := (s.hp id cs hid).block
                obtain ⟨news, A, c', hvr, hmc, g1, g2, g3, g4⟩ := cells_src (P := P) s hr hsrc h0
                have hml : min m len * s' ≤ m * s' := Nat.mul_le_mul_right _ (Nat.min_le_left _ _)
                have hll : min m len * s' ≤ len * s' := Nat.mul_le_mul_right _ (Nat.min_le_right _ _)
                have hfc := g4 K.W (min m len) rfl (Nat.min_le_left _ _)
                have htl : (news.take (min m len * s')).length = min m len * s' := by rw [List.length_take]; omega
                have htl2 : (ys.take (min m len * s')).length = min m len * s' := by rw [List.length_take]; omega
                have hrel : ∀ (i : Nat) (z : SV), (ys.take (min m len * s'))[i]? = some z → ∃ u, (news.take (min m len * s'))[i]? = some u ∧ RV K u z := fun i z hz => by
                  have hi := (List.getElem?_eq_some_iff.1 hz).1
                  rw [htl2] at hi
                  rw [List.getElem?_take, if_pos hi] at hz ⊢
                  exact g3 i z hz
                have hone : ∀ z ∈ news.take (min m len * s'), z.oneCell' = true := fun z hz => by
                  obtain ⟨i, hi⟩ := List.mem_iff_getElem?.1 hz
                  have hlt := (List.getElem?_eq_some_iff.1 hi).1
                  rw [htl] at hlt
                  obtain ⟨w, h7, h8⟩ := hrel i _ (List.getElem?_eq_getElem (by rw [htl2]; exact hlt))
                  rw [hi] at h7
                  cases h7
                  refine cellB_one h8 (List.all_eq_true.1 hc.2 _ ?_)
                  exact List.mem_of_mem_take (List.getElem_mem (by rw [htl2]; exact hlt))
                have run : ∀ W', (storeCells ⟨(K.β id).1, o, none⟩ (news.take (min m len * s'))).run P K.W = .ok () W' → (Builtin.copy_ #[t, u] q.type #[σ p, σ r]).run P K.W = .ok (.int .i64 (min m len : Nat)) W' := fun W' hst => by
                  rw [hva, hvr]
                  rw [hvr] at hfc
                  simp [Builtin.copy_, run_underlying ht, Builtin.lenOf, size_run h4.1, h4.2, Sem.run_bind, hst, goInt]
                  have e1 : Nat.min m len = min m len := rfl
                  rw [e1, hfc]
                  simp [hst, Sem.run_bind]
                by_cases hz0 : min m len = 0
                · have e0 : news.take (min m len * s') = [] := by rw [hz0]; simp
                  have e1 : ys.take (min m len * s') = [] := by rw [hz0]; simp
                  have hrun := run K.W (by rw [e0]; rfl)
                  have hh : appF h [(id, some (setc cs off (ys.take (min m len * s'))))] = h := by
                    rw [e1]
                    funext j
                    simp only [appF, setc]
                    split
                    · rename_i hj; rw [hj, hid]
                    · rfl
                  exact ⟨_, _, K, exec_copy hx hrun, .inl rfl, .int _ _, by rw [hh]; exact s, Ext.refl K, fun i hi => .inl hi⟩
                · have hcap : cap ≠ 0 := by omega
                  obtain rfl : o = (K.β id).2 + off := by omega
                  have hst := storeCells_run (P := P) (o := (K.β id).2 + off) (vs := news.take (min m len * s')) hcc (by omega) hone
                  have hrun := run _ hst
                  obtain ⟨f1, f2⟩ := s.setc (off := off) (us := ys.take (min m len * s')) (vs := news.take (min m len * s')) hid hwb hcc (by omega) (by omega) hrel
                  exact ⟨_, _, _, exec_copy hx hrun, .inl rfl, .int _ _, f1, f2, fun i hi => .inl hi⟩
              · cases he
            · cases he
          · cases he
        · cases he
      · cases he
    · cases h4
  · cases ho

theorem w_bslice {sz : Nat} {as : List Arg} {v : SV} {ms : Mods} {nx' : Nat} (hq : chkW P q.op (.bslice sz as) = true) (hσ : ∀ x a, od x a = true → RV K (σ x) (ρ a)) (s : SimF P eqTs bs h ls K)
    (he : evW bs.wb h nx ρ (.bslice sz as) = some (v, ms, nx')) : WO P eqTs bs h ls K nx σ q v ms nx' := by
  obtain ⟨t, n, ps, hx, ho⟩ := inv_bsliceW hq
  simp only [Bool.and_eq_true, beq_iff_eq] at ho
  obtain ⟨⟨rfl, h2⟩, h3⟩ := ho
  obtain ⟨xs, hxs, hps⟩ := partsS_rel h2
  simp only [evW] at he
  split at he
  · rename_i us m htk
    split at he
    · rename_i hel
      simp only [Option.some.injEq, Prod.mk.injEq] at he
      obtain ⟨rfl, rfl, rfl⟩ := he
      have hxl := (odL_rel hxs).1
      obtain ⟨K1, e1, d1, l1, r1, s1, x1⟩ := take2L_sound (vs := xs.map σ) s (by simp [hxl]) (odL_get hxs hσ) htk
      have hlen : us.length = as.length := by simpa using l1
      obtain ⟨val, W', g1, g2, g3⟩ := bslice_core (σ := σ) s1 hx (by rw [hlen]) hps (by rw [hxl, hlen]) h3 r1 hel
      rw [e1] at g1
      exact ⟨_, val, { K1 with W := W' }, g1, .inl rfl, g3, s1.ws g2, x1.trans (Ext.ws g2), fun i hi => .inl (by
        have : K1.dom i := hi
        rw [d1] at this
        exact this)⟩
    · cases he
  · cases he

theorem w_frz {x : Arg} {v : SV} {ms : Mods} {nx' : Nat} (hq : chkW P q.op (.frz x) = true) (hσ : ∀ x a, od x a = true → RV K (σ x) (ρ a)) (s : SimF P eqTs bs h ls K)
    (he : evW bs.wb h nx ρ (.frz x) = some (v, ms, nx')) : WO P eqTs bs h ls K nx σ q v ms nx' := by
  simp only [evW] at he
  split at he
  · rename_i u m htk
    simp only [Option.some.injEq, Prod.mk.injEq] at he
    obtain ⟨rfl, rfl, rfl⟩ := he
    have main : ∀ y, od y x = true → (∀ w, (execOp σ q).run P w = .ok (.value (σ y)) w) → WO P eqTs bs h ls K nx σ q u m nx := fun y hy hrun => by
      obtain ⟨K1, e1, d1, l1, r1, s1, x1⟩ := take2L_sound (vs := [σ y]) s (by simp) (fun i v hv => by
        cases i with
        | zero => cases hv; exact ⟨σ y, rfl, hσ y x hy⟩
        | succ i => simp at hv) htk
      obtain ⟨w, hw1, hw2⟩ := r1 0 u rfl
      cases hw1
      exact ⟨_, σ y, K1, by rw [e1]; exact hrun K.W, .inl rfl, hw2, s1, x1, fun i hi => .inl (by rw [d1] at hi; exact hi)⟩
    rcases inv_frz hq with ⟨y, hx, hy⟩ | ⟨y, hx, hy⟩
    · exact main y hy fun w => by simp [execOp, hx]
    · exact main y hy fun w => by simp [execOp, hx]
  · cases he

theorem w_bfrz {z : List SV} {ps : List (Nat × Nat × Arg)} {v : SV} {ms : Mods} {nx' : Nat} (hq : chkW P q.op (.bfrz z ps) = true) (hσ : ∀ x a, od x a = true → RV K (σ x) (ρ a)) (s : SimF P eqTs bs h ls K)
    (he : evW bs.wb h nx ρ (.bfrz z ps) = some (v, ms, nx')) : WO P eqTs bs h ls K nx σ q v ms nx' := by
  simp only [evW] at he
  split at he
  · rename_i cs hb
    split at he
    · rename_i u m htk
      simp only [Option.some.injEq, Prod.mk.injEq] at he
      obtain ⟨rfl, rfl, rfl⟩ := he
      obtain ⟨val, W', g1, g2, g3⟩ := r_build (eqTs := eqTs) (inv_bfrz hq) hσ hb
      obtain ⟨K1, e1, d1, l1, r1, s1, x1⟩ := take2L_sound (vs := [val]) (s.ws g2) (by simp) (fun i y hy => by
        cases i with
        | zero => cases hy; exact ⟨val, rfl, g3⟩
        | succ i => simp at hy) htk
      obtain ⟨w, hw1, hw2⟩ := r1 0 u rfl
      cases hw1
      exact ⟨_, val, K1, by rw [e1]; exact g1, .inl rfl, hw2, s1, (Ext.ws g2).trans x1, fun i hi => .inl (by rw [d1] at hi; exact hi)⟩
    · cases he
  · cases he

theorem evW_sound {o : WOp} (hq : chkW P q.op o = true) (hσ : ∀ x a, od x a = true → RV K (σ x) (ρ a)) (s : SimF P eqTs bs h ls K) {v : SV} {ms : Mods} {nx' : Nat} (hn : nx < nx' → ¬ K.dom nx) (he : evW bs.wb h nx ρ o = some (v, ms, nx')) : WO P eqTs bs h ls K nx σ q v ms nx' := by
  cases o with
  | store sz x y =>
    simp only [evW] at he
    split at he
    · split at he
      · split at he
        · split at he
          · rename_i hx hwb _ cs hid hc
            simp only [Option.some.injEq, Prod.mk.injEq] at he
            obtain ⟨rfl, rfl, rfl⟩ := he
            exact w_store hq hσ s hx hwb hid hc.1 hc.2.1 hc.2.2
          · cases he
        · cases he
      · cases he
    · cases he
  | append sz x y => exact w_append hq hσ s hn he
  | appendT sz x y => exact w_appendT hq hσ s he
  | appendZ z x y => exact w_appendZ hq hσ s hn he
  | copy sz x y => exact w_copy hq hσ s he
  | bslice sz as => exact w_bslice hq hσ s he
  | frz x => exact w_frz hq hσ s he
  | bfrz z ps => exact w_bfrz hq hσ s he
end
end Go.Proofs.YtfmbdcmjgnikiaaGreatDoor.Sm
