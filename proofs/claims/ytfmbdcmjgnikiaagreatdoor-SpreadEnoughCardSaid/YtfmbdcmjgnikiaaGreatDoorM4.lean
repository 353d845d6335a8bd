/- Order-open regions do what the interpreter does in the order told. Conditions: the check. An instruction in another environment that agrees on what it uses. Conditions: none. Order-open regions. Conditions: the check; the program's regions follow mixed orders. Order-open regions do what the interpreter does. Conditions: the check; the program's regions follow mixed orders. Order-open regions do what the interpreter does; all fuels. Conditions: the check; the program's regions follow mixed orders. A calculus over the interpreter: what a code leads to, as equivalences. Conditions: none. Words for a walk through small code. Conditions: none. What is handed in, as trees. Conditions: none. From a law of the small code to what a row asks. Conditions: none. -/
import Derived.Test.YtfmbdcmjgnikiaaGreatDoorM3
import Derived.OrdersIn
import Derived.IntWalk
import Derived.Deep.Slices
import Derived.SizedLaws
import Derived.Carry
import Derived.RowKit
import Derived.OpenShut
set_option linter.unusedSimpArgs false
set_option linter.unusedVariables false
namespace Go.Proofs.YtfmbdcmjgnikiaaGreatDoor.Sm
open Go Go.RowKit

/-- The small heap behind those that have been done, laid in the order told. -/
def hk (s : Nat → St) (fp : Nat → FP) (L : Nat → Bool) (h0 : HL) : Nat → HL
  | 0 => h0
  | k + 1 => if L k then ovr (fp k) (s (k + 1)) (hk s fp L h0 k) else hk s fp L h0 k
def lk (s : Nat → St) (fp : Nat → FP) (L : Nat → Bool) (l0 : Nat → Option LRec) : Nat → Nat → Option LRec
  | 0 => l0
  | k + 1 => if L k then ovl (fp k) (s (k + 1)) (lk s fp L l0 k) else lk s fp L l0 k

section
variable {s : Nat → St} {fp : Nat → FP} {L : Nat → Bool} {h0 : HL} {l0 : Nat → Option LRec} {n : Nat}

theorem hk_in {i : Nat} (e0 : h0 = look (s 0).heap) (hf : ∀ q, q < n → wr (fp q) i = false → look (s (q + 1)).heap i = look (s q).heap i) : ∀ k, k ≤ n → (∀ q, q < k → L q = false → wr (fp q) i = false) → hk s fp L h0 k i = look (s k).heap i
  | 0, _, _ => by rw [hk, e0]
  | k + 1, hk1, hq => by
    have ih := hk_in e0 hf k (by omega) fun q h => hq q (by omega)
    rw [hk]
    cases hL : L k with
    | false =>
      simp only [if_false, Bool.false_eq_true]
      rw [ih, hf k (by omega) (hq k (by omega) hL)]
    | true =>
      simp only [if_true, ovr]
      split
      · rfl
      · rename_i hw
        rw [ih, hf k (by omega) (by simpa using hw)]
theorem hk_after {i p : Nat} : ∀ k, p ≤ k → (∀ q, p ≤ q → q < k → L q = true → wr (fp q) i = false) → hk s fp L h0 k i = hk s fp L h0 p i
  | 0, h1, _ => by
    obtain rfl : p = 0 := by omega
    rfl
  | k + 1, h1, hq => by
    by_cases hp : p = k + 1
    · subst hp; rfl
    · rw [hk]
      have ih := hk_after (i := i) (p := p) k (by omega) fun q a b => hq q a (by omega)
      cases hL : L k with
      | false => simpa using ih
      | true =>
        simp only [if_true, ovr, hq k (by omega) (by omega) hL, Bool.false_eq_true, if_false]
        exact ih

def setL (L : Nat → Bool) (p : Nat) : Nat → Bool := fun q => if q = p then true else L q
theorem setL_ne {p q : Nat} (h : q ≠ p) : setL L p q = L q := by simp [setL, h]
theorem setL_eq {p : Nat} : setL L p p = true := by simp [setL]

theorem hk_same {i p : Nat} (hw : wr (fp p) i = false) : ∀ k, hk s fp (setL L p) h0 k i = hk s fp L h0 k i
  | 0 => rfl
  | k + 1 => by
    have ih := hk_same (i := i) hw k
    rw [hk, hk]
    by_cases hk1 : k = p
    · subst hk1
      rw [setL_eq]
      simp only [if_true, ovr, hw, Bool.false_eq_true, if_false]
      cases hL : L k with
      | false => simpa using ih
      | true => simp only [if_true, ovr, hw, Bool.false_eq_true, if_false]; exact ih
    · rw [setL_ne hk1]
      cases hL : L k with
      | false => simpa using ih
      | true => simp only [if_true, ovr, ih]

theorem hk_set {p : Nat} (hp : p < n) (hLp : L p = false) (hq : ∀ i, wr (fp p) i = true → ∀ q, p < q → q < n → L q = true → wr (fp q) i = false) : hk s fp (setL L p) h0 n = ovr (fp p) (s (p + 1)) (hk s fp L h0 n) := by
  funext i
  simp only [ovr]
  cases hw : wr (fp p) i with
  | false => simp only [Bool.false_eq_true, if_false]; exact hk_same hw n
  | true =>
    simp only [if_true]
    rw [hk_after (p := p + 1) n (by omega) fun q a b c => hq i hw q (by omega) b (by rwa [setL_ne (by omega)] at c)]
    rw [hk, setL_eq]
    simp only [if_true, ovr, hw]

theorem lk_in (e0 : l0 = look (s 0).loops) (hf : ∀ q, q < n → ovl (fp q) (s (q + 1)) (look (s q).loops) = look (s (q + 1)).loops) : ∀ k, k ≤ n → (∀ q, q < k → L q = false → fp q ≠ .all) → lk s fp L l0 k = look (s k).loops
  | 0, _, _ => by rw [lk, e0]
  | k + 1, hk1, hq => by
    have ih := lk_in e0 hf k (by omega) fun q h => hq q (by omega)
    have hfk := hf k (by omega)
    rw [lk]
    cases hL : L k with
    | false =>
      simp only [if_false, Bool.false_eq_true]
      rw [ih, ← hfk]
      have := hq k (by omega) hL
      cases hfp : fp k with
      | all => exact absurd hfp this
      | _ => rfl
    | true => simp only [if_true]; rw [ih, hfk]
theorem lk_after {p : Nat} : ∀ k, p ≤ k → (∀ q, p ≤ q → q < k → L q = true → fp q ≠ .all) → lk s fp L l0 k = lk s fp L l0 p
  | 0, h1, _ => by
    obtain rfl : p = 0 := by omega
    rfl
  | k + 1, h1, hq => by
    by_cases hp : p = k + 1
    · subst hp; rfl
    · rw [lk]
      have ih := lk_after (p := p) k (by omega) fun q a b => hq q a (by omega)
      cases hL : L k with
      | false => simpa using ih
      | true =>
        simp only [if_true]
        have := hq k (by omega) (by omega) hL
        cases hfp : fp k with
        | all => exact absurd hfp this
        | _ => exact ih
theorem lk_same {p : Nat} (hw : fp p ≠ .all) : ∀ k, lk s fp (setL L p) l0 k = lk s fp L l0 k
  | 0 => rfl
  | k + 1 => by
    have ih := lk_same hw k
    rw [lk, lk]
    by_cases hk1 : k = p
    · subst hk1
      rw [setL_eq]
      simp only [if_true]
      have e : ∀ x, ovl (fp k) (s (k + 1)) x = x := fun x => by
        cases hfp : fp k with
        | all => exact absurd hfp hw
        | _ => rfl
      cases hL : L k with
      | false => simp only [Bool.false_eq_true, if_false]; rw [e]; exact ih
      | true => simp only [if_true]; rw [e, e]; exact ih
    · rw [setL_ne hk1]
      cases hL : L k with
      | false => simpa using ih
      | true => simp only [if_true, ih]
theorem lk_set {p : Nat} (hp : p < n) (hLp : L p = false) (hq : fp p = .all → ∀ q, p < q → q < n → L q = true → fp q ≠ .all) : lk s fp (setL L p) l0 n = ovl (fp p) (s (p + 1)) (lk s fp L l0 n) := by
  by_cases hw : fp p = .all
  · rw [lk_after (p := p + 1) n (by omega) fun q a b c => hq hw q (by omega) b (by rwa [setL_ne (by omega)] at c)]
    rw [lk, setL_eq]
    simp only [if_true, hw, ovl]
  · rw [lk_same hw n]
    cases hfp : fp p with
    | all => exact absurd hfp hw
    | _ => rfl
end
end Go.Proofs.YtfmbdcmjgnikiaaGreatDoor.Sm
namespace Go.Proofs.YtfmbdcmjgnikiaaGreatDoor.Sm
open Go Go.RowKit

theorem rdR_agree {ρ ρ' : Arg → SV} {o : ROp} (h : ∀ a ∈ argsR o, ρ a = ρ' a) : rdR ρ o = rdR ρ' o := by
  cases o with
  | load _ _ x => simp only [rdR, h x (by simp [argsR])]
  | sliceA _ _ x => simp only [rdR, h x (by simp [argsR])]
  | _ => rfl
theorem flatMap_agree {ρ ρ' : Arg → SV} {as : List Arg} (h : ∀ a ∈ as, ρ a = ρ' a) : (as.flatMap fun a => ownC (ρ a)) = as.flatMap fun a => ownC (ρ' a) := by
  induction as with
  | nil => rfl
  | cons a as ih =>
    rw [List.flatMap_cons, List.flatMap_cons, h a List.mem_cons_self, ih fun b hb => h b (List.mem_cons_of_mem _ hb)]
theorem rdW_agree {ρ ρ' : Arg → SV} {o : WOp} (h : ∀ a ∈ argsO (.w o), ρ a = ρ' a) : rdW ρ o = rdW ρ' o := by
  cases o with
  | bslice sz ps => simp only [rdW, flatMap_agree (ρ := ρ) (ρ' := ρ') (as := ps) h]
  | frz x => simp only [rdW, flatMap_agree (ρ := ρ) (ρ' := ρ') (as := [x]) h]
  | bfrz z ps =>
    have h1 := buildC_agree (ρ := ρ) (ρ' := ρ') (cs := z) (ps := ps) h
    simp only [rdW, h1]
  | store _ x y | append _ x y | appendT _ x y | appendZ _ x y | copy _ x y =>
    have h1 := h x (by simp [argsO])
    have h2 := h y (by simp [argsO])
    simp only [rdW, h1, h2]
theorem fpO_agree {ρ ρ' : Arg → SV} {lo hi : Nat} {op : MOp} (h : ∀ a ∈ argsO op, ρ a = ρ' a) : fpO ρ lo hi op = fpO ρ' lo hi op := by
  cases op with
  | r o => simp only [fpO, rdR_agree (ρ := ρ) (ρ' := ρ') (o := o) h]
  | w o => simp only [fpO, rdW_agree (ρ := ρ) (ρ' := ρ') (o := o) h]
  | call m f as =>
    have h1 := h f (by simp [argsO])
    have h2 := map_agree (ρ := ρ) (ρ' := ρ') (as := as) fun a ha => h a (by simp [argsO, ha])
    cases m <;> simp only [fpO, h1, h2]

/-- The environment behind an instruction. -/
def envAfter (i : Ins) (st1 : St) (e : Env) : Env := match i.dst with
  | some d => (d, getE st1.env d) :: e
  | none => e

theorem guardB_env {e e' : Env} {g : Option (Nat × Bool)} (h : ∀ t b, g = some (t, b) → getE e t = getE e' t) : guardB e g = guardB e' g := by
  cases g with
  | none => rfl
  | some p =>
    obtain ⟨t, b⟩ := p
    simp only [guardB, h t b rfl]

theorem evIns_env {rec : Rec} {X : Cx} (hr : RecOk rec) {i : Ins} {st st1 : St} {e : Env} (hu : ∀ t ∈ usesI i, getE st.env t = getE e t) (he : evIns rec X i st = some st1) :
    evIns rec X i { st with env := e } = some { st1 with env := envAfter i st1 e } ∧ fpI X i { st with env := e } { st1 with env := envAfter i st1 e } = fpI X i st st1 ∧ ∀ t, (i.dst ≠ some t → getE st1.env t = getE st.env t) ∧ (i.dst = some t → getE (envAfter i st1 e) t = getE st1.env t) ∧ (i.dst ≠ some t → getE (envAfter i st1 e) t = getE e t) := by
  have hargs : ∀ a ∈ argsO i.op, argV X st.env a = argV X e a := fun a ha => argV_env fun t ht => hu t (by
    simp only [usesI, List.mem_append, List.mem_flatMap]
    exact .inl ⟨a, ha, ht⟩)
  have hg : guardB e i.g = guardB st.env i.g := (guardB_env fun t b hgt => hu t (by
    simp only [usesI, List.mem_append]
    refine .inr ?_
    rw [hgt]; simp)).symm
  have hfp : ∀ lo hi, fpO (argV X e) lo hi i.op = fpO (argV X st.env) lo hi i.op := fun lo hi => (fpO_agree hargs).symm
  have hlast : ∀ (st1' : St) (v : SV), st1'.env = st.env → ∀ t, (i.dst ≠ some t → getE (putE st1' i.dst v).env t = getE st.env t) ∧ (i.dst = some t → getE (envAfter i (putE st1' i.dst v) e) t = getE (putE st1' i.dst v).env t) ∧ (i.dst ≠ some t → getE (envAfter i (putE st1' i.dst v) e) t = getE e t) := fun st1' v hs t => by
    unfold envAfter putE
    cases hd : i.dst with
    | none => simp [hs]
    | some d =>
      simp only [getE, Option.some.injEq, if_true]
      refine ⟨fun hne => by rw [if_neg (fun e => hne (by rw [e])), hs], fun heq => by subst heq; simp, fun hne => by rw [if_neg (fun e => hne (by rw [e]))]⟩
  have heq : ∀ (st1' : St) (v : SV), putE { st1' with env := e } i.dst v = { putE st1' i.dst v with env := envAfter i (putE st1' i.dst v) e } := fun st1' v => by
    unfold envAfter putE
    cases hd : i.dst with
    | none => rfl
    | some d => simp [getE]
  unfold evIns at he ⊢
  simp only [hg]
  split at he
  · rename_i hgu
    split at he
    · rename_i v st1' hop
      cases he
      have hok := evOp_ok hr hop
      have hop' := evOp_env hr hargs hop
      refine ⟨?_, ?_, hlast st1' v hok.2.2⟩
      · simp only [hgu, hop', heq]
      · unfold fpI
        simp only [hg, hgu, hfp]
    · cases he
  · rename_i hgu
    cases he
    refine ⟨?_, ?_, hlast st (.tup []) rfl⟩
    · simp only [hgu, heq]
    · unfold fpI
      simp only [hg, hgu]
  · cases he

theorem evOp_ro {rec : Rec} {X : Cx} {m : MOp} {st st' : St} {v : SV} (he : evOp rec X m st = some (v, st')) (hf : fpO (argV X st.env) st.nx st'.nx m = .ro) : st' = st := by
  cases m with
  | r o => cases hf
  | w o => cases hf
  | call m f as =>
    cases m with
    | rw => cases hf
    | new =>
      simp only [fpO] at hf
      split at hf <;> cases hf
    | ro =>
      simp only [evOp, callV] at he
      split at he
      · simp only [callF] at he
        split at he
        · cases he
        · split at he
          · split at he
            · split at he
              · cases he; rfl
              · cases he
            · cases he
          · split at he
            · split at he
              · cases he; rfl
              · cases he
            · cases he
      · simp at he
      · cases he

theorem fpI_range {rec : Rec} {X : Cx} {i : Ins} {st st1 : St} (he : evIns rec X i st = some st1) : (∀ r w lo hi, fpI X i st st1 = .rd r w lo hi → lo = st.nx ∧ hi = st1.nx) ∧ (fpI X i st st1 = .ro → st1.nx = st.nx) := by
  have key : ∀ ρ lo hi m r w lo' hi', fpO ρ lo hi m = .rd r w lo' hi' → lo' = lo ∧ hi' = hi := fun ρ lo hi m r w lo' hi' h => by
    cases m with
    | r o => cases h; exact ⟨rfl, rfl⟩
    | w o => cases h; exact ⟨rfl, rfl⟩
    | call m f as =>
      cases m with
      | rw => cases h
      | new =>
        simp only [fpO] at h
        split at h
        · cases h; exact ⟨rfl, rfl⟩
        · cases h
      | ro =>
        simp only [fpO] at h
        split at h
        · split at h
          · cases h; exact ⟨rfl, rfl⟩
          · cases h
        · cases h
  unfold evIns at he
  split at he
  · rename_i hgu
    split at he
    · rename_i v st1' hop
      cases he
      unfold fpI
      rw [hgu]
      refine ⟨fun r w lo hi h => key _ _ _ _ _ _ _ _ h, fun h => ?_⟩
      simp only [putE_nx.1] at h ⊢
      rw [evOp_ro hop h]
    · cases he
  · rename_i hgu
    cases he
    unfold fpI
    rw [hgu]
    exact ⟨fun r w lo hi h => by cases h; exact ⟨rfl, rfl⟩, fun h => by cases h⟩
  · cases he
end Go.Proofs.YtfmbdcmjgnikiaaGreatDoor.Sm
namespace Go.Proofs.YtfmbdcmjgnikiaaGreatDoor.Sm
open Go Go.RowKit

theorem chkOps_get {P : Program} {eqTs : List (Nat × Nat)} {N : Nat} {ops : Array Oper} : ∀ {os : List Oper} {is : List Ins}, chkOps P eqTs N ops os is = true → ∀ (p : Nat) (o : Oper), os[p]? = some o → ∃ i, is[p]? = some i ∧ chkIns P eqTs N ops o i = true
  | [], [], _, p, o, h => by simp at h
  | o' :: os, i :: is, hc, p, o, h => by
    simp only [chkOps, Bool.and_eq_true] at hc
    cases p with
    | zero =>
      simp only [List.getElem?_cons_zero, Option.some.injEq] at h
      subst h
      exact ⟨i, by simp, hc.1⟩
    | succ p =>
      simp only [List.getElem?_cons_succ] at h ⊢
      exact chkOps_get hc.2 p o h
  | [], _ :: _, hc, _, _, _ => by simp [chkOps] at hc
  | _ :: _, [], hc, _, _, _ => by simp [chkOps] at hc

structure DFacts (P : Program) (eqTs : List (Nat × Nat)) (N : Nat) (ops : Array Oper) (sep : List (Nat × Nat)) (is : List Ins) : Prop where
  len : is.length = ops.size
  dir : ∀ p, p < ops.size → ∀ m ∈ direct ops p, m < p
  chk : chkOps P eqTs N ops ops.toList is = true
  use : ∀ (p q : Nat) (i j : Ins) (t : Nat), is[p]? = some i → is[q]? = some j → j.dst = some t → t ∈ usesI i → p = q ∨ (q < p ∧ ((table ops).getD p 0).testBit q = true) ∨ (p < q ∧ ((table ops).getD q 0).testBit p = true)
  dst : ∀ (p q : Nat) (i j : Ins) (t : Nat), is[p]? = some i → is[q]? = some j → j.dst = some t → p ≠ q → i.dst ≠ some t
  sepq : ∀ (p q : Nat) (i j : Ins), is[p]? = some i → is[q]? = some j → q < p → ((table ops).getD p 0).testBit q = true ∨ quiet i.op = true ∨ quiet j.op = true ∨ (q, p) ∈ sep

theorem drawOk_facts {P : Program} {eqTs : List (Nat × Nat)} {N : Nat} {ops : Array Oper} {sep : List (Nat × Nat)} {is : List Ins} (h : drawOk P eqTs N ops sep is = true) : DFacts P eqTs N ops sep is := by
  simp only [drawOk, Bool.and_eq_true, beq_iff_eq] at h
  obtain ⟨⟨⟨⟨h1, h2⟩, h3⟩, h4⟩, h5⟩ := h
  have h5' : ∀ (p q : Nat) (i j : Ins), is[p]? = some i → is[q]? = some j → pairOk (table ops) sep p q i j = true := fun p q i j hi hj => by
    have hp := (List.getElem?_eq_some_iff.1 hi).1
    have hq := (List.getElem?_eq_some_iff.1 hj).1
    have := List.all_eq_true.1 (List.all_eq_true.1 h5 p (by rw [List.mem_range]; omega)) q (by rw [List.mem_range]; omega)
    simpa only [hi, hj] using this
  refine ⟨h1, fun p hp m hm => ?_, h4, fun p q i j t hi hj ht hu => ?_, fun p q i j t hi hj ht hne => ?_, fun p q i j hi hj hlt => ?_⟩
  · have := List.all_eq_true.1 (List.all_eq_true.1 h3 p (by rw [List.mem_range]; exact hp)) m hm
    simpa using this
  · have := h5' p q i j hi hj
    unfold pairOk at this
    rw [ht] at this
    simp only [Bool.and_eq_true, Bool.or_eq_true, beq_iff_eq, decide_eq_true_eq, Bool.not_eq_true'] at this
    rcases this.1.1 with ((hh | hh) | hh) | hh
    · have : uses1 i t = true := by simpa [uses1] using hu
      rw [this] at hh
      cases hh
    · exact .inl hh
    · exact .inr (.inl hh)
    · exact .inr (.inr hh)
  · have := h5' p q i j hi hj
    unfold pairOk at this
    rw [ht] at this
    simp only [Bool.and_eq_true, Bool.or_eq_true, beq_iff_eq, bne_iff_ne, ne_eq] at this
    exact this.1.2.resolve_left hne
  · have := h5' p q i j hi hj
    unfold pairOk at this
    simp only [Bool.and_eq_true, Bool.or_eq_true, Bool.not_eq_true', decide_eq_false_iff_not, List.contains_iff_mem] at this
    rcases this.2 with (((hh | hh) | hh) | hh) | hh
    · exact absurd hlt hh
    · exact .inl hh
    · exact .inr (.inl hh)
    · exact .inr (.inr (.inl hh))
    · exact .inr (.inr (.inr hh))
end Go.Proofs.YtfmbdcmjgnikiaaGreatDoor.Sm
namespace Go.Proofs.YtfmbdcmjgnikiaaGreatDoor.Sm
open Go Go.RowKit

section
variable {P : Program} {eqTs : List (Nat × Nat)} {X : Cx} {bs : Bs} {rec : Rec}

/-- What is known of the states in order. -/
structure Tr (X : Cx) (rec : Rec) (is : List Ins) (s : Nat → St) (fp : Nat → FP) : Prop where
  step : ∀ (p : Nat) (i : Ins), is[p]? = some i → evIns rec X i (s p) = some (s (p + 1)) ∧ unused (s p).heap (s p).nx (s (p + 1)).nx = true ∧ fp p = fpI X i (s p) (s (p + 1))

theorem Tr.nx {is : List Ins} {s : Nat → St} {fp : Nat → FP} (T : Tr X rec is s fp) (hr : RecOk rec) : ∀ p q, p ≤ q → q ≤ is.length → (s p).nx ≤ (s q).nx ∧ (s q).wb = (s p).wb := by
  intro p q
  induction q with
  | zero =>
    intro h _
    have : p = 0 := by omega
    rw [this]
    exact ⟨Nat.le_refl _, rfl⟩
  | succ q ih =>
    intro h hq
    by_cases hp : p = q + 1
    · subst hp; exact ⟨Nat.le_refl _, rfl⟩
    · obtain ⟨a, b⟩ := ih (by omega) (by omega)
      have hi := List.getElem?_eq_getElem (show q < is.length by omega)
      have := evIns_ok hr (T.step q _ hi).1
      exact ⟨Nat.le_trans a this.1, this.2.trans b⟩

/-- The environment in order: what is written once stands. -/
theorem Tr.env_after {is : List Ins} {s : Nat → St} {fp : Nat → FP} (T : Tr X rec is s fp) (hr : RecOk rec) {t p : Nat} : ∀ q, p ≤ q → q ≤ is.length → (∀ k i, p ≤ k → k < q → is[k]? = some i → i.dst ≠ some t) → getE (s q).env t = getE (s p).env t := by
  intro q
  induction q with
  | zero =>
    intro h _ _
    have : p = 0 := by omega
    rw [this]
  | succ q ih =>
    intro h hq hk
    by_cases hp : p = q + 1
    · rw [hp]
    · rw [← ih (by omega) (by omega) fun k i a b c => hk k i a (by omega) c]
      have hi := List.getElem?_eq_getElem (show q < is.length by omega)
      exact ((evIns_env hr (e := (s q).env) (fun _ _ => rfl) (T.step q _ hi).1).2.2 t).1 (hk q _ (by omega) (by omega) hi)

/-- The state of an order-open region on the way. -/
structure DI (P : Program) (eqTs : List (Nat × Nat)) (X : Cx) (bs : Bs) (ops : Array Oper) (is : List Ins) (s : Nat → St) (fp : Nat → FP) (K0 : KK) (a0 : Act) (L : Nat → Bool) (K : KK) (a : Act) : Prop where
  cl : ∀ p, p < ops.size → L p = true → ∀ m ∈ direct ops p, L m = true
  env : ∃ e : Env, EnvR K e a.tmps ∧ (∀ (p : Nat) (i : Ins) (t : Nat), is[p]? = some i → L p = true → i.dst = some t → getE e t = getE (s (p + 1)).env t) ∧ ∀ t, (∀ (p : Nat) (i : Ins), is[p]? = some i → L p = true → i.dst ≠ some t) → getE e t = getE (s 0).env t
  f : SimF P eqTs bs (hk s fp L (look (s 0).heap) ops.size) (lk s fp L (look (s 0).loops) ops.size) K
  dom : ∀ i, K.dom i → K0.dom i ∨ ∃ p, p < ops.size ∧ L p = true ∧ (s p).nx ≤ i ∧ i < (s (p + 1)).nx
  ext : Ext K0 K
  tsz : a.tmps.size = a0.tmps.size
  dfs : a.defers = a0.defers


/-- Two that don't wait for one another touch nothing in common. -/
theorem free {N : Nat} {ops : Array Oper} {sep : List (Nat × Nat)} {is : List Ins} {s : Nat → St} {fp : Nat → FP} {fs : List FP} (D : DFacts P eqTs N ops sep is) (T : Tr X rec is s fp) (hsep : sepOk fs sep = true) (hfs : ∀ p, p < ops.size → fs[p]? = some (fp p)) {p q : Nat} (hp : p < ops.size) (hqp : q < p) (hb : ((table ops).getD p 0).testBit q ≠ true) (i : Nat) :
    (touch (fp p) i → wr (fp q) i = false) ∧ (touch (fp q) i → wr (fp p) i = false) := by
  have hl := D.len
  have hip := List.getElem?_eq_getElem (show p < is.length by omega)
  have hiq := List.getElem?_eq_getElem (show q < is.length by omega)
  have tp := T.step p _ hip
  have tq := T.step q _ hiq
  have nt : ∀ m, ¬ touch (.rd [] [] m m) i := fun m h => by
    simp only [touch, List.not_mem_nil, false_or] at h
    omega
  have nw : ∀ m, wr (.rd [] [] m m) i = false := fun m => wr_rd.2 ⟨by simp, by omega⟩
  rcases D.sepq p q _ _ hip hiq hqp with h | h | h | h
  · exact absurd h hb
  · have := (quiet_fp h tp.1).1
    rw [tp.2.2, this]
    exact ⟨fun h => (nt _ h).elim, fun _ => nw _⟩
  · have := (quiet_fp h tq.1).1
    rw [tq.2.2, this]
    exact ⟨fun _ => nw _, fun h => (nt _ h).elim⟩
  · have := List.all_eq_true.1 hsep (q, p) h
    simp only [hfs p hp, hfs q (by omega)] at this
    have hc := compat_wr this i
    exact ⟨hc.2, hc.1⟩


theorem DI.step {N : Nat} {ops : Array Oper} {sep : List (Nat × Nat)} {is : List Ins} {s : Nat → St} {fp : Nat → FP} {fs : List FP} (H : Known P eqTs X rec) (D : DFacts P eqTs N ops sep is) (T : Tr X rec is s fp) (hsep : sepOk fs sep = true) (hfs : ∀ p, p < ops.size → fs[p]? = some (fp p))
    {K0 : KK} {a0 : Act} (hd0 : ∀ i, K0.dom i → i < (s 0).nx) (hwb : bs.wb = (s 0).wb) (hg0 : GOK X K0) (hN : N ≤ a0.tmps.size) {L : Nat → Bool} {K : KK} {a : Act} (I : DI P eqTs X bs ops is s fp K0 a0 L K a) {p : Nat} (hp : p < ops.size) (hLp : L p = false) (hdir : ∀ m ∈ direct ops p, L m = true) {o : Oper} (ho : ops[p]? = some o)
    {rd : Option Nat} {next : Act → World → Prop} {Q : Exit → Act → World → Prop} (hnext : ∀ a' K', DI P eqTs X bs ops is s fp K0 a0 (setL L p) K' a' → next a' K'.W) :
    if Region.wanted o (yielded ops a.tmps) then o.wpIn (Frd rd) 0 P a K.W next Q else (∀ f, o.about P K.W a.eval = some f → (Frd rd).fn f) ∧ next (a.put o.dst Go.undef) K.W := by
  have hl := D.len
  obtain ⟨i, hi, hci⟩ := chkOps_get D.chk p o (by rw [Array.getElem?_toList]; exact ho)
  obtain ⟨t1, t2, t3⟩ := T.step p i hi
  obtain ⟨e, e1, e2, e3⟩ := I.env
  have Idom : ∀ i, K.dom i → i < (s 0).nx ∨ ∃ p, p < ops.size ∧ L p = true ∧ (s p).nx ≤ i ∧ i < (s (p + 1)).nx := fun i hi => (I.dom i hi).imp (hd0 i) id
  have below : ∀ q, ((table ops).getD p 0).testBit q = true → L q = true := table_closed D.dir I.cl p hp hdir
  have above : ∀ q, q < ops.size → L q = true → ((table ops).getD q 0).testBit p ≠ true := fun q hq hLq hb => by
    have := table_closed D.dir I.cl q hq (I.cl q hq hLq) p hb
    rw [hLp] at this
    cases this
  have hu : ∀ t ∈ usesI i, getE (s p).env t = getE e t := fun t ht => by
    by_cases hw : ∃ (q : Nat) (j : Ins), is[q]? = some j ∧ j.dst = some t
    · obtain ⟨q, j, hj, hjt⟩ := hw
      have hq := (List.getElem?_eq_some_iff.1 hj).1
      have uniq : ∀ (k : Nat) (i' : Ins), is[k]? = some i' → i'.dst = some t → k = q := fun k i' hk' hd' => by
        by_cases hne : k = q
        · exact hne
        · exact absurd hd' (D.dst k q i' j t hk' hj hjt hne)
      have notL : L q = false → getE (s p).env t = getE (s 0).env t → getE (s p).env t = getE e t := fun hLq h0 => by
        rw [h0, e3 t fun k i' hk' hLk hd' => by
          rw [uniq k i' hk' hd', hLq] at hLk
          cases hLk]
      rcases D.use p q i j t hi hj hjt ht with h | ⟨h, hb⟩ | ⟨h, hb⟩
      · subst h
        exact notL hLp (T.env_after H.ok p (Nat.zero_le _) (by omega) fun k i' _ hk2 hk3 hd' => by have := uniq k i' hk3 hd'; omega)
      · rw [e2 q j t hj (below q hb) hjt]
        exact T.env_after H.ok p (by omega) (by omega) fun k i' hk1 _ hk3 hd' => by have := uniq k i' hk3 hd'; omega
      · refine notL ?_ (T.env_after H.ok p (Nat.zero_le _) (by omega) fun k i' _ hk2 hk3 hd' => by have := uniq k i' hk3 hd'; omega)
        cases hLq : L q with
        | false => rfl
        | true => exact absurd hb (above q (by omega) hLq)
    · rw [T.env_after H.ok (p := 0) p (Nat.zero_le _) (by omega) fun k i' _ _ hk3 hd' => hw ⟨k, i', hk3, hd'⟩, e3 t fun k i' hk' _ hd' => hw ⟨k, i', hk', hd'⟩]
  obtain ⟨v1, v2, v3⟩ := evIns_env H.ok hu t1
  rw [← t3] at v2
  -- what is not in order with p touches nothing of p's
  have fr : ∀ q, q < ops.size → q ≠ p → (q < p → L q = false) → (p < q → L q = true) → ∀ j, (touch (fp p) j → wr (fp q) j = false) ∧ (touch (fp q) j → wr (fp p) j = false) := fun q hq hne h1 h2 j => by
    by_cases hlt : q < p
    · exact free D T hsep hfs hp hlt (fun hb => by have := below q hb; rw [h1 hlt] at this; cases this) j
    · have hgt : p < q := by omega
      have := free D T hsep hfs hq hgt (above q hq (h2 hgt)) j
      exact ⟨this.2, this.1⟩
  have frame : ∀ q, q < ops.size → ∀ j, wr (fp q) j = false → look (s (q + 1)).heap j = look (s q).heap j := fun q hq j hw => by
    have hiq := List.getElem?_eq_getElem (show q < is.length by omega)
    have := T.step q _ hiq
    rw [this.2.2] at hw
    exact (evIns_frame H.ok this.1).1 j hw
  have frameL : ∀ q, q < ops.size → ovl (fp q) (s (q + 1)) (look (s q).loops) = look (s (q + 1)).loops := fun q hq => by
    have hiq := List.getElem?_eq_getElem (show q < is.length by omega)
    have := T.step q _ hiq
    rw [this.2.2]
    exact (evIns_frame H.ok this.1).2
  have heap : ∀ j, touch (fp p) j → hk s fp L (look (s 0).heap) ops.size j = look (s p).heap j := fun j hj => by
    rw [hk_after (p := p) ops.size (by omega) fun q q1 q2 q3 => (fr q q2 (fun e => by subst e; rw [hLp] at q3; cases q3) (fun h => by omega) (fun _ => q3) j).1 hj]
    exact hk_in (n := ops.size) rfl (fun q hq hw => frame q hq j hw) p (by omega) fun q q1 q2 => (fr q (by omega) (by omega) (fun _ => q2) (fun h => by omega) j).1 hj
  have domlt : (∀ j, touch (fp p) j) → ∀ j, K.dom j → j < (s p).nx := fun ht j hj => by
    have n0 := (T.nx H.ok 0 p (Nat.zero_le _) (by omega)).1
    rcases Idom j hj with h | ⟨q, q1, q2, q3, q4⟩
    · omega
    · by_cases hlt : q < p
      · have := (T.nx H.ok (q + 1) p (by omega) (by omega)).1
        omega
      · have hne : q ≠ p := fun e => by subst e; rw [hLp] at q2; cases q2
        have hw := (fr q q1 hne (fun h => absurd h hlt) (fun _ => q2) j).1 (ht j)
        have hiq := List.getElem?_eq_getElem (show q < is.length by omega)
        exfalso
        have hfp := (T.step q _ hiq).2.2
        have hrg := fpI_range (T.step q _ hiq).1
        cases hfq : fp q with
        | all => rw [hfq] at hw; cases hw
        | ro =>
          rw [hfq] at hfp
          have := hrg.2 hfp.symm
          omega
        | rd r w lo hi =>
          rw [hfq] at hfp hw
          have h1 := hrg.1 r w lo hi hfp.symm
          have h2 := (wr_rd.1 hw).2
          omega
  have loops : (∀ j, touch (fp p) j) → fp p = .all → lk s fp L (look (s 0).loops) ops.size = look (s p).loops := fun ht hall => by
    rw [lk_after (p := p) ops.size (by omega) fun q q1 q2 q3 hq => by
      have := (fr q q2 (fun e => by subst e; rw [hLp] at q3; cases q3) (fun h => by omega) (fun _ => q3) 0).1 (ht 0)
      rw [hq] at this
      cases this]
    exact lk_in (n := ops.size) rfl frameL p (by omega) fun q q1 q2 hq => by
      have := (fr q (by omega) (by omega) (fun _ => q2) (fun h => by omega) 0).1 (ht 0)
      rw [hq] at this
      cases this
  have hag : Agree (fpI X i { s p with env := e } { s (p + 1) with env := envAfter i (s (p + 1)) e }) { s p with env := e } { s (p + 1) with env := envAfter i (s (p + 1)) e } (hk s fp L (look (s 0).heap) ops.size) (lk s fp L (look (s 0).loops) ops.size) K := by
    rw [v2]
    have hrg := fpI_range t1
    rw [← t3] at hrg
    cases hfp : fp p with
    | rd r w lo hi =>
      rw [hfp] at heap hrg
      have hlh := hrg.1 r w lo hi rfl
      refine ⟨fun j hj => heap j ?_, fun j h1 h2 => ⟨fun hd => ?_, unused_get t2 h1 h2⟩⟩
      · rcases List.mem_append.1 hj with h | h
        · exact .inl h
        · exact .inr (.inl h)
      · simp only at h1 h2
        have n0 := (T.nx H.ok 0 p (Nat.zero_le _) (by omega)).1
        rcases Idom j hd with h | ⟨q, q1, q2, q3, q4⟩
        · omega
        · have hne : q ≠ p := fun e => by subst e; rw [hLp] at q2; cases q2
          by_cases hlt : q < p
          · have := (T.nx H.ok (q + 1) p (by omega) (by omega)).1
            omega
          · have := (T.nx H.ok (p + 1) q (by omega) (by omega)).1
            omega
    | ro =>
      rw [hfp] at heap domlt
      exact ⟨funext fun j => heap j trivial, domlt fun _ => trivial⟩
    | all =>
      rw [hfp] at heap domlt
      exact ⟨funext fun j => heap j trivial, loops (fun j => by rw [hfp]; trivial) hfp, domlt fun _ => trivial⟩
  refine ins_sound H hci v1 e1 (by rw [I.tsz]; exact hN) hag I.f (hwb.trans (T.nx H.ok 0 p (Nat.zero_le _) (by omega)).2.symm) (hg0.ext I.ext) fun val K' w1 w2 w3 w4 w5 w6 => hnext _ _ ⟨fun q hq hLq m hm => ?_, ⟨_, w1, fun q j t hj hLq hjt => ?_, fun t ht => ?_⟩, ?_, fun j hj => ?_, I.ext.trans w5, w2.trans I.tsz, w3.trans I.dfs⟩
  · by_cases hmp : m = p
    · subst hmp; exact setL_eq
    · rw [setL_ne hmp]
      by_cases hqp : q = p
      · subst hqp; exact hdir m hm
      · rw [setL_ne hqp] at hLq; exact I.cl q hq hLq m hm
  · by_cases hqp : q = p
    · subst hqp
      rw [hi] at hj
      cases hj
      exact (v3 t).2.1 hjt
    · rw [setL_ne hqp] at hLq
      rw [← e2 q j t hj hLq hjt]
      exact (v3 t).2.2 (D.dst p q i j t hi hj hjt fun e => hqp e.symm)
  · have hit : i.dst ≠ some t := ht p i hi setL_eq
    rw [(v3 t).2.2 hit]
    exact e3 t fun q j hj hLq => ht q j hj (by
      by_cases hqp : q = p
      · subst hqp; exact setL_eq
      · rw [setL_ne hqp]; exact hLq)
  · rw [v2] at w4
    have hA := hk_set (s := s) (fp := fp) (L := L) (h0 := look (s 0).heap) (n := ops.size) hp hLp fun j hw q q1 q2 q3 => (fr q q2 (by omega) (fun h => by omega) (fun _ => q3) j).1 (by
      cases hfp : fp p with
      | rd r w lo hi =>
        rw [hfp] at hw
        simp only [wr, Bool.or_eq_true, List.contains_iff_mem, Bool.and_eq_true, decide_eq_true_eq] at hw
        exact .inr hw
      | ro => trivial
      | all => trivial)
    have hB := lk_set (s := s) (fp := fp) (L := L) (l0 := look (s 0).loops) (n := ops.size) hp hLp fun hall q q1 q2 q3 hq => by
      have := (fr q q2 (by omega) (fun h => by omega) (fun _ => q3) 0).1 (by rw [hall]; trivial)
      rw [hq] at this
      cases this
    rw [hA, hB]
    exact w4
  · rcases w6 j hj with h | h
    · rcases I.dom j h with h | ⟨q, q1, q2, q3⟩
      · exact .inl h
      · exact .inr ⟨q, q1, by
          by_cases hqp : q = p
          · subst hqp; exact setL_eq
          · rw [setL_ne hqp]; exact q2, q3⟩
    · exact .inr ⟨p, hp, setL_eq, h⟩

end
end Go.Proofs.YtfmbdcmjgnikiaaGreatDoor.Sm
namespace Go.Proofs.YtfmbdcmjgnikiaaGreatDoor.Sm
open Go Go.RowKit

section
variable {P : Program} {eqTs : List (Nat × Nat)} {X : Cx} {bs : Bs} {rec : Rec}

def ofA (listed : Array Bool) : Nat → Bool := fun p => listed.getD p false
theorem ofA_set {listed : Array Bool} {i : Nat} (h : i < listed.size) : ofA (listed.setIfInBounds i true) = setL (ofA listed) i := by
  funext q
  simp only [ofA, setL, Array.getD_eq_getD_getElem?, Array.getElem?_setIfInBounds]
  by_cases hq : q = i
  · subst hq; simp [h]
  · rw [if_neg (fun e => hq e.symm), if_neg hq]

def todo (L : Nat → Bool) : Nat → Nat
  | 0 => 0
  | k + 1 => todo L k + (if L k then 0 else 1)
theorem todo_same {L : Nat → Bool} {p : Nat} : ∀ k, k ≤ p → todo (setL L p) k = todo L k
  | 0, _ => rfl
  | k + 1, h => by rw [todo, todo, todo_same k (by omega), setL_ne (by omega)]
theorem todo_set {L : Nat → Bool} {p : Nat} (hL : L p = false) : ∀ k, p < k → todo (setL L p) k + 1 = todo L k
  | 0, h => by omega
  | k + 1, h => by
    rw [todo, todo]
    by_cases hp : p = k
    · subst hp
      rw [todo_same p (Nat.le_refl _), setL_eq, hL]
      simp
    · have := todo_set hL k (by omega)
      rw [setL_ne (by omega)]
      omega
theorem todo_all {L : Nat → Bool} : ∀ k, todo L k = 0 → ∀ p, p < k → L p = true
  | 0, _, p, h => by omega
  | k + 1, h0, p, h => by
    rw [todo] at h0
    by_cases hp : p = k
    · subst hp
      cases hL : L p with
      | true => rfl
      | false => rw [hL] at h0; simp at h0
    · exact todo_all k (by omega) p (by omega)
theorem todo_none : ∀ (n k : Nat), k ≤ n → todo (ofA (Array.replicate n false)) k ≤ k
  | n, 0, _ => Nat.le_refl _
  | n, k + 1, h => by
    have := todo_none n k (by omega)
    rw [todo]
    split <;> omega

theorem ready_nil {ops : Array Oper} {listed : Array Bool} (hsz : listed.size = ops.size) (hd : ∀ p, p < ops.size → ∀ m ∈ direct ops p, m < p) (h : Region.ready .any ops listed = []) : ∀ p, p < ops.size → ofA listed p = true := by
  intro p
  induction p using Nat.strongRecOn with
  | _ p ih =>
    intro hp
    cases hL : ofA listed p with
    | true => rfl
    | false =>
      exfalso
      have ho := Array.getElem?_eq_getElem (xs := ops) hp
      have : p ∈ Region.ready .any ops listed := by
        refine mem_ready.2 ⟨?_, ops[p], ho, fun e he hb => ?_⟩
        · simp only [ofA, Array.getD_eq_getD_getElem?] at hL ⊢
          have hl := Array.getElem?_eq_getElem (xs := listed) (i := p) (by omega)
          rw [hl] at hL ⊢
          exact hL
        · have hm : e.on ∈ direct ops p := by
            simp only [direct, ho, List.mem_map, List.mem_filter]
            exact ⟨e, ⟨by simpa using he, hb⟩, rfl⟩
          exact ih e.on (hd p hp _ hm) (by have := hd p hp _ hm; omega)
      rw [h] at this
      cases this
theorem ready_of_all {ops : Array Oper} {listed : Array Bool} (hsz : listed.size = ops.size) (h : ∀ p, p < ops.size → ofA listed p = true) : Region.ready .any ops listed = [] := by
  refine List.eq_nil_iff_forall_not_mem.2 fun j hj => ?_
  obtain ⟨h1, o, ho, _⟩ := mem_ready.1 hj
  have hlt := (Array.getElem?_eq_some_iff.1 ho).1
  have h2 := h j hlt
  have hl := Array.getElem?_eq_getElem (xs := listed) (i := j) (by omega)
  simp only [ofA, Array.getD_eq_getD_getElem?] at h1 h2
  rw [hl] at h1 h2
  simp at h1 h2
  rw [h1] at h2
  cases h2

theorem DI.run {N : Nat} {ops : Array Oper} {sep : List (Nat × Nat)} {is : List Ins} {s : Nat → St} {fp : Nat → FP} {fs : List FP} (H : Known P eqTs X rec) (D : DFacts P eqTs N ops sep is) (T : Tr X rec is s fp) (hsep : sepOk fs sep = true) (hfs : ∀ p, p < ops.size → fs[p]? = some (fp p))
    {K0 : KK} {a0 : Act} (hd0 : ∀ i, K0.dom i → i < (s 0).nx) (hwb : bs.wb = (s 0).wb) (hg0 : GOK X K0) (hN : N ≤ a0.tmps.size) {rd : Option Nat} {Q : Exit → Act → World → Prop}
    (hfin : ∀ L K a, (∀ p, p < ops.size → L p = true) → DI P eqTs X bs ops is s fp K0 a0 L K a → Q .normal a K.W) :
    ∀ (fuel : Nat) (listed : Array Bool) (K : KK) (a : Act), listed.size = ops.size → todo (ofA listed) ops.size ≤ fuel → DI P eqTs X bs ops is s fp K0 a0 (ofA listed) K a → wpAnyIn (Frd rd) 0 P .any ops Q fuel listed a K.W
  | 0, listed, K, a, hsz, hf, I => by
    have hall := todo_all ops.size (Nat.le_zero.1 hf)
    exact ⟨ready_of_all hsz hall, hfin _ K a hall I⟩
  | fuel + 1, listed, K, a, hsz, hf, I => by
    refine ⟨fun hr => hfin _ K a (ready_nil hsz D.dir hr) I, fun i hi => ?_⟩
    obtain ⟨h1, o, ho, hall⟩ := mem_ready.1 hi
    have hlt := (Array.getElem?_eq_some_iff.1 ho).1
    have hL : ofA listed i = false := by
      have hl := Array.getElem?_eq_getElem (xs := listed) (i := i) (by omega)
      simp only [ofA, Array.getD_eq_getD_getElem?] at h1 ⊢
      rw [hl] at h1 ⊢
      exact h1
    have hdir : ∀ m ∈ direct ops i, ofA listed m = true := fun m hm => by
      simp only [direct, ho, List.mem_map, List.mem_filter] at hm
      obtain ⟨e, ⟨he, hb⟩, rfl⟩ := hm
      exact hall e (by simpa using he) hb
    unfold wpOpIn
    simp only [ho]
    refine DI.step H D T hsep hfs hd0 hwb hg0 hN I hlt hL hdir ho fun a' K' I' => ?_
    refine DI.run H D T hsep hfs hd0 hwb hg0 hN hfin fuel (listed.setIfInBounds i true) K' a' (by simpa using hsz) ?_ ?_
    · rw [ofA_set (by omega)]
      have := todo_set hL ops.size hlt
      omega
    · rw [ofA_set (by omega)]
      exact I'

theorem draw_sound (hm : P.follows .mixedOrders = true) (H : Known P eqTs X rec) : DrawOK P eqTs X rec := by
  intro rd d0 N sep is ops id st st1 fs bs K a Q hc he hs hA hk
  have D := drawOk_facts hc
  obtain ⟨s, e0, en, el, tr⟩ := draw_trace he
  have T : Tr X rec is s fun p => (fs[p]?).getD .ro := ⟨fun p i hi => by
    obtain ⟨t1, t2, t3⟩ := tr p i hi
    exact ⟨t1, t2, by simp only [t3, Option.getD_some]⟩⟩
  have hl := D.len
  have hfs : ∀ p, p < ops.size → fs[p]? = some ((fun p => (fs[p]?).getD .ro) p) := fun p hp => by
    have := List.getElem?_eq_getElem (l := fs) (i := p) (by omega)
    simp only [this, Option.getD_some]
  have hnx := T.nx H.ok
  refine wpIn_region_any hm ?_
  obtain ⟨s1, x1⟩ := hA.s.f.after (W' := { K.W with drawn := K.W.drawn + 1 }) ⟨rfl, rfl, rfl, Nat.le_refl _, fun _ _ => rfl⟩
  have hz : ∀ p, ofA (Array.replicate ops.size false) p = false := fun p => by
    simp only [ofA, Array.getD_eq_getD_getElem?, Array.getElem?_replicate]
    split <;> rfl
  have hk0 : ∀ (fp : Nat → FP) (h0 : HL) k, Sm.hk s fp (ofA (Array.replicate ops.size false)) h0 k = h0 := fun fp h0 k => by
    induction k with
    | zero => rfl
    | succ k ih => rw [Sm.hk, hz k]; simpa using ih
  have lk0 : ∀ (fp : Nat → FP) (l0 : Nat → Option LRec) k, lk s fp (ofA (Array.replicate ops.size false)) l0 k = l0 := fun fp l0 k => by
    induction k with
    | zero => rfl
    | succ k ih => rw [lk, hz k]; simpa using ih
  refine DI.run (K0 := { K with W := { K.W with drawn := K.W.drawn + 1 } }) (a0 := a) H D T hs hfs (fun i hi => by rw [e0]; exact hA.s.fresh i hi) (by rw [e0]; exact hA.s.wb) (hA.s.glob.ext x1) hA.sz (fun L K' a' hall I => ?_) ops.size (Array.replicate ops.size false) { K with W := { K.W with drawn := K.W.drawn + 1 } } a (by simp) (todo_none _ _ (Nat.le_refl _)) ?_
  · obtain ⟨e, i1, i2, i3⟩ := I.env
    have hfr : ∀ q, q < ops.size → (∀ j, wr ((fun p => (fs[p]?).getD .ro) q) j = false → look (s (q + 1)).heap j = look (s q).heap j) ∧ ovl ((fun p => (fs[p]?).getD .ro) q) (s (q + 1)) (look (s q).loops) = look (s (q + 1)).loops := fun q hq => by
      have hiq := List.getElem?_eq_getElem (show q < is.length by omega)
      have t := T.step q _ hiq
      have g := evIns_frame H.ok t.1
      rw [← t.2.2] at g
      exact g
    have hH : Sm.hk s (fun p => (fs[p]?).getD .ro) L (look (s 0).heap) ops.size = look (s ops.size).heap := funext fun j =>
      hk_in (n := ops.size) rfl (fun q hq hw => (hfr q hq).1 j hw) ops.size (Nat.le_refl _) fun q q1 q2 => by rw [hall q q1] at q2; cases q2
    have hLL : lk s (fun p => (fs[p]?).getD .ro) L (look (s 0).loops) ops.size = look (s ops.size).loops :=
      lk_in (n := ops.size) rfl (fun q hq => (hfr q hq).2) ops.size (Nat.le_refl _) fun q q1 q2 => by rw [hall q q1] at q2; cases q2
    have hn : s ops.size = st1 := by rw [← hl]; exact en
    have hf := I.f
    rw [hH, hLL, hn] at hf
    have n0 := hnx 0 ops.size (Nat.zero_le _) (by omega)
    rw [e0, hn] at n0
    have hdom : ∀ i, K'.dom i → K.dom i ∨ (st.nx ≤ i ∧ i < st1.nx) := fun i hi => by
      rcases I.dom i hi with h | ⟨q, q1, q2, q3, q4⟩
      · exact .inl h
      · have a1 := (hnx 0 q (Nat.zero_le _) (by omega)).1
        have a2 := (hnx (q + 1) ops.size (by omega) (by omega)).1
        rw [e0] at a1
        rw [hn] at a2
        exact .inr ⟨by omega, by omega⟩
    have henv : EnvR K' st1.env a'.tmps := fun t => by
      have : getE e t = getE st1.env t := by
        rw [← hn]
        by_cases hw : ∃ (q : Nat) (j : Ins), is[q]? = some j ∧ j.dst = some t
        · obtain ⟨q, j, hj, hjt⟩ := hw
          have hq := (List.getElem?_eq_some_iff.1 hj).1
          rw [i2 q j t hj (hall q (by omega)) hjt]
          exact (T.env_after H.ok ops.size (by omega) (by omega) fun k i' h1 _ h3 hd => D.dst k q i' j t h3 hj hjt (by omega) hd).symm
        · rw [i3 t fun k i' h1 _ hd => hw ⟨k, i', h1, hd⟩]
          exact (T.env_after H.ok (p := 0) ops.size (Nat.zero_le _) (by omega) fun k i' _ _ h3 hd => hw ⟨k, i', h3, hd⟩).symm
      rw [← this]
      exact i1 t
    have hX : Ext K K' := x1.trans I.ext
    obtain ⟨Df, q1, q2, q3⟩ := hA.df
    refine hk a' K' ⟨⟨hf, hA.s.wb.trans n0.2.symm, fun i hi => ?_, hA.s.glob.ext hX⟩, henv, by rw [I.tsz]; exact hA.sz, ⟨Df, by rw [I.dfs]; exact q1, q2, fun b hb => ⟨(q3 b hb).1, hX.defd b (q3 b hb).2⟩⟩, Nat.le_trans hA.d0 hX.size, fun l hl' => ?_⟩ hX hdom
    · rcases hdom i hi with h | h
      · have := hA.s.fresh i h
        omega
      · exact h.2
    · obtain ⟨r, hr⟩ := hA.rd l hl'
      exact hX.lps l r hr
  · refine ⟨fun p _ h => (by rw [hz p] at h; cases h), ⟨st.env, ?_, fun p i t _ h => (by rw [hz p] at h; cases h), fun t _ => by rw [e0]⟩, ?_, fun i hi => .inl hi, Ext.refl _, rfl, rfl⟩
    · exact fun t => x1.rv _ _ (hA.env t)
    · rw [hk0, lk0, e0]
      exact s1
end

theorem code_ok {P : Program} {eqTs : List (Nat × Nat)} {X : Cx} (hm : P.follows .mixedOrders = true) (hX : ∀ f mf, X.fns f = some mf → ∃ fn, P.funcs[f]? = some fn ∧ chkF P eqTs fn mf = true) (hE : ∀ t n, eqTs.contains (t, n) = true → EqT P t n) (n : Nat) : FnOK P eqTs X (ev X n) :=
  fn_sound (code_all hX hE (fun _ H => draw_sound hm H) n).1 hX
end Go.Proofs.YtfmbdcmjgnikiaaGreatDoor.Sm
namespace Go.Proofs.YtfmbdcmjgnikiaaGreatDoor.Sm
open Go Go.RowKit

/-! ### more fuel -/
def Le (r r' : Rec) : Prop := ∀ c st x st', r c st = some (x, st') → r' c st = some (x, st')

section
variable {r r' : Rec} (h : Le r r') {X : Cx}
include h

theorem runF_mono {mf : MFun} {st : St} {y : SV × St} (he : runF r mf st = some y) : runF r' mf st = some y := by
  unfold runF at he ⊢
  split at he
  · cases he
  · rename_i x st1 hne h1
    rw [h _ _ _ _ h1]
    cases x with
    | exit i => exact absurd rfl (hne i)
    | norm => exact he
    | ret => exact he
  · cases he
theorem callF_mono {m : Mode} {f : Nat} {args : List SV} {st : St} {y : SV × St} (he : callF r X m f args st = some y) : callF r' X m f args st = some y := by
  unfold callF at he ⊢
  split at he
  · cases he
  · split at he
    · split at he
      · rename_i v st1 h1
        rw [runF_mono h h1]
        exact he
      · cases he
    · split at he
      · split at he
        · rename_i hp _ v st1 h1
          simp only [hp, if_true, runF_mono h h1]
          exact he
        · cases he
      · cases he
    · split at he
      · split at he
        · rename_i hp _ v st1 h1
          simp only [hp, if_true, runF_mono h h1]
          exact he
        · cases he
      · split at he
        · rename_i hp _ v st1 h1
          simp only [hp, if_false, runF_mono h h1, Bool.false_eq_true]
          exact he
        · cases he
theorem callY_mono {l : Nat} {args : List SV} {st : St} {y : SV × St} (he : callY r l args st = some y) : callY r' l args st = some y := by
  unfold callY at he ⊢
  split at he
  · cases he
  · rename_i rc h0
    split at he
    · rename_i hl
      rw [if_pos hl]
      split at he
      · rename_i st2 h1
        rw [h _ _ _ _ h1]
        split at he
        · rename_i r2 h2
          simp only [h2]
          split at he
          · rename_i h3
            rw [if_pos h3]
            split at he
            · rename_i x st3 h4
              rw [h _ _ _ _ h4]
              exact he
            · cases he
          · cases he
        · cases he
      · cases he
    · cases he
theorem callV_mono {m : Mode} {f : SV} {args : List SV} {st : St} {y : SV × St} (he : callV r X m f args st = some y) : callV r' X m f args st = some y := by
  unfold callV at he ⊢
  split at he
  · exact callF_mono h he
  · split at he
    · rename_i hm
      rw [if_pos hm]
      exact callY_mono h he
    · cases he
  · cases he
theorem evOp_mono {op : MOp} {st : St} {y : SV × St} (he : evOp r X op st = some y) : evOp r' X op st = some y := by
  cases op with
  | r o => exact he
  | w o => exact he
  | call m f as => exact callV_mono h he
theorem evIns_mono {i : Ins} {st : St} {y : St} (he : evIns r X i st = some y) : evIns r' X i st = some y := by
  unfold evIns at he ⊢
  split at he
  · rename_i hg
    split at he
    · rename_i v st1 h1
      rw [evOp_mono h h1]
      exact he
    · cases he
  · exact he
  · cases he
theorem evOps_mono : ∀ {is : List Ins} {st : St} {y : St}, evOps r X is st = some y → evOps r' X is st = some y
  | [], _, _, he => he
  | i :: is, st, y, he => by
    simp only [evOps] at he ⊢
    split at he
    · rename_i st1 h1
      rw [evIns_mono h h1]
      exact evOps_mono he
    · cases he
theorem evDraw_mono : ∀ {is : List Ins} {st : St} {y : St × List FP}, evDraw r X is st = some y → evDraw r' X is st = some y
  | [], _, _, he => he
  | i :: is, st, y, he => by
    simp only [evDraw] at he ⊢
    split at he
    · rename_i st1 h1
      rw [evIns_mono h h1]
      simp only
      split at he
      · rename_i hu
        rw [if_pos hu]
        split at he
        · rename_i st2 fs h2
          rw [evDraw_mono h2]
          exact he
        · cases he
      · cases he
    · cases he
theorem step_mono : Le (step r X) (step r' X) := by
  intro c st x st' he
  cases c with
  | trap => cases he
  | skip => exact he
  | ret => exact he
  | exit id => exact he
  | region ops =>
    simp only [step] at he ⊢
    split at he
    · rename_i st1 h1
      rw [evOps_mono h h1]
      exact he
    · cases he
  | draw sep ops =>
    simp only [step] at he ⊢
    split at he
    · rename_i st1 fs h1
      rw [evDraw_mono h h1]
      exact he
    · cases he
  | seq a b =>
    simp only [step] at he ⊢
    split at he
    · rename_i st1 h1
      rw [h _ _ _ _ h1]
      exact h _ _ _ _ he
    · rename_i hne
      rw [h _ _ _ _ he]
      cases x with
      | norm => exact absurd he (hne st')
      | exit i => rfl
      | ret => rfl
  | cond c a b =>
    simp only [step] at he ⊢
    split at he
    · exact h _ _ _ _ he
    · exact h _ _ _ _ he
    · cases he
  | block id b =>
    simp only [step] at he ⊢
    split at he
    · rename_i j st1 h1
      rw [h _ _ _ _ h1]
      exact he
    · rename_i hne
      rw [h _ _ _ _ he]
      cases x with
      | exit i => exact absurd he (hne i st')
      | norm => rfl
      | ret => rfl
  | loop b =>
    simp only [step] at he ⊢
    split at he
    · rename_i st1 h1
      rw [h _ _ _ _ h1]
      exact h _ _ _ _ he
    · rename_i hne
      rw [h _ _ _ _ he]
      cases x with
      | norm => exact absurd he (hne st')
      | exit i => rfl
      | ret => rfl
  | range f ps assign body =>
    simp only [step] at he ⊢
    split at he
    · split at he
      · rename_i v st1 h1
        rw [callF_mono h h1]
        exact he
      · cases he
    · cases he
  | trim live b => exact h _ _ _ _ he
end
theorem Le.refl (r : Rec) : Le r r := fun _ _ _ _ h => h
theorem Le.trans {a b c : Rec} (h : Le a b) (k : Le b c) : Le a c := fun _ _ _ _ e => k _ _ _ _ (h _ _ _ _ e)
theorem ev_le1 (X : Cx) : ∀ n, Le (ev X n) (ev X (n + 1))
  | 0 => fun _ _ _ _ h => by cases h
  | n + 1 => step_mono (ev_le1 X n)
theorem ev_le (X : Cx) {n m : Nat} (h : n ≤ m) : Le (ev X n) (ev X m) := by
  induction h with
  | refl => exact Le.refl _
  | step _ ih => exact ih.trans (ev_le1 X _)

/-! ### what code leads to -/
def Wp (X : Cx) (c : MCode) (st : St) (Q : Ex → St → Prop) : Prop := ∃ n x s, ev X n c st = some (x, s) ∧ Q x s
def WpOps (X : Cx) (is : List Ins) (st : St) (Q : St → Prop) : Prop := ∃ n s, evOps (ev X n) X is st = some s ∧ Q s
def WpIns (X : Cx) (i : Ins) (st : St) (Q : St → Prop) : Prop := ∃ n s, evIns (ev X n) X i st = some s ∧ Q s
def WpOp (X : Cx) (o : MOp) (st : St) (Q : SV → St → Prop) : Prop := ∃ n v s, evOp (ev X n) X o st = some (v, s) ∧ Q v s
def WpDraw (X : Cx) (is : List Ins) (st : St) (Q : St → List FP → Prop) : Prop := ∃ n s fs, evDraw (ev X n) X is st = some (s, fs) ∧ Q s fs
def WpF (X : Cx) (m : Mode) (f : Nat) (args : List SV) (st : St) (Q : SV → St → Prop) : Prop := ∃ n v s, callF (ev X n) X m f args st = some (v, s) ∧ Q v s
def WpY (X : Cx) (l : Nat) (args : List SV) (st : St) (Q : SV → St → Prop) : Prop := ∃ n v s, callY (ev X n) l args st = some (v, s) ∧ Q v s
def WpRun (X : Cx) (mf : MFun) (st : St) (Q : SV → St → Prop) : Prop := ∃ n v s, runF (ev X n) mf st = some (v, s) ∧ Q v s

theorem Wp.mono {X : Cx} {c : MCode} {st : St} {Q Q' : Ex → St → Prop} (h : Wp X c st Q) (k : ∀ x s, Q x s → Q' x s) : Wp X c st Q' := by
  obtain ⟨n, x, s, h1, h2⟩ := h
  exact ⟨n, x, s, h1, k _ _ h2⟩
theorem WpF.mono {X : Cx} {m : Mode} {f : Nat} {args : List SV} {st : St} {Q Q' : SV → St → Prop} (h : WpF X m f args st Q) (k : ∀ x s, Q x s → Q' x s) : WpF X m f args st Q' := by
  obtain ⟨n, x, s, h1, h2⟩ := h
  exact ⟨n, x, s, h1, k _ _ h2⟩

section
variable {X : Cx}
theorem wp_skip {st : St} {Q : Ex → St → Prop} : Wp X .skip st Q ↔ Q .norm st := ⟨fun ⟨n, x, s, h, q⟩ => by cases n <;> cases h; exact q, fun q => ⟨1, _, _, rfl, q⟩⟩
theorem wp_ret {st : St} {Q : Ex → St → Prop} : Wp X .ret st Q ↔ Q .ret st := ⟨fun ⟨n, x, s, h, q⟩ => by cases n <;> cases h; exact q, fun q => ⟨1, _, _, rfl, q⟩⟩
theorem wp_exit {st : St} {i : Nat} {Q : Ex → St → Prop} : Wp X (.exit i) st Q ↔ Q (.exit i) st := ⟨fun ⟨n, x, s, h, q⟩ => by cases n <;> cases h; exact q, fun q => ⟨1, _, _, rfl, q⟩⟩
theorem wp_trap {st : St} {Q : Ex → St → Prop} : Wp X .trap st Q ↔ False := ⟨fun ⟨n, x, s, h, q⟩ => by (cases n <;> cases h), fun h => h.elim⟩
theorem wp_trim {st : St} {l : List Nat} {b : MCode} {Q : Ex → St → Prop} : Wp X (.trim l b) st Q ↔ Wp X b { st with env := l.map fun t => (t, getE st.env t) } Q :=
  ⟨fun ⟨n, x, s, h, q⟩ => by
    cases n with
    | zero => cases h
    | succ n => exact ⟨n, x, s, h, q⟩, fun ⟨n, x, s, h, q⟩ => ⟨n + 1, x, s, h, q⟩⟩
theorem wp_region {st : St} {is : List Ins} {Q : Ex → St → Prop} : Wp X (.region is) st Q ↔ WpOps X is st (Q .norm) :=
  ⟨fun ⟨n, x, s, h, q⟩ => by
    cases n with
    | zero => cases h
    | succ n =>
      simp only [ev, step] at h
      split at h
      · rename_i s1 h1; cases h; exact ⟨n, s, h1, q⟩
      · (cases h), fun ⟨n, s, h, q⟩ => ⟨n + 1, _, s, by simp only [ev, step, h], q⟩⟩
theorem wp_draw {st : St} {is : List Ins} {sep : List (Nat × Nat)} {Q : Ex → St → Prop} : Wp X (.draw sep is) st Q ↔ WpDraw X is st fun s fs => sepOk fs sep = true ∧ Q .norm s :=
  ⟨fun ⟨n, x, s, h, q⟩ => by
    cases n with
    | zero => cases h
    | succ n =>
      simp only [ev, step] at h
      split at h
      · rename_i s1 fs h1
        split at h
        · rename_i hs; cases h; exact ⟨n, s, fs, h1, hs, q⟩
        · cases h
      · (cases h), fun ⟨n, s, fs, h, hs, q⟩ => ⟨n + 1, _, s, by simp only [ev, step, h, hs, if_true], q⟩⟩
/-- What follows, where the first part ends as it should. -/
def seqK (X : Cx) (b : MCode) (Q : Ex → St → Prop) : Ex → St → Prop
  | .norm, s => Wp X b s Q
  | .exit i, s => Q (.exit i) s
  | .ret, s => Q .ret s
theorem wp_seq {st : St} {a b : MCode} {Q : Ex → St → Prop} : Wp X (.seq a b) st Q ↔ Wp X a st (seqK X b Q) :=
  ⟨fun ⟨n, x, s, h, q⟩ => by
    cases n with
    | zero => cases h
    | succ n =>
      simp only [ev, step] at h
      split at h
      · rename_i s1 h1; exact ⟨n, .norm, s1, h1, n, x, s, h, q⟩
      · rename_i hne
        refine ⟨n, x, s, h, ?_⟩
        cases x with
        | norm => exact absurd h (hne s)
        | exit i => exact q
        | ret => exact q, fun ⟨n, x, s, h, q⟩ => by
    cases x with
    | norm =>
      obtain ⟨m, y, s2, h2, q2⟩ := q
      refine ⟨max n m + 1, y, s2, ?_, q2⟩
      simp only [ev, step]
      rw [ev_le X (Nat.le_max_left n m) _ _ _ _ h]
      exact ev_le X (Nat.le_max_right n m) _ _ _ _ h2
    | exit i => exact ⟨n + 1, .exit i, s, by simp only [ev, step, h], q⟩
    | ret => exact ⟨n + 1, .ret, s, by simp only [ev, step, h], q⟩⟩
theorem wp_loop {st : St} {b : MCode} {Q : Ex → St → Prop} : Wp X (.loop b) st Q ↔ Wp X b st (seqK X (.loop b) Q) :=
  ⟨fun ⟨n, x, s, h, q⟩ => by
    cases n with
    | zero => cases h
    | succ n =>
      simp only [ev, step] at h
      split at h
      · rename_i s1 h1; exact ⟨n, .norm, s1, h1, n, x, s, h, q⟩
      · rename_i hne
        refine ⟨n, x, s, h, ?_⟩
        cases x with
        | norm => exact absurd h (hne s)
        | exit i => exact q
        | ret => exact q, fun ⟨n, x, s, h, q⟩ => by
    cases x with
    | norm =>
      obtain ⟨m, y, s2, h2, q2⟩ := q
      refine ⟨max n m + 1, y, s2, ?_, q2⟩
      simp only [ev, step]
      rw [ev_le X (Nat.le_max_left n m) _ _ _ _ h]
      exact ev_le X (Nat.le_max_right n m) _ _ _ _ h2
    | exit i => exact ⟨n + 1, .exit i, s, by simp only [ev, step, h], q⟩
    | ret => exact ⟨n + 1, .ret, s, by simp only [ev, step, h], q⟩⟩
def condK (v : SV) (p q : Prop) : Prop := match v with
  | .bool true => p
  | .bool false => q
  | _ => False
theorem wp_cond {st : St} {c : Arg} {a b : MCode} {Q : Ex → St → Prop} : Wp X (.cond c a b) st Q ↔ condK (argV X st.env c) (Wp X a st Q) (Wp X b st Q) := by
  have key : ∀ n, ev X (n + 1) (.cond c a b) st = match argV X st.env c with | .bool true => ev X n a st | .bool false => ev X n b st | _ => none := fun n => rfl
  unfold condK
  constructor
  · rintro ⟨n, x, s, h, q⟩
    cases n with
    | zero => cases h
    | succ n =>
      rw [key] at h
      split at h
      · exact ⟨n, x, s, h, q⟩
      · exact ⟨n, x, s, h, q⟩
      · cases h
  · intro h
    split at h
    · rename_i hv
      obtain ⟨n, x, s, h, q⟩ := h
      exact ⟨n + 1, x, s, by rw [key, hv]; exact h, q⟩
    · rename_i hv
      obtain ⟨n, x, s, h, q⟩ := h
      exact ⟨n + 1, x, s, by rw [key, hv]; exact h, q⟩
    · cases h
def blockK (id : Nat) (Q : Ex → St → Prop) : Ex → St → Prop
  | .norm, s => Q .norm s
  | .exit j, s => if j = id then Q .norm s else Q (.exit j) s
  | .ret, s => Q .ret s
theorem wp_block {st : St} {id : Nat} {b : MCode} {Q : Ex → St → Prop} : Wp X (.block id b) st Q ↔ Wp X b st (blockK id Q) :=
  ⟨fun ⟨n, x, s, h, q⟩ => by
    cases n with
    | zero => cases h
    | succ n =>
      simp only [ev, step] at h
      split at h
      · rename_i j s1 h1
        split at h
        · rename_i hj; cases h; exact ⟨n, .exit j, s, h1, by show (if j = id then _ else _); rw [if_pos hj]; exact q⟩
        · rename_i hj; cases h; exact ⟨n, .exit j, s, h1, by show (if j = id then _ else _); rw [if_neg hj]; exact q⟩
      · rename_i hne
        refine ⟨n, x, s, h, ?_⟩
        cases x with
        | exit i => exact absurd h (hne i s)
        | norm => exact q
        | ret => exact q, fun ⟨n, x, s, h, q⟩ => by
    cases x with
    | exit j =>
      have q : (if j = id then Q .norm s else Q (.exit j) s) := q
      by_cases hj : j = id
      · rw [if_pos hj] at q; exact ⟨n + 1, .norm, s, by simp only [ev, step, h, hj, if_true], q⟩
      · rw [if_neg hj] at q; exact ⟨n + 1, .exit j, s, by simp only [ev, step, h, hj, if_false], q⟩
    | norm => exact ⟨n + 1, .norm, s, by simp only [ev, step, h], q⟩
    | ret => exact ⟨n + 1, .ret, s, by simp only [ev, step, h], q⟩⟩

/-- The head of a range over a function. -/
def rangeK (X : Cx) (ps : List Nat) (assign body : MCode) (st : St) (Q : Ex → St → Prop) : SV → Prop
  | .fn g pre caps => WpF X .rw g (pre ++ [.yld st.nx] ++ caps) { st with loops := (st.nx, { env := st.env, ps, assign, body, st := 0, pend := .norm }) :: st.loops, nx := st.nx + 1 } fun _ s =>
      ∃ r, look s.loops st.nx = some r ∧ r.st ≠ 1 ∧ Q r.pend { s with env := st.env, loops := del s.loops st.nx }
  | _ => False
theorem wp_range {st : St} {f : Arg} {ps : List Nat} {assign body : MCode} {Q : Ex → St → Prop} : Wp X (.range f ps assign body) st Q ↔ rangeK X ps assign body st Q (argV X st.env f) := by
  constructor
  · rintro ⟨n, x, s, h, q⟩
    cases n with
    | zero => cases h
    | succ n =>
      simp only [ev, step] at h
      split at h
      · rename_i g pre caps hf
        rw [hf]
        split at h
        · rename_i v s1 h1
          refine ⟨n, v, s1, h1, ?_⟩
          split at h
          · rename_i r hr
            split at h
            · cases h
            · rename_i hst
              cases h
              exact ⟨r, hr, hst, q⟩
          · cases h
        · cases h
      · cases h
  · intro h
    cases hf : argV X st.env f with
    | fn g pre caps =>
      rw [hf] at h
      obtain ⟨n, v, s, h1, r, h2, h3, q⟩ := h
      exact ⟨n + 1, _, _, by simp only [ev, step, hf, h1, h2, h3, if_false], q⟩
    | _ => rw [hf] at h; exact h.elim

theorem wpOps_nil {st : St} {Q : St → Prop} : WpOps X [] st Q ↔ Q st := ⟨fun ⟨n, s, h, q⟩ => by cases h; exact q, fun q => ⟨0, st, rfl, q⟩⟩
theorem wpOps_cons {st : St} {i : Ins} {is : List Ins} {Q : St → Prop} : WpOps X (i :: is) st Q ↔ WpIns X i st fun s => WpOps X is s Q :=
  ⟨fun ⟨n, s, h, q⟩ => by
    simp only [evOps] at h
    split at h
    · rename_i s1 h1; exact ⟨n, s1, h1, n, s, h, q⟩
    · (cases h), fun ⟨n, s1, h1, m, s, h, q⟩ => ⟨max n m, s, by
      simp only [evOps, evIns_mono (ev_le X (Nat.le_max_left n m)) h1]
      exact evOps_mono (ev_le X (Nat.le_max_right n m)) h, q⟩⟩
theorem wpDraw_nil {st : St} {Q : St → List FP → Prop} : WpDraw X [] st Q ↔ Q st [] := ⟨fun ⟨n, s, fs, h, q⟩ => by cases h; exact q, fun q => ⟨0, st, [], rfl, q⟩⟩
theorem wpDraw_cons {st : St} {i : Ins} {is : List Ins} {Q : St → List FP → Prop} : WpDraw X (i :: is) st Q ↔ WpIns X i st fun s => unused st.heap st.nx s.nx = true ∧ WpDraw X is s fun s2 fs => Q s2 (fpI X i st s :: fs) :=
  ⟨fun ⟨n, s, fs, h, q⟩ => by
    simp only [evDraw] at h
    split at h
    · rename_i s1 h1
      split at h
      · rename_i hu
        split at h
        · rename_i s2 fs2 h2; cases h; exact ⟨n, s1, h1, hu, n, s, fs2, h2, q⟩
        · cases h
      · cases h
    · (cases h), fun ⟨n, s1, h1, hu, m, s, fs, h, q⟩ => ⟨max n m, s, _, by
      simp only [evDraw, evIns_mono (ev_le X (Nat.le_max_left n m)) h1, hu, if_true, evDraw_mono (ev_le X (Nat.le_max_right n m)) h], q⟩⟩
def guardK (g : Option Bool) (p q : Prop) : Prop := match g with
  | some true => p
  | some false => q
  | none => False
theorem wpIns {st : St} {d : Option Nat} {g : Option (Nat × Bool)} {o : MOp} {Q : St → Prop} : WpIns X ⟨d, g, o⟩ st Q ↔ guardK (guardB st.env g) (WpOp X o st fun v s => Q (putE s d v)) (Q (putE st d (.tup []))) := by
  unfold guardK
  constructor
  · rintro ⟨n, s, h, q⟩
    simp only [evIns] at h
    split at h
    · rename_i hg
      simp only [hg]
      split at h
      · rename_i v s1 h1; cases h; exact ⟨n, v, s1, h1, q⟩
      · cases h
    · rename_i hg; simp only [hg]; cases h; exact q
    · cases h
  · intro h
    split at h
    · rename_i hg
      obtain ⟨n, v, s, h1, q⟩ := h
      exact ⟨n, _, by simp only [evIns, hg, h1], q⟩
    · rename_i hg
      exact ⟨0, _, by simp only [evIns, hg], h⟩
    · exact h.elim
def rK (r : Option (SV × Option (List SV))) (st : St) (Q : SV → St → Prop) : Prop := match r with
  | some (v, none) => Q v st
  | some (v, some cs) => Q v { st with heap := (st.nx, cs) :: st.heap, nx := st.nx + 1 }
  | none => False
theorem wpOp_r {st : St} {o : ROp} {Q : SV → St → Prop} : WpOp X (.r o) st Q ↔ rK (evR (look st.heap) st.nx (argV X st.env) o) st Q := by
  unfold rK
  constructor
  · rintro ⟨n, v, s, h, q⟩
    simp only [evOp] at h
    split at h
    · rename_i h1; cases h; simp only [h1]; exact q
    · rename_i h1; cases h; simp only [h1]; exact q
    · cases h
  · intro h
    split at h
    · rename_i h1; exact ⟨0, _, _, by simp only [evOp, h1], h⟩
    · rename_i h1; exact ⟨0, _, _, by simp only [evOp, h1], h⟩
    · exact h.elim
def wK (r : Option (SV × Mods × Nat)) (st : St) (Q : SV → St → Prop) : Prop := match r with
  | some (v, ms, nx) => Q v { st with heap := appM st.heap ms, nx := nx }
  | none => False
theorem wpOp_w {st : St} {o : WOp} {Q : SV → St → Prop} : WpOp X (.w o) st Q ↔ wK (evW st.wb (look st.heap) st.nx (argV X st.env) o) st Q := by
  unfold wK
  constructor
  · rintro ⟨n, v, s, h, q⟩
    simp only [evOp] at h
    split at h
    · rename_i h1; cases h; simp only [h1]; exact q
    · cases h
  · intro h
    split at h
    · rename_i h1; exact ⟨0, _, _, by simp only [evOp, h1], h⟩
    · exact h.elim
def callK (X : Cx) (m : Mode) (args : List SV) (st : St) (Q : SV → St → Prop) : SV → Prop
  | .fn g pre caps => WpF X m g (pre ++ args ++ caps) st Q
  | .yld l => m = .rw ∧ WpY X l args st Q
  | _ => False
theorem wpOp_call {st : St} {m : Mode} {f : Arg} {as : List Arg} {Q : SV → St → Prop} : WpOp X (.call m f as) st Q ↔ callK X m (as.map (argV X st.env)) st Q (argV X st.env f) := by
  constructor
  · rintro ⟨n, v, s, h, q⟩
    simp only [evOp, callV] at h
    split at h
    · rename_i hf; rw [hf]; exact ⟨n, v, s, h, q⟩
    · rename_i hf
      rw [hf]
      split at h
      · rename_i hm; exact ⟨hm, n, v, s, h, q⟩
      · cases h
    · cases h
  · intro h
    cases hf : argV X st.env f with
    | fn g pre caps =>
      rw [hf] at h
      obtain ⟨n, v, s, h, q⟩ := h
      exact ⟨n, v, s, by simp only [evOp, callV, hf]; exact h, q⟩
    | yld l =>
      rw [hf] at h
      obtain ⟨hm, n, v, s, h, q⟩ := h
      exact ⟨n, v, s, by simp only [evOp, callV, hf, hm, if_true]; exact h, q⟩
    | _ => rw [hf] at h; exact h.elim

/-- What a body that has ended hands back. -/
def endK (rs : List MRes) (Q : SV → St → Prop) : Ex → St → Prop
  | .exit _, _ => False
  | _, s => ∃ r, resOf s.env s.heap rs = some r ∧ Q r s
theorem wpRun {mf : MFun} {st : St} {Q : SV → St → Prop} : WpRun X mf st Q ↔ Wp X mf.code st (endK mf.res Q) := by
  constructor
  · rintro ⟨n, v, s, h, q⟩
    unfold runF at h
    split at h
    · cases h
    · rename_i x s1 hne h1
      split at h
      · rename_i r hr
        cases h
        refine ⟨n, x, s, h1, ?_⟩
        cases x with
        | exit i => exact absurd rfl (hne i)
        | norm => exact ⟨_, hr, q⟩
        | ret => exact ⟨_, hr, q⟩
      · cases h
    · cases h
  · rintro ⟨n, x, s, h, q⟩
    cases x with
    | exit i => exact q.elim
    | norm =>
      obtain ⟨r, hr, q⟩ := q
      exact ⟨n, r, s, by unfold runF; simp only [h, hr], q⟩
    | ret =>
      obtain ⟨r, hr, q⟩ := q
      exact ⟨n, r, s, by unfold runF; simp only [h, hr], q⟩
theorem wpF_rw {f : Nat} {mf : MFun} (hf : X.fns f = some mf) {args : List SV} {st : St} {Q : SV → St → Prop} : WpF X .rw f args st Q ↔ WpRun X mf { st with env := argE 0 args } fun r s => Q r { s with env := st.env } := by
  constructor
  · rintro ⟨n, v, s, h, q⟩
    simp only [callF, hf] at h
    split at h
    · rename_i r s1 h1; cases h; exact ⟨n, v, s1, h1, q⟩
    · cases h
  · rintro ⟨n, v, s, h, q⟩
    exact ⟨n, v, _, by simp only [callF, hf, h], q⟩
theorem wpF_ro {f : Nat} {mf : MFun} (hf : X.fns f = some mf) {args : List SV} (hp : args.all plain = true) {st : St} {Q : SV → St → Prop} : WpF X .ro f args st Q ↔ WpRun X mf { env := argE 0 args, heap := [], nx := 0, loops := [], wb := 0 } fun r s => ∃ v, expo 0 (look s.heap) r = some v ∧ Q v st := by
  constructor
  · rintro ⟨n, v, s, h, q⟩
    simp only [callF, hf, hp, if_true] at h
    split at h
    · rename_i r s1 h1
      split at h
      · rename_i v' hv; cases h; exact ⟨n, r, s1, h1, v, hv, q⟩
      · cases h
    · cases h
  · rintro ⟨n, r, s, h, v, hv, q⟩
    exact ⟨n, v, st, by simp only [callF, hf, hp, if_true, h, hv], q⟩
theorem wpF_roh {f : Nat} {mf : MFun} (hf : X.fns f = some mf) {args : List SV} (hp : args.all plain = false) {st : St} {Q : SV → St → Prop} : WpF X .ro f args st Q ↔ WpRun X mf { env := argE 0 args, heap := st.heap, nx := st.nx, loops := [], wb := st.nx } fun r s => ∃ v, expo st.nx (look s.heap) r = some v ∧ Q v st := by
  constructor
  · rintro ⟨n, v, s, h, q⟩
    simp only [callF, hf, hp, if_false, Bool.false_eq_true] at h
    split at h
    · rename_i r s1 h1
      split at h
      · rename_i v' hv; cases h; exact ⟨n, r, s1, h1, v, hv, q⟩
      · cases h
    · cases h
  · rintro ⟨n, r, s, h, v, hv, q⟩
    exact ⟨n, v, st, by simp only [callF, hf, hp, if_false, Bool.false_eq_true, h, hv], q⟩
/-- A yield: the body of the range is run. -/
theorem wpY {l : Nat} {args : List SV} {st : St} {r : LRec} (h0 : look st.loops l = some r) (hl : args.length = r.ps.length) {Q : SV → St → Prop} :
    WpY X l args st Q ↔ Wp X r.assign { st with env := bindE r.ps args r.env } fun x s2 => x = .norm ∧ ∃ r2, look s2.loops l = some r2 ∧ r2.st = 0 ∧ Wp X r.body { s2 with loops := upd s2.loops l { r2 with st := 1 } } fun x s3 => ∃ r3, look s3.loops l = some r3 ∧
      Q (.bool (x == .norm)) { s3 with env := st.env, loops := upd s3.loops l { r3 with st := if x == .norm then 0 else 2, pend := x } } := by
  constructor
  · rintro ⟨n, v, s, h, q⟩
    simp only [callY, h0, hl, if_true] at h
    split at h
    · rename_i s2 h1
      refine ⟨n, .norm, s2, h1, rfl, ?_⟩
      split at h
      · rename_i r2 h2
        refine ⟨r2, h2, ?_⟩
        split at h
        · rename_i h3
          refine ⟨h3, ?_⟩
          split at h
          · rename_i x s3 h4
            refine ⟨n, x, s3, h4, ?_⟩
            split at h
            · rename_i r3 h5
              cases h
              exact ⟨r3, h5, q⟩
            · cases h
          · cases h
        · cases h
      · cases h
    · cases h
  · rintro ⟨n, x, s2, h1, rfl, r2, h2, h3, m, y, s3, h4, r3, h5, q⟩
    refine ⟨max n m, _, _, ?_, q⟩
    simp only [callY, h0, hl, if_true, ev_le X (Nat.le_max_left n m) _ _ _ _ h1, h2, h3, ev_le X (Nat.le_max_right n m) _ _ _ _ h4, h5]

/-- The head of a loop looks at the live slots alone. -/
theorem wp_loop_env {l : List Nat} {b : MCode} {st : St} {Q : Ex → St → Prop} : Wp X (.loop (.trim l b)) st Q ↔ Wp X (.loop (.trim l b)) { st with env := l.map fun t => (t, getE st.env t) } Q := by
  have key : ∀ (l : List Nat) (e : Env), (l.map fun t => (t, getE (l.map fun t => (t, getE e t)) t)) = l.map fun t => (t, getE e t) := by
    intro l e
    have h1 : ∀ (m : List Nat) (t : Nat), t ∈ m → getE (m.map fun t => (t, getE e t)) t = getE e t := by
      intro m
      induction m with
      | nil => intro t h; cases h
      | cons a m ih =>
        intro t h
        rw [List.map_cons, getE]
        by_cases ha : a = t
        · subst ha; rw [if_pos rfl]
        · rw [if_neg ha]
          rcases List.mem_cons.1 h with h | h
          · exact absurd h.symm ha
          · exact ih t h
    exact List.map_congr_left fun t ht => by rw [h1 l t ht]
  rw [wp_loop, wp_loop, wp_trim, wp_trim]
  simp only [key]
end
end Go.Proofs.YtfmbdcmjgnikiaaGreatDoor.Sm
namespace Go.Proofs.YtfmbdcmjgnikiaaGreatDoor.Sm
open Go Go.RowKit

section
variable {X : Cx} {e : Env} {h : Heap} {nx wb : Nat} {ls : List (Nat × LRec)} {v : SV} {st : St}

def gB : SV → Bool → Option Bool
  | .bool c, b => some (c == b)
  | .tup [], _ => some false
  | _, _ => none
theorem guardB_s {t : Nat} {b : Bool} : guardB e (some (t, b)) = gB (getE e t) b := by
  show (match getE e t with | .bool c => some (c == b) | .tup [] => some false | _ => none) = _
  cases getE e t with
  | tup cs => cases cs <;> rfl
  | _ => rfl
theorem gB_tt : gB (.bool true) true = some true := rfl
theorem gB_tf : gB (.bool true) false = some false := rfl
theorem gB_ft : gB (.bool false) true = some false := rfl
theorem gB_ff : gB (.bool false) false = some true := rfl
theorem gB_s {b : Bool} : gB (.tup []) b = some false := rfl
/-- What follows an operation: the rest of the region. -/
def opsK (X : Cx) (d : Option Nat) (is : List Ins) (Q : St → Prop) : SV → St → Prop := fun v s => WpOps X is (putE s d v) Q
theorem opsK_a {d : Option Nat} {is : List Ins} {Q : St → Prop} : opsK X d is Q v st ↔ WpOps X is (putE st d v) Q := Iff.rfl
def rO (X : Cx) (r : Option (SV × Option (List SV))) (st : St) (d : Option Nat) (is : List Ins) (Q : St → Prop) : Prop := rK r st (opsK X d is Q)
theorem rO_v {d : Option Nat} {is : List Ins} {Q : St → Prop} : rO X (some (v, none)) st d is Q ↔ WpOps X is (putE st d v) Q := Iff.rfl
theorem rO_n {cs : List SV} {d : Option Nat} {is : List Ins} {Q : St → Prop} : rO X (some (v, some cs)) ⟨e, h, nx, ls, wb⟩ d is Q ↔ WpOps X is (putE ⟨e, (nx, cs) :: h, nx + 1, ls, wb⟩ d v) Q := Iff.rfl
def wO (X : Cx) (r : Option (SV × Mods × Nat)) (st : St) (d : Option Nat) (is : List Ins) (Q : St → Prop) : Prop := wK r st (opsK X d is Q)
theorem wO_v {ms : Mods} {nx' : Nat} {d : Option Nat} {is : List Ins} {Q : St → Prop} : wO X (some (v, ms, nx')) ⟨e, h, nx, ls, wb⟩ d is Q ↔ WpOps X is (putE ⟨e, appM h ms, nx', ls, wb⟩ d v) Q := Iff.rfl
def gO (X : Cx) (g : Option Bool) (d : Option Nat) (o : MOp) (is : List Ins) (st : St) (Q : St → Prop) : Prop := guardK g (WpOps X (⟨d, none, o⟩ :: is) st Q) (WpOps X is (putE st d (.tup [])) Q)
theorem gO_t {d : Option Nat} {o : MOp} {is : List Ins} {Q : St → Prop} : gO X (some true) d o is st Q ↔ WpOps X (⟨d, none, o⟩ :: is) st Q := Iff.rfl
theorem gO_f {d : Option Nat} {o : MOp} {is : List Ins} {Q : St → Prop} : gO X (some false) d o is st Q ↔ WpOps X is (putE st d (.tup [])) Q := Iff.rfl
theorem ops_n {Q : St → Prop} : WpOps X [] st Q ↔ Q st := wpOps_nil
theorem ops_r {d : Option Nat} {o : ROp} {is : List Ins} {Q : St → Prop} : WpOps X (⟨d, none, .r o⟩ :: is) ⟨e, h, nx, ls, wb⟩ Q ↔ rO X (evR (look h) nx (argV X e) o) ⟨e, h, nx, ls, wb⟩ d is Q := by
  rw [wpOps_cons, wpIns]
  exact wpOp_r
theorem ops_w {d : Option Nat} {o : WOp} {is : List Ins} {Q : St → Prop} : WpOps X (⟨d, none, .w o⟩ :: is) ⟨e, h, nx, ls, wb⟩ Q ↔ wO X (evW wb (look h) nx (argV X e) o) ⟨e, h, nx, ls, wb⟩ d is Q := by
  rw [wpOps_cons, wpIns]
  exact wpOp_w
theorem ops_c {d : Option Nat} {m : Mode} {f : Arg} {as : List Arg} {is : List Ins} {Q : St → Prop} : WpOps X (⟨d, none, .call m f as⟩ :: is) ⟨e, h, nx, ls, wb⟩ Q ↔ callK X m (as.map (argV X e)) ⟨e, h, nx, ls, wb⟩ (opsK X d is Q) (argV X e f) := by
  rw [wpOps_cons, wpIns]
  exact wpOp_call
theorem ops_g {d : Option Nat} {t : Nat} {b : Bool} {o : MOp} {is : List Ins} {Q : St → Prop} : WpOps X (⟨d, some (t, b), o⟩ :: is) ⟨e, h, nx, ls, wb⟩ Q ↔ gO X (gB (getE e t) b) d o is ⟨e, h, nx, ls, wb⟩ Q := by
  rw [wpOps_cons, wpIns, guardB_s]
  unfold gO
  rw [wpOps_cons, wpIns]
  exact Iff.rfl
theorem callK_f {m : Mode} {args pre caps : List SV} {g : Nat} {Q : SV → St → Prop} : callK X m args st Q (.fn g pre caps) ↔ WpF X m g (pre ++ args ++ caps) st Q := Iff.rfl
theorem callK_y {args : List SV} {l : Nat} {Q : SV → St → Prop} : callK X .rw args st Q (.yld l) ↔ WpY X l args st Q := ⟨fun h => h.2, fun h => ⟨rfl, h⟩⟩

/-! ### regions whose order is open -/
def DrK (X : Cx) (is : List Ins) (sep : List (Nat × Nat)) (acc : List FP) (Q : St → Prop) (st : St) : Prop := WpDraw X is st fun s fs => sepOk (acc ++ fs) sep = true ∧ Q s
theorem dr_0 {is : List Ins} {sep : List (Nat × Nat)} {Q : Ex → St → Prop} : Wp X (.draw sep is) st Q ↔ DrK X is sep [] (Q .norm) st := wp_draw
theorem dr_n {sep : List (Nat × Nat)} {acc : List FP} {Q : St → Prop} : DrK X [] sep acc Q st ↔ sepOk acc sep = true ∧ Q st := by
  unfold DrK
  rw [wpDraw_nil, List.append_nil]
theorem dr_c0 {i : Ins} {is : List Ins} {sep : List (Nat × Nat)} {acc : List FP} {Q : St → Prop} : DrK X (i :: is) sep acc Q st ↔ WpIns X i st fun s => unused st.heap st.nx s.nx = true ∧ DrK X is sep (acc ++ [fpI X i st s]) Q s := by
  unfold DrK
  rw [wpDraw_cons]
  simp only [List.append_assoc, List.singleton_append]
theorem unused_same : unused h nx nx = true := by simp [unused]
def rD (X : Cx) (r : Option (SV × Option (List SV))) (st : St) (d : Option Nat) (is : List Ins) (rd : List Nat) (sep : List (Nat × Nat)) (acc : List FP) (Q : St → Prop) : Prop := rK r st fun v s => unused st.heap st.nx s.nx = true ∧ DrK X is sep (acc ++ [.rd rd [] st.nx s.nx]) Q (putE s d v)
theorem putE_nx' {d : Option Nat} : (putE st d v).nx = st.nx := by cases d <;> rfl
theorem rD_v {d : Option Nat} {is : List Ins} {rd : List Nat} {sep : List (Nat × Nat)} {acc : List FP} {Q : St → Prop} : rD X (some (v, none)) ⟨e, h, nx, ls, wb⟩ d is rd sep acc Q ↔ DrK X is sep (acc ++ [.rd rd [] nx nx]) Q (putE ⟨e, h, nx, ls, wb⟩ d v) := by
  show (unused h nx nx = true ∧ _) ↔ _
  rw [unused_same]
  simp only [true_and]
theorem rD_n {cs : List SV} {d : Option Nat} {is : List Ins} {rd : List Nat} {sep : List (Nat × Nat)} {acc : List FP} {Q : St → Prop} : rD X (some (v, some cs)) ⟨e, h, nx, ls, wb⟩ d is rd sep acc Q ↔ look h nx = none ∧ DrK X is sep (acc ++ [.rd rd [] nx (nx + 1)]) Q (putE ⟨e, (nx, cs) :: h, nx + 1, ls, wb⟩ d v) := by
  show (unused h nx (nx + 1) = true ∧ _) ↔ _
  have : unused h nx (nx + 1) = true ↔ look h nx = none := by simp [unused]
  rw [this]
theorem dr_r {d : Option Nat} {o : ROp} {is : List Ins} {sep : List (Nat × Nat)} {acc : List FP} {Q : St → Prop} : DrK X (⟨d, none, .r o⟩ :: is) sep acc Q ⟨e, h, nx, ls, wb⟩ ↔ rD X (evR (look h) nx (argV X e) o) ⟨e, h, nx, ls, wb⟩ d is (rdR (argV X e) o) sep acc Q := by
  rw [dr_c0, wpIns]
  show WpOp X (.r o) _ _ ↔ _
  rw [wpOp_r]
  unfold rD
  simp only [putE_nx', fpI, guardB, fpO]
def wD (X : Cx) (r : Option (SV × Mods × Nat)) (st : St) (d : Option Nat) (is : List Ins) (rd : List Nat × List Nat) (sep : List (Nat × Nat)) (acc : List FP) (Q : St → Prop) : Prop := wK r st fun v s => unused st.heap st.nx s.nx = true ∧ DrK X is sep (acc ++ [.rd rd.1 rd.2 st.nx s.nx]) Q (putE s d v)
theorem wD_v {ms : Mods} {nx' : Nat} {d : Option Nat} {is : List Ins} {rd : List Nat × List Nat} {sep : List (Nat × Nat)} {acc : List FP} {Q : St → Prop} : wD X (some (v, ms, nx')) ⟨e, h, nx, ls, wb⟩ d is rd sep acc Q ↔ unused h nx nx' = true ∧ DrK X is sep (acc ++ [.rd rd.1 rd.2 nx nx']) Q (putE ⟨e, appM h ms, nx', ls, wb⟩ d v) := Iff.rfl
theorem dr_w {d : Option Nat} {o : WOp} {is : List Ins} {sep : List (Nat × Nat)} {acc : List FP} {Q : St → Prop} : DrK X (⟨d, none, .w o⟩ :: is) sep acc Q ⟨e, h, nx, ls, wb⟩ ↔ wD X (evW wb (look h) nx (argV X e) o) ⟨e, h, nx, ls, wb⟩ d is (rdW (argV X e) o) sep acc Q := by
  rw [dr_c0, wpIns]
  show WpOp X (.w o) _ _ ↔ _
  rw [wpOp_w]
  unfold wD
  simp only [putE_nx', fpI, guardB, fpO]
def dcK (X : Cx) (d : Option Nat) (m : Mode) (f : Arg) (as : List Arg) (is : List Ins) (sep : List (Nat × Nat)) (acc : List FP) (Q : St → Prop) (st : St) : SV → St → Prop := fun v s => unused st.heap st.nx s.nx = true ∧ DrK X is sep (acc ++ [fpO (argV X st.env) st.nx s.nx (.call m f as)]) Q (putE s d v)
theorem dcK_a {d : Option Nat} {m : Mode} {f : Arg} {as : List Arg} {is : List Ins} {sep : List (Nat × Nat)} {acc : List FP} {Q : St → Prop} {e' : Env} {h' : Heap} {nx' wb' : Nat} {ls' : List (Nat × LRec)} : dcK X d m f as is sep acc Q ⟨e, h, nx, ls, wb⟩ v ⟨e', h', nx', ls', wb'⟩ ↔ unused h nx nx' = true ∧ DrK X is sep (acc ++ [fpO (argV X e) nx nx' (.call m f as)]) Q (putE ⟨e', h', nx', ls', wb'⟩ d v) := Iff.rfl
theorem dr_c {d : Option Nat} {m : Mode} {f : Arg} {as : List Arg} {is : List Ins} {sep : List (Nat × Nat)} {acc : List FP} {Q : St → Prop} : DrK X (⟨d, none, .call m f as⟩ :: is) sep acc Q ⟨e, h, nx, ls, wb⟩ ↔ callK X m (as.map (argV X e)) ⟨e, h, nx, ls, wb⟩ (dcK X d m f as is sep acc Q ⟨e, h, nx, ls, wb⟩) (argV X e f) := by
  rw [dr_c0, wpIns]
  show WpOp X (.call m f as) _ _ ↔ _
  rw [wpOp_call]
  have : (fun v s => unused (St.mk e h nx ls wb).heap (St.mk e h nx ls wb).nx (putE s d v).nx = true ∧ DrK X is sep (acc ++ [fpI X ⟨d, none, .call m f as⟩ ⟨e, h, nx, ls, wb⟩ (putE s d v)]) Q (putE s d v)) = dcK X d m f as is sep acc Q ⟨e, h, nx, ls, wb⟩ := by
    funext v s
    unfold dcK
    simp only [putE_nx', fpI, guardB]
  rw [this]
def gD (X : Cx) (g : Option Bool) (d : Option Nat) (o : MOp) (is : List Ins) (sep : List (Nat × Nat)) (acc : List FP) (Q : St → Prop) (st : St) : Prop := guardK g (DrK X (⟨d, none, o⟩ :: is) sep acc Q st) (DrK X is sep (acc ++ [.rd [] [] st.nx st.nx]) Q (putE st d (.tup [])))
theorem gD_t {d : Option Nat} {o : MOp} {is : List Ins} {sep : List (Nat × Nat)} {acc : List FP} {Q : St → Prop} : gD X (some true) d o is sep acc Q st ↔ DrK X (⟨d, none, o⟩ :: is) sep acc Q st := Iff.rfl
theorem gD_f {d : Option Nat} {o : MOp} {is : List Ins} {sep : List (Nat × Nat)} {acc : List FP} {Q : St → Prop} : gD X (some false) d o is sep acc Q st ↔ DrK X is sep (acc ++ [.rd [] [] st.nx st.nx]) Q (putE st d (.tup [])) := Iff.rfl
theorem fpI_g {d : Option Nat} {t : Nat} {b : Bool} {o : MOp} {s : St} : fpI X ⟨d, some (t, b), o⟩ st s = match gB (getE st.env t) b with | some true => fpO (argV X st.env) st.nx s.nx o | _ => .rd [] [] st.nx s.nx := by
  show (match guardB st.env (some (t, b)) with | some true => _ | _ => _) = _
  rw [guardB_s]
theorem fpI_n {d : Option Nat} {o : MOp} {s : St} : fpI X ⟨d, none, o⟩ st s = fpO (argV X st.env) st.nx s.nx o := rfl
theorem dr_g {d : Option Nat} {t : Nat} {b : Bool} {o : MOp} {is : List Ins} {sep : List (Nat × Nat)} {acc : List FP} {Q : St → Prop} : DrK X (⟨d, some (t, b), o⟩ :: is) sep acc Q ⟨e, h, nx, ls, wb⟩ ↔ gD X (gB (getE e t) b) d o is sep acc Q ⟨e, h, nx, ls, wb⟩ := by
  rw [dr_c0, wpIns, guardB_s]
  unfold gD
  rw [dr_c0, wpIns]
  simp only [fpI_g, fpI_n, guardB]
  cases hg : gB (getE e t) b with
  | none => exact Iff.rfl
  | some c =>
    cases c with
    | true => exact Iff.rfl
    | false =>
      simp only [guardK, putE_nx', unused_same, true_and]

/-! ### control -/
def condC (X : Cx) (v : SV) (a b : MCode) (st : St) (Q : Ex → St → Prop) : Prop := condK v (Wp X a st Q) (Wp X b st Q)
theorem wp_condC {c : Arg} {a b : MCode} {Q : Ex → St → Prop} : Wp X (.cond c a b) ⟨e, h, nx, ls, wb⟩ Q ↔ condC X (argV X e c) a b ⟨e, h, nx, ls, wb⟩ Q := wp_cond
theorem condC_t {a b : MCode} {Q : Ex → St → Prop} : condC X (.bool true) a b st Q ↔ Wp X a st Q := Iff.rfl
theorem condC_f {a b : MCode} {Q : Ex → St → Prop} : condC X (.bool false) a b st Q ↔ Wp X b st Q := Iff.rfl
theorem condC_b {c : Bool} {a b : MCode} {Q : Ex → St → Prop} : condC X (.bool c) a b st Q ↔ if c = true then Wp X a st Q else Wp X b st Q := by cases c <;> exact Iff.rfl
theorem seqK_n {b : MCode} {Q : Ex → St → Prop} : seqK X b Q .norm st ↔ Wp X b st Q := Iff.rfl
theorem seqK_e {b : MCode} {Q : Ex → St → Prop} {i : Nat} : seqK X b Q (.exit i) st ↔ Q (.exit i) st := Iff.rfl
theorem seqK_r {b : MCode} {Q : Ex → St → Prop} : seqK X b Q .ret st ↔ Q .ret st := Iff.rfl
theorem blockK_n {id : Nat} {Q : Ex → St → Prop} : blockK id Q .norm st ↔ Q .norm st := Iff.rfl
theorem blockK_e {id i : Nat} {Q : Ex → St → Prop} : blockK id Q (.exit i) st ↔ if i = id then Q .norm st else Q (.exit i) st := Iff.rfl
theorem blockK_r {id : Nat} {Q : Ex → St → Prop} : blockK id Q .ret st ↔ Q .ret st := Iff.rfl
def reK (r : Option SV) (Q : SV → St → Prop) (st : St) : Prop := ∃ v, r = some v ∧ Q v st
theorem reK_s {Q : SV → St → Prop} : reK (some v) Q st ↔ Q v st := by simp [reK]
theorem endK_n {rs : List MRes} {Q : SV → St → Prop} : endK rs Q .norm ⟨e, h, nx, ls, wb⟩ ↔ reK (resOf e h rs) Q ⟨e, h, nx, ls, wb⟩ := Iff.rfl
theorem endK_r {rs : List MRes} {Q : SV → St → Prop} : endK rs Q .ret ⟨e, h, nx, ls, wb⟩ ↔ reK (resOf e h rs) Q ⟨e, h, nx, ls, wb⟩ := Iff.rfl
/-- What a caller gets. -/
def roK (lo : Nat) (Q : SV → St → Prop) (st0 : St) : SV → St → Prop := fun r s => reK (expo lo (look s.heap) r) Q st0
theorem roK_a {lo : Nat} {Q : SV → St → Prop} {st0 : St} : roK lo Q st0 v ⟨e, h, nx, ls, wb⟩ ↔ reK (expo lo (look h) v) Q st0 := Iff.rfl
def rwK (e0 : Env) (Q : SV → St → Prop) : SV → St → Prop := fun r s => Q r { s with env := e0 }
theorem rwK_a {e0 : Env} {Q : SV → St → Prop} : rwK e0 Q v ⟨e, h, nx, ls, wb⟩ ↔ Q v ⟨e0, h, nx, ls, wb⟩ := Iff.rfl
theorem F_rw {f : Nat} {mf : MFun} (hf : X.fns f = some mf) {args : List SV} {Q : SV → St → Prop} : WpF X .rw f args ⟨e, h, nx, ls, wb⟩ Q ↔ Wp X mf.code ⟨argE 0 args, h, nx, ls, wb⟩ (endK mf.res (rwK e Q)) := by
  rw [wpF_rw hf, wpRun]
  exact Iff.rfl
theorem F_ro {f : Nat} {mf : MFun} (hf : X.fns f = some mf) {args : List SV} (hp : args.all plain = true) {Q : SV → St → Prop} : WpF X .ro f args st Q ↔ Wp X mf.code ⟨argE 0 args, [], 0, [], 0⟩ (endK mf.res (roK 0 Q st)) := by
  rw [wpF_ro hf hp, wpRun]
  exact Iff.rfl
theorem F_roh {f : Nat} {mf : MFun} (hf : X.fns f = some mf) {args : List SV} (hp : args.all plain = false) {Q : SV → St → Prop} : WpF X .ro f args ⟨e, h, nx, ls, wb⟩ Q ↔ Wp X mf.code ⟨argE 0 args, h, nx, [], nx⟩ (endK mf.res (roK nx Q ⟨e, h, nx, ls, wb⟩)) := by
  rw [wpF_roh hf hp, wpRun]
  exact Iff.rfl
/-- What follows a range over a function. -/
def rgK (l : Nat) (e0 : Env) (Q : Ex → St → Prop) : SV → St → Prop := fun _ s => ∃ r, look s.loops l = some r ∧ r.st ≠ 1 ∧ Q r.pend { s with env := e0, loops := del s.loops l }
def rg2 (l : Nat) (e0 : Env) (Q : Ex → St → Prop) (s : St) : Option LRec → Prop
  | some r => r.st ≠ 1 ∧ Q r.pend { s with env := e0, loops := del s.loops l }
  | none => False
theorem rgK_a {l : Nat} {e0 : Env} {Q : Ex → St → Prop} : rgK l e0 Q v ⟨e, h, nx, ls, wb⟩ ↔ rg2 l e0 Q ⟨e, h, nx, ls, wb⟩ (look ls l) := by
  unfold rgK rg2
  cases hl : look ls l with
  | none => simp
  | some r => simp
theorem rg2_s {l : Nat} {e0 e' : Env} {Q : Ex → St → Prop} {ps : List Nat} {as bd : MCode} {s' : Nat} {pd : Ex} : rg2 l e0 Q ⟨e, h, nx, ls, wb⟩ (some ⟨e', ps, as, bd, s', pd⟩) ↔ s' ≠ 1 ∧ Q pd ⟨e0, h, nx, del ls l, wb⟩ := Iff.rfl
def rangeC (X : Cx) (ps : List Nat) (assign body : MCode) (st : St) (Q : Ex → St → Prop) (f : SV) : Prop := rangeK X ps assign body st Q f
theorem wp_rangeC {f : Arg} {ps : List Nat} {assign body : MCode} {Q : Ex → St → Prop} : Wp X (.range f ps assign body) ⟨e, h, nx, ls, wb⟩ Q ↔ rangeC X ps assign body ⟨e, h, nx, ls, wb⟩ Q (argV X e f) := wp_range
theorem rangeC_f {ps : List Nat} {assign body : MCode} {pre caps : List SV} {g : Nat} {Q : Ex → St → Prop} : rangeC X ps assign body ⟨e, h, nx, ls, wb⟩ Q (.fn g pre caps) ↔ WpF X .rw g (pre ++ [.yld nx] ++ caps) ⟨e, h, nx + 1, (nx, ⟨e, ps, assign, body, 0, .norm⟩) :: ls, wb⟩ (rgK nx e Q) := Iff.rfl
theorem putE_s {d : Nat} : putE ⟨e, h, nx, ls, wb⟩ (some d) v = ⟨(d, v) :: e, h, nx, ls, wb⟩ := rfl
theorem putE_n : putE ⟨e, h, nx, ls, wb⟩ none v = ⟨e, h, nx, ls, wb⟩ := rfl
theorem argV_t {t : Nat} : argV X e (.t t) = getE e t := rfl
theorem argV_c : argV X e (.c v) = v := rfl
theorem getE_c {k t : Nat} : getE ((k, v) :: e) t = if k = t then v else getE e t := rfl
theorem getE_n {t : Nat} : getE [] t = .undef := rfl
theorem look_c {α : Type} {k t : Nat} {x : α} {r : List (Nat × α)} : look ((k, x) :: r) t = if k = t then some x else look r t := rfl
theorem look_n {α : Type} {t : Nat} : look ([] : List (Nat × α)) t = none := rfl
theorem upd_c {α : Type} {k i : Nat} {x y : α} {r : List (Nat × α)} : upd ((k, y) :: r) i x = if k = i then (k, x) :: r else (k, y) :: upd r i x := rfl
theorem upd_n {α : Type} {i : Nat} {x : α} : upd [] i x = [] := rfl
theorem del_c {α : Type} {k i : Nat} {y : α} {r : List (Nat × α)} : del ((k, y) :: r) i = if k = i then del r i else (k, y) :: del r i := rfl
theorem del_n {α : Type} {i : Nat} : del ([] : List (Nat × α)) i = [] := rfl
theorem appM_n : appM h [] = h := rfl
theorem appM_d {i : Nat} {ms : Mods} : appM h ((i, none) :: ms) = appM (del h i) ms := rfl
theorem appM_s {i : Nat} {c : List SV} {ms : Mods} : appM h ((i, some c) :: ms) = appM (if (look h i).isSome = true then upd h i c else (i, c) :: h) ms := rfl

def trimE : List Nat → Env → Env
  | [], _ => []
  | t :: l, e => (t, getE e t) :: trimE l e
theorem trimE_c {t : Nat} {l : List Nat} : trimE (t :: l) e = (t, getE e t) :: trimE l e := rfl
theorem trimE_n : trimE [] e = [] := rfl
theorem trimE_eq (l : List Nat) (e : Env) : (l.map fun t => (t, getE e t)) = trimE l e := by
  induction l with
  | nil => rfl
  | cons t l ih => rw [List.map_cons, ih]; rfl
theorem wp_trimE {l : List Nat} {b : MCode} {Q : Ex → St → Prop} : Wp X (.trim l b) ⟨e, h, nx, ls, wb⟩ Q ↔ Wp X b ⟨trimE l e, h, nx, ls, wb⟩ Q := by
  rw [wp_trim, trimE_eq]

/-! ### yields -/
/-- Behind the body of a range. -/
def bodyK (l : Nat) (e : Env) (Q : SV → St → Prop) (x : Ex) (s : St) : Option LRec → Prop
  | some r => Q (.bool (x == .norm)) { s with env := e, loops := upd s.loops l { r with st := if x == .norm then 0 else 2, pend := x } }
  | none => False
def bdK (l : Nat) (e : Env) (Q : SV → St → Prop) : Ex → St → Prop := fun x s => bodyK l e Q x s (look s.loops l)
theorem bdK_a {l : Nat} {e0 : Env} {Q : SV → St → Prop} {x : Ex} : bdK l e0 Q x ⟨e, h, nx, ls, wb⟩ ↔ bodyK l e0 Q x ⟨e, h, nx, ls, wb⟩ (look ls l) := Iff.rfl
def assignK (X : Cx) (l : Nat) (e : Env) (body : MCode) (Q : SV → St → Prop) (s : St) : Option LRec → Prop
  | some r => r.st = 0 ∧ Wp X body { s with loops := upd s.loops l { r with st := 1 } } (bdK l e Q)
  | none => False
/-- Behind the assignment of what was yielded. -/
def asK (X : Cx) (l : Nat) (e : Env) (body : MCode) (Q : SV → St → Prop) : Ex → St → Prop := fun x s => x = .norm ∧ assignK X l e body Q s (look s.loops l)
theorem asK_n {l : Nat} {e0 : Env} {body : MCode} {Q : SV → St → Prop} : asK X l e0 body Q .norm ⟨e, h, nx, ls, wb⟩ ↔ assignK X l e0 body Q ⟨e, h, nx, ls, wb⟩ (look ls l) := by simp [asK]
def yK (X : Cx) (l : Nat) (args : List SV) (st : St) (Q : SV → St → Prop) : Option LRec → Prop
  | some r => args.length = r.ps.length ∧ Wp X r.assign { st with env := bindE r.ps args r.env } (asK X l st.env r.body Q)
  | none => False
theorem wpY' {l : Nat} {args : List SV} {Q : SV → St → Prop} : WpY X l args ⟨e, h, nx, ls, wb⟩ Q ↔ yK X l args ⟨e, h, nx, ls, wb⟩ Q (look ls l) := by
  generalize hst : St.mk e h nx ls wb = st
  have hls : ls = st.loops := by subst hst; rfl
  rw [hls]
  cases h0 : look st.loops l with
  | none =>
    refine ⟨fun ⟨n, v, s, h, q⟩ => ?_, fun h => h.elim⟩
    simp only [callY, h0] at h
    cases h
  | some r =>
    by_cases hl : args.length = r.ps.length
    · rw [wpY h0 hl]
      have e : ∀ (x : Ex) (s2 : St), (x = .norm ∧ ∃ r2, look s2.loops l = some r2 ∧ r2.st = 0 ∧ Wp X r.body { s2 with loops := upd s2.loops l { r2 with st := 1 } } fun x s3 => ∃ r3, look s3.loops l = some r3 ∧
          Q (.bool (x == .norm)) { s3 with env := st.env, loops := upd s3.loops l { r3 with st := if x == .norm then 0 else 2, pend := x } }) ↔ asK X l st.env r.body Q x s2 := fun x s2 => by
        have e3 : ∀ (x : Ex) (s3 : St), (∃ r3, look s3.loops l = some r3 ∧ Q (.bool (x == .norm)) { s3 with env := st.env, loops := upd s3.loops l { r3 with st := if x == .norm then 0 else 2, pend := x } }) ↔ bdK l st.env Q x s3 := fun x s3 => by
          unfold bdK
          cases h3 : look s3.loops l with
          | none => simp [bodyK]
          | some r3 => simp [bodyK]
        simp only [e3]
        unfold asK
        cases h2 : look s2.loops l with
        | none => simp [assignK]
        | some r2 =>
          simp only [assignK, Option.some.injEq, exists_eq_left']
      simp only [e, yK, hl, true_and]
    · refine ⟨fun ⟨n, v, s, h, q⟩ => ?_, fun h => absurd h.1 hl⟩
      simp only [callY, h0, hl, if_false] at h
      cases h
theorem yK_s {l : Nat} {args : List SV} {Q : SV → St → Prop} {e' : Env} {ps : List Nat} {as bd : MCode} {s' : Nat} {pd : Ex} : yK X l args ⟨e, h, nx, ls, wb⟩ Q (some ⟨e', ps, as, bd, s', pd⟩) ↔
    args.length = ps.length ∧ Wp X as ⟨bindE ps args e', h, nx, ls, wb⟩ (asK X l e bd Q) := Iff.rfl
theorem assignK_s {l : Nat} {Q : SV → St → Prop} {e0 e' e2 : Env} {ps : List Nat} {as bd body : MCode} {s' : Nat} {pd : Ex} : assignK X l e0 body Q ⟨e2, h, nx, ls, wb⟩ (some ⟨e', ps, as, bd, s', pd⟩) ↔
    s' = 0 ∧ Wp X body ⟨e2, h, nx, upd ls l ⟨e', ps, as, bd, 1, pd⟩, wb⟩ (bdK l e0 Q) := Iff.rfl
theorem bodyK_n {l : Nat} {Q : SV → St → Prop} {e0 e' e2 : Env} {ps : List Nat} {as bd : MCode} {s' : Nat} {pd : Ex} : bodyK l e0 Q .norm ⟨e2, h, nx, ls, wb⟩ (some ⟨e', ps, as, bd, s', pd⟩) ↔
    Q (.bool true) ⟨e0, h, nx, upd ls l ⟨e', ps, as, bd, 0, .norm⟩, wb⟩ := Iff.rfl
theorem bodyK_e {l i : Nat} {Q : SV → St → Prop} {e0 e' e2 : Env} {ps : List Nat} {as bd : MCode} {s' : Nat} {pd : Ex} : bodyK l e0 Q (.exit i) ⟨e2, h, nx, ls, wb⟩ (some ⟨e', ps, as, bd, s', pd⟩) ↔
    Q (.bool false) ⟨e0, h, nx, upd ls l ⟨e', ps, as, bd, 2, .exit i⟩, wb⟩ := Iff.rfl
theorem bodyK_r {l : Nat} {Q : SV → St → Prop} {e0 e' e2 : Env} {ps : List Nat} {as bd : MCode} {s' : Nat} {pd : Ex} : bodyK l e0 Q .ret ⟨e2, h, nx, ls, wb⟩ (some ⟨e', ps, as, bd, s', pd⟩) ↔
    Q (.bool false) ⟨e0, h, nx, upd ls l ⟨e', ps, as, bd, 2, .ret⟩, wb⟩ := Iff.rfl
theorem bindE_c {p : Nat} {ps : List Nat} {vs : List SV} : bindE (p :: ps) (v :: vs) e = bindE ps vs ((p, v) :: e) := rfl
theorem bindE_n : bindE [] [] e = e := rfl
theorem argE_c {i : Nat} {vs : List SV} : argE i (v :: vs) = (i, v) :: argE (i + 1) vs := rfl
theorem argE_n {i : Nat} : argE i [] = [] := rfl
end

/-! ### what is handed back -/
theorem expo_int (lo : Nat) (h : HL) (k : IntKind) (n : Int) : expo lo h (.int k n) = some (.int k n) := rfl
theorem expo_bool (lo : Nat) (h : HL) (b : Bool) : expo lo h (.bool b) = some (.bool b) := rfl
theorem expo_str (lo : Nat) (h : HL) (s : ByteArray) : expo lo h (.str s) = some (.str s) := rfl
theorem expo_tree (lo : Nat) (h : HL) (xs : List SV) (a b : Bool) : expo lo h (.tree xs a b) = some (.tree xs a b) := rfl
theorem expo_tptr (lo : Nat) (h : HL) (cs : List SV) (o : Nat) : expo lo h (.tptr cs o) = some (.tptr cs o) := rfl
theorem expo_own (lo : Nat) (h : HL) (id off len sz : Nat) : expo lo h (.own id off len sz) = if id < lo then some (.own id off len sz) else rowOf h id off len sz := rfl
theorem expo_ptr (lo : Nat) (h : HL) (id off : Nat) : expo lo h (.ptr id off) = if id < lo then some (.ptr id off) else none := rfl
theorem expo_fn (lo : Nat) (h : HL) (f : Nat) (a b : List SV) : expo lo h (.fn f a b) = if (a.isEmpty && b.isEmpty) = true then some (.fn f [] []) else none := by
  simp only [expo, exp2, exp1]
theorem expo_agg (lo : Nat) (h : HL) (cs : List SV) : expo lo h (.agg cs) = (expL lo h cs).map .agg := rfl
theorem exp2_int (lo : Nat) (h : HL) (k : IntKind) (n : Int) : exp2 lo h (.int k n) = some (.int k n) := rfl
theorem exp2_bool (lo : Nat) (h : HL) (b : Bool) : exp2 lo h (.bool b) = some (.bool b) := rfl
theorem exp2_str (lo : Nat) (h : HL) (s : ByteArray) : exp2 lo h (.str s) = some (.str s) := rfl
theorem exp2_tree (lo : Nat) (h : HL) (xs : List SV) (a b : Bool) : exp2 lo h (.tree xs a b) = some (.tree xs a b) := rfl
theorem exp2_tptr (lo : Nat) (h : HL) (cs : List SV) (o : Nat) : exp2 lo h (.tptr cs o) = some (.tptr cs o) := rfl
theorem exp2_own (lo : Nat) (h : HL) (id off len sz : Nat) : exp2 lo h (.own id off len sz) = if id < lo then some (.own id off len sz) else rowOf h id off len sz := rfl
theorem exp2_ptr (lo : Nat) (h : HL) (id off : Nat) : exp2 lo h (.ptr id off) = if id < lo then some (.ptr id off) else none := rfl
theorem exp2_fn (lo : Nat) (h : HL) (f : Nat) (a b : List SV) : exp2 lo h (.fn f a b) = if (a.isEmpty && b.isEmpty) = true then some (.fn f [] []) else none := by
  simp only [expo, exp2, exp1]
theorem exp2_agg (lo : Nat) (h : HL) (cs : List SV) : exp2 lo h (.agg cs) = (expL lo h cs).map .agg := rfl
theorem exp1_int (lo : Nat) (h : HL) (k : IntKind) (n : Int) : exp1 lo h (.int k n) = some (.int k n) := rfl
theorem exp1_bool (lo : Nat) (h : HL) (b : Bool) : exp1 lo h (.bool b) = some (.bool b) := rfl
theorem exp1_str (lo : Nat) (h : HL) (s : ByteArray) : exp1 lo h (.str s) = some (.str s) := rfl
theorem exp1_tree (lo : Nat) (h : HL) (xs : List SV) (a b : Bool) : exp1 lo h (.tree xs a b) = some (.tree xs a b) := rfl
theorem exp1_tptr (lo : Nat) (h : HL) (cs : List SV) (o : Nat) : exp1 lo h (.tptr cs o) = some (.tptr cs o) := rfl
theorem exp1_own (lo : Nat) (h : HL) (id off len sz : Nat) : exp1 lo h (.own id off len sz) = if id < lo then some (.own id off len sz) else rowOf h id off len sz := rfl
theorem exp1_ptr (lo : Nat) (h : HL) (id off : Nat) : exp1 lo h (.ptr id off) = if id < lo then some (.ptr id off) else none := rfl
theorem exp1_fn (lo : Nat) (h : HL) (f : Nat) (a b : List SV) : exp1 lo h (.fn f a b) = if (a.isEmpty && b.isEmpty) = true then some (.fn f [] []) else none := by
  simp only [expo, exp2, exp1]
theorem expo_tup (lo : Nat) (h : HL) (cs : List SV) : expo lo h (.tup cs) = (exp2L lo h cs).map .tup := rfl
theorem expL_n (lo : Nat) (h : HL) : expL lo h [] = some [] := rfl
def expL_k (u : Option SV) (us : Option (List SV)) : Option (List SV) := match u with
  | some u => (match us with | some us => some (u :: us) | none => none)
  | none => none
theorem expL_kk (u : SV) (us : List SV) : expL_k (some u) (some us) = some (u :: us) := rfl
theorem expL_c (lo : Nat) (h : HL) (v : SV) (vs : List SV) : expL lo h (v :: vs) = expL_k (exp1 lo h v) (expL lo h vs) := rfl
theorem exp2L_n (lo : Nat) (h : HL) : exp2L lo h [] = some [] := rfl
def exp2L_k (u : Option SV) (us : Option (List SV)) : Option (List SV) := match u with
  | some u => (match us with | some us => some (u :: us) | none => none)
  | none => none
theorem exp2L_kk (u : SV) (us : List SV) : exp2L_k (some u) (some us) = some (u :: us) := rfl
theorem exp2L_c (lo : Nat) (h : HL) (v : SV) (vs : List SV) : exp2L lo h (v :: vs) = exp2L_k (exp2 lo h v) (exp2L lo h vs) := rfl

/-! ### numbers -/
def xorI (k : IntKind) (a b : Int) : Int := k.wrap (BitVec.ofInt k.bits a ^^^ BitVec.ofInt k.bits b).toNat
def andI (k : IntKind) (a b : Int) : Int := k.wrap (BitVec.ofInt k.bits a &&& BitVec.ofInt k.bits b).toNat
def orI (k : IntKind) (a b : Int) : Int := k.wrap (BitVec.ofInt k.bits a ||| BitVec.ofInt k.bits b).toNat
section
variable {k k' : IntKind} {a b : Int}
theorem bin_add : bin .add (.int k a) (.int k b) = some (.int k (k.wrap (a + b))) := by simp [bin, binI]
theorem bin_sub : bin .sub (.int k a) (.int k b) = some (.int k (k.wrap (a - b))) := by simp [bin, binI]
theorem bin_mul : bin .mul (.int k a) (.int k b) = some (.int k (k.wrap (a * b))) := by simp [bin, binI]
theorem bin_quo : bin .quo (.int k a) (.int k b) = if b = 0 then none else some (.int k (k.wrap (a.tdiv b))) := by simp [bin, binI]
theorem bin_rem : bin .rem (.int k a) (.int k b) = if b = 0 then none else some (.int k (a.tmod b)) := by simp [bin, binI]
theorem bin_and : bin .and (.int k a) (.int k b) = some (.int k (andI k a b)) := by simp [bin, binI, andI]
theorem bin_or : bin .or (.int k a) (.int k b) = some (.int k (orI k a b)) := by simp [bin, binI, orI]
theorem bin_xor : bin .xor (.int k a) (.int k b) = some (.int k (xorI k a b)) := by simp [bin, binI, xorI]
theorem bin_eql : bin .eql (.int k a) (.int k b) = some (.bool (decide (a = b))) := by simp [bin, binI]; rfl
theorem bin_neq : bin .neq (.int k a) (.int k b) = some (.bool (!decide (a = b))) := by simp [bin, binI]; rfl
theorem bin_lss : bin .lss (.int k a) (.int k b) = some (.bool (decide (a < b))) := by simp [bin, binI]
theorem bin_leq : bin .leq (.int k a) (.int k b) = some (.bool (decide (a ≤ b))) := by simp [bin, binI]
theorem bin_gtr : bin .gtr (.int k a) (.int k b) = some (.bool (decide (b < a))) := by simp [bin, binI]
theorem bin_geq : bin .geq (.int k a) (.int k b) = some (.bool (decide (b ≤ a))) := by simp [bin, binI]
theorem bin_shl : bin .shl (.int k a) (.int k' b) = if b < 0 then none else some (.int k (k.wrap (a * 2 ^ (min b.toNat k.bits)))) := by simp [bin]
theorem bin_shr : bin .shr (.int k a) (.int k' b) = if b < 0 then none else some (.int k (a.fdiv (2 ^ (min b.toNat k.bits)))) := by simp [bin]
end
theorem wi (n : Int) (h1 : -9223372036854775808 ≤ n) (h2 : n ≤ 9223372036854775807) : IntKind.i64.wrap n = n := IntWalk.i64_in n ⟨h1, h2⟩
theorem wu (n : Int) (h1 : 0 ≤ n) (h2 : n ≤ 18446744073709551615) : IntKind.u64.wrap n = n := by
  simp [IntKind.wrap, IntKind.bits, IntKind.signed]; omega
theorem wb8 (n : Int) (h1 : 0 ≤ n) (h2 : n ≤ 255) : IntKind.u8.wrap n = n := by
  simp [IntKind.wrap, IntKind.bits, IntKind.signed]; omega

theorem cells_undef  : cellsOf .undef = [.undef] := rfl
theorem cells_int (k : IntKind) (n : Int) : cellsOf (.int k n) = [(.int k n)] := rfl
theorem cells_bool (b : Bool) : cellsOf (.bool b) = [(.bool b)] := rfl
theorem cells_str (s : ByteArray) : cellsOf (.str s) = [(.str s)] := rfl
theorem cells_tree (xs : List SV) (a b : Bool) : cellsOf (.tree xs a b) = [(.tree xs a b)] := rfl
theorem cells_tptr (cs : List SV) (o : Nat) : cellsOf (.tptr cs o) = [(.tptr cs o)] := rfl
theorem cells_own (id off len sz : Nat) : cellsOf (.own id off len sz) = [(.own id off len sz)] := rfl
theorem cells_ptr (id off : Nat) : cellsOf (.ptr id off) = [(.ptr id off)] := rfl
theorem cells_fn (f : Nat) (a b : List SV) : cellsOf (.fn f a b) = [(.fn f a b)] := rfl
theorem cells_yld (l : Nat) : cellsOf (.yld l) = [(.yld l)] := rfl
theorem cells_agg (cs : List SV) : cellsOf (.agg cs) = cs := rfl
theorem hdSz_n (sz : Nat) : hdSz sz [] = true := rfl
theorem hdSz_c (sz : Nat) (x : SV) (r : List SV) : hdSz sz (x :: r) = ((cellsOf x).length == sz) := rfl

theorem eqC4 {a b c d a' b' c' d' : Int} : eqCells [.int .i64 a, .int .i64 b, .int .u64 c, .int .i64 d] [.int .i64 a', .int .i64 b', .int .u64 c', .int .i64 d'] = some (decide (a = a' ∧ b = b' ∧ c = c' ∧ d = d')) := by
  by_cases h1 : a = a' <;> by_cases h2 : b = b' <;> by_cases h3 : c = c' <;> by_cases h4 : d = d' <;> simp [eqCells, h1, h2, h3, h4]
theorem eqC5 {a b c d e a' b' c' d' e' : Int} : eqCells [.int .i64 a, .int .i64 b, .int .i64 c, .int .i64 d, .int .i64 e] [.int .i64 a', .int .i64 b', .int .i64 c', .int .i64 d', .int .i64 e'] = some (decide (a = a' ∧ b = b' ∧ c = c' ∧ d = d' ∧ e = e')) := by
  by_cases h1 : a = a' <;> by_cases h2 : b = b' <;> by_cases h3 : c = c' <;> by_cases h4 : d = d' <;> by_cases h5 : e = e' <;> simp [eqCells, h1, h2, h3, h4, h5]

/-! ### rows of one-cell values -/
def Cell1 {α : Type} (f : α → SV) : Prop := ∀ a, cellsOf (f a) = [f a] ∧ pl1 (f a) = true ∧ cellB (f a) = true ∧ okV (f a) = true
section
variable {α : Type} {f : α → SV} (hf : Cell1 f)
include hf
theorem Cell1.flat (l : List α) : flat (l.map f) = l.map f := by
  induction l with
  | nil => rfl
  | cons a l ih => simp only [Sm.flat, List.map_cons, List.flatMap_cons, (hf a).1] at ih ⊢; rw [ih]; rfl
theorem Cell1.len1 (l : List α) : (l.map f).all (fun v => (cellsOf v).length == 1) = true := by
  simp only [List.all_map, List.all_eq_true, Function.comp]
  intro a _
  simp [(hf a).1]
theorem Cell1.pl (l : List α) : (l.map f).all pl1 = true := by
  simp only [List.all_map, List.all_eq_true, Function.comp]
  intro a _
  exact (hf a).2.1
theorem Cell1.cB (l : List α) : (l.map f).all cellB = true := by
  simp only [List.all_map, List.all_eq_true, Function.comp]
  intro a _
  exact (hf a).2.2.1
theorem Cell1.hd (l : List α) : hdSz 1 (l.map f) = true := by
  cases l with
  | nil => rfl
  | cons a l => simp [hdSz, (hf a).1]
end
theorem flat_c (x : SV) (xs : List SV) : flat (x :: xs) = cellsOf x ++ flat xs := rfl
theorem flat_n : flat [] = [] := rfl
theorem els_1 (n : Nat) (cs : List SV) : els 1 n cs = cs := rfl
theorem sub_all (cs : List SV) : sub cs 0 cs.length = cs := by simp [sub]
theorem sub_all' {cs : List SV} {n : Nat} (h : cs.length = n) : sub cs 0 n = cs := by subst h; exact sub_all cs

def b8 (c : UInt8) : SV := .int .u8 (c.toNat : Int)
theorem b8_eq (c : UInt8) : b8 c = .int .u8 (c.toNat : Int) := rfl
theorem b8_c : Cell1 b8 := fun _ => ⟨rfl, rfl, rfl, rfl⟩
/-- A slice's value, with its marks. -/
structure Sl (α : Type) where
  xs : List α
  nl : Bool
  tg : Bool
def Sl.v {α : Type} (f : α → SV) (s : Sl α) : SV := .tree (s.xs.map f) s.nl s.tg
abbrev By := Sl UInt8
abbrev By.v (s : By) : SV := Sl.v b8 s
def uV (x : Int) : SV := .int .u64 x
theorem uV_eq (x : Int) : uV x = .int .u64 x := rfl
theorem cells_b8 (c : UInt8) : cellsOf (b8 c) = [b8 c] := rfl
theorem cells_uV (c : Int) : cellsOf (uV c) = [uV c] := rfl
theorem cells_Sl {α : Type} (f : α → SV) (s : Sl α) : cellsOf (Sl.v f s) = [Sl.v f s] := rfl
theorem uV_c : Cell1 uV := fun _ => ⟨rfl, rfl, rfl, rfl⟩
theorem Sl.v_c {α : Type} {f : α → SV} : Cell1 (Sl.v f) := fun _ => ⟨rfl, rfl, rfl, rfl⟩
theorem wu_b8 (c : UInt8) : IntKind.u64.wrap (c.toNat : Int) = (c.toNat : Int) := wu _ (Int.natCast_nonneg _) (by have := c.toNat_lt; omega)
theorem wi_s {k n : Nat} (h : k < n) (hn : n < 9223372036854775808) : IntKind.i64.wrap ((k : Int) + 1) = ((k + 1 : Nat) : Int) := by rw [wi _ (by omega) (by omega)]; rfl
theorem get_some {α : Type} {l : List α} {k : Nat} (h : k < l.length) : ∃ c, l[k]? = some c ∧ l.drop k = c :: l.drop (k + 1) :=
  ⟨l[k], List.getElem?_eq_getElem h, List.drop_eq_getElem_cons h⟩
theorem lt_c {k n : Nat} (h : k < n) : ((k : Int) < (n : Int)) = True := by simp; exact h
theorem nlt_c {k n : Nat} (h : n ≤ k) : ((k : Int) < (n : Int)) = False := by simp; exact h
/-! ### heaps that are not written out -/
def fresh (h : Heap) (nx : Nat) : Prop := ∀ j, nx ≤ j → look h j = none
theorem look_ne {α : Type} {k t : Nat} {x : α} {r : List (Nat × α)} (h : k ≠ t) : look ((k, x) :: r) t = look r t := by rw [look_c, if_neg h]
theorem look_eq {α : Type} {k : Nat} {x : α} {r : List (Nat × α)} : look ((k, x) :: r) k = some x := by rw [look_c, if_pos rfl]
theorem look_del_ne {α : Type} {h : List (Nat × α)} {i j : Nat} (hj : j ≠ i) : look (del h i) j = look h j := by rw [look_del, if_neg hj]
theorem look_del_eq {α : Type} {h : List (Nat × α)} {i : Nat} : look (del h i) i = none := by rw [look_del, if_pos rfl]
theorem look_upd_ne {α : Type} {h : List (Nat × α)} {i j : Nat} {x : α} (hj : j ≠ i) : look (upd h i x) j = look h j := by
  induction h with
  | nil => rfl
  | cons p r ih =>
    obtain ⟨k, v⟩ := p
    rw [upd_c]
    by_cases hk : k = i
    · subst hk
      rw [if_pos rfl, look_ne (fun e => hj e.symm), look_ne (fun e => hj e.symm)]
    · rw [if_neg hk, look_c, look_c, ih]
theorem look_upd_eq {α : Type} {h : List (Nat × α)} {i : Nat} {x : α} (hs : (look h i).isSome = true) : look (upd h i x) i = some x := by rw [look_upd h i x i hs, if_pos rfl]
theorem look_upd_map {α : Type} {h : List (Nat × α)} {i : Nat} {x : α} : look (upd h i x) i = Option.map (fun _ => x) (look h i) := by
  cases hs : look h i with
  | some y => rw [look_upd_eq (by rw [hs]; rfl)]; rfl
  | none =>
    induction h with
    | nil => rfl
    | cons p r ih =>
      obtain ⟨k, v⟩ := p
      by_cases hk : k = i
      · subst hk; rw [look_c, if_pos rfl] at hs; cases hs
      · rw [look_c, if_neg hk] at hs
        rw [upd_c, if_neg hk, look_c, if_neg hk, ih hs]
theorem dle_f {a b : Nat} (h : b < a) : decide (a ≤ b) = false := by simp; omega
theorem dlt_f {a b : Nat} (h : b ≤ a) : decide (a < b) = false := by simp; omega
theorem dle_t {a b : Nat} (h : a ≤ b) : decide (a ≤ b) = true := by simp; omega
theorem dlt_t {a b : Nat} (h : a < b) : decide (a < b) = true := by simp; omega
theorem beq_f {a b : Nat} (h : a ≠ b) : (a == b) = false := by simp; omega
theorem upd_ne {α : Type} {k i : Nat} {x y : α} {r : List (Nat × α)} (h : k ≠ i) : upd ((k, y) :: r) i x = (k, y) :: upd r i x := by rw [upd_c, if_neg h]
theorem upd_eq {α : Type} {k : Nat} {x y : α} {r : List (Nat × α)} : upd ((k, y) :: r) k x = (k, x) :: r := by rw [upd_c, if_pos rfl]
theorem del_ne {α : Type} {k i : Nat} {y : α} {r : List (Nat × α)} (h : k ≠ i) : del ((k, y) :: r) i = (k, y) :: del r i := by rw [del_c, if_neg h]
theorem del_eq {α : Type} {k : Nat} {y : α} {r : List (Nat × α)} : del ((k, y) :: r) k = del r k := by rw [del_c, if_pos rfl]
theorem of_drop {α : Type} {l : List α} {k : Nat} {a : α} {r : List α} (h : l.drop k = a :: r) : l[k]? = some a ∧ l.drop (k + 1) = r ∧ k < l.length := by
  have hk : k < l.length := by
    have := congrArg List.length h
    simp at this
    omega
  obtain ⟨c, hc, hd⟩ := get_some hk
  rw [hd] at h
  simp only [List.cons.injEq] at h
  exact ⟨by rw [hc, h.1], h.2, hk⟩
theorem lim_le {n : Nat} (h : n ≤ 4294967296) : (n ≤ LIM) = True := by simp [LIM, h]
theorem take_len_map {α : Type} {f : α → SV} {l : List α} : (l.map f).take l.length = l.map f := List.take_of_length_le (by simp)
theorem drop1_map {α : Type} {f : α → SV} {a : α} {l : List α} : ((a :: l).map f).drop 1 = l.map f := rfl

/-! ### the words, bundled -/
set_option linter.defProp false in
def bC := (And.intro (And.intro (And.intro (And.intro (And.intro (And.intro (And.intro @wp_seq (And.intro @wp_region @dr_0)) (And.intro (And.intro @wp_condC @wp_block) (And.intro @wp_trimE @trimE_c))) (And.intro (And.intro @trimE_n (And.intro @wp_skip @wp_ret)) (And.intro (And.intro @wp_exit @ops_n) (And.intro @ops_r @ops_w)))) (And.intro (And.intro (And.intro @ops_c (And.intro @ops_g @opsK_a)) (And.intro (And.intro @rO_v @rO_n) (And.intro @wO_v @gO_t))) (And.intro (And.intro @gO_f (And.intro @gB_tt @gB_tf)) (And.intro (And.intro @gB_ft (And.intro @gB_ff @gB_s)) (And.intro @condC_t @condC_f))))) (And.intro (And.intro (And.intro (And.intro @seqK_n (And.intro @seqK_e @seqK_r)) (And.intro (And.intro @blockK_n @blockK_e) (And.intro @blockK_r @endK_n))) (And.intro (And.intro @endK_r (And.intro @reK_s @roK_a)) (And.intro (And.intro @rwK_a @callK_f) (And.intro @callK_y @putE_s)))) (And.intro (And.intro (And.intro @putE_n (And.intro @argV_t @argV_c)) (And.intro (And.intro @getE_c @getE_n) (And.intro @look_n @upd_n))) (And.intro (And.intro (And.intro @del_n @appM_n) (And.intro @appM_d @appM_s)) (And.intro (And.intro @bindE_c @bindE_n) (And.intro @argE_c @argE_n)))))) (And.intro (And.intro (And.intro (And.intro (And.intro @yK_s (And.intro @asK_n @assignK_s)) (And.intro (And.intro @bdK_a @bodyK_n) (And.intro @bodyK_e @bodyK_r))) (And.intro (And.intro @wp_rangeC (And.intro @rangeC_f @rgK_a)) (And.intro (And.intro @rg2_s @bin_add) (And.intro @bin_sub @bin_mul)))) (And.intro (And.intro (And.intro @bin_quo (And.intro @bin_rem @bin_and)) (And.intro (And.intro @bin_or @bin_xor) (And.intro @bin_eql @bin_neq))) (And.intro (And.intro (And.intro @bin_lss @bin_leq) (And.intro @bin_gtr @bin_geq)) (And.intro (And.intro @bin_shl @bin_shr) (And.intro @cells_undef @cells_int))))) (And.intro (And.intro (And.intro (And.intro @cells_bool (And.intro @cells_str @cells_tree)) (And.intro (And.intro @cells_tptr @cells_own) (And.intro @cells_ptr @cells_fn))) (And.intro (And.intro @cells_yld (And.intro @cells_agg @cells_b8)) (And.intro (And.intro @cells_uV @cells_Sl) (And.intro @expo_int @expo_bool)))) (And.intro (And.intro (And.intro @expo_str (And.intro @expo_tree @expo_tptr)) (And.intro (And.intro @expo_own @expo_ptr) (And.intro @expo_fn @expo_agg))) (And.intro (And.intro (And.intro @exp2_int @exp2_bool) (And.intro @exp2_str @exp2_tree)) (And.intro (And.intro @exp2_tptr @exp2_own) (And.intro @exp2_ptr @exp2_fn))))))) (And.intro (And.intro (And.intro (And.intro (And.intro (And.intro @exp2_agg (And.intro @exp1_int @exp1_bool)) (And.intro (And.intro @exp1_str @exp1_tree) (And.intro @exp1_tptr @exp1_own))) (And.intro (And.intro @exp1_ptr (And.intro @exp1_fn @expo_tup)) (And.intro (And.intro @expL_n @expL_kk) (And.intro @expL_c @exp2L_n)))) (And.intro (And.intro (And.intro @exp2L_kk (And.intro @exp2L_c @eqC4)) (And.intro (And.intro @eqC5 @els_1) (And.intro @hdSz_n @hdSz_c))) (And.intro (And.intro @flat_c (And.intro @flat_n @List.map_cons.{0, 0})) (And.intro (And.intro @List.map_nil.{0, 0} @List.cons_append.{0}) (And.intro @List.nil_append.{0} @List.append_nil.{0}))))) (And.intro (And.intro (And.intro (And.intro @List.all_cons.{0} (And.intro @List.all_nil.{0} @List.length_cons.{0})) (And.intro (And.intro @List.length_nil.{0} @List.length_map.{0, 0}) (And.intro @List.length_append.{0} @List.getElem?_cons_zero.{0}))) (And.intro (And.intro @List.getElem?_cons_succ.{0} (And.intro @List.getElem?_map.{0, 0} @List.drop_zero.{0})) (And.intro (And.intro @List.take_zero.{0} @List.drop_succ_cons.{0}) (And.intro @List.take_succ_cons.{0} @List.set_cons_zero.{0})))) (And.intro (And.intro (And.intro @List.set_cons_succ.{0} (And.intro @List.flatMap_cons.{0, 0} @List.flatMap_nil.{0, 0})) (And.intro (And.intro @List.flatten_cons.{0} @List.flatten_nil.{0}) (And.intro @List.isEmpty_nil.{0} @List.isEmpty_cons.{0}))) (And.intro (And.intro (And.intro @List.contains_nil.{0} @List.contains_cons.{0}) (And.intro @List.elem_nil.{0} @List.elem_cons.{0})) (And.intro (And.intro @List.range'_succ @List.range'_zero) (And.intro @List.headD_cons.{0} @or_true)))))) (And.intro (And.intro (And.intro (And.intro (And.intro @true_or (And.intro @or_false @false_or)) (And.intro (And.intro @or_self @Nat.add_one_ne_zero) (And.intro @Nat.succ_ne_zero @Option.isSome_some.{0}))) (And.intro (And.intro @Option.isSome_none.{0} (And.intro @Option.isNone_some.{0} @Option.isNone_none.{0})) (And.intro (And.intro @Option.map_some.{0, 0} @Option.map_none.{0, 0}) (And.intro @Bool.and_true @Bool.true_and)))) (And.intro (And.intro (And.intro @Bool.and_false (And.intro @Bool.false_and @Bool.or_true)) (And.intro (And.intro @Bool.true_or @Bool.or_false) (And.intro @Bool.false_or @Bool.not_true))) (And.intro (And.intro (And.intro @Bool.not_false @beq_self_eq_true.{0}) (And.intro @Bool.false_eq_true @Bool.true_eq_false)) (And.intro (And.intro @decide_true @decide_false) (And.intro @decide_eq_true_eq @true_and))))) (And.intro (And.intro (And.intro (And.intro @and_true (And.intro @false_and @and_false)) (And.intro (And.intro @not_true @not_false_eq_true) (And.intro @Nat.add_zero @Nat.zero_add))) (And.intro (And.intro @Nat.sub_zero (And.intro @Nat.mul_one @Nat.one_mul)) (And.intro (And.intro @Nat.zero_mul @Nat.mul_zero) (And.intro @Nat.le_refl @Int.toNat_natCast)))) (And.intro (And.intro (And.intro @Int.cast_ofNat_Int (And.intro @Int.natCast_nonneg @Nat.sub_self)) (And.intro (And.intro @Nat.add_sub_cancel_left @Nat.add_sub_cancel) (And.intro @take_len_map @Nat.zero_le))) (And.intro (And.intro (And.intro @List.take_length.{0} @Nat.lt_irrefl) (And.intro @Nat.not_lt_zero @Nat.left_eq_add)) (And.intro (And.intro @Nat.add_eq_left @Nat.add_eq_right) (And.intro @Nat.right_eq_add @List.all_append.{0}))))))))
set_option linter.defProp false in
def bW := (And.intro @look_c (And.intro @upd_c @del_c))
set_option linter.defProp false in
def bD := (And.intro (And.intro (And.intro @dr_n (And.intro @dr_r @dr_w)) (And.intro @dr_c (And.intro @dr_g @rD_v))) (And.intro (And.intro @rD_n (And.intro @wD_v @dcK_a)) (And.intro @gD_t (And.intro @gD_f @unused_same))))
set_option linter.defProp false in
def bH := (And.intro (And.intro (And.intro (And.intro @look_ne (And.intro @look_eq @look_del_ne)) (And.intro @look_del_eq (And.intro @look_upd_ne @look_upd_map))) (And.intro (And.intro @upd_ne (And.intro @upd_eq @del_ne)) (And.intro (And.intro @del_eq @dle_f) (And.intro @dlt_f @dle_t)))) (And.intro (And.intro (And.intro @dlt_t (And.intro @beq_f @dr_n)) (And.intro (And.intro @dr_r @dr_w) (And.intro @dr_c @dr_g))) (And.intro (And.intro @rD_v (And.intro @rD_n @wD_v)) (And.intro (And.intro @dcK_a @gD_t) (And.intro @gD_f @unused_same)))))
set_option linter.defProp false in
def bV0 := (And.intro (And.intro (And.intro (And.intro (And.intro @evR.eq_def @eqM.eq_def) (And.intro @idx.eq_def @ldc.eq_def)) (And.intro (And.intro @okV.eq_def @sub.eq_def) (And.intro @setc.eq_1 (And.intro @setc.eq_2 @buildC.eq_1)))) (And.intro (And.intro (And.intro @buildC.eq_2 @bnd.eq_def) (And.intro @resOf.eq_def @resL.eq_1)) (And.intro (And.intro @resL.eq_2 @res1.eq_def) (And.intro @xorB.eq_def (And.intro @take2L.eq_1 @take2L.eq_2))))) (And.intro (And.intro (And.intro (And.intro @take2.eq_def @takeL.eq_1) (And.intro @takeL.eq_2 @take1.eq_def)) (And.intro (And.intro @appF.eq_1 @appF.eq_2) (And.intro @elemOk.eq_def (And.intro @plain.eq_def @pl1.eq_def)))) (And.intro (And.intro (And.intro @isRow.eq_def @srcOf.eq_def) (And.intro @LIM.eq_def @Option.some.injEq.{0})) (And.intro (And.intro @exists_eq_left'.{1} @exists_eq_left.{1}) (And.intro @Prod.mk.injEq.{0, 0} (And.intro @ne_eq.{1} @eq_self.{1}))))))
set_option linter.defProp false in
def bV := And.intro @bV0 (And.intro @evW.eq_def (And.intro @cellB.eq_def @rowOf.eq_def))
set_option linter.defProp false in
def bVA := And.intro @bV0 (And.intro (And.intro @evW.eq_1 @evW.eq_5) (And.intro @evW.eq_6 @evW.eq_7))
set_option linter.defProp false in
def bVD := (And.intro (And.intro (And.intro @unused.eq_def @fpO.eq_def) (And.intro @rdR.eq_def (And.intro @rdW.eq_def @own1.eq_def))) (And.intro (And.intro @ptr1.eq_def (And.intro @ownC.eq_def @sepOk.eq_def)) (And.intro @compat.eq_def (And.intro @disj.eq_def @offR.eq_def))))
end Go.Proofs.YtfmbdcmjgnikiaaGreatDoor.Sm
namespace Go.Proofs.YtfmbdcmjgnikiaaGreatDoor.Sm
open Go Go.RowKit

/-- Kinds of data that is handed in. -/
inductive TD where
  | int (k : IntKind)
  | bool
  | sl (e : TD)
  | st (fs : List TD)
mutual
def TD.size : TD → Nat
  | .int _ => 1
  | .bool => 1
  | .sl _ => 1
  | .st fs => TD.sizeL fs
def TD.sizeL : List TD → Nat
  | [] => 0
  | d :: ds => d.size + TD.sizeL ds
end
mutual
def TD.fit (P : Program) : TD → TypeId → Bool
  | .int k, t => match P.underlying t with | some (.int k') => decide (k' = k) | _ => false
  | .bool, t => match P.underlying t with | some .bool => true | _ => false
  | .sl e, t => match P.underlying t with | some (.slice u) => e.fit P u && decide (P.cellsOf u = e.size) && decide (0 < e.size) && decide (0 < P.bytesOf u) | _ => false
  | .st fs, t => match P.underlying t with | some (.struct flds) => TD.fitL P fs flds.toList 0 && decide (P.cellsOf t = TD.sizeL fs) | _ => false
def TD.fitL (P : Program) : List TD → List Field → Nat → Bool
  | [], [], _ => true
  | d :: ds, f :: fs, o => d.fit P f.type && decide (f.offset = o) && decide (P.cellsOf f.type = d.size) && TD.fitL P ds fs (o + d.size)
  | _, _, _ => false
end
def TD.pack : TD → List SV → SV
  | .st _, zs => .agg zs
  | _, zs => zs.headD .undef
mutual
def TD.enc : TD → List SV → Prop
  | .int k, ys => ∃ n, ys = [.int k n] ∧ (Lit.int k n).wf = true
  | .bool, ys => ∃ b, ys = [.bool b]
  | .sl e, ys => ∃ xs nl, ys = [.tree xs nl false] ∧ xs.length ≤ reachBytes ∧ (nl = true → xs = []) ∧ ∀ x ∈ xs, ∃ zs, e.enc zs ∧ x = e.pack zs
  | .st fs, ys => TD.encL fs ys
def TD.encL : List TD → List SV → Prop
  | [], ys => ys = []
  | d :: ds, ys => ∃ a b, ys = a ++ b ∧ d.enc a ∧ TD.encL ds b
end
mutual
theorem TD.enc_pl : ∀ (d : TD) {ys : List SV}, d.enc ys → ys.length = d.size ∧ ∀ y ∈ ys, pl1 y = true
  | .int k, ys, h => by obtain ⟨n, rfl, _⟩ := h; exact ⟨rfl, by simp [pl1]⟩
  | .bool, ys, h => by obtain ⟨n, rfl⟩ := h; exact ⟨rfl, by simp [pl1]⟩
  | .sl e, ys, h => by obtain ⟨xs, nl, rfl, _⟩ := h; exact ⟨rfl, by simp [pl1]⟩
  | .st fs, ys, h => TD.encL_pl fs h
theorem TD.encL_pl : ∀ (ds : List TD) {ys : List SV}, TD.encL ds ys → ys.length = TD.sizeL ds ∧ ∀ y ∈ ys, pl1 y = true
  | [], ys, h => by cases h; exact ⟨rfl, by simp⟩
  | d :: ds, ys, h => by
    obtain ⟨a, b, rfl, h1, h2⟩ := h
    have e1 := TD.enc_pl d h1
    have e2 := TD.encL_pl ds h2
    refine ⟨by rw [List.length_append, e1.1, e2.1]; rfl, fun y hy => ?_⟩
    rcases List.mem_append.1 hy with h | h
    · exact e1.2 y h
    · exact e2.2 y h
end
theorem TD.pack_cells (d : TD) {zs : List SV} (h : d.enc zs) : cellsOf (d.pack zs) = zs ∧ plain (d.pack zs) = true := by
  have hp := (d.enc_pl h).2
  cases d with
  | int k => obtain ⟨n, rfl, _⟩ := h; exact ⟨rfl, rfl⟩
  | bool => obtain ⟨n, rfl⟩ := h; exact ⟨rfl, rfl⟩
  | sl e => obtain ⟨xs, nl, rfl, _⟩ := h; exact ⟨rfl, rfl⟩
  | st fs => exact ⟨rfl, List.all_eq_true.2 hp⟩

/-- At the start nothing is ours. -/
def K0 (W : World) : KK := ⟨W, fun _ _ => False, fun _ => (0, 0), fun _ => False⟩
theorem spot_of {w : World} {a : Addr} {v : Value} (h : w.cell? a = some v) : a.spot = none := by
  unfold World.cell? at h
  split at h
  · split at h
    · cases h
    · rename_i h2
      cases hs : a.spot with
      | none => rfl
      | some x => rw [hs] at h2; simp at h2
  · cases h
theorem cell_plain {w : World} {a : Addr} {v : Value} (h : w.cell? a = some v) : w.cell? ⟨a.block, a.off, none⟩ = some v := by
  have hs := spot_of h
  cases a
  simp only at hs
  subst hs
  exact h
theorem add_block {a : Addr} (n : Nat) : (a.add n).block = a.block ∧ (a.add n).off = a.off + n := by
  unfold Addr.add
  split
  · rename_i h; subst h; exact ⟨rfl, rfl⟩
  · exact ⟨rfl, rfl⟩
theorem spot_add {a : Addr} (h : (a.add 0).spot = none) : a.spot = none := by simpa [Addr.add] using h

section
variable {H : Type} {en : TypeId × Value → H} {P : Program} {w : World} {base : Nat} {spare : Nat → Bool} {held : Bool}
mutual
theorem TD.opn : ∀ (d : TD) {t : TypeId} {fuel : Nat} {cs : List Value} {x : DataW H × List MemPlace}, d.fit P t = true → DataW.trod en P w base spare held fuel t cs = some x → (x.1.weights P t).all (· ≤ reachBytes) = true →
    ∃ ys, d.enc ys ∧ ys.length = cs.length ∧ ∀ i y, ys[i]? = some y → RV (K0 w) (cs.getD i Go.undef) y
  | .int k, t, fuel, cs, x, hf, h, hw => by
    simp only [TD.fit] at hf
    split at hf
    · rename_i k' hu
      obtain rfl : k' = k := by simpa using hf
      obtain ⟨n, rfl, _, hn⟩ := DataW.trod_int hu h
      refine ⟨[.int k' n], ⟨n, rfl, hn⟩, rfl, fun i y hy => ?_⟩
      cases i with
      | zero => cases hy; exact .int _ _
      | succ i => simp at hy
    · cases hf
  | .bool, t, fuel, cs, x, hf, h, hw => by
    simp only [TD.fit] at hf
    split at hf
    · rename_i hu
      obtain ⟨n, rfl, _⟩ := DataW.trod_bool hu h
      refine ⟨[.bool n], ⟨n, rfl⟩, rfl, fun i y hy => ?_⟩
      cases i with
      | zero => cases hy; exact .bool _
      | succ i => simp at hy
    · cases hf
  | .sl e, t, fuel, cs, x, hf, h, hw => by
    simp only [TD.fit] at hf
    split at hf
    · rename_i u hu
      simp only [Bool.and_eq_true, decide_eq_true_eq] at hf
      obtain ⟨⟨⟨hfe, hsz⟩, hpos⟩, hby⟩ := hf
      rcases DataW.trod_slice hu h with ⟨rfl, _⟩ | ⟨a, len, cap, elems, rest, n, _, rfl, rfl, hb, hl, hm, hlen, hel, hsp, hns⟩
      · refine ⟨[.tree [] true false], ⟨[], true, rfl, by simp, fun _ => rfl, by simp⟩, rfl, fun i y hy => ?_⟩
        cases i with
        | zero =>
          cases hy
          exact .tree none 0 0 1 [] true false (fun _ _ => Go.undef) rfl (Nat.le_refl _) rfl (fun _ => rfl) (fun h => by cases h) (by simp) (by simp) (by simp) (by simp)
        | succ i => simp at hy
      · simp only [DataW.weights, hu, List.all_cons, Bool.and_eq_true, List.all_append, decide_eq_true_eq] at hw
        obtain ⟨hw0, hw1, hw2⟩ := hw
        have key : ∀ i, i < len → ∃ zs : List SV × List Value, w.cells? base (a.add (i * P.cellsOf u)) (P.cellsOf u) = some zs.2 ∧ e.enc zs.1 ∧ zs.1.length = zs.2.length ∧ ∀ j y, zs.1[j]? = some y → RV (K0 w) (zs.2.getD j Go.undef) y := fun i hi => by
          have h1 := hel i hi
          rw [List.getElem?_eq_getElem (by omega)] at h1
          obtain ⟨cs', h2, h3⟩ := Option.bind_eq_some_iff.1 h1
          obtain ⟨ys, h4, h5, h6⟩ := TD.opn e hfe h3 (by
            refine List.all_eq_true.2 fun m hm => ?_
            refine List.all_eq_true.1 hw1 m ?_
            clear hel hsp hns
            have hmem : elems[i].1 ∈ elems.map (·.1) := List.mem_map_of_mem (List.getElem_mem _)
            revert hm hmem
            generalize elems[i].1 = d
            generalize elems.map (·.1) = l
            intro hm hmem
            induction l with
            | nil => cases hmem
            | cons c l ih =>
              simp only [DataW.weightsAll, List.mem_append]
              rcases List.mem_cons.1 hmem with rfl | hmem
              · exact .inl hm
              · exact .inr (ih hmem))
          exact ⟨(ys, cs'), h2, h4, h5, h6⟩
        obtain ⟨Z, hZ⟩ := Deep.choose_lt key
        have hcell : ∀ j, j < len → ∀ i, i < e.size → ∃ v, w.cell? ⟨a.block, a.off + (j * e.size + i), none⟩ = some v ∧ (Z j).2[i]? = some v := fun j hj i hi => by
          obtain ⟨h1, h2, h3, h4⟩ := hZ j hj
          obtain ⟨_, k1, k2⟩ := World.cells?_some h1
          have k3 := k2 i (by rw [hsz]; exact hi)
          rw [hsz] at k1 k3
          rw [List.getElem?_eq_getElem (by omega)] at k3
          have k4 := cell_plain k3
          rw [(add_block _).1, (add_block _).2, (add_block _).1, (add_block _).2] at k4
          exact ⟨_, by rw [← Nat.add_assoc]; exact k4, List.getElem?_eq_getElem _⟩
        have hspot : 0 < len → a.spot = none := fun hl0 => by
          obtain ⟨h1, _⟩ := hZ 0 hl0
          obtain ⟨_, k1, k2⟩ := World.cells?_some h1
          have k3 := k2 0 (by rw [hsz]; exact hpos)
          rw [hsz] at k1
          rw [List.getElem?_eq_getElem (by omega)] at k3
          have k4 := spot_of k3
          rw [Nat.zero_mul] at k4
          exact spot_add (spot_add k4)
        have hget : ∀ (j : Nat) (x : SV), ((List.range len).map fun j => e.pack (Z j).1)[j]? = some x → j < len ∧ x = e.pack (Z j).1 := fun j x hx => by
          have hj := (List.getElem?_eq_some_iff.1 hx).1
          rw [List.length_map, List.length_range] at hj
          rw [List.getElem?_map, List.getElem?_range hj] at hx
          exact ⟨hj, (Option.some.inj hx).symm⟩
        refine ⟨[.tree ((List.range len).map fun j => e.pack (Z j).1) false false], ⟨_, false, rfl, ?_, (fun h => by cases h), fun x hx => ?_⟩, rfl, fun i y hy => ?_⟩
        · rw [List.length_map, List.length_range]
          have : elems.length * 1 ≤ (elems.length + rest.length) * P.bytesOf u := Nat.mul_le_mul (by omega) hby
          simp only [List.length_map] at hw0
          omega
        · obtain ⟨j, hj, rfl⟩ := List.mem_map.1 hx
          exact ⟨(Z j).1, (hZ j (List.mem_range.1 hj)).2.1, rfl⟩
        · cases i with
          | zero =>
            cases hy
            refine .tree (some a) len cap e.size _ false false (fun j i => (Z j).2.getD i Go.undef) (by simp) hl rfl (fun h => by cases h) (fun h => by cases h) (fun x hx => ?_) (fun x hx => ?_) (fun j i x y h1 h2 => ?_) (fun j i x y h1 h2 => ?_)
            · obtain ⟨j, hj, rfl⟩ := List.mem_map.1 hx
              exact (e.pack_cells (hZ j (List.mem_range.1 hj)).2.1).2
            · obtain ⟨j, hj, rfl⟩ := List.mem_map.1 hx
              have h1 := (hZ j (List.mem_range.1 hj)).2.1
              rw [(e.pack_cells h1).1, (e.enc_pl h1).1]
            · obtain ⟨hj, rfl⟩ := hget j x h1
              have h3 := (hZ j hj).2.1
              rw [(e.pack_cells h3).1] at h2
              have hi := (List.getElem?_eq_some_iff.1 h2).1
              rw [(e.enc_pl h3).1] at hi
              obtain ⟨v, k1, k2⟩ := hcell j hj i hi
              refine ⟨a, rfl, hspot (by omega), ?_, fun h => h⟩
              show w.cell? _ = _
              rw [k1, List.getD_eq_getElem?_getD, k2]; rfl
            · obtain ⟨hj, rfl⟩ := hget j x h1
              have h3 := (hZ j hj).2
              rw [(e.pack_cells h3.1).1] at h2
              exact h3.2.2 i y h2
          | succ i => simp at hy
    · cases hf
  | .st fs, t, fuel, cs, x, hf, h, hw => by
    simp only [TD.fit] at hf
    split at hf
    · rename_i flds hu
      simp only [Bool.and_eq_true, decide_eq_true_eq] at hf
      obtain ⟨xs, n, _, rfl, hcl, hxl, hx⟩ := DataW.trod_struct hu h
      simp only [DataW.weights, hu] at hw
      obtain ⟨ys, h1, h2, h3⟩ := TD.opnL fs (flds := flds.toList) (o := 0) (xs := xs) (n := n) (cs := cs) hf.1 (by simpa using hxl) (fun i f hif => hx i f (by simpa using hif)) hw (by omega)
      refine ⟨ys, h1, by omega, fun i y hy => ?_⟩
      have := h3 i y hy
      rwa [Nat.zero_add] at this
    · cases hf
theorem TD.opnL : ∀ (ds : List TD) {flds : List Field} {o : Nat} {xs : List (DataW H × List MemPlace)} {n : Nat} {cs : List Value}, TD.fitL P ds flds o = true → xs.length = flds.length →
    (∀ (i : Nat) (f : Field), flds[i]? = some f → DataW.trod en P w base spare held n f.type ((cs.drop f.offset).take (P.cellsOf f.type)) = xs[i]?) → (DataW.weightsEach P (flds.map (·.type)) (xs.map (·.1))).all (· ≤ reachBytes) = true →
    o + TD.sizeL ds ≤ cs.length → ∃ ys, TD.encL ds ys ∧ ys.length = TD.sizeL ds ∧ ∀ i y, ys[i]? = some y → RV (K0 w) (cs.getD (o + i) Go.undef) y
  | [], flds, o, xs, n, cs, hf, hl, hx, hw, hs => ⟨[], rfl, rfl, by simp⟩
  | d :: ds, [], o, xs, n, cs, hf, hl, hx, hw, hs => by simp [TD.fitL] at hf
  | d :: ds, f :: flds, o, [], n, cs, hf, hl, hx, hw, hs => by simp at hl
  | d :: ds, f :: flds, o, x :: xs, n, cs, hf, hl, hx, hw, hs => by
    simp only [TD.fitL, Bool.and_eq_true, decide_eq_true_eq] at hf
    obtain ⟨⟨⟨h1, h2⟩, h3⟩, h4⟩ := hf
    simp only [List.map_cons, DataW.weightsEach, List.all_append, Bool.and_eq_true] at hw
    simp only [TD.sizeL] at hs ⊢
    have h5 := hx 0 f rfl
    rw [h2, h3] at h5
    obtain ⟨a, a1, a2, a3⟩ := TD.opn d h1 h5 hw.1
    obtain ⟨b, b1, b2, b3⟩ := TD.opnL ds (xs := xs) (cs := cs) h4 (by simpa using hl) (fun i g hg => hx (i + 1) g hg) hw.2 (by omega)
    have al : a.length = d.size := (d.enc_pl a1).1
    refine ⟨a ++ b, ⟨a, b, rfl, a1, b1⟩, by simp; omega, fun i y hy => ?_⟩
    by_cases hi : i < a.length
    · rw [List.getElem?_append_left hi] at hy
      have := a3 i y hy
      rw [List.getD_eq_getElem?_getD, List.getElem?_take, if_pos (by omega), List.getElem?_drop] at this
      rw [List.getD_eq_getElem?_getD]
      exact this
    · rw [List.getElem?_append_right (by omega)] at hy
      have := b3 (i - a.length) y hy
      rwa [show o + d.size + (i - a.length) = o + i by omega] at this
end
end
end Go.Proofs.YtfmbdcmjgnikiaaGreatDoor.Sm
namespace Go.Proofs.YtfmbdcmjgnikiaaGreatDoor.Sm
open Go Go.RowKit Go.ChangeShapes Go.WideShapes

def TD.arg : TD → SV → Prop
  | .st fs, s => ∃ ys, s = .agg ys ∧ TD.encL fs ys
  | d, s => d.enc [s]
def argL : List TD → List SV → Prop
  | [], ss => ss = []
  | d :: ds, ss => ∃ s r, ss = s :: r ∧ d.arg s ∧ argL ds r
def fitA (P : Program) : List TD → List TypeId → Bool
  | [], [] => true
  | d :: ds, t :: ts => d.fit P t && fitA P ds ts
  | _, _ => false

theorem TD.arg_plain {d : TD} {s : SV} (h : d.arg s) : plain s = true := by
  cases d with
  | int k => obtain ⟨n, h, _⟩ := h; cases h; rfl
  | bool => obtain ⟨n, h⟩ := h; cases h; rfl
  | sl e => obtain ⟨xs, nl, h, _⟩ := h; cases h; rfl
  | st fs =>
    obtain ⟨ys, rfl, h⟩ := h
    exact List.all_eq_true.2 (TD.encL_pl fs h).2
theorem argL_plain : ∀ {ds : List TD} {ss : List SV}, argL ds ss → ss.all plain = true
  | [], ss, h => by cases h; rfl
  | d :: ds, ss, h => by
    obtain ⟨s, r, rfl, h1, h2⟩ := h
    rw [List.all_cons, TD.arg_plain h1, argL_plain h2]; rfl

section
variable {H : Type} {en : TypeId × Value → H} {P : Program} {w : World}
theorem TD.opnV {d : TD} {t : TypeId} {v : Value} {x : DataW H} {ps : List MemPlace} {base b0 : Nat} {spare : Nat → Bool} {held : Bool} {r : Reach} (hf : d.fit P t = true) (hv : Value.okWide P w r b0 t v) (h : DataW.Trod en P w base spare held t v x ps) (hw : (x.weights P t).all (· ≤ reachBytes) = true) :
    ∃ s, d.arg s ∧ RV (K0 w) v s := by
  obtain ⟨fuel, h⟩ := h
  obtain ⟨ys, h1, h2, h3⟩ := TD.opn d hf h hw
  have single : ∀ {y : SV}, ys = [y] → v.cells = #[v] → RV (K0 w) v y := fun {y} e hc => by
    subst e
    have := h3 0 y rfl
    rw [hc] at this
    exact this
  cases d with
  | int k =>
    simp only [TD.fit] at hf
    split at hf
    · rename_i k' hu
      obtain ⟨n, rfl⟩ := okWide_int hu hv
      obtain ⟨m, rfl, hm⟩ := h1
      exact ⟨_, ⟨m, rfl, hm⟩, single rfl rfl⟩
    · cases hf
  | bool =>
    simp only [TD.fit] at hf
    split at hf
    · rename_i hu
      obtain ⟨n, rfl⟩ := okWide_bool hu hv
      obtain ⟨m, rfl⟩ := h1
      exact ⟨_, ⟨m, rfl⟩, single rfl rfl⟩
    · cases hf
  | sl e =>
    simp only [TD.fit] at hf
    split at hf
    · rename_i u hu
      have hc : v.cells = #[v] := by
        simp only [Value.okWide, hu] at hv
        cases v <;> first | rfl | (simp only [Cell.okWide, Cell.ok, hu] at hv)
      obtain ⟨xs, nl, rfl, hr⟩ := h1
      exact ⟨_, ⟨xs, nl, rfl, hr⟩, single rfl hc⟩
    · cases hf
  | st fs =>
    simp only [TD.fit] at hf
    split at hf
    · rename_i flds hu
      obtain ⟨cs, rfl, hcs⟩ := okWide_struct hu hv
      refine ⟨.agg ys, ⟨ys, rfl, h1⟩, .agg cs ys ?_ fun i y hy => ?_⟩
      · rw [h2]; rfl
      · have := h3 i y hy
        simpa [Value.cells, Array.getD_eq_getD_getElem?, List.getD_eq_getElem?_getD] using this
    · cases hf
theorem opnA {base b0 : Nat} {spare : Nat → Bool} {held : Bool} {r : Reach} : ∀ {tds : List TD} {ts : List TypeId} {vs : List Value} {ds : List (DataW H)} {ps : List MemPlace}, fitA P tds ts = true → (∀ (j : Nat) t v, ts[j]? = some t → vs[j]? = some v → Value.okWide P w r b0 t v) →
    DataW.TrodAll en P w base spare held ts vs ds ps → (DataW.weightsEach P ts ds).all (· ≤ reachBytes) = true → ∃ ss, argL tds ss ∧ vs.length = ss.length ∧ ∀ i y, ss[i]? = some y → RV (K0 w) (vs.getD i Go.undef) y
  | [], [], vs, ds, ps, hf, hv, h, hw => by
    obtain ⟨rfl, rfl, rfl⟩ := trodAll_nil h
    exact ⟨[], rfl, rfl, by simp⟩
  | [], _ :: _, vs, ds, ps, hf, hv, h, hw => by simp [fitA] at hf
  | _ :: _, [], vs, ds, ps, hf, hv, h, hw => by simp [fitA] at hf
  | d :: tds, t :: ts, vs, ds, ps, hf, hv, h, hw => by
    obtain ⟨v, vs', x, ds', p, q, rfl, rfl, rfl, h1, h2⟩ := trodAll_cons h
    simp only [fitA, Bool.and_eq_true] at hf
    simp only [DataW.weightsEach, List.all_append, Bool.and_eq_true] at hw
    obtain ⟨s, a1, a2⟩ := TD.opnV hf.1 (hv 0 t v rfl rfl) h1 hw.1
    obtain ⟨ss, b1, b2, b3⟩ := opnA hf.2 (fun j t v ht hv' => hv (j + 1) t v ht hv') h2 hw.2
    refine ⟨s :: ss, ⟨s, ss, rfl, a1, b1⟩, by simp [b2], fun i y hy => ?_⟩
    cases i with
    | zero => cases hy; exact a2
    | succ i =>
      rw [List.getElem?_cons_succ] at hy
      rw [List.getD_cons_succ]
      exact b3 i y hy

theorem trodAll_stays {W W' : World} {sp : Nat → Bool} (hl : laidOutB P = true) (hb : Below W.heap.size W W') : ∀ {ts : List TypeId} {vs : List Value} {ds : List (DataW H)} {ps : List MemPlace}, (∀ t ∈ ts, P.readableRec t = true ∧ t < P.types.size) →
    DataW.TrodAll en P W 0 (fun _ => true) true ts vs ds ps → (∀ p ∈ ps, p.block < W.heap.size) → (∀ p ∈ ps, sp p.block = true) → DataW.TrodAll en P W' 0 sp true ts vs ds ps
  | [], vs, ds, ps, hr, h, hlt, hs => by
    obtain ⟨rfl, rfl, rfl⟩ := trodAll_nil h
    exact trodAll_mk0
  | t :: ts, vs, ds, ps, hr, h, hlt, hs => by
    obtain ⟨v, vs', x, ds', p, q, rfl, rfl, rfl, h1, h2⟩ := trodAll_cons h
    have ht := hr t List.mem_cons_self
    exact trodAll_cons_mk (WideElems.Trod_stays hl ht.1 ht.2 h1 (fun x hx => hb.same (hlt x (List.mem_append_left _ hx))) (fun x hx => hs x (List.mem_append_left _ hx)))
      (trodAll_stays hl hb (fun t ht => hr t (List.mem_cons_of_mem _ ht)) h2 (fun x hx => hlt x (List.mem_append_right _ hx)) (fun x hx => hs x (List.mem_append_right _ hx)))

theorem post_below {f : Func} {s : ChangeSpec} {apart fresh handsOn again : Bool} {W W' : World} {args : Array Value} {ds gs : List (DataW H)} {before : List MemPlace} {tb : TypeId}
    (hv : s.vars = []) (hl : laidOutB P = true) (hr : ∀ t ∈ f.params.toList, P.readableRec t = true ∧ t < P.types.size) (hrt : f.resultTypes = #[tb]) (hb : P.underlying tb = some .bool)
    (hW : DataW.Whole en P f.params.toList s.vars apart W args.toList ds gs before) (hbel : Below W.heap.size W W')
    (hres : (s.fn H (ds ++ gs)).results = [.lit (.bool true)]) (hargs : (s.fn H (ds ++ gs)).args = ds) (hvars : (s.fn H (ds ++ gs)).vars = []) :
    s.post en P f apart fresh handsOn again W args (.bool true) W' := by
  have hlt := hW.lt
  have hW' := hW
  obtain ⟨p, q, hA, hV, rfl, hz, hn⟩ := hW
  rw [hv] at hV
  obtain ⟨rfl, rfl⟩ := trodVars_none hV
  rw [List.append_nil] at hlt hz hn hW'
  have hR : ∀ (b : Nat) (sp : Nat → Bool) (hd : Bool), DataW.TrodAll en P W' b sp hd f.resultTypes.toList ((Value.bool true).resultList f.resultTypes.size) (s.fn H (ds ++ [])).results [] := fun b sp hd => by
    rw [hrt, hres]
    exact trodAll_mk1 (shut_bool hb true)
  have hT : ∀ sp : Nat → Bool, (∀ x ∈ p, sp x.block = true) → DataW.TrodAll en P W' 0 sp true f.params.toList args.toList (s.fn H (ds ++ [])).args p := fun sp hs => by
    rw [hargs]
    exact trodAll_stays hl hbel hr hA hlt hs
  have hU : ∀ sp : Nat → Bool, DataW.TrodVars en P W' sp s.vars (s.fn H (ds ++ [])).vars [] := fun sp => by
    rw [hv, hvars]; rfl
  have hold : ∀ x ∈ p, (fun b => decide (b < W.heap.size)) x.block = true := fun x hx => by simpa using hlt x hx
  refine ⟨ds, [], p, [], p, [], hW', hR _ _ _, hT _ hold, hU _, World.keptBut_mono (fun x hx => ⟨hx, .inr (.inl hx)⟩) (hbel.frame (· ∈ p)), fun _ => ?_⟩
  refine ⟨ok_one hrt rfl (okWide_bool_mk hb true), [.lit (.bool true)] ++ ds, [], ([] ++ p) ++ [], ⟨[] ++ p, [], ?_, ?_, rfl, ?_, ?_⟩, ?_⟩
  · rw [hrt]
    have h1 := hT (fun _ => true) (fun _ _ => rfl)
    rw [hargs] at h1
    exact trodAll_cons_mk (shut_bool hb true) h1
  · rw [hv]; rfl
  · intro b off hp
    have h2 : MemPlace.cell b off ∈ p := by simpa using hp
    rw [hbel.frozen (p := ⟨b, off, none⟩) (hlt _ h2)]
    exact hz b off h2
  · intro ha
    simpa using hn ha
  · intro x hx _
    simpa using hx

theorem exp1_bool_inv {lo : Nat} {h : HL} {r : SV} {b : Bool} (he : Sm.exp1 lo h r = some (.bool b)) : r = .bool b := by
  cases r <;> simp only [Sm.exp1] at he <;> (try (split at he)) <;> first | (cases he; rfl) | (cases he; done) | skip
  all_goals first | (unfold rowOf at he; split at he <;> (try (simp only at he; split at he)) <;> cases he) | (simp at he)
theorem expo_bool_inv {lo : Nat} {h : HL} {r : SV} {b : Bool} (he : Sm.expo lo h r = some (.bool b)) : r = .bool b := by
  cases r with
  | tup cs => simp [Sm.expo] at he
  | agg cs => simp [Sm.expo, Sm.exp2] at he
  | _ => exact exp1_bool_inv (lo := lo) (h := h) he

theorem start_sim {eqTs : List (Nat × Nat)} {X : Cx} (W : World) (hG : GOK X (K0 W)) (e : Env) : SimS P eqTs X ⟨W.heap.size, W, 0, fun _ _ => False⟩ ⟨e, [], 0, [], 0⟩ (K0 W) where
  f := { bel := Below.refl _ _, bsz := Nat.le_refl _, mc0 := fun _ _ _ => Iff.rfl, hp := fun _ _ h => (nomatch h), inj := fun _ _ _ _ h => (nomatch h), low := fun _ _ h => (nomatch h),
         mcb := fun _ _ h => False.elim h, lp := fun _ _ h => (nomatch h), linj := fun _ _ _ _ h => (nomatch h), llow := fun _ _ h => (nomatch h) }
  wb := rfl
  fresh := fun _ h => False.elim h
  glob := hG

theorem law_runs {eqTs : List (Nat × Nat)} {X : Cx} (hok : ∀ n, FnOK P eqTs X (ev X n)) {f : Nat} {mf : MFun} (hf : X.fns f = some mf) {ss : List SV} (hp : ss.all plain = true) {vs : Array Value} {W : World} (hG : GOK X (K0 W)) (hc : CR (K0 W) vs ss) {st : St}
    (hrun : WpF X .ro f ss st fun r _ => r = .bool true) : Calls P f vs W fun e W' => e = .returned (.bool true) ∧ Below W.heap.size W W' := by
  rw [wpF_ro hf hp] at hrun
  obtain ⟨n, r, s, h1, v, h2, rfl⟩ := hrun
  obtain rfl := expo_bool_inv h2
  have := hok n f mf ss vs _ _ (K0 W) (.bool true) s hf h1 rfl hc (start_sim W hG _)
  refine (callsIn_wide.1 this).mono fun e W' h => ?_
  obtain ⟨val, K', rfl, rfl, h3, h4, _⟩ := h
  rw [inv_bool h3]
  exact ⟨rfl, h4.f.bel⟩
/-- What a row asks of a law. -/
theorem law_contract {eqTs : List (Nat × Nat)} {X : Cx} (hok : ∀ n, FnOK P eqTs X (ev X n)) {f : Nat} {mf : MFun} (hf : X.fns f = some mf) {fn : Func} {tds : List TD} (hfit : fitA P tds fn.params.toList = true) {st : St}
    (law : ∀ ss, argL tds ss → WpF X .ro f ss st fun r _ => r = .bool true)
    {s : ChangeSpec} {apart fresh handsOn again : Bool} {tb : TypeId} (hv : s.vars = []) (hl : laidOutB P = true) (hr : ∀ t ∈ fn.params.toList, P.readableRec t = true ∧ t < P.types.size) (hrt : fn.resultTypes = #[tb]) (hb : P.underlying tb = some .bool)
    (hs : ∀ ds : List (DataW H), ds.length = tds.length → s.fn H ds = { results := [.lit (.bool true)], args := ds })
    {W : World} {base : Nat} {args : Array Value} {ds gs : List (DataW H)} {before : List MemPlace} {vts : List TypeId} (hG : GOK X (K0 W))
    (hval : ∀ (j : Nat) t v, fn.params[j]? = some t → args[j]? = some v → Value.okWide P W .any base t v)
    (hW : DataW.Whole en P fn.params.toList s.vars apart W args.toList ds gs before) (hw : (DataW.weightsEach P (fn.params.toList ++ vts) (ds ++ gs)).all (· ≤ reachBytes) = true) :
    Calls P f args W fun e W' => ∃ v, e = .returned v ∧ s.post en P fn apart fresh handsOn again W args v W' := by
  have hW' := hW
  obtain ⟨p, q, hA, hV, rfl, hz, hn⟩ := hW
  rw [hv] at hV
  obtain ⟨rfl, rfl⟩ := trodVars_none hV
  rw [List.append_nil] at hw
  have hlen : ∀ {ts : List TypeId} {vs : List Value} {ds : List (DataW H)} {ps : List MemPlace}, DataW.TrodAll en P W 0 (fun _ => true) true ts vs ds ps → ds.length = ts.length := by
    intro ts
    induction ts with
    | nil => intro vs ds ps h; obtain ⟨_, rfl, _⟩ := trodAll_nil h; rfl
    | cons t ts ih =>
      intro vs ds ps h
      obtain ⟨v, vs', x, ds', p, q, rfl, rfl, rfl, h1, h2⟩ := trodAll_cons h
      rw [List.length_cons, List.length_cons, ih h2]
  have hfl : ∀ {tds : List TD} {ts : List TypeId}, fitA P tds ts = true → tds.length = ts.length := by
    intro tds
    induction tds with
    | nil => intro ts h; cases ts with | nil => rfl | cons t ts => simp [fitA] at h
    | cons d tds ih =>
      intro ts h
      cases ts with
      | nil => simp [fitA] at h
      | cons t ts =>
        simp only [fitA, Bool.and_eq_true] at h
        rw [List.length_cons, List.length_cons, ih h.2]
  have hwk : ∀ {ts us : List TypeId} {ds : List (DataW H)}, ds.length = ts.length → DataW.weightsEach P (ts ++ us) ds = DataW.weightsEach P ts ds := by
    intro ts
    induction ts with
    | nil => intro us ds h; obtain rfl : ds = [] := List.length_eq_zero_iff.1 h; cases us <;> rfl
    | cons t ts ih =>
      intro us ds h
      cases ds with
      | nil => simp at h
      | cons d ds =>
        rw [List.cons_append, DataW.weightsEach, DataW.weightsEach, ih (by simpa using h)]
  rw [hwk (hlen hA)] at hw
  obtain ⟨ss, h1, h2, h3⟩ := opnA hfit (fun j t v ht hv' => hval j t v (by simpa using ht) (by simpa using hv')) hA hw
  have hc : CR (K0 W) args ss := ⟨by simpa using h2, fun i y hy => by
    have := h3 i y hy
    simpa [Array.getD_eq_getD_getElem?, List.getD_eq_getElem?_getD] using this⟩
  refine (law_runs hok hf (argL_plain h1) hG hc (law ss h1)).mono fun e W' ⟨he, hbel⟩ => ?_
  subst he
  have e := hs ds (by rw [hlen hA, hfl hfit])
  refine ⟨_, rfl, post_below hv hl hr hrt hb hW' hbel ?_ ?_ ?_⟩ <;> rw [List.append_nil, e]
end
end Go.Proofs.YtfmbdcmjgnikiaaGreatDoor.Sm
