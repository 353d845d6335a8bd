/- A scope through which nothing jumps, inside a fence. Conditions: none. Plain laws of the interpreter: what an operation looks at, what it leaves as it was. Conditions: none. A world in which blocks were added stands for the same; what a function hands back. Conditions: none. A call, as the caller sees it. Conditions: what is called does what the interpreter does. A call of each mode. Conditions: what is called does what the interpreter does. The records of ranges over functions, and rounds. Conditions: the parts do what the interpreter does. A yield: one round of the caller's loop. Conditions: the body and the assignments do what the interpreter does. One operation, whatever it is. Conditions: what it calls does what the interpreter does. One instruction with its guard; a region in its own order. Conditions: the parts do what the interpreter does. A function, out of its body's walk. Conditions: the body does what the interpreter does. Order-open regions: plain laws. Conditions: none. Code, whole: by induction on the steps that the interpreter may take. Conditions: the program's small code is checked; its order-open regions follow mixed orders. The induction. Conditions: order-open regions do what the interpreter does (DrawOK). -/
import Derived.CallsIn
import Derived.ControlIn
import Derived.Scope
import Derived.Test.YtfmbdcmjgnikiaaGreatDoorM2
import Derived.RangeFuncNested
import Derived.LoopNIn
set_option linter.unusedSimpArgs false
set_option linter.unusedVariables false
namespace Go.Proofs.YtfmbdcmjgnikiaaGreatDoor.Sm
open Go
section
variable {F : Fence} {n : Nat} {P : Program} {b : Frame} {a : Act} {k : List Item} {cs : List Frame} {w : World} {Q : Exit → Act → World → Prop}
theorem stepR_scope {c : Code} : Go.step P (lone (b.atR a (.code (.scope c) :: k)) cs w) = .next (lone (b.atR a (.code c :: .inScope c :: k)) cs w) :=
  step_lone_go (by simp [stepG, stepG.exec, Frame.atR])
theorem stepR_inScope {c : Code} : Go.step P (lone (b.atR a (.inScope c :: k)) cs w) = .next (lone (b.atR a k) cs w) :=
  step_lone_go (by simp [stepG, stepG.exec, Frame.atR])
theorem wpIn_scope {c : Code} (h : c.wpIn F n P (Exit.noGoto Q) a w) : (Code.scope c).wpIn F n P Q a w := by
  intro b k cs hro hb hr
  have h0 : (lone (b.atR a (.code (.scope c) :: k)) cs w).fenced P F := fenced_calm hb hr rfl
  obtain ⟨e, a₁, w₁, hq, harr⟩ := h b (.inScope c :: k) cs hro hb hr
  cases e with
  | normal => exact ⟨.normal, a₁, w₁, hq, .head h0 stepR_scope (StepsIn.trans harr (.one (fenced_calm hb hr rfl) stepR_inScope))⟩
  | exit id' =>
    have hx : exitTo id' (.inScope c :: k) = exitTo id' k := by simp [exitTo]
    exact ⟨.exit id', a₁, w₁, hq, fun k' hk => .head h0 stepR_scope (harr.1 k' (by rw [hx]; exact hk)),
      fun hr' hk => let ⟨k₁, h1, h2⟩ := harr.2 hr' (by rw [hx]; exact hk); ⟨k₁, h1, .head h0 stepR_scope h2⟩⟩
  | goto l => exact hq.elim
  | ret => exact ⟨_, a₁, w₁, hq, .of_steps (.one h0 stepR_scope) harr⟩
  | panic ch => exact ⟨_, a₁, w₁, hq, .of_steps (.one h0 stepR_scope) harr⟩
  | outgrown => exact ⟨_, a₁, w₁, hq, .of_steps (.one h0 stepR_scope) harr⟩
end
end Go.Proofs.YtfmbdcmjgnikiaaGreatDoor.Sm
namespace Go.Proofs.YtfmbdcmjgnikiaaGreatDoor.Sm
open Go Go.RowKit

/-! ### lists of pairs -/
theorem look_cons {α : Type} (k : Nat) (v : α) (r : List (Nat × α)) (i : Nat) : look ((k, v) :: r) i = if k = i then some v else look r i := rfl
theorem look_del {α : Type} : ∀ (h : List (Nat × α)) (i j : Nat), look (del h i) j = if j = i then none else look h j
  | [], i, j => by simp [del, look]
  | (k, v) :: r, i, j => by
    have ih := look_del r i j
    by_cases hk : k = i
    · subst hk
      rw [del, if_pos rfl, ih]
      by_cases hj : j = k
      · simp [hj]
      · rw [if_neg hj, if_neg hj, look_cons, if_neg (fun e => hj e.symm)]
    · rw [del, if_neg hk, look_cons, ih]
      by_cases hkj : k = j
      · subst hkj
        simp [hk, look_cons]
      · rw [if_neg hkj]
        by_cases hj : j = i
        · simp [hj]
        · rw [if_neg hj, if_neg hj, look_cons, if_neg hkj]
theorem look_upd {α : Type} : ∀ (h : List (Nat × α)) (i : Nat) (x : α) (j : Nat), (look h i).isSome = true → look (upd h i x) j = if j = i then some x else look h j
  | [], i, x, j, hs => by simp [look] at hs
  | (k, v) :: r, i, x, j, hs => by
    by_cases hk : k = i
    · subst hk
      rw [upd, if_pos rfl, look_cons, look_cons]
      by_cases hj : j = k
      · simp [hj]
      · rw [if_neg (fun e => hj e.symm), if_neg hj, if_neg (fun e => hj e.symm)]
    · rw [look_cons, if_neg hk] at hs
      have ih := look_upd r i x j hs
      rw [upd, if_neg hk, look_cons, look_cons, ih]
      by_cases hkj : k = j
      · subst hkj
        simp [hk]
      · rw [if_neg hkj, if_neg hkj]
theorem look_app {α : Type} : ∀ (a b : List (Nat × α)) (i : Nat), look (a ++ b) i = match look a i with | some v => some v | none => look b i
  | [], b, i => by simp [look]
  | (k, v) :: a, b, i => by
    rw [List.cons_append, look_cons, look_cons, look_app a b i]
    by_cases h : k = i
    · simp [h]
    · simp [h]
theorem look_filter {α : Type} (p : Nat → Bool) : ∀ (a : List (Nat × α)) (i : Nat), look (a.filter fun x => p x.1) i = if p i then look a i else none
  | [], i => by simp [look]
  | (k, v) :: a, i => by
    have ih := look_filter p a i
    by_cases hk : p k = true
    · rw [List.filter_cons_of_pos (by simpa using hk), look_cons, look_cons, ih]
      by_cases h : k = i
      · subst h; simp [hk]
      · simp [h]
    · rw [List.filter_cons_of_neg (by simpa using hk), ih, look_cons]
      by_cases h : k = i
      · subst h; simp [hk]
      · simp [h]
theorem look_app1 (h : Heap) (i : Nat) (c : Option (List SV)) (j : Nat) : look (app1 h i c) j = if j = i then c else look h j := by
  cases c with
  | none => exact look_del h i j
  | some c =>
    show look (if (look h i).isSome then upd h i c else (i, c) :: h) j = _
    split
    · rename_i hs; exact look_upd h i c j hs
    · rw [look_cons]
      by_cases hj : j = i
      · subst hj; simp
      · rw [if_neg (fun e => hj e.symm), if_neg hj]
theorem look_appM : ∀ (ms : Mods) (h : Heap), look (appM h ms) = appF (look h) ms
  | [], h => rfl
  | (i, c) :: ms, h => by
    rw [appM, appF, look_appM ms]
    congr 1
    funext j
    exact look_app1 h i c j
theorem appF_out : ∀ (ms : Mods) (h : HL) (i : Nat), (∀ p ∈ ms, p.1 ≠ i) → appF h ms i = h i
  | [], h, i, _ => rfl
  | (k, c) :: ms, h, i, hm => by
    rw [appF, appF_out ms _ i fun p hp => hm p (List.mem_cons_of_mem _ hp), if_neg (fun e => hm _ List.mem_cons_self e.symm)]
/-- Where one of two is told a change, or they agree, they agree behind it. -/
theorem appF_agree : ∀ (ms : Mods) (h h' : HL) (i : Nat), h i = h' i → appF h ms i = appF h' ms i
  | [], h, h', i, e => e
  | (k, c) :: ms, h, h', i, e => by
    rw [appF, appF]
    refine appF_agree ms _ _ i ?_
    by_cases hk : i = k
    · simp [hk]
    · simp [hk, e]
theorem appF_hit : ∀ (ms : Mods) (h h' : HL) (i : Nat), (∃ p ∈ ms, p.1 = i) → appF h ms i = appF h' ms i
  | [], h, h', i, e => by obtain ⟨p, hp, _⟩ := e; cases hp
  | (k, c) :: ms, h, h', i, e => by
    rw [appF, appF]
    by_cases hk : i = k
    · exact appF_agree ms _ _ i (by simp [hk])
    · obtain ⟨p, hp, hpi⟩ := e
      rcases List.mem_cons.1 hp with rfl | hp
      · exact absurd hpi.symm hk
      · exact appF_hit ms _ _ i ⟨p, hp, hpi⟩

/-! ### what is taken over -/
theorem own1_of {y : SV} {id off len sz : Nat} (h : y = .own id off len sz) : id ∈ own1 y := by subst h; simp [own1]
theorem take1_congr {wb : Nat} {h h' : HL} {y : SV} (ha : ∀ i ∈ own1 y, h i = h' i) : take1 wb h y = take1 wb h' y := by
  cases y with
  | own id off len sz =>
    have := ha id (by simp [own1])
    simp only [take1, rowOf, this]
  | _ => rfl
theorem take1_mods {wb : Nat} {h : HL} {y u : SV} {ms : Mods} (he : take1 wb h y = some (u, ms)) : ∀ p ∈ ms, p.1 ∈ own1 y := by
  have triv : ∀ y : SV, (if pl1 y then some (y, ([] : Mods)) else none) = some (u, ms) → ms = [] := fun y he => by
    split at he
    · simp only [Option.some.injEq, Prod.mk.injEq] at he; exact he.2.symm
    · cases he
  cases y with
  | own id off len sz =>
    simp only [take1] at he
    split at he
    · rw [Option.map_eq_some_iff] at he
      obtain ⟨r, hr, he⟩ := he
      simp only [Prod.mk.injEq] at he
      obtain ⟨rfl, rfl⟩ := he
      intro p hp
      simp only [List.mem_singleton] at hp
      subst hp
      simp [own1]
    · cases he
  | _ => simp only [take1] at he; obtain rfl := triv _ he; intro p hp; cases hp
theorem takeL_congr {wb : Nat} : ∀ {ys : List SV} {h h' : HL}, (∀ i ∈ ys.flatMap own1, h i = h' i) → takeL wb h ys = takeL wb h' ys
  | [], h, h', ha => rfl
  | y :: ys, h, h', ha => by
    have h1 := take1_congr (wb := wb) (y := y) (h := h) (h' := h') fun i hi => ha i (by simp [hi])
    simp only [takeL, h1]
    split
    · rename_i u m1 _
      have h2 := takeL_congr (wb := wb) (ys := ys) (h := appF h m1) (h' := appF h' m1) fun i hi => appF_agree m1 h h' i (ha i (by
        rw [List.flatMap_cons]; exact List.mem_append_right _ hi))
      rw [h2]
    · rfl
theorem takeL_mods {wb : Nat} : ∀ {ys us : List SV} {h : HL} {ms : Mods}, takeL wb h ys = some (us, ms) → ∀ p ∈ ms, p.1 ∈ ys.flatMap own1
  | [], us, h, ms, he => by
    simp only [takeL, Option.some.injEq, Prod.mk.injEq] at he
    obtain ⟨_, rfl⟩ := he
    intro p hp; cases hp
  | y :: ys, us, h, ms, he => by
    simp only [takeL] at he
    split at he
    · rename_i u m1 h1
      split at he
      · rename_i us' m2 h2
        simp only [Option.some.injEq, Prod.mk.injEq] at he
        obtain ⟨_, rfl⟩ := he
        intro p hp
        rw [List.flatMap_cons]
        rcases List.mem_append.1 hp with hp | hp
        · exact List.mem_append_left _ (take1_mods h1 p hp)
        · exact List.mem_append_right _ (takeL_mods h2 p hp)
      · cases he
    · cases he
theorem take2_not {wb : Nat} {h : HL} {y : SV} (hy : ∀ cs, y ≠ .agg cs) : take2 wb h y = take1 wb h y := by
  cases y <;> first | rfl | exact absurd rfl (hy _)
theorem ownC_not {y : SV} (hy : ∀ cs, y ≠ .agg cs) : ownC y = own1 y := by
  cases y <;> first | rfl | exact absurd rfl (hy _)
theorem take2_congr {wb : Nat} {h h' : HL} {y : SV} (ha : ∀ i ∈ ownC y, h i = h' i) : take2 wb h y = take2 wb h' y := by
  by_cases hy : ∃ cs, y = .agg cs
  · obtain ⟨cs, rfl⟩ := hy
    simp only [take2]
    rw [takeL_congr (h := h) (h' := h') ha]
  · have hy' : ∀ cs, y ≠ .agg cs := fun cs e => hy ⟨cs, e⟩
    rw [take2_not hy', take2_not hy']
    rw [ownC_not hy'] at ha
    exact take1_congr ha
theorem take2_mods {wb : Nat} {h : HL} {y u : SV} {ms : Mods} (he : take2 wb h y = some (u, ms)) : ∀ p ∈ ms, p.1 ∈ ownC y := by
  by_cases hy : ∃ cs, y = .agg cs
  · obtain ⟨cs, rfl⟩ := hy
    simp only [take2, Option.map_eq_some_iff, Prod.mk.injEq] at he
    obtain ⟨⟨us, m⟩, h1, _, rfl⟩ := he
    exact takeL_mods h1
  · have hy' : ∀ cs, y ≠ .agg cs := fun cs e => hy ⟨cs, e⟩
    rw [take2_not hy'] at he
    rw [ownC_not hy']
    exact take1_mods he
theorem take2L_congr {wb : Nat} : ∀ {ys : List SV} {h h' : HL}, (∀ i ∈ ys.flatMap ownC, h i = h' i) → take2L wb h ys = take2L wb h' ys
  | [], h, h', ha => rfl
  | y :: ys, h, h', ha => by
    have h1 := take2_congr (wb := wb) (y := y) (h := h) (h' := h') fun i hi => ha i (by simp [hi])
    simp only [take2L, h1]
    split
    · rename_i u m1 _
      have h2 := take2L_congr (wb := wb) (ys := ys) (h := appF h m1) (h' := appF h' m1) fun i hi => appF_agree m1 h h' i (ha i (by
        rw [List.flatMap_cons]; exact List.mem_append_right _ hi))
      rw [h2]
    · rfl
theorem take2L_mods {wb : Nat} : ∀ {ys us : List SV} {h : HL} {ms : Mods}, take2L wb h ys = some (us, ms) → ∀ p ∈ ms, p.1 ∈ ys.flatMap ownC
  | [], us, h, ms, he => by
    simp only [take2L, Option.some.injEq, Prod.mk.injEq] at he
    obtain ⟨_, rfl⟩ := he
    intro p hp; cases hp
  | y :: ys, us, h, ms, he => by
    simp only [take2L] at he
    split at he
    · rename_i u m1 h1
      split at he
      · rename_i us' m2 h2
        simp only [Option.some.injEq, Prod.mk.injEq] at he
        obtain ⟨_, rfl⟩ := he
        intro p hp
        rw [List.flatMap_cons]
        rcases List.mem_append.1 hp with hp | hp
        · exact List.mem_append_left _ (take2_mods h1 p hp)
        · exact List.mem_append_right _ (take2L_mods h2 p hp)
      · cases he
    · cases he

/-! ### an operation looks at its footprint alone -/
theorem srcOf_congr {h h' : HL} {sz : Nat} {y : SV} (ha : ∀ i ∈ own1 y, h i = h' i) : srcOf h sz y = srcOf h' sz y := by
  cases y with
  | own id off len s =>
    have := ha id (by simp [own1])
    simp only [srcOf, this]
  | _ => rfl

theorem evR_congr {h h' : HL} {nx : Nat} {ρ : Arg → SV} {o : ROp} (ha : ∀ i ∈ rdR ρ o, h i = h' i) : evR h nx ρ o = evR h' nx ρ o := by
  cases o with
  | sliceA n sz x =>
    simp only [evR]
    split
    · rename_i id off hx
      rw [ha id (by simp [rdR, hx, ptr1])]
    · rfl
  | load sz ag x =>
    simp only [evR]
    split
    · rename_i id off hx
      rw [ha id (by simp [rdR, hx, ptr1])]
    · rfl
    · rfl
  | _ => rfl

theorem evW_congr {wb : Nat} {h h' : HL} {nx : Nat} {ρ : Arg → SV} {o : WOp} (ha : ∀ i ∈ (rdW ρ o).1 ++ (rdW ρ o).2, h i = h' i) : evW wb h nx ρ o = evW wb h' nx ρ o := by
  cases o with
  | store sz x v =>
    simp only [evW]
    split
    · rename_i id off hx
      rw [ha id (by simp [rdW, hx, ptr1])]
    · rfl
  | append sz x y =>
    have h1 : srcOf h sz (ρ y) = srcOf h' sz (ρ y) := srcOf_congr fun i hi => ha i (List.mem_append_left _ hi)
    have h2 : ∀ id off len s, ρ x = .own id off len s → h id = h' id := fun id off len s hx => ha id (List.mem_append_right _ (own1_of hx))
    simp only [evW, h1]
    cases hx : ρ x with
    | own id off len s => simp only [h2 _ _ _ _ hx]
    | tree xs nl tg => cases tg <;> rfl
    | _ => rfl
  | appendT sz x y =>
    have h1 : srcOf h sz (ρ y) = srcOf h' sz (ρ y) := srcOf_congr fun i hi => ha i (List.mem_append_left _ hi)
    have h2 : ∀ id off len s, ρ x = .own id off len s → h id = h' id := fun id off len s hx => ha id (List.mem_append_right _ (own1_of hx))
    simp only [evW, h1]
    cases hx : ρ x with
    | own id off len s => simp only [h2 _ _ _ _ hx]
    | tree xs nl tg => cases tg <;> rfl
    | _ => rfl
  | appendZ z x n => rfl
  | copy sz x y =>
    have h1 : srcOf h sz (ρ y) = srcOf h' sz (ρ y) := srcOf_congr fun i hi => ha i (List.mem_append_left _ hi)
    have h2 : ∀ id off len s, ρ x = .own id off len s → h id = h' id := fun id off len s hx => ha id (List.mem_append_right _ (own1_of hx))
    simp only [evW, h1]
    cases hx : ρ x with
    | own id off len s => simp only [h2 _ _ _ _ hx]
    | tree xs nl tg => cases tg <;> rfl
    | _ => rfl
  | bslice sz ps =>
    simp only [evW]
    rw [take2L_congr (h := h) (h' := h') fun i hi => ha i (by
      simp only [rdW, List.nil_append]
      rw [List.flatMap_map] at hi
      exact hi)]
  | frz x =>
    simp only [evW]
    rw [take2L_congr (h := h) (h' := h') fun i hi => ha i (by
      simp only [rdW, List.nil_append]
      rw [List.flatMap_map] at hi
      exact hi)]
  | bfrz z ps =>
    simp only [evW]
    cases hb : buildC ρ z ps with
    | none => rfl
    | some cs =>
      simp only
      rw [take2L_congr (h := h) (h' := h') fun i hi => ha i (by
        simp only [rdW, List.nil_append, hb]
        rw [List.flatMap_cons, List.flatMap_nil, List.append_nil] at hi
        exact hi)]

theorem evW_mods {wb : Nat} {h : HL} {nx nx' : Nat} {ρ : Arg → SV} {o : WOp} {v : SV} {ms : Mods} (he : evW wb h nx ρ o = some (v, ms, nx')) : nx ≤ nx' ∧ ∀ p ∈ ms, p.1 ∈ (rdW ρ o).2 ∨ (nx ≤ p.1 ∧ p.1 < nx') := by
  have nil : ∀ {a b : SV} {m : Nat}, some (a, ([] : Mods), nx) = some (b, ms, m) → nx ≤ m ∧ ∀ p ∈ ms, p.1 ∈ (rdW ρ o).2 ∨ (nx ≤ p.1 ∧ p.1 < m) := fun {a b m} he => by
    simp only [Option.some.injEq, Prod.mk.injEq] at he
    obtain ⟨_, rfl, rfl⟩ := he
    exact ⟨Nat.le_refl _, fun p hp => by cases hp⟩
  cases o with
  | store sz x y =>
    simp only [evW] at he
    split at he
    · rename_i id off hx
      split at he
      · split at he
        · split at he
          · simp only [Option.some.injEq, Prod.mk.injEq] at he
            obtain ⟨_, rfl, rfl⟩ := he
            refine ⟨Nat.le_refl _, fun p hp => .inl ?_⟩
            simp only [List.mem_singleton] at hp
            subst hp
            simp [rdW, hx, ptr1]
          · cases he
        · cases he
      · cases he
    · cases he
  | append sz x y =>
    simp only [evW] at he
    split at he
    · split at he
      · split at he
        · exact nil he
        · cases he
      · split at he
        · cases he
        · split at he
          · split at he
            · simp only [Option.some.injEq, Prod.mk.injEq] at he
              obtain ⟨_, rfl, rfl⟩ := he
              refine ⟨by omega, fun p hp => .inr ?_⟩
              simp only [List.mem_singleton] at hp
              subst hp
              simp only; omega
            · cases he
          · rename_i id off len s hx
            split at he
            · split at he
              · split at he
                · simp only [Option.some.injEq, Prod.mk.injEq] at he
                  obtain ⟨_, rfl, rfl⟩ := he
                  refine ⟨by omega, fun p hp => ?_⟩
                  simp only [List.mem_cons, List.mem_nil_iff, or_false] at hp
                  rcases hp with rfl | rfl
                  · exact .inl (by simp [rdW, hx, own1])
                  · exact .inr ⟨Nat.le_refl _, by simp only; omega⟩
                · cases he
              · cases he
            · cases he
          · cases he
    · cases he
  | appendT sz x y =>
    simp only [evW] at he
    split at he
    · split at he
      · split at he
        · exact nil he
        · cases he
      · split at he
        · cases he
        · split at he
          · split at he
            · exact nil he
            · cases he
          · rename_i id off len s hx
            split at he
            · split at he
              · split at he
                · simp only [Option.some.injEq, Prod.mk.injEq] at he
                  obtain ⟨_, rfl, rfl⟩ := he
                  refine ⟨Nat.le_refl _, fun p hp => .inl ?_⟩
                  simp only [List.mem_singleton] at hp
                  subst hp
                  simp [rdW, hx, own1]
                · cases he
              · cases he
            · cases he
          · cases he
    · cases he
  | appendZ z x n =>
    simp only [evW] at he
    split at he
    · split at he
      · split at he
        · exact nil he
        · simp only [Option.some.injEq, Prod.mk.injEq] at he
          obtain ⟨_, rfl, rfl⟩ := he
          refine ⟨by omega, fun p hp => .inr ?_⟩
          simp only [List.mem_singleton] at hp
          subst hp
          simp only; omega
      · cases he
    · cases he
  | copy sz x y =>
    simp only [evW] at he
    split at he
    · split at he
      · rename_i id off len s hx
        split at he
        · split at he
          · split at he
            · simp only [Option.some.injEq, Prod.mk.injEq] at he
              obtain ⟨_, rfl, rfl⟩ := he
              refine ⟨Nat.le_refl _, fun p hp => .inl ?_⟩
              simp only [List.mem_singleton] at hp
              subst hp
              simp [rdW, hx, own1]
            · cases he
          · cases he
        · cases he
      · cases he
    · cases he
  | bslice sz ps =>
    simp only [evW] at he
    split at he
    · rename_i vs m htk
      split at he
      · simp only [Option.some.injEq, Prod.mk.injEq] at he
        obtain ⟨_, rfl, rfl⟩ := he
        refine ⟨Nat.le_refl _, fun p hp => .inl ?_⟩
        have := take2L_mods htk p hp
        rw [List.flatMap_map] at this
        exact this
      · cases he
    · cases he
  | frz x =>
    simp only [evW] at he
    split at he
    · rename_i u m htk
      simp only [Option.some.injEq, Prod.mk.injEq] at he
      obtain ⟨_, rfl, rfl⟩ := he
      refine ⟨Nat.le_refl _, fun p hp => .inl ?_⟩
      have := take2L_mods htk p hp
      rw [List.flatMap_map] at this
      exact this
    · cases he
  | bfrz z ps =>
    simp only [evW] at he
    split at he
    · rename_i cs hb
      split at he
      · rename_i u m htk
        simp only [Option.some.injEq, Prod.mk.injEq] at he
        obtain ⟨_, rfl, rfl⟩ := he
        refine ⟨Nat.le_refl _, fun p hp => .inl ?_⟩
        have := take2L_mods htk p hp
        rw [List.flatMap_cons, List.flatMap_nil, List.append_nil] at this
        simp only [rdW, hb]
        exact this
      · cases he
    · cases he

/-! ### names go up; what may be written stays -/
def RecOk (rec : Rec) : Prop := ∀ c st x st', rec c st = some (x, st') → st.nx ≤ st'.nx ∧ st'.wb = st.wb

theorem runF_ok {rec : Rec} (hr : RecOk rec) {mf : MFun} {st st' : St} {v : SV} (he : runF rec mf st = some (v, st')) : st.nx ≤ st'.nx ∧ st'.wb = st.wb := by
  unfold runF at he
  split at he
  · cases he
  · rename_i x st1 h1 h2
    split at he
    · simp only [Option.some.injEq, Prod.mk.injEq] at he
      obtain ⟨_, rfl⟩ := he
      exact hr _ _ _ _ h2
    · cases he
  · cases he

theorem callF_ok {rec : Rec} (hr : RecOk rec) {X : Cx} {m : Mode} {f : Nat} {args : List SV} {st st' : St} {v : SV} (he : callF rec X m f args st = some (v, st')) : st.nx ≤ st'.nx ∧ st'.wb = st.wb ∧ st'.env = st.env := by
  unfold callF at he
  split at he
  · cases he
  · split at he
    · split at he
      · rename_i r st1 h1
        simp only [Option.some.injEq, Prod.mk.injEq] at he
        obtain ⟨_, rfl⟩ := he
        have := runF_ok hr h1
        exact ⟨this.1, this.2, rfl⟩
      · cases he
    · split at he
      · split at he
        · rename_i r st1 h1
          simp only [Option.some.injEq, Prod.mk.injEq] at he
          obtain ⟨_, rfl⟩ := he
          have := runF_ok hr h1
          exact ⟨this.1, rfl, rfl⟩
        · cases he
      · cases he
    · split at he
      · split at he
        · split at he
          · simp only [Option.some.injEq, Prod.mk.injEq] at he
            obtain ⟨_, rfl⟩ := he
            exact ⟨Nat.le_refl _, rfl, rfl⟩
          · cases he
        · cases he
      · split at he
        · split at he
          · simp only [Option.some.injEq, Prod.mk.injEq] at he
            obtain ⟨_, rfl⟩ := he
            exact ⟨Nat.le_refl _, rfl, rfl⟩
          · cases he
        · cases he

theorem callY_ok {rec : Rec} (hr : RecOk rec) {l : Nat} {args : List SV} {st st' : St} {v : SV} (he : callY rec l args st = some (v, st')) : st.nx ≤ st'.nx ∧ st'.wb = st.wb ∧ st'.env = st.env := by
  unfold callY at he
  split at he
  · cases he
  · split at he
    · split at he
      · rename_i st2 h2
        split at he
        · split at he
          · split at he
            · rename_i x st3 h3
              split at he
              · simp only [Option.some.injEq, Prod.mk.injEq] at he
                obtain ⟨_, rfl⟩ := he
                have e2 := hr _ _ _ _ h2
                have e3 := hr _ _ _ _ h3
                exact ⟨Nat.le_trans e2.1 e3.1, e3.2.trans e2.2, rfl⟩
              · cases he
            · cases he
          · cases he
        · cases he
      · cases he
    · cases he

theorem evOp_ok {rec : Rec} (hr : RecOk rec) {X : Cx} {op : MOp} {st st' : St} {v : SV} (he : evOp rec X op st = some (v, st')) : st.nx ≤ st'.nx ∧ st'.wb = st.wb ∧ st'.env = st.env := by
  cases op with
  | r o =>
    simp only [evOp] at he
    split at he
    · simp only [Option.some.injEq, Prod.mk.injEq] at he
      obtain ⟨_, rfl⟩ := he
      exact ⟨Nat.le_refl _, rfl, rfl⟩
    · simp only [Option.some.injEq, Prod.mk.injEq] at he
      obtain ⟨_, rfl⟩ := he
      exact ⟨by simp only; omega, rfl, rfl⟩
    · cases he
  | w o =>
    simp only [evOp] at he
    split at he
    · rename_i h1
      simp only [Option.some.injEq, Prod.mk.injEq] at he
      obtain ⟨_, rfl⟩ := he
      exact ⟨(evW_mods h1).1, rfl, rfl⟩
    · cases he
  | call m f args =>
    simp only [evOp, callV] at he
    split at he
    · exact callF_ok hr he
    · split at he
      · exact callY_ok hr he
      · cases he
    · cases he

theorem putE_nx {st : St} {d : Option Nat} {v : SV} : (putE st d v).nx = st.nx ∧ (putE st d v).wb = st.wb ∧ (putE st d v).heap = st.heap ∧ (putE st d v).loops = st.loops := by
  cases d <;> exact ⟨rfl, rfl, rfl, rfl⟩

theorem evIns_ok {rec : Rec} (hr : RecOk rec) {X : Cx} {i : Ins} {st st' : St} (he : evIns rec X i st = some st') : st.nx ≤ st'.nx ∧ st'.wb = st.wb := by
  unfold evIns at he
  split at he
  · split at he
    · rename_i v st1 h1
      cases he
      have := evOp_ok hr h1
      exact ⟨by rw [putE_nx.1]; exact this.1, by rw [putE_nx.2.1]; exact this.2.1⟩
    · cases he
  · cases he
    exact ⟨by rw [putE_nx.1]; exact Nat.le_refl _, putE_nx.2.1⟩
  · cases he

theorem evOps_ok {rec : Rec} (hr : RecOk rec) {X : Cx} : ∀ {is : List Ins} {st st' : St}, evOps rec X is st = some st' → st.nx ≤ st'.nx ∧ st'.wb = st.wb
  | [], st, st', he => by cases he; exact ⟨Nat.le_refl _, rfl⟩
  | i :: is, st, st', he => by
    simp only [evOps] at he
    split at he
    · rename_i st1 h1
      have a := evIns_ok hr h1
      have b := evOps_ok hr he
      exact ⟨Nat.le_trans a.1 b.1, b.2.trans a.2⟩
    · cases he
theorem evDraw_ok {rec : Rec} (hr : RecOk rec) {X : Cx} : ∀ {is : List Ins} {st st' : St} {fs : List FP}, evDraw rec X is st = some (st', fs) → st.nx ≤ st'.nx ∧ st'.wb = st.wb
  | [], st, st', fs, he => by cases he; exact ⟨Nat.le_refl _, rfl⟩
  | i :: is, st, st', fs, he => by
    simp only [evDraw] at he
    split at he
    · rename_i st1 h1
      split at he
      · split at he
        · rename_i st2 fs2 h2
          cases he
          have a := evIns_ok hr h1
          have b := evDraw_ok hr h2
          exact ⟨Nat.le_trans a.1 b.1, b.2.trans a.2⟩
        · cases he
      · cases he
    · cases he

theorem step_ok {rec : Rec} (hr : RecOk rec) (X : Cx) : RecOk (step rec X) := by
  intro c st x st' he
  cases c with
  | trap => cases he
  | skip => cases he; exact ⟨Nat.le_refl _, rfl⟩
  | ret => cases he; exact ⟨Nat.le_refl _, rfl⟩
  | exit id => cases he; exact ⟨Nat.le_refl _, rfl⟩
  | region ops =>
    simp only [step] at he
    split at he
    · rename_i st1 h1
      cases he
      exact evOps_ok hr h1
    · cases he
  | draw sep ops =>
    simp only [step] at he
    split at he
    · rename_i st1 fs h1
      split at he
      · cases he
        exact evDraw_ok hr h1
      · cases he
    · cases he
  | seq a b =>
    simp only [step] at he
    split at he
    · rename_i st1 h1
      have e1 := hr _ _ _ _ h1
      have e2 := hr _ _ _ _ he
      exact ⟨Nat.le_trans e1.1 e2.1, e2.2.trans e1.2⟩
    · exact hr _ _ _ _ he
  | cond c a b =>
    simp only [step] at he
    split at he
    · exact hr _ _ _ _ he
    · exact hr _ _ _ _ he
    · cases he
  | block id b =>
    simp only [step] at he
    split at he
    · rename_i j st1 h1
      split at he
      · cases he; exact hr _ _ _ _ h1
      · cases he; exact hr _ _ _ _ h1
    · exact hr _ _ _ _ he
  | loop b =>
    simp only [step] at he
    split at he
    · rename_i st1 h1
      have e1 := hr _ _ _ _ h1
      have e2 := hr _ _ _ _ he
      exact ⟨Nat.le_trans e1.1 e2.1, e2.2.trans e1.2⟩
    · exact hr _ _ _ _ he
  | range f ps assign body =>
    simp only [step] at he
    split at he
    · split at he
      · rename_i v st1 h1
        split at he
        · split at he
          · cases he
          · cases he
            have e1 := callF_ok hr h1
            exact ⟨by have := e1.1; simp only at this ⊢; omega, e1.2.1⟩
        · cases he
      · cases he
    · cases he
  | trim live b => exact hr b { st with env := live.map fun t => (t, getE st.env t) } x st' he

theorem ev_ok (X : Cx) : ∀ n, RecOk (ev X n)
  | 0 => fun _ _ _ _ h => by cases h
  | n + 1 => step_ok (ev_ok X n) X

end Go.Proofs.YtfmbdcmjgnikiaaGreatDoor.Sm
namespace Go.Proofs.YtfmbdcmjgnikiaaGreatDoor.Sm
open Go Go.RowKit

/-! ### only the operands count -/
theorem map_agree {ρ ρ' : Arg → SV} {as : List Arg} (h : ∀ a ∈ as, ρ a = ρ' a) : as.map ρ = as.map ρ' := List.map_congr_left h
theorem bnd_agree {ρ ρ' : Arg → SV} {l : Option Arg} (h : ∀ a ∈ l.toList, ρ a = ρ' a) (d n : Nat) : bnd ρ l d n = bnd ρ' l d n := by
  cases l with
  | none => rfl
  | some a =>
    have := h a (by simp)
    simp only [bnd, this]
theorem buildC_agree {ρ ρ' : Arg → SV} : ∀ {ps : List (Nat × Nat × Arg)} {cs : List SV}, (∀ a ∈ ps.map (·.2.2), ρ a = ρ' a) → buildC ρ cs ps = buildC ρ' cs ps
  | [], cs, _ => rfl
  | (off, sz, a) :: ps, cs, h => by
    have h1 := h a (by simp)
    have h2 := fun cs => buildC_agree (ps := ps) (cs := cs) fun b hb => h b (by simp only [List.map_cons, List.mem_cons]; exact .inr hb)
    simp only [buildC, h1, h2]
theorem evR_agree {h : HL} {nx : Nat} {ρ ρ' : Arg → SV} {o : ROp} (ha : ∀ a ∈ argsR o, ρ a = ρ' a) : evR h nx ρ o = evR h nx ρ' o := by
  cases o with
  | slice sz x l hi m =>
    have h1 := ha x (by simp [argsR])
    have h2 := fun d n => bnd_agree (ρ := ρ) (ρ' := ρ') (l := l) (fun a hx => ha a (by simp only [argsR, List.mem_cons, List.mem_append]; exact .inr (.inl (.inl hx)))) d n
    have h3 := fun d n => bnd_agree (ρ := ρ) (ρ' := ρ') (l := hi) (fun a hx => ha a (by simp only [argsR, List.mem_cons, List.mem_append]; exact .inr (.inl (.inr hx)))) d n
    have h4 := fun d n => bnd_agree (ρ := ρ) (ρ' := ρ') (l := m) (fun a hx => ha a (by simp only [argsR, List.mem_cons, List.mem_append]; exact .inr (.inr hx))) d n
    simp only [evR, h1, h2, h3, h4]
  | build z ps =>
    simp only [evR]
    rw [buildC_agree (ρ := ρ) (ρ' := ρ') ha]
  | mkfn f pre caps =>
    have h1 := map_agree (ρ := ρ) (ρ' := ρ') (as := pre) fun a hx => ha a (by simp only [argsR, List.mem_append]; exact .inl hx)
    have h2 := map_agree (ρ := ρ) (ρ' := ρ') (as := caps) fun a hx => ha a (by simp only [argsR, List.mem_append]; exact .inr hx)
    simp only [evR, h1, h2]
  | bslice sz ps =>
    have h1 := map_agree (ρ := ρ) (ρ' := ρ') (as := ps) ha
    simp only [evR, h1]
  | lenA n => rfl
  | alloc z => rfl
  | pick c a b =>
    have h1 := ha c (by simp [argsR])
    have h2 := ha a (by simp [argsR])
    have h3 := ha b (by simp [argsR])
    simp only [evR, h1, h2, h3]
  | mov x | not x | neg x | conv _ x | len x | lenS x | cap x | field _ _ _ x | faddr _ x | sliceA _ _ x | s2a _ x | extract _ x | nilck x | load _ _ x | box x =>
    have h1 := ha x (by simp [argsR])
    simp only [evR, h1]
  | bin _ x y | eqb _ x y | eqn _ x y | eqa _ _ x y | eqs _ x y | mn x y | mx x y | index _ _ _ x y | indexS x y | iaddr _ x y | iaddrA _ _ x y | mkslice _ x y | mktree _ x y =>
    have h1 := ha x (by simp [argsR])
    have h2 := ha y (by simp [argsR])
    simp only [evR, h1, h2]
theorem evW_agree {wb : Nat} {h : HL} {nx : Nat} {ρ ρ' : Arg → SV} {o : WOp} (ha : ∀ a ∈ argsO (.w o), ρ a = ρ' a) : evW wb h nx ρ o = evW wb h nx ρ' o := by
  cases o with
  | frz x =>
    have h1 := map_agree (ρ := ρ) (ρ' := ρ') (as := [x]) ha
    simp only [evW, h1]
  | bslice sz ps =>
    have h1 := map_agree (ρ := ρ) (ρ' := ρ') (as := ps) ha
    simp only [evW, h1]
  | bfrz z ps =>
    have h1 := buildC_agree (ρ := ρ) (ρ' := ρ') (cs := z) (ps := ps) ha
    simp only [evW, h1]
  | store _ x y | append _ x y | appendT _ x y | appendZ _ x y | copy _ x y =>
    have h1 := ha x (by simp [argsO])
    have h2 := ha y (by simp [argsO])
    simp only [evW, h1, h2]
theorem argV_env {X : Cx} {e e' : Env} {a : Arg} (h : ∀ t ∈ argTs a, getE e t = getE e' t) : argV X e a = argV X e' a := by
  cases a with
  | t n => exact h n (by simp [argTs])
  | _ => rfl
/-- Another environment that agrees on the operands gives the same. -/
theorem evOp_env {rec : Rec} {X : Cx} {op : MOp} {st st' : St} {v : SV} (hr : RecOk rec) {e : Env} (ha : ∀ a ∈ argsO op, argV X st.env a = argV X e a) (he : evOp rec X op st = some (v, st')) : evOp rec X op { st with env := e } = some (v, { st' with env := e }) := by
  have hcF : ∀ {m f args} {v : SV} {st' : St}, callF rec X m f args st = some (v, st') → callF rec X m f args { st with env := e } = some (v, { st' with env := e }) := fun {m f args v st'} he => by
    unfold callF at he ⊢
    split at he
    · cases he
    · split at he
      · split at he
        · rename_i r st1 h1
          try simp only [h1]
          simp only [Option.some.injEq, Prod.mk.injEq] at he
          obtain ⟨rfl, rfl⟩ := he
          rfl
        · cases he
      · split at he
        · split at he
          · rename_i hp _ r st1 h1
            try simp only [hp, h1]
            simp only [Option.some.injEq, Prod.mk.injEq] at he
            obtain ⟨rfl, rfl⟩ := he
            rfl
          · cases he
        · cases he
      · split at he
        · split at he
          · split at he
            · rename_i hp _ r st1 h1 _ _ h2
              try simp only [hp, h1, h2]
              simp only [Option.some.injEq, Prod.mk.injEq] at he
              obtain ⟨rfl, rfl⟩ := he
              rfl
            · cases he
          · cases he
        · split at he
          · split at he
            · rename_i hp _ r st1 h1 _ _ h2
              try simp only [hp, h1, h2]
              simp only [Option.some.injEq, Prod.mk.injEq] at he
              obtain ⟨rfl, rfl⟩ := he
              rfl
            · cases he
          · cases he
  have hcY : ∀ {l args} {v : SV} {st' : St}, callY rec l args st = some (v, st') → callY rec l args { st with env := e } = some (v, { st' with env := e }) := fun {l args v st'} he => by
    unfold callY at he ⊢
    split at he
    · cases he
    · rename_i r h1
      try simp only [h1]
      split at he
      · rename_i hl
        try simp only [hl, if_true]
        split at he
        · rename_i st2 h2
          try simp only [h2]
          split at he
          · rename_i r2 h3
            try simp only [h3]
            split at he
            · rename_i h4
              try simp only [h4, if_true]
              split at he
              · rename_i x st3 h5
                try simp only [h5]
                split at he
                · rename_i r3 h6
                  try simp only [h6]
                  simp only [Option.some.injEq, Prod.mk.injEq] at he
                  obtain ⟨rfl, rfl⟩ := he
                  rfl
                · cases he
              · cases he
            · cases he
          · cases he
        · cases he
      · cases he
  cases op with
  | r o =>
    have h1 : evR (look st.heap) st.nx (argV X e) o = evR (look st.heap) st.nx (argV X st.env) o := (evR_agree ha).symm
    simp only [evOp] at he ⊢
    rw [h1]
    split at he
    · rename_i h2
      try simp only [h2]
      simp only [Option.some.injEq, Prod.mk.injEq] at he
      obtain ⟨rfl, rfl⟩ := he
      rfl
    · rename_i h2
      try simp only [h2]
      simp only [Option.some.injEq, Prod.mk.injEq] at he
      obtain ⟨rfl, rfl⟩ := he
      rfl
    · cases he
  | w o =>
    have h1 : evW st.wb (look st.heap) st.nx (argV X e) o = evW st.wb (look st.heap) st.nx (argV X st.env) o := (evW_agree ha).symm
    simp only [evOp] at he ⊢
    rw [h1]
    split at he
    · rename_i h2
      try simp only [h2]
      simp only [Option.some.injEq, Prod.mk.injEq] at he
      obtain ⟨rfl, rfl⟩ := he
      rfl
    · cases he
  | call m f args =>
    have h1 : argV X e f = argV X st.env f := (ha f (by simp [argsO])).symm
    have h2 : args.map (argV X e) = args.map (argV X st.env) := (map_agree fun a hx => ha a (by simp [argsO, hx])).symm
    simp only [evOp, callV] at he ⊢
    rw [h1, h2]
    split at he
    · exact hcF he
    · split at he
      · rename_i hm
        rw [if_pos hm]
        exact hcY he
      · cases he
    · cases he

/-! ### blocks were added -/
section
variable {P : Program} {eqTs : List (Nat × Nat)} {bs : Bs} {h : HL} {ls : Nat → Option LRec} {K : KK}

/-- Of what was there nothing has changed. -/
theorem WS.of_below {w w' : World} (hb : Below w.heap.size w w') : WS w w' none2 := by
  have hk : ∀ k x, w.heap[k]? = some x → w'.heap[k]? = some x := fun k x hx => by
    rw [hb.block k (Array.getElem?_eq_some_iff.1 hx).1]; exact hx
  exact ⟨hb.os, hb.tape, hb.output, hb.size, fun k o ho _ => hk k o ho, fun k c T fr hx => ⟨c, hk k _ hx, rfl, fun _ _ => rfl⟩⟩

def look0 : Nat → Option LRec := fun _ => none

theorem SimF.start (s : SimF P eqTs bs h ls K) {h' : HL} {wb : Nat} (hs : ∀ i cs, h' i = some cs → h i = some cs) (hl : ∀ i cs, h' i = some cs → wb ≤ i → False) : SimF P eqTs ⟨K.W.heap.size, K.W, wb, K.MC⟩ h' look0 K where
  bel := Below.refl _ _
  bsz := Nat.le_refl _
  mc0 := fun _ _ _ => Iff.rfl
  hp := fun id cs hi => s.hp id cs (hs _ _ hi)
  inj := fun i j ci cj hi hj => s.inj i j ci cj (hs _ _ hi) (hs _ _ hj)
  low := fun id cs hi hw => (hl id cs hi hw).elim
  mcb := s.mcb
  lp := fun l r hl => by cases hl
  linj := fun l l' r r' hl => by cases hl
  llow := fun l r hl => by cases hl

/-- With no names at all. -/
def KK.bare (K : KK) : KK := { K with dom := fun _ => False }
theorem RV.bare {v : Value} {y : SV} (hv : RV K v y) (hp : Sm.plain y = true) : RV K.bare v y := RV.plain (K := K) (K' := K.bare) (fun _ _ _ h1 h2 => ⟨h1, h2⟩) hv hp
theorem SimF.bare (s : SimF P eqTs bs h ls K) {wb : Nat} : SimF P eqTs ⟨K.W.heap.size, K.W, wb, K.MC⟩ (fun _ => none) look0 K.bare where
  bel := Below.refl _ _
  bsz := Nat.le_refl _
  mc0 := fun _ _ _ => Iff.rfl
  hp := fun id cs hi => by cases hi
  inj := fun i j ci cj hi hj => by cases hi
  low := fun id cs hi hw => by cases hi
  mcb := s.mcb
  lp := fun l r hl => by cases hl
  linj := fun l l' r r' hl => by cases hl
  llow := fun l r hl => by cases hl

/-- What a value that is handed back stands for, where the names that the function gave are gone. -/
theorem RV.expo1 {K1 K' : KK} {lo : Nat} {h1 : HL} (hcell : ∀ b o v, K1.W.cell? ⟨b, o, none⟩ = some v → ¬ K'.MC b o) (hW : K'.W = K1.W) (hnm : ∀ i, K1.dom i → i < lo → K'.dom i ∧ K'.β i = K1.β i)
    (hho : ∀ i cs, h1 i = some cs → lo ≤ i → HO K1 i cs ∧ ∀ o, ¬ K'.MC (K1.β i).1 o) (hmc : ∀ b o v, K1.W.cell? ⟨b, o, none⟩ = some v → ¬ K1.MC b o → ¬ K'.MC b o) {v : Value} {s u : SV} (hv : RV K1 v s) (he : exp1 lo h1 s = some u) : RV K' v u := by
  have pl : ∀ {v : Value} {y : SV}, RV K1 v y → pl1 y = true → RV K' v y := fun {v y} hv hp => by
    refine RV.plain (K := K1) (K' := K') (fun b o v h2 h3 => ⟨by rw [hW]; exact h2, hmc b o v h2 h3⟩) hv ?_
    cases y <;> simp_all [Sm.plain, pl1]
  cases s with
  | own id off len sz =>
    simp only [exp1] at he
    obtain ⟨o, cap, hva, hd, k4, k5, k6⟩ := inv_own hv
    split at he
    · rename_i hlt
      cases he
      obtain ⟨d1, d2⟩ := hnm id hd hlt
      rw [hva, ← d2]
      rw [← d2] at k4 k6
      exact .own id off len sz o cap d1 k4 k5 (by rw [hW]; exact k6)
    · rename_i hge
      unfold rowOf at he
      split at he
      · rename_i cs hcs
        simp only at he
        split at he
        · rename_i hc
          cases he
          obtain ⟨ho, hm⟩ := hho id cs hcs (by omega)
          rw [hva]
          refine RV.els k5 hc.1 hc.2 fun k y hy => ?_
          have hk := (List.getElem?_eq_some_iff.1 hy).1
          rw [hc.1] at hk
          have hlen : 0 < len := by
            rcases Nat.eq_zero_or_pos len with e | e
            · rw [e] at hk; omega
            · exact e
          obtain rfl : o = (K1.β id).2 + off := by omega
          have hz2 : cs[off + k]? = some y := by
            simpa [sub, hk, List.getElem?_take, List.getElem?_drop] using hy
          obtain ⟨v, h5, h6⟩ := ho.cell _ _ hz2
          rw [← Nat.add_assoc] at h5
          exact ⟨v, by rw [hW]; exact h5, hm _, pl h6 (List.all_eq_true.1 hc.2 y (List.mem_of_getElem? hy))⟩
        · cases he
      · cases he
  | ptr id off =>
    simp only [exp1] at he
    split at he
    · rename_i hlt
      cases he
      obtain ⟨hva, hd⟩ := inv_ptr hv
      obtain ⟨d1, d2⟩ := hnm id hd hlt
      rw [hva, ← d2]
      exact .ptr id off d1
    · cases he
  | yld l => cases he
  | agg cs => cases he
  | tup cs => cases he
  | fn f pre caps =>
    simp only [exp1] at he
    split at he
    · rename_i hc
      cases he
      simp only [Bool.and_eq_true, List.isEmpty_iff] at hc
      obtain ⟨rfl, rfl⟩ := hc
      exact pl hv rfl
    · cases he
  | undef => cases he; exact .undef _
  | int k n => cases he; exact pl hv rfl
  | bool b => cases he; exact pl hv rfl
  | str b => cases he; exact pl hv rfl
  | tree xs nl tg => cases he; exact pl hv rfl
  | tptr cs off => cases he; exact pl hv rfl
end
end Go.Proofs.YtfmbdcmjgnikiaaGreatDoor.Sm
namespace Go.Proofs.YtfmbdcmjgnikiaaGreatDoor.Sm
open Go Go.RowKit

section
variable {K1 K' : KK} {lo : Nat} {h1 : HL}

/-- When what is handed back may be told without the callee's names. -/
structure OutOK (K1 K' : KK) (lo : Nat) (h1 : HL) : Prop where
  W : K'.W = K1.W
  cell : ∀ b o v, K1.W.cell? ⟨b, o, none⟩ = some v → ¬ K1.MC b o → ¬ K'.MC b o
  nm : ∀ i, K1.dom i → i < lo → K'.dom i ∧ K'.β i = K1.β i
  ho : ∀ i cs, h1 i = some cs → lo ≤ i → HO K1 i cs ∧ ∀ o, ¬ K'.MC (K1.β i).1 o

theorem OutOK.exp1 (H : OutOK K1 K' lo h1) {v : Value} {s u : SV} (hv : RV K1 v s) (he : Sm.exp1 lo h1 s = some u) : RV K' v u := by
  have pl : ∀ {v : Value} {y : SV}, RV K1 v y → pl1 y = true → RV K' v y := fun {v y} hv hp => by
    refine RV.plain (K := K1) (K' := K') (fun b o v h2 h3 => ⟨by rw [H.W]; exact h2, H.cell b o v h2 h3⟩) hv ?_
    cases y <;> simp_all [Sm.plain, pl1]
  cases s with
  | own id off len sz =>
    simp only [Sm.exp1] at he
    obtain ⟨o, cap, hva, hd, k4, k5, k6⟩ := inv_own hv
    split at he
    · rename_i hlt
      cases he
      obtain ⟨d1, d2⟩ := H.nm id hd hlt
      rw [hva, ← d2]
      rw [← d2] at k4 k6
      exact .own id off len sz o cap d1 k4 k5 (by rw [H.W]; exact k6)
    · rename_i hge
      unfold rowOf at he
      split at he
      · rename_i cs hcs
        simp only at he
        split at he
        · rename_i hc
          cases he
          obtain ⟨ho, hm⟩ := H.ho id cs hcs (by omega)
          rw [hva]
          refine RV.els k5 hc.1 hc.2 fun k y hy => ?_
          have hk := (List.getElem?_eq_some_iff.1 hy).1
          rw [hc.1] at hk
          have hlen : 0 < len := by
            rcases Nat.eq_zero_or_pos len with e | e
            · rw [e] at hk; omega
            · exact e
          obtain rfl : o = (K1.β id).2 + off := by omega
          have hz2 : cs[off + k]? = some y := by
            simpa [sub, hk, List.getElem?_take, List.getElem?_drop] using hy
          obtain ⟨v, h5, h6⟩ := ho.cell _ _ hz2
          rw [← Nat.add_assoc] at h5
          exact ⟨v, by rw [H.W]; exact h5, hm _, pl h6 (List.all_eq_true.1 hc.2 y (List.mem_of_getElem? hy))⟩
        · cases he
      · cases he
  | ptr id off =>
    simp only [Sm.exp1] at he
    split at he
    · rename_i hlt
      cases he
      obtain ⟨hva, hd⟩ := inv_ptr hv
      obtain ⟨d1, d2⟩ := H.nm id hd hlt
      rw [hva, ← d2]
      exact .ptr id off d1
    · cases he
  | yld l => cases he
  | agg cs => cases he
  | tup cs => cases he
  | fn f pre caps =>
    simp only [Sm.exp1] at he
    split at he
    · rename_i hc
      cases he
      simp only [Bool.and_eq_true, List.isEmpty_iff] at hc
      obtain ⟨rfl, rfl⟩ := hc
      exact pl hv rfl
    · cases he
  | undef => cases he; exact .undef _
  | int k n => cases he; exact pl hv rfl
  | bool b => cases he; exact pl hv rfl
  | str b => cases he; exact pl hv rfl
  | tree xs nl tg => cases he; exact pl hv rfl
  | tptr cs off => cases he; exact pl hv rfl

theorem OutOK.expL (H : OutOK K1 K' lo h1) : ∀ {ys us : List SV}, Sm.expL lo h1 ys = some us → us.length = ys.length ∧ ∀ (i : Nat) (u : SV), us[i]? = some u → ∃ y, ys[i]? = some y ∧ ∀ v, RV K1 v y → RV K' v u
  | [], us, he => by cases he; exact ⟨rfl, by simp⟩
  | y :: ys, us, he => by
    simp only [Sm.expL] at he
    split at he
    · rename_i u h2
      split at he
      · rename_i us' h3
        cases he
        obtain ⟨e1, e2⟩ := expL H h3
        refine ⟨by simp [e1], fun i w hw => ?_⟩
        cases i with
        | zero =>
          simp only [List.getElem?_cons_zero, Option.some.injEq] at hw
          subst hw
          exact ⟨y, by simp, fun v hv => H.exp1 hv h2⟩
        | succ n =>
          simp only [List.getElem?_cons_succ] at hw ⊢
          exact e2 n w hw
      · cases he
    · cases he

theorem OutOK.agg (H : OutOK K1 K' lo h1) {vs : Array Value} {ys us : List SV} (hc : CR K1 vs ys) (hl : us.length = ys.length) (h : ∀ (i : Nat) (u : SV), us[i]? = some u → ∃ y, ys[i]? = some y ∧ ∀ v, RV K1 v y → RV K' v u) : CR K' vs us :=
  CR.of (by rw [hc.1, hl]) fun i u hu => by
    obtain ⟨y, h2, h3⟩ := h i u hu
    obtain ⟨v, h4, h5⟩ := hc.get h2
    exact ⟨v, h4, h3 v h5⟩

theorem OutOK.exp2 (H : OutOK K1 K' lo h1) {v : Value} {s u : SV} (hv : RV K1 v s) (he : Sm.exp2 lo h1 s = some u) : RV K' v u := by
  by_cases hs : ∃ cs, s = .agg cs
  · obtain ⟨cs, rfl⟩ := hs
    simp only [Sm.exp2, Option.map_eq_some_iff] at he
    obtain ⟨us, h2, rfl⟩ := he
    obtain ⟨vs, hva, c1, c2⟩ := inv_agg hv
    obtain ⟨e1, e2⟩ := H.expL h2
    have := H.agg ⟨c1, c2⟩ e1 e2
    rw [hva]
    exact .agg vs us this.1 this.2
  · have : Sm.exp2 lo h1 s = Sm.exp1 lo h1 s := by
      cases s <;> first | rfl | exact absurd ⟨_, rfl⟩ hs
    rw [this] at he
    exact H.exp1 hv he

theorem OutOK.exp2L (H : OutOK K1 K' lo h1) : ∀ {ys us : List SV}, Sm.exp2L lo h1 ys = some us → us.length = ys.length ∧ ∀ (i : Nat) (u : SV), us[i]? = some u → ∃ y, ys[i]? = some y ∧ ∀ v, RV K1 v y → RV K' v u
  | [], us, he => by cases he; exact ⟨rfl, by simp⟩
  | y :: ys, us, he => by
    simp only [Sm.exp2L] at he
    split at he
    · rename_i u h2
      split at he
      · rename_i us' h3
        cases he
        obtain ⟨e1, e2⟩ := exp2L H h3
        refine ⟨by simp [e1], fun i w hw => ?_⟩
        cases i with
        | zero =>
          simp only [List.getElem?_cons_zero, Option.some.injEq] at hw
          subst hw
          exact ⟨y, by simp, fun v hv => H.exp2 hv h2⟩
        | succ n =>
          simp only [List.getElem?_cons_succ] at hw ⊢
          exact e2 n w hw
      · cases he
    · cases he

theorem OutOK.expo (H : OutOK K1 K' lo h1) {v : Value} {s u : SV} (hv : RV K1 v s) (he : Sm.expo lo h1 s = some u) : RV K' v u := by
  by_cases hs : ∃ cs, s = .tup cs
  · obtain ⟨cs, rfl⟩ := hs
    simp only [Sm.expo, Option.map_eq_some_iff] at he
    obtain ⟨us, h2, rfl⟩ := he
    obtain ⟨vs, hva, c1, c2⟩ := inv_tup hv
    obtain ⟨e1, e2⟩ := H.exp2L h2
    have := H.agg ⟨c1, c2⟩ e1 e2
    rw [hva]
    exact .tup vs us this.1 this.2
  · have : Sm.expo lo h1 s = Sm.exp2 lo h1 s := by
      cases s <;> first | rfl | exact absurd ⟨_, rfl⟩ hs
    rw [this] at he
    exact H.exp2 hv he
end

/-! ### states -/
section
variable (P : Program) (eqTs : List (Nat × Nat)) (X : Cx)

def GOK (K : KK) : Prop := ∀ i, RV K (.pointer (some ⟨i, 0, none⟩)) (.tptr (X.glob i) 0)
def Grow (K K' : KK) (lo hi : Nat) : Prop := ∀ i, K'.dom i → K.dom i ∨ (lo ≤ i ∧ i < hi)

structure SimS (bs : Bs) (st : St) (K : KK) : Prop where
  f : SimF P eqTs bs (look st.heap) (look st.loops) K
  wb : bs.wb = st.wb
  fresh : ∀ i, K.dom i → i < st.nx
  glob : GOK X K

/-- The machine runs the functions as rec does. -/
def FnOK (rec : Rec) : Prop := ∀ (f : Nat) (mf : MFun) (args : List SV) (vs : Array Value) (bs : Bs) (st : St) (K : KK) (r : SV) (st1 : St), X.fns f = some mf → runF rec mf st = some (r, st1) → st.env = argE 0 args → CR K vs args → SimS P eqTs X bs st K →
  CallsIn Fence.wide 0 P f vs K.W fun e w' => ∃ val K', e = .returned val ∧ w' = K'.W ∧ RV K' val r ∧ SimS P eqTs X bs st1 K' ∧ Ext K K' ∧ Grow K K' st.nx st1.nx
end

section
variable {P : Program} {eqTs : List (Nat × Nat)} {X : Cx} {bs : Bs} {h : HL} {ls : Nat → Option LRec} {K : KK}

theorem GOK.ext {K' : KK} (hg : GOK X K) (e : Ext K K') : GOK X K' := fun i => e.rv _ _ (hg i)
theorem GOK.bare (hg : GOK X K) (hp : ∀ i, (X.glob i).all pl1 = true) : GOK X K.bare := fun i => (hg i).bare rfl

theorem getE_argE : ∀ (args : List SV) (k t : Nat), getE (argE k args) t = if k ≤ t then (args[t - k]?).getD .undef else .undef
  | [], k, t => by simp [argE, getE]
  | v :: vs, k, t => by
    rw [argE, getE, getE_argE vs (k + 1) t]
    by_cases hk : k = t
    · subst hk; simp
    · rw [if_neg hk]
      by_cases hle : k ≤ t
      · rw [if_pos hle, if_pos (by omega)]
        have : t - k = (t - (k + 1)) + 1 := by omega
        rw [this, List.getElem?_cons_succ]
      · rw [if_neg hle, if_neg (by omega)]

theorem EnvR.start {args : List SV} {vs : Array Value} (hc : CR K vs args) (N : Nat) : EnvR K (argE 0 args) (vs ++ Array.replicate (N - vs.size) Go.undef) := fun t => by
  rw [getE_argE, if_pos (Nat.zero_le _), Nat.sub_zero]
  cases ht : args[t]? with
  | none => exact .undef _
  | some y =>
    obtain ⟨v, h1, h2⟩ := hc.get ht
    have hlt := (Array.getElem?_eq_some_iff.1 h1).1
    rw [getD_of (v := v) (by rw [Array.getElem?_append_left hlt]; exact h1)]
    exact h2

/-- After a call that has written nothing of ours, we stand as we stood. -/
theorem SimF.after (s : SimF P eqTs bs h ls K) {W' : World} (hb : Below K.W.heap.size K.W W') : SimF P eqTs bs h ls { K with W := W' } ∧ Ext K { K with W := W' } :=
  ⟨s.ws (WS.of_below hb), Ext.ws (WS.of_below hb)⟩

theorem OutOK.of {K1 : KK} {bs' : Bs} {h1 : HL} {ls1 : Nat → Option LRec} (s : SimF P eqTs bs h ls K) (hB : bs'.B = K.W.heap.size) (hM : bs'.MC0 = K.MC) (s1 : SimF P eqTs bs' h1 ls1 K1) {lo : Nat} (hwb : bs'.wb = lo)
    (hnm : ∀ i, K1.dom i → i < lo → K.dom i ∧ K.β i = K1.β i) : OutOK K1 { K with W := K1.W } lo h1 where
  W := rfl
  cell := fun b o v hc hm hm' => by
    have hm' : K.MC b o := hm'
    have hlt : b < bs'.B := by rw [hB]; exact s.mcb b o hm'
    have := s1.mc0 b o hlt
    rw [hM] at this
    exact hm (this.2 hm')
  nm := hnm
  ho := fun i cs hi hlo => ⟨s1.hp i cs hi, fun o hm => by
    have hm' : K.MC (K1.β i).1 o := hm
    have h2 := s.mcb _ _ hm'
    have h3 := s1.low i cs hi (by omega)
    omega⟩
end
end Go.Proofs.YtfmbdcmjgnikiaaGreatDoor.Sm
namespace Go.Proofs.YtfmbdcmjgnikiaaGreatDoor.Sm
open Go Go.RowKit

/-- The blocks that an operation may have touched. -/
def wr : FP → Nat → Bool
  | .rd _ w lo hi, i => w.contains i || (decide (lo ≤ i) && decide (i < hi))
  | .ro, _ => false
  | .all, _ => true
def ovr (fp : FP) (st' : St) (h : HL) : HL := fun i => if wr fp i then look st'.heap i else h i
def ovl (fp : FP) (st' : St) (ls : Nat → Option LRec) : Nat → Option LRec := match fp with
  | .all => look st'.loops
  | _ => ls
/-- The small heap, as far as the operation sees it, is that of the state that it was reckoned in. -/
def Agree (fp : FP) (st st' : St) (h : HL) (ls : Nat → Option LRec) (K : KK) : Prop := match fp with
  | .rd r w _ _ => (∀ i ∈ r ++ w, h i = look st.heap i) ∧ ∀ i, st.nx ≤ i → i < st'.nx → ¬ K.dom i ∧ look st.heap i = none
  | .ro => h = look st.heap ∧ ∀ i, K.dom i → i < st.nx
  | .all => h = look st.heap ∧ ls = look st.loops ∧ ∀ i, K.dom i → i < st.nx

/-- Two sets of names, side by side. -/
def KK.join (K K1 : KK) (lo hi : Nat) : KK := { W := K1.W, MC := K1.MC, β := fun i => if lo ≤ i ∧ i < hi then K1.β i else K.β i, dom := fun i => K.dom i ∨ (K1.dom i ∧ lo ≤ i ∧ i < hi) }

section
variable {P : Program} {eqTs : List (Nat × Nat)} {X : Cx} {bs : Bs} {h : HL} {ls : Nat → Option LRec} {K : KK} {rec : Rec}

theorem look_nil : look ([] : Heap) = fun _ => none := by funext i; rfl
theorem look_nilL : look ([] : List (Nat × LRec)) = look0 := by funext i; rfl

theorem join_sound (s : SimF P eqTs bs h ls K) {bs' : Bs} {h1 : HL} {ls1 : Nat → Option LRec} {K1 : KK} {lo hi : Nat} (hB : bs'.B = K.W.heap.size) (hw0 : bs'.w0 = K.W) (hM : bs'.MC0 = K.MC) (hwb : bs'.wb = lo) (s1 : SimF P eqTs bs' h1 ls1 K1)
    (hfree : ∀ i, lo ≤ i → i < hi → ¬ K.dom i) (hin : ∀ i, K1.dom i → lo ≤ i ∧ i < hi) {h' : HL} (hh : ∀ i cs, h' i = some cs → (lo ≤ i ∧ i < hi ∧ h1 i = some cs) ∨ (¬ (lo ≤ i ∧ i < hi) ∧ h i = some cs)) :
    SimF P eqTs bs h' ls (K.join K1 lo hi) ∧ Ext K (K.join K1 lo hi) ∧ (∀ v y, RV K1 v y → RV (K.join K1 lo hi) v y) ∧ Grow K (K.join K1 lo hi) lo hi := by
  have hbel : Below K.W.heap.size K.W K1.W := by
    have := s1.bel
    rw [hB, hw0] at this
    exact this
  have hw := WS.of_below hbel
  have hw' : WS K.W (K.join K1 lo hi).W none2 := hw
  have hβ : ∀ i, K.dom i → (K.join K1 lo hi).β i = K.β i := fun i hi2 => by
    simp only [KK.join]
    rw [if_neg fun e => hfree i e.1 e.2 hi2]
  have hβ1 : ∀ i, K1.dom i → (K.join K1 lo hi).β i = K1.β i := fun i hi2 => by
    simp only [KK.join]
    rw [if_pos (hin i hi2)]
  have hmc : ∀ b o, b < K.W.heap.size → (K1.MC b o ↔ K.MC b o) := fun b o hb => by
    have := s1.mc0 b o (by rw [hB]; exact hb)
    rw [hM] at this
    exact this
  have rvK : ∀ v y, RV K v y → RV (K.join K1 lo hi) v y := fun v y hv =>
    RV.mono (K := K) (K' := K.join K1 lo hi) (fun i hi2 => ⟨.inl hi2, hβ i hi2⟩) (fun b o u h1 h2 => ⟨hw.cell? h1 (fun h => h), fun hm => h2 ((hmc b o (cell_lt h1)).1 hm)⟩) (fun _ _ h => hw.shape h) hv
  have rvK1 : ∀ v y, RV K1 v y → RV (K.join K1 lo hi) v y := fun v y hv =>
    RV.mono (K := K1) (K' := K.join K1 lo hi) (fun i hi2 => ⟨.inr ⟨hi2, hin i hi2⟩, hβ1 i hi2⟩) (fun b o u h1 h2 => ⟨h1, h2⟩) (fun _ _ h => h) hv
  have hblt : ∀ i ci, h i = some ci → (K.β i).1 < K.W.heap.size := fun i ci hi => by
    obtain ⟨_, c', T', h1, _⟩ := s.hp i ci hi
    exact (Array.getElem?_eq_some_iff.1 h1).1
  have hnew : ∀ i ci, lo ≤ i → h1 i = some ci → K.W.heap.size ≤ (K1.β i).1 := fun i ci hl hi => by
    have := s1.low i ci hi (by omega)
    omega
  refine ⟨{ bel := s.bel.trans (hbel.mono s.size), bsz := s.bsz, mc0 := fun b o hb => ?_, hp := fun id ci hic => ?_, inj := fun i j ci cj hic hj hij => ?_, low := fun id ci hic hwb => ?_, mcb := s1.mcb, lp := fun l r hl => ?_, linj := fun l l' r r' hl hl' hne => ?_, llow := fun l r hl => ?_ }, Ext.of_ws (K' := K.join K1 lo hi) rvK hw, rvK1, fun i hid => ?_⟩
  · rw [← s.mc0 b o hb]
    exact hmc b o (Nat.lt_of_lt_of_le hb s.size)
  · rcases hh id ci hic with ⟨a1, a2, a3⟩ | ⟨a1, a3⟩
    · have hd := (s1.hp id ci a3).1
      exact (s1.hp id ci a3).mono (K' := K.join K1 lo hi) (M := none2) (WS.refl _ _) (.inr ⟨hd, a1, a2⟩) (hβ1 id hd) (fun _ h => h) (fun _ h => h) rvK1
    · have hd := (s.hp id ci a3).1
      exact (s.hp id ci a3).mono (K' := K.join K1 lo hi) hw (.inl hd) (hβ id hd) (fun _ h => h) (fun o h => (hmc _ o (hblt id ci a3)).2 h) rvK
  · rcases hh i ci hic with ⟨a1, a2, a3⟩ | ⟨a1, a3⟩ <;> rcases hh j cj hj with ⟨b1, b2, b3⟩ | ⟨b1, b3⟩
    · rw [hβ1 i (s1.hp i ci a3).1, hβ1 j (s1.hp j cj b3).1]
      exact s1.inj i j ci cj a3 b3 hij
    · rw [hβ1 i (s1.hp i ci a3).1, hβ j (s.hp j cj b3).1]
      have x1 := hnew i ci a1 a3
      have x2 := hblt j cj b3
      omega
    · rw [hβ i (s.hp i ci a3).1, hβ1 j (s1.hp j cj b3).1]
      have x1 := hnew j cj b1 b3
      have x2 := hblt i ci a3
      omega
    · rw [hβ i (s.hp i ci a3).1, hβ j (s.hp j cj b3).1]
      exact s.inj i j ci cj a3 b3 hij
  · rcases hh id ci hic with ⟨a1, a2, a3⟩ | ⟨a1, a3⟩
    · rw [hβ1 id (s1.hp id ci a3).1]
      have x1 := hnew id ci a1 a3
      have := s.size
      omega
    · rw [hβ id (s.hp id ci a3).1]
      exact s.low id ci a3 hwb
  · have hd := (s.lp l r hl).1
    exact (s.lp l r hl).mono (K' := K.join K1 lo hi) hw (.inl hd) (hβ l hd) rvK
  · rw [hβ l (s.lp l r hl).1, hβ l' (s.lp l' r' hl').1]
    exact s.linj l l' r r' hl hl' hne
  · rw [hβ l (s.lp l r hl).1]
    exact s.llow l r hl
  · rcases hid with hid | hid
    · exact .inl hid
    · exact .inr hid.2

/-- The mode's footprint. -/
def fpC (m : Mode) (args : List SV) (lo hi : Nat) : FP := match m with
  | .rw => .all
  | .new => .rd [] [] lo hi
  | .ro => if args.all plain then .rd [] [] lo hi else .ro

theorem CR.bare {vs : Array Value} {cs : List SV} (hc : CR K vs cs) (hp : cs.all plain = true) : CR K.bare vs cs :=
  CR.of hc.1 fun i y hy => by
    obtain ⟨v, h1, h2⟩ := hc.get hy
    exact ⟨v, h1, h2.bare (List.all_eq_true.1 hp y (List.mem_of_getElem? hy))⟩

theorem callF_sound (F : FnOK P eqTs X rec) (hr : RecOk rec) {m : Mode} {g : Nat} {args : List SV} {vs : Array Value} {st st' : St} {v : SV} (he : callF rec X m g args st = some (v, st')) (hc : CR K vs args)
    (hag : Agree (fpC m args st.nx st'.nx) st st' h ls K) (s : SimF P eqTs bs h ls K) (hwb : bs.wb = st.wb) (hg : GOK X K) :
    CallsIn Fence.wide 0 P g vs K.W fun e w' => ∃ val K', e = .returned val ∧ w' = K'.W ∧ RV K' val v ∧ SimF P eqTs bs (ovr (fpC m args st.nx st'.nx) st' h) (ovl (fpC m args st.nx st'.nx) st' ls) K' ∧ Ext K K' ∧ Grow K K' st.nx st'.nx := by
  unfold callF at he
  split at he
  · cases he
  · rename_i mf hmf
    split at he
    · split at he
      · rename_i r st1 h1
        cases he
        obtain ⟨rfl, rfl, hd⟩ := hag
        refine (F g mf args vs bs { st with env := argE 0 args } K v st1 hmf h1 rfl hc ⟨s, hwb, hd, hg⟩).mono fun e w' hR => ?_
        obtain ⟨val, K', rfl, rfl, r1, r2, r3, r4⟩ := hR
        exact ⟨val, K', rfl, rfl, r1, r2.f, r3, r4⟩
      · cases he
    · split at he
      · rename_i hp
        split at he
        · rename_i r st1 h1
          cases he
          obtain ⟨_, hfr⟩ := hag
          refine (F g mf args vs ⟨K.W.heap.size, K.W, st.nx, K.MC⟩ { env := argE 0 args, heap := [], nx := st.nx, loops := [], wb := st.nx } K.bare v st1 hmf h1 rfl (hc.bare hp) ⟨by rw [look_nil, look_nilL]; exact s.bare, rfl, fun i hi => hi.elim, fun i => (hg i).bare rfl⟩).mono fun e w' hR => ?_
          obtain ⟨val, K1, rfl, rfl, r1, r2, r3, r4⟩ := hR
          obtain ⟨j1, j2, j3, j4⟩ := join_sound (h' := ovr (.rd [] [] st.nx st1.nx) { st with heap := st1.heap.filter (fun p => decide (st.nx ≤ p.1) && decide (p.1 < st1.nx)) ++ st.heap, nx := st1.nx } h) s (lo := st.nx) (hi := st1.nx) rfl rfl rfl rfl r2.f (fun i a b => (hfr i a b).1) (fun i hi => by
              rcases r4 i hi with hh | hh
              · exact hh.elim
              · exact hh) fun i cs hi => by
              simp only [ovr, wr, List.contains_nil, Bool.false_or, Bool.and_eq_true, decide_eq_true_eq] at hi
              split at hi
              · rename_i hlo
                refine .inl ⟨hlo.1, hlo.2, ?_⟩
                rw [look_app, look_filter (fun k => decide (st.nx ≤ k) && decide (k < st1.nx)), if_pos (by simp [hlo])] at hi
                cases hl : look st1.heap i with
                | some c => rw [hl] at hi; simpa using hi
                | none =>
                  rw [hl] at hi
                  have := (hfr i hlo.1 hlo.2).2
                  simp only [this] at hi
                  cases hi
              · rename_i hlo
                exact .inr ⟨hlo, hi⟩
          exact ⟨val, K.join K1 st.nx st1.nx, rfl, rfl, j3 _ _ r1, j1, j2, j4⟩
        · cases he
      · cases he
    · split at he
      · rename_i hp
        split at he
        · rename_i r st1 h1
          split at he
          · rename_i u hu
            cases he
            simp only [fpC, hp, if_true] at hag ⊢
            refine (F g mf args vs ⟨K.W.heap.size, K.W, 0, K.MC⟩ { env := argE 0 args, heap := [], nx := 0, loops := [], wb := 0 } K.bare r st1 hmf h1 rfl (hc.bare hp) ⟨by rw [look_nil, look_nilL]; exact s.bare, rfl, fun i hi => hi.elim, fun i => (hg i).bare rfl⟩).mono fun e w' hR => ?_
            obtain ⟨val, K1, rfl, rfl, r1, r2, r3, r4⟩ := hR
            have H := OutOK.of s rfl rfl r2.f (lo := 0) rfl fun i _ hi => by omega
            obtain ⟨a1, a2⟩ := s.after r2.f.bel
            have e1 : ovr (.rd [] [] st.nx st.nx) st h = h := by
              funext i
              simp only [ovr, wr, List.contains_nil, Bool.false_or, Bool.and_eq_true, decide_eq_true_eq]
              rw [if_neg (by omega)]
            exact ⟨val, { K with W := K1.W }, rfl, rfl, H.expo r1 hu, by rw [e1]; exact a1, a2, fun i hi => .inl hi⟩
          · cases he
        · cases he
      · rename_i hp
        split at he
        · rename_i r st1 h1
          split at he
          · rename_i u hu
            cases he
            simp only [fpC, if_neg hp] at hag ⊢
            obtain ⟨rfl, hd⟩ := hag
            refine (F g mf args vs ⟨K.W.heap.size, K.W, st.nx, K.MC⟩ { env := argE 0 args, heap := st.heap, nx := st.nx, loops := [], wb := st.nx } K r st1 hmf h1 rfl hc ⟨by rw [look_nilL]; exact s.start (fun _ _ h => h) fun i cs hi hl => by have := hd i (s.hp i cs hi).1; omega, rfl, hd, hg⟩).mono fun e w' hR => ?_
            obtain ⟨val, K1, rfl, rfl, r1, r2, r3, r4⟩ := hR
            have hnm : ∀ i, K1.dom i → i < st.nx → K.dom i ∧ K.β i = K1.β i := fun i hi hlt => by
              have hdi : K.dom i := by
                rcases r4 i hi with hh | hh
                · exact hh
                · have : st.nx ≤ i := hh.1
                  omega
              refine ⟨hdi, ?_⟩
              obtain ⟨hh, _⟩ := inv_ptr (r3.rv _ _ (RV.ptr (K := K) i 0 hdi))
              simp only [Value.pointer.injEq, Option.some.injEq, Addr.mk.injEq, and_true, Nat.add_zero] at hh
              exact Prod.ext hh.1 hh.2
            have H := OutOK.of s rfl rfl r2.f (lo := st.nx) rfl hnm
            obtain ⟨a1, a2⟩ := s.after r2.f.bel
            exact ⟨val, { K with W := K1.W }, rfl, rfl, H.expo r1 hu, a1, a2, fun i hi => .inl hi⟩
          · cases he
        · cases he
end
end Go.Proofs.YtfmbdcmjgnikiaaGreatDoor.Sm
namespace Go.Proofs.YtfmbdcmjgnikiaaGreatDoor.Sm
open Go Go.RowKit

section
variable {P : Program} {eqTs : List (Nat × Nat)} {bs : Bs} {h : HL} {ls : Nat → Option LRec} {K : KK}

theorem SimF.subL (s : SimF P eqTs bs h ls K) {ls' : Nat → Option LRec} (hs : ∀ l r, ls' l = some r → ls l = some r) : SimF P eqTs bs h ls' K where
  bel := s.bel
  bsz := s.bsz
  mc0 := s.mc0
  hp := s.hp
  inj := s.inj
  low := s.low
  mcb := s.mcb
  lp := fun l r hl => s.lp l r (hs l r hl)
  linj := fun l l' r r' hl hl' => s.linj l l' r r' (hs _ _ hl) (hs _ _ hl')
  llow := fun l r hl => s.llow l r (hs l r hl)

theorem SimF.putL (s : SimF P eqTs bs h ls K) {l : Nat} {r : LRec} (ho : LO P eqTs K l r) (hinj : ∀ j rj, ls j = some rj → j ≠ l → (K.β j).1 ≠ (K.β l).1) (hlow : bs.B ≤ (K.β l).1) : SimF P eqTs bs h (fun j => if j = l then some r else ls j) K := by
  have hnew : ∀ i ri, (if i = l then some r else ls i) = some ri → (i = l ∧ ri = r) ∨ (i ≠ l ∧ ls i = some ri) := fun i ri hi => by
    by_cases he : i = l
    · rw [if_pos he] at hi; exact .inl ⟨he, by cases hi; rfl⟩
    · rw [if_neg he] at hi; exact .inr ⟨he, hi⟩
  refine { bel := s.bel, bsz := s.bsz, mc0 := s.mc0, hp := s.hp, inj := s.inj, low := s.low, mcb := s.mcb, lp := fun i ri hi => ?_, linj := fun i j ri rj hi hj hij => ?_, llow := fun i ri hi => ?_ }
  · rcases hnew i ri hi with ⟨rfl, rfl⟩ | ⟨he, hi'⟩
    · exact ho
    · exact s.lp i ri hi'
  · rcases hnew i ri hi with ⟨rfl, rfl⟩ | ⟨he, hi'⟩ <;> rcases hnew j rj hj with ⟨rfl, rfl⟩ | ⟨he2, hj'⟩
    · exact absurd rfl hij
    · exact fun e => hinj j rj hj' he2 e.symm
    · exact hinj i ri hi' he
    · exact s.linj i j ri rj hi' hj' hij
  · rcases hnew i ri hi with ⟨rfl, rfl⟩ | ⟨he, hi'⟩
    · exact hlow
    · exact s.llow i ri hi'

/-- A block that holds no cells is put. -/
def KK.obj (K : KK) (g : Nat) (o : Obj) : KK := { K with W := K.W.putObj g o }
theorem obj_cell {g : Nat} {o o0 : Obj} (h0 : K.W.heap[g]? = some o0) (hn : ∀ c T fr, o0 ≠ Obj.cells c T fr) {k : Nat} {c : Array Value} {T : TypeId} {fr : Nat × Nat} (hk : K.W.heap[k]? = some (.cells c T fr)) : (K.obj g o).W.heap[k]? = some (.cells c T fr) := by
  have : k ≠ g := fun e => by
    subst e
    rw [h0] at hk
    cases hk
    exact hn _ _ _ rfl
  show (K.W.putObj g o).heap[k]? = _
  rw [World.putObj_heap_other this]; exact hk
theorem RV.obj {g : Nat} {o o0 : Obj} (h0 : K.W.heap[g]? = some o0) (hn : ∀ c T fr, o0 ≠ Obj.cells c T fr) {v : Value} {y : SV} (hv : RV K v y) : RV (K.obj g o) v y := by
  refine RV.mono (K := K) (K' := K.obj g o) (fun i hi => ⟨hi, rfl⟩) (fun b off u h1 h2 => ⟨?_, h2⟩) (fun b n hs => ?_) hv
  · obtain ⟨c, T, fr, h3, h4⟩ := cell_heap h1
    rw [cell_of (obj_cell h0 hn h3)]
    exact h4
  · obtain ⟨c, T, fr, h3, h4⟩ := hs
    exact ⟨c, T, fr, obj_cell h0 hn h3, h4⟩
theorem SimF.obj (s : SimF P eqTs bs h ls K) {g : Nat} {o o0 : Obj} (h0 : K.W.heap[g]? = some o0) (hn : ∀ c T fr, o0 ≠ Obj.cells c T fr) (hB : bs.B ≤ g) (hl : ∀ l r, ls l = some r → (K.β l).1 ≠ g) : SimF P eqTs bs h ls (K.obj g o) := by
  have hrv : ∀ v y, RV K v y → RV (K.obj g o) v y := fun v y hv => hv.obj h0 hn
  refine { bel := s.bel.trans ⟨rfl, rfl, rfl, by simp [KK.obj], fun k hk => ?_⟩, bsz := s.bsz, mc0 := s.mc0, hp := fun id ci hi => ?_, inj := s.inj, low := s.low, mcb := fun b off hm => by simpa [KK.obj] using s.mcb b off hm, lp := fun l r hl' => ?_, linj := s.linj, llow := s.llow }
  · exact World.putObj_heap_other (by omega)
  · obtain ⟨hd, c, T, h1, h2, h3, h4⟩ := s.hp id ci hi
    exact ⟨hd, c, T, obj_cell h0 hn h1, h2, fun i x hx => let ⟨v, h5, h6⟩ := h3 i x hx; ⟨v, h5, hrv _ _ h6⟩, h4⟩
  · obtain ⟨hd, L, h1, h2, h3, h4, h5, h6⟩ := s.lp l r hl'
    refine ⟨hd, L, ?_, h2, h3, fun t => hrv _ _ (h4 t), h5, h6⟩
    show (K.W.putObj g o).heap[(K.β l).1]? = _
    rw [World.putObj_heap_other (hl l r hl')]
    exact h1
theorem Ext.obj {g : Nat} {L L' : Loop} (h0 : K.W.heap[g]? = some (.loop L)) : Ext K (K.obj g (.loop L')) := by
  have hg : g < K.W.heap.size := (Array.getElem?_eq_some_iff.1 h0).1
  refine ⟨fun v y hv => hv.obj h0 (by simp), by simp [KK.obj], fun k hk => ?_, fun k r hk => ?_⟩
  · have : k ≠ g := fun e => by
      subst e
      rw [h0] at hk
      cases hk
    show (K.W.putObj g _).heap[k]? = _
    rw [World.putObj_heap_other this]; exact hk
  · by_cases e : k = g
    · subst e
      exact ⟨L', World.putObj_heap_same hg⟩
    · refine ⟨r, ?_⟩
      show (K.W.putObj g _).heap[k]? = _
      rw [World.putObj_heap_other e]; exact hk

/-- The record of a loop turns. -/
theorem SimF.putLoop (s : SimF P eqTs bs h ls K) {l : Nat} {r r' : LRec} {L L' : Loop} (hl : ls l = some r) (hL : K.W.heap[(K.β l).1]? = some (.loop L)) (he : r'.env = r.env) (hp : r'.ps = r.ps) (ha : r'.assign = r.assign) (hb : r'.body = r.body)
    (kt : L'.tmps = L.tmps) (kp : L'.params = L.params) (ka : L'.assign = L.assign) (kb : L'.body = L.body) (hst : match r'.st with | 0 => L'.state = .ready | 1 => L'.state = .busy | _ => L'.state = .done)
    (hpe : L'.pending = (match r'.pend with | .norm => none | .exit i => some (.exit i) | .ret => some .ret)) :
    SimF P eqTs bs h (fun j => if j = l then some r' else ls j) (K.obj (K.β l).1 (.loop L')) ∧ Ext K (K.obj (K.β l).1 (.loop L')) := by
  have hg : (K.β l).1 < K.W.heap.size := (Array.getElem?_eq_some_iff.1 hL).1
  obtain ⟨hd, L0, h1, h2, h3, h4, h5, h6⟩ := s.lp l r hl
  rw [hL] at h1
  cases h1
  have hx := Ext.obj (K := K) (L' := L') hL
  refine ⟨?_, hx⟩
  have s1 : SimF P eqTs bs h (fun j => if j = l then none else ls j) K := s.subL fun j rj hj => by
    split at hj
    · cases hj
    · exact hj
  have s2 : SimF P eqTs bs h (fun j => if j = l then none else ls j) (K.obj (K.β l).1 (.loop L')) := s1.obj hL (by simp) (s.llow l r hl) fun j rj hj => by
    split at hj
    · cases hj
    · rename_i hne
      exact s.linj j l rj r hj hl hne
  have s3 := s2.putL (l := l) (r := r') ⟨hd, L', World.putObj_heap_same hg, by rw [kp, hp]; exact h2, by rw [kt, hp, ha, hb, ka, kb]; exact h3, fun t => by rw [he, kt]; exact hx.rv _ _ (h4 t), hst, hpe⟩ (fun j rj hj hne => by
    split at hj
    · cases hj
    · exact s.linj j l rj r hj hl hne) (s.llow l r hl)
  have e : (fun j => if j = l then some r' else if j = l then none else ls j) = fun j => if j = l then some r' else ls j := by
    funext j
    split <;> simp_all
  rw [e] at s3
  exact s3
end

/-! ### code -/
def Frd (rd : Option Nat) : Fence := { Fence.wide with round := rd }
def exOf : Ex → Exit
  | .norm => .normal
  | .exit i => .exit i
  | .ret => .ret
def mark (b : Nat) : Deferred := { target := .collected b, args := #[] }

structure SimA (P : Program) (eqTs : List (Nat × Nat)) (X : Cx) (bs : Bs) (rd : Option Nat) (d0 N : Nat) (st : St) (K : KK) (a : Act) : Prop where
  s : SimS P eqTs X bs st K
  env : EnvR K st.env a.tmps
  sz : N ≤ a.tmps.size
  df : ∃ D : List Nat, a.defers = D.map mark ∧ D.Nodup ∧ ∀ b ∈ D, d0 ≤ b ∧ K.W.heap[b]? = some (.deferred (some []))
  d0 : d0 ≤ K.W.heap.size
  rd : ∀ l, rd = some l → ∃ r, K.W.heap[l]? = some (.loop r)

/-- The machine runs code as rec does. -/
def CodeOK (P : Program) (eqTs : List (Nat × Nat)) (X : Cx) (rec : Rec) : Prop := ∀ (rd : Option Nat) (d0 N : Nat) (mc : MCode) (st : St) (x : Ex) (st' : St) (code : Code) (bs : Bs) (K : KK) (a : Act) (Q : Exit → Act → World → Prop),
  rec mc st = some (x, st') → chkC P eqTs N mc code = true → SimA P eqTs X bs rd d0 N st K a →
  (∀ a' K', SimA P eqTs X bs rd d0 N st' K' a' → Ext K K' → Grow K K' st.nx st'.nx → Q (exOf x) a' K'.W) → code.wpIn (Frd rd) 0 P Q a K.W

section
variable {P : Program} {eqTs : List (Nat × Nat)} {X : Cx} {bs : Bs} {h : HL} {ls : Nat → Option LRec} {K : KK} {rec : Rec}

theorem Ext.β {K K' : KK} (e : Ext K K') {i : Nat} (hd : K.dom i) : K'.dom i ∧ K'.β i = K.β i := by
  obtain ⟨hh, hd'⟩ := inv_ptr (e.rv _ _ (RV.ptr (K := K) i 0 hd))
  simp only [Value.pointer.injEq, Option.some.injEq, Addr.mk.injEq, and_true, Nat.add_zero] at hh
  exact ⟨hd', Prod.ext hh.1.symm hh.2.symm⟩
theorem Grow.trans {K K1 K2 : KK} {a b c : Nat} (h1 : Grow K K1 a b) (h2 : Grow K1 K2 b c) (hab : a ≤ b) (hbc : b ≤ c) : Grow K K2 a c := fun i hi => by
  rcases h2 i hi with h | h
  · rcases h1 i h with h | h
    · exact .inl h
    · exact .inr (by omega)
  · exact .inr (by omega)

theorem getE_bindE : ∀ (ps : List Nat) (vs : List SV) (e : Env), ps.length = vs.length → ∀ (tmps : Array Value) (us : List Value), EnvR K e tmps → us.length = vs.length → (∀ (i : Nat) (y : SV), vs[i]? = some y → ∃ u, us[i]? = some u ∧ RV K u y) → (∀ p ∈ ps, p < tmps.size) →
    EnvR K (bindE ps vs e) ((ps.zip us).foldl (fun (tmps : Array Value) (x : Nat × Value) => tmps.setIfInBounds x.1 x.2) tmps) ∧ ((ps.zip us).foldl (fun (tmps : Array Value) (x : Nat × Value) => tmps.setIfInBounds x.1 x.2) tmps).size = tmps.size
  | [], [], e, _, tmps, us, he, _, _, _ => ⟨by simpa [bindE] using he, by simp⟩
  | p :: ps, v :: vs, e, hl, tmps, [], he, hul, hr, hp => by simp at hul
  | p :: ps, v :: vs, e, hl, tmps, u :: us, he, hul, hr, hp => by
    simp only [bindE, List.zip_cons_cons, List.foldl_cons]
    obtain ⟨u', h1, h2⟩ := hr 0 v (by simp)
    simp only [List.getElem?_cons_zero, Option.some.injEq] at h1
    subst h1
    have := getE_bindE ps vs ((p, v) :: e) (by simpa using hl) (tmps.setIfInBounds p u) us (fun t => by
      rw [getE]
      by_cases ht : p = t
      · subst ht
        rw [if_pos rfl, getD_of (v := u) (by simp [hp p List.mem_cons_self])]
        exact h2
      · rw [if_neg ht]
        have : (tmps.setIfInBounds p u).getD t Go.undef = tmps.getD t Go.undef := by
          simp [Array.getD_eq_getD_getElem?, Array.getElem?_setIfInBounds, ht]
        rw [this]
        exact he t) (by simpa using hul) (fun i y hy => by
        obtain ⟨w, h3, h4⟩ := hr (i + 1) y (by simpa using hy)
        exact ⟨w, by simpa using h3, h4⟩) (fun q hq => by simpa using hp q (List.mem_cons_of_mem _ hq))
    exact ⟨this.1, by rw [this.2]; simp⟩
  | [], v :: vs, e, hl, _, _, _, _, _, _ => by simp at hl
  | p :: ps, [], e, hl, _, _, _, _, _, _ => by simp at hl
end
end Go.Proofs.YtfmbdcmjgnikiaaGreatDoor.Sm
namespace Go.Proofs.YtfmbdcmjgnikiaaGreatDoor.Sm
open Go Go.RowKit

def jumpOf : Ex → Option Code
  | .norm => none
  | .exit i => some (.exit i)
  | .ret => some .ret

section
variable {P : Program} {eqTs : List (Nat × Nat)} {X : Cx} {bs : Bs} {K : KK} {rec : Rec}

theorem look_updL {ls : List (Nat × LRec)} {l : Nat} {r r' : LRec} (h : look ls l = some r) : look (upd ls l r') = fun j => if j = l then some r' else look ls j := by
  funext j
  exact look_upd ls l r' j (by rw [h]; rfl)

theorem end_round {st3 : St} {l g : Nat} {r3 : LRec} (s : SimS P eqTs X bs st3 K) (hl : look st3.loops l = some r3) (hg : (K.β l).1 = g) (x : Ex) (e : Env) :
    ∃ K4, (Instr.endRound g (jumpOf x)).run P K.W = .ok (.bool (x == .norm)) K4.W ∧ SimS P eqTs X bs { st3 with env := e, loops := upd st3.loops l { r3 with st := if x == .norm then 0 else 2, pend := x } } K4 ∧ Ext K K4 ∧ K4.dom = K.dom := by
  subst hg
  obtain ⟨hd, L3, hL3, hps, hch, henv, hst, hpe⟩ := s.f.lp l r3 hl
  have hrun := run_endRound (P := P) (jumpOf x) hL3
  have hjn : (jumpOf x).isNone = (x == .norm) := by cases x <;> rfl
  rw [hjn] at hrun
  obtain ⟨f1, x1⟩ := s.f.putLoop (r' := { r3 with st := if x == .norm then 0 else 2, pend := x }) (L' := { L3 with state := if (x == .norm) = true then .ready else .done, pending := jumpOf x }) hl hL3 rfl rfl rfl rfl rfl rfl rfl rfl (by cases x <;> rfl) (by cases x <;> rfl)
  refine ⟨K.obj (K.β l).1 (.loop { L3 with state := if (x == .norm) = true then .ready else .done, pending := jumpOf x }), hrun, ⟨?_, s.wb, s.fresh, s.glob.ext x1⟩, x1, rfl⟩
  simp only
  rw [look_updL hl]
  exact f1

theorem callY_sound (C : CodeOK P eqTs X rec) (hr : RecOk rec) {rd : Option Nat} {l : Nat} {args : List SV} {vs : Array Value} {st st' : St} {v : SV} (he : callY rec l args st = some (v, st')) (hc : CR K vs args) (s : SimS P eqTs X bs st K) :
    ∃ (L : Loop), K.W.heap[(K.β l).1]? = some (.loop L) ∧ vs.size = L.params.size ∧
      RoundIn (Frd rd) 0 P (K.β l).1 L.fn ((L.params.zip vs).foldl (fun tmps (t, a) => tmps.setIfInBounds t a) L.tmps) L.assign L.body K.W fun e w' => ∃ val K', e = .returned val ∧ w' = K'.W ∧ RV K' val v ∧ SimS P eqTs X bs st' K' ∧ Ext K K' ∧ Grow K K' st.nx st'.nx := by
  unfold callY at he
  split at he
  · cases he
  · rename_i r h1
    split at he
    · rename_i hlen
      split at he
      · rename_i st2 h2
        split at he
        · rename_i r2 h3
          split at he
          · rename_i h4
            split at he
            · rename_i x st3 h5
              split at he
              · rename_i r3 h6
                cases he
                obtain ⟨hd, L, hL, hps, ⟨N, hN, hpN, hca, hcb⟩, henv, hst, hpe⟩ := s.f.lp l r h1
                have hpl : L.params.size = r.ps.length := by rw [← hps]; simp
                refine ⟨L, hL, by rw [hc.1, hpl, hlen], ?_⟩
                have hfold : (L.params.zip vs).foldl (fun tmps (t, a) => tmps.setIfInBounds t a) L.tmps = (r.ps.zip vs.toList).foldl (fun (tmps : Array Value) (x : Nat × Value) => tmps.setIfInBounds x.1 x.2) L.tmps := by
                  rw [← Array.foldl_toList, Array.toList_zip, hps]
                obtain ⟨b1, b2⟩ := getE_bindE r.ps args r.env hlen.symm L.tmps vs.toList henv (by simpa using hc.1) (fun i y hy => by
                  obtain ⟨u, g1, g2⟩ := hc.get hy
                  exact ⟨u, by simpa using g1, g2⟩) (fun p hp => Nat.lt_of_lt_of_le (hpN p hp) hN)
                rw [hfold]
                generalize (r.ps.zip vs.toList).foldl (fun (tmps : Array Value) (x : Nat × Value) => tmps.setIfInBounds x.1 x.2) L.tmps = tm at b1 b2
                refine roundIn_of_wpIn (F := Frd rd) trivial ?_
                refine C (some (K.β l).1) K.W.heap.size N r.assign { st with env := bindE r.ps args r.env } .norm st2 L.assign bs K { tmps := tm, defers := [] } _ h2 hca ⟨⟨s.f, s.wb, s.fresh, s.glob⟩, b1, by simp only; omega, ⟨[], rfl, List.nodup_nil, by simp⟩, Nat.le_refl _, fun l' hl' => by cases hl'; exact ⟨L, hL⟩⟩ fun a1 K1 hA1 x1 g1 => ?_
                have hn1 := hr _ _ _ _ h2
                have hn3 := hr _ _ _ _ h5
                obtain ⟨hd1, L2, hL2, hps2, hch2, henv2, hst2, hpe2⟩ := hA1.s.f.lp l r2 h3
                have hβ1 := (x1.β hd).2
                rw [h4] at hst2
                have hrun := run_beginRound (P := P) hL2 hst2
                rw [hβ1] at hrun
                refine ⟨_, hrun, ?_⟩
                obtain ⟨f2, x2⟩ := hA1.s.f.putLoop (r' := { r2 with st := 1 }) (L' := { L2 with state := .busy }) h3 hL2 rfl rfl rfl rfl rfl rfl rfl rfl rfl hpe2
                rw [hβ1] at f2 x2
                obtain ⟨D, q1, q2, q3⟩ := hA1.df
                refine C (some (K.β l).1) K.W.heap.size N r.body { st2 with loops := upd st2.loops l { r2 with st := 1 } } x st3 L.body bs (K1.obj (K.β l).1 (.loop { L2 with state := .busy })) a1 _ h5 hcb ⟨⟨by simp only; rw [look_updL h3]; exact f2, hA1.s.wb, hA1.s.fresh, hA1.s.glob.ext x2⟩, hA1.env.ext x2, hA1.sz, ⟨D, q1, q2, fun b hb => ⟨(q3 b hb).1, x2.defd b (q3 b hb).2⟩⟩, Nat.le_trans hA1.d0 x2.size, fun l' hl' => by
                  obtain ⟨r', hr'⟩ := hA1.rd l' hl'
                  exact x2.lps l' r' hr'⟩ fun a3 K3 hA3 x3 g3 => ?_
                have hd1' := (x1.β hd).1
                have hβ2 := (x2.β hd1').2
                have hβ3 := (x3.β (x2.β hd1').1).2
                obtain ⟨K4, hend, s4, x4, d4⟩ := end_round hA3.s h6 (g := (K.β l).1) (by rw [hβ3, hβ2, hβ1]) x st.env
                have fin : ∃ val K', (Ending.returned (Value.bool (x == .norm))) = .returned val ∧ K4.W = K'.W ∧ RV K' val (SV.bool (x == .norm)) ∧ SimS P eqTs X bs { st3 with env := st.env, loops := upd st3.loops l { r3 with st := if x == .norm then 0 else 2, pend := x } } K' ∧ Ext K K' ∧ Grow K K' st.nx st3.nx :=
                  ⟨_, K4, rfl, rfl, .bool _, s4, x1.trans (x2.trans (x3.trans x4)), fun i hi => by
                    rw [d4] at hi
                    have a1 := hn1.1
                    have a3 := hn3.1
                    simp only at a1 a3
                    rcases g3 i hi with hh | hh
                    · rcases g1 i hh with hh | hh
                      · exact .inl hh
                      · simp only at hh; exact .inr (by omega)
                    · simp only at hh; exact .inr (by omega)⟩
                cases x with
                | norm => exact ⟨_, _, hend, fin⟩
                | exit i => exact ⟨_, _, hend, fin⟩
                | ret => exact ⟨_, _, hend, fin⟩
              · cases he
            · cases he
          · cases he
        · cases he
      · cases he
    · cases he
end
end Go.Proofs.YtfmbdcmjgnikiaaGreatDoor.Sm
namespace Go.Proofs.YtfmbdcmjgnikiaaGreatDoor.Sm
open Go Go.RowKit

section
variable {P : Program} {eqTs : List (Nat × Nat)} {X : Cx} {bs : Bs} {h : HL} {ls : Nat → Option LRec} {K : KK} {rec : Rec}

theorem chkOp_defer {op : Op} {m : MOp} (h : chkOp P eqTs op m = true) (c : Call) : op ≠ .defer c := by
  rintro rfl
  cases m with
  | r o => cases o <;> simp [chkOp, chkR] at h
  | w o => cases o <;> simp [chkOp, chkW] at h
  | call m f as => simp [chkOp] at h

theorem wp_of {rd : Option Nat} {o : Oper} {a : Act} {w w' : World} {next : Act → World → Prop} {Q : Exit → Act → World → Prop} (hd : ∀ c, o.op ≠ .defer c) {n : Next} {val : Value} (hr : (execOp a.eval o).run P w = .ok n w') (hn : n = .value val ∨ (n = .skip ∧ val = Go.undef)) (hk : next (a.put o.dst val) w') : o.wpIn (Frd rd) 0 P a w next Q := by
  refine ⟨fun _ _ => trivial, ?_⟩
  rw [Oper.semAt_eq _ _ _ hd, hr]
  rcases hn with rfl | ⟨rfl, rfl⟩ <;> exact hk

theorem call_inv {op : Op} {m : Mode} {f : Arg} {as : List Arg} (h : chkOp P eqTs op (.call m f as) = true) : ∃ c g, op = .call c ∧ c.callee = .value g ∧ od g f = true ∧ odL c.args.toList as = true := by
  unfold chkOp at h
  split at h
  · rename_i hm; cases hm
  · rename_i hm; cases hm
  · rename_i c m' f' as' hm
    cases hm
    split at h
    · rename_i g hg
      simp only [Bool.and_eq_true] at h
      exact ⟨c, g, rfl, hg, h.1, h.2⟩
    · cases h
  · cases h

theorem exec_fn {σ : Operand → Value} {o : Oper} {c : Call} {g : Operand} {f : Nat} {vp vc : Array Value} {fn : Func} {w : World} (ho : o.op = .call c) (hc : c.callee = .value g) (hg : σ g = .func (.func f) vp vc) (hf : P.funcs[f]? = some fn) (hb : fn.body.isSome = true) (hn : (fn.name != "runtime.NumGoroutine") = true) :
    (execOp σ o).run P w = .ok (.enter f (vp ++ c.args.map σ ++ vc)) w := by
  have hn' : (fn.name == "runtime.NumGoroutine") = false := by simpa [bne] using hn
  have hb' : fn.body.isNone = false := by
    cases hbb : fn.body with
    | none => rw [hbb] at hb; cases hb
    | some _ => rfl
  simp only [execOp, ho, resolve, hc, Deferred.ofValue, hg, invoke, callFunc, program, Sem.run_bind, Sem.run_pure, Result.andThen_ok, Sem.run, hf, hn', hb', if_false, Bool.false_eq_true]
theorem exec_yield {σ : Operand → Value} {o : Oper} {c : Call} {g : Operand} {l : Nat} {L : Loop} {w : World} (ho : o.op = .call c) (hc : c.callee = .value g) (hg : σ g = .func (.yield l) #[] #[]) (hL : w.heap[l]? = some (.loop L)) (hs : (c.args.map σ).size = L.params.size) :
    (execOp σ o).run P w = .ok (.round l L.fn ((L.params.zip (c.args.map σ)).foldl (fun tmps (t, a) => tmps.setIfInBounds t a) L.tmps) L.assign L.body) w := by
  have := run_yield (P := P) (args := #[] ++ c.args.map σ) hL (by simpa using hs)
  simp only [execOp, ho, resolve, hc, Deferred.ofValue, hg, invoke, Sem.run_bind, Sem.run_pure, Result.andThen_ok, this]
  simp

theorem callF_fn {m : Mode} {g : Nat} {args : List SV} {st st' : St} {v : SV} (he : callF rec X m g args st = some (v, st')) : ∃ mf, X.fns g = some mf := by
  unfold callF at he
  split at he
  · cases he
  · rename_i mf hmf; exact ⟨mf, hmf⟩

theorem chkF_body {fn : Func} {mf : MFun} (h : chkF P eqTs fn mf = true) : ∃ c, fn.body = some c ∧ chkC P eqTs fn.ntmps mf.code c = true ∧ resOk P fn.results.toList mf.res = true ∧ (fn.name != "runtime.NumGoroutine") = true := by
  simp only [chkF, Bool.and_eq_true] at h
  obtain ⟨⟨h1, h2⟩, h3⟩ := h
  split at h1
  · rename_i c hc; exact ⟨c, hc, h1, h2, h3⟩
  · cases h1

theorem CR.app {vs us : Array Value} {a b : List SV} (h1 : CR K vs a) (h2 : CR K us b) : CR K (vs ++ us) (a ++ b) := by
  refine CR.of (by simp [h1.1, h2.1]) fun i y hy => ?_
  by_cases hi : i < a.length
  · rw [List.getElem?_append_left hi] at hy
    obtain ⟨v, g1, g2⟩ := h1.get hy
    exact ⟨v, by rw [Array.getElem?_append_left (by rw [h1.1]; exact hi)]; exact g1, g2⟩
  · rw [List.getElem?_append_right (by omega)] at hy
    obtain ⟨v, g1, g2⟩ := h2.get hy
    exact ⟨v, by rw [Array.getElem?_append_right (by rw [h1.1]; omega), h1.1]; exact g1, g2⟩

theorem inv_fn {v : Value} {f : Nat} {pre caps : List SV} (h : RV K v (.fn f pre caps)) : ∃ vp vc, v = .func (.func f) vp vc ∧ CR K vp pre ∧ CR K vc caps := by
  cases h
  exact ⟨_, _, rfl, ⟨by assumption, by assumption⟩, ⟨by assumption, by assumption⟩⟩
theorem inv_yld {v : Value} {l : Nat} (h : RV K v (.yld l)) : v = .func (.yield (K.β l).1) #[] #[] ∧ K.dom l := by cases h; exact ⟨rfl, by assumption⟩

theorem ovr_same {r w : List Nat} {lo hi : Nat} {st' : St} {h' : HL} (h1 : ∀ i, i ∈ w ∨ (lo ≤ i ∧ i < hi) → look st'.heap i = h' i) (h2 : ∀ i, i ∉ w → ¬ (lo ≤ i ∧ i < hi) → h i = h' i) : ovr (.rd r w lo hi) st' h = h' := by
  funext i
  simp only [ovr, wr, Bool.or_eq_true, List.contains_iff_mem, Bool.and_eq_true, decide_eq_true_eq]
  by_cases hi : i ∈ w ∨ (lo ≤ i ∧ i < hi)
  · rw [if_pos hi]; exact h1 i hi
  · rw [if_neg hi]
    exact h2 i (fun e => hi (.inl e)) (fun e => hi (.inr e))

theorem op_sound (C : CodeOK P eqTs X rec) (F : FnOK P eqTs X rec) (hr : RecOk rec) (hX : ∀ f mf, X.fns f = some mf → ∃ fn, P.funcs[f]? = some fn ∧ chkF P eqTs fn mf = true) (hE : ∀ t n, eqTs.contains (t, n) = true → EqT P t n)
    {rd : Option Nat} {o : Oper} {m : MOp} (hq : chkOp P eqTs o.op m = true) {st st' : St} {v : SV} (he : evOp rec X m st = some (v, st')) {a : Act} (hag : Agree (fpO (argV X st.env) st.nx st'.nx m) st st' h ls K) (s : SimF P eqTs bs h ls K) (hwb : bs.wb = st.wb) (hg : GOK X K)
    (hσ : ∀ x b, od x b = true → RV K (a.eval x) (argV X st.env b)) {next : Act → World → Prop} {Q : Exit → Act → World → Prop}
    (hk : ∀ val K', RV K' val v → SimF P eqTs bs (ovr (fpO (argV X st.env) st.nx st'.nx m) st' h) (ovl (fpO (argV X st.env) st.nx st'.nx m) st' ls) K' → Ext K K' → Grow K K' st.nx st'.nx → next (a.put o.dst val) K'.W) : o.wpIn (Frd rd) 0 P a K.W next Q := by
  have hd := chkOp_defer hq
  cases m with
  | r op =>
    simp only [evOp] at he
    have hq' : chkR P eqTs o.op op = true := by simpa [chkOp] using hq
    obtain ⟨ha1, ha2⟩ := hag
    have hcg := evR_congr (h := h) (h' := look st.heap) (nx := st.nx) (ρ := argV X st.env) (o := op) fun i hi => ha1 i (List.mem_append_left _ hi)
    split at he
    · rename_i val hev
      cases he
      obtain ⟨val, K', e1, e2, e3, e4, e5⟩ := (evR_sound hE hq' hσ s (nx := st.nx) (c := none) (by simp) (hcg.trans hev)).ex
      refine wp_of hd e1 (.inl rfl) (hk val K' e2 ?_ e4 fun i hi => (e5 i hi).elim .inl fun h => by simp at h)
      have : ovr (fpO (argV X st.env) st.nx st.nx (.r op)) st h = h := ovr_same (fun i hi => by
        rcases hi with hi | hi
        · cases hi
        · omega) fun i _ _ => rfl
      rw [this]
      exact e3
    · rename_i val cs hev
      cases he
      have hn := ha2 st.nx (Nat.le_refl _) (by simp only; omega)
      obtain ⟨val, K', e1, e2, e3, e4, e5⟩ := (evR_sound hE hq' hσ s (nx := st.nx) (c := some cs) (fun _ => hn.1) (hcg.trans hev)).ex
      refine wp_of hd e1 (.inl rfl) (hk val K' e2 ?_ e4 fun i hi => (e5 i hi).imp id fun h => by simp only; omega)
      have : ovr (fpO (argV X st.env) st.nx (st.nx + 1) (.r op)) { st with heap := (st.nx, cs) :: st.heap, nx := st.nx + 1 } h = addH h st.nx (some cs) := ovr_same (fun i hi => by
        rcases hi with hi | hi
        · cases hi
        · have : i = st.nx := by omega
          subst this
          simp [look_cons, addH]) fun i _ hi => by
          simp only [addH]
          rw [if_neg (by omega)]
      rw [this]
      exact e3
    · cases he
  | w op =>
    simp only [evOp] at he
    have hq' : chkW P o.op op = true := by simpa [chkOp] using hq
    obtain ⟨ha1, ha2⟩ := hag
    have hcg := evW_congr (wb := st.wb) (h := h) (h' := look st.heap) (nx := st.nx) (ρ := argV X st.env) (o := op) ha1
    split at he
    · rename_i val ms nx hev
      cases he
      have hms := evW_mods hev
      have hev' := hcg.trans hev
      rw [← hwb] at hev'
      obtain ⟨n, val, K', e1, e2, e3, e4, e5, e6⟩ := (evW_sound hq' hσ s (fun hlt => (ha2 st.nx (Nat.le_refl _) (by simpa using hlt)).1) hev').ex
      refine wp_of hd e1 e2 (hk val K' e3 ?_ e5 e6)
      have : ovr (fpO (argV X st.env) st.nx nx (.w op)) { st with heap := appM st.heap ms, nx := nx } h = appF h ms := ovr_same (fun i hi => by
        simp only [look_appM]
        refine appF_agree ms _ _ i ?_
        rcases hi with hi | hi
        · exact (ha1 i (List.mem_append_right _ hi)).symm
        · rw [(ha2 i hi.1 hi.2).2]
          cases hh : h i with
          | none => rfl
          | some cs => exact absurd (s.hp i cs hh).1 (ha2 i hi.1 hi.2).1) fun i hi1 hi2 => (appF_out ms h i fun p hp e => by
          rcases hms.2 p hp with hh | hh
          · rw [e] at hh; exact hi1 hh
          · rw [e] at hh; exact hi2 hh).symm
      rw [this]
      exact e4
    · cases he
  | call m f as =>
    obtain ⟨c, g, ho, hc, h1, h2⟩ := call_inv hq
    have hv := hσ g f h1
    have hcr := odL_CR h2 hσ
    simp only [evOp, callV] at he
    split at he
    · rename_i fi pre caps hf
      rw [hf] at hv
      obtain ⟨vp, vc, hgv, c1, c2⟩ := inv_fn hv
      obtain ⟨mf, hmf⟩ := callF_fn he
      obtain ⟨fn, hfn, hch⟩ := hX fi mf hmf
      obtain ⟨body, hb, _, _, hnm⟩ := chkF_body hch
      have hex := exec_fn (P := P) (w := K.W) ho hc hgv hfn (by rw [hb]; rfl) hnm
      have hfp : fpO (argV X st.env) st.nx st'.nx (.call m f as) = fpC m (pre ++ as.map (argV X st.env) ++ caps) st.nx st'.nx := by
        cases m <;> simp [fpO, fpC, hf]
      rw [hfp] at hag hk
      have hcall := callF_sound F hr he ((c1.app hcr).app c2) hag s hwb hg
      refine ⟨fun _ _ => trivial, ?_⟩
      rw [Oper.semAt_eq _ _ _ hd, hex, Oper.uponIn_enter]
      refine ⟨fun hh => (by cases hh), ?_⟩
      exact CallsIn.mono (F := Frd rd) hcall fun e w' hR => by
        obtain ⟨val, K', rfl, rfl, r1, r2, r3, r4⟩ := hR
        exact hk val K' r1 r2 r3 r4
    · rename_i l hf
      split at he
      · rename_i hm
        subst hm
        rw [hf] at hv
        obtain ⟨hgv, hdl⟩ := inv_yld hv
        obtain ⟨rfl, rfl, hfr⟩ := hag
        obtain ⟨L, hL, hsz, hround⟩ := callY_sound (rd := rd) (bs := bs) C hr he hcr ⟨s, hwb, hfr, hg⟩
        have hex := exec_yield (P := P) ho hc hgv hL hsz
        refine ⟨fun _ _ => trivial, ?_⟩
        rw [Oper.semAt_eq _ _ _ hd, hex, Oper.uponIn_round]
        refine ⟨fun hh => (by cases hh), hround.mono fun e w' hR => ?_⟩
        obtain ⟨val, K', rfl, rfl, r1, r2, r3, r4⟩ := hR
        exact hk val K' r1 r2.f r3 r4
      · cases he
    · cases he
end
end Go.Proofs.YtfmbdcmjgnikiaaGreatDoor.Sm
namespace Go.Proofs.YtfmbdcmjgnikiaaGreatDoor.Sm
open Go Go.RowKit

section
variable {P : Program} {eqTs : List (Nat × Nat)} {X : Cx} {bs : Bs} {h : HL} {ls : Nat → Option LRec} {K : KK} {rec : Rec}

theorem od_rv {env : Env} {a : Act} (he : EnvR K env a.tmps) (hg : GOK X K) (x : Operand) (b : Arg) (ho : od x b = true) : RV K (a.eval x) (argV X env b) := by
  unfold od at ho
  split at ho
  · rw [beq_iff_eq] at ho; subst ho; exact he _
  · exact cv_rv ho
  · rw [beq_iff_eq] at ho
    subst ho
    exact .fn _ [] [] #[] #[] rfl rfl (by simp) (by simp)
  · exact .undef _
  · rw [beq_iff_eq] at ho; subst ho; exact hg _
  · cases ho

theorem wanted_of {ops : Array Oper} {o : Oper} {g : Option (Nat × Bool)} {env : Env} {tmps : Array Value} {b : Bool} (hc : chkG ops o.guard g = true) (he : EnvR K env tmps) (hb : guardB env g = some b) : Region.wanted o (yielded ops tmps) = b := by
  unfold chkG at hc
  split at hc
  · rename_i hg
    cases hb
    simp [Region.wanted, hg]
  · rename_i j w t c hg
    simp only [Bool.and_eq_true, beq_iff_eq] at hc
    obtain ⟨rfl, hc⟩ := hc
    split at hc
    · rename_i q hq
      simp only [beq_iff_eq] at hc
      simp only [guardB] at hb
      split at hb
      · rename_i z hz
        cases hb
        have h1 := he t
        rw [hz] at h1
        have h2 := inv_bool h1
        have h3 : tmps[t]? = some (.bool z) := by
          cases ht : tmps[t]? with
          | none => simp [Array.getD_eq_getD_getElem?, ht, Go.undef] at h2
          | some u =>
            rw [getD_of ht] at h2
            rw [h2]
        simp [Region.wanted, hg, yielded, hq, hc, h3]
      · rename_i hz
        cases hb
        have h1 := he t
        rw [hz] at h1
        obtain ⟨vs, h2, _⟩ := inv_tup h1
        have h3 : ∀ z, tmps[t]? ≠ some (.bool z) := fun z ht => by
          rw [getD_of ht] at h2
          cases h2
        simp only [Region.wanted, hg, yielded, hq, Option.bind_some, hc]
        cases ht : tmps[t]? with
        | none => simp
        | some u => cases u with
          | bool z => exact absurd ht (h3 z)
          | _ => simp
      · cases hb
    · cases hc
  · cases hc

theorem put_env {env : Env} {a : Act} {d : Option Nat} {val : Value} {v : SV} (he : EnvR K env a.tmps) (hv : RV K val v) (hd : ∀ k, d = some k → k < a.tmps.size) {st : St} (hs : st.env = env) : EnvR K (putE st d v).env (a.put d val).tmps ∧ (a.put d val).tmps.size = a.tmps.size ∧ (a.put d val).defers = a.defers := by
  cases d with
  | none => exact ⟨by subst hs; exact he, rfl, rfl⟩
  | some k =>
    refine ⟨fun t => ?_, by simp [Act.put], rfl⟩
    subst hs
    simp only [putE, getE, Act.put]
    by_cases ht : k = t
    · subst ht
      rw [if_pos rfl, getD_of (v := val) (by simp [hd k rfl])]
      exact hv
    · rw [if_neg ht]
      have : (a.tmps.setIfInBounds k val).getD t Go.undef = a.tmps.getD t Go.undef := by
        simp [Array.getD_eq_getD_getElem?, Array.getElem?_setIfInBounds, ht]
      rw [this]
      exact he t

/-- What is known of the program and of the interpreter that runs the parts. -/
structure Known (P : Program) (eqTs : List (Nat × Nat)) (X : Cx) (rec : Rec) : Prop where
  C : CodeOK P eqTs X rec
  F : FnOK P eqTs X rec
  ok : RecOk rec
  X : ∀ f mf, X.fns f = some mf → ∃ fn, P.funcs[f]? = some fn ∧ chkF P eqTs fn mf = true
  E : ∀ t n, eqTs.contains (t, n) = true → EqT P t n

theorem ins_sound (H : Known P eqTs X rec) {rd : Option Nat} {N : Nat} {ops : Array Oper} {o : Oper} {i : Ins} (hq : chkIns P eqTs N ops o i = true) {st st1 : St} (he : evIns rec X i st = some st1) {a : Act} (henv : EnvR K st.env a.tmps) (hN : N ≤ a.tmps.size)
    (hag : Agree (fpI X i st st1) st st1 h ls K) (s : SimF P eqTs bs h ls K) (hwb : bs.wb = st.wb) (hg : GOK X K) {next : Act → World → Prop} {Q : Exit → Act → World → Prop}
    (hk : ∀ val K', EnvR K' st1.env (a.put i.dst val).tmps → (a.put i.dst val).tmps.size = a.tmps.size → (a.put i.dst val).defers = a.defers → SimF P eqTs bs (ovr (fpI X i st st1) st1 h) (ovl (fpI X i st st1) st1 ls) K' → Ext K K' → Grow K K' st.nx st1.nx → next (a.put i.dst val) K'.W) :
    if Region.wanted o (yielded ops a.tmps) then o.wpIn (Frd rd) 0 P a K.W next Q else (∀ f, o.about P K.W a.eval = some f → (Frd rd).fn f) ∧ next (a.put o.dst Go.undef) K.W := by
  simp only [chkIns, Bool.and_eq_true, beq_iff_eq] at hq
  obtain ⟨⟨⟨q1, q2⟩, q3⟩, q4⟩ := hq
  have hd : ∀ k, i.dst = some k → k < a.tmps.size := fun k hk => by
    rw [hk] at q2
    have : k < N := by simpa using q2
    omega
  unfold evIns at he
  split at he
  · rename_i hgu
    split at he
    · rename_i v st1' hop
      cases he
      have hw := wanted_of q3 henv hgu
      rw [if_pos hw]
      have hfp : fpI X i st (putE st1' i.dst v) = fpO (argV X st.env) st.nx st1'.nx i.op := by
        unfold fpI
        rw [hgu, putE_nx.1]
      have hov : ∀ fp h, ovr fp (putE st1' i.dst v) h = ovr fp st1' h := fun fp h => by
        funext j; simp only [ovr, putE_nx.2.2.1]
      have hol : ∀ fp (ls : Nat → Option LRec), ovl fp (putE st1' i.dst v) ls = ovl fp st1' ls := fun fp ls => by
        cases fp <;> simp only [ovl, putE_nx.2.2.2]
      have hag' : Agree (fpO (argV X st.env) st.nx st1'.nx i.op) st st1' h ls K := by
        rw [hfp] at hag
        revert hag
        cases fpO (argV X st.env) st.nx st1'.nx i.op <;> simp only [Agree, putE_nx.1] <;> exact id
      have hok := evOp_ok H.ok hop
      refine op_sound H.C H.F H.ok H.X H.E q4 hop hag' s hwb hg (od_rv henv hg) fun val K' r1 r2 r3 r4 => ?_
      rw [q1]
      obtain ⟨p1, p2, p3⟩ := put_env (K := K') (a := a) (d := i.dst) (val := val) (v := v) (fun t => r3.rv _ _ (henv t)) r1 hd (st := st1') hok.2.2
      exact hk val K' p1 p2 p3 (by rw [hfp, hov, hol]; exact r2) r3 (by rw [putE_nx.1]; exact r4)
    · cases he
  · rename_i hgu
    cases he
    have hw := wanted_of q3 henv hgu
    rw [if_neg (by rw [hw]; simp)]
    refine ⟨fun _ _ => trivial, ?_⟩
    have hfp : fpI X i st (putE st i.dst (.tup [])) = .rd [] [] st.nx st.nx := by
      unfold fpI
      rw [hgu, putE_nx.1]
    have hov : ovr (.rd [] [] st.nx st.nx) (putE st i.dst (.tup [])) h = h := ovr_same (fun j hj => by
      rcases hj with hj | hj
      · cases hj
      · omega) fun _ _ _ => rfl
    rw [q1]
    obtain ⟨p1, p2, p3⟩ := put_env (K := K) (a := a) (d := i.dst) (val := Go.undef) (v := .tup []) henv (.tup #[] [] rfl (by simp)) hd (st := st) rfl
    exact hk Go.undef K p1 p2 p3 (by rw [hfp, hov]; exact s) (Ext.refl K) fun j hj => .inl hj
  · cases he

theorem evOp_frame (hr : RecOk rec) {m : MOp} {st st' : St} {v : SV} (he : evOp rec X m st = some (v, st')) : (∀ i, wr (fpO (argV X st.env) st.nx st'.nx m) i = false → look st'.heap i = look st.heap i) ∧ ovl (fpO (argV X st.env) st.nx st'.nx m) st' (look st.loops) = look st'.loops := by
  cases m with
  | r o =>
    simp only [evOp] at he
    split at he
    · cases he; exact ⟨fun _ _ => rfl, rfl⟩
    · cases he
      refine ⟨fun i hi => ?_, rfl⟩
      simp only [fpO, wr, List.contains_nil, Bool.false_or, Bool.and_eq_false_iff, decide_eq_false_iff_not] at hi
      rw [look_cons, if_neg (by omega)]
    · cases he
  | w o =>
    simp only [evOp] at he
    split at he
    · rename_i h1
      cases he
      refine ⟨fun i hi => ?_, rfl⟩
      simp only [fpO, wr, Bool.or_eq_false_iff, Bool.and_eq_false_iff, decide_eq_false_iff_not] at hi
      simp only [look_appM]
      refine appF_out _ _ i fun p hp e => ?_
      rcases (evW_mods h1).2 p hp with hh | hh
      · rw [e] at hh
        have := hi.1
        simp [hh] at this
      · rw [e] at hh
        omega
    · cases he
  | call m f as =>
    simp only [evOp, callV] at he
    split at he
    · rename_i fi pre caps hf
      cases m with
      | rw => exact ⟨fun i hi => by simp [fpO, wr] at hi, rfl⟩
      | new =>
        simp only [callF] at he
        split at he
        · cases he
        · split at he
          · split at he
            · rename_i r st1 h1
              cases he
              simp only [fpO, hf]
              refine ⟨fun i hi => ?_, rfl⟩
              simp only [wr, List.contains_nil, Bool.false_or, Bool.and_eq_false_iff, decide_eq_false_iff_not] at hi
              rw [look_app, look_filter (fun k => decide (st.nx ≤ k) && decide (k < st1.nx)), if_neg (by simp; omega)]
            · cases he
          · cases he
      | ro =>
        have : st' = st := by
          simp only [callF] at he
          split at he
          · cases he
          · split at he
            · split at he
              · split at he
                · cases he; rfl
                · cases he
              · cases he
            · split at he
              · split at he
                · cases he; rfl
                · cases he
              · cases he
        subst this
        refine ⟨fun _ _ => rfl, ?_⟩
        simp only [fpO, hf]
        split <;> rfl
    · split at he
      · rename_i hm
        subst hm
        exact ⟨fun i hi => by simp [fpO, wr] at hi, rfl⟩
      · cases he
    · cases he

theorem evIns_frame (hr : RecOk rec) {i : Ins} {st st1 : St} (he : evIns rec X i st = some st1) : (∀ j, wr (fpI X i st st1) j = false → look st1.heap j = look st.heap j) ∧ ovl (fpI X i st st1) st1 (look st.loops) = look st1.loops := by
  unfold evIns at he
  split at he
  · rename_i hgu
    split at he
    · rename_i v st1' hop
      cases he
      have := evOp_frame hr hop
      have hfp : fpI X i st (putE st1' i.dst v) = fpO (argV X st.env) st.nx st1'.nx i.op := by
        unfold fpI
        rw [hgu, putE_nx.1]
      rw [hfp]
      refine ⟨fun j hj => by rw [putE_nx.2.2.1]; exact this.1 j hj, ?_⟩
      rw [putE_nx.2.2.2, ← this.2]
      cases fpO (argV X st.env) st.nx st1'.nx i.op <;> simp only [ovl, putE_nx.2.2.2]
    · cases he
  · rename_i hgu
    cases he
    refine ⟨fun j _ => by rw [putE_nx.2.2.1], ?_⟩
    have hfp : fpI X i st (putE st i.dst (.tup [])) = .rd [] [] st.nx st.nx := by
      unfold fpI
      rw [hgu, putE_nx.1]
    rw [hfp]
    simp only [ovl, putE_nx.2.2.2]
  · cases he

theorem ovr_frame {fp : FP} {st st1 : St} (hf : ∀ j, wr fp j = false → look st1.heap j = look st.heap j) : ovr fp st1 (look st.heap) = look st1.heap := by
  funext j
  simp only [ovr]
  split
  · rfl
  · rename_i hw
    exact (hf j (by simpa using hw)).symm

theorem agree_seq {st st1 : St} (s : SimS P eqTs X bs st K) (fp : FP) : Agree fp st st1 (look st.heap) (look st.loops) K := by
  cases fp with
  | rd r w lo hi =>
    refine ⟨fun _ _ => rfl, fun i h1 _ => ⟨fun hd => by have := s.fresh i hd; omega, ?_⟩⟩
    cases hh : look st.heap i with
    | none => rfl
    | some cs =>
      have := s.fresh i (s.f.hp i cs hh).1
      omega
  | ro => exact ⟨rfl, s.fresh⟩
  | all => exact ⟨rfl, rfl, s.fresh⟩

theorem ops_sound (H : Known P eqTs X rec) {rd : Option Nat} {d0 N : Nat} {ops : Array Oper} {Q : Exit → Act → World → Prop} : ∀ {os : List Oper} {is : List Ins} {st st' : St} {K : KK} {a : Act}, chkOps P eqTs N ops os is = true → evOps rec X is st = some st' → SimA P eqTs X bs rd d0 N st K a →
    (∀ a' K', SimA P eqTs X bs rd d0 N st' K' a' → Ext K K' → Grow K K' st.nx st'.nx → Q .normal a' K'.W) → wpListIn (Frd rd) 0 P ops Q os a K.W
  | [], [], st, st', K, a, _, he, hA, hk => by
    cases he
    exact hk a K hA (Ext.refl K) fun i hi => .inl hi
  | o :: os, i :: is, st, st', K, a, hc, he, hA, hk => by
    simp only [chkOps, Bool.and_eq_true] at hc
    simp only [evOps] at he
    split at he
    · rename_i st1 h1
      have hf := evIns_frame H.ok h1
      have hn := evIns_ok H.ok h1
      have hn2 := evOps_ok H.ok he
      have := ins_sound H (rd := rd) (next := wpListIn (Frd rd) 0 P ops Q os) (Q := Q) hc.1 h1 hA.env hA.sz (agree_seq hA.s _) hA.s.f hA.s.wb hA.s.glob fun val K' e1 e2 e3 e4 e5 e6 => by
        rw [ovr_frame hf.1, hf.2] at e4
        obtain ⟨D, q1, q2, q3⟩ := hA.df
        have hA1 : SimA P eqTs X bs rd d0 N st1 K' (a.put i.dst val) := ⟨⟨e4, hA.s.wb.trans hn.2.symm, fun j hj => by
          rcases e6 j hj with hh | hh
          · have := hA.s.fresh j hh; have := hn.1; omega
          · exact hh.2, hA.s.glob.ext e5⟩, e1, by rw [e2]; exact hA.sz, ⟨D, by rw [e3]; exact q1, q2, fun b hb => ⟨(q3 b hb).1, e5.defd b (q3 b hb).2⟩⟩, Nat.le_trans hA.d0 e5.size, fun l hl => by
          obtain ⟨r, hr⟩ := hA.rd l hl
          exact e5.lps l r hr⟩
        exact ops_sound H hc.2 he hA1 fun a' K2 hA2 x2 g2 => hk a' K2 hA2 (e5.trans x2) (e6.trans g2 hn.1 hn2.1)
      exact this
    · cases he
  | [], _ :: _, _, _, _, _, hc, _, _, _ => by simp [chkOps] at hc
  | _ :: _, [], _, _, _, _, hc, _, _, _ => by simp [chkOps] at hc
end
end Go.Proofs.YtfmbdcmjgnikiaaGreatDoor.Sm
namespace Go.Proofs.YtfmbdcmjgnikiaaGreatDoor.Sm
open Go Go.RowKit

section
variable {P : Program} {eqTs : List (Nat × Nat)} {X : Cx} {bs : Bs} {h : HL} {ls : Nat → Option LRec} {K : KK} {rec : Rec}

def resSem (tmps : Array Value) : ResultVar → Sem Value := fun
  | .tmp t => pure (tmps.getD t Go.undef)
  | .cell a t => do loadVar t (← asAddr (tmps.getD a Go.undef))

theorem res1_run {tmps : Array Value} {env : Env} {heap : Heap} (he : EnvR K env tmps) (hh : ∀ id cs, look heap id = some cs → HO K id cs) {r : ResultVar} {m : MRes} {v : SV} (hc : resOk P [r] [m] = true) (hv : res1 env heap m = some v) : ∃ u, (resSem tmps r).run P K.W = .ok u K.W ∧ RV K u v := by
  cases r with
  | tmp t =>
    cases m with
    | t n =>
      simp only [resOk, Bool.and_eq_true, beq_iff_eq] at hc
      obtain ⟨rfl, _⟩ := hc
      simp only [res1, Option.some.injEq] at hv
      subst hv
      exact ⟨_, rfl, he t⟩
    | cell n sz ag => simp [resOk] at hc
  | cell a t =>
    cases m with
    | t n => simp [resOk] at hc
    | cell n sz ag =>
      simp only [resOk, Bool.and_eq_true, beq_iff_eq] at hc
      obtain ⟨⟨rfl, hm⟩, _⟩ := hc
      simp only [res1] at hv
      split at hv
      · rename_i id off hp
        split at hv
        · rename_i cs hcs
          have h1 := he a
          rw [hp] at h1
          obtain ⟨hpv, hd⟩ := inv_ptr h1
          obtain ⟨val, g1, g2⟩ := loadAt_run (P := P) (hh id cs hcs).cell hm hv
          refine ⟨val, ?_, g2⟩
          simp only [resSem, hpv, asAddr, Sem.run_bind, Sem.run_pure, Result.andThen_ok]
          simpa [Instr.loadAt, Instr.sureAddr, Sem.run_bind] using g1
        · cases hv
      · cases hv

theorem resL_run {tmps : Array Value} {env : Env} {heap : Heap} (he : EnvR K env tmps) (hh : ∀ id cs, look heap id = some cs → HO K id cs) : ∀ {rs : List ResultVar} {ms : List MRes} {vs : List SV}, resOk P rs ms = true → resL env heap ms = some vs →
    ∃ us, (rs.mapM (resSem tmps)).run P K.W = .ok us K.W ∧ us.length = vs.length ∧ ∀ (i : Nat) (v : SV), vs[i]? = some v → ∃ u, us[i]? = some u ∧ RV K u v
  | [], [], vs, _, hv => by
    cases hv
    exact ⟨[], rfl, rfl, by simp⟩
  | r :: rs, m :: ms, vs, hc, hv => by
    have h1 : resOk P [r] [m] = true := by
      cases r <;> cases m <;> simp_all [resOk]
    have h2 : resOk P rs ms = true := by
      cases r <;> cases m <;> simp_all [resOk]
    simp only [resL] at hv
    split at hv
    · rename_i v hv1
      split at hv
      · rename_i vs' hv2
        cases hv
        obtain ⟨u, g1, g2⟩ := res1_run he hh h1 hv1
        obtain ⟨us, g3, g4, g5⟩ := resL_run he hh h2 hv2
        refine ⟨u :: us, ?_, by simp [g4], fun i w hw => ?_⟩
        · simp only [List.mapM_cons, Sem.run_bind, g1, g3, Result.andThen_ok, Sem.run_pure]
        · cases i with
          | zero =>
            simp only [List.getElem?_cons_zero, Option.some.injEq] at hw
            subst hw
            exact ⟨u, by simp, g2⟩
          | succ n =>
            simp only [List.getElem?_cons_succ] at hw ⊢
            exact g5 n w hw
      · cases hv
    · cases hv
  | [], _ :: _, _, hc, _ => by simp [resOk] at hc
  | r :: _, [], _, hc, _ => by cases r <;> simp [resOk] at hc

theorem results_run {fn : Func} {tmps : Array Value} {env : Env} {heap : Heap} (he : EnvR K env tmps) (hh : ∀ id cs, look heap id = some cs → HO K id cs) {ms : List MRes} {v : SV} (hc : resOk P fn.results.toList ms = true) (hv : resOf env heap ms = some v) :
    ∃ u, (results fn tmps).run P K.W = .ok u K.W ∧ RV K u v := by
  unfold resOf at hv
  have key : ∀ vs, resL env heap ms = some vs → ∃ us : Array Value, (fn.results.mapM (resSem tmps)).run P K.W = .ok us K.W ∧ CR K us vs := fun vs hvs => by
    obtain ⟨us, g1, g2, g3⟩ := resL_run he hh hc hvs
    refine ⟨us.toArray, ?_, CR.of (by simpa using g2) fun i y hy => by simpa using g3 i y hy⟩
    rw [Array.mapM_eq_mapM_toList]
    simp [g1]
  have run : ∀ us : Array Value, (fn.results.mapM (resSem tmps)).run P K.W = .ok us K.W → (results fn tmps).run P K.W = .ok (if h : us.size = 1 then us[0] else .tuple us) K.W := fun us hus => by
    have e : results fn tmps = (do
      let vs ← fn.results.mapM (resSem tmps)
      pure (if h : vs.size = 1 then vs[0] else .tuple vs)) := rfl
    rw [e, Sem.run_bind, hus]
    rfl
  split at hv
  · rename_i w hw
    cases hv
    obtain ⟨us, g1, g2, g3⟩ := key [v] hw
    have hs : us.size = 1 := g2
    refine ⟨_, run us g1, ?_⟩
    rw [dif_pos hs]
    have := g3 0 v (by simp)
    rw [getD_of (v := us[0]) (by simp [hs])] at this
    exact this
  · rename_i vs hne hw
    cases hv
    obtain ⟨us, g1, g2, g3⟩ := key vs hw
    have hs : ¬ us.size = 1 := fun e => by
      rw [g2] at e
      match vs, e, hne with
      | [x], _, hne => exact hne x rfl
    refine ⟨_, run us g1, ?_⟩
    rw [dif_neg hs]
    exact .tup us vs g2 g3
  · cases hv

theorem Ext.shut {K0 : KK} (e : Ext K0 K) {b : Nat} (hb : K.W.heap[b]? = some (.deferred (some []))) (hge : K0.W.heap.size ≤ b) : Ext K0 (K.obj b (.deferred none)) := by
  refine ⟨fun v y hv => (e.rv v y hv).obj hb (by simp), by simpa [KK.obj] using e.size, fun k hk => ?_, fun k r hk => ?_⟩
  · have hlt : k < K0.W.heap.size := (Array.getElem?_eq_some_iff.1 hk).1
    show (K.W.putObj b _).heap[k]? = _
    rw [World.putObj_heap_other (by omega)]
    exact e.defd k hk
  · have hlt : k < K0.W.heap.size := (Array.getElem?_eq_some_iff.1 hk).1
    obtain ⟨r', hr'⟩ := e.lps k r hk
    refine ⟨r', ?_⟩
    show (K.W.putObj b _).heap[k]? = _
    rw [World.putObj_heap_other (by omega)]
    exact hr'

theorem leave_sound {fn : Func} {ms : List MRes} (hc : resOk P fn.results.toList ms = true) {K0 : KK} {st1 : St} {v : SV} (hv : resOf st1.env st1.heap ms = some v) {tmps : Array Value} {lo : Nat} : ∀ (D : List Nat) {K : KK}, SimS P eqTs X bs st1 K → EnvR K st1.env tmps → D.Nodup → (∀ b ∈ D, K0.W.heap.size ≤ b ∧ bs.B ≤ b ∧ K.W.heap[b]? = some (.deferred (some []))) → Ext K0 K → Grow K0 K lo st1.nx →
    LeavesInM Fence.wide 0 P fn tmps (fun e w' => ∃ val K', e = .returned val ∧ w' = K'.W ∧ RV K' val v ∧ SimS P eqTs X bs st1 K' ∧ Ext K0 K' ∧ Grow K0 K' lo st1.nx) (D.map mark) .returning K.W
  | [], K, s, he, _, _, x, g => by
    obtain ⟨u, h1, h2⟩ := results_run (P := P) (fn := fn) he s.f.hp hc hv
    exact ⟨u, h1, u, K, rfl, rfl, h2, s, x, g⟩
  | b :: D, K, s, he, hn, hD, x, g => by
    obtain ⟨h1, h2, h3⟩ := hD b List.mem_cons_self
    have hn' := List.nodup_cons.1 hn
    refine ⟨by simp, .inl ⟨b, (K.obj b (.deferred none)).W, rfl, run_takeDeferred h3, ?_⟩⟩
    refine leave_sound hc hv D (K := K.obj b (.deferred none)) ⟨s.f.obj h3 (by simp) h2 fun l r hl e => ?_, s.wb, s.fresh, fun i => (s.glob i).obj h3 (by simp)⟩ (fun t => (he t).obj h3 (by simp)) hn'.2 (fun b' hb' => ?_) (x.shut h3 h1) g
    · obtain ⟨_, L, hL, _⟩ := s.f.lp l r hl
      rw [e, h3] at hL
      cases hL
    · obtain ⟨k1, k2, k3⟩ := hD b' (List.mem_cons_of_mem _ hb')
      refine ⟨k1, k2, ?_⟩
      have hne : b' ≠ b := fun e => hn'.1 (e ▸ hb')
      show (K.W.putObj b _).heap[b']? = _
      rw [World.putObj_heap_other hne]
      exact k3

theorem fn_sound (C : CodeOK P eqTs X rec) (hX : ∀ f mf, X.fns f = some mf → ∃ fn, P.funcs[f]? = some fn ∧ chkF P eqTs fn mf = true) : FnOK P eqTs X rec := by
  intro f mf args vs bs st K r st1 hf hrun henv hc s
  obtain ⟨fn, hfn, hch⟩ := hX f mf hf
  obtain ⟨c, hb, hcc, hres, _⟩ := chkF_body hch
  have main : ∀ x st2, rec mf.code st = some (x, st2) → (∀ i, x ≠ .exit i) → resOf st2.env st2.heap mf.res = some r → st2 = st1 →
      CallsIn Fence.wide 0 P f vs K.W fun e w' => ∃ val K', e = .returned val ∧ w' = K'.W ∧ RV K' val r ∧ SimS P eqTs X bs st1 K' ∧ Ext K K' ∧ Grow K K' st.nx st1.nx := fun x st2 h1 hne h2 e => by
    subst e
    refine callsIn_of_wp_marks hfn hb trivial ?_
    refine C none K.W.heap.size fn.ntmps mf.code st x st2 c bs K _ _ h1 hcc ⟨s, by rw [henv]; exact EnvR.start hc fn.ntmps, by simp; omega, ⟨[], rfl, List.nodup_nil, by simp⟩, Nat.le_refl _, fun l hl => by cases hl⟩ fun a' K' hA x1 g1 => ?_
    obtain ⟨D, q1, q2, q3⟩ := hA.df
    have hl := leave_sound (fn := fn) (tmps := a'.tmps) (K0 := K) hres h2 D hA.s hA.env q2 (fun b hb => ⟨(q3 b hb).1, Nat.le_trans s.f.size (q3 b hb).1, (q3 b hb).2⟩) x1 g1
    rw [← q1] at hl
    cases x with
    | norm => exact hl
    | ret => exact hl
    | exit i => exact absurd rfl (hne i)
  unfold runF at hrun
  split at hrun
  · cases hrun
  · rename_i x st2 hne h1
    split at hrun
    · rename_i v hv
      cases hrun
      exact main _ _ h1 (fun i e => hne i e) hv rfl
    · cases hrun
  · cases hrun
end
end Go.Proofs.YtfmbdcmjgnikiaaGreatDoor.Sm
namespace Go.Proofs.YtfmbdcmjgnikiaaGreatDoor.Sm
open Go Go.RowKit

/-! ### what waits for what -/
def rowT (T : List Nat) (ops : Array Oper) (j : Nat) : Nat := (direct ops j).foldl (fun s m => s ||| 2 ^ m ||| T.getD m 0) 0
def tabK (ops : Array Oper) (k : Nat) : List Nat := (List.range k).foldl (fun T j => T ++ [rowT T ops j]) []
theorem table_eq (ops : Array Oper) : table ops = tabK ops ops.size := rfl
theorem tabK_succ (ops : Array Oper) (k : Nat) : tabK ops (k + 1) = tabK ops k ++ [rowT (tabK ops k) ops k] := by
  simp [tabK, List.range_succ]
theorem tabK_len (ops : Array Oper) : ∀ k, (tabK ops k).length = k
  | 0 => rfl
  | k + 1 => by rw [tabK_succ, List.length_append, tabK_len ops k]; rfl
theorem tabK_get (ops : Array Oper) : ∀ k p, p < k → (tabK ops k).getD p 0 = rowT (tabK ops p) ops p
  | 0, p, h => by omega
  | k + 1, p, h => by
    rw [tabK_succ, List.getD_eq_getElem?_getD]
    by_cases hp : p < k
    · rw [List.getElem?_append_left (by rw [tabK_len]; exact hp), ← List.getD_eq_getElem?_getD]
      exact tabK_get ops k p hp
    · obtain rfl : p = k := by omega
      rw [List.getElem?_append_right (by rw [tabK_len]; exact Nat.le_refl _), tabK_len]
      simp
theorem fold_bit (g : Nat → Nat) : ∀ (l : List Nat) (z q : Nat), (l.foldl (fun s m => s ||| 2 ^ m ||| g m) z).testBit q = true → z.testBit q = true ∨ ∃ m ∈ l, q = m ∨ (g m).testBit q = true
  | [], z, q, h => .inl h
  | m :: l, z, q, h => by
    rw [List.foldl_cons] at h
    rcases fold_bit g l _ q h with h1 | ⟨k, hk, h1⟩
    · rw [Nat.testBit_or, Nat.testBit_or, Nat.testBit_two_pow] at h1
      simp only [Bool.or_eq_true, decide_eq_true_eq] at h1
      rcases h1 with (h1 | h1) | h1
      · exact .inl h1
      · exact .inr ⟨m, List.mem_cons_self, .inl h1.symm⟩
      · exact .inr ⟨m, List.mem_cons_self, .inr h1⟩
    · exact .inr ⟨k, List.mem_cons_of_mem _ hk, h1⟩
theorem table_closed {ops : Array Oper} (hd : ∀ p, p < ops.size → ∀ m ∈ direct ops p, m < p) {S : Nat → Prop} (hS : ∀ p, p < ops.size → S p → ∀ m ∈ direct ops p, S m) : ∀ (p : Nat), p < ops.size → (∀ m ∈ direct ops p, S m) → ∀ q, ((table ops).getD p 0).testBit q = true → S q := by
  intro p
  induction p using Nat.strongRecOn with
  | _ p ih =>
    intro hp hdir q hq
    rw [table_eq, tabK_get ops _ p hp] at hq
    rcases fold_bit _ _ _ q hq with h | ⟨m, hm, h⟩
    · simp at h
    · rcases h with rfl | h
      · exact hdir _ hm
      · have hmp := hd p hp m hm
        have e : (tabK ops p).getD m 0 = (table ops).getD m 0 := by
          rw [table_eq, tabK_get ops p m hmp, tabK_get ops _ m (by omega)]
        rw [e] at h
        exact ih m hmp (by omega) (hS m (by omega) (hdir m hm)) q h

/-! ### the states in order -/
theorem draw_trace {rec : Rec} {X : Cx} : ∀ {is : List Ins} {st stn : St} {fs : List FP}, evDraw rec X is st = some (stn, fs) → ∃ s : Nat → St, s 0 = st ∧ s is.length = stn ∧ fs.length = is.length ∧
    ∀ p i, is[p]? = some i → evIns rec X i (s p) = some (s (p + 1)) ∧ unused (s p).heap (s p).nx (s (p + 1)).nx = true ∧ fs[p]? = some (fpI X i (s p) (s (p + 1)))
  | [], st, stn, fs, he => by
    cases he
    exact ⟨fun _ => st, rfl, rfl, rfl, fun p i h => by simp at h⟩
  | i :: is, st, stn, fs, he => by
    simp only [evDraw] at he
    split at he
    · rename_i st1 h1
      split at he
      · rename_i hu
        split at he
        · rename_i st2 fs2 h2
          cases he
          obtain ⟨s, e0, en, el, hs⟩ := draw_trace h2
          refine ⟨fun p => match p with | 0 => st | p + 1 => s p, rfl, en, by simp [el], fun p j hj => ?_⟩
          cases p with
          | zero =>
            simp only [List.getElem?_cons_zero, Option.some.injEq] at hj
            subst hj
            simp only [e0]
            exact ⟨h1, hu, rfl⟩
          | succ p =>
            simp only [List.getElem?_cons_succ] at hj ⊢
            exact hs p j hj
        · cases he
      · cases he
    · cases he

theorem unused_get {h : Heap} {lo hi : Nat} (hu : unused h lo hi = true) {i : Nat} (h1 : lo ≤ i) (h2 : i < hi) : look h i = none := by
  have := List.all_eq_true.1 hu i (by rw [List.mem_range'_1]; omega)
  simpa using this

/-! ### either order -/
def touch : FP → Nat → Prop
  | .rd r w lo hi, i => i ∈ r ∨ i ∈ w ∨ (lo ≤ i ∧ i < hi)
  | _, _ => True
theorem disj_iff {a b : List Nat} : disj a b = true ↔ ∀ i ∈ a, i ∉ b := by
  simp [disj]
theorem offR_iff {lo hi : Nat} {a : List Nat} : offR lo hi a = true ↔ ∀ i ∈ a, ¬ (lo ≤ i ∧ i < hi) := by
  simp only [offR, List.all_eq_true, Bool.not_eq_true', Bool.and_eq_false_iff, decide_eq_false_iff_not]
  constructor <;> intro h x hx <;> have := h x hx <;> omega
theorem wr_rd {r w : List Nat} {lo hi i : Nat} : wr (.rd r w lo hi) i = false ↔ i ∉ w ∧ ¬ (lo ≤ i ∧ i < hi) := by
  simp [wr]
theorem compat_wr {a b : FP} (hc : compat a b = true) (i : Nat) : (touch a i → wr b i = false) ∧ (touch b i → wr a i = false) := by
  cases a with
  | rd r w lo hi =>
    cases b with
    | rd r' w' lo' hi' =>
      simp only [compat, Bool.and_eq_true, disj_iff, offR_iff, List.mem_append, Bool.or_eq_true, decide_eq_true_eq] at hc
      obtain ⟨⟨⟨⟨h1, h2⟩, h3⟩, h4⟩, h5⟩ := hc
      simp only [touch, wr_rd]
      refine ⟨fun ht => ⟨fun hw => ?_, fun hl => ?_⟩, fun ht => ⟨fun hw => ?_, fun hl => ?_⟩⟩
      · rcases ht with ht | ht | ht
        · exact h2 i hw ht
        · exact h1 i ht (.inr hw)
        · exact h3 i (.inr hw) ht
      · rcases ht with ht | ht | ht
        · exact h4 i (.inl ht) hl
        · exact h4 i (.inr ht) hl
        · omega
      · rcases ht with ht | ht | ht
        · exact h1 i hw (.inl ht)
        · exact h1 i hw (.inr ht)
        · exact h4 i (.inr hw) ht
      · rcases ht with ht | ht | ht
        · exact h3 i (.inl ht) hl
        · exact h3 i (.inr ht) hl
        · omega
    | ro =>
      simp only [compat, Bool.and_eq_true, List.isEmpty_iff, decide_eq_true_eq] at hc
      obtain ⟨rfl, h1⟩ := hc
      exact ⟨fun _ => rfl, fun _ => wr_rd.2 ⟨by simp, by omega⟩⟩
    | all =>
      simp only [compat, Bool.and_eq_true, List.isEmpty_iff, decide_eq_true_eq] at hc
      obtain ⟨⟨rfl, rfl⟩, h1⟩ := hc
      refine ⟨fun ht => ?_, fun _ => wr_rd.2 ⟨by simp, by omega⟩⟩
      rcases ht with ht | ht | ht
      · cases ht
      · cases ht
      · omega
  | ro =>
    cases b with
    | rd r' w' lo' hi' =>
      simp only [compat, Bool.and_eq_true, List.isEmpty_iff, decide_eq_true_eq] at hc
      obtain ⟨rfl, h1⟩ := hc
      exact ⟨fun _ => wr_rd.2 ⟨by simp, by omega⟩, fun _ => rfl⟩
    | ro => exact ⟨fun _ => rfl, fun _ => rfl⟩
    | all => cases hc
  | all =>
    cases b with
    | rd r' w' lo' hi' =>
      simp only [compat, Bool.and_eq_true, List.isEmpty_iff, decide_eq_true_eq] at hc
      obtain ⟨⟨rfl, rfl⟩, h1⟩ := hc
      refine ⟨fun _ => wr_rd.2 ⟨by simp, by omega⟩, fun ht => ?_⟩
      rcases ht with ht | ht | ht
      · cases ht
      · cases ht
      · omega
    | ro => cases hc
    | all => cases hc

theorem quiet_fp {rec : Rec} {X : Cx} {i : Ins} {st st1 : St} (hq : quiet i.op = true) (he : evIns rec X i st = some st1) : fpI X i st st1 = .rd [] [] st.nx st.nx ∧ st1.nx = st.nx := by
  unfold evIns at he
  split at he
  · rename_i hgu
    split at he
    · rename_i v st1' hop
      cases he
      have key : rdR (argV X st.env) (match i.op with | .r o => o | _ => .lenA 0) = [] ∧ st1'.nx = st.nx ∧ ∃ o, i.op = .r o := by
        cases hio : i.op with
        | w o => rw [hio] at hq; simp [quiet] at hq
        | call m f as => rw [hio] at hq; simp [quiet] at hq
        | r o =>
          rw [hio] at hq hop
          simp only [evOp] at hop
          split at hop
          · cases hop
            refine ⟨?_, rfl, o, rfl⟩
            cases o <;> simp_all [quiet, rdR]
          · rename_i v' cs hev
            exfalso
            cases o <;> simp only [quiet, Bool.false_eq_true] at hq <;> simp only [evR] at hev <;> (repeat' split at hev) <;> simp_all
          · cases hop
      obtain ⟨h1, h2, o, ho⟩ := key
      rw [ho] at h1
      unfold fpI
      rw [hgu, putE_nx.1, ho, h2]
      refine ⟨?_, by first | rfl | exact h2 | exact putE_nx.1.trans h2⟩
      simp only [fpO]
      simp only at h1
      rw [h1]
    · cases he
  · rename_i hgu
    cases he
    unfold fpI
    rw [hgu, putE_nx.1]
    exact ⟨rfl, rfl⟩
  · cases he
end Go.Proofs.YtfmbdcmjgnikiaaGreatDoor.Sm
namespace Go.Proofs.YtfmbdcmjgnikiaaGreatDoor.Sm
open Go Go.RowKit

section
variable {P : Program} {eqTs : List (Nat × Nat)} {X : Cx} {bs : Bs} {h : HL} {ls : Nat → Option LRec} {K : KK} {rec : Rec}

theorem getE_trim : ∀ (live : List Nat) (env : Env) (t : Nat), getE (live.map fun t => (t, getE env t)) t = if t ∈ live then getE env t else .undef
  | [], env, t => by simp [getE]
  | k :: live, env, t => by
    rw [List.map_cons, getE, getE_trim live env t]
    by_cases hk : k = t
    · subst hk; simp
    · rw [if_neg hk]
      have : (t ∈ k :: live) ↔ t ∈ live := by
        simp only [List.mem_cons]
        exact ⟨fun h => h.resolve_left fun e => hk e.symm, .inr⟩
      simp only [this]

/-- The machine runs a loop as the interpreter does, in so many rounds. -/
def LoopOK (P : Program) (eqTs : List (Nat × Nat)) (X : Cx) (rec : Rec) (m : Nat) : Prop := ∀ (rd : Option Nat) (d0 N : Nat) (b : MCode) (st : St) (x : Ex) (st' : St) (code : Code) (bs : Bs) (K : KK) (a : Act) (Q : Exit → Act → World → Prop),
  rec (.loop b) st = some (x, st') → chkC P eqTs N b code = true → SimA P eqTs X bs rd d0 N st K a →
  (∀ a' K', SimA P eqTs X bs rd d0 N st' K' a' → Ext K K' → Grow K K' st.nx st'.nx → Q (exOf x) a' K'.W) → Code.roundsIn (Frd rd) 0 P code Q m a K.W

theorem exOf_ne {x : Ex} (h : x ≠ .norm) (K : Act → World → Prop) (Q : Exit → Act → World → Prop) : Exit.then K Q (exOf x) = Q (exOf x) := by
  cases x with
  | norm => exact absurd rfl h
  | _ => rfl

theorem range_sound (H : Known P eqTs X rec) {rd : Option Nat} {d0 N : Nat} {f : Arg} {ps : List Nat} {assign body : MCode} {st : St} {x : Ex} {st' : St} {g : Operand} {qs : Array Tmp} {cA cB : Code} {a : Act} {Q : Exit → Act → World → Prop}
    (he : step rec X (.range f ps assign body) st = some (x, st')) (hg : od g f = true) (hps : qs.toList = ps) (hpN : ∀ p ∈ ps, p < N) (hcA : chkC P eqTs N assign cA = true) (hcB : chkC P eqTs N body cB = true) (hA : SimA P eqTs X bs rd d0 N st K a)
    (hk : ∀ a' K', SimA P eqTs X bs rd d0 N st' K' a' → Ext K K' → Grow K K' st.nx st'.nx → Q (exOf x) a' K'.W) : (Code.rangeFunc g qs cA cB).wpIn (Frd rd) 0 P Q a K.W := by
  simp only [step] at he
  split at he
  · rename_i gi pre caps hf
    split at he
    · rename_i v st1 hcall
      split at he
      · rename_i r3v hr3
        split at he
        · cases he
        · rename_i hst3
          cases he
          have hn1 := callF_ok H.ok hcall
          have hndom : ¬ K.dom st.nx := fun hd => by have := hA.s.fresh _ hd; omega
          obtain ⟨mf, hmf⟩ := callF_fn hcall
          obtain ⟨fn, hfn, hch⟩ := H.X gi mf hmf
          obtain ⟨bodyc, hb, _, _, hnm⟩ := chkF_body hch
          -- the state behind the entry
          have enter : ∀ (KA : KK) (L : Loop) (DM : List Nat) (fnid : FuncId), SimF P eqTs bs (look st.heap) (look st.loops) KA → Ext K KA → KA.dom = K.dom → KA.β = K.β → (∀ b ∈ DM, d0 ≤ b ∧ KA.W.heap[b]? = some (.deferred (some [])) ∧ K.W.heap.size ≤ b) → DM.Nodup →
              L.tmps = a.tmps → L.params = qs → L.assign = cA → L.body = cB → L.state = .ready → L.pending = none →
              ∃ K1, K1.W = KA.W.alloc (.loop L) ∧ RV K1 (.func (.yield KA.W.heap.size) #[] #[]) (.yld st.nx) ∧ Ext K K1 ∧ (∀ b ∈ DM, K1.W.heap[b]? = some (.deferred (some []))) ∧ (∀ i, K1.dom i → K.dom i ∨ i = st.nx) ∧ K1.dom st.nx ∧ (K1.β st.nx).1 = KA.W.heap.size ∧
                SimF P eqTs bs (look st.heap) (look ((st.nx, { env := st.env, ps, assign, body, st := 0, pend := .norm }) :: st.loops)) K1 := fun KA L DM fnid sA xA dA bA hDM hnd k1 k2 k3 k4 k5 k6 => by
            have hw := WS.alloc KA.W (.loop L) none2
            have sB := sA.ws hw
            have xB := Ext.ws (K := KA) hw
            obtain ⟨sC, xC⟩ := sB.name (nx := st.nx) (by rw [show ({ KA with W := KA.W.alloc (.loop L) } : KK).dom = K.dom from dA]; exact hndom) (KA.W.heap.size, 0)
            have hβn : (KK.name { KA with W := KA.W.alloc (.loop L) } st.nx (KA.W.heap.size, 0)).β st.nx = (KA.W.heap.size, 0) := name_β
            have hnewL : (KK.name { KA with W := KA.W.alloc (.loop L) } st.nx (KA.W.heap.size, 0)).W.heap[KA.W.heap.size]? = some (.loop L) := heap_new KA.W _
            have sD := sC.putL (l := st.nx) (r := { env := st.env, ps, assign, body, st := 0, pend := .norm }) ⟨.inr rfl, L, by rw [hβn]; exact hnewL, by rw [k2]; exact hps, ⟨N, by rw [k1]; exact hA.sz, hpN, by rw [k3]; exact hcA, by rw [k4]; exact hcB⟩, fun t => by rw [k1]; exact xC.rv _ _ (xB.rv _ _ (xA.rv _ _ (hA.env t))), k5, k6⟩ (fun j rj hj hne => by
              obtain ⟨hdj, Lj, hLj, _⟩ := sA.lp j rj hj
              have e1 := name_ne (K := { KA with W := KA.W.alloc (.loop L) }) (b := (KA.W.heap.size, 0)) (nx := st.nx) (by rw [show ({ KA with W := KA.W.alloc (.loop L) } : KK).dom = K.dom from dA]; exact hndom) hdj
              rw [hβn, e1]
              have := (Array.getElem?_eq_some_iff.1 hLj).1
              simp only
              omega) (by rw [hβn]; exact sA.size)
            refine ⟨_, rfl, ?_, xA.trans (xB.trans xC), fun b hb => hw.obj b _ (hDM b hb).2.1 (by simp), fun i hi => ?_, .inr rfl, by rw [hβn], ?_⟩
            · have := RV.yld (K := KK.name { KA with W := KA.W.alloc (.loop L) } st.nx (KA.W.heap.size, 0)) st.nx (.inr rfl)
              rw [hβn] at this
              exact this
            · rcases hi with hi | hi
              · have hi' : KA.dom i := hi
                rw [dA] at hi'
                exact .inl hi'
              · exact .inr hi
            · have e : (fun j => if j = st.nx then some ({ env := st.env, ps, assign, body, st := 0, pend := .norm } : LRec) else look st.loops j) = look ((st.nx, { env := st.env, ps, assign, body, st := 0, pend := .norm }) :: st.loops) := by
                funext j
                rw [look_cons]
                by_cases hj : j = st.nx
                · subst hj; simp
                · rw [if_neg hj, if_neg fun e => hj e.symm]
              rw [e] at sD
              exact sD
          -- from there on
          have rest : ∀ (K1 : KK) (l : Nat) (w1 : World) (DM : List Nat), K1.W = w1 → RV K1 (.func (.yield l) #[] #[]) (.yld st.nx) → Ext K K1 → DM.Nodup → (∀ b ∈ DM, d0 ≤ b ∧ K.W.heap.size ≤ b) → (∀ b ∈ DM, K1.W.heap[b]? = some (.deferred (some []))) → (∀ i, K1.dom i → K.dom i ∨ i = st.nx) → K1.dom st.nx → (K1.β st.nx).1 = l →
              SimF P eqTs bs (look st.heap) (look ((st.nx, { env := st.env, ps, assign, body, st := 0, pend := .norm }) :: st.loops)) K1 →
              ∃ (d : Deferred) (w₁' : World) (f : FuncId) (args : Array Value) (w₂ : World),
                (resolve a.eval (rangeCall g l) 0).run P w1 = .ok d w₁' ∧ (∀ f', Target.leads P w₁' d.target d.args = some f' → (Frd rd).fn f') ∧ (invoke d.target d.args).run P w₁' = .ok (.enter f args) w₂ ∧ ((Frd rd).depth.isSome = true → 1 ≤ 0) ∧
                CallsIn (Frd rd) (0 - 1) P f args w₂ (rangePost (Frd rd) 0 P l Q { a with defers := DM.map mark ++ a.defers }) := fun K1 l w1 DM e1 hyl x1 hnd hDM hDMw hdom hdn hβ s1 => by
            subst e1
            subst hβ
            have hgv := x1.rv _ _ (od_rv hA.env hA.s.glob g f hg)
            rw [hf] at hgv
            obtain ⟨vp, vc, hgv2, c1, c2⟩ := inv_fn hgv
            have hn' : (fn.name == "runtime.NumGoroutine") = false := by simpa [bne] using hnm
            have hb' : fn.body.isNone = false := by rw [hb]; rfl
            have hcr : CR K1 (vp ++ #[.func (.yield (K1.β st.nx).1) #[] #[]] ++ vc) (pre ++ [.yld st.nx] ++ caps) := (c1.app ⟨rfl, fun i y hy => by
              cases i with
              | zero => simp at hy; subst hy; exact hyl
              | succ n => simp at hy⟩).app c2
            have hcs := callF_sound H.F H.ok hcall hcr (h := look st.heap) (ls := look ((st.nx, { env := st.env, ps, assign, body, st := 0, pend := .norm }) :: st.loops)) ⟨rfl, rfl, fun i hi => by
              rcases hdom i hi with hh | hh
              · have := hA.s.fresh i hh; simp only; omega
              · simp only; omega⟩ s1 hA.s.wb (hA.s.glob.ext x1)
            refine ⟨{ target := .fn (.func gi) vc, args := vp ++ #[.func (.yield (K1.β st.nx).1) #[] #[]] }, K1.W, gi, vp ++ #[.func (.yield (K1.β st.nx).1) #[] #[]] ++ vc, K1.W, ?_, fun _ _ => trivial, ?_, fun hh => (by cases hh), ?_⟩
            · have ec : (#[Operand.const (.func (.yield (K1.β st.nx).1) #[] #[])] : Array Operand).map a.eval = #[.func (.yield (K1.β st.nx).1) #[] #[]] := by simp [Act.eval]
              simp only [resolve, rangeCall, ec, Deferred.ofValue, hgv2]
              rfl
            · simp only [invoke, callFunc, program, Sem.run_bind, Sem.run_pure, Result.andThen_ok, Sem.run, hfn, hn', hb', if_false, Bool.false_eq_true]
            · refine CallsIn.mono (F := Frd rd) hcs fun e w' hR => ?_
              obtain ⟨val, K', rfl, rfl, r1, r2, r3, r4⟩ := hR
              have r2' : SimF P eqTs bs (look st1.heap) (look st1.loops) K' := r2
              obtain ⟨hd3, L3, hL3, hps3, hch3, henv3, hst3', hpe3⟩ := r2'.lp st.nx r3v hr3
              have hβ3 := (r3.β hdn).2
              have hb3 : L3.state ≠ .busy := by
                split at hst3'
                · rw [hst3']; simp
                · rename_i e; exact absurd e hst3
                · rw [hst3']; simp
              have hend := run_endLoop (P := P) hL3 hb3
              have s3 : SimF P eqTs bs (look st1.heap) (look (del st1.loops st.nx)) K' := r2'.subL fun l r hl => by
                rw [look_del] at hl
                split at hl
                · cases hl
                · exact hl
              have s4 := s3.obj (o := .loop { L3 with state := .exhausted }) hL3 (by simp) (r2'.llow _ _ hr3) fun l r hl => by
                rw [look_del] at hl
                split at hl
                · cases hl
                · rename_i hne
                  exact r2'.linj l st.nx r r3v hl hr3 hne
              have x4 := Ext.obj (K := K') (L' := { L3 with state := .exhausted }) hL3
              have xx : Ext K (K'.obj (K'.β st.nx).1 (.loop { L3 with state := .exhausted })) := x1.trans (r3.trans x4)
              obtain ⟨D, q1, q2, q3⟩ := hA.df
              have fin : Q (exOf r3v.pend) { a with defers := DM.map mark ++ a.defers } (K'.obj (K'.β st.nx).1 (.loop { L3 with state := .exhausted })).W := by
                refine hk _ _ ⟨⟨s4, hA.s.wb.trans hn1.2.1.symm, fun i hi => ?_, hA.s.glob.ext xx⟩, hA.env.ext xx, hA.sz, ⟨DM ++ D, by simp [q1], ?_, fun b hb => ?_⟩, Nat.le_trans hA.d0 xx.size, fun l hl => ?_⟩ xx fun i hi => ?_
                · have hi' : K'.dom i := hi
                  rcases r4 i hi' with hh | hh
                  · rcases hdom i hh with hh | hh
                    · have := hA.s.fresh i hh
                      have := hn1.1
                      simp only at this ⊢; omega
                    · have := hn1.1
                      simp only at this ⊢; omega
                  · exact hh.2
                · refine List.nodup_append.2 ⟨hnd, q2, fun b hb b' hb' e => ?_⟩
                  subst e
                  have h1 := (hDM b hb).2
                  have h2 := (Array.getElem?_eq_some_iff.1 (q3 b hb').2).1
                  omega
                · rcases List.mem_append.1 hb with hb | hb
                  · exact ⟨(hDM b hb).1, x4.defd b (r3.defd b (hDMw b hb))⟩
                  · exact ⟨(q3 b hb).1, xx.defd b (q3 b hb).2⟩
                · obtain ⟨r, hr⟩ := hA.rd l hl
                  exact xx.lps l r hr
                · have hi' : K'.dom i := hi
                  have hn := hn1.1
                  simp only at hn
                  rcases r4 i hi' with hh | hh
                  · rcases hdom i hh with hh | hh
                    · exact .inl hh
                    · exact .inr (by simp only; omega)
                  · have h1 : st.nx + 1 ≤ i := hh.1
                    exact .inr ⟨by omega, hh.2⟩
              rw [hβ3] at hend fin
              refine ⟨_, _, hend, ?_⟩
              generalize hW : (K'.W.putObj (K1.β st.nx).1 (.loop { L3 with state := .exhausted })) = Wf
              have fin' : Q (exOf r3v.pend) { a with defers := DM.map mark ++ a.defers } Wf := hW ▸ fin
              rw [hpe3]
              cases hp : r3v.pend with
              | norm => rw [hp] at fin'; exact fin'
              | exit i => rw [hp] at fin'; exact wpIn_exit fin'
              | ret => rw [hp] at fin'; exact wpIn_ret fin'
          refine wpIn_rangeFunc fun fnid _ => ?_
          cases rd with
          | none =>
            have hwD := WS.alloc K.W (.deferred (some [])) none2
            obtain ⟨K1, e1, y1, x1, d1, g1, g2, g3, s1⟩ := enter { K with W := K.W.alloc (.deferred (some [])) } { state := .ready, pending := none, fn := fnid, tmps := a.tmps, params := qs, assign := cA, body := cB, defers := K.W.heap.size } [K.W.heap.size] fnid (hA.s.f.ws hwD) (Ext.ws hwD) rfl rfl (fun b hb => by
              simp only [List.mem_singleton] at hb
              subst hb
              exact ⟨hA.d0, heap_new K.W _, Nat.le_refl _⟩) (by simp) rfl rfl rfl rfl rfl rfl
            have hsz : ({ K with W := K.W.alloc (.deferred (some [])) } : KK).W.heap.size = K.W.heap.size + 1 := by
              show (K.W.alloc (.deferred (some []))).heap.size = _
              simp
            rw [hsz] at y1 g3
            obtain ⟨d, w₁', f', args, w₂, r1, r2, r3, r4, r5⟩ := rest K1 (K.W.heap.size + 1) K1.W [K.W.heap.size] rfl y1 x1 (by simp) (fun b hb => by
              simp only [List.mem_singleton] at hb
              subst hb
              exact ⟨hA.d0, Nat.le_refl _⟩) d1 g1 g2 g3 s1
            refine ⟨K.W.heap.size + 1, [{ target := .collected K.W.heap.size, args := #[] }], K1.W, d, w₁', f', args, w₂, ?_, r1, r2, r3, r4, r5⟩
            rw [e1]
            exact run_enterLoop_outer _ _ _ _ _
          | some l0 =>
            obtain ⟨r0, hr0⟩ := hA.rd l0 rfl
            obtain ⟨K1, e1, y1, x1, d1, g1, g2, g3, s1⟩ := enter K { state := .ready, pending := none, fn := fnid, tmps := a.tmps, params := qs, assign := cA, body := cB, defers := r0.defers } [] fnid hA.s.f (Ext.refl K) rfl rfl (by simp) (by simp) rfl rfl rfl rfl rfl rfl
            obtain ⟨d, w₁', f', args, w₂, r1, r2, r3, r4, r5⟩ := rest K1 K.W.heap.size K1.W [] rfl y1 x1 (by simp) (by simp) (by simp) g1 g2 g3 s1
            refine ⟨K.W.heap.size, [], K1.W, d, w₁', f', args, w₂, ?_, r1, r2, r3, r4, r5⟩
            rw [e1]
            exact run_enterLoop_inner hr0 _ _ _ _ _
      · cases he
    · cases he
  · cases he
end
end Go.Proofs.YtfmbdcmjgnikiaaGreatDoor.Sm
namespace Go.Proofs.YtfmbdcmjgnikiaaGreatDoor.Sm
open Go Go.RowKit

/-- An order-open region does what the interpreter does in the order told. -/
def DrawOK (P : Program) (eqTs : List (Nat × Nat)) (X : Cx) (rec : Rec) : Prop := ∀ (rd : Option Nat) (d0 N : Nat) (sep : List (Nat × Nat)) (is : List Ins) (ops : Array Oper) (id : Nat) (st st1 : St) (fs : List FP) (bs : Bs) (K : KK) (a : Act) (Q : Exit → Act → World → Prop),
  drawOk P eqTs N ops sep is = true → evDraw rec X is st = some (st1, fs) → sepOk fs sep = true → SimA P eqTs X bs rd d0 N st K a →
  (∀ a' K', SimA P eqTs X bs rd d0 N st1 K' a' → Ext K K' → Grow K K' st.nx st1.nx → Q .normal a' K'.W) → (Code.region id ops true).wpIn (Frd rd) 0 P Q a K.W

section
variable {P : Program} {eqTs : List (Nat × Nat)} {X : Cx}

theorem SimA.env' {bs : Bs} {rd : Option Nat} {d0 N : Nat} {st : St} {K : KK} {a : Act} (h : SimA P eqTs X bs rd d0 N st K a) {e : Env} (he : EnvR K e a.tmps) : SimA P eqTs X bs rd d0 N { st with env := e } K a :=
  ⟨⟨h.s.f, h.s.wb, h.s.fresh, h.s.glob⟩, he, h.sz, h.df, h.d0, h.rd⟩

theorem step_sound {rec : Rec} {m : Nat} (H : Known P eqTs X rec) (L : LoopOK P eqTs X rec m) (hD : DrawOK P eqTs X rec) : CodeOK P eqTs X (step rec X) ∧ LoopOK P eqTs X (step rec X) (m + 1) := by
  have loop : LoopOK P eqTs X (step rec X) (m + 1) := by
    intro rd d0 N b st x st' code bs K a Q he hc hA hk
    rw [roundsIn_succ]
    simp only [step] at he
    split at he
    · rename_i st1 h1
      have n1 := H.ok _ _ _ _ h1
      have n2 := H.ok _ _ _ _ he
      refine H.C rd d0 N b st .norm st1 code bs K a _ h1 hc hA fun a1 K1 hA1 x1 g1 => ?_
      exact L rd d0 N b st1 x st' code bs K1 a1 Q he hc hA1 fun a2 K2 hA2 x2 g2 => hk a2 K2 hA2 (x1.trans x2) (g1.trans g2 n1.1 n2.1)
    · rename_i hne
      refine H.C rd d0 N b st x st' code bs K a _ he hc hA fun a1 K1 hA1 x1 g1 => ?_
      rw [exOf_ne (fun e => by subst e; exact hne st' he)]
      exact hk a1 K1 hA1 x1 g1
  refine ⟨?_, loop⟩
  intro rd d0 N mc st x st' code bs K a Q he hc hA hk
  cases mc with
  | trap => cases he
  | trim live b =>
    have hS : SimA P eqTs X bs rd d0 N { st with env := live.map fun t => (t, getE st.env t) } K a := hA.env' fun t => by
      rw [getE_trim]
      split
      · exact hA.env t
      · exact .undef _
    by_cases hsc : ∃ c, code = .scope c
    · obtain ⟨c, rfl⟩ := hsc
      have hc' : chkC P eqTs N b c = true := hc
      refine wpIn_scope (H.C rd d0 N b { st with env := live.map fun t => (t, getE st.env t) } x st' c bs K a _ he hc' hS fun a1 K1 hA1 x1 g1 => ?_)
      have := hk a1 K1 hA1 x1 g1
      cases x <;> exact this
    · have hc' : chkC P eqTs N b code = true := by
        cases code <;> first | exact hc | exact absurd ⟨_, rfl⟩ hsc
      exact H.C rd d0 N b { st with env := live.map fun t => (t, getE st.env t) } x st' code bs K a Q he hc' hS hk
  | skip =>
    cases he
    cases code <;> simp only [chkC, Bool.false_eq_true] at hc
    · exact wpIn_skip (hk a K hA (Ext.refl K) fun i hi => .inl hi)
    · exact wpIn_label (hk a K hA (Ext.refl K) fun i hi => .inl hi)
  | ret =>
    cases he
    cases code <;> simp only [chkC, Bool.false_eq_true] at hc
    exact wpIn_ret (hk a K hA (Ext.refl K) fun i hi => .inl hi)
  | exit id =>
    cases he
    cases code <;> simp only [chkC, Bool.false_eq_true, beq_iff_eq] at hc
    subst hc
    exact wpIn_exit (hk a K hA (Ext.refl K) fun i hi => .inl hi)
  | region is =>
    simp only [step] at he
    split at he
    · rename_i st1 h1
      cases he
      cases code <;> try (simp only [chkC, Bool.false_eq_true] at hc; done)
      rename_i rid ops dr
      cases dr
      · simp only [chkC] at hc
        exact wpIn_region_list (ops_sound H hc h1 hA hk)
      · simp [chkC] at hc
    · cases he
  | draw sep is =>
    simp only [step] at he
    split at he
    · rename_i st1 fs h1
      split at he
      · rename_i hs
        cases he
        cases code <;> try (simp only [chkC, Bool.false_eq_true] at hc; done)
        rename_i rid ops dr
        cases dr
        · simp [chkC] at hc
        · simp only [chkC] at hc
          exact hD rd d0 N sep is ops rid st st' fs bs K a Q hc h1 hs hA hk
      · cases he
    · cases he
  | seq u v =>
    cases code <;> try (simp only [chkC, Bool.false_eq_true] at hc; done)
    rename_i cu cv
    simp only [chkC, Bool.and_eq_true] at hc
    refine wpIn_seq ?_
    simp only [step] at he
    split at he
    · rename_i st1 h1
      have n1 := H.ok _ _ _ _ h1
      have n2 := H.ok _ _ _ _ he
      refine H.C rd d0 N u st .norm st1 cu bs K a _ h1 hc.1 hA fun a1 K1 hA1 x1 g1 => ?_
      exact H.C rd d0 N v st1 x st' cv bs K1 a1 Q he hc.2 hA1 fun a2 K2 hA2 x2 g2 => hk a2 K2 hA2 (x1.trans x2) (g1.trans g2 n1.1 n2.1)
    · rename_i hne
      refine H.C rd d0 N u st x st' cu bs K a _ he hc.1 hA fun a1 K1 hA1 x1 g1 => ?_
      rw [exOf_ne (fun e => by subst e; exact hne st' he)]
      exact hk a1 K1 hA1 x1 g1
  | cond c u v =>
    cases code <;> try (simp only [chkC, Bool.false_eq_true] at hc; done)
    rename_i cc cu cv
    simp only [chkC, Bool.and_eq_true] at hc
    have hr := od_rv hA.env hA.s.glob cc c hc.1.1
    simp only [step] at he
    split at he
    · rename_i hb
      rw [hb] at hr
      exact wpIn_cond_true (inv_bool hr) (H.C rd d0 N u st x st' cu bs K a Q he hc.1.2 hA hk)
    · rename_i hb
      rw [hb] at hr
      exact wpIn_cond_false (inv_bool hr) (H.C rd d0 N v st x st' cv bs K a Q he hc.2 hA hk)
    · cases he
  | block id b =>
    cases code <;> try (simp only [chkC, Bool.false_eq_true] at hc; done)
    rename_i cid cb
    simp only [chkC, Bool.and_eq_true, beq_iff_eq] at hc
    obtain ⟨rfl, hc⟩ := hc
    refine wpIn_block ?_
    simp only [step] at he
    split at he
    · rename_i j st1 h1
      split at he
      · rename_i hj
        cases he
        refine H.C rd d0 N b st (.exit j) st' cb bs K a _ h1 hc hA fun a1 K1 hA1 x1 g1 => ?_
        show if j = id then _ else _
        rw [if_pos hj]
        exact hk a1 K1 hA1 x1 g1
      · rename_i hj
        cases he
        refine H.C rd d0 N b st (.exit j) st' cb bs K a _ h1 hc hA fun a1 K1 hA1 x1 g1 => ?_
        show if j = id then _ else _
        rw [if_neg hj]
        exact hk a1 K1 hA1 x1 g1
    · rename_i hne
      refine H.C rd d0 N b st x st' cb bs K a _ he hc hA fun a1 K1 hA1 x1 g1 => ?_
      cases x with
      | exit j => exact absurd he (hne j st')
      | norm => exact hk a1 K1 hA1 x1 g1
      | ret => exact hk a1 K1 hA1 x1 g1
  | loop b =>
    cases code <;> try (simp only [chkC, Bool.false_eq_true] at hc; done)
    rename_i cb
    simp only [chkC] at hc
    exact wpIn_loop_rounds (m + 1) (loop rd d0 N b st x st' cb bs K a Q he hc hA hk)
  | range f ps assign body =>
    cases code <;> try (simp only [chkC, Bool.false_eq_true] at hc; done)
    rename_i g qs cA cB
    simp only [chkC, Bool.and_eq_true, beq_iff_eq] at hc
    obtain ⟨⟨⟨⟨h1, h2⟩, h3⟩, h4⟩, h5⟩ := hc
    exact range_sound H he h1 h2.symm (fun p hp => by simpa using List.all_eq_true.1 h3 p hp) h4 h5 hA hk

theorem code_all (hX : ∀ f mf, X.fns f = some mf → ∃ fn, P.funcs[f]? = some fn ∧ chkF P eqTs fn mf = true) (hE : ∀ t n, eqTs.contains (t, n) = true → EqT P t n) (hD : ∀ rec, Known P eqTs X rec → DrawOK P eqTs X rec) : ∀ n, CodeOK P eqTs X (ev X n) ∧ LoopOK P eqTs X (ev X n) n
  | 0 => ⟨fun rd d0 N mc st x st' code bs K a Q he => (by cases he), fun rd d0 N b st x st' code bs K a Q he => (by cases he)⟩
  | n + 1 => by
    obtain ⟨c, l⟩ := code_all hX hE hD n
    have H : Known P eqTs X (ev X n) := ⟨c, fn_sound c hX, ev_ok X n, hX, hE⟩
    exact step_sound H l (hD _ H)
end
end Go.Proofs.YtfmbdcmjgnikiaaGreatDoor.Sm
