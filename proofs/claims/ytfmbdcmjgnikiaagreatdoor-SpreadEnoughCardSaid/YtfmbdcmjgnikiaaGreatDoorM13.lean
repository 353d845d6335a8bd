/- States that are copied. Conditions: none. Valid states of spreading: what the small codes compute. Conditions: none. What is heard: what the small code computes. Conditions: none. What is received: what the small code computes. Conditions: none. What is served: what the small code computes. Conditions: none. Digests of different things differ; proofs prove. Conditions: none (plain laws). Programs and their pages: split and joined. Conditions: none (plain laws). A program that is loaded page by page. Conditions: none (plain laws). -/
import Derived.Test.YtfmbdcmjgnikiaaGreatDoorM12
import Derived.Test.YtfmbdcmjgnikiaaGreatDoorM9
import Derived.Test.YtfmbdcmjgnikiaaGreatDoorM8
import Derived.Test.YtfmbdcmjgnikiaaGreatDoorM10
set_option linter.unusedSimpArgs false
set_option linter.unusedVariables false
namespace Go.Proofs.YtfmbdcmjgnikiaaGreatDoor.Sm
open Go Go.RowKit

/-- A state, with the marks of its slices. -/
structure Sp where
  ver : Int
  size : Int
  dg : Int
  start : Int
  pages : Sl By
  proofs : Sl (Sl Int)
  rows : Sl Rw
  proof : Sl Int
  t : Tm
def Sp.c (s : Sp) : List SV := [.int .i64 s.ver, .int .i64 s.size, .int .u64 s.dg, .int .i64 s.start, .tree (s.pages.xs.map By.v) s.pages.nl s.pages.tg, .tree (s.proofs.xs.map (Sl.v uV)) s.proofs.nl s.proofs.tg, .tree (s.rows.xs.map Rw.v) s.rows.nl s.rows.tg, .tree (s.proof.xs.map uV) s.proof.nl s.proof.tg, .int .i64 s.t.iv, .int .i64 s.t.bg, .int .i64 s.t.fi, .int .i64 s.t.ct, .int .i64 s.t.sd]
def cloneR (r : Rw) : Rw := ⟨r.mask, cloneB r.data⟩
def copyS (s : Sp) : Sp := { s with pages := slR (s.pages.xs.map cloneB), proofs := slR (s.proofs.xs.map cloneB), rows := slR (s.rows.xs.map cloneR), proof := cloneB s.proof }
/-- Small enough, and nothing in what is nil. -/
structure SpW (s : Sp) : Prop where
  lp : s.pages.xs.length ≤ 1000
  lq : s.proofs.xs.length ≤ 1000
  lr : s.rows.xs.length ≤ 1000
  lf : s.proof.xs.length ≤ 1000
  hp : ∀ p ∈ s.pages.xs, p.ok ∧ p.xs.length ≤ 100000
  hq : ∀ p ∈ s.proofs.xs, p.ok ∧ p.xs.length ≤ 100000
  hr : ∀ r ∈ s.rows.xs, r.data.ok ∧ r.data.xs.length ≤ 100000
  np : s.pages.ok
  nq : s.proofs.ok
  nr : s.rows.ok
  nf : s.proof.ok

/-! ### rows are taken over -/
def RowH {α : Type} (sz : Nat) (f : α → SV) (g : HL) (lo hi : Nat) (acc : List α) (v : SV) : Prop :=
  (acc = [] ∧ v = .tree [] true true) ∨ ∃ id, v = .own id 0 acc.length sz ∧ g id = some (flat (acc.map f)) ∧ lo ≤ id ∧ id < hi ∧ acc ≠ []
theorem RowS.H {α : Type} {sz : Nat} {f : α → SV} {h : Heap} {lo hi : Nat} {acc : List α} {v : SV} (r : RowS true sz f h lo hi acc v) : RowH sz f (look h) lo hi acc v := by
  rcases r with ⟨a, b, _⟩ | ⟨id, a1, a2, a3, a4, a5⟩
  · exact .inl ⟨a, b⟩
  · exact .inr ⟨id, a1, a2, a3, a4, a5 rfl⟩
theorem take1_H {α : Type} {sz : Nat} {f : α → SV} (H : CellS sz f) {g : HL} {lo hi : Nat} {acc : List α} {v : SV} (r : RowH sz f g lo hi acc v) :
    ∃ ms, take1 0 g v = some ((slR acc).v f, ms) ∧ (∀ j, j < lo ∨ hi ≤ j → appF g ms j = g j) ∧ ∀ p ∈ ms, lo ≤ p.1 ∧ p.1 < hi ∧ p.2 = none := by
  rcases r with ⟨rfl, rfl⟩ | ⟨id, rfl, a2, a3, a4, a5⟩
  · exact ⟨[], rfl, fun _ _ => rfl, by simp⟩
  · refine ⟨[(id, none)], ?_, fun j hj => ?_, by simp [a3, a4]⟩
    · have : rowOf g id 0 acc.length sz = some (.tree (acc.map f) false false) := by
        unfold rowOf
        rw [a2]
        simp only [flatS_sub H, flatS_len H, flatS_pl H, elsS H, and_self, if_true]
      simp only [take1, Nat.zero_le, if_true, this, Option.map_some, Sl.v, slR, a5, decide_false]
    · simp only [appF]
      rw [if_neg (by omega)]
theorem RowH.mono {α : Type} {sz : Nat} {f : α → SV} {g g' : HL} {lo hi : Nat} {acc : List α} {v : SV} (r : RowH sz f g lo hi acc v) (hj : ∀ j, lo ≤ j → j < hi → g' j = g j) : RowH sz f g' lo hi acc v := by
  rcases r with r | ⟨id, a1, a2, a3, a4, a5⟩
  · exact .inl r
  · exact .inr ⟨id, a1, by rw [hj id a3 a4]; exact a2, a3, a4, a5⟩
theorem takeL_1 {g : HL} {v u : SV} {vs us : List SV} {m m2 : Mods} (h1 : take1 0 g v = some (u, m)) (h2 : takeL 0 (appF g m) vs = some (us, m2)) : takeL 0 g (v :: vs) = some (u :: us, m ++ m2) := by
  simp only [takeL, h1, h2]
theorem take_sp {g : HL} {a b c d p q r s t : Int} {xs : List SV} {nl tg : Bool} {v1 v2 v3 : SV} {A : List By} {B : List (Sl Int)} {C : List Rw} {l1 h1 l2 h2 l3 h3 : Nat} (r1 : RowH 1 By.v g l1 h1 A v1) (r2 : RowH 1 (Sl.v uV) g l2 h2 B v2) (r3 : RowH 2 Rw.v g l3 h3 C v3) (k1 : l1 ≤ h1) (k2 : l2 ≤ h2) (h12 : h1 ≤ l2) (h23 : h2 ≤ l3) :
    ∃ ms, take2L 0 g [.agg [.int .i64 a, .int .i64 b, .int .u64 c, .int .i64 d, v1, v2, v3, .tree xs nl tg, .int .i64 p, .int .i64 q, .int .i64 r, .int .i64 s, .int .i64 t]] =
      some ([.agg [.int .i64 a, .int .i64 b, .int .u64 c, .int .i64 d, (slR A).v By.v, (slR B).v (Sl.v uV), (slR C).v Rw.v, .tree xs nl tg, .int .i64 p, .int .i64 q, .int .i64 r, .int .i64 s, .int .i64 t]], ms) ∧ ∀ p ∈ ms, l1 ≤ p.1 ∧ p.2 = none := by
  obtain ⟨m1, e1, f1, g1⟩ := take1_H (Cell1.S Sl.v_c) r1
  obtain ⟨m2, e2, f2, g2⟩ := take1_H (Cell1.S Sl.v_c) (r2.mono (g' := appF g m1) fun j hj _ => f1 j (.inr (by omega)))
  obtain ⟨m3, e3, f3, g3⟩ := take1_H Rw.S (r3.mono (g' := appF (appF g m1) m2) fun j hj _ => by rw [f2 j (.inr (by omega)), f1 j (.inr (by omega))])
  have tail : ∀ g : HL, takeL 0 g [.tree xs nl tg, .int .i64 p, .int .i64 q, .int .i64 r, .int .i64 s, .int .i64 t] = some ([.tree xs nl tg, .int .i64 p, .int .i64 q, .int .i64 r, .int .i64 s, .int .i64 t], []) := fun g => rfl
  have t3 := takeL_1 e3 (tail _)
  have t2 := takeL_1 e2 t3
  have t1 := takeL_1 e1 t2
  have t0 : takeL 0 g [.int .i64 a, .int .i64 b, .int .u64 c, .int .i64 d, v1, v2, v3, .tree xs nl tg, .int .i64 p, .int .i64 q, .int .i64 r, .int .i64 s, .int .i64 t] = some ([.int .i64 a, .int .i64 b, .int .u64 c, .int .i64 d, (slR A).v By.v, (slR B).v (Sl.v uV), (slR C).v Rw.v, .tree xs nl tg, .int .i64 p, .int .i64 q, .int .i64 r, .int .i64 s, .int .i64 t], [] ++ ([] ++ ([] ++ ([] ++ (m1 ++ (m2 ++ (m3 ++ []))))))) :=
    takeL_1 rfl (takeL_1 rfl (takeL_1 rfl (takeL_1 rfl t1)))
  refine ⟨_, by simp only [take2L, take2, t0, Option.map_some]; rfl, fun p hp => ?_⟩
  simp only [List.nil_append, List.append_nil, List.mem_append] at hp
  rcases hp with hp | hp | hp
  · exact ⟨(g1 p hp).1, (g1 p hp).2.2⟩
  · exact ⟨by have := (g2 p hp).1; omega, (g2 p hp).2.2⟩
  · exact ⟨by have := (g3 p hp).1; omega, (g3 p hp).2.2⟩
theorem dels_look : ∀ {ms : Mods} {h : Heap} {lo : Nat}, (∀ p ∈ ms, lo ≤ p.1 ∧ p.2 = none) → (∀ j, j < lo → look (appM h ms) j = look h j) ∧ ∀ j, look h j = none → look (appM h ms) j = none
  | [], h, lo, _ => ⟨fun _ _ => rfl, fun _ h => h⟩
  | (i, c) :: ms, h, lo, hm => by
    obtain ⟨hi, rfl⟩ := hm (i, c) List.mem_cons_self
    have ih := dels_look (ms := ms) (h := del h i) (lo := lo) fun p hp => hm p (List.mem_cons_of_mem _ hp)
    simp only at hi
    refine ⟨fun j hj => ?_, fun j hj => ?_⟩
    · rw [appM_d, ih.1 j hj, look_del_ne (by omega)]
    · rw [appM_d]; apply ih.2
      by_cases h : j = i
      · subst h; exact look_del_eq
      · rw [look_del_ne h]; exact hj
theorem wO_bfrz {X : Cx} {e : Env} {h : Heap} {nx : Nat} {ls : List (Nat × LRec)} {d : Option Nat} {is : List Ins} {Q : St → Prop} {z cs : List SV} {ps : List (Nat × Nat × Arg)} {u : SV} {ms : Mods} (hb : buildC (argV X e) z ps = some cs) (ht : take2L 0 (look h) [.agg cs] = some ([u], ms)) :
    wO X (evW 0 (look h) nx (argV X e) (.bfrz z ps)) ⟨e, h, nx, ls, 0⟩ d is Q ↔ WpOps X is (putE ⟨e, appM h ms, nx, ls, 0⟩ d u) Q := by
  rw [evW.eq_8, hb]
  simp only [ht]
  rw [wO_v]
section
variable {ls : List (Nat × LRec)} {Q : Ex → St → Prop} {R : Prop} {st : St} {K : SV → St → Prop}
theorem L_cp0 {s : Sp} {L : List By} {nl tg : Bool} {p o lo : Nat} {w2 w3 : SV} (hlo : o < lo) (hL : L.length ≤ 1000) (hs : ∀ p ∈ L, p.ok ∧ p.xs.length ≤ 100000) : ∀ (d k : Nat) (v : SV) (h : Heap) (nx : Nat), k + d = L.length → RowS true 1 By.v h lo nx ((L.take k).map cloneB) v → lo ≤ nx → fresh h nx → look h o = some [.int .i64 s.ver, .int .i64 s.size, .int .u64 s.dg, .int .i64 s.start, v, w2, w3, .tree (s.proof.xs.map uV) s.proof.nl (decide (s.proof.xs.length = 0)), .int .i64 s.t.iv, .int .i64 s.t.bg, .int .i64 s.t.fi, .int .i64 s.t.ct, .int .i64 s.t.sd] →
    (∀ (v' : SV) (h' : Heap) (nx' : Nat), RowS true 1 By.v h' lo nx' (L.map cloneB) v' → nx ≤ nx' → fresh h' nx' → look h' o = some [.int .i64 s.ver, .int .i64 s.size, .int .u64 s.dg, .int .i64 s.start, v', w2, w3, .tree (s.proof.xs.map uV) s.proof.nl (decide (s.proof.xs.length = 0)), .int .i64 s.t.iv, .int .i64 s.t.bg, .int .i64 s.t.fi, .int .i64 s.t.ct, .int .i64 s.t.sd] → (∀ j, j < lo → j ≠ o → look h' j = look h j) → (Q (.exit 0) ⟨[(1, .ptr p 0), (3, .ptr o 0)], h', nx', ls, 0⟩ ↔ R)) →
    (L_spread_copied_0 XX (.ptr p 0) (.ptr o 0) (.tree (L.map By.v) nl tg) (.int .i64 L.length) (.int .i64 k) h nx ls 0 Q ↔ R) := by
  intro d
  induction d with
  | zero =>
    intro k v h nx hk hv hn hf ho q
    obtain rfl : k = L.length := by omega
    rw [L_spread_copied_0_unf]
    simp only [b_spread_copied_0, bC, bD, bH, bZ, bV, bVD, Nat.add_assoc, seval, Int.lt_irrefl]
    rw [List.take_length] at hv
    exact q v h nx hv (Nat.le_refl _) hf ho fun _ _ _ => rfl
  | succ d ih =>
    intro k v h nx hk hv hn hf ho q
    have hlt : k < L.length := by omega
    obtain ⟨x, hp, hd⟩ := get_some hlt
    obtain ⟨hpo, hpb⟩ := hs x (List.mem_of_getElem? hp)
    have hx' : (L.map By.v)[k]? = some (.tree (x.xs.map b8) x.nl x.tg) := by rw [List.getElem?_map, hp]; rfl
    have ht : L.take (k + 1) = L.take k ++ [x] := by rw [List.take_add_one, hp]; rfl
    have hfn := hf nx (Nat.le_refl _)
    have hlk : ((L.take k).map cloneB).length = k := by simp; omega
    rw [L_spread_copied_0_unf]
    simp (disch := omega) only [b_spread_copied_0, bC, bD, bH, bZ, wpY', bVA, bVD, bB, seval, lt_c hlt, hx', ho, f_bytes_Clone hpo (by omega), hfn]
    refine wD_append (Cell1.S Sl.v_c) ((L.take k).map cloneB) [cloneB x] (lo := lo) (hi := nx) (v := v) (hv.mono (fun j _ _ => ?_) (Nat.le_refl _) (Nat.le_refl _)) (fun j hj => ?_) (by omega) (by simp) (by rw [hlk]; simp; omega) rfl rfl fun v' h' i1 i2 i3 => ?_
    · rfl
    · exact hf j hj
    have j0 := i3 o (by omega) (by omega)
    simp (disch := omega) only [bC, bD, bH, bZ, wpY', bV, bVD, seval, ho] at j0
    obtain ⟨c1, c2, _⟩ := i1.cell
    simp (disch := omega) only [bC, bD, bH, bZ, wpY', bVA, bVD, bB, seval, j0, c1, c2, wi_s hlt (by omega), L_spread_copied_0_eq, Nat.add_assoc]
    refine ih (k + 1) v' _ _ (by omega) ?_ ?_ (fun j hj => ?_) ?_ fun v2 h2 nx2 k1 k2 k3 k4 k5 => q v2 h2 nx2 k1 (by omega) k3 k4 fun j hj hjo => ?_
    · rw [ht, List.map_append]
      refine i1.mono (fun j _ _ => ?_) (by omega) (by omega)
      simp (disch := omega) only [bC, bD, bH, bZ, wpY', bV, bVD, seval]
    · omega
    · simp (disch := omega) only [bC, bD, bH, bZ, wpY', bV, bVD, seval]; exact i2 j (by omega)
    · simp (disch := omega) only [bC, bD, bH, bZ, wpY', bV, bVD, seval, j0]
    · rw [k5 j hj hjo]
      simp (disch := omega) only [bC, bD, bH, bZ, wpY', bV, bVD, seval]
      rw [i3 j (by omega) (by omega)]
theorem L_cp1 {s : Sp} {L : List (Sl Int)} {nl tg : Bool} {p o lo : Nat} {w1 w3 : SV} (hlo : o < lo) (hL : L.length ≤ 1000) (hs : ∀ p ∈ L, p.ok ∧ p.xs.length ≤ 100000) : ∀ (d k : Nat) (v : SV) (h : Heap) (nx : Nat), k + d = L.length → RowS true 1 (Sl.v uV) h lo nx ((L.take k).map cloneB) v → lo ≤ nx → fresh h nx → look h o = some [.int .i64 s.ver, .int .i64 s.size, .int .u64 s.dg, .int .i64 s.start, w1, v, w3, .tree (s.proof.xs.map uV) s.proof.nl (decide (s.proof.xs.length = 0)), .int .i64 s.t.iv, .int .i64 s.t.bg, .int .i64 s.t.fi, .int .i64 s.t.ct, .int .i64 s.t.sd] →
    (∀ (v' : SV) (h' : Heap) (nx' : Nat), RowS true 1 (Sl.v uV) h' lo nx' (L.map cloneB) v' → nx ≤ nx' → fresh h' nx' → look h' o = some [.int .i64 s.ver, .int .i64 s.size, .int .u64 s.dg, .int .i64 s.start, w1, v', w3, .tree (s.proof.xs.map uV) s.proof.nl (decide (s.proof.xs.length = 0)), .int .i64 s.t.iv, .int .i64 s.t.bg, .int .i64 s.t.fi, .int .i64 s.t.ct, .int .i64 s.t.sd] → (∀ j, j < lo → j ≠ o → look h' j = look h j) → (Q (.exit 2) ⟨[(1, .ptr p 0), (3, .ptr o 0)], h', nx', ls, 0⟩ ↔ R)) →
    (L_spread_copied_1 XX (.ptr p 0) (.ptr o 0) (.tree (L.map (Sl.v uV)) nl tg) (.int .i64 L.length) (.int .i64 k) h nx ls 0 Q ↔ R) := by
  intro d
  induction d with
  | zero =>
    intro k v h nx hk hv hn hf ho q
    obtain rfl : k = L.length := by omega
    rw [L_spread_copied_1_unf]
    simp only [b_spread_copied_1, bC, bD, bH, bZ, bV, bVD, Nat.add_assoc, seval, Int.lt_irrefl]
    rw [List.take_length] at hv
    exact q v h nx hv (Nat.le_refl _) hf ho fun _ _ _ => rfl
  | succ d ih =>
    intro k v h nx hk hv hn hf ho q
    have hlt : k < L.length := by omega
    obtain ⟨x, hp, hd⟩ := get_some hlt
    obtain ⟨hpo, hpb⟩ := hs x (List.mem_of_getElem? hp)
    have hx' : (L.map (Sl.v uV))[k]? = some (.tree (x.xs.map uV) x.nl x.tg) := by rw [List.getElem?_map, hp]; rfl
    have ht : L.take (k + 1) = L.take k ++ [x] := by rw [List.take_add_one, hp]; rfl
    have hfn := hf nx (Nat.le_refl _)
    have hlk : ((L.take k).map cloneB).length = k := by simp; omega
    rw [L_spread_copied_1_unf]
    simp (disch := omega) only [b_spread_copied_1, bC, bD, bH, bZ, wpY', bVA, bVD, bB, seval, lt_c hlt, hx', ho, f_u64_Clone hpo (by omega), hfn]
    refine wD_append (Cell1.S Sl.v_c) ((L.take k).map cloneB) [cloneB x] (lo := lo) (hi := nx) (v := v) (hv.mono (fun j _ _ => ?_) (Nat.le_refl _) (Nat.le_refl _)) (fun j hj => ?_) (by omega) (by simp) (by rw [hlk]; simp; omega) rfl rfl fun v' h' i1 i2 i3 => ?_
    · rfl
    · exact hf j hj
    have j0 := i3 o (by omega) (by omega)
    simp (disch := omega) only [bC, bD, bH, bZ, wpY', bV, bVD, seval, ho] at j0
    obtain ⟨c1, c2, _⟩ := i1.cell
    simp (disch := omega) only [bC, bD, bH, bZ, wpY', bVA, bVD, bB, seval, j0, c1, c2, wi_s hlt (by omega), L_spread_copied_1_eq, Nat.add_assoc]
    refine ih (k + 1) v' _ _ (by omega) ?_ ?_ (fun j hj => ?_) ?_ fun v2 h2 nx2 k1 k2 k3 k4 k5 => q v2 h2 nx2 k1 (by omega) k3 k4 fun j hj hjo => ?_
    · rw [ht, List.map_append]
      refine i1.mono (fun j _ _ => ?_) (by omega) (by omega)
      simp (disch := omega) only [bC, bD, bH, bZ, wpY', bV, bVD, seval]
    · omega
    · simp (disch := omega) only [bC, bD, bH, bZ, wpY', bV, bVD, seval]; exact i2 j (by omega)
    · simp (disch := omega) only [bC, bD, bH, bZ, wpY', bV, bVD, seval, j0]
    · rw [k5 j hj hjo]
      simp (disch := omega) only [bC, bD, bH, bZ, wpY', bV, bVD, seval]
      rw [i3 j (by omega) (by omega)]
theorem L_cp2 {s : Sp} {L : List Rw} {nl tg : Bool} {o lo : Nat} {w1 w2 : SV} (hlo : o < lo) (hL : L.length ≤ 1000) (hs : ∀ r ∈ L, r.data.ok ∧ r.data.xs.length ≤ 100000) : ∀ (d k : Nat) (v : SV) (h : Heap) (nx : Nat), k + d = L.length → RowS true 2 Rw.v h lo nx ((L.take k).map cloneR) v → lo ≤ nx → fresh h nx → look h o = some [.int .i64 s.ver, .int .i64 s.size, .int .u64 s.dg, .int .i64 s.start, w1, w2, v, .tree (s.proof.xs.map uV) s.proof.nl (decide (s.proof.xs.length = 0)), .int .i64 s.t.iv, .int .i64 s.t.bg, .int .i64 s.t.fi, .int .i64 s.t.ct, .int .i64 s.t.sd] →
    (∀ (v' : SV) (h' : Heap) (nx' : Nat), RowS true 2 Rw.v h' lo nx' (L.map cloneR) v' → nx ≤ nx' → fresh h' nx' → look h' o = some [.int .i64 s.ver, .int .i64 s.size, .int .u64 s.dg, .int .i64 s.start, w1, w2, v', .tree (s.proof.xs.map uV) s.proof.nl (decide (s.proof.xs.length = 0)), .int .i64 s.t.iv, .int .i64 s.t.bg, .int .i64 s.t.fi, .int .i64 s.t.ct, .int .i64 s.t.sd] → (∀ j, j < lo → j ≠ o → look h' j = look h j) → (Q (.exit 4) ⟨[(3, .ptr o 0)], h', nx', ls, 0⟩ ↔ R)) →
    (L_spread_copied_2 XX (.ptr o 0) (.tree (L.map Rw.v) nl tg) (.int .i64 L.length) (.int .i64 k) h nx ls 0 Q ↔ R) := by
  intro d
  induction d with
  | zero =>
    intro k v h nx hk hv hn hf ho q
    obtain rfl : k = L.length := by omega
    rw [L_spread_copied_2_unf]
    simp only [b_spread_copied_2, bC, bD, bH, bZ, bV, bVD, Nat.add_assoc, seval, Int.lt_irrefl]
    rw [List.take_length] at hv
    exact q v h nx hv (Nat.le_refl _) hf ho fun _ _ _ => rfl
  | succ d ih =>
    intro k v h nx hk hv hn hf ho q
    have hlt : k < L.length := by omega
    obtain ⟨x, hp, hd⟩ := get_some hlt
    obtain ⟨hpo, hpb⟩ := hs x (List.mem_of_getElem? hp)
    have hx' : (L.map Rw.v)[k]? = some (.agg [.int .i64 x.mask, .tree (x.data.xs.map b8) x.data.nl x.data.tg]) := by rw [List.getElem?_map, hp]; rfl
    have ht : L.take (k + 1) = L.take k ++ [x] := by rw [List.take_add_one, hp]; rfl
    have hfn := hf nx (Nat.le_refl _)
    have hlk : ((L.take k).map cloneR).length = k := by simp; omega
    rw [L_spread_copied_2_unf]
    simp (disch := omega) only [b_spread_copied_2, bC, bD, bH, bZ, wpY', bVA, bVD, bB, seval, lt_c hlt, hx', ho, f_bytes_Clone hpo (by omega), hfn]
    refine wD_append Rw.S ((L.take k).map cloneR) [cloneR x] (lo := lo) (hi := nx) (v := v) (hv.mono (fun j _ _ => ?_) (Nat.le_refl _) (Nat.le_refl _)) (fun j hj => ?_) (by omega) (by simp) (by rw [hlk]; simp; omega) rfl rfl fun v' h' i1 i2 i3 => ?_
    · simp (disch := omega) only [bC, bD, bH, bZ, wpY', bV, bVD, seval]
    · simp (disch := omega) only [bC, bD, bH, bZ, wpY', bV, bVD, seval]; exact hf j (by omega)
    have j0 := i3 o (by omega) (by omega)
    simp (disch := omega) only [bC, bD, bH, bZ, wpY', bV, bVD, seval, ho] at j0
    obtain ⟨c1, c2, _⟩ := i1.cell
    simp (disch := omega) only [bC, bD, bH, bZ, wpY', bVA, bVD, bB, seval, j0, c1, c2, wi_s hlt (by omega), L_spread_copied_2_eq, Nat.add_assoc]
    refine ih (k + 1) v' _ _ (by omega) ?_ ?_ (fun j hj => ?_) ?_ fun v2 h2 nx2 k1 k2 k3 k4 k5 => q v2 h2 nx2 k1 (by omega) k3 k4 fun j hj hjo => ?_
    · rw [ht, List.map_append]
      refine i1.mono (fun j _ _ => ?_) (by omega) (by omega)
      simp (disch := omega) only [bC, bD, bH, bZ, wpY', bV, bVD, seval]
    · omega
    · simp (disch := omega) only [bC, bD, bH, bZ, wpY', bV, bVD, seval]; exact i2 j (by omega)
    · simp (disch := omega) only [bC, bD, bH, bZ, wpY', bV, bVD, seval, j0]
    · rw [k5 j hj hjo]
      simp (disch := omega) only [bC, bD, bH, bZ, wpY', bV, bVD, seval]
      rw [i3 j (by omega) (by omega)]
      simp (disch := omega) only [bC, bD, bH, bZ, wpY', bV, bVD, seval]
theorem F_copied {s : Sp} (W : SpW s) {e : Env} {h : Heap} {nx : Nat} (hf : fresh h nx)
    (q : ∀ (id : Nat) (h' : Heap) (nx' : Nat), nx ≤ id → id < nx' → look h' id = some (copyS s).c → (∀ j, j < nx → look h' j = look h j) → fresh h' nx' → (K (.ptr id 0) ⟨e, h', nx', ls, 0⟩ ↔ R)) :
    WpF XX .rw n_spread_copied [.agg s.c] ⟨e, h, nx, ls, 0⟩ K ↔ R := by
  have f0 := hf nx (Nat.le_refl _)
  have f1 := hf (nx + 1) (by omega)
  rw [F_rw (mf := m_spread_copied) rfl]
  have ec := fun st K => f_u64_Clone (st := st) (K := K) (b := s.proof.xs) (nl := s.proof.nl) (tg := s.proof.tg) W.nf (by have := W.lf; omega)
  simp (disch := omega) only [m_spread_copied, Sp.c, bC, bD, bH, bZ, wpY', bV, bVD, seval, ec, f0, f1, Nat.add_assoc, L_spread_copied_0_eq]
  refine L_cp0 (s := s) (L := s.pages.xs) (p := nx) (o := nx + 1) (lo := nx + 2) (w2 := .tree [] true true) (w3 := .tree [] true true) (by omega) W.lp W.hp s.pages.xs.length 0 (.tree [] true true) _ (nx + 2) (by omega) (.inl ⟨rfl, rfl, rfl⟩) (Nat.le_refl _) (fun j hj => ?_) ?_ fun v1 h1 n1 a1 a2 a3 a4 a5 => ?_
  · simp (disch := omega) only [bC, bD, bH, bZ, wpY', bV, bVD, seval]; exact hf j (by omega)
  · simp (disch := omega) only [bC, bD, bH, bZ, wpY', bV, bVD, seval]
  have b0 := a5 nx (by omega) (by omega)
  simp (disch := omega) only [bC, bD, bH, bZ, wpY', bV, bVD, seval] at b0
  simp (disch := omega) only [bC, bD, bH, bZ, wpY', bV, bVD, seval, b0, L_spread_copied_1_eq]
  refine L_cp1 (s := s) (L := s.proofs.xs) (p := nx) (o := nx + 1) (lo := n1) (w1 := v1) (w3 := .tree [] true true) (by omega) W.lq W.hq s.proofs.xs.length 0 (.tree [] true true) _ n1 (by omega) (.inl ⟨rfl, rfl, rfl⟩) (Nat.le_refl _) a3 a4 fun v2 h2 n2 c1 c2 c3 c4 c5 => ?_
  have d0 := c5 nx (by omega) (by omega)
  rw [b0] at d0
  simp (disch := omega) only [bC, bD, bH, bZ, wpY', bV, bVD, seval, d0, L_spread_copied_2_eq]
  refine L_cp2 (s := s) (L := s.rows.xs) (o := nx + 1) (lo := n2) (w1 := v1) (w2 := v2) (by omega) W.lr W.hr s.rows.xs.length 0 (.tree [] true true) _ n2 (by omega) (.inl ⟨rfl, rfl, rfl⟩) (Nat.le_refl _) c3 c4 fun v3 h3 n3 e1 e2 e3 e4 e5 => ?_
  have r1 : RowS true 1 By.v h3 (nx + 2) n1 (s.pages.xs.map cloneB) v1 := a1.mono (fun j _ hj => by rw [e5 j (by omega) (by omega), c5 j (by omega) (by omega)]) (Nat.le_refl _) (Nat.le_refl _)
  have r2 : RowS true 1 (Sl.v uV) h3 n1 n2 (s.proofs.xs.map cloneB) v2 := c1.mono (fun j _ hj => by rw [e5 j (by omega) (by omega)]) (Nat.le_refl _) (Nat.le_refl _)
  obtain ⟨ms, t1, t2⟩ := take_sp (a := s.ver) (b := s.size) (c := s.dg) (d := s.start) (xs := s.proof.xs.map uV) (nl := s.proof.nl) (tg := decide (s.proof.xs.length = 0)) (p := s.t.iv) (q := s.t.bg) (r := s.t.fi) (s := s.t.ct) (t := s.t.sd) r1.H r2.H e1.H (by omega) (by omega) (by omega) (by omega)
  obtain ⟨g1, g2⟩ := dels_look (h := h3) t2
  have g3 := g2 n3 (e3 n3 (Nat.le_refl _))
  have z1 := r1.cell.1
  have z2 := r2.cell.1
  have z3 := e1.cell.1
  simp (disch := omega) only [bC, bD, bH, bZ, wpY', bVA, bVD, bB, seval, e4, z1, z2, z3]
  refine (wO_bfrz (by rfl) t1).trans ?_
  simp (disch := omega) only [bC, bD, bH, bZ, wpY', bVA, bVD, bB, seval, Sl.v, slR, By.v]
  refine q n3 _ (n3 + 1) (by omega) (by omega) ?_ (fun j hj => ?_) (fun j hj => ?_)
  · simp (disch := omega) only [bC, bD, bH, bZ, wpY', bV, bVD, seval, copyS, Sp.c, slR, cloneB]
  · simp (disch := omega) only [bC, bD, bH, bZ, wpY', bV, bVD, seval]
    rw [g1 j (by omega), e5 j (by omega) (by omega), c5 j (by omega) (by omega), a5 j (by omega) (by omega)]
    simp (disch := omega) only [bC, bD, bH, bZ, wpY', bV, bVD, seval]
  · simp (disch := omega) only [bC, bD, bH, bZ, wpY', bV, bVD, seval]
    exact g2 j (e3 j (by omega))
end
end Go.Proofs.YtfmbdcmjgnikiaaGreatDoor.Sm
namespace Go.Proofs.YtfmbdcmjgnikiaaGreatDoor.Sm
open Go Go.RowKit

def lensS (s : Sp) : Nat := s.pages.xs.length + s.proofs.xs.length + s.rows.xs.length + s.proof.xs.length
def zeroN (a b c d : Int) : Bool := decide (a = 0 ∧ b = 0 ∧ c = 0 ∧ d = 0)
def emptyS (s : Sp) : Bool := zeroN s.ver s.size s.dg s.start && decide (lensS s = 0) && decide (s.t.iv = 0 ∧ s.t.bg = 0 ∧ s.t.fi = 0 ∧ s.t.ct = 0) && seedB s.t.sd
def wholeS (s : Sp) : Bool := decide ((s.pages.xs.length : Int) = countI s.size)
def soundS (s : Sp) : Bool := soundI s.ver s.size s.dg s.start s.pages.xs s.proofs.xs
def validS (s : Sp) : Bool := emptyS s || (soundS s && validI s.rows.xs && decide (s.rows.xs.length < 16) && (decide (s.rows.xs.length = 0) || !wholeS s) && (decide (0 < s.rows.xs.length) || decide (s.proof.xs.length = 0)) && validT s.t)

theorem SpW.ok {s : Sp} (W : SpW s) : SpOK s.pages.xs s.pages.nl s.proofs.xs s.proofs.nl :=
  ⟨by have := W.lp; omega, by have := W.lq; omega, fun p hp => (W.hp p hp).1, fun q hq => ⟨by have := (W.hq q hq).2; omega, (W.hq q hq).1⟩, W.np, W.nq⟩
section
variable {ls : List (Nat × LRec)} {Q : Ex → St → Prop} {R : Prop} {st : St} {K : SV → St → Prop}
theorem f_spread_announced {a b c d : Int} : WpF XX .ro n_spread_announced [.agg [.int .i64 a, .int .i64 b, .int .u64 c, .int .i64 d]] st K ↔ K (.bool (noticeI a b d)) st := by
  rw [F_ro (mf := m_spread_announced) rfl rfl]
  unfold noticeI sizedI
  by_cases h1 : 1 ≤ a
  · by_cases h2 : a ≤ 1000000000
    · by_cases h3 : 1 ≤ b
      · by_cases h4 : b ≤ 4096
        · by_cases h5 : 0 ≤ d
          · simp only [m_spread_announced, bC, bW, bD, bZ, wpY', bV, bVD, seval, h1, h2, h3, h4, h5]
          · simp only [m_spread_announced, bC, bW, bD, bZ, wpY', bV, bVD, seval, h1, h2, h3, h4, h5]
        · simp only [m_spread_announced, bC, bW, bD, bZ, wpY', bV, bVD, seval, h1, h2, h3, h4]
      · simp only [m_spread_announced, bC, bW, bD, bZ, wpY', bV, bVD, seval, h1, h2, h3]
    · simp only [m_spread_announced, bC, bW, bD, bZ, wpY', bV, bVD, seval, h1, h2]
  · simp only [m_spread_announced, bC, bW, bD, bZ, wpY', bV, bVD, seval, h1]
theorem f_spread_count {a b c d : Int} (h0 : 0 ≤ b) (h1 : b ≤ 1000000000000) : WpF XX .ro n_spread_count [.agg [.int .i64 a, .int .i64 b, .int .u64 c, .int .i64 d]] st K ↔ K (.int .i64 (countI b)) st := by
  rw [F_ro (mf := m_spread_count) rfl rfl]
  simp only [m_spread_count, bC, bW, bD, bZ, wpY', bV, bVD, seval, count_s h0 h1]
section
variable {s : Sp} {id : Nat} {e : Env} {h : Heap} {nx wb : Nat} (hh : look h id = some s.c) (hid : id < nx)
include hh hid
theorem f_state_empty (W : SpW s) : WpF XX .ro n_pspread_state_empty [.ptr id 0] ⟨e, h, nx, ls, wb⟩ K ↔ K (.bool (emptyS s)) ⟨e, h, nx, ls, wb⟩ := by
  have l1 := W.lp
  have l2 := W.lq
  have l3 := W.lr
  have l4 := W.lf
  rw [Sp.c] at hh
  rw [F_roh (mf := m_pspread_state_empty) rfl rfl]
  unfold emptyS zeroN seedB
  have w1 : IntKind.i64.wrap (IntKind.i64.wrap (IntKind.i64.wrap ((s.pages.xs.length : Int) + (s.proofs.xs.length : Int)) + (s.rows.xs.length : Int)) + (s.proof.xs.length : Int)) = (lensS s : Int) := by
    rw [wi ((s.pages.xs.length : Int) + (s.proofs.xs.length : Int)) (by omega) (by omega), wi (_ + (s.rows.xs.length : Int)) (by omega) (by omega), wi _ (by omega) (by omega)]
    unfold lensS; omega
  by_cases h1 : s.ver = 0 ∧ s.size = 0 ∧ s.dg = 0 ∧ s.start = 0
  · by_cases h2 : lensS s = 0
    · have h2' : (lensS s : Int) = 0 := by omega
      by_cases h3 : s.t.iv = 0 ∧ s.t.bg = 0 ∧ s.t.fi = 0 ∧ s.t.ct = 0
      · by_cases h4 : 0 ≤ s.t.sd
        · simp (disch := omega) only [m_pspread_state_empty, bC, bD, bH, bZ, wpY', bV, bVD, seval, hh, eq_true h1, w1, eq_true h2, eq_true h2', eq_true h3, h4]
        · simp (disch := omega) only [m_pspread_state_empty, bC, bD, bH, bZ, wpY', bV, bVD, seval, hh, eq_true h1, w1, eq_true h2, eq_true h2', eq_true h3, h4]
      · simp (disch := omega) only [m_pspread_state_empty, bC, bD, bH, bZ, wpY', bV, bVD, seval, hh, eq_true h1, w1, eq_true h2, eq_true h2', h3]
    · have h2' : ¬ (lensS s : Int) = 0 := by omega
      simp (disch := omega) only [m_pspread_state_empty, bC, bD, bH, bZ, wpY', bV, bVD, seval, hh, eq_true h1, w1, h2, h2']
  · simp (disch := omega) only [m_pspread_state_empty, bC, bD, bH, bZ, wpY', bV, bVD, seval, hh, h1]
theorem f_state_whole (h0 : 0 ≤ s.size) (h1 : s.size ≤ 1000000000000) : WpF XX .ro n_pspread_state_whole [.ptr id 0] ⟨e, h, nx, ls, wb⟩ K ↔ K (.bool (wholeS s)) ⟨e, h, nx, ls, wb⟩ := by
  rw [Sp.c] at hh
  rw [F_roh (mf := m_pspread_state_whole) rfl rfl]
  unfold wholeS
  simp (disch := omega) only [m_pspread_state_whole, bC, bD, bH, bZ, wpY', bV, bVD, seval, hh, f_spread_count h0 h1]
theorem f_state_sound (W : SpW s) (hf : fresh h nx) : WpF XX .ro n_pspread_state_sound [.ptr id 0] ⟨e, h, nx, ls, wb⟩ K ↔ K (.bool (soundS s)) ⟨e, h, nx, ls, wb⟩ := by
  have f0 := hf nx (Nat.le_refl _)
  rw [Sp.c] at hh
  rw [F_roh (mf := m_pspread_state_sound) rfl rfl]
  have hz : List.replicate 256 (SV.int .u8 0) = (List.replicate 256 (0 : UInt8)).map b8 := by rw [List.map_replicate]; rfl
  have ep := fun st K => f_image_Put (st := st) (K := K) (ver := s.ver) (size := s.size) (dg := s.dg) (start := s.start) (pages := s.pages.xs) (n1 := s.pages.nl) (g1 := s.pages.tg) (proofs := s.proofs.xs) (n2 := s.proofs.nl) (g2 := s.proofs.tg) (rows := s.rows.xs) (n3 := s.rows.nl) (g3 := s.rows.tg) (proof := s.proof.xs) (n4 := s.proof.nl) (g4 := s.proof.tg) (iv := s.t.iv) (bg := s.t.bg) (fi := s.t.fi) (ct := s.t.ct) (sd := s.t.sd) (page := List.replicate 256 0) (n5 := false) (g5 := true) (pf := []) (n6 := true) (g6 := true) W.ok (by rw [List.length_replicate]; omega) (fun h => nomatch h) (by simp) (fun _ => rfl)
  simp only [List.map_nil] at ep
  unfold soundS
  have hlen : (List.replicate 256 (0 : UInt8)).length = 256 := List.length_replicate
  cases hs : soundI s.ver s.size s.dg s.start s.pages.xs s.proofs.xs with
  | false => simp (disch := omega) only [m_pspread_state_sound, bC, bD, bH, bZ, wpY', bV, bVD, seval, -List.reduceReplicate, hh, hz, f0, ep, hs, List.headD_cons]
  | true =>
    by_cases h1 : (s.pages.xs.length : Int) = countI s.size
    · simp (disch := omega) only [m_pspread_state_sound, bC, bD, bH, bZ, wpY', bV, bVD, seval, -List.reduceReplicate, hh, hz, f0, ep, hs, hlen, eq_true h1, List.headD_cons]
    · cases h2 : checkI s.dg (countI s.size) s.pages.xs.length (List.replicate 256 0) [] with
      | false => simp (disch := omega) only [m_pspread_state_sound, bC, bD, bH, bZ, wpY', bV, bVD, seval, -List.reduceReplicate, hh, hz, f0, ep, hs, hlen, h1, h2, List.headD_cons]
      | true => simp (disch := omega) only [m_pspread_state_sound, bC, bD, bH, bZ, wpY', bV, bVD, seval, -List.reduceReplicate, hh, hz, f0, ep, hs, hlen, h1, h2, List.headD_cons]
theorem f_state_timed (hf : fresh h nx) : WpF XX .ro n_pspread_state_timed [.ptr id 0] ⟨e, h, nx, ls, wb⟩ K ↔ K (.bool (validT s.t)) ⟨e, h, nx, ls, wb⟩ := by
  have f0 := hf nx (Nat.le_refl _)
  rw [Sp.c] at hh
  rw [F_roh (mf := m_pspread_state_timed) rfl rfl]
  by_cases h1 : 0 ≤ s.t.ct
  · by_cases h2 : s.t.ct ≤ 100
    · have hv : validT ⟨s.t.iv, s.t.bg, s.t.fi, 0, s.t.sd⟩ = validT s.t := by simp [validT, h1, h2]
      cases h3 : validT s.t with
      | false =>
        rw [h3] at hv
        have e1 : hearT ⟨s.t.iv, s.t.bg, s.t.fi, 0, s.t.sd⟩ = ⟨s.t.iv, s.t.bg, s.t.fi, 0, s.t.sd⟩ := by rw [hearT, if_neg (by simp [hv])]
        simp (disch := omega) only [m_pspread_state_timed, bC, bD, bH, bZ, wpY', bV, bVD, seval, hh, f0, h1, h2, f_trickle_Hear, e1, Tm.c, h3, and_self]
      | true =>
        rw [h3] at hv
        have e1 : hearT ⟨s.t.iv, s.t.bg, s.t.fi, 0, s.t.sd⟩ = ⟨s.t.iv, s.t.bg, s.t.fi, 1, s.t.sd⟩ := by rw [hearT, if_pos hv]; rfl
        have n1 : ¬ ((s.t.iv = s.t.iv ∧ s.t.bg = s.t.bg ∧ s.t.fi = s.t.fi ∧ (1 : Int) = 0 ∧ s.t.sd = s.t.sd)) := by omega
        simp (disch := omega) only [m_pspread_state_timed, bC, bD, bH, bZ, wpY', bV, bVD, seval, hh, f0, h1, h2, f_trickle_Hear, e1, Tm.c, h3]
    · have h3 : validT s.t = false := by simp [validT]; omega
      simp (disch := omega) only [m_pspread_state_timed, bC, bD, bH, bZ, wpY', bV, bVD, seval, hh, f0, h1, h2, h3]
  · have h3 : validT s.t = false := by simp [validT]; omega
    simp (disch := omega) only [m_pspread_state_timed, bC, bD, bH, bZ, wpY', bV, bVD, seval, hh, f0, h1, h3]
omit hh hid in
theorem sound_size (hs : soundS s = true) : 1 ≤ s.size ∧ s.size ≤ 4096 := (sound_parts hs).1
theorem f_state_valid (W : SpW s) (hf : fresh h nx) : WpF XX .ro n_pspread_state_valid [.ptr id 0] ⟨e, h, nx, ls, wb⟩ K ↔ K (.bool (validS s)) ⟨e, h, nx, ls, wb⟩ := by
  have hh' := hh
  rw [Sp.c] at hh'
  have lr := W.lr
  rw [F_roh (mf := m_pspread_state_valid) rfl rfl]
  unfold validS
  cases h1 : emptyS s with
  | true => simp (disch := omega) only [m_pspread_state_valid, bC, bD, bH, bZ, wpY', bV, bVD, seval, f_state_empty hh hid W, h1]
  | false =>
    cases h2 : soundS s with
    | false => simp (disch := omega) only [m_pspread_state_valid, bC, bD, bH, bZ, wpY', bV, bVD, seval, hh', f_state_empty hh hid W, h1, f_state_sound hh hid W hf, h2]
    | true =>
      have hsz := sound_size h2
      cases h3 : validI s.rows.xs with
      | false => simp (disch := omega) only [m_pspread_state_valid, bC, bD, bH, bZ, wpY', bV, bVD, seval, hh', f_state_empty hh hid W, h1, f_state_sound hh hid W hf, h2, f_solve_Valid (rows := s.rows.xs) (by omega), h3]
      | true =>
        by_cases h4 : s.rows.xs.length < 16
        case neg =>
          have h4' : ¬ (s.rows.xs.length : Int) < 16 := by omega
          simp (disch := omega) only [m_pspread_state_valid, bC, bD, bH, bZ, wpY', bV, bVD, seval, hh', f_state_empty hh hid W, h1, f_state_sound hh hid W hf, h2, f_solve_Valid (rows := s.rows.xs) (by omega), h3, h4, h4']
        have h4' : (s.rows.xs.length : Int) < 16 := by omega
        by_cases h5 : s.rows.xs.length = 0
        · have h5' : (s.rows.xs.length : Int) = 0 := by omega
          have h5'' : ¬ 0 < s.rows.xs.length := by omega
          have h5i : ¬ (0 : Int) < 0 := by omega
          by_cases h6 : s.proof.xs.length = 0
          · have h6' : (s.proof.xs.length : Int) = 0 := by omega
            simp (disch := omega) only [m_pspread_state_valid, bC, bD, bH, bZ, wpY', bV, bVD, seval, hh', f_state_empty hh hid W, h1, f_state_sound hh hid W hf, h2, f_solve_Valid (rows := s.rows.xs) (by omega), h3, h4, h4', h5, h5', h5'', h5i, h6, h6', f_state_timed hh hid hf]
          · have h6' : ¬ (s.proof.xs.length : Int) = 0 := by omega
            simp (disch := omega) only [m_pspread_state_valid, bC, bD, bH, bZ, wpY', bV, bVD, seval, hh', f_state_empty hh hid W, h1, f_state_sound hh hid W hf, h2, f_solve_Valid (rows := s.rows.xs) (by omega), h3, h4, h4', h5, h5', h5'', h5i, h6, h6']
        · have h5' : ¬ (s.rows.xs.length : Int) = 0 := by omega
          have h5'' : 0 < s.rows.xs.length := by omega
          have h5i : (0 : Int) < (s.rows.xs.length : Int) := by omega
          cases h6 : wholeS s with
          | true => simp (disch := omega) only [m_pspread_state_valid, bC, bD, bH, bZ, wpY', bV, bVD, seval, hh', f_state_empty hh hid W, h1, f_state_sound hh hid W hf, h2, f_solve_Valid (rows := s.rows.xs) (by omega), h3, h4, h4', h5, h5', h5'', h5i, f_state_whole hh hid (by omega) (by omega), h6]
          | false => simp (disch := omega) only [m_pspread_state_valid, bC, bD, bH, bZ, wpY', bV, bVD, seval, hh', f_state_empty hh hid W, h1, f_state_sound hh hid W hf, h2, f_solve_Valid (rows := s.rows.xs) (by omega), h3, h4, h4', h5, h5', h5'', h5i, f_state_whole hh hid (by omega) (by omega), h6, f_state_timed hh hid hf]
end
end
end Go.Proofs.YtfmbdcmjgnikiaaGreatDoor.Sm
namespace Go.Proofs.YtfmbdcmjgnikiaaGreatDoor.Sm
open Go Go.RowKit

theorem provedF_inner {dg size : Int} : ∀ {i : Nat} {a a' : List By} {b b' : List (Sl Int)}, inner a = inner a' → inner b = inner b' → provedF dg size i a b = provedF dg size i a' b'
  | i, [], [], b, b', _, _ => by cases b <;> cases b' <;> rfl
  | i, [], _ :: _, b, b', h, _ => by simp [inner] at h
  | i, _ :: _, [], b, b', h, _ => by simp [inner] at h
  | i, p :: a, p' :: a', [], [], h, k => rfl
  | i, p :: a, p' :: a', [], _ :: _, h, k => by simp [inner] at k
  | i, p :: a, p' :: a', _ :: _, [], h, k => by simp [inner] at k
  | i, p :: a, p' :: a', q :: b, q' :: b', h, k => by
    simp only [inner, List.map_cons, List.cons.injEq] at h k
    simp only [provedF, h.1, k.1]
    rw [provedF_inner (i := i + 1) (a := a) (a' := a') (b := b) (b' := b') h.2 k.2]
theorem paged_inner {a a' : List By} (h : inner a = inner a') : pagedI a = pagedI a' := by
  have e : ∀ l : List By, pagedI l = (inner l).all fun p => decide (p.length = 256) := fun l => by simp [pagedI, inner, List.all_map, Function.comp_def]
  rw [e, e, h]
theorem inner_len {α : Type} {a a' : List (Sl α)} (h : inner a = inner a') : a.length = a'.length := by
  have := congrArg List.length h
  simpa [inner] using this
theorem inner_clone {α : Type} (l : List (Sl α)) : inner (l.map cloneB) = inner l := by simp [inner, cloneB, Function.comp_def]
theorem soundI_inner {a b c d : Int} {p p' : List By} {q q' : List (Sl Int)} (h : inner p = inner p') (k : inner q = inner q') : soundI a b c d p q = soundI a b c d p' q' := by
  unfold soundI
  rw [provedF_inner h k, paged_inner h, inner_len h, inner_len k]
theorem fm_clone (r : Rw) : fmB (cloneR r) = fmB r := rfl
theorem scanV_clone : ∀ (l : List Rw) (L last : Nat), scanV (l.map cloneR) L last = scanV l L last
  | [], _, _ => rfl
  | r :: l, L, last => by
    have ih := scanV_clone l
    simp only [List.map_cons, scanV, fm_clone, ih]
    rfl
theorem validI_clone (l : List Rw) : validI (l.map cloneR) = validI l := by
  unfold validI
  rw [scanV_clone]
  cases scanV l 0 65536 with
  | none => rfl
  | some L => simp only [redV, List.all_map]; rfl
theorem slR_ok {α : Type} (l : List α) : (slR l).ok := fun h => by simpa [slR] using h
theorem SpW.copy {s : Sp} (W : SpW s) : SpW (copyS s) where
  lp := by simpa [copyS, slR] using W.lp
  lq := by simpa [copyS, slR] using W.lq
  lr := by simpa [copyS, slR] using W.lr
  lf := W.lf
  hp := fun p hp => by
    obtain ⟨x, hx, rfl⟩ := List.mem_map.1 hp
    exact W.hp x hx
  hq := fun p hp => by
    obtain ⟨x, hx, rfl⟩ := List.mem_map.1 hp
    exact W.hq x hx
  hr := fun p hp => by
    obtain ⟨x, hx, rfl⟩ := List.mem_map.1 hp
    exact W.hr x hx
  np := slR_ok _
  nq := slR_ok _
  nr := slR_ok _
  nf := W.nf

/-! ### hearing -/
def sameN (x : Sp) (a b c d : Int) : Bool := decide (a = x.ver ∧ b = x.size ∧ c = x.dg ∧ d = x.start)
def newT' (sd frame : Int) : Tm := if seedB sd = true ∧ frameB frame = true then newT sd frame else ⟨0, 0, 0, 0, 0⟩
def nilSp (a b c d : Int) (t : Tm) : Sp := ⟨a, b, c, d, nilS, nilS, nilS, nilS, t⟩
def badH (x : Sp) (a b c d pages frame : Int) : Bool := !validS x || (!zeroN a b c d && !noticeI a b d) || decide (pages < 0) || decide (countI b < pages) || decide (frame < 0) || decide (999999984 < frame)
/-- The state after something was heard. -/
def hearG (x : Sp) (a b c d pages frame : Int) : Sp :=
  if badH x a b c d pages frame = true then x
  else if x.ver < a then nilSp a b c d (newT' x.t.sd frame)
  else if a < x.ver ∨ (zeroN a b c d = false ∧ sameN x a b c d = true ∧ pages ≠ x.pages.xs.length) then { x with t := resetT x.t frame }
  else if zeroN a b c d = false ∧ sameN x a b c d = true then { x with t := hearT x.t } else x
theorem valid_seed {x : Sp} (h : validS x = true) : seedB x.t.sd = true := by
  simp only [validS, Bool.or_eq_true, Bool.and_eq_true] at h
  rcases h with h | h
  · simp only [emptyS, Bool.and_eq_true] at h; exact h.2
  · have := valid_parts h.2
    exact seed_iff.2 this.2.2.1
section
variable {ls : List (Nat × LRec)} {Q : Ex → St → Prop} {R : Prop} {st : St} {K : SV → St → Prop}
set_option maxHeartbeats 2000000 in
set_option maxRecDepth 4000 in
theorem f_spread_Hear {s : Sp} (W : SpW s) {a b c d pages frame : Int} :
    WpF XX .ro n_spread_Hear [.agg s.c, .agg [.int .i64 a, .int .i64 b, .int .u64 c, .int .i64 d], .int .i64 pages, .int .i64 frame] st K ↔ K (.agg (hearG (copyS s) a b c d pages frame).c) st := by
  rw [F_ro (mf := m_spread_Hear) rfl rfl]
  simp only [m_spread_Hear, Sp.c, bC, bW, bD, bZ, wpY', bV, bVD, seval]
  refine F_copied W (fun j hj => by simp (disch := omega) only [bC, bD, bH, bZ, wpY', bV, bVD, seval]) fun id h' nx' i1 i2 i3 i4 i5 => ?_
  have W' := W.copy
  have k1 := i4 1 (by omega)
  have k2 := i4 2 (by omega)
  simp (disch := omega) only [bC, bD, bH, bZ, wpY', bV, bVD, seval] at k1 k2
  generalize copyS s = x at i3 W'
  have i3' := i3
  rw [Sp.c] at i3'
  have ev := fun e ls wb K => f_state_valid (ls := ls) (K := K) (e := e) (wb := wb) i3 i2 W' i5
  have z1 : zeroN a b c d = decide (a = 0 ∧ b = 0 ∧ c = 0 ∧ d = 0) := rfl
  have f0 := i5 nx' (Nat.le_refl _)
  unfold hearG badH
  cases h1 : validS x with
  | false =>
    simp (disch := omega) only [bC, bD, bH, bZ, wpY', bV, bVD, seval, k1, k2, i3', ev, h1, Sp.c]
  | true =>
    have hsd := valid_seed h1
    cases hz : zeroN a b c d with
    | true =>
      have hz' : a = 0 ∧ b = 0 ∧ c = 0 ∧ d = 0 := by simpa [zeroN] using hz
      have b0 : 0 ≤ b := by omega
      have b1 : b ≤ 1000000000000 := by omega
      by_cases p1 : pages < 0
      case pos => simp (disch := omega) only [bC, bD, bH, bZ, wpY', bV, bVD, seval, k1, k2, i3', ev, h1, Sp.c, hz, eq_true hz', p1]
      by_cases p2 : countI b < pages
      case pos => simp (disch := omega) only [bC, bD, bH, bZ, wpY', bV, bVD, seval, k1, k2, i3', ev, h1, Sp.c, hz, eq_true hz', p1, p2, f_spread_count b0 b1]
      by_cases p3 : frame < 0
      case pos => simp (disch := omega) only [bC, bD, bH, bZ, wpY', bV, bVD, seval, k1, k2, i3', ev, h1, Sp.c, hz, eq_true hz', p1, p2, p3, f_spread_count b0 b1]
      by_cases p4 : 999999984 < frame
      case pos => simp (disch := omega) only [bC, bD, bH, bZ, wpY', bV, bVD, seval, k1, k2, i3', ev, h1, Sp.c, hz, eq_true hz', p1, p2, p3, p4, f_spread_count b0 b1]
      have hfr : frameB frame = true := frame_iff.2 (by omega)
      by_cases g1 : x.ver < a
      case pos => simp (disch := omega) only [bC, bD, bH, bZ, wpY', bV, bVD, seval, k1, k2, i3', ev, h1, Sp.c, hz, eq_true hz', p1, p2, p3, p4, f_spread_count b0 b1, f0, g1, f_trickle_New, hsd, hfr, newT', nilSp, nilS, Tm.c]
      by_cases g2 : a < x.ver
      case pos => simp (disch := omega) only [bC, bD, bH, bZ, wpY', bV, bVD, seval, k1, k2, i3', ev, h1, Sp.c, hz, eq_true hz', p1, p2, p3, p4, f_spread_count b0 b1, f0, g1, g2, f_trickle_Reset, Tm.c]
      simp (disch := omega) only [bC, bD, bH, bZ, wpY', bV, bVD, seval, k1, k2, i3', ev, h1, Sp.c, hz, eq_true hz', p1, p2, p3, p4, f_spread_count b0 b1, f0, g1, g2]
    | false =>
      have hz' : ¬ (a = 0 ∧ b = 0 ∧ c = 0 ∧ d = 0) := by simpa [zeroN] using hz
      cases hn : noticeI a b d with
      | false => simp (disch := omega) only [bC, bD, bH, bZ, wpY', bV, bVD, seval, k1, k2, i3', ev, h1, Sp.c, hz, hz', f_spread_announced, hn]
      | true =>
        have hsz := notice_size hn
        have b0 : 0 ≤ b := by omega
        have b1 : b ≤ 1000000000000 := by omega
        cases g3 : sameN x a b c d with
        | true =>
          have sm : a = x.ver ∧ b = x.size ∧ c = x.dg ∧ d = x.start := by simpa [sameN] using g3
          have sm := eq_true sm
          by_cases p1 : pages < 0
          case pos => simp (disch := omega) only [bC, bD, bH, bZ, wpY', bV, bVD, seval, k1, k2, i3', ev, h1, Sp.c, hz, hz', f_spread_announced, hn, p1]
          by_cases p2 : countI b < pages
          case pos => simp (disch := omega) only [bC, bD, bH, bZ, wpY', bV, bVD, seval, k1, k2, i3', ev, h1, Sp.c, hz, hz', f_spread_announced, hn, p1, p2, f_spread_count b0 b1]
          by_cases p3 : frame < 0
          case pos => simp (disch := omega) only [bC, bD, bH, bZ, wpY', bV, bVD, seval, k1, k2, i3', ev, h1, Sp.c, hz, hz', f_spread_announced, hn, p1, p2, p3, f_spread_count b0 b1]
          by_cases p4 : 999999984 < frame
          case pos => simp (disch := omega) only [bC, bD, bH, bZ, wpY', bV, bVD, seval, k1, k2, i3', ev, h1, Sp.c, hz, hz', f_spread_announced, hn, p1, p2, p3, p4, f_spread_count b0 b1]
          have hfr : frameB frame = true := frame_iff.2 (by omega)
          by_cases g1 : x.ver < a
          case pos => have := of_eq_true sm; omega
          by_cases g2 : a < x.ver
          case pos => have := of_eq_true sm; omega
          by_cases g4 : pages = (x.pages.xs.length : Int)
          case pos => simp (disch := omega) only [bC, bD, bH, bZ, wpY', bV, bVD, seval, k1, k2, i3', ev, h1, Sp.c, hz, hz', f_spread_announced, hn, p1, p2, p3, p4, f_spread_count b0 b1, f0, g1, g2, g3, eq_true g4, sm, f_trickle_Hear, Tm.c]
          case neg => simp (disch := omega) only [bC, bD, bH, bZ, wpY', bV, bVD, seval, k1, k2, i3', ev, h1, Sp.c, hz, hz', f_spread_announced, hn, p1, p2, p3, p4, f_spread_count b0 b1, f0, g1, g2, g3, g4, sm, f_trickle_Reset, Tm.c]
        | false =>
          have sm : ¬ (a = x.ver ∧ b = x.size ∧ c = x.dg ∧ d = x.start) := by simpa [sameN] using g3
          by_cases p1 : pages < 0
          case pos => simp (disch := omega) only [bC, bD, bH, bZ, wpY', bV, bVD, seval, k1, k2, i3', ev, h1, Sp.c, hz, hz', f_spread_announced, hn, p1]
          by_cases p2 : countI b < pages
          case pos => simp (disch := omega) only [bC, bD, bH, bZ, wpY', bV, bVD, seval, k1, k2, i3', ev, h1, Sp.c, hz, hz', f_spread_announced, hn, p1, p2, f_spread_count b0 b1]
          by_cases p3 : frame < 0
          case pos => simp (disch := omega) only [bC, bD, bH, bZ, wpY', bV, bVD, seval, k1, k2, i3', ev, h1, Sp.c, hz, hz', f_spread_announced, hn, p1, p2, p3, f_spread_count b0 b1]
          by_cases p4 : 999999984 < frame
          case pos => simp (disch := omega) only [bC, bD, bH, bZ, wpY', bV, bVD, seval, k1, k2, i3', ev, h1, Sp.c, hz, hz', f_spread_announced, hn, p1, p2, p3, p4, f_spread_count b0 b1]
          have hfr : frameB frame = true := frame_iff.2 (by omega)
          by_cases g1 : x.ver < a
          case pos => simp (disch := omega) only [bC, bD, bH, bZ, wpY', bV, bVD, seval, k1, k2, i3', ev, h1, Sp.c, hz, hz', f_spread_announced, hn, p1, p2, p3, p4, f_spread_count b0 b1, f0, g1, sm, f_trickle_New, hsd, hfr, newT', nilSp, nilS, Tm.c]
          by_cases g2 : a < x.ver
          case pos => simp (disch := omega) only [bC, bD, bH, bZ, wpY', bV, bVD, seval, k1, k2, i3', ev, h1, Sp.c, hz, hz', f_spread_announced, hn, p1, p2, p3, p4, f_spread_count b0 b1, f0, g1, g2, sm, f_trickle_Reset, Tm.c]
          simp (disch := omega) only [bC, bD, bH, bZ, wpY', bV, bVD, seval, k1, k2, i3', ev, h1, Sp.c, hz, hz', f_spread_announced, hn, p1, p2, p3, p4, f_spread_count b0 b1, f0, g1, g2, g3, sm]
end
end Go.Proofs.YtfmbdcmjgnikiaaGreatDoor.Sm
namespace Go.Proofs.YtfmbdcmjgnikiaaGreatDoor.Sm
open Go Go.RowKit

def dataB (b : Bl) : Bool := pageB b.page && seedB b.seed && decide (b.data.xs.length = 16)
/-- Why a block is refused. -/
def refusedI (x : Sp) (b : Bl) : Int :=
  if validS x = true ∧ dataB b = true then
    (if emptyS x = true then 4 else if wholeS x = true then 10 else if b.page < x.pages.xs.length then 14 else if (x.pages.xs.length : Int) < b.page then 6
      else if 0 < x.rows.xs.length ∧ b.proof.xs ≠ x.proof.xs then 12 else 0)
  else 1
def anewS (x : Sp) : Sp := { x with rows := nilS, proof := nilS }
def withS (x : Sp) (r : Sl Rw) (f : Sl Int) : Sp := { x with rows := r, proof := f }
def putOK (y : Sp) (p : List UInt8) (f : List Int) : Bool := soundS y && decide (p.length = 256) && !wholeS y && checkI y.dg (countI y.size) y.pages.xs.length p f
def pushS (y : Sp) (p : By) (f : Sl Int) : Sp := { y with pages := ⟨(y.pages.xs ++ [p]).map cloneB, false, false⟩, proofs := ⟨(y.proofs.xs ++ [f]).map cloneB, false, false⟩, rows := nilS, proof := nilS }
def errP (y : Sp) (p : List UInt8) : Int := if soundS y = false ∨ p.length ≠ 256 then 1 else if wholeS y = true then 10 else 12
def endG (y : Sp) (p : List UInt8) (f : Sl Int) : Sp × Int := if putOK y p f.xs = true then (pushS y ⟨p, false, false⟩ f, 0) else (anewS y, 12)
def addG (x : Sp) (b : Bl) (r : Sl Rw) (y : Sp) : Sp × Int := match pageR r.xs with
  | none => (y, 0)
  | some p => endG y p b.proof
/-- The state after a block, and the error. -/
def recvG (x : Sp) (b : Bl) : Sp × Int :=
  if refusedI x b ≠ 0 then (x, refusedI x b)
  else if (recvR x.rows.xs b).2.2 ≠ 0 then (anewS x, (recvR x.rows.xs b).2.2)
  else addG x b (recvR x.rows.xs b).1 (withS x (recvR x.rows.xs b).1 (cloneB b.proof))
structure BlW (b : Bl) : Prop where
  hd : b.data.ok
  ld : b.data.xs.length ≤ 100000
  hp : b.proof.ok
  lp : b.proof.xs.length ≤ 1000
theorem insE_len : ∀ (e : En) (l : List En) (p : Bool), (insE e l p).length ≤ l.length + 1
  | e, [], p => by unfold insE; split <;> simp
  | e, r :: l, p => by
    unfold insE
    split
    · have : ∀ l, (insE e l true).length = l.length := fun l => by
        induction l with
        | nil => rfl
        | cons r l ih => unfold insE; rw [if_neg (by simp)]; simp [ih]
      simp [this]
    · have := insE_len e l p
      simp; omega
theorem addR_rows (rows : List Rw) (x : Rw) : (∃ l : List En, (addR rows x).1 = slR (l.map rowE) ∧ l.length ≤ rows.length + 1) ∨ (addR rows x).1 = nilS := by
  unfold addR
  split
  · simp only
    split
    · split
      · exact .inl ⟨_, rfl, by simp⟩
      · exact .inr rfl
    · exact .inl ⟨_, rfl, by have := insE_len (redE (rows.map enR) (enR x)) (rows.map enR) false; simpa using this⟩
  · exact .inr rfl
theorem recvR_rows (rows : List Rw) (b : Bl) : (∃ l : List En, (recvR rows b).1 = slR (l.map rowE) ∧ l.length ≤ rows.length + 1) ∨ (recvR rows b).1 = nilS := by
  unfold recvR
  split
  · exact addR_rows _ _
  · exact .inr rfl
theorem recvR_len (rows : List Rw) (b : Bl) : (recvR rows b).1.xs.length ≤ rows.length + 1 := by
  rcases recvR_rows rows b with ⟨l, e, h⟩ | e
  · rw [e]; simpa [slR] using h
  · rw [e]; simp [nilS]
theorem recv_W {x : Sp} {b : Bl} (W : SpW x) (B : BlW b) (hl : x.rows.xs.length < 1000) : SpW (withS x (recvR x.rows.xs b).1 (cloneB b.proof)) where
  lp := W.lp
  lq := W.lq
  lr := by have := recvR_len x.rows.xs b; show (recvR x.rows.xs b).1.xs.length ≤ 1000; omega
  lf := B.lp
  hp := W.hp
  hq := W.hq
  hr := fun r hr => by
    have hr : r ∈ (recvR x.rows.xs b).1.xs := hr
    rcases recvR_rows x.rows.xs b with ⟨l, e, h⟩ | e
    · rw [e] at hr
      obtain ⟨a, _, rfl⟩ := List.mem_map.1 hr
      exact ⟨fun h => (nomatch h), by show a.b.l.length ≤ _; rw [a.b.h]; omega⟩
    · rw [e] at hr; cases hr
  np := W.np
  nq := W.nq
  nr := by
    show (recvR x.rows.xs b).1.ok
    rcases recvR_rows x.rows.xs b with ⟨l, e, h⟩ | e
    · rw [e]; exact slR_ok _
    · rw [e]; intro _; rfl
  nf := B.hp
theorem pgB_16 (rows : List Rw) : (pgB rows 16).length ≤ 256 := pgB_len rows 16
theorem pageR_len {rows : List Rw} {p : List UInt8} (h : pageR rows = some p) : p.length ≤ 256 := by
  unfold pageR at h
  split at h
  · cases h; exact pgB_16 rows
  · cases h
theorem errP_ne (y : Sp) (p : List UInt8) : ¬ errP y p = 0 := by
  unfold errP
  split
  · omega
  · split <;> omega
section
variable {ls : List (Nat × LRec)} {Q : Ex → St → Prop} {R : Prop} {st : St} {K : SV → St → Prop}
theorem L_Equal {h : Heap} {nx wb : Nat} {a b : List Int} {n1 g1 n2 g2 : Bool} (ha : a.length < 4611686018427387904) (hl : a.length = b.length) : ∀ (d k : Nat), k + d = a.length →
    (a.drop k = b.drop k → (Q (.exit 0) ⟨[], h, nx, ls, wb⟩ ↔ R)) → (a.drop k ≠ b.drop k → ∀ e, getE e 4 = .bool false → (Q .ret ⟨e, h, nx, ls, wb⟩ ↔ R)) →
    (L_slices_Equal_suint64_uint64_0 XX (.tree (a.map uV) n1 g1) (.tree (b.map uV) n2 g2) (.int .i64 a.length) (.int .i64 k) h nx ls wb Q ↔ R) := by
  intro d
  induction d with
  | zero =>
    intro k hk q1 q2
    obtain rfl : k = a.length := by omega
    rw [L_slices_Equal_suint64_uint64_0_unf]
    simp only [b_slices_Equal_suint64_uint64_0, bC, bW, bZ, wpY', bV, seval, Int.lt_irrefl]
    exact q1 (by rw [List.drop_length, hl, List.drop_length])
  | succ d ih =>
    intro k hk q1 q2
    have hlt : k < a.length := by omega
    obtain ⟨c, hc, hd⟩ := get_some hlt
    obtain ⟨c', hc', hd'⟩ := get_some (l := b) (k := k) (by omega)
    rw [L_slices_Equal_suint64_uint64_0_unf]
    have hlb : ((k : Int) < (b.length : Int)) = True := lt_c (by omega)
    by_cases hcc : c = c'
    · simp only [b_slices_Equal_suint64_uint64_0, bC, bW, bD, bZ, wpY', bV, bVD, seval, lt_c hlt, hlb, hc, hc', uV_eq, hcc, L_slices_Equal_suint64_uint64_0_eq, wi_s hlt (by omega)]
      rw [hd, hd'] at q1 q2; simp only [ne_eq, cons_eq_iff] at q1 q2
      exact ih (k + 1) (by omega) (fun e => q1 ⟨hcc, e⟩) (fun e => q2 fun e' => e e'.2)
    · simp only [b_slices_Equal_suint64_uint64_0, bC, bW, bD, bZ, wpY', bV, bVD, seval, lt_c hlt, hlb, hc, hc', uV_eq, hcc]
      rw [hd, hd'] at q2; simp only [ne_eq, cons_eq_iff] at q2
      exact q2 (fun e => hcc e.1) _ rfl
theorem f_slices_Equal {a b : List Int} {n1 g1 n2 g2 : Bool} (ha : a.length < 4611686018427387904) : WpF XX .ro n_slices_Equal_suint64_uint64 [.tree (a.map uV) n1 g1, .tree (b.map uV) n2 g2] st K ↔ K (.bool (decide (a = b))) st := by
  rw [F_ro (mf := m_slices_Equal_suint64_uint64) rfl rfl]
  by_cases hl : a.length = b.length
  · have hl' : (a.length : Int) = (b.length : Int) := by omega
    simp only [m_slices_Equal_suint64_uint64, bC, bW, bZ, wpY', bV, seval, eq_true hl', L_slices_Equal_suint64_uint64_0_eq]
    refine L_Equal ha hl a.length 0 (by omega) (fun e => ?_) (fun e en he => ?_)
    · have e : a = b := e
      simp only [bC, bW, bZ, wpY', bV, seval, e]
    · have e : ¬ a = b := e
      simp only [bC, bW, bZ, wpY', bV, seval, e, he]
  · have hn : ¬ a = b := fun e => hl (by rw [e])
    have hl' : ¬ ((a.length : Int) = (b.length : Int)) := by omega
    simp only [m_slices_Equal_suint64_uint64, bC, bW, bZ, wpY', bV, seval, hl', hn]
theorem f_Put_S {y : Sp} (W : SpW y) {p : By} {f : Sl Int} (hp : p.xs.length ≤ 100000) (ho : p.ok) (hf : f.xs.length ≤ 1000) (ho' : f.ok) :
    WpF XX .ro n_image_Put [.agg y.c, .tree (p.xs.map b8) p.nl p.tg, .tree (f.xs.map uV) f.nl f.tg] st K ↔ K (if putOK y p.xs f.xs = true then .tup [.agg (pushS y p f).c, .int .i64 0] else .tup [.agg Zi2w1i1t4i5, .int .i64 (errP y p.xs)]) st := by
  have ep := f_image_Put (st := st) (K := K) (ver := y.ver) (size := y.size) (dg := y.dg) (start := y.start) (pages := y.pages.xs) (n1 := y.pages.nl) (g1 := y.pages.tg) (proofs := y.proofs.xs) (n2 := y.proofs.nl) (g2 := y.proofs.tg) (rows := y.rows.xs) (n3 := y.rows.nl) (g3 := y.rows.tg) (proof := y.proof.xs) (n4 := y.proof.nl) (g4 := y.proof.tg) (iv := y.t.iv) (bg := y.t.bg) (fi := y.t.fi) (ct := y.t.ct) (sd := y.t.sd) (page := p.xs) (n5 := p.nl) (g5 := p.tg) (pf := f.xs) (n6 := f.nl) (g6 := f.tg) W.ok (by omega) ho (by omega) ho'
  refine ep.trans ?_
  have e : (if soundI y.ver y.size y.dg y.start y.pages.xs y.proofs.xs = false ∨ p.xs.length ≠ 256 then (SV.tup [.agg [.int .i64 0, .int .i64 0, .int .u64 0, .int .i64 0, .tree [] true true, .tree [] true true, .tree [] true true, .tree [] true true, .int .i64 0, .int .i64 0, .int .i64 0, .int .i64 0, .int .i64 0], .int .i64 1]) else if (y.pages.xs.length : Int) = countI y.size then .tup [.agg [.int .i64 0, .int .i64 0, .int .u64 0, .int .i64 0, .tree [] true true, .tree [] true true, .tree [] true true, .tree [] true true, .int .i64 0, .int .i64 0, .int .i64 0, .int .i64 0, .int .i64 0], .int .i64 10]
      else if checkI y.dg (countI y.size) y.pages.xs.length p.xs f.xs = false then .tup [.agg [.int .i64 0, .int .i64 0, .int .u64 0, .int .i64 0, .tree [] true true, .tree [] true true, .tree [] true true, .tree [] true true, .int .i64 0, .int .i64 0, .int .i64 0, .int .i64 0, .int .i64 0], .int .i64 12]
      else .tup [.agg (pushS y p f).c, .int .i64 0]) = (if putOK y p.xs f.xs = true then .tup [.agg (pushS y p f).c, .int .i64 0] else .tup [.agg Zi2w1i1t4i5, .int .i64 (errP y p.xs)]) := by
    unfold putOK errP wholeS soundS
    cases h1 : soundI y.ver y.size y.dg y.start y.pages.xs y.proofs.xs with
    | false => simp [Zi2w1i1t4i5_eq]
    | true =>
      by_cases h2 : p.xs.length = 256
      · by_cases h3 : (y.pages.xs.length : Int) = countI y.size
        · simp [Zi2w1i1t4i5_eq, h2, h3]
        · cases h4 : checkI y.dg (countI y.size) y.pages.xs.length p.xs f.xs <;> simp [Zi2w1i1t4i5_eq, h2, h3]
      · simp [Zi2w1i1t4i5_eq, h2]
  exact Iff.of_eq (congrArg (fun v => K v st) e)
section
variable {s : Sp} {b : Bl} {id : Nat} {e : Env} {h : Heap} {nx wb : Nat} (hh : look h id = some s.c) (hid : id < nx)
include hh hid
set_option maxHeartbeats 1000000 in
theorem f_state_refused (W : SpW s) (B : BlW b) (hf : fresh h nx) : WpF XX .ro n_pspread_state_refused [.ptr id 0, .agg b.c] ⟨e, h, nx, ls, wb⟩ K ↔ K (.int .i64 (refusedI s b)) ⟨e, h, nx, ls, wb⟩ := by
  have f0 := hf nx (Nat.le_refl _)
  have hh' := hh
  rw [Sp.c] at hh'
  have lp := B.lp
  rw [F_roh (mf := m_pspread_state_refused) rfl rfl]
  have hb : look ((nx, b.c) :: h) id = some s.c := by rw [look_ne (by omega)]; exact hh
  have hfb : fresh ((nx, b.c) :: h) (nx + 1) := fun j hj => by rw [look_ne (by omega)]; exact hf j (by omega)
  rw [Bl.c] at hb hfb
  have ev := fun e ls wb K => f_state_valid (ls := ls) (K := K) (e := e) (wb := wb) hb (by omega) W hfb
  have ee := fun e ls wb K => f_state_empty (ls := ls) (K := K) (e := e) (wb := wb) hb (show id < nx + 1 by omega) W
  unfold refusedI dataB pageB seedB
  cases h1 : validS s with
  | false => simp (disch := omega) only [m_pspread_state_refused, Bl.c, bC, bD, bH, bZ, wpY', bV, bVD, seval, ev, h1]
  | true =>
    by_cases p1 : b.page < 0
    case pos =>
      have p1' : ¬ 0 ≤ b.page := by omega
      simp (disch := omega) only [m_pspread_state_refused, Bl.c, bC, bD, bH, bZ, wpY', bV, bVD, seval, ev, h1, p1, p1']
    have p1' : 0 ≤ b.page := by omega
    by_cases p2 : 16 ≤ b.page
    case pos =>
      have p2' : ¬ b.page < 16 := by omega
      simp (disch := omega) only [m_pspread_state_refused, Bl.c, bC, bD, bH, bZ, wpY', bV, bVD, seval, ev, h1, p1, p1', p2, p2']
    have p2' : b.page < 16 := by omega
    by_cases p3 : b.seed < 0
    case pos =>
      have p3' : ¬ 0 ≤ b.seed := by omega
      simp (disch := omega) only [m_pspread_state_refused, Bl.c, bC, bD, bH, bZ, wpY', bV, bVD, seval, ev, h1, p1, p1', p2, p2', p3, p3']
    have p3' : 0 ≤ b.seed := by omega
    by_cases p4 : 1000000000 < b.seed
    case pos =>
      have p4' : ¬ b.seed ≤ 1000000000 := by omega
      simp (disch := omega) only [m_pspread_state_refused, Bl.c, bC, bD, bH, bZ, wpY', bV, bVD, seval, ev, h1, p1, p1', p2, p2', p3, p3', p4, p4']
    have p4' : b.seed ≤ 1000000000 := by omega
    by_cases p5 : b.data.xs.length = 16
    case neg =>
      have p5' : ¬ (b.data.xs.length : Int) = 16 := by omega
      simp (disch := omega) only [m_pspread_state_refused, Bl.c, bC, bD, bH, bZ, wpY', bV, bVD, seval, ev, h1, p1, p1', p2, p2', p3, p3', p4, p4', p5, p5']
    have p5' : (b.data.xs.length : Int) = 16 := by omega
    cases h2 : emptyS s with
    | true => simp (disch := omega) only [m_pspread_state_refused, Bl.c, bC, bD, bH, bZ, wpY', bV, bVD, seval, ev, h1, p1, p1', p2, p2', p3, p3', p4, p4', p5, eq_true p5', ee, h2]
    | false =>
      have hsz : 1 ≤ s.size ∧ s.size ≤ 4096 := by
        simp only [validS, h2, Bool.false_or, Bool.and_eq_true] at h1
        exact sound_size h1.1.1.1.1.1
      have ew := fun e ls wb K => f_state_whole (ls := ls) (K := K) (e := e) (wb := wb) hb (show id < nx + 1 by omega) (by omega) (by omega)
      cases h3 : wholeS s with
      | true => simp (disch := omega) only [m_pspread_state_refused, Bl.c, bC, bD, bH, bZ, wpY', bV, bVD, seval, ev, h1, p1, p1', p2, p2', p3, p3', p4, p4', p5, eq_true p5', ee, h2, ew, h3]
      | false =>
        by_cases p6 : b.page < (s.pages.xs.length : Int)
        case pos => simp (disch := omega) only [m_pspread_state_refused, Bl.c, bC, bD, bH, bZ, wpY', bV, bVD, seval, ev, h1, p1, p1', p2, p2', p3, p3', p4, p4', p5, eq_true p5', ee, h2, ew, h3, hh', p6]
        by_cases p7 : (s.pages.xs.length : Int) < b.page
        case pos => simp (disch := omega) only [m_pspread_state_refused, Bl.c, bC, bD, bH, bZ, wpY', bV, bVD, seval, ev, h1, p1, p1', p2, p2', p3, p3', p4, p4', p5, eq_true p5', ee, h2, ew, h3, hh', p6, p7]
        by_cases p8 : 0 < s.rows.xs.length
        case neg =>
          have p8' : ¬ (0 : Int) < (s.rows.xs.length : Int) := by omega
          simp (disch := omega) only [m_pspread_state_refused, Bl.c, bC, bD, bH, bZ, wpY', bV, bVD, seval, ev, h1, p1, p1', p2, p2', p3, p3', p4, p4', p5, eq_true p5', ee, h2, ew, h3, hh', p6, p7, p8, p8']
        have p8' : (0 : Int) < (s.rows.xs.length : Int) := by omega
        by_cases p9 : b.proof.xs = s.proof.xs
        · simp (disch := omega) only [m_pspread_state_refused, Bl.c, bC, bD, bH, bZ, wpY', bV, bVD, seval, ev, h1, p1, p1', p2, p2', p3, p3', p4, p4', p5, eq_true p5', ee, h2, ew, h3, hh', p6, p7, p8, p8', f_slices_Equal (a := b.proof.xs) (by omega), eq_true p9]
        · simp (disch := omega) only [m_pspread_state_refused, Bl.c, bC, bD, bH, bZ, wpY', bV, bVD, seval, ev, h1, p1, p1', p2, p2', p3, p3', p4, p4', p5, eq_true p5', ee, h2, ew, h3, hh', p6, p7, p8, p8', f_slices_Equal (a := b.proof.xs) (by omega), p9]
end
set_option maxHeartbeats 1000000 in
theorem f_spread_Receive {s : Sp} {b : Bl} (W : SpW s) (B : BlW b) :
    WpF XX .ro n_spread_Receive [.agg s.c, .agg b.c] st K ↔ K (.tup [.agg (recvG (copyS s) b).1.c, .int .i64 (recvG (copyS s) b).2]) st := by
  rw [F_ro (mf := m_spread_Receive) rfl rfl]
  simp only [m_spread_Receive, Sp.c, Bl.c, bC, bW, bD, bZ, wpY', bV, bVD, seval]
  refine F_copied W (fun j hj => by simp (disch := omega) only [bC, bD, bH, bZ, wpY', bV, bVD, seval]) fun id h' nx' i1 i2 i3 i4 i5 => ?_
  have W' := W.copy
  have k1 := i4 1 (by omega)
  have k2 := i4 2 (by omega)
  simp (disch := omega) only [bC, bD, bH, bZ, wpY', bV, bVD, seval] at k1 k2
  generalize copyS s = x at i3 W'
  have i3' := i3
  rw [Sp.c] at i3'
  have er := fun e ls wb K => f_state_refused (b := b) (ls := ls) (K := K) (e := e) (wb := wb) i3 i2 W' B i5
  rw [Bl.c] at er
  have f0 := i5 nx' (Nat.le_refl _)
  have lr := W'.lr
  unfold recvG
  by_cases h1 : refusedI x b = 0
  case neg =>
    simp (disch := omega) only [bC, bD, bH, bZ, wpY', bV, bVD, seval, k1, k2, i3', er, h1, Sp.c]
  have e2 := fun st K => f_fountain_Receive (st := st) (K := K) (rows := x.rows.xs) (nl := x.rows.nl) (tg := x.rows.tg) (b := b) lr
  rw [Bl.c] at e2
  by_cases h2 : (recvR x.rows.xs b).2.2 = 0
  case neg =>
    simp (disch := omega) only [bC, bD, bH, bZ, wpY', bV, bVD, seval, k1, k2, i3', er, eq_true h1, Sp.c, e2, h2, F_rw (X := XX) (f := n_pspread_state_anew) (mf := m_pspread_state_anew) rfl, m_pspread_state_anew, anewS, nilS, f0]
  have hlt : x.rows.xs.length < 1000 := by
    have hv : validS x = true := by
      unfold refusedI at h1
      split at h1
      · rename_i h; exact h.1
      · omega
    simp only [validS, Bool.or_eq_true, Bool.and_eq_true, decide_eq_true_eq] at hv
    rcases hv with hv | hv
    · simp only [emptyS, lensS, Bool.and_eq_true, decide_eq_true_eq] at hv
      have := of_decide_eq_true hv.1.1.2
      omega
    · have := hv.1.1.1.2
      omega
  have hrl := recvR_len x.rows.xs b
  have W2 := recv_W W' B hlt
  have e3 := fun st K => f_fountain_Page (st := st) (K := K) (rows := (recvR x.rows.xs b).1.xs) (nl := (recvR x.rows.xs b).1.nl) (tg := (recvR x.rows.xs b).1.tg) (by omega)
  have e4 := fun st K => f_u64_Clone (st := st) (K := K) (b := b.proof.xs) (nl := b.proof.nl) (tg := b.proof.tg) B.hp (by have := B.lp; omega)
  cases h3 : pageR (recvR x.rows.xs b).1.xs with
  | none =>
    have eG : addG x b (recvR x.rows.xs b).1 (withS x (recvR x.rows.xs b).1 (cloneB b.proof)) = (withS x (recvR x.rows.xs b).1 (cloneB b.proof), 0) := by unfold addG; rw [h3]
    rw [eG]
    simp (disch := omega) only [bC, bD, bH, bZ, wpY', bV, bVD, seval, k1, k2, i3', er, eq_true h1, Sp.c, e2, eq_true h2, Sl.v, e3, h3, e4, optP, withS, cloneB]
  | some p =>
    have e5 := fun st K => f_Put_S (st := st) (K := K) (y := withS x (recvR x.rows.xs b).1 (cloneB b.proof)) W2 (p := ⟨p, false, false⟩) (f := b.proof) (by have := pageR_len h3; show p.length ≤ _; omega) (fun h => nomatch h) B.lp B.hp
    have hne := errP_ne (withS x (recvR x.rows.xs b).1 (cloneB b.proof)) p
    cases h4 : putOK (withS x (recvR x.rows.xs b).1 (cloneB b.proof)) p b.proof.xs with
    | false =>
      have eG : addG x b (recvR x.rows.xs b).1 (withS x (recvR x.rows.xs b).1 (cloneB b.proof)) = (anewS (withS x (recvR x.rows.xs b).1 (cloneB b.proof)), 12) := by
        unfold addG; rw [h3]; simp only; unfold endG; rw [if_neg (by rw [h4]; simp)]
      rw [eG]
      simp only [h4, Bool.false_eq_true, if_false] at e5
      simp only [Sp.c, withS, cloneB] at e5 hne
      simp (disch := omega) only [bC, bD, bH, bZ, wpY', bV, bVD, seval, k1, k2, i3', er, eq_true h1, Sp.c, e2, eq_true h2, Sl.v, e3, h3, e4, optP, withS, cloneB, e5, hne, f0, F_rw (X := XX) (f := n_pspread_state_anew) (mf := m_pspread_state_anew) rfl, m_pspread_state_anew, anewS, nilS]
    | true =>
      have eG : addG x b (recvR x.rows.xs b).1 (withS x (recvR x.rows.xs b).1 (cloneB b.proof)) = (pushS (withS x (recvR x.rows.xs b).1 (cloneB b.proof)) ⟨p, false, false⟩ b.proof, 0) := by
        unfold addG; rw [h3]; simp only; unfold endG; rw [if_pos h4]
      rw [eG]
      simp only [h4, if_true] at e5
      generalize pushS (withS x (recvR x.rows.xs b).1 (cloneB b.proof)) ⟨p, false, false⟩ b.proof = P at e5 ⊢
      simp only [Sp.c, withS, cloneB] at e5
      simp (disch := omega) only [bC, bD, bH, bZ, wpY', bV, bVD, seval, k1, k2, i3', er, eq_true h1, Sp.c, e2, eq_true h2, Sl.v, e3, h3, e4, optP, withS, cloneB, e5, f0]
end
end Go.Proofs.YtfmbdcmjgnikiaaGreatDoor.Sm
namespace Go.Proofs.YtfmbdcmjgnikiaaGreatDoor.Sm
open Go Go.RowKit

/-- A near node: what it told, among its other cells. -/
structure Nr where
  c : List SV
  ver : Int
  size : Int
  dg : Int
  start : Int
  pages : Int
  hl : c.length = 31
  hn : List.take 4 (List.drop 20 c) = [.int .i64 ver, .int .i64 size, .int .u64 dg, .int .i64 start]
  hp : c[24]? = some (.int .i64 pages)
  pl : c.all pl1 = true
  cB : c.all cellB = true
def Nr.v (n : Nr) : SV := .agg n.c
def nearB (x : Sp) (n : Nr) : Bool := decide (n.ver = x.ver ∧ n.size = x.size ∧ n.dg = x.dg ∧ n.start = x.start)
def leastG (x : Sp) (near : List Nr) : Int := near.foldl (fun p n => if nearB x n = true then min p n.pages else p) (x.pages.xs.length : Int)
def timeS (x : Sp) (t : Tm) : Sp := { x with t := t }
def seedV (frame sd : Int) : Int := (64 * frame + sd % 64) % 1000000001
def pageAt (x : Sp) (p : Int) : By := (x.pages.xs[p.toNat]?).getD nilS
def proofAt (x : Sp) (p : Int) : Sl Int := (x.proofs.xs[p.toNat]?).getD nilS
def blockS (x : Sp) (frame p : Int) : Bl := { (encR (pageAt x p).xs p (seedV frame x.t.sd)).1 with proof := cloneB (proofAt x p) }
/-- The state after a frame, the block that is served, and whether one is. -/
def serveG (x : Sp) (near : List Nr) (frame : Int) : Sp × Bl × Bool :=
  if validS x = true ∧ emptyS x = false ∧ frameB frame = true then
    (if (tickT x.t frame).2 = true ∧ 0 ≤ leastG x near ∧ leastG x near < x.pages.xs.length then (timeS x (tickT x.t frame).1, blockS (timeS x (tickT x.t frame).1) frame (leastG x near), true)
      else (timeS x (tickT x.t frame).1, zeroB, false))
  else (x, zeroB, false)
theorem setc_31 (n : Nr) : setc Zi12t4f1t3i2w1i5t2f1 0 n.c = n.c := by
  have hz : Zi12t4f1t3i2w1i5t2f1.length = 31 := rfl
  rw [setc_0 _ _ (by rw [n.hl, hz]; omega), List.drop_eq_nil_of_le (by rw [n.hl, hz]; omega), List.append_nil]
section
variable {ls : List (Nat × LRec)} {Q : Ex → St → Prop} {R : Prop} {st : St} {K : SV → St → Prop}
theorem L_lack {near : List Nr} {nl tg : Bool} {x : Sp} {re : Env} {l m pb id N0 : Nat} {h0 : Heap} (h12 : getE re 12 = .ptr m 0) (hl : near.length < 4611686018427387904) (hm : m < N0) (hpb : pb < N0) (hid : id < N0) (hmp : m ≠ pb) (hmi : m ≠ id) (hlN : l < N0)
    (e1 : look h0 pb = some [.ptr id 0]) (e2 : look h0 id = some x.c) : ∀ (d k : Nat) (p : Int) (h : Heap) (nx : Nat), k + d = near.length → look h m = some [.int .i64 p] → (∀ j, j < N0 → j ≠ m → look h j = look h0 j) → N0 ≤ nx → fresh h nx →
      leastG x near = (near.drop k).foldl (fun p n => if nearB x n = true then min p n.pages else p) p →
    (∀ h' nx', look h' m = some [.int .i64 (leastG x near)] → (∀ j, j < N0 → j ≠ m → look h' j = look h0 j) → N0 ≤ nx' → fresh h' nx' → (Q (.exit 0) ⟨[], h', nx', (l, ⟨re, [62], a_spread_Serve_0, y_spread_Serve_0, 0, .norm⟩) :: ls, 0⟩ ↔ R)) →
    (L_pspread_state_lacking_1_0 XX (.yld l) (.ptr pb 0) (.tree (near.map Nr.v) nl tg) (.int .i64 near.length) (.int .i64 k) h nx ((l, ⟨re, [62], a_spread_Serve_0, y_spread_Serve_0, 0, .norm⟩) :: ls) 0 Q ↔ R) := by
  intro d
  induction d with
  | zero =>
    intro k p h nx hk a1 a2 a3 a4 a5 q
    obtain rfl : k = near.length := by omega
    rw [L_pspread_state_lacking_1_0_unf]
    simp only [b_pspread_state_lacking_1_0, bC, bD, bH, bZ, bV, bVD, Nat.add_assoc, seval, Int.lt_irrefl]
    rw [List.drop_length] at a5
    have a5 : leastG x near = p := a5
    exact q h nx (by rw [a5]; exact a1) a2 a3 a4
  | succ d ih =>
    intro k p h nx hk a1 a2 a3 a4 a5 q
    have hlt : k < near.length := by omega
    obtain ⟨n, hn, hd⟩ := get_some hlt
    have hx : (near.map Nr.v)[k]? = some (.agg n.c) := by rw [List.getElem?_map, hn]; rfl
    have hs := setc_31 n
    simp only [Zi12t4f1t3i2w1i5t2f1_eq] at hs
    have htk : List.take 31 n.c = n.c := List.take_of_length_le (by rw [n.hl]; omega)
    have hln := n.hl
    have hnn := n.hn
    have hnp := n.hp
    have hcb := n.cB
    have hfn := a4 nx (Nat.le_refl _)
    have b1 := a2 pb hpb (by omega)
    have b2 := a2 id hid (by omega)
    rw [e1] at b1
    rw [e2, Sp.c] at b2
    rw [hd, List.foldl_cons] at a5
    rw [L_pspread_state_lacking_1_0_unf]
    by_cases h1 : n.ver = x.ver ∧ n.size = x.size ∧ n.dg = x.dg ∧ n.start = x.start
    · have hb : nearB x n = true := by simp [nearB, h1]
      rw [if_pos hb] at a5
      have hmin : (if n.pages < p then n.pages else p) = min p n.pages := by omega
      simp (disch := omega) only [b_pspread_state_lacking_1_0, bC, bD, bH, bZ, wpY', bV, bVD, seval, a_spread_Serve_0, y_spread_Serve_0, lt_c hlt, hx, hln, htk, hs, hcb, hnn, hnp, hfn, b1, b2, eq_true h1, h12, a1, hmin, wi_s hlt (by omega), L_pspread_state_lacking_1_0_eq]
      refine ih (k + 1) (min p n.pages) _ (nx + 1) (by omega) ?_ (fun j hj hjm => ?_) (by omega) (fun j hj => ?_) a5 q
      · simp (disch := omega) only [bC, bD, bH, bZ, wpY', bV, bVD, seval, a1]
      · simp (disch := omega) only [bC, bD, bH, bZ, wpY', bV, bVD, seval]; exact a2 j hj hjm
      · simp (disch := omega) only [bC, bD, bH, bZ, wpY', bV, bVD, seval]; exact a4 j (by omega)
    · have hb : ¬ nearB x n = true := by simp [nearB, h1]
      rw [if_neg hb] at a5
      simp (disch := omega) only [b_pspread_state_lacking_1_0, bC, bD, bH, bZ, wpY', bV, bVD, seval, lt_c hlt, hx, hln, htk, hs, hcb, hnn, hnp, hfn, b1, b2, h1, wi_s hlt (by omega), L_pspread_state_lacking_1_0_eq]
      refine ih (k + 1) p _ (nx + 1) (by omega) ?_ (fun j hj hjm => ?_) (by omega) (fun j hj => ?_) a5 q
      · simp (disch := omega) only [bC, bD, bH, bZ, wpY', bV, bVD, seval, a1]
      · simp (disch := omega) only [bC, bD, bH, bZ, wpY', bV, bVD, seval]; exact a2 j hj hjm
      · simp (disch := omega) only [bC, bD, bH, bZ, wpY', bV, bVD, seval]; exact a4 j (by omega)
theorem seed_w {frame sd : Int} (hf : 0 ≤ frame ∧ frame ≤ 999999984) (hs : 0 ≤ sd ∧ sd ≤ 1000000000) : (IntKind.i64.wrap (IntKind.i64.wrap (64 * frame) + sd.tmod 64)).tmod 1000000001 = seedV frame sd := by
  have h64 : sd.tmod 64 = sd % 64 := Int.tmod_eq_emod_of_nonneg hs.1
  rw [h64, wi (64 * frame) (by omega) (by omega), wi _ (by omega) (by omega), Int.tmod_eq_emod_of_nonneg (by omega)]
  rfl
theorem tick_sd (t : Tm) (f : Int) : (tickT t f).1.sd = t.sd := by
  unfold tickT
  split
  · show (lateT t f).sd = _
    unfold lateT
    split <;> rfl
  · rfl
theorem tm_eta (t : Tm) : (⟨t.iv, t.bg, t.fi, t.ct, t.sd⟩ : Tm) = t := rfl
set_option maxHeartbeats 2000000 in
theorem f_spread_Serve {s : Sp} {near : List Nr} {nl tg : Bool} {frame : Int} (W : SpW s) (hl : near.length < 4611686018427387904) :
    WpF XX .ro n_spread_Serve [.agg s.c, .tree (near.map Nr.v) nl tg, .int .i64 frame] st K ↔ K (.tup [.agg (serveG (copyS s) near frame).1.c, .agg (serveG (copyS s) near frame).2.1.c, .bool (serveG (copyS s) near frame).2.2]) st := by
  rw [F_ro (mf := m_spread_Serve) rfl rfl]
  simp only [m_spread_Serve, Sp.c, bC, bW, bD, bZ, wpY', bV, bVD, seval]
  refine F_copied W (fun j hj => by simp (disch := omega) only [bC, bD, bH, bZ, wpY', bV, bVD, seval]) fun id h' nx' i1 i2 i3 i4 i5 => ?_
  have W' := W.copy
  have k1 := i4 1 (by omega)
  have k2 := i4 2 (by omega)
  simp (disch := omega) only [bC, bD, bH, bZ, wpY', bV, bVD, seval] at k1 k2
  generalize copyS s = x at i3 W'
  have i3' := i3
  rw [Sp.c] at i3'
  have ev := fun e ls wb K => f_state_valid (ls := ls) (K := K) (e := e) (wb := wb) i3 i2 W' i5
  have ee := fun e ls wb K => f_state_empty (ls := ls) (K := K) (e := e) (wb := wb) i3 i2 W'
  have f0 := i5 nx' (Nat.le_refl _)
  have f1 := i5 (nx' + 1) (by omega)
  have f2 := i5 (nx' + 2) (by omega)
  have f3 := i5 (nx' + 3) (by omega)
  unfold serveG
  cases h1 : validS x with
  | false => simp (disch := omega) only [bC, bD, bH, bZ, wpY', bV, bVD, seval, k1, k2, i3', ev, h1, Sp.c, Bl.c, zeroB, nilS]
  | true =>
  cases h2 : emptyS x with
  | true => simp (disch := omega) only [bC, bD, bH, bZ, wpY', bV, bVD, seval, k1, k2, i3', ev, ee, h1, h2, Sp.c, Bl.c, zeroB, nilS]
  | false =>
  unfold frameB
  by_cases p1 : frame < 0
  case pos =>
    have p1' : ¬ 0 ≤ frame := by omega
    simp (disch := omega) only [bC, bD, bH, bZ, wpY', bV, bVD, seval, k1, k2, i3', ev, ee, h1, h2, p1, p1', Sp.c, Bl.c, zeroB, nilS]
  have p1' : 0 ≤ frame := by omega
  by_cases p2 : 999999984 < frame
  case pos =>
    have p2' : ¬ frame ≤ 999999984 := by omega
    simp (disch := omega) only [bC, bD, bH, bZ, wpY', bV, bVD, seval, k1, k2, i3', ev, ee, h1, h2, p1, p1', p2, p2', Sp.c, Bl.c, zeroB, nilS]
  have p2' : frame ≤ 999999984 := by omega
  have hsd := valid_seed h1
  rw [seed_iff, ← tick_sd x.t frame] at hsd
  have hso : soundS x = true := by
    simp only [validS, h2, Bool.false_or, Bool.and_eq_true] at h1
    exact h1.1.1.1.1.1
  have hpq := (sound_parts hso).2.2.1
  simp (disch := omega) only [bC, bD, bH, bZ, wpY', bV, bVD, seval, k1, k2, i3', ev, ee, h1, h2, p1, p1', p2, p2', f_trickle_Tick, tm_eta, Tm.c, f0, f1, F_rw (X := XX) (f := n_pspread_state_lacking) (mf := m_pspread_state_lacking) rfl, m_pspread_state_lacking, g_spread_Serve_0, F_rw (X := XX) (f := n_pspread_state_lacking_1) (mf := m_pspread_state_lacking_1) rfl, m_pspread_state_lacking_1, L_pspread_state_lacking_1_0_eq, Nat.add_assoc]
  generalize tickT x.t frame = tk at hsd ⊢
  obtain ⟨T, sp⟩ := tk
  simp only at hsd
  simp only
  have W2 : SpW (timeS x T) := ⟨W'.lp, W'.lq, W'.lr, W'.lf, W'.hp, W'.hq, W'.hr, W'.np, W'.nq, W'.nr, W'.nf⟩
  refine L_lack (x := timeS x T) (m := nx' + 1) (pb := nx' + 2) (id := id) (N0 := nx' + 5) (l := nx' + 4) rfl hl (by omega) (by omega) (by omega) (by omega) (by omega) (by omega) ?_ ?_ near.length 0 (x.pages.xs.length : Int) _ (nx' + 5) (by omega) ?_ (fun _ _ _ => rfl) (Nat.le_refl _) (fun j hj => ?_) rfl fun h2' n2 a1 a2 a3 a4 => ?_
  · simp (disch := omega) only [bC, bD, bH, bZ, wpY', bV, bVD, seval]
  · simp (disch := omega) only [bC, bD, bH, bZ, wpY', bV, bVD, seval, i3', timeS, Sp.c]
  · simp (disch := omega) only [bC, bD, bH, bZ, wpY', bV, bVD, seval]
  · simp (disch := omega) only [bC, bD, bH, bZ, wpY', bV, bVD, seval]; exact i5 j (by omega)
  have b1 := a2 1 (by omega) (by omega)
  have b2 := a2 2 (by omega) (by omega)
  have b3 := a2 id (by omega) (by omega)
  have b4 := a2 nx' (by omega) (by omega)
  simp (disch := omega) only [bC, bD, bH, bZ, wpY', bV, bVD, seval, k1, k2, i3'] at b1 b2 b3 b4
  have hle : leastG (timeS x T) near = leastG x near := rfl
  rw [hle] at a1
  have g0 := a4 n2 (Nat.le_refl _)
  generalize hp : leastG x near = p at a1
  cases sp with
  | false => simp (disch := omega) only [bC, bD, bH, bZ, wpY', bV, bVD, seval, a1, b1, b2, b3, Sp.c, timeS, Bl.c, zeroB, nilS]
  | true =>
  by_cases q1 : p < 0
  case pos =>
    have q1' : ¬ 0 ≤ p := by omega
    simp (disch := omega) only [bC, bD, bH, bZ, wpY', bV, bVD, seval, a1, b1, b2, b3, q1, q1', Sp.c, timeS, Bl.c, zeroB, nilS]
  have q1' : 0 ≤ p := by omega
  by_cases q2 : (x.pages.xs.length : Int) ≤ p
  case pos =>
    have q2' : ¬ p < (x.pages.xs.length : Int) := by omega
    simp (disch := omega) only [bC, bD, bH, bZ, wpY', bV, bVD, seval, a1, b1, b2, b3, q1, q1', q2, q2', Sp.c, timeS, Bl.c, zeroB, nilS]
  have q2' : p < (x.pages.xs.length : Int) := by omega
  obtain ⟨P, rfl⟩ : ∃ P : Nat, p = P := ⟨p.toNat, by omega⟩
  obtain ⟨pg, hpg, _⟩ := get_some (l := x.pages.xs) (k := P) (by omega)
  obtain ⟨pf, hpf, _⟩ := get_some (l := x.proofs.xs) (k := P) (by omega)
  have q3 : (P : Int) < (x.proofs.xs.length : Int) := by omega
  have e1 : pageAt (timeS x T) (P : Int) = pg := by show (x.pages.xs[(P : Int).toNat]?).getD nilS = pg; rw [Int.toNat_natCast, hpg]; rfl
  have e2 : proofAt (timeS x T) (P : Int) = pf := by show (x.proofs.xs[(P : Int).toNat]?).getD nilS = pf; rw [Int.toNat_natCast, hpf]; rfl
  have hb : blockS (timeS x T) frame (P : Int) = { (encR pg.xs (P : Int) (seedV frame T.sd)).1 with proof := cloneB pf } := by
    unfold blockS
    rw [e1, e2]
    rfl
  obtain ⟨wpo, wpl⟩ := W'.hp pg (List.mem_of_getElem? hpg)
  obtain ⟨wqo, wql⟩ := W'.hq pf (List.mem_of_getElem? hpf)
  have ew := seed_w (frame := frame) (sd := T.sd) ⟨p1', p2'⟩ hsd
  have een := fun st K => f_fountain_Encode (st := st) (K := K) (page := pg) (number := (P : Int)) (seed := seedV frame T.sd) wpo
  have ecl := fun st K => f_u64_Clone (st := st) (K := K) (b := pf.xs) (nl := pf.nl) (tg := pf.tg) wqo (by omega)
  have hx1 : (x.pages.xs.map By.v)[P]? = some (.tree (pg.xs.map b8) pg.nl pg.tg) := by rw [List.getElem?_map, hpg]; rfl
  have hx2 : (x.proofs.xs.map (Sl.v uV))[P]? = some (.tree (pf.xs.map uV) pf.nl pf.tg) := by rw [List.getElem?_map, hpf]; rfl
  rw [hb]
  simp (disch := omega) only [bC, bD, bH, bZ, wpY', bV, bVD, seval, a1, b1, b2, b3, b4, q1, q1', q2, q2', q3, hx1, hx2, ew, een, ecl, g0, Sp.c, timeS, Bl.c, cloneB, Nat.add_assoc]
end
end Go.Proofs.YtfmbdcmjgnikiaaGreatDoor.Sm
namespace Go.Proofs.YtfmbdcmjgnikiaaGreatDoor.Sm
open Go

/-! ### one level up -/
theorem nextI_get : ∀ (l : List Int) (i : Nat), i < l.length → (nextI l)[i / 2]? = some (if partner i < l.length then (if i % 2 = 1 then pairI (l.getD (partner i) 0) (l.getD i 0) else pairI (l.getD i 0) (l.getD (partner i) 0)) else l.getD i 0)
  | [], i, h => by simp at h
  | [a], i, h => by
    obtain rfl : i = 0 := by simpa using h
    simp [nextI, partner]
  | a :: b :: r, i, h => by
    rw [nextI]
    match i, h with
    | 0, _ => simp [partner]
    | 1, _ => simp [partner]
    | i + 2, h =>
      have hi : (i + 2) / 2 = i / 2 + 1 := by omega
      have hp : partner (i + 2) = partner i + 2 := by unfold partner; split <;> split <;> omega
      have hm : (i + 2) % 2 = i % 2 := by omega
      have ih := nextI_get r i (by simpa using h)
      rw [hi, List.getElem?_cons_succ, ih, hp, hm]
      have e : ∀ j, (a :: b :: r).getD (j + 2) 0 = r.getD j 0 := fun j => by simp [List.getD]
      rw [e, e]
      have : (partner i + 2 < (a :: b :: r).length) ↔ (partner i < r.length) := by simp
      simp only [this]
/-! ### the digests on the way up -/
def prf : Nat → List Int → Nat → List Int
  | 0, l, i => if partner i < l.length then [l.getD (partner i) 0] else []
  | f + 1, l, i => (if partner i < l.length then [l.getD (partner i) 0] else []) ++ (if 1 < l.length then prf f (nextI l) (i / 2) else [])
theorem runL_prf : ∀ (f : Nat) (l : List Int) (s : PS), (runL proofS f l s).out = s.out ++ prf f l s.i
  | 0, l, s => by simp only [runL, proofS, prf]; split <;> simp
  | f + 1, l, s => by
    rw [runL, prf]
    split
    · rw [runL_prf f]
      simp only [proofS]
      split <;> simp
    · simp only [proofS]
      split <;> simp
theorem proofI_eq (a : List By) (i : Nat) : proofI a i = prf 16 (leavesI a) i := by
  unfold proofI
  rw [runL_prf]
  rfl
theorem climb_hit {f n i : Nat} {x p : Int} {ps : List Int} (h1 : 1 < n) (h2 : partner i < n) : climb (f + 1) n i x (p :: ps) = climb f ((n + 1) / 2) (i / 2) (if i % 2 = 1 then pairI p x else pairI x p) ps := by simp only [climb, h1, h2, if_true]
theorem climb_miss {f n i : Nat} {x : Int} {ps : List Int} (h1 : 1 < n) (h2 : ¬ partner i < n) : climb (f + 1) n i x ps = climb f ((n + 1) / 2) (i / 2) x ps := by simp only [climb, h1, h2, if_true, if_false]
theorem climb_end {f n i : Nat} {x : Int} {ps : List Int} (h1 : ¬ 1 < n) : climb (f + 1) n i x ps = if ps = [] then some x else none := by simp only [climb, h1, if_false]
theorem climb_prf : ∀ (f : Nat) (l : List Int) (i : Nat), i < l.length → l.length ≤ f + 1 → climb f l.length i (l.getD i 0) (prf f l i) = some (rootF f l)
  | 0, l, i, hi, hl => by
    have h1 : l.length = 1 := by omega
    obtain rfl : i = 0 := by omega
    have hp : ¬ partner 0 < l.length := by simp [partner]; omega
    rw [prf, if_neg hp, climb, if_pos rfl, rootF]
    cases l with
    | nil => simp at h1
    | cons a l => rfl
  | f + 1, l, i, hi, hl => by
    rw [rootF, prf]
    by_cases h1 : 1 < l.length
    · rw [if_pos h1, if_pos h1]
      have hn := nextI_len l
      have ih := climb_prf f (nextI l) (i / 2) (by omega) (by omega)
      rw [hn] at ih
      have hg := nextI_get l i hi
      have hg' : (nextI l).getD (i / 2) 0 = (if partner i < l.length then (if i % 2 = 1 then pairI (l.getD (partner i) 0) (l.getD i 0) else pairI (l.getD i 0) (l.getD (partner i) 0)) else l.getD i 0) := by
        rw [List.getD_eq_getElem?_getD, hg]; rfl
      rw [hg'] at ih
      by_cases h2 : partner i < l.length
      · rw [if_pos h2, List.singleton_append, climb_hit h1 h2]
        rw [if_pos h2] at ih
        exact ih
      · rw [if_neg h2, List.nil_append, climb_miss h1 h2]
        rw [if_neg h2] at ih
        exact ih
    · rw [if_neg h1, if_neg h1, climb_end h1]
      have h1' : l.length = 1 := by omega
      obtain rfl : i = 0 := by omega
      have hp : ¬ partner 0 < l.length := by simp [partner]; omega
      rw [if_neg hp]
      cases l with
      | nil => simp at h1'
      | cons a l => rfl
theorem leavesI_getD {a : List By} {i : Nat} {p : By} (h : a[i]? = some p) : (leavesI a).getD i 0 = leafI p.xs := by
  rw [List.getD_eq_getElem?_getD, leavesI, List.getElem?_map, h]; rfl
/-- The proof of a page proves it. -/
theorem check_proof {a : List By} (ha : arePagesI a = true) {i : Nat} {p : By} (hp : a[i]? = some p) : checkI (rootI a) a.length i p.xs (proofI a i) = true := by
  have hi := (List.getElem?_eq_some_iff.1 hp).1
  simp only [arePagesI, Bool.and_eq_true, decide_eq_true_eq, List.all_eq_true] at ha
  obtain ⟨⟨h1, h2⟩, h3⟩ := ha
  have h4 := h3 p (List.mem_of_getElem? hp)
  have hl : (leavesI a).length = a.length := by simp [leavesI]
  have := climb_prf 16 (leavesI a) i (by omega) (by omega)
  rw [hl, leavesI_getD hp, ← proofI_eq] at this
  simp only [checkI, Bool.and_eq_true, decide_eq_true_eq]
  exact ⟨⟨⟨⟨⟨by omega, by omega⟩, by omega⟩, by omega⟩, h4⟩, this⟩
end Go.Proofs.YtfmbdcmjgnikiaaGreatDoor.Sm
namespace Go.Proofs.YtfmbdcmjgnikiaaGreatDoor.Sm
open Go

theorem splitF_flat : ∀ (f : Nat) (b : List UInt8), b.length ≤ 256 * f → (splitF f b).flatten = b ++ List.replicate (256 * ((b.length + 255) / 256) - b.length) 0 ∧ (splitF f b).length = (b.length + 255) / 256
  | 0, b, h => by
    obtain rfl : b = [] := List.length_eq_zero_iff.1 (by omega)
    simp [splitF]
  | f + 1, b, h => by
    rw [splitF]
    by_cases h0 : b = []
    · subst h0; simp
    rw [if_neg h0]
    have hb : 0 < b.length := List.length_pos_iff.2 h0
    obtain ⟨h1, h2⟩ := splitF_flat f (b.drop 256) (by simp; omega)
    rw [List.flatten_cons, h1, List.length_cons, h2, List.length_drop]
    by_cases hl : b.length ≤ 256
    · have e1 : b.drop 256 = [] := List.drop_eq_nil_of_le hl
      have e2 : b.take 256 = b := List.take_of_length_le hl
      have e3 : (b.length + 255) / 256 = 1 := by omega
      rw [e1, e2, e3, pad]
      have e4 : b.length - 256 = 0 := by omega
      rw [e4]
      simp
    · have e1 : (b.length + 255) / 256 = (b.length - 256 + 255) / 256 + 1 := by omega
      have e2 : pad (b.take 256) = b.take 256 := by
        rw [pad, List.length_take, Nat.min_eq_left (by omega)]
        simp
      rw [e1, e2, ← List.append_assoc, List.take_append_drop]
      refine ⟨?_, rfl⟩
      rw [List.append_cancel_left_eq]; refine congrArg (fun n => List.replicate n 0) ?_
      omega
theorem allB_inner (a : List By) : allB a = (inner a).flatten := by simp [allB, inner, List.flatMap_def]
theorem inner_pg (l : List (List UInt8)) : inner (l.map pgV) = l := by
  rw [inner, List.map_map]
  simp [Function.comp_def, pgV]
theorem allZ_rep (n : Nat) : allZ (List.replicate n 0) = true := by simp [allZ]
theorem paged_iff {a : List By} : pagedI a = true ↔ ∀ p ∈ a, p.xs.length = 256 := by
  constructor
  · intro h p hp
    simpa using List.all_eq_true.1 h p hp
  · intro h
    refine List.all_eq_true.2 fun p hp => ?_
    simpa using h p hp
theorem sized_iff {n : Int} : sizedI n = true ↔ 1 ≤ n ∧ n ≤ 4096 := by simp [sizedI]
theorem split_len {b : List UInt8} (h : b.length ≤ 4096) : (splitI b).length = (b.length + 255) / 256 := by
  rw [splitI, List.length_map, (splitF_flat 16 b (by omega)).2]
theorem split_flat {b : List UInt8} (h : b.length ≤ 4096) : allB (splitI b) = b ++ List.replicate (256 * ((b.length + 255) / 256) - b.length) 0 := by
  rw [allB_inner, splitI, inner_pg, (splitF_flat 16 b (by omega)).1]
theorem split_paged (b : List UInt8) : pagedI (splitI b) = true := paged_iff.2 fun p hp => ((split_pages b).2.1 p hp).1
/-- The pages of a program are joined to it. -/
theorem split_join {b : List UInt8} (h : sizedI b.length = true) : joinOK (splitI b) b.length = true ∧ allZ ((allB (splitI b)).drop ((b.length : Int)).toNat) = true ∧ (allB (splitI b)).take ((b.length : Int)).toNat = b := by
  have hs := sized_iff.1 h
  have hb : b.length ≤ 4096 := by omega
  rw [split_flat hb, Int.toNat_natCast, List.drop_left, List.take_left]
  refine ⟨?_, allZ_rep _, rfl⟩
  rw [joinOK, h, split_paged, Bool.true_and, Bool.and_true, decide_eq_true_eq, split_len hb, countI]
  omega
end Go.Proofs.YtfmbdcmjgnikiaaGreatDoor.Sm
namespace Go.Proofs.YtfmbdcmjgnikiaaGreatDoor.Sm
open Go

def prq (a : List By) (k : Nat) : Sl Int := ⟨proofI a k, decide (proofI a k = []), decide (proofI a k = [])⟩
def ldQ (a : List By) (k : Nat) : List (Sl Int) := (List.range k).map (prq a)
theorem prf_len : ∀ (f : Nat) (l : List Int) (i : Nat), (prf f l i).length ≤ f + 1
  | 0, l, i => by rw [prf]; split <;> simp
  | f + 1, l, i => by
    have := prf_len f (nextI l) (i / 2)
    rw [prf, List.length_append]
    split <;> split <;> simp <;> omega
theorem proof_len (a : List By) (k : Nat) : (proofI a k).length ≤ 17 := by rw [proofI_eq]; exact prf_len 16 _ _
theorem provedF_all {dg size : Int} : ∀ (i : Nat) (ps : List By) (qs : List (Sl Int)), (∀ (j : Nat) (p : By) (q : Sl Int), ps[j]? = some p → qs[j]? = some q → checkI dg (countI size) (i + j : Nat) p.xs q.xs = true) → provedF dg size i ps qs = true
  | i, [], qs, h => by cases qs <;> rfl
  | i, p :: ps, [], h => rfl
  | i, p :: ps, q :: qs, h => by
    have h0 := h 0 p q rfl rfl
    rw [Nat.add_zero] at h0
    simp only [provedF, h0, Bool.true_and]
    refine provedF_all (i + 1) ps qs fun j p' q' hp hq => ?_
    have := h (j + 1) p' q' hp hq
    rwa [show i + (j + 1) = i + 1 + j by omega] at this
theorem notice_sized {ver start : Int} {n : Int} (h : noticeI ver n start = true) : sizedI n = true := by
  simp only [noticeI, Bool.and_eq_true] at h
  exact h.1.1.2
theorem split_count {b : List UInt8} (h : sizedI b.length = true) : countI b.length = ((splitI b).length : Int) := by
  have := sized_iff.1 h
  rw [split_len (by omega), countI]
  omega
theorem ld_sound {b : List UInt8} {ver start : Int} (h : noticeI ver b.length start = true) {k : Nat} (hk : k ≤ (splitI b).length) : soundI ver b.length (rootI (splitI b)) start ((splitI b).take k) (ldQ (splitI b) k) = true := by
  have hs := notice_sized h
  have hc := split_count hs
  have ha := split_are hs
  have hp := split_pages b
  rw [soundI, h]
  simp only [Bool.true_and, Bool.and_eq_true, decide_eq_true_eq]
  refine ⟨⟨⟨?_, ?_⟩, ?_⟩, ?_⟩
  · rw [hc, List.length_take]; omega
  · rw [ldQ, List.length_map, List.length_range, List.length_take]; omega
  · exact paged_iff.2 fun p hp' => (hp.2.1 p (List.mem_of_mem_take hp')).1
  · refine provedF_all 0 _ _ fun j p q hp' hq => ?_
    have hj : j < k := by
      have := (List.getElem?_eq_some_iff.1 hq).1
      simpa [ldQ] using this
    rw [List.getElem?_take, if_pos hj] at hp'
    rw [ldQ, List.getElem?_map, List.getElem?_range hj] at hq
    cases hq
    rw [Nat.zero_add, hc]
    exact check_proof ha hp'
end Go.Proofs.YtfmbdcmjgnikiaaGreatDoor.Sm
