/- The levels of a tree, as the program enumerates them. Conditions: none. The levels of a tree, whoever looks at them. Conditions: none. The program's root and proofs. Conditions: none. Pages of a program, as the program makes them. Conditions: none. Pages of a program, as the reference makes them. Conditions: none. Joining pages, as the program does it. Conditions: none. -/
import Derived.Test.YtfmbdcmjgnikiaaGreatDoorM7
set_option linter.unusedSimpArgs false
set_option linter.unusedVariables false
namespace Go.Proofs.YtfmbdcmjgnikiaaGreatDoor.Sm
open Go Go.RowKit

section
variable {ls : List (Nat × LRec)} {Q : Ex → St → Prop} {R : Prop} {st : St} {K : SV → St → Prop}
/-- A row that is being built: nothing yet, or an own block. -/
def Row (h : Heap) (lo nx : Nat) (acc : List Int) (v : SV) : Prop := (acc = [] ∧ v = .tree [] true true) ∨ ∃ id, v = .own id 0 acc.length 1 ∧ look h id = some (acc.map uV) ∧ lo ≤ id ∧ id < nx

theorem L_levels_0 {a : List By} {n1 g1 : Bool} (ha : a.length ≤ 4294967296) (hs : ∀ p ∈ a, p.xs.length < 4611686018427387904) {v0 : SV} {lo : Nat} : ∀ (d k : Nat) (acc : List Int) (v : SV) (h : Heap) (nx : Nat), k + d = a.length → acc.length = k → Row h lo nx acc v → fresh h nx → lo ≤ nx →
    (∀ (v' : SV) (h' : Heap) (nx' : Nat), Row h' lo nx' (acc ++ leavesI (a.drop k)) v' → fresh h' nx' → nx ≤ nx' → (∀ j, j < lo → look h' j = look h j) → (Q (.exit 0) ⟨[(0, v0), (3, v')], h', nx', ls, 0⟩ ↔ R)) →
    (L_tree_levels_1_0 XX v0 v (.tree (a.map By.v) n1 g1) (.int .i64 a.length) (.int .i64 k) h nx ls 0 Q ↔ R) := by
  intro d
  induction d with
  | zero =>
    intro k acc v h nx hk hacc hv hf hlo q
    obtain rfl : k = a.length := by omega
    rw [L_tree_levels_1_0_unf]
    simp only [b_tree_levels_1_0, bC, bW, bZ, wpY', bV, seval, Int.lt_irrefl]
    exact q v h nx (by rw [List.drop_length]; simpa [leavesI] using hv) hf (Nat.le_refl _) fun _ _ => rfl
  | succ d ih =>
    intro k acc v h nx hk hacc hv hf hlo q
    have hlt : k < a.length := by omega
    obtain ⟨c, hc, hd⟩ := get_some hlt
    have hcs := hs c (List.mem_of_getElem? hc)
    have e3 : acc ++ leavesI (a.drop k) = (acc ++ [leafI c.xs]) ++ leavesI (a.drop (k + 1)) := by rw [hd]; simp [leavesI]
    have hfn := hf nx (Nat.le_refl _)
    rw [L_tree_levels_1_0_unf]
    rcases hv with ⟨rfl, rfl⟩ | ⟨id, rfl, hid, hid1, hid2⟩
    · simp only [b_tree_levels_1_0, bC, bD, bH, bZ, wpY', bV, bVD, seval, lt_c hlt, hc, By.v, Sl.v, f_tree_leaf hcs, hfn, L_tree_levels_1_0_eq, wi_s hlt (by omega)]
      refine ih (k + 1) [leafI c.xs] _ _ _ (by omega) (by simp at hacc ⊢; omega) (.inr ⟨nx, rfl, by rw [look_eq]; rfl, hlo, by omega⟩) (fun j hj => by rw [look_ne (by omega)]; exact hf j (by omega)) (by omega) fun v' h' nx' h1 h2 h3 h4 => q v' h' nx' (by rw [e3]; exact h1) h2 (by omega) fun j hj => by rw [h4 j hj, look_ne (by omega)]
    · have hL : acc.length + 1 ≤ 4294967296 := by omega
      have e : List.map uV acc ++ [SV.int IntKind.u64 (leafI c.xs)] = List.map uV (acc ++ [leafI c.xs]) := by simp [uV_eq]
      have e2 : acc.length + 1 = (acc ++ [leafI c.xs]).length := by simp
      have hfd : look (del h id) nx = none := by rw [look_del_ne (by omega)]; exact hfn
      simp only [b_tree_levels_1_0, bC, bD, bH, bZ, wpY', bV, bVD, seval, lt_c hlt, hc, By.v, Sl.v, f_tree_leaf hcs, hid, hfd, hL, L_tree_levels_1_0_eq, wi_s hlt (by omega)]
      rw [e, e2]
      refine ih (k + 1) (acc ++ [leafI c.xs]) _ _ _ (by omega) (by simp [hacc]) (.inr ⟨nx, rfl, by rw [look_eq], hlo, by omega⟩) (fun j hj => ?_) (by omega) fun v' h' nx' h1 h2 h3 h4 => q v' h' nx' (by rw [e3]; exact h1) h2 (by omega) fun j hj => ?_
      · rw [look_ne (by omega), look_del_ne (by omega)]; exact hf j (by omega)
      · rw [h4 j hj, look_ne (by omega), look_del_ne (by omega)]

/-- The pairs of a level are put together. -/
theorem L_chunk {re : Env} {lev : List Int} {N id : Nat} (h6 : getE re 6 = .ptr N 0) (hlv : lev.length ≤ 4294967296) (hid : id < N) : ∀ (d k : Nat) (acc r : List Int) (v : SV) (h : Heap) (nx : Nat), r.length ≤ d → lev.drop k = r → acc.length + r.length ≤ 4294967296 → k ≤ 4294967300 →
    Row h (N + 4) nx acc v → fresh h nx → N + 4 ≤ nx → look h N = some [v] → look h (N + 1) = some [.own id 0 lev.length 1] → look h (N + 2) = some [.int .i64 2] → look h id = some (lev.map uV) →
    (∀ (v' : SV) (h' : Heap) (nx' : Nat), Row h' (N + 4) nx' (acc ++ nextI r) v' → fresh h' nx' → nx ≤ nx' → look h' N = some [v'] → (∀ j, j < N → look h' j = look h j) → (Q (.exit 0) ⟨[], h', nx', (N + 3, ⟨re, [31], a_tree_levels_1_1, y_tree_levels_1_1, 0, .norm⟩) :: ls, 0⟩ ↔ R)) →
    (L_slices_Chunk_suint64_uint64_1_0 XX (.yld (N + 3)) (.ptr (N + 1) 0) (.ptr (N + 2) 0) (.int .i64 k) h nx ((N + 3, ⟨re, [31], a_tree_levels_1_1, y_tree_levels_1_1, 0, .norm⟩) :: ls) 0 Q ↔ R) := by
  intro d
  induction d with
  | zero =>
    intro k acc r v h nx hr hd hacc hk4 hv hf hnx hN hN1 hN2 hlev q
    obtain rfl : r = [] := by cases r <;> simp_all
    have hk : ¬ (k : Int) < (lev.length : Int) := by
      have := congrArg List.length hd
      simp at this
      omega
    rw [L_slices_Chunk_suint64_uint64_1_0_unf]
    simp only [b_slices_Chunk_suint64_uint64_1_0, bC, bD, bH, bZ, wpY', bV, bVD, seval, hN1, hk]
    exact q v h nx (by simpa [nextI] using hv) hf (Nat.le_refl _) hN fun _ _ => rfl
  | succ d ih =>
    intro k acc r v h nx hr hd hacc hk4 hv hf hnx hN hN1 hN2 hlev q
    have wk2 : IntKind.i64.wrap ((k : Int) + 2) = ((k + 2 : Nat) : Int) := by rw [wi _ (by omega) (by omega)]; rfl
    have wk1 : IntKind.i64.wrap ((k : Int) + 1) = ((k + 1 : Nat) : Int) := by rw [wi _ (by omega) (by omega)]; rfl
    have hfn := hf nx (Nat.le_refl _)
    match r, hr, hd, hacc, q with
    | [], _, hd, _, q =>
      have hk : ¬ (k : Int) < (lev.length : Int) := by
        have := congrArg List.length hd
        simp at this
        omega
      rw [L_slices_Chunk_suint64_uint64_1_0_unf]
      simp only [b_slices_Chunk_suint64_uint64_1_0, bC, bD, bH, bZ, wpY', bV, bVD, seval, hN1, hk]
      exact q v h nx (by simpa [nextI] using hv) hf (Nat.le_refl _) hN fun _ _ => rfl
    | [x], hr, hd, hacc, q =>
      obtain ⟨hx, hd2, hlt⟩ := of_drop hd
      have hlen : lev.length = k + 1 := by
        have := congrArg List.length hd2
        simp at this
        omega
      have hsub : lev.length - k = 1 := by omega
      have hb1 : k + 1 ≤ lev.length := by omega
      have hk2 : lev.drop (k + 2) = [] := List.drop_eq_nil_of_le (by omega)
      have hx' : (lev.map uV)[k]? = some (.int .u64 x) := by rw [List.getElem?_map, hx]; rfl
      rw [L_slices_Chunk_suint64_uint64_1_0_unf]
      rcases hv with ⟨rfl, rfl⟩ | ⟨idn, rfl, hi, hi1, hi2⟩
      · simp (disch := omega) only [b_slices_Chunk_suint64_uint64_1_0, bC, bD, bH, bZ, wpY', bV, bVD, seval, hN, hN1, hN2, hlev, hfn, lt_c hlt, hlt, Nat.le_of_lt hlt, hsub, hb1, wk1, wk2, Int.ofNat_le, Int.ofNat_lt, Nat.le_add_right, a_tree_levels_1_1, y_tree_levels_1_1, h6, hx', L_slices_Chunk_suint64_uint64_1_0_eq]
        refine ih (k + 2) [x] [] _ _ _ (by simp) hk2 (by simp) (by omega) (.inr ⟨nx, rfl, ?_, by omega, by omega⟩) (fun j hj => ?_) (by omega) ?_ ?_ ?_ ?_ fun v' h' nx' h1 h2 h3 h4 h5 => q v' h' nx' h1 h2 (by omega) h4 fun j hj => ?_
        all_goals try simp (disch := omega) only [bC, bD, bH, bZ, wpY', bV, bVD, seval, hN, hN1, hN2, hlev, uV_eq]
        · exact hf j (by omega)
        · rw [h5 j hj]
          simp (disch := omega) only [bC, bD, bH, bZ, wpY', bV, bVD, seval]
      · have hL : acc.length + 1 ≤ 4294967296 := by simp at hacc; omega
        have e : List.map uV acc ++ [SV.int IntKind.u64 x] = List.map uV (acc ++ [x]) := by simp [uV_eq]
        have e2 : acc.length + 1 = (acc ++ [x]).length := by simp
        have hfd : look (del h idn) nx = none := by rw [look_del_ne (by omega)]; exact hfn
        simp (disch := omega) only [b_slices_Chunk_suint64_uint64_1_0, bC, bD, bH, bZ, wpY', bV, bVD, seval, hN, hN1, hN2, hlev, hfn, hfd, hi, hL, lt_c hlt, hlt, Nat.le_of_lt hlt, hsub, hb1, wk1, wk2, Int.ofNat_le, Int.ofNat_lt, Nat.le_add_right, a_tree_levels_1_1, y_tree_levels_1_1, h6, hx', L_slices_Chunk_suint64_uint64_1_0_eq]
        rw [e, e2]
        refine ih (k + 2) (acc ++ [x]) [] _ _ _ (by simp) hk2 (by simp at hacc ⊢; omega) (by omega) (.inr ⟨nx, rfl, ?_, by omega, by omega⟩) (fun j hj => ?_) (by omega) ?_ ?_ ?_ ?_ fun v' h' nx' h1 h2 h3 h4 h5 => q v' h' nx' (by simpa [nextI] using h1) h2 (by omega) h4 fun j hj => ?_
        all_goals try simp (disch := omega) only [bC, bD, bH, bZ, wpY', bV, bVD, seval, hN, hN1, hN2, hlev, uV_eq]
        · exact hf j (by omega)
        · rw [h5 j hj]
          simp (disch := omega) only [bC, bD, bH, bZ, wpY', bV, bVD, seval]
    | x :: y :: r, hr, hd, hacc, q =>
      obtain ⟨hx, hd2, hlt⟩ := of_drop hd
      obtain ⟨hy, hd3, hlt2⟩ := of_drop hd2
      have hsub : ¬ ((lev.length - k : Nat) : Int) < 2 := by omega
      have hb2 : k + 2 ≤ lev.length := by omega
      have hx' : (lev.map uV)[k]? = some (.int .u64 x) := by rw [List.getElem?_map, hx]; rfl
      have hy' : (lev.map uV)[k + 1]? = some (.int .u64 y) := by rw [List.getElem?_map, hy]; rfl
      rw [L_slices_Chunk_suint64_uint64_1_0_unf]
      rcases hv with ⟨rfl, rfl⟩ | ⟨idn, rfl, hi, hi1, hi2⟩
      · simp (disch := omega) only [b_slices_Chunk_suint64_uint64_1_0, bC, bD, bH, bZ, wpY', bV, bVD, seval, hN, hN1, hN2, hlev, hfn, lt_c hlt, hlt, Nat.le_of_lt hlt, hsub, hb2, wk1, wk2, Int.ofNat_le, Int.ofNat_lt, Nat.le_add_right, a_tree_levels_1_1, y_tree_levels_1_1, h6, hx', hy', f_digest_Pair, L_slices_Chunk_suint64_uint64_1_0_eq]
        refine ih (k + 2) [pairI x y] r _ _ _ (by simp at hr; omega) hd3 (by simp at hacc ⊢; omega) (by omega) (.inr ⟨nx, rfl, ?_, by omega, by omega⟩) (fun j hj => ?_) (by omega) ?_ ?_ ?_ ?_ fun v' h' nx' h1 h2 h3 h4 h5 => q v' h' nx' h1 h2 (by omega) h4 fun j hj => ?_
        all_goals try simp (disch := omega) only [bC, bD, bH, bZ, wpY', bV, bVD, seval, hN, hN1, hN2, hlev, uV_eq]
        · exact hf j (by omega)
        · rw [h5 j hj]
          simp (disch := omega) only [bC, bD, bH, bZ, wpY', bV, bVD, seval]
      · have hL : acc.length + 1 ≤ 4294967296 := by simp at hacc; omega
        have e : List.map uV acc ++ [SV.int IntKind.u64 (pairI x y)] = List.map uV (acc ++ [pairI x y]) := by simp [uV_eq]
        have e2 : acc.length + 1 = (acc ++ [pairI x y]).length := by simp
        have hfd : look (del h idn) nx = none := by rw [look_del_ne (by omega)]; exact hfn
        simp (disch := omega) only [b_slices_Chunk_suint64_uint64_1_0, bC, bD, bH, bZ, wpY', bV, bVD, seval, hN, hN1, hN2, hlev, hfn, hfd, hi, hL, lt_c hlt, hlt, Nat.le_of_lt hlt, hsub, hb2, wk1, wk2, Int.ofNat_le, Int.ofNat_lt, Nat.le_add_right, a_tree_levels_1_1, y_tree_levels_1_1, h6, hx', hy', f_digest_Pair, L_slices_Chunk_suint64_uint64_1_0_eq]
        rw [e, e2]
        refine ih (k + 2) (acc ++ [pairI x y]) r _ _ _ (by simp at hr; omega) hd3 (by simp at hacc ⊢; omega) (by omega) (.inr ⟨nx, rfl, ?_, by omega, by omega⟩) (fun j hj => ?_) (by omega) ?_ ?_ ?_ ?_ fun v' h' nx' h1 h2 h3 h4 h5 => q v' h' nx' (by simpa [nextI] using h1) h2 (by omega) h4 fun j hj => ?_
        all_goals try simp (disch := omega) only [bC, bD, bH, bZ, wpY', bV, bVD, seval, hN, hN1, hN2, hlev, uV_eq]
        · exact hf j (by omega)
        · rw [h5 j hj]
          simp (disch := omega) only [bC, bD, bH, bZ, wpY', bV, bVD, seval]
end
end Go.Proofs.YtfmbdcmjgnikiaaGreatDoor.Sm
namespace Go.Proofs.YtfmbdcmjgnikiaaGreatDoor.Sm
open Go Go.RowKit

def runL {σ : Type} (stp : σ → List Int → σ) : Nat → List Int → σ → σ
  | 0, lev, s => stp s lev
  | f + 1, lev, s => if 1 < lev.length then runL stp f (nextI lev) (stp s lev) else stp s lev

section
variable {ls : List (Nat × LRec)} {Q : Ex → St → Prop} {R : Prop} {st : St} {K : SV → St → Prop}

theorem L_levels {σ : Type} {I : σ → Heap → Nat → Nat → Prop} {stp : σ → List Int → σ} {l : Nat} {c : σ → Nat} (hc : ∀ s lev, c (stp s lev) ≤ c s + 1) (hls : ∀ j, l < j → del ls j = ls)
    (hI : ∀ s h nx id h' nx' id', I s h nx id → (∀ j, j < nx → look h' j = look h j) → nx ≤ nx' → nx ≤ id' → I s h' nx' id')
    (hy : ∀ (s : σ) (lev : List Int) (id : Nat) (h : Heap) (nx : Nat) (e : Env) (K : SV → St → Prop) (R : Prop), c s ≤ 100 → lev ≠ [] → lev.length ≤ 16 → I s h nx id → look h id = some (lev.map uV) → id < nx → fresh h nx →
      (∀ h' nx', I (stp s lev) h' nx' id → nx ≤ nx' → look h' id = some (lev.map uV) → fresh h' nx' → (K (.bool true) ⟨e, h', nx', ls, 0⟩ ↔ R)) → (WpY XX l [.own id 0 lev.length 1] ⟨e, h, nx, ls, 0⟩ K ↔ R)) :
    ∀ (f : Nat) (lev : List Int) (id : Nat) (h : Heap) (nx : Nat) (s : σ), c s + f ≤ 100 → lev ≠ [] → lev.length ≤ f + 1 → lev.length ≤ 16 → I s h nx id → look h id = some (lev.map uV) → id < nx → l < nx → fresh h nx →
      (∀ h' nx' id', I (runL stp f lev s) h' nx' id' → (Q (.exit 2) ⟨[], h', nx', ls, 0⟩ ↔ R)) →
      (L_tree_levels_1_2 XX (.yld l) (.own id 0 lev.length 1) h nx ls 0 Q ↔ R) := by
  intro f
  induction f with
  | zero =>
    intro lev id h nx s hcs h0 hl hl16 hs hlev hid hlnx hf q
    have h1 : ¬ (1 : Int) < (lev.length : Int) := by omega
    rw [L_tree_levels_1_2_unf]
    simp only [b_tree_levels_1_2, bC, bD, bH, bZ, bV, bVD, Nat.add_assoc, seval]
    refine hy s lev id h nx _ _ _ (by omega) h0 hl16 hs hlev hid hf fun h' nx' i1 i2 i3 i4 => ?_
    simp only [bC, bD, bH, bZ, bV, bVD, Nat.add_assoc, seval, h1]
    exact q h' nx' id i1
  | succ f ih =>
    intro lev id h nx s hcs h0 hl hl16 hs hlev hid hlnx hf q
    rw [L_tree_levels_1_2_unf]
    simp only [b_tree_levels_1_2, bC, bD, bH, bZ, bV, bVD, Nat.add_assoc, seval]
    refine hy s lev id h nx _ _ _ (by omega) h0 hl16 hs hlev hid hf fun h' nx' i1 i2 i3 i4 => ?_
    by_cases h1 : 1 < lev.length
    · have h1' : (1 : Int) < (lev.length : Int) := by omega
      have hn := nextI_len lev
      simp (disch := omega) only [bC, bD, bH, bZ, bV, bVD, Nat.add_assoc, seval, h1', F_rw (X := XX) (f := n_slices_Chunk_suint64_uint64) (mf := m_slices_Chunk_suint64_uint64) rfl, m_slices_Chunk_suint64_uint64, g_tree_levels_1_1, F_rw (X := XX) (f := n_slices_Chunk_suint64_uint64_1) (mf := m_slices_Chunk_suint64_uint64_1) rfl, m_slices_Chunk_suint64_uint64_1, L_slices_Chunk_suint64_uint64_1_0_eq]
      refine L_chunk (N := nx') (id := id) (lev := lev) rfl (by omega) (by omega) lev.length 0 [] lev (.tree [] true true) _ _ (Nat.le_refl _) rfl (by simp; omega) (by omega) (.inl ⟨rfl, rfl⟩) ?_ (by omega) ?_ ?_ ?_ ?_ fun v' h2 nx2 j1 j2 j3 j4 j5 => ?_
      · intro j hj
        simp (disch := omega) only [bC, bD, bH, bZ, wpY', bV, bVD, seval]
        exact i4 j (by omega)
      · simp (disch := omega) only [bC, bD, bH, bZ, wpY', bV, bVD, seval]
      · simp (disch := omega) only [bC, bD, bH, bZ, wpY', bV, bVD, seval]
      · simp (disch := omega) only [bC, bD, bH, bZ, wpY', bV, bVD, seval]
      · simp (disch := omega) only [bC, bD, bH, bZ, wpY', bV, bVD, seval, i3]
      · rcases j1 with ⟨j1, _⟩ | ⟨id', rfl, j6, j7, j8⟩
        · exfalso
          have j1' : nextI lev = [] := j1
          rw [j1'] at hn
          simp at hn
          omega
        · simp (disch := omega) only [bC, bD, bH, bZ, bV, bVD, Nat.add_assoc, seval, j4, hls, L_tree_levels_1_2_eq]
          refine ih (nextI lev) id' h2 nx2 (stp s lev) (by have := hc s lev; omega) (fun e => ?_) (by omega) (by omega) (hI _ _ _ _ _ _ _ i1 (fun j hj => ?_) (by omega) (by omega)) j6 j8 (by omega) j2 fun h3 nx3 id3 k1 => q h3 nx3 id3 ?_
          · rw [e] at hn; simp at hn; omega
          · rw [j5 j hj]
            simp (disch := omega) only [bC, bD, bH, bZ, wpY', bV, bVD, seval]
          · rw [runL, if_pos h1]; exact k1
    · have h1' : ¬ (1 : Int) < (lev.length : Int) := by omega
      simp only [bC, bD, bH, bZ, bV, bVD, Nat.add_assoc, seval, h1']
      exact q h' nx' id (by rw [runL, if_neg h1]; exact i1)
end
end Go.Proofs.YtfmbdcmjgnikiaaGreatDoor.Sm
namespace Go.Proofs.YtfmbdcmjgnikiaaGreatDoor.Sm
open Go Go.RowKit

section
variable {Q : Ex → St → Prop} {R : Prop} {st : St} {K : SV → St → Prop}
def rootS (_ : Int) (lev : List Int) : Int := lev.headD 0
theorem runL_root : ∀ (f : Nat) (lev : List Int) (s : Int), runL rootS f lev s = rootF f lev
  | 0, lev, s => rfl
  | f + 1, lev, s => by
    rw [runL, rootF]
    split
    · exact runL_root f _ _
    · rfl
theorem f_tree_Root {a : List By} {n1 g1 : Bool} : WpF XX .ro n_tree_Root [.tree (a.map By.v) n1 g1] st K ↔ K (if arePagesI a = true then .tup [.int .u64 (rootI a), .int .i64 0] else .tup [.int .u64 0, .int .i64 1]) st := by
  rw [F_ro (mf := m_tree_Root) rfl rfl]
  cases hp : arePagesI a with
  | false => simp only [m_tree_Root, bC, bW, bZ, wpY', bV, seval, f_tree_arePages, hp]
  | true =>
    have hp' := hp
    simp only [arePagesI, Bool.and_eq_true, decide_eq_true_eq, List.all_eq_true] at hp'
    obtain ⟨⟨h1, h2⟩, h3⟩ := hp'
    have h0 : a ≠ [] := fun e => by subst e; simp at h1
    simp only [m_tree_Root, bC, bW, bZ, wpY', bV, seval, f_tree_arePages, hp, F_rw (X := XX) (f := n_tree_levels) (mf := m_tree_levels) rfl, m_tree_levels, g_tree_Root_0, F_rw (X := XX) (f := n_tree_levels_1) (mf := m_tree_levels_1) rfl, m_tree_levels_1, L_tree_levels_1_0_eq]
    refine L_levels_0 (n1 := n1) (g1 := g1) (lo := 3) (by omega) (fun p hp => by have := h3 p hp; omega) a.length 0 [] (.tree [] true true) _ 3 (by omega) rfl (.inl ⟨rfl, rfl⟩) (fun j hj => by simp (disch := omega) only [bC, bD, bH, bZ, wpY', bV, bVD, seval]) (by omega) fun v' h' nx' j1 j2 j3 j4 => ?_
    have hne : leavesI a ≠ [] := fun e => h0 (by simpa [leavesI] using e)
    rcases j1 with ⟨j1, _⟩ | ⟨id', rfl, j6, j7, j8⟩
    · exact absurd j1 hne
    have q0 := j4 0 (by omega)
    simp only [bC, bW, bZ, wpY', bV, seval] at q0
    have hlen : (leavesI a).length = a.length := by simp [leavesI]
    simp only [bC, bW, bZ, wpY', bV, seval, L_tree_levels_1_2_eq]
    refine L_levels (σ := Int) (stp := rootS) (c := fun _ => 0) (I := fun s h nx id => look h 0 = some [.int .u64 s] ∧ id ≠ 0 ∧ 0 < nx) (fun _ _ => by omega) (fun j hj => by simp (disch := omega) only [bC, bD, bH, bZ, wpY', bV, bVD, seval]) (fun s h nx id h' nx' id' i1 i2 i3 i4 => ⟨by rw [i2 0 i1.2.2]; exact i1.1, by omega, by omega⟩) ?_ 16 ([] ++ leavesI a) id' h' nx' 0 (by omega) hne (by simp; omega) (by simp; omega) ⟨q0, by omega, by omega⟩ j6 j8 (by omega) j2 ?_
    · intro s lev id h nx e K R _ l0 l16 i1 i2 i3 i4 q
      obtain ⟨i5, i6, i7⟩ := i1
      cases lev with
      | nil => exact absurd rfl l0
      | cons x lev =>
        have hl : (0 : Int) < ((lev.length + 1 : Nat) : Int) := by omega
        simp only [List.map_cons, uV_eq] at i2
        simp (disch := omega) only [bC, bW, bZ, wpY', bV, seval, a_tree_Root_0, y_tree_Root_0, i5, i2, hl]
        refine q _ _ ⟨?_, i6, i7⟩ (Nat.le_refl _) ?_ ?_
        · simp (disch := omega) only [bC, bD, bH, bZ, wpY', bV, bVD, seval, i5, rootS]
        · simp (disch := omega) only [bC, bD, bH, bZ, wpY', bV, bVD, seval, i2, uV_eq]
        · intro j hj
          simp (disch := omega) only [bC, bD, bH, bZ, wpY', bV, bVD, seval]
          exact i4 j hj
    · intro h2 nx2 id2 i1
      rw [runL_root] at i1
      have i2 := i1.1
      simp only [bC, bW, bZ, wpY', bV, seval, i2, List.nil_append, rootI]

structure PS where
  out : List Int
  i : Nat
  c : Nat
def proofS (s : PS) (lev : List Int) : PS := ⟨if partner s.i < lev.length then s.out ++ [lev.getD (partner s.i) 0] else s.out, s.i / 2, s.c + 1⟩
def proofI (a : List By) (i : Nat) : List Int := (runL proofS 16 (leavesI a) ⟨[], i, 0⟩).out
def PI (s : PS) (h : Heap) (nx id : Nat) : Prop := look h 0 = some [.int .i64 s.i] ∧ s.i < 16 ∧ s.out.length ≤ s.c ∧ id ≠ 0 ∧ id ≠ 1 ∧ 1 < nx ∧ ∃ v, look h 1 = some [v] ∧ ((s.out = [] ∧ v = .tree [] true true) ∨ ∃ r, v = .own r 0 s.out.length 1 ∧ look h r = some (s.out.map uV) ∧ 2 ≤ r ∧ r < nx ∧ r ≠ id ∧ s.out ≠ [])
theorem f_tree_Proof {a : List By} {n1 g1 : Bool} {i : Int} : WpF XX .ro n_tree_Proof [.tree (a.map By.v) n1 g1, .int .i64 i] st K ↔
    K (if arePagesI a = true ∧ 0 ≤ i ∧ i < a.length then .tup [.tree ((proofI a i.toNat).map uV) (decide (proofI a i.toNat = [])) (decide (proofI a i.toNat = [])), .int .i64 0] else .tup [.tree [] true true, .int .i64 1]) st := by
  rw [F_ro (mf := m_tree_Proof) rfl rfl]
  cases hp : arePagesI a with
  | false => simp only [m_tree_Proof, bC, bW, bZ, wpY', bV, seval, f_tree_arePages, hp]
  | true =>
    have hp' := hp
    simp only [arePagesI, Bool.and_eq_true, decide_eq_true_eq, List.all_eq_true] at hp'
    obtain ⟨⟨h1, h2⟩, h3⟩ := hp'
    have h0 : a ≠ [] := fun e => by subst e; simp at h1
    by_cases hi : i < 0
    · have : ¬ 0 ≤ i := by omega
      simp only [m_tree_Proof, bC, bW, bZ, wpY', bV, seval, f_tree_arePages, hp, hi, this]
    have hi' : 0 ≤ i := by omega
    by_cases hj : (a.length : Int) ≤ i
    · have : ¬ i < a.length := by omega
      simp only [m_tree_Proof, bC, bW, bZ, wpY', bV, seval, f_tree_arePages, hp, hi, hj, hi', this]
    have hj' : i < a.length := by omega
    obtain ⟨I, rfl⟩ : ∃ I : Nat, i = I := ⟨i.toNat, by omega⟩
    simp only [m_tree_Proof, bC, bW, bZ, wpY', bV, seval, f_tree_arePages, hp, hi, hj, hi', hj', F_rw (X := XX) (f := n_tree_levels) (mf := m_tree_levels) rfl, m_tree_levels, g_tree_Proof_0, F_rw (X := XX) (f := n_tree_levels_1) (mf := m_tree_levels_1) rfl, m_tree_levels_1, L_tree_levels_1_0_eq]
    refine L_levels_0 (n1 := n1) (g1 := g1) (lo := 4) (by omega) (fun p hp => by have := h3 p hp; omega) a.length 0 [] (.tree [] true true) _ 4 (by omega) rfl (.inl ⟨rfl, rfl⟩) (fun j hj => by simp (disch := omega) only [bC, bD, bH, bZ, wpY', bV, bVD, seval]) (by omega) fun v' h' nx' j1 j2 j3 j4 => ?_
    have hne : leavesI a ≠ [] := fun e => h0 (by simpa [leavesI] using e)
    rcases j1 with ⟨j1, _⟩ | ⟨id', rfl, j6, j7, j8⟩
    · exact absurd j1 hne
    have q0 := j4 0 (by omega)
    have q1 := j4 1 (by omega)
    simp only [bC, bW, bZ, wpY', bV, seval] at q0 q1
    have hlen : (leavesI a).length = a.length := by simp [leavesI]
    simp only [bC, bW, bZ, wpY', bV, seval, L_tree_levels_1_2_eq]
    refine L_levels (σ := PS) (stp := proofS) (c := PS.c) (I := PI) (fun _ _ => Nat.le_refl _) (fun j hj => by simp (disch := omega) only [bC, bD, bH, bZ, wpY', bV, bVD, seval]) (fun s h nx id h' nx' id' i1 i2 i3 i4 => ?_) ?_ 16 ([] ++ leavesI a) id' h' nx' ⟨[], I, 0⟩ (by show 0 + 16 ≤ 100; omega) hne (by simp; omega) (by simp; omega) ⟨q0, by show I < 16; omega, Nat.le_refl _, by omega, by omega, by omega, _, q1, .inl ⟨rfl, rfl⟩⟩ j6 j8 (by omega) j2 ?_
    · obtain ⟨k1, k2, k3, k4, k5, k6, v, k7, k8⟩ := i1
      refine ⟨by rw [i2 0 (by omega)]; exact k1, k2, k3, by omega, by omega, by omega, v, by rw [i2 1 k6]; exact k7, ?_⟩
      rcases k8 with k8 | ⟨r, rfl, k9, k10, k11, k12, k13⟩
      · exact .inl k8
      · exact .inr ⟨r, rfl, by rw [i2 r k11]; exact k9, k10, by omega, by omega, k13⟩
    · intro s lev id h nx e K R hcs l0 l16 i1 i2 i3 i4 q
      obtain ⟨k1, k2, k3, k4, k5, k6, v, k7, k8⟩ := i1
      have hx := xor1 s.i k2
      have hfn := i4 nx (Nat.le_refl _)
      by_cases hpl : partner s.i < lev.length
      · have hpl' : ((partner s.i : Nat) : Int) < (lev.length : Int) := by omega
        have hgx : (lev.map uV)[partner s.i]? = some (.int .u64 (lev.getD (partner s.i) 0)) := by
          rw [List.getElem?_map, List.getD_eq_getElem?_getD, List.getElem?_eq_getElem hpl]; rfl
        rcases k8 with ⟨k8, rfl⟩ | ⟨r, rfl, k9, k10, k11, k12, k13⟩
        · simp (disch := omega) only [bC, bD, bH, bZ, wpY', bV, bVD, seval, a_tree_Proof_0, y_tree_Proof_0, k1, k7, i2, hx, hpl', hgx, hfn, half_i (i := s.i) (by omega)]
          refine q _ _ ⟨?_, by show s.i / 2 < 16; omega, ?_, k4, k5, by omega, .own nx 0 1 1, ?_, .inr ⟨nx, ?_, ?_, by omega, by omega, by omega, by simp [proofS, hpl]⟩⟩ (by omega) ?_ ?_
          · simp (disch := omega) only [bC, bD, bH, bZ, wpY', bV, bVD, seval, k1, proofS]
          · simp [proofS, hpl, k8]
          · simp (disch := omega) only [bC, bD, bH, bZ, wpY', bV, bVD, seval, k7]
          · simp [proofS, hpl, k8]
          · simp (disch := omega) only [bC, bD, bH, bZ, wpY', bV, bVD, seval, proofS, hpl, k8, uV_eq]
          · simp (disch := omega) only [bC, bD, bH, bZ, wpY', bV, bVD, seval, i2]
          · intro j hj
            simp (disch := omega) only [bC, bD, bH, bZ, wpY', bV, bVD, seval]
            exact i4 j (by omega)
        · have hL : s.out.length + 1 ≤ 4294967296 := by omega
          have hfd : look (del h r) nx = none := by rw [look_del_ne (by omega)]; exact hfn
          simp (disch := omega) only [bC, bD, bH, bZ, wpY', bV, bVD, seval, a_tree_Proof_0, y_tree_Proof_0, k1, k7, i2, hx, hpl', hgx, hfn, hfd, k9, hL, half_i (i := s.i) (by omega)]
          refine q _ _ ⟨?_, by show s.i / 2 < 16; omega, ?_, k4, k5, by omega, .own nx 0 (s.out.length + 1) 1, ?_, .inr ⟨nx, ?_, ?_, by omega, by omega, by omega, by simp [proofS, hpl]⟩⟩ (by omega) ?_ ?_
          · simp (disch := omega) only [bC, bD, bH, bZ, wpY', bV, bVD, seval, k1, proofS]
          · simp [proofS, hpl]; omega
          · simp (disch := omega) only [bC, bD, bH, bZ, wpY', bV, bVD, seval, k7]
          · simp [proofS, hpl]
          · simp (disch := omega) only [bC, bD, bH, bZ, wpY', bV, bVD, seval, proofS, hpl, List.map_append, uV_eq]
          · simp (disch := omega) only [bC, bD, bH, bZ, wpY', bV, bVD, seval, i2]
          · intro j hj
            simp (disch := omega) only [bC, bD, bH, bZ, wpY', bV, bVD, seval]
            exact i4 j (by omega)
      · have hpl' : ¬ ((partner s.i : Nat) : Int) < (lev.length : Int) := by omega
        simp (disch := omega) only [bC, bD, bH, bZ, wpY', bV, bVD, seval, a_tree_Proof_0, y_tree_Proof_0, k1, k7, i2, hx, hpl', half_i (i := s.i) (by omega)]
        refine q _ _ ⟨?_, by show s.i / 2 < 16; omega, ?_, k4, k5, by omega, v, ?_, ?_⟩ (by omega) ?_ ?_
        · simp (disch := omega) only [bC, bD, bH, bZ, wpY', bV, bVD, seval, k1, proofS]
        · simp [proofS, hpl]; omega
        · simp (disch := omega) only [bC, bD, bH, bZ, wpY', bV, bVD, seval, k7]
        · rcases k8 with ⟨k8, rfl⟩ | ⟨r, rfl, k9, k10, k11, k12, k13⟩
          · exact .inl ⟨by simp [proofS, hpl, k8], rfl⟩
          · refine .inr ⟨r, by simp [proofS, hpl], ?_, k10, k11, k12, by simpa [proofS, hpl] using k13⟩
            simp (disch := omega) only [bC, bD, bH, bZ, wpY', bV, bVD, seval, proofS, hpl, k9]
        · simp (disch := omega) only [bC, bD, bH, bZ, wpY', bV, bVD, seval, i2]
        · intro j hj
          simp (disch := omega) only [bC, bD, bH, bZ, wpY', bV, bVD, seval]
          exact i4 j (by omega)
    · intro h2 nx2 id2 i1
      obtain ⟨k1, k2, k3, k4, k5, k6, v, k7, k8⟩ := i1
      have hpr : proofI a I = (runL proofS 16 ([] ++ leavesI a) ⟨[], I, 0⟩).out := rfl
      rw [← hpr] at k8
      rcases k8 with ⟨k8, rfl⟩ | ⟨r, rfl, k9, k10, k11, k12, k13⟩
      · simp only [bC, bW, bZ, wpY', bV, seval, k7, k8]
      · have hne2 : ¬ proofI a I = [] := k13
        simp only [bC, bW, bZ, wpY', bV, seval, k7, k9, uV_all, hne2, List.length_map]
end
end Go.Proofs.YtfmbdcmjgnikiaaGreatDoor.Sm
namespace Go.Proofs.YtfmbdcmjgnikiaaGreatDoor.Sm
open Go Go.RowKit

def pad (c : List UInt8) : List UInt8 := c ++ List.replicate (256 - c.length) 0
def splitF : Nat → List UInt8 → List (List UInt8)
  | 0, _ => []
  | f + 1, b => if b = [] then [] else pad (b.take 256) :: splitF f (b.drop 256)
def pgV (p : List UInt8) : By := ⟨p, false, false⟩
def splitI (b : List UInt8) : List By := (splitF 16 b).map pgV
/-- A row of some kind that is being built. -/
def RowG {α : Type} (f : α → SV) (h : Heap) (lo nx : Nat) (acc : List α) (v : SV) : Prop := (acc = [] ∧ v = .tree [] true true) ∨ ∃ id, v = .own id 0 acc.length 1 ∧ look h id = some (acc.map f) ∧ lo ≤ id ∧ id < nx ∧ acc ≠ []

theorem setc_app : ∀ (vs pre post : List SV), vs.length ≤ post.length → setc (pre ++ post) pre.length vs = pre ++ vs ++ post.drop vs.length
  | [], pre, post, _ => by simp [setc]
  | v :: vs, pre, [], h => by simp at h
  | v :: vs, pre, p :: post, h => by
    rw [setc]
    have e : (pre ++ p :: post).set pre.length v = (pre ++ [v]) ++ post := by simp
    have := setc_app vs (pre ++ [v]) post (by simpa using h)
    rw [e, show pre.length + 1 = (pre ++ [v]).length by simp, this]
    simp
theorem setc_0 (vs cs : List SV) (h : vs.length ≤ cs.length) : setc cs 0 vs = vs ++ cs.drop vs.length := by simpa using setc_app vs [] cs h
def Z256 : List SV := (List.replicate 256 [SV.int .u8 0]).flatten
theorem Z256_eq : Z256 = List.replicate 256 (SV.int .u8 0) := by
  have : ∀ n, (List.replicate n [SV.int .u8 0]).flatten = List.replicate n (SV.int .u8 0) := fun n => by
    induction n with
    | zero => rfl
    | succ n ih => rw [List.replicate_succ, List.flatten_cons, ih]; rfl
  exact this 256
theorem Z256_len : Z256.length = 256 := by rw [Z256_eq, List.length_replicate]
theorem Zf : (List.replicate 256 [SV.int .u8 0]).flatten = Z256 := rfl
theorem page_cells {c : List UInt8} (h : c.length ≤ 256) : setc Z256 0 (List.map b8 (List.take (min c.length 256) c)) = (pad c).map b8 := by
  rw [Nat.min_eq_left h, List.take_length, setc_0 _ _ (by rw [Z256_len]; simpa using h), Z256_eq, pad, List.map_append, List.length_map, List.drop_replicate, List.map_replicate]
  rfl
theorem pad_len {c : List UInt8} (h : c.length ≤ 256) : (pad c).length = 256 := by simp [pad]; omega

section
variable {ls : List (Nat × LRec)} {Q : Ex → St → Prop} {R : Prop} {st : St} {K : SV → St → Prop}
theorem b8_all (l : List UInt8) : (l.map b8).all pl1 = true := Cell1.pl b8_c l
theorem b8_cB (l : List UInt8) : (l.map b8).all cellB = true := Cell1.cB b8_c l
theorem b8_hd (l : List UInt8) : hdSz 1 (l.map b8) = true := Cell1.hd b8_c l
theorem b8_flat (l : List UInt8) : flat (l.map b8) = l.map b8 := Cell1.flat b8_c l
theorem b8_len1 (l : List UInt8) : (l.map b8).all (fun v => (cellsOf v).length == 1) = true := Cell1.len1 b8_c l
theorem By_all (l : List By) : (l.map By.v).all pl1 = true := Cell1.pl Sl.v_c l

theorem L_split {re : Env} (h4 : getE re 4 = .ptr 0 0) {b : List UInt8} {nl tg : Bool} (hb : b.length ≤ 4096) : ∀ (d k : Nat) (acc : List By) (v : SV) (h : Heap) (nx : Nat), (b.drop k).length ≤ 256 * d → k ≤ 5000 → acc.length + d ≤ 4294967296 →
    RowG By.v h 4 nx acc v → fresh h nx → 4 ≤ nx → look h 0 = some [v] → look h 1 = some [.tree (b.map b8) nl tg] → look h 2 = some [.int .i64 256] →
    (∀ (v' : SV) (h' : Heap) (nx' : Nat), RowG By.v h' 4 nx' (acc ++ (splitF d (b.drop k)).map pgV) v' → look h' 0 = some [v'] → (Q (.exit 0) ⟨[], h', nx', [(3, ⟨re, [13], a_image_Split_0, y_image_Split_0, 0, .norm⟩)], 0⟩ ↔ R)) →
    (L_slices_Chunk_sbyte_byte_1_0 XX (.yld 3) (.ptr 1 0) (.ptr 2 0) (.int .i64 k) h nx [(3, ⟨re, [13], a_image_Split_0, y_image_Split_0, 0, .norm⟩)] 0 Q ↔ R) := by
  intro d
  induction d with
  | zero =>
    intro k acc v h nx hr hk4 hacc hv hf hnx h0 h1 h2 q
    have hk : ¬ (k : Int) < (b.length : Int) := by simp at hr; omega
    rw [L_slices_Chunk_sbyte_byte_1_0_unf]
    simp only [b_slices_Chunk_sbyte_byte_1_0, bC, bD, bH, bZ, wpY', bV, bVD, seval, -List.reduceReplicate, h1, hk]
    exact q v h nx (by simpa [splitF] using hv) h0
  | succ d ih =>
    intro k acc v h nx hr hk4 hacc hv hf hnx h0 h1 h2 q
    rw [L_slices_Chunk_sbyte_byte_1_0_unf]
    by_cases hlt : k < b.length
    · have hne : b.drop k ≠ [] := fun e => by
        have := congrArg List.length e
        simp at this
        omega
      have wk : IntKind.i64.wrap ((k : Int) + 256) = ((k + 256 : Nat) : Int) := by rw [wi _ (by omega) (by omega)]; rfl
      obtain ⟨m, hm, hm2⟩ : ∃ m : Nat, m = min 256 (b.length - k) ∧ (if ((b.length - k : Nat) : Int) < 256 then ((b.length - k : Nat) : Int) else 256) = (m : Int) := ⟨_, rfl, by split <;> omega⟩
      have wkm : IntKind.i64.wrap ((k : Int) + (m : Int)) = ((k + m : Nat) : Int) := by rw [wi _ (by omega) (by omega)]; omega
      have hkm : k + m ≤ b.length := by omega
      have hch : ((b.drop k).take m).length = m := by simp; omega
      have hch2 : ((b.drop k).take m) = (b.drop k).take 256 := by
        by_cases h : m = 256
        · rw [h]
        · rw [List.take_of_length_le (by simp; omega), List.take_of_length_le (by simp; omega)]
      have hpc := page_cells (c := (b.drop k).take m) (by omega)
      have hpl := pad_len (c := (b.drop k).take m) (by omega)
      have htk : List.take 256 (pad ((b.drop k).take m)) = pad ((b.drop k).take m) := List.take_of_length_le (by omega)
      have hd1 : List.take (b.length - k) (List.drop k b) = List.drop k b := List.take_of_length_le (by simp)
      have hfn := hf nx (Nat.le_refl _)
      have hfn1 := hf (nx + 1) (by omega)
      have hrest : splitF (d + 1) (b.drop k) = pad ((b.drop k).take m) :: splitF d (b.drop (k + 256)) := by
        rw [splitF, if_neg hne, hch2, List.drop_drop]
      rcases hv with ⟨rfl, rfl⟩ | ⟨id, rfl, g1, g2, g3, g4⟩
      · simp (disch := omega) only [b_slices_Chunk_sbyte_byte_1_0, bC, bD, bH, bZ, wpY', bV, bVD, seval, -List.reduceReplicate, h0, h1, h2, lt_c hlt, Nat.le_of_lt hlt, hm2, wk, wkm, hkm, Int.ofNat_le, Nat.le_add_right, a_image_Split_0, y_image_Split_0, h4, b8_hd, b8_flat, b8_len1, b8_all, b8_cB, hfn, hfn1, hd1, List.length_drop, ← List.map_drop, ← List.map_take, Zf, Z256_len, hpc, hpl, htk, L_slices_Chunk_sbyte_byte_1_0_eq, Nat.add_assoc]
        refine ih (k + 256) [pgV (pad ((b.drop k).take m))] _ _ _ (by rw [List.length_drop] at hr ⊢; omega) (by omega) (by simp only [List.length_append, List.length_cons, List.length_nil] at hacc ⊢; omega) (.inr ⟨nx + 1, rfl, ?_, by omega, by omega, by simp⟩) (fun j hj => ?_) (by omega) ?_ ?_ ?_ fun v' h' nx' j1 j2 => q v' h' nx' (by rw [hrest]; exact j1) j2
        all_goals try simp (disch := omega) only [bC, bD, bH, bZ, wpY', bV, bVD, seval, h0, h1, h2]
        · rfl
        · exact hf j (by omega)
      · have hL : acc.length + 1 ≤ 4294967296 := by omega
        have hfd : look (del h id) (nx + 1) = none := by rw [look_del_ne (by omega)]; exact hfn1
        simp (disch := omega) only [b_slices_Chunk_sbyte_byte_1_0, bC, bD, bH, bZ, wpY', bV, bVD, seval, -List.reduceReplicate, h0, h1, h2, lt_c hlt, Nat.le_of_lt hlt, hm2, wk, wkm, hkm, Int.ofNat_le, Nat.le_add_right, a_image_Split_0, y_image_Split_0, h4, b8_hd, b8_flat, b8_len1, b8_all, b8_cB, hfn, hfn1, hfd, hd1, g1, hL, List.length_drop, ← List.map_drop, ← List.map_take, Zf, Z256_len, hpc, hpl, htk, L_slices_Chunk_sbyte_byte_1_0_eq, Nat.add_assoc]
        have e : List.map By.v acc ++ [SV.tree (List.map b8 (pad ((b.drop k).take m))) false false] = List.map By.v (acc ++ [pgV (pad ((b.drop k).take m))]) := by simp [By.v, Sl.v, pgV]
        have e2 : acc.length + 1 = (acc ++ [pgV (pad ((b.drop k).take m))]).length := by simp
        rw [e, e2]
        refine ih (k + 256) (acc ++ [pgV (pad ((b.drop k).take m))]) _ _ _ (by rw [List.length_drop] at hr ⊢; omega) (by omega) (by simp only [List.length_append, List.length_cons, List.length_nil] at hacc ⊢; omega) (.inr ⟨nx + 1, rfl, ?_, by omega, by omega, by simp⟩) (fun j hj => ?_) (by omega) ?_ ?_ ?_ fun v' h' nx' j1 j2 => q v' h' nx' (by rw [hrest]; simpa using j1) j2
        all_goals try simp (disch := omega) only [bC, bD, bH, bZ, wpY', bV, bVD, seval, h0, h1, h2]
        exact hf j (by omega)
    · have hk : ¬ (k : Int) < (b.length : Int) := by omega
      simp only [b_slices_Chunk_sbyte_byte_1_0, bC, bD, bH, bZ, wpY', bV, bVD, seval, -List.reduceReplicate, h1, hk]
      have hnil : b.drop k = [] := List.drop_eq_nil_of_le (by omega)
      exact q v h nx (by rw [hnil]; simpa [splitF] using hv) h0
theorem f_image_Split {b : List UInt8} {nl tg : Bool} : WpF XX .ro n_image_Split [.tree (b.map b8) nl tg] st K ↔ K (if sizedI b.length = true then .tup [.tree ((splitI b).map By.v) false false, .int .i64 0] else .tup [.tree [] true true, .int .i64 1]) st := by
  rw [F_ro (mf := m_image_Split) rfl rfl]
  cases hs : sizedI b.length with
  | false => simp only [m_image_Split, bC, bW, bZ, wpY', bV, seval, f_image_sized, hs]
  | true =>
    have hs' := hs
    simp only [sizedI, Bool.and_eq_true, decide_eq_true_eq] at hs'
    simp only [m_image_Split, bC, bW, bZ, wpY', bV, seval, f_image_sized, hs, F_rw (X := XX) (f := n_slices_Chunk_sbyte_byte) (mf := m_slices_Chunk_sbyte_byte) rfl, m_slices_Chunk_sbyte_byte, g_image_Split_0, F_rw (X := XX) (f := n_slices_Chunk_sbyte_byte_1) (mf := m_slices_Chunk_sbyte_byte_1) rfl, m_slices_Chunk_sbyte_byte_1, L_slices_Chunk_sbyte_byte_1_0_eq]
    refine L_split (nl := nl) (tg := tg) rfl (by omega) 16 0 [] (.tree [] true true) _ 4 (by simp; omega) (by omega) (by simp) (.inl ⟨rfl, rfl⟩) (fun j hj => by simp (disch := omega) only [bC, bD, bH, bZ, wpY', bV, bVD, seval]) (by omega) rfl rfl rfl fun v' h' nx' j1 j2 => ?_
    have e : [] ++ (splitF 16 (b.drop 0)).map pgV = splitI b := rfl
    rw [e] at j1
    rcases j1 with ⟨j1, _⟩ | ⟨id, rfl, j3, j4, j5, j6⟩
    · exfalso
      have : splitF 16 b = [] := by simpa [splitI] using j1
      cases b with
      | nil => simp at hs'
      | cons c b => simp [splitF] at this
    · simp only [bC, bW, bZ, wpY', bV, seval, j2, j3, By_all]
end
end Go.Proofs.YtfmbdcmjgnikiaaGreatDoor.Sm
namespace Go.Proofs.YtfmbdcmjgnikiaaGreatDoor.Sm
open Go Go.RowKit

section
variable {ls : List (Nat × LRec)} {Q : Ex → St → Prop} {R : Prop} {st : St} {K : SV → St → Prop}
end
end Go.Proofs.YtfmbdcmjgnikiaaGreatDoor.Sm
namespace Go.Proofs.YtfmbdcmjgnikiaaGreatDoor.Sm
open Go Go.RowKit

def allZ (l : List UInt8) : Bool := l.all fun c => decide (c = 0)
def allB (ps : List By) : List UInt8 := ps.flatMap Sl.xs
theorem s0_eq : ((ByteArray.mk #[0]).toList == (ByteArray.mk #[]).toList) = false := by decide +kernel
theorem s0_size : (ByteArray.mk #[0]).size = 1 := rfl
theorem s0_get : ((((#[0] : Array UInt8).getD 0 0).toNat : Nat) : Int) = 0 := rfl

section
variable {h : Heap} {nx wb : Nat} {ls : List (Nat × LRec)} {Q : Ex → St → Prop} {R : Prop} {st : St} {K : SV → St → Prop}
theorem b8_zero {c : UInt8} : ((c.toNat : Int) = 0) ↔ c = 0 := by
  have := @b8_inj c 0
  simpa using this
theorem L_trimRight : ∀ (d : Nat) (l : List UInt8) (nl tg : Bool), l.length = d → d < 4611686018427387904 →
    (∀ (l' : List UInt8) (nl' tg' : Bool), (l' = [] ↔ allZ l = true) → l'.length ≤ l.length → (l'.getLast? ≠ some 0) → (Q (.exit 0) ⟨[(0, .tree (l'.map b8) nl' tg')], h, nx, ls, wb⟩ ↔ R)) →
    (L_bytes_trimRightByte_0 XX (.tree (l.map b8) nl tg) (.int .u8 0) h nx ls wb Q ↔ R) := by
  intro d
  induction d with
  | zero =>
    intro l nl tg hl hd q
    obtain rfl : l = [] := by cases l <;> simp_all
    rw [L_bytes_trimRightByte_0_unf]
    simp only [b_bytes_trimRightByte_0, bC, bW, bZ, wpY', bV, seval]
    exact q [] nl tg (by simp [allZ]) (by simp) (by simp)
  | succ d ih =>
    intro l nl tg hl hd q
    have h1 : (0 : Int) < (l.length : Int) := by omega
    have hw : IntKind.i64.wrap ((l.length : Int) - 1) = ((l.length - 1 : Nat) : Int) := by rw [wi _ (by omega) (by omega)]; omega
    have hlt : l.length - 1 < l.length := by omega
    obtain ⟨c, hc, hd2⟩ := get_some hlt
    have hlast : l.getLast? = some c := by rw [List.getLast?_eq_getElem?]; exact hc
    have hdec : l = l.take (l.length - 1) ++ [c] := by
      conv => lhs; rw [← List.take_append_drop (l.length - 1) l, hd2]
      rw [show l.length - 1 + 1 = l.length by omega, List.drop_length]
    have hz : allZ l = (allZ (l.take (l.length - 1)) && decide (c = 0)) := by
      conv => lhs; rw [hdec]
      simp [allZ, List.all_append]
    rw [L_bytes_trimRightByte_0_unf]
    by_cases h0 : c = 0
    · have h0' : ((c.toNat : Int) = 0) := b8_zero.2 h0
      have hle : l.length - 1 ≤ l.length := by omega
      simp only [b_bytes_trimRightByte_0, bC, bW, bZ, wpY', bV, seval, h1, hw, lt_c hlt, hc, b8_eq, h0', Int.ofNat_le, hle, b8_hd, ← List.map_take, L_bytes_trimRightByte_0_eq]
      refine ih (l.take (l.length - 1)) _ _ (by simp; omega) (by omega) fun l' nl' tg' j1 j2 j3 => q l' nl' tg' ?_ (by simp at j2; omega) j3
      rw [j1, hz, h0]; simp
    · have h0' : ¬ ((c.toNat : Int) = 0) := fun e => h0 (b8_zero.1 e)
      simp only [b_bytes_trimRightByte_0, bC, bW, bZ, wpY', bV, seval, h1, hw, lt_c hlt, hc, b8_eq, h0']
      refine q l nl tg ?_ (Nat.le_refl _) (by rw [hlast]; simpa using h0)
      rw [hz]
      simp [h0]
      intro e; subst e; simp at h1
theorem L_trimLeft : ∀ (d : Nat) (l : List UInt8) (nl tg : Bool), l.length = d → d < 4611686018427387904 →
    (∀ (l' : List UInt8) (nl' tg' : Bool), (l' = [] ↔ allZ l = true) → (Q (.exit 0) ⟨[(0, .tree (l'.map b8) nl' tg')], h, nx, ls, wb⟩ ↔ R)) →
    (L_bytes_trimLeftByte_0 XX (.tree (l.map b8) nl tg) (.int .u8 0) h nx ls wb Q ↔ R) := by
  intro d
  induction d with
  | zero =>
    intro l nl tg hl hd q
    obtain rfl : l = [] := by cases l <;> simp_all
    rw [L_bytes_trimLeftByte_0_unf]
    simp only [b_bytes_trimLeftByte_0, bC, bW, bZ, wpY', bV, seval]
    exact q [] nl tg (by simp [allZ])
  | succ d ih =>
    intro l nl tg hl hd q
    cases l with
    | nil => simp at hl
    | cons c l =>
      have h1 : (0 : Int) < ((l.length + 1 : Nat) : Int) := by omega
      have h2 : (1 : Int) ≤ ((l.length + 1 : Nat) : Int) := by omega
      have hb := b8_hd (c :: l)
      rw [List.map_cons, b8_eq] at hb
      rw [L_bytes_trimLeftByte_0_unf]
      by_cases h0 : c = 0
      · have h0' : ((c.toNat : Int) = 0) := b8_zero.2 h0
        simp only [b_bytes_trimLeftByte_0, bC, bW, bZ, wpY', bV, seval, h1, h2, b8_eq, h0', L_bytes_trimLeftByte_0_eq]
        refine ih l _ _ (by simpa using hl) (by omega) fun l' nl' tg' j1 => q l' nl' tg' ?_
        rw [j1]; simp [allZ, h0]
      · have h0' : ¬ ((c.toNat : Int) = 0) := fun e => h0 (b8_zero.1 e)
        simp only [b_bytes_trimLeftByte_0, bC, bW, bZ, wpY', bV, seval, h1, b8_eq, h0']
        exact q (c :: l) nl tg (by simp [allZ, h0])
theorem f_trimRight {l : List UInt8} {nl tg : Bool} (hl : l.length < 4611686018427387904) (q : ∀ (l' : List UInt8) (nl' tg' : Bool), (l' = [] ↔ allZ l = true) → l'.length ≤ l.length → (l'.getLast? ≠ some 0) → (K (.tree (l'.map b8) nl' tg') st ↔ R)) : WpF XX .ro n_bytes_trimRightByte [.tree (l.map b8) nl tg, .int .u8 0] st K ↔ R := by
  rw [F_ro (mf := m_bytes_trimRightByte) rfl rfl]
  simp only [m_bytes_trimRightByte, bC, bW, bZ, wpY', bV, seval, L_bytes_trimRightByte_0_eq]
  refine L_trimRight l.length l nl tg rfl hl fun l' nl' tg' j1 j2 j3 => ?_
  simp only [bC, bW, bZ, wpY', bV, seval]
  exact q l' nl' tg' j1 j2 j3
theorem f_trimLeft {l : List UInt8} {nl tg : Bool} (hl : l.length < 4611686018427387904) (q : ∀ (l' : List UInt8) (nl' tg' : Bool), (l' = [] ↔ allZ l = true) → (K (.tree (l'.map b8) nl' tg') st ↔ R)) : WpF XX .ro n_bytes_trimLeftByte [.tree (l.map b8) nl tg, .int .u8 0] st K ↔ R := by
  rw [F_ro (mf := m_bytes_trimLeftByte) rfl rfl]
  simp only [m_bytes_trimLeftByte, bC, bW, bZ, wpY', bV, seval, L_bytes_trimLeftByte_0_eq]
  refine L_trimLeft l.length l nl tg rfl hl fun l' nl' tg' j1 => ?_
  by_cases h0 : l' = []
  · subst h0
    simp only [bC, bW, bZ, wpY', bV, seval]
    exact q [] true true j1
  · have h1 : ¬ ((l'.length : Int) = 0) := by
      have : l'.length ≠ 0 := by simpa using h0
      omega
    simp only [bC, bW, bZ, wpY', bV, seval, h1]
    exact q l' nl' tg' j1
set_option maxRecDepth 100000 in
theorem f_Trim {l : List UInt8} {nl tg : Bool} (hl : l.length < 4611686018427387904) (q : ∀ (l' : List UInt8) (nl' tg' : Bool), (l' = [] ↔ allZ l = true) → (K (.tree (l'.map b8) nl' tg') st ↔ R)) : WpF XX .ro n_bytes_Trim [.tree (l.map b8) nl tg, .str ⟨#[0]⟩] st K ↔ R := by
  rw [F_ro (mf := m_bytes_Trim) rfl rfl]
  by_cases h0 : l = []
  · subst h0
    simp only [m_bytes_Trim, bC, bW, bZ, wpY', bV, seval]
    exact q [] true true (by simp [allZ])
  · have h1 : ¬ ((l.length : Int) = 0) := by
      have : l.length ≠ 0 := by simpa using h0
      omega
    simp only [m_bytes_Trim, bC, bW, bD, bZ, wpY', bV, bVD, seval, h1, s0_eq, xorB, s0_size, s0_get]
    refine f_trimRight hl fun l' nl' tg' j1 j2 j3 => ?_
    simp only [bC, bW, bD, bZ, wpY', bV, bVD, seval, s0_size, s0_get]
    refine f_trimLeft (by omega) fun l2 nl2 tg2 j4 => ?_
    simp only [bC, bW, bD, bZ, wpY', bV, bVD, seval]
    refine q l2 nl2 tg2 ?_
    rw [j4, ← j1]
    constructor
    · intro hz
      cases h : l'.getLast? with
      | none => simpa using h
      | some c =>
        exfalso
        have hm := List.mem_of_getLast? h
        have := List.all_eq_true.1 hz c hm
        simp only [decide_eq_true_eq] at this
        subst this
        exact j3 h
    · rintro rfl; rfl
end
end Go.Proofs.YtfmbdcmjgnikiaaGreatDoor.Sm
