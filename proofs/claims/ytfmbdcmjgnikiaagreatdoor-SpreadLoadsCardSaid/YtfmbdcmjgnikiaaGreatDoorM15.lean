/- A program that is heard of and received is there. Conditions: none. Hearing never lowers the version. Conditions: none. Kinds of data, as the laws' own terms have them. Conditions: none. Rows of small numbers, as the laws have them. Conditions: none. SpreadLoads for every argument. Conditions: none. -/
import Derived.Test.YtfmbdcmjgnikiaaGreatDoorM14
import Derived.Test.YtfmbdcmjgnikiaaGreatDoorM4
set_option linter.unusedSimpArgs false
set_option linter.unusedVariables false
namespace Go.Proofs.YtfmbdcmjgnikiaaGreatDoor.Sm
open Go Go.RowKit

def u32V (n : Int) : SV := .int .u32 n
def seedM (x : Int) : Int := x.tmod 1000000001
theorem seedM_ok {x : Int} (h : 0 ≤ x) : seedB (seedM x) = true := by
  rw [seed_iff]; unfold seedM
  rw [Int.tmod_eq_emod_of_nonneg h]; omega
section
variable {X : Cx} {R : Prop} {α : Type} {em : Bool} {sz : Nat} {f : α → SV} (H : CellS sz f)
include H
theorem appendT_S {h : Heap} {lo hi nx : Nat} {acc bs : List α} {v : SV} {nl tg : Bool} {x y : Arg} {ρ : Arg → SV} (r : RowS em sz f h lo hi acc v) (hf : fresh h nx) (hhi : hi ≤ nx) (hb : bs ≠ []) (hn : acc.length + bs.length ≤ 4294967296) (hx : ρ x = v) (hy : ρ y = .tree (bs.map f) nl tg) :
    ∃ ms, evW 0 (look h) nx ρ (.appendT sz x y) = some (.tree ((acc ++ bs).map f) false false, ms, nx) ∧ fresh (appM h ms) nx ∧ ∀ j, (j < lo ∨ hi ≤ j) → look (appM h ms) j = look h j := by
  have hbl : ¬ bs.length = 0 := fun e => hb (List.length_eq_zero_iff.1 e)
  have hsrc : srcOf (look h) sz (ρ y) = some (flat (bs.map f), bs.length) := by
    rw [hy]; unfold srcOf; simp only [lenS H, if_true, List.length_map]
  have hall : (flat (bs.map f)).all (fun v => cellB v && pl1 v) = true := by
    have h1 := flatS_cB H bs; have h2 := flatS_pl H bs
    simp only [List.all_eq_true, Bool.and_eq_true] at h1 h2 ⊢
    exact fun v hv => ⟨h1 v hv, h2 v hv⟩
  rw [evW.eq_3]
  rw [hsrc]
  simp only [if_neg hbl, hall, Bool.true_eq_false, if_false]
  rw [hx]
  rcases r with ⟨rfl, rfl, rfl⟩ | ⟨id, rfl, a2, a3, a4, a5⟩
  · refine ⟨[], ?_, hf, fun j _ => rfl⟩
    simp only [List.all_nil, List.length_nil, Nat.zero_add, true_and]
    rw [if_pos (by unfold LIM; simpa using hn)]
    have := elsS H bs
    simp only [flat, List.flatMap_nil, List.nil_append] at this ⊢
    rw [this]
  · refine ⟨[(id, none)], ?_, ?_, ?_⟩
    · simp only [Nat.zero_le, and_self, if_true, a2]
      rw [if_pos ⟨by rw [flatS_sub H, flatS_len H], by unfold LIM; exact hn, by rw [flatS_sub H]; exact flatS_pl H acc⟩, flatS_sub H, ← flatS_app H, ← List.length_append, elsS H]
    · intro j hj
      rw [appM_d]
      rw [show appM (del h id) [] = del h id from rfl, look_del_ne (by omega)]; exact hf j hj
    · intro j hj
      rw [appM_d]
      rw [show appM (del h id) [] = del h id from rfl, look_del_ne (by omega)]
theorem wD_appendT {e : Env} {h : Heap} {lo hi nx : Nat} {ls : List (Nat × LRec)} {d : Option Nat} {is : List Ins} {rd : List Nat × List Nat} {sep : List (Nat × Nat)} {fps : List FP} {Q : St → Prop} {v : SV} {nl tg : Bool} {x y : Arg} (acc bs : List α) (r : RowS em sz f h lo hi acc v) (hf : fresh h nx) (hhi : hi ≤ nx) (hb : bs ≠ []) (hn : acc.length + bs.length ≤ 4294967296)
    (hx : argV X e x = v) (hy : argV X e y = .tree (bs.map f) nl tg)
    (q : ∀ h', fresh h' nx → (∀ j, (j < lo ∨ hi ≤ j) → look h' j = look h j) → (DrK X is sep (fps ++ [.rd rd.1 rd.2 nx nx]) Q (putE ⟨e, h', nx, ls, 0⟩ d (.tree ((acc ++ bs).map f) false false)) ↔ R)) :
    wD X (evW 0 (look h) nx (argV X e) (.appendT sz x y)) ⟨e, h, nx, ls, 0⟩ d is rd sep fps Q ↔ R := by
  obtain ⟨ms, e1, e2, e3⟩ := appendT_S H r hf hhi hb hn hx hy
  have hu : unused h nx nx = true := by simp [unused]
  rw [e1, wD_v, hu]
  simp only [true_and]
  exact q _ e2 e3
end
section
variable {ls : List (Nat × LRec)} {Q : Ex → St → Prop} {R : Prop} {st : St} {K : SV → St → Prop}
theorem f_ref37_Frame {n : Int} : WpF XX .ro n_ref37_Frame [.int .i64 n] st K ↔ K (.bool (frameB n)) st := by
  rw [F_ro (mf := m_ref37_Frame) rfl rfl]
  unfold frameB
  by_cases h : 0 ≤ n <;> simp only [m_ref37_Frame, bC, bW, bD, bZ, wpY', bV, bVD, seval, h]
theorem L_Loads0 {v0 v5 v13 v16 v18 v19 v81 v82 : SV} {c0 c1 : List SV} {ys : List Int} (hy : ∀ x ∈ ys, 0 ≤ x ∧ x < 4294967296) (hl : ys.length ≤ 1000) {nl tg : Bool} : ∀ (d k : Nat) (acc : List Int) (v : SV) (h : Heap) (nx : Nat), k + d = ys.length → acc.length = k → RowS true 1 iV h 2 nx acc v → fresh h nx → look h 0 = some c0 → look h 1 = some c1 → 2 ≤ nx →
    (∀ v h' nx', RowS true 1 iV h' 2 nx' (acc ++ (ys.drop k).map seedM) v → fresh h' nx' → look h' 0 = some c0 → look h' 1 = some c1 → 2 ≤ nx' → (Q (.exit 2) ⟨[(0, v0), (5, v5), (13, v13), (16, v16), (18, v18), (19, v19), (20, v), (81, v81), (82, v82)], h', nx', ls, 0⟩ ↔ R)) →
    (L_law39_SpreadLoads_0 XX v0 v5 v13 v16 v18 v19 v v81 v82 (.tree (ys.map u32V) nl tg) (.int .i64 ys.length) (.int .i64 k) h nx ls 0 Q ↔ R) := by
  intro d
  induction d with
  | zero =>
    intro k acc v h nx hk ha hv hf a0 a1 hn q
    obtain rfl : k = ys.length := by omega
    rw [L_law39_SpreadLoads_0_unf]
    simp only [b_law39_SpreadLoads_0, bC, bD, bH, bZ, bV, bVD, Nat.add_assoc, seval, Int.lt_irrefl]
    exact q v h nx (by rw [List.drop_length, List.map_nil, List.append_nil]; exact hv) hf a0 a1 hn
  | succ d ih =>
    intro k acc v h nx hk ha hv hf a0 a1 hn q
    have hlt : k < ys.length := by omega
    obtain ⟨x, hx, hd⟩ := get_some hlt
    have hx' : (ys.map u32V)[k]? = some (.int .u32 x) := by rw [List.getElem?_map, hx]; rfl
    have hb := hy x (List.mem_of_getElem? hx)
    have w1 : IntKind.i64.wrap x = x := wi _ (by omega) (by omega)
    have w2 : IntKind.i64.wrap (x.tmod 1000000001) = x.tmod 1000000001 := by
      rw [Int.tmod_eq_emod_of_nonneg hb.1]; exact wi _ (by omega) (by omega)
    rw [L_law39_SpreadLoads_0_unf]
    simp (disch := omega) only [b_law39_SpreadLoads_0, bC, bD, bH, bZ, wpY', bVA, bVD, bB, seval, lt_c hlt, hx', w1, w2]
    refine wO_append (Cell1.S iV_c) acc [seedM x] (lo := 2) (hi := nx) (v := v) hv hf (Nat.le_refl _) (by simp) (by simp; omega) rfl rfl fun v' h' i1 i2 i3 => ?_
    simp (disch := omega) only [bC, bD, bH, bZ, wpY', bVA, bVD, bB, seval, wi_s hlt (by omega), L_law39_SpreadLoads_0_eq]
    refine ih (k + 1) (acc ++ [seedM x]) v' _ (nx + 1) (by omega) (by simp [ha]) (i1.mono (fun _ _ _ => rfl) (by omega) (Nat.le_refl _)) i2 (by rw [i3 0 (by omega) (.inl (by omega))]; exact a0) (by rw [i3 1 (by omega) (.inl (by omega))]; exact a1) (by omega) fun v2 h2 nx2 j1 j2 j3 j4 j5 => ?_
    refine q v2 h2 nx2 ?_ j2 j3 j4 j5
    rw [hd, List.map_cons]
    rw [List.append_assoc] at j1
    exact j1
theorem plain_ne : plainL ≠ [] := by simp [plainL]
theorem acc_seeds {ys : List Int} (hy : ∀ x ∈ ys, 0 ≤ x ∧ x < 4294967296) : ∀ x ∈ ys.map seedM ++ plainL, seedB x = true := fun x hx => by
  rcases List.mem_append.1 hx with hx | hx
  · obtain ⟨y, h, rfl⟩ := List.mem_map.1 hx
    exact seedM_ok (hy y h).1
  · exact plain_seed x hx
set_option maxHeartbeats 4000000 in
theorem L_Loads1 {b : List UInt8} {ver start : Int} {T : Tm} {v0 : SV} {c0 : List SV} (hn : noticeI ver b.length start = true) (hT : validT T = true) {picks : List (Sl Int)} (hp : ∀ p ∈ picks, ∀ x ∈ p.xs, 0 ≤ x ∧ x < 4294967296) {nl tg : Bool} :
    ∀ (d k : Nat) (s : Sp) (h : Heap) (nx : Nat), k + d = (splitI b).length → SpW s → LdB b ver start T k s → fresh h nx → look h 0 = some c0 → look h 1 = some s.c → 2 ≤ nx →
    (∀ s' h' nx', SpW s' → LdB b ver start T (splitI b).length s' → look h' 1 = some s'.c → (Q (.exit 0) ⟨[(0, v0), (13, .bool true), (18, .ptr 1 0)], h', nx', ls, 0⟩ ↔ R)) →
    (L_law39_SpreadLoads_1 XX v0 (.tree (picks.map (Sl.v u32V)) nl tg) (.bool true) (.tree ((splitI b).map By.v) false false) (.ptr 1 0) (.int .i64 (splitI b).length) (.int .i64 k) h nx ls 0 Q ↔ R) := by
  intro d
  induction d with
  | zero =>
    intro k s h nx hk W B hf a0 a1 hn' q
    obtain rfl : k = (splitI b).length := by omega
    rw [L_law39_SpreadLoads_1_unf]
    simp only [b_law39_SpreadLoads_1, bC, bD, bH, bZ, bV, bVD, Nat.add_assoc, seval, Int.lt_irrefl]
    exact q s h nx W B a1
  | succ d ih =>
    intro k s h nx hk W B hf a0 a1 hn' q
    have hlt : k < (splitI b).length := by omega
    have hS := notice_sized hn
    have hl4 : (splitI b).length ≤ 1000 := by
      have hS := hS
      unfold sizedI at hS
      simp only [Bool.and_eq_true, decide_eq_true_eq] at hS
      rw [split_len (by omega)]; omega
    obtain ⟨page, hpg, _⟩ := get_some hlt
    have hok : ∀ p ∈ splitI b, p.ok := fun p hp h => by rw [((split_pages b).2.1 p hp).2.1] at h; cases h
    have tail : ∀ (ys : List Int), (∀ x ∈ ys, 0 ≤ x ∧ x < 4294967296) → ys.length ≤ 40 → ∃ c : Sp, SpW c ∧ LdB b ver start T (k + 1) c ∧ (c.pages.xs.length : Int) = ((k + 1 : Nat) : Int) ∧
        ∀ st K, WpF XX .ro n_law39_feed [.agg s.c, .tree ((splitI b).map By.v) false false, .int .i64 k, .tree ((ys.map seedM ++ plainL).map iV) false false] st K ↔ K (.tup [.agg c.c, .bool true]) st := fun ys hy hyl => by
      obtain ⟨c, hc, hBc⟩ := feed_page hn hT hpg (acc_seeds hy) (fun i hi => List.mem_append_right _ (plain_mem i hi)) (B.toA hpg)
      have hgc : feedG s (splitI b) (k : Nat) (ys.map seedM ++ plainL) = (c, true) := by rw [feedG_eq hS hpg, hc]
      have Wc : SpW c := by have := feedG_W (s := s) (pages := splitI b) (number := (k : Nat)) (seeds := ys.map seedM ++ plainL) W; rwa [hgc] at this
      refine ⟨c, Wc, hBc, by rw [hBc.ld.len (by omega)], fun st K => ?_⟩
      have := f_law39_feed (st := st) (K := K) (n1 := false) (g1 := false) (number := (k : Nat)) (seeds := ys.map seedM ++ plainL) (nl := false) (tg := false) W hok (by simp [plainL]; omega)
      rw [hgc] at this
      exact this
    rw [L_law39_SpreadLoads_1_unf]
    by_cases hk2 : k < picks.length
    case neg =>
      have a1' := a1
      rw [Sp.c] at a1'
      have hk2' : ¬ ((k : Int) < (picks.length : Int)) := by omega
      obtain ⟨c, Wc, hBc, hcl, eF⟩ := tail [] (by simp) (by simp)
      simp only [List.map_nil, List.nil_append] at eF
      simp (disch := omega) only [b_law39_SpreadLoads_1, bC, bD, bH, bZ, wpY', bVA, bVD, bB, seval, lt_c hlt, hk2', f_law39_plain, a1']
      refine wD_appendT (Cell1.S iV_c) [] plainL (lo := 2) (hi := nx) (v := .tree [] true true) (.inl ⟨rfl, rfl, rfl⟩) hf (Nat.le_refl _) plain_ne (by simp [plainL]) rfl rfl fun h' j1 j2 => ?_
      have b0 := (j2 0 (.inl (by omega))).trans a0
      have b1 := (j2 1 (.inl (by omega))).trans a1
      have f0 := j1 nx (Nat.le_refl _)
      simp only [Sp.c] at eF b1
      simp (disch := omega) only [List.nil_append, bC, bD, bH, bZ, wpY', bVA, bVD, bB, seval, eF, b1, f0, eq_true hcl, wi_s hlt (by omega), L_law39_SpreadLoads_1_eq]
      refine ih (k + 1) c _ _ (by omega) Wc hBc ?_ ?_ ?_ ?_ q
      · exact fun j hj => by simp (disch := omega) only [bC, bD, bH, bZ, wpY', bV, bVD, seval]; exact j1 j (by omega)
      · simp (disch := omega) only [bC, bD, bH, bZ, wpY', bV, bVD, seval, b0]
      · simp (disch := omega) only [bC, bD, bH, bZ, wpY', bV, bVD, seval, b1, Sp.c]
      · omega
    case pos =>
      have a1' := a1
      rw [Sp.c] at a1'
      obtain ⟨ys, hys, _⟩ := get_some hk2
      have hyr := hp ys (List.mem_of_getElem? hys)
      have hys' : (picks.map (Sl.v u32V))[k]? = some (.tree (ys.xs.map u32V) ys.nl ys.tg) := by rw [List.getElem?_map, hys]; rfl
      obtain ⟨m, hm⟩ : ∃ m : Nat, m = min ys.xs.length 40 := ⟨_, rfl⟩
      have em : (if (40 : Int) < (ys.xs.length : Int) then (40 : Int) else (ys.xs.length : Int)) = ((m : Nat) : Int) := by split <;> omega
      have m1 : (m : Int) ≤ (ys.xs.length : Int) := by omega
      obtain ⟨zs, hz⟩ : ∃ zs, zs = ys.xs.take m := ⟨_, rfl⟩
      have hzt : (ys.xs.map u32V).take m = zs.map u32V := by rw [hz, List.map_take]
      have hzl : zs.length ≤ 40 := by rw [hz, List.length_take]; omega
      have hzr : ∀ x ∈ zs, 0 ≤ x ∧ x < 4294967296 := fun x hx => hyr x (List.mem_of_mem_take (by rw [← hz]; exact hx))
      have hd1 : hdSz 1 (ys.xs.map u32V) = true := by cases ys.xs <;> rfl
      obtain ⟨c, Wc, hBc, hcl, eF⟩ := tail zs hzr hzl
      simp (disch := omega) only [b_law39_SpreadLoads_1, bC, bD, bH, bZ, wpY', bVA, bVD, bB, seval, lt_c hlt, lt_c hk2, hys', hd1, em, m1, hzt, L_law39_SpreadLoads_0_eq]
      refine L_Loads0 hzr (by omega) zs.length 0 [] (.tree [] true true) h nx (by omega) rfl (.inl ⟨rfl, rfl, rfl⟩) hf a0 a1 hn' fun v h1 nx1 i1 i2 i3 i4 i5 => ?_
      rw [List.drop_zero, List.nil_append] at i1
      have i4' := i4
      rw [Sp.c] at i4'
      simp (disch := omega) only [bC, bD, bH, bZ, wpY', bVA, bVD, bB, seval, f_law39_plain, i4']
      refine wD_appendT (Cell1.S iV_c) (zs.map seedM) plainL (lo := 2) (hi := nx1) (v := v) i1 i2 (Nat.le_refl _) plain_ne (by simp [plainL]; omega) rfl rfl fun h' j1 j2 => ?_
      have b0 := (j2 0 (.inl (by omega))).trans i3
      have b1 := (j2 1 (.inl (by omega))).trans i4
      have f0 := j1 nx1 (Nat.le_refl _)
      simp only [Sp.c] at eF b1
      have hv : v = .tree [] true true ∨ ∃ id n, v = .own id 0 n 1 ∧ 2 ≤ id ∧ id < nx1 := by
        rcases i1 with ⟨_, h, _⟩ | ⟨id, h, _, h3, h4, _⟩
        · exact .inl h
        · exact .inr ⟨id, _, h, h3, h4⟩
      rcases hv with rfl | ⟨id, n, rfl, hid, hid'⟩
      · simp (disch := omega) only [bC, bD, bH, bZ, wpY', bVA, bVD, bB, seval, eF, b1, f0, eq_true hcl, wi_s hlt (by omega), L_law39_SpreadLoads_1_eq]
        refine ih (k + 1) c _ _ (by omega) Wc hBc ?_ ?_ ?_ ?_ q
        · exact fun j hj => by simp (disch := omega) only [bC, bD, bH, bZ, wpY', bV, bVD, seval]; exact j1 j (by omega)
        · simp (disch := omega) only [bC, bD, bH, bZ, wpY', bV, bVD, seval, b0]
        · simp (disch := omega) only [bC, bD, bH, bZ, wpY', bV, bVD, seval, b1, Sp.c]
        · omega
      · have hid1 : ¬ (1 = id) := by omega
        have hid2 : ¬ (id = 1) := by omega
        have hid3 : ¬ nx1 ≤ id := by omega
        simp (disch := omega) only [bC, bD, bH, bZ, wpY', bVA, bVD, bB, seval, eF, b1, f0, eq_true hcl, wi_s hlt (by omega), hid1, hid2, hid3, L_law39_SpreadLoads_1_eq]
        refine ih (k + 1) c _ _ (by omega) Wc hBc ?_ ?_ ?_ ?_ q
        · exact fun j hj => by simp (disch := omega) only [bC, bD, bH, bZ, wpY', bV, bVD, seval]; exact j1 j (by omega)
        · simp (disch := omega) only [bC, bD, bH, bZ, wpY', bV, bVD, seval, b0]
        · simp (disch := omega) only [bC, bD, bH, bZ, wpY', bV, bVD, seval, b1, Sp.c]
        · omega
set_option maxHeartbeats 4000000 in
theorem law_SpreadLoads {b : List UInt8} {nb gb : Bool} {ver start seed frame : Int} {picks : List (Sl Int)} (hp : ∀ p ∈ picks, ∀ x ∈ p.xs, 0 ≤ x ∧ x < 4294967296) {nl tg : Bool} :
    WpF XX .ro n_law39_SpreadLoads [.tree (b.map b8) nb gb, .int .i64 ver, .int .i64 start, .int .i64 seed, .int .i64 frame, .tree (picks.map (Sl.v u32V)) nl tg] st K ↔ K (.bool true) st := by
  rw [F_ro (mf := m_law39_SpreadLoads) rfl rfl]
  by_cases hn : noticeI ver b.length start = true
  case neg => simp only [m_law39_SpreadLoads, bC, bW, bD, bZ, wpY', bV, bVD, seval, f_law39_head, f_image_Announce, hn]
  by_cases h1 : (1024 : Int) < (b.length : Int)
  case pos => simp only [m_law39_SpreadLoads, bC, bW, bD, bZ, wpY', bV, bVD, seval, f_law39_head, f_image_Announce, hn, h1]
  by_cases h2 : seed < 0
  case pos => simp only [m_law39_SpreadLoads, bC, bW, bD, bZ, wpY', bV, bVD, seval, f_law39_head, f_image_Announce, hn, h1, h2]
  by_cases h3 : 1000000000 < seed
  case pos => simp only [m_law39_SpreadLoads, bC, bW, bD, bZ, wpY', bV, bVD, seval, f_law39_head, f_image_Announce, hn, h1, h2, h3]
  cases h4 : frameB frame with
  | false => simp only [m_law39_SpreadLoads, bC, bW, bD, bZ, wpY', bV, bVD, seval, f_law39_head, f_image_Announce, hn, h1, h2, h3, f_ref37_Frame, h4]
  | true =>
  by_cases h5 : (8 : Int) < (picks.length : Int)
  case pos => simp only [m_law39_SpreadLoads, bC, bW, bD, bZ, wpY', bV, bVD, seval, f_law39_head, f_image_Announce, hn, h1, h2, h3, f_ref37_Frame, h4, h5]
  have hS := notice_sized hn
  have hs : seedB seed = true := seed_iff.2 ⟨by omega, by omega⟩
  have hT := new_valid hs h4
  have eS : ∀ st K, WpF XX .ro n_image_Split [.tree (b.map b8) nb gb] st K ↔ K (.tup [.tree ((splitI b).map By.v) false false, .int .i64 0]) st := fun st K => by rw [f_image_Split, if_pos hS]
  have hc0 : 0 ≤ countI (b.length : Int) := by rw [split_count hS]; omega
  obtain ⟨hh, hB⟩ := hear_new (pages := 0) (frame := frame) (sd := seed) hn (by omega) hc0 hs h4
  have W1 : SpW (nilSp ver (b.length : Int) (rootI (splitI b)) start (newT seed frame)) := nil_W _ _ _ _ _
  have eH := fun st K => f_spread_Hear (st := st) (K := K) (s := nilSp 0 0 0 0 ⟨0, 0, 0, 0, seed⟩) (nil_W _ _ _ _ _) (a := ver) (b := b.length) (c := rootI (splitI b)) (d := start) (pages := 0) (frame := frame)
  rw [hh] at eH
  have q1 : (nilSp ver (b.length : Int) (rootI (splitI b)) start (newT seed frame)).ver = ver ∧ (nilSp ver (b.length : Int) (rootI (splitI b)) start (newT seed frame)).size = b.length ∧ (nilSp ver (b.length : Int) (rootI (splitI b)) start (newT seed frame)).dg = rootI (splitI b) ∧ (nilSp ver (b.length : Int) (rootI (splitI b)) start (newT seed frame)).start = start := ⟨rfl, rfl, rfl, rfl⟩
  generalize nilSp ver (b.length : Int) (rootI (splitI b)) start (newT seed frame) = s1 at hB W1 eH q1
  simp only [Sp.c, nilSp, nilS, List.map_nil] at eH
  obtain ⟨q1, q2, q3, q4⟩ := q1
  simp only [m_law39_SpreadLoads, bC, bW, bD, bZ, wpY', bV, bVD, seval, f_law39_head, f_image_Announce, hn, h1, h2, h3, f_ref37_Frame, h4, h5, eS, eH, q1, q2, q3, q4, L_law39_SpreadLoads_1_eq]
  refine L_Loads1 (c0 := [.int .i64 ver, .int .i64 b.length, .int .u64 (rootI (splitI b)), .int .i64 start]) hn hT hp (splitI b).length 0 s1 _ 2 (by omega) W1 hB (fun j hj => ?_) rfl ?_ (by omega) fun s' h' nx' W' B' b1 => ?_
  · simp (disch := omega) only [bC, bD, bH, bZ, wpY', bV, bVD, seval]
  · rw [Sp.c, q1, q2, q3, q4]; rfl
  have hb4 := sized_iff.1 hS
  have eW := fun st K => f_Whole_S (st := st) (K := K) W' hn B'.ld
  have eB := fun st K => f_ref36_Bytes (st := st) (K := K) (a := b) (b := b) (n1 := false) (g1 := true) (n2 := nb) (g2 := gb) (by omega)
  simp only [Sp.c] at b1 eW
  simp (disch := omega) only [bC, bD, bH, bZ, wpY', bV, bVD, seval, b1, eW, eB]
end
end Go.Proofs.YtfmbdcmjgnikiaaGreatDoor.Sm
namespace Go.Proofs.YtfmbdcmjgnikiaaGreatDoor.Sm
open Go Go.RowKit

/-- A state as it is handed in. -/
structure SpI (s : Sp) : Prop where
  hp : ∀ p ∈ s.pages.xs, p.ok
  hq : ∀ p ∈ s.proofs.xs, p.ok
  hr : ∀ r ∈ s.rows.xs, r.data.ok
  np : s.pages.ok
  nq : s.proofs.ok
  nr : s.rows.ok
  nf : s.proof.ok
theorem SpI.W {s : Sp} {n : Nat} (h : SpI s) (hf : fewS s n = true) : SpW s := by
  unfold fewS fewI at hf
  simp only [Bool.and_eq_true, decide_eq_true_eq, List.all_eq_true] at hf
  obtain ⟨⟨⟨⟨⟨⟨⟨f1, f2⟩, f3⟩, f4⟩, f5⟩, f6⟩, f7⟩, f8⟩ := hf
  exact ⟨by omega, by omega, by omega, by omega, fun p hp => ⟨h.hp p hp, by have := f5 p hp; omega⟩, fun p hp => ⟨h.hq p hp, by have := f6 p hp; omega⟩, fun p hp => ⟨h.hr p hp, by have := f7 p hp; omega⟩, h.np, h.nq, h.nr, h.nf⟩
/-- Two states hold the same. -/
def eqS (a b : Sp) : Prop := (a.ver = b.ver ∧ a.size = b.size ∧ a.dg = b.dg ∧ a.start = b.start) ∧ (a.t.iv = b.t.iv ∧ a.t.bg = b.t.bg ∧ a.t.fi = b.t.fi ∧ a.t.ct = b.t.ct ∧ a.t.sd = b.t.sd) ∧ inner a.pages.xs = inner b.pages.xs ∧ inner a.proofs.xs = inner b.proofs.xs ∧ a.proof.xs = b.proof.xs ∧ rwE a.rows.xs = rwE b.rows.xs
instance (a b : Sp) : Decidable (eqS a b) := by unfold eqS; infer_instance
theorem SpW.bnd {s : Sp} (W : SpW s) : SpBnd s.pages.xs s.proofs.xs s.rows.xs s.proof.xs :=
  ⟨by have := W.lp; omega, by have := W.lq; omega, by have := W.lr; omega, by have := W.lf; omega, fun p hp => by have := (W.hp p hp).2; omega, fun p hp => by have := (W.hq p hp).2; omega, fun p hp => by have := (W.hr p hp).2; omega⟩
section
variable {st : St} {K : SV → St → Prop}
end
end Go.Proofs.YtfmbdcmjgnikiaaGreatDoor.Sm
namespace Go.Proofs.YtfmbdcmjgnikiaaGreatDoor.Sm
open Go Go.RowKit

def tI : TD := .int .i64
def tB : TD := .sl (.int .u8)
theorem lift {α : Type} {f : α → SV} {p : α → Prop} : ∀ {xs : List SV}, (∀ x ∈ xs, ∃ a, x = f a ∧ p a) → ∃ l : List α, xs = l.map f ∧ ∀ a ∈ l, p a
  | [], _ => ⟨[], rfl, by simp⟩
  | x :: xs, h => by
    obtain ⟨a, rfl, ha⟩ := h x List.mem_cons_self
    obtain ⟨l, rfl, hl⟩ := lift fun y hy => h y (List.mem_cons_of_mem _ hy)
    exact ⟨a :: l, rfl, fun b hb => by rcases List.mem_cons.1 hb with rfl | hb; exact ha; exact hl b hb⟩
theorem wf_u8 {n : Int} (h : (Lit.int .u8 n).wf = true) : ∃ c : UInt8, SV.int .u8 n = b8 c := by
  simp only [Lit.wf, IntKind.min, IntKind.max, IntKind.signed, IntKind.bits, Bool.and_eq_true, decide_eq_true_eq] at h
  have h1 : 0 ≤ n ∧ n < 256 := by simp at h; omega
  refine ⟨UInt8.ofNat n.toNat, ?_⟩
  have : (UInt8.ofNat n.toNat).toNat = n.toNat := by
    rw [UInt8.toNat_ofNat']
    omega
  rw [b8, this]
  congr 1
  omega
theorem wf_i64 {n : Int} (h : (Lit.int .i64 n).wf = true) : -9223372036854775808 ≤ n ∧ n < 9223372036854775808 := by
  simp only [Lit.wf, IntKind.min, IntKind.max, IntKind.signed, IntKind.bits, Bool.and_eq_true, decide_eq_true_eq] at h
  simp at h
  exact ⟨by omega, by omega⟩
theorem enc_tB {ys : List SV} (h : tB.enc ys) : ∃ b : By, ys = [b.v] ∧ b.ok ∧ b.xs.length ≤ 140737488351232 ∧ b.tg = false := by
  obtain ⟨xs, nl, rfl, hl, hn, hx⟩ := h
  obtain ⟨l, rfl, _⟩ := lift (f := b8) (p := fun _ => True) fun x hx' => by
    obtain ⟨zs, ⟨n, rfl, hw⟩, rfl⟩ := hx x hx'
    obtain ⟨c, hc⟩ := wf_u8 hw
    exact ⟨c, hc, trivial⟩
  exact ⟨⟨l, nl, false⟩, rfl, fun h => by simpa using hn h, by simpa [reachBytes] using hl, rfl⟩
/-! ### arguments -/
def I64 (n : Int) : Prop := -9223372036854775808 ≤ n ∧ n < 9223372036854775808
theorem arg_tI {s : SV} (h : tI.arg s) : ∃ n, s = .int .i64 n ∧ I64 n := by
  obtain ⟨n, h, hw⟩ := h
  cases h
  exact ⟨n, rfl, wf_i64 hw⟩
theorem arg_tB {s : SV} (h : tB.arg s) : ∃ (b : List UInt8) (nl : Bool), s = .tree (b.map b8) nl false ∧ (nl = true → b = []) ∧ b.length ≤ 140737488351232 := by
  obtain ⟨⟨xs, nl, tg⟩, h1, h2, h3, h4⟩ := enc_tB h
  cases h1
  cases h4
  exact ⟨xs, nl, rfl, h2, h3⟩
end Go.Proofs.YtfmbdcmjgnikiaaGreatDoor.Sm
namespace Go.Proofs.YtfmbdcmjgnikiaaGreatDoor.Sm
open Go Go.RowKit

def tV : TD := .sl (.int .u32)
def tVV : TD := .sl tV
theorem wf_u32 {n : Int} (h : (Lit.int .u32 n).wf = true) : 0 ≤ n ∧ n < 4294967296 := by
  simp only [Lit.wf, IntKind.min, IntKind.max, IntKind.signed, IntKind.bits, Bool.and_eq_true, decide_eq_true_eq] at h
  simp at h
  exact ⟨by omega, by omega⟩
theorem enc_tV {ys : List SV} (h : tV.enc ys) : ∃ b : Sl Int, ys = [b.v u32V] ∧ b.xs.length ≤ 140737488351232 ∧ (∀ x ∈ b.xs, 0 ≤ x ∧ x < 4294967296) ∧ b.tg = false := by
  obtain ⟨xs, nl, rfl, hl, hn, hx⟩ := h
  obtain ⟨l, rfl, hr⟩ := lift (f := u32V) (p := fun x => 0 ≤ x ∧ x < 4294967296) fun x hx' => by
    obtain ⟨zs, ⟨n, rfl, hw⟩, rfl⟩ := hx x hx'
    exact ⟨n, rfl, wf_u32 hw⟩
  exact ⟨⟨l, nl, false⟩, rfl, by simpa [reachBytes] using hl, hr, rfl⟩
theorem arg_tVV {s : SV} (h : tVV.arg s) : ∃ (l : List (Sl Int)) (nl : Bool), s = .tree (l.map (Sl.v u32V)) nl false ∧ ∀ b ∈ l, ∀ x ∈ b.xs, 0 ≤ x ∧ x < 4294967296 := by
  obtain ⟨xs, nl, h1, hl, hn, hx⟩ := h
  cases h1
  obtain ⟨l, rfl, hr⟩ := lift (f := Sl.v u32V) (p := fun b => ∀ x ∈ b.xs, 0 ≤ x ∧ x < 4294967296) fun x hx' => by
    obtain ⟨zs, hz, rfl⟩ := hx x hx'
    obtain ⟨b, rfl, h1, h2, _⟩ := enc_tV hz
    exact ⟨b, rfl, h2⟩
  exact ⟨l, nl, rfl, hr⟩
end Go.Proofs.YtfmbdcmjgnikiaaGreatDoor.Sm
namespace Go.Proofs.YtfmbdcmjgnikiaaGreatDoor.Sm
open Go Go.RowKit

theorem g_SpreadLoads {st : St} {ss : List SV} (h : argL [tB, tI, tI, tI, tI, tVV] ss) : WpF XX .ro n_law39_SpreadLoads ss st fun r _ => r = .bool true := by
  obtain ⟨_, _, rfl, a1, _, _, rfl, a2, _, _, rfl, a3, _, _, rfl, a4, _, _, rfl, a5, _, _, rfl, a6, rfl⟩ := h
  obtain ⟨b, nb, rfl, _⟩ := arg_tB a1
  obtain ⟨v, rfl, _⟩ := arg_tI a2
  obtain ⟨s, rfl, _⟩ := arg_tI a3
  obtain ⟨d, rfl, _⟩ := arg_tI a4
  obtain ⟨f, rfl, _⟩ := arg_tI a5
  obtain ⟨l, nl, rfl, hl⟩ := arg_tVV a6
  exact (law_SpreadLoads hl).2 rfl
end Go.Proofs.YtfmbdcmjgnikiaaGreatDoor.Sm
