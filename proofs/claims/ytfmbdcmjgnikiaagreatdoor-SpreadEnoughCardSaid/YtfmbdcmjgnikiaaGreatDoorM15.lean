/- A program that is heard of and received is there. Conditions: none. Rows of equal sets grow alike: plain laws. Conditions: none. The page is there exactly when the sets are enough. Conditions: none. Hearing never lowers the version. Conditions: none. Kinds of data, as the laws' own terms have them. Conditions: none. Rows of small numbers, as the laws have them. Conditions: none. SpreadEnough for every argument. Conditions: none. -/
import Derived.Test.YtfmbdcmjgnikiaaGreatDoorM14
import Derived.Test.YtfmbdcmjgnikiaaGreatDoorM4
set_option linter.unusedSimpArgs false
set_option linter.unusedVariables false
namespace Go.Proofs.YtfmbdcmjgnikiaaGreatDoor.Sm
open Go Go.RowKit

def u32V (n : Int) : SV := .int .u32 n
section
variable {X : Cx} {R : Prop} {α : Type} {em : Bool} {sz : Nat} {f : α → SV} (H : CellS sz f)
include H
end
section
variable {ls : List (Nat × LRec)} {Q : Ex → St → Prop} {R : Prop} {st : St} {K : SV → St → Prop}
end
end Go.Proofs.YtfmbdcmjgnikiaaGreatDoor.Sm
namespace Go.Proofs.YtfmbdcmjgnikiaaGreatDoor.Sm
open Go Go.RowKit

theorem step_m {x y e f : En} (h : x.m = y.m) (k : e.m = f.m) : (stepE x e).m = (stepE y f).m := by
  unfold stepE
  rw [h, k]
  split
  · show x.m ^^^ e.m = y.m ^^^ f.m
    rw [h, k]
  · exact h
theorem red_m : ∀ {l l' : List En} {x y : En}, l.map En.m = l'.map En.m → x.m = y.m → (redE l x).m = (redE l' y).m
  | [], [], _, _, _, h => h
  | e :: l, f :: l', x, y, hl, h => by
    rw [List.map_cons, List.map_cons, List.cons.injEq] at hl
    show (redE l (stepE x e)).m = (redE l' (stepE y f)).m
    exact red_m hl.2 (step_m h hl.1)
  | [], _ :: _, _, _, hl, _ => by cases hl
  | _ :: _, [], _, _, hl, _ => by cases hl
theorem elim_m {x y e f : En} (h : x.m = y.m) (k : e.m = f.m) : (elimE x e).m = (elimE y f).m := by
  rw [elim_step, elim_step]; exact step_m k h
theorem ins_m {e f : En} (h : e.m = f.m) : ∀ {l l' : List En} {p : Bool}, l.map En.m = l'.map En.m → (insE e l p).map En.m = (insE f l' p).map En.m
  | [], [], p, _ => by cases p <;> simp [insE, h]
  | r :: l, r' :: l', p, hl => by
    rw [List.map_cons, List.map_cons, List.cons.injEq] at hl
    have e1 := elim_m (x := e) (y := f) (e := r) (f := r') h hl.1
    unfold insE
    rw [h, hl.1]
    split
    · rw [List.map_cons, List.map_cons, List.map_cons, List.map_cons, h, e1, ins_m h hl.2]
    · rw [List.map_cons, List.map_cons, e1, ins_m h hl.2]
  | [], _ :: _, _, hl => by cases hl
  | _ :: _, [], _, hl => by cases hl
def zPage : List UInt8 := List.replicate 256 0
theorem blk_z (i : Nat) : blkI zPage i = Bk.zero := by
  refine Bk.ext ?_
  show (((zPage.drop (i * 16)).take 16) ++ List.replicate 16 0).take 16 = List.replicate 16 0
  rw [zPage, List.drop_replicate, List.take_replicate, List.replicate_append_replicate, List.take_replicate]
  congr 1
theorem enc_z (S : Nat) : ∀ i, encB zPage S i = Bk.zero
  | 0 => rfl
  | i + 1 => by
    rw [encB, enc_z S i, blk_z, bx_zero]
    split <;> rfl
theorem ins_full {l : List En} (h : Rref l) (hl : l.length = 16) {x : En} (hx : x.m < 65536) : (redE l x).m = 0 := by
  refine Decidable.byContradiction fun h0 => ?_
  have F := red_fits h x hx h0
  have h1 := rref_len (ins_rref h F)
  have h2 := (ins_perm (redE l x) l false).length_eq
  simp at h2
  omega
/-- Two rows of the same sets: the one of the page that is being loaded, the other of zeros. -/
structure EnI (b : List UInt8) (ver start : Int) (T : Tm) (page : By) (s : Sp) (R : List Rw) : Prop where
  gd : Gd zPage R
  or : (LdA b ver start T 0 page s ∧ (s.rows.xs.map enR).map En.m = (R.map enR).map En.m) ∨ (LdB b ver start T 1 s ∧ R.length = 16)
section
variable {b : List UInt8} {ver start : Int} {T : Tm} {page : By} {s : Sp} {R : List Rw}
theorem EnI.le (I : EnI b ver start T page s R) : R.length ≤ 16 := by
  have := rref_len I.gd.rref
  rwa [List.length_map] at this
theorem EnI.iff (I : EnI b ver start T page s R) (hb : 1 ≤ (splitI b).length) : decide (s.pages.xs.length = 1) = decide (R.length = 16) := by
  rcases I.or with ⟨A, e⟩ | ⟨B, e⟩
  · have h1 := A.ld.len (by omega)
    have h2 := congrArg List.length e
    simp only [List.length_map] at h2
    have h3 := A.lt
    rw [decide_eq_false (by omega), decide_eq_false (by omega)]
  · have h1 := B.ld.len (by omega)
    rw [decide_eq_true h1, decide_eq_true e]
theorem en_step (hn : noticeI ver b.length start = true) (hT : validT T = true) (hp : (splitI b)[0]? = some page) (I : EnI b ver start T page s R) {x : Int} (hx : seedB x = true) {data : By} (hd : data.xs = List.replicate 16 0) :
    ∃ c, feedL page.xs ((0 : Nat) : Int) (prq (splitI b) 0) [x] s = (c, true) ∧ (addR R ⟨setN x, data⟩).2.2 = 0 ∧ EnI b ver start T page c (addR R ⟨setN x, data⟩).1.xs := by
  obtain ⟨l', h1, h2, h3, h4, h5, h6⟩ := add_cod I.gd hx (data := data) (by rw [hd, enc_z]; rfl)
  rw [h1, h2]
  have he := (fb_ok hp hx (pf := prq (splitI b) 0)).2.1
  rcases I.or with ⟨A, e⟩ | ⟨B, e⟩
  · obtain ⟨k1, l, k2, k3, k4, k5⟩ := stepA hn hT A hx (pf := prq (splitI b) 0) rfl
    have hr : (redE (s.rows.xs.map enR) (codE page.xs x)).m = (redE (R.map enR) (codE zPage x)).m := red_m e rfl
    have hl : l.map En.m = l'.map En.m := by
      rw [k2, h6, hr]
      split
      · exact e
      · exact ins_m hr e
    have hll := congrArg List.length hl
    simp only [List.length_map] at hll
    refine ⟨(recvG (copyS s) (feedBl page.xs ((0 : Nat) : Int) x (prq (splitI b) 0))).1, by rw [feedL_c he (.inl k1)]; rfl, rfl, h3, ?_⟩
    rcases k5 with ⟨m1, A', m3⟩ | ⟨m1, B'⟩
    · refine .inl ⟨A', ?_⟩
      rw [m3]
      show _ = ((l'.map rowE).map enR).map En.m
      rw [en_rows, hl]
    · exact .inr ⟨B', by show (l'.map rowE).length = 16; rw [List.length_map]; omega⟩
  · have k := stepB hn hT hp B hx (pf := prq (splitI b) 0)
    refine ⟨(recvG (copyS s) (feedBl page.xs ((0 : Nat) : Int) x (prq (splitI b) 0))).1, ?_, rfl, h3, .inr ⟨k.2, ?_⟩⟩
    · rw [feedL_c he (by rw [k.1]; split <;> simp)]; rfl
    · show (l'.map rowE).length = 16
      rw [List.length_map, h6, if_pos (ins_full I.gd.rref (by rw [List.length_map]; exact e) (show setN x < 65536 from set_lt x)), List.length_map]
      exact e
end
end Go.Proofs.YtfmbdcmjgnikiaaGreatDoor.Sm
namespace Go.Proofs.YtfmbdcmjgnikiaaGreatDoor.Sm
open Go Go.RowKit

def seedP (x : Int) : Int := if x < 64 then x else x.tmod 1000000001
theorem seedP_ok {x : Int} (h : 0 ≤ x) : seedB (seedP x) = true := by
  rw [seed_iff]; unfold seedP
  rw [Int.tmod_eq_emod_of_nonneg h]; split <;> omega
section
variable {ls : List (Nat × LRec)} {Q : Ex → St → Prop} {R : Prop} {st : St} {K : SV → St → Prop}
set_option maxHeartbeats 4000000 in
theorem L_Enough {b : List UInt8} {ver start : Int} {T : Tm} {page : By} (hn : noticeI ver b.length start = true) (hT : validT T = true) (hp : (splitI b)[0]? = some page) {ys : List Int} (hy : ∀ x ∈ ys, 0 ≤ x ∧ x < 4294967296) (hl : ys.length ≤ 40) {nl tg : Bool} :
    ∀ (d k : Nat) (s : Sp) (rows : Sl Rw) (h : Heap) (nx : Nat), k + d = ys.length → SpW s → EnI b ver start T page s rows.xs → fresh h nx → look h 1 = some s.c → 2 ≤ nx →
    (∀ e h' nx', getE e 5 = .bool true → (Q (.exit 0) ⟨e, h', nx', ls, 0⟩ ↔ R)) →
    (L_law39_SpreadEnough_0 XX (.bool true) (.tree ((splitI b).map By.v) false false) (.ptr 1 0) (rows.v Rw.v) (.tree (ys.map u32V) nl tg) (.int .i64 ys.length) (.int .i64 k) h nx ls 0 Q ↔ R) := by
  intro d
  have hS := notice_sized hn
  have hok : ∀ p ∈ splitI b, p.ok := fun p hp h => by rw [((split_pages b).2.1 p hp).2.1] at h; cases h
  have h1 := (List.getElem?_eq_some_iff.1 hp).1
  induction d with
  | zero =>
    intro k s rows h nx hk W I hf a1 hn' q
    obtain rfl : k = ys.length := by omega
    rw [L_law39_SpreadEnough_0_unf]
    simp only [b_law39_SpreadEnough_0, bC, bD, bH, bZ, bV, bVD, Nat.add_assoc, seval, Int.lt_irrefl]
    exact q _ h nx rfl
  | succ d ih =>
    intro k s rows h nx hk W I hf a1 hn' q
    have hlt : k < ys.length := by omega
    obtain ⟨x, hx, hd⟩ := get_some hlt
    have hx' : (ys.map u32V)[k]? = some (.int .u32 x) := by rw [List.getElem?_map, hx]; rfl
    have hb := hy x (List.mem_of_getElem? hx)
    have w1 : IntKind.i64.wrap x = x := wi _ (by omega) (by omega)
    have w2 : IntKind.i64.wrap (x.tmod 1000000001) = x.tmod 1000000001 := by
      rw [Int.tmod_eq_emod_of_nonneg hb.1]; exact wi _ (by omega) (by omega)
    obtain ⟨c, hc, h2, I'⟩ := en_step hn hT hp I (seedP_ok hb.1) (data := ⟨List.replicate 16 0, false, true⟩) rfl
    have hgc : feedG s (splitI b) (0 : Nat) [seedP x] = (c, true) := by rw [feedG_eq hS hp, hc]
    have Wc : SpW c := by have := feedG_W (s := s) (pages := splitI b) (number := (0 : Nat)) (seeds := [seedP x]) W; rwa [hgc] at this
    have eF : ∀ st K, WpF XX .ro n_law39_feed [.agg s.c, .tree ((splitI b).map By.v) false false, .int .i64 0, .tree [.int .i64 (seedP x)] false true] st K ↔ K (.tup [.agg c.c, .bool true]) st := fun st K => by
      have := f_law39_feed (st := st) (K := K) (n1 := false) (g1 := false) (number := (0 : Nat)) (seeds := [seedP x]) (nl := false) (tg := true) W hok (by simp)
      rw [hgc] at this
      exact this
    have eA : ∀ st K, WpF XX .ro n_solve_Add [.tree (rows.xs.map Rw.v) rows.nl rows.tg, .agg [.int .i64 (setN (seedP x)), .tree [.int .u8 0, .int .u8 0, .int .u8 0, .int .u8 0, .int .u8 0, .int .u8 0, .int .u8 0, .int .u8 0, .int .u8 0, .int .u8 0, .int .u8 0, .int .u8 0, .int .u8 0, .int .u8 0, .int .u8 0, .int .u8 0] false true]] st K ↔ _ := fun st K => f_solve_Add (st := st) (K := K) (rows := rows.xs) (nl := rows.nl) (tg := rows.tg) (x := ⟨setN (seedP x), ⟨List.replicate 16 0, false, true⟩⟩) (by have := I.le; omega)
    have hiff := I'.iff h1
    rw [h2] at eA
    generalize addR rows.xs ⟨setN (seedP x), ⟨List.replicate 16 0, false, true⟩⟩ = r at eA I' hiff
    obtain ⟨r1, r2, r3⟩ := r
    simp only [Sl.v] at eA I' hiff h2
    have a1' := a1
    rw [Sp.c] at a1'
    simp only [Sp.c] at eF
    have f0 := hf nx (Nat.le_refl _)
    have key : ∀ h', fresh h' (nx + 1) → look h' 1 = some c.c → (L_law39_SpreadEnough_0 XX (.bool true) (.tree ((splitI b).map By.v) false false) (.ptr 1 0) (r1.v Rw.v) (.tree (ys.map u32V) nl tg) (.int .i64 ys.length) (.int .i64 (k + 1 : Nat)) h' (nx + 1) ls 0 Q ↔ R) :=
      fun h' k1 k2 => ih (k + 1) c r1 h' (nx + 1) (by omega) Wc I' k1 k2 (by omega) q
    have hcase : ((c.pages.xs.length : Int) = 1 ∧ (r1.xs.length : Int) = 16) ∨ (¬ (c.pages.xs.length : Int) = 1 ∧ ¬ (r1.xs.length : Int) = 16) := by
      by_cases hc : r1.xs.length = 16
      · have := of_decide_eq_true (hiff.trans (decide_eq_true hc)); omega
      · have := of_decide_eq_false (hiff.trans (decide_eq_false hc)); omega
    simp only [Sl.v, Sp.c] at key
    rw [L_law39_SpreadEnough_0_unf]
    by_cases h64 : x < 64
    · have es : seedP x = x := if_pos h64
      rw [es] at eF eA
      rcases hcase with ⟨p1, p2⟩ | ⟨p1, p2⟩
      · simp (disch := omega) only [b_law39_SpreadEnough_0, bC, bD, bH, bZ, wpY', bVA, bVD, bB, seval, lt_c hlt, hx', w1, w2, h64, a1', eF, f0, f_fountain_Set, Sl.v, eA, eq_true p1, eq_true p2, wi_s hlt (by omega), L_law39_SpreadEnough_0_eq]
        exact key _ (fun j hj => by simp (disch := omega) only [bC, bD, bH, bZ, wpY', bV, bVD, seval]; exact hf j (by omega)) (by simp (disch := omega) only [bC, bD, bH, bZ, wpY', bV, bVD, seval, a1])
      · simp (disch := omega) only [b_law39_SpreadEnough_0, bC, bD, bH, bZ, wpY', bVA, bVD, bB, seval, lt_c hlt, hx', w1, w2, h64, a1', eF, f0, f_fountain_Set, Sl.v, eA, p1, p2, wi_s hlt (by omega), L_law39_SpreadEnough_0_eq]
        exact key _ (fun j hj => by simp (disch := omega) only [bC, bD, bH, bZ, wpY', bV, bVD, seval]; exact hf j (by omega)) (by simp (disch := omega) only [bC, bD, bH, bZ, wpY', bV, bVD, seval, a1])
    · have es : seedP x = x.tmod 1000000001 := if_neg h64
      rw [es] at eF eA
      rcases hcase with ⟨p1, p2⟩ | ⟨p1, p2⟩
      · simp (disch := omega) only [b_law39_SpreadEnough_0, bC, bD, bH, bZ, wpY', bVA, bVD, bB, seval, lt_c hlt, hx', w1, w2, h64, a1', eF, f0, f_fountain_Set, Sl.v, eA, eq_true p1, eq_true p2, wi_s hlt (by omega), L_law39_SpreadEnough_0_eq]
        exact key _ (fun j hj => by simp (disch := omega) only [bC, bD, bH, bZ, wpY', bV, bVD, seval]; exact hf j (by omega)) (by simp (disch := omega) only [bC, bD, bH, bZ, wpY', bV, bVD, seval, a1])
      · simp (disch := omega) only [b_law39_SpreadEnough_0, bC, bD, bH, bZ, wpY', bVA, bVD, bB, seval, lt_c hlt, hx', w1, w2, h64, a1', eF, f0, f_fountain_Set, Sl.v, eA, p1, p2, wi_s hlt (by omega), L_law39_SpreadEnough_0_eq]
        exact key _ (fun j hj => by simp (disch := omega) only [bC, bD, bH, bZ, wpY', bV, bVD, seval]; exact hf j (by omega)) (by simp (disch := omega) only [bC, bD, bH, bZ, wpY', bV, bVD, seval, a1])
set_option maxHeartbeats 4000000 in
theorem law_SpreadEnough {b : List UInt8} {nb gb : Bool} {ys : List Int} (hy : ∀ x ∈ ys, 0 ≤ x ∧ x < 4294967296) {nl tg : Bool} :
    WpF XX .ro n_law39_SpreadEnough [.tree (b.map b8) nb gb, .tree (ys.map u32V) nl tg] st K ↔ K (.bool true) st := by
  rw [F_ro (mf := m_law39_SpreadEnough) rfl rfl]
  by_cases hn : noticeI 1 b.length 0 = true
  case neg => simp only [m_law39_SpreadEnough, bC, bW, bD, bZ, wpY', bV, bVD, seval, f_law39_head, f_image_Announce, hn]
  by_cases h1 : (40 : Int) < (ys.length : Int)
  case pos => simp only [m_law39_SpreadEnough, bC, bW, bD, bZ, wpY', bV, bVD, seval, f_law39_head, f_image_Announce, hn, h1]
  have hS := notice_sized hn
  have hT := new_valid (sd := 0) (frame := 0) rfl rfl
  have eS : ∀ st K, WpF XX .ro n_image_Split [.tree (b.map b8) nb gb] st K ↔ K (.tup [.tree ((splitI b).map By.v) false false, .int .i64 0]) st := fun st K => by rw [f_image_Split, if_pos hS]
  have hc0 : 0 ≤ countI (b.length : Int) := by rw [split_count hS]; omega
  obtain ⟨hh, hB⟩ := hear_new (pages := 0) (frame := 0) (sd := 0) hn (by omega) hc0 rfl rfl
  have W1 : SpW (nilSp 1 (b.length : Int) (rootI (splitI b)) 0 (newT 0 0)) := nil_W _ _ _ _ _
  have eH := fun st K => f_spread_Hear (st := st) (K := K) (s := nilSp 0 0 0 0 ⟨0, 0, 0, 0, 0⟩) (nil_W _ _ _ _ _) (a := 1) (b := b.length) (c := rootI (splitI b)) (d := 0) (pages := 0) (frame := 0)
  rw [hh] at eH
  have hb4 := sized_iff.1 hS
  have hsl : 1 ≤ (splitI b).length := by rw [split_len (by omega)]; omega
  have hsl0 : ¬ (((splitI b).length : Nat) : Int) = 0 := by omega
  obtain ⟨page, hpg, _⟩ := get_some (l := splitI b) (k := 0) (by omega)
  have I0 : EnI b 1 0 (newT 0 0) page (nilSp 1 (b.length : Int) (rootI (splitI b)) 0 (newT 0 0)) (⟨[], true, true⟩ : Sl Rw).xs := ⟨Gd.nil _, .inl ⟨hB.toA hpg, rfl⟩⟩
  generalize nilSp 1 (b.length : Int) (rootI (splitI b)) 0 (newT 0 0) = s1 at hB W1 eH I0
  simp only [Sp.c, nilSp, nilS, List.map_nil] at eH
  simp only [m_law39_SpreadEnough, bC, bW, bD, bZ, wpY', bV, bVD, seval, f_law39_head, f_image_Announce, hn, h1, eS, eH, hsl0, L_law39_SpreadEnough_0_eq]
  refine L_Enough hn hT hpg hy (by omega) ys.length 0 s1 ⟨[], true, true⟩ _ 2 (by omega) W1 I0 (fun j hj => ?_) rfl (by omega) fun e h' nx' he => ?_
  · simp (disch := omega) only [bC, bD, bH, bZ, wpY', bV, bVD, seval]
  simp (disch := omega) only [bC, bD, bH, bZ, wpY', bV, bVD, seval, he]
end
end Go.Proofs.YtfmbdcmjgnikiaaGreatDoor.Sm
namespace Go.Proofs.YtfmbdcmjgnikiaaGreatDoor.Sm
open Go Go.RowKit

/-- A state as it is handed in. -/
structure SpI (s : Sp) : Prop where
  hp : ∀ p ∈ s.pages.xs, p.ok
  hq : ∀ p ∈ s.proofs.xs, p.ok
  hr : ∀ r ∈ s.rows.xs, r.data.ok
  np : s.pages.ok
  nq : s.proofs.ok
  nr : s.rows.ok
  nf : s.proof.ok
theorem SpI.W {s : Sp} {n : Nat} (h : SpI s) (hf : fewS s n = true) : SpW s := by
  unfold fewS fewI at hf
  simp only [Bool.and_eq_true, decide_eq_true_eq, List.all_eq_true] at hf
  obtain ⟨⟨⟨⟨⟨⟨⟨f1, f2⟩, f3⟩, f4⟩, f5⟩, f6⟩, f7⟩, f8⟩ := hf
  exact ⟨by omega, by omega, by omega, by omega, fun p hp => ⟨h.hp p hp, by have := f5 p hp; omega⟩, fun p hp => ⟨h.hq p hp, by have := f6 p hp; omega⟩, fun p hp => ⟨h.hr p hp, by have := f7 p hp; omega⟩, h.np, h.nq, h.nr, h.nf⟩
/-- Two states hold the same. -/
def eqS (a b : Sp) : Prop := (a.ver = b.ver ∧ a.size = b.size ∧ a.dg = b.dg ∧ a.start = b.start) ∧ (a.t.iv = b.t.iv ∧ a.t.bg = b.t.bg ∧ a.t.fi = b.t.fi ∧ a.t.ct = b.t.ct ∧ a.t.sd = b.t.sd) ∧ inner a.pages.xs = inner b.pages.xs ∧ inner a.proofs.xs = inner b.proofs.xs ∧ a.proof.xs = b.proof.xs ∧ rwE a.rows.xs = rwE b.rows.xs
instance (a b : Sp) : Decidable (eqS a b) := by unfold eqS; infer_instance
theorem SpW.bnd {s : Sp} (W : SpW s) : SpBnd s.pages.xs s.proofs.xs s.rows.xs s.proof.xs :=
  ⟨by have := W.lp; omega, by have := W.lq; omega, by have := W.lr; omega, by have := W.lf; omega, fun p hp => by have := (W.hp p hp).2; omega, fun p hp => by have := (W.hq p hp).2; omega, fun p hp => by have := (W.hr p hp).2; omega⟩
section
variable {st : St} {K : SV → St → Prop}
end
end Go.Proofs.YtfmbdcmjgnikiaaGreatDoor.Sm
namespace Go.Proofs.YtfmbdcmjgnikiaaGreatDoor.Sm
open Go Go.RowKit

def tB : TD := .sl (.int .u8)
theorem lift {α : Type} {f : α → SV} {p : α → Prop} : ∀ {xs : List SV}, (∀ x ∈ xs, ∃ a, x = f a ∧ p a) → ∃ l : List α, xs = l.map f ∧ ∀ a ∈ l, p a
  | [], _ => ⟨[], rfl, by simp⟩
  | x :: xs, h => by
    obtain ⟨a, rfl, ha⟩ := h x List.mem_cons_self
    obtain ⟨l, rfl, hl⟩ := lift fun y hy => h y (List.mem_cons_of_mem _ hy)
    exact ⟨a :: l, rfl, fun b hb => by rcases List.mem_cons.1 hb with rfl | hb; exact ha; exact hl b hb⟩
theorem wf_u8 {n : Int} (h : (Lit.int .u8 n).wf = true) : ∃ c : UInt8, SV.int .u8 n = b8 c := by
  simp only [Lit.wf, IntKind.min, IntKind.max, IntKind.signed, IntKind.bits, Bool.and_eq_true, decide_eq_true_eq] at h
  have h1 : 0 ≤ n ∧ n < 256 := by simp at h; omega
  refine ⟨UInt8.ofNat n.toNat, ?_⟩
  have : (UInt8.ofNat n.toNat).toNat = n.toNat := by
    rw [UInt8.toNat_ofNat']
    omega
  rw [b8, this]
  congr 1
  omega
theorem enc_tB {ys : List SV} (h : tB.enc ys) : ∃ b : By, ys = [b.v] ∧ b.ok ∧ b.xs.length ≤ 140737488351232 ∧ b.tg = false := by
  obtain ⟨xs, nl, rfl, hl, hn, hx⟩ := h
  obtain ⟨l, rfl, _⟩ := lift (f := b8) (p := fun _ => True) fun x hx' => by
    obtain ⟨zs, ⟨n, rfl, hw⟩, rfl⟩ := hx x hx'
    obtain ⟨c, hc⟩ := wf_u8 hw
    exact ⟨c, hc, trivial⟩
  exact ⟨⟨l, nl, false⟩, rfl, fun h => by simpa using hn h, by simpa [reachBytes] using hl, rfl⟩
/-! ### arguments -/
theorem arg_tB {s : SV} (h : tB.arg s) : ∃ (b : List UInt8) (nl : Bool), s = .tree (b.map b8) nl false ∧ (nl = true → b = []) ∧ b.length ≤ 140737488351232 := by
  obtain ⟨⟨xs, nl, tg⟩, h1, h2, h3, h4⟩ := enc_tB h
  cases h1
  cases h4
  exact ⟨xs, nl, rfl, h2, h3⟩
end Go.Proofs.YtfmbdcmjgnikiaaGreatDoor.Sm
namespace Go.Proofs.YtfmbdcmjgnikiaaGreatDoor.Sm
open Go Go.RowKit

def tV : TD := .sl (.int .u32)
theorem wf_u32 {n : Int} (h : (Lit.int .u32 n).wf = true) : 0 ≤ n ∧ n < 4294967296 := by
  simp only [Lit.wf, IntKind.min, IntKind.max, IntKind.signed, IntKind.bits, Bool.and_eq_true, decide_eq_true_eq] at h
  simp at h
  exact ⟨by omega, by omega⟩
theorem enc_tV {ys : List SV} (h : tV.enc ys) : ∃ b : Sl Int, ys = [b.v u32V] ∧ b.xs.length ≤ 140737488351232 ∧ (∀ x ∈ b.xs, 0 ≤ x ∧ x < 4294967296) ∧ b.tg = false := by
  obtain ⟨xs, nl, rfl, hl, hn, hx⟩ := h
  obtain ⟨l, rfl, hr⟩ := lift (f := u32V) (p := fun x => 0 ≤ x ∧ x < 4294967296) fun x hx' => by
    obtain ⟨zs, ⟨n, rfl, hw⟩, rfl⟩ := hx x hx'
    exact ⟨n, rfl, wf_u32 hw⟩
  exact ⟨⟨l, nl, false⟩, rfl, by simpa [reachBytes] using hl, hr, rfl⟩
theorem arg_tV {s : SV} (h : tV.arg s) : ∃ (b : List Int) (nl : Bool), s = .tree (b.map u32V) nl false ∧ b.length ≤ 140737488351232 ∧ ∀ x ∈ b, 0 ≤ x ∧ x < 4294967296 := by
  obtain ⟨⟨xs, nl, tg⟩, h1, h2, h3, h4⟩ := enc_tV h
  cases h1
  cases h4
  exact ⟨xs, nl, rfl, h2, h3⟩
end Go.Proofs.YtfmbdcmjgnikiaaGreatDoor.Sm
namespace Go.Proofs.YtfmbdcmjgnikiaaGreatDoor.Sm
open Go Go.RowKit

theorem g_SpreadEnough {st : St} {ss : List SV} (h : argL [tB, tV] ss) : WpF XX .ro n_law39_SpreadEnough ss st fun r _ => r = .bool true := by
  obtain ⟨_, _, rfl, a1, _, _, rfl, a2, rfl⟩ := h
  obtain ⟨b, nb, rfl, _⟩ := arg_tB a1
  obtain ⟨l, nl, rfl, _, hl⟩ := arg_tV a2
  exact (law_SpreadEnough hl).2 rfl
end Go.Proofs.YtfmbdcmjgnikiaaGreatDoor.Sm
