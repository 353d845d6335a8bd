/- The laws' own helpers: what the small codes compute. Conditions: none. A state is fed with blocks of a page: what the small code computes. Conditions: none. Equations in reduced form: plain laws. Conditions: none. Valid rows, and rows of coded blocks of a page: plain laws. Conditions: none. Rows of coded blocks of a page: plain laws. Conditions: none. A program that is loaded from coded blocks: plain laws. Conditions: none. The laws' check that is not empty: it is true. Conditions: none. The laws' check that is not empty is true. Conditions: none. -/
import Derived.Test.YtfmbdcmjgnikiaaGreatDoorM13
import Derived.Test.YtfmbdcmjgnikiaaGreatDoorM10
set_option linter.unusedSimpArgs false
set_option linter.unusedVariables false
namespace Go.Proofs.YtfmbdcmjgnikiaaGreatDoor.Sm
open Go Go.RowKit

/-! ### the program of the check -/
def smp (i : Nat) : UInt8 := UInt8.ofNat (1 + i * 5 % 251)
def sampleB : List UInt8 := (List.range 300).map smp
def Z300 : List SV := (List.replicate 300 [SV.int .u8 0]).flatten
theorem Z300_eq : Z300 = List.replicate 300 (SV.int .u8 0) := by
  have : ∀ n, (List.replicate n [SV.int .u8 0]).flatten = List.replicate n (SV.int .u8 0) := fun n => by
    induction n with
    | zero => rfl
    | succ n ih => rw [List.replicate_succ, List.flatten_cons, ih]; rfl
  exact this 300
theorem Z3f : (List.replicate 300 [SV.int .u8 0]).flatten = Z300 := rfl
theorem Z300_len : Z300.length = 300 := by rw [Z300_eq, List.length_replicate]
theorem smp_s {k : Nat} (h : k < 300) : (IntKind.u8.wrap (IntKind.i64.wrap (1 + (IntKind.i64.wrap ((k : Int) * 5)).tmod 251))) = ((smp k).toNat : Int) := by
  rw [wi ((k : Int) * 5) (by omega) (by omega), Int.tmod_eq_emod_of_nonneg (by omega), wi _ (by omega) (by omega)]
  have e : (smp k).toNat = (1 + k * 5 % 251) % 256 := by simp [smp, UInt8.toNat_ofNat']
  rw [e]
  simp [IntKind.wrap, IntKind.bits, IntKind.signed]
theorem sample_len : sampleB.length = 300 := by rw [sampleB, List.length_map, List.length_range]
def iV (x : Int) : SV := .int .i64 x
theorem iV_c : Cell1 iV := fun _ => ⟨rfl, rfl, rfl, rfl⟩
def plainL : List Int := (List.range 16).map fun i : Nat => (i : Int)
section
variable {ls : List (Nat × LRec)} {Q : Ex → St → Prop} {R : Prop} {st : St} {K : SV → St → Prop}
theorem L_Program : ∀ (d k : Nat) (cs : List SV), k + d = 300 → cs.length = 300 → cs.take k = ((List.range k).map smp).map b8 →
    (Q (.exit 0) ⟨[(3, .own 0 0 300 1)], [(0, sampleB.map b8)], 1, ls, 0⟩ ↔ R) →
    (L_law39_Program_0 XX (.own 0 0 300 1) (.int .i64 300) (.int .i64 k) [(0, cs)] 1 ls 0 Q ↔ R) := by
  intro d
  induction d with
  | zero =>
    intro k cs hk hl hc q
    obtain rfl : k = 300 := by omega
    rw [L_law39_Program_0_unf]
    have e : cs = sampleB.map b8 := by rw [List.take_of_length_le (by omega)] at hc; exact hc
    have : ¬ ((300 : Nat) : Int) < 300 := by omega
    simp only [b_law39_Program_0, bC, bW, bZ, wpY', bV, seval, this]
    rw [e]
    exact q
  | succ d ih =>
    intro k cs hk hl hc q
    have hlt : k < 300 := by omega
    have hlt' : (k : Int) < 300 := by omega
    rw [L_law39_Program_0_unf]
    have hs := smp_s hlt
    have hkl : k ≤ 299 := by omega
    have hk1 : k + 1 ≤ 300 := by omega
    have wk : IntKind.i64.wrap ((k : Int) + 1) = ((k + 1 : Nat) : Int) := by rw [wi _ (by omega) (by omega)]; rfl
    simp only [b_law39_Program_0, bC, bW, bZ, wpY', bV, seval, hlt, hlt', hs, hl, wk, hkl, hk1, L_law39_Program_0_eq]
    refine ih (k + 1) _ (by omega) ?_ ?_ q
    · simp [hl]
    rw [List.range_succ, List.map_append, List.map_append, ← hc]
    have : k < (cs.set k (b8 (smp k))).length := by simp; omega
    rw [List.take_add_one]
    simp [hl, hlt, List.take_set, b8]
    exact List.set_eq_of_length_le (by simp; omega)
theorem f_law39_Program : WpF XX .ro n_law39_Program [.int .i64 300] st K ↔ K (.tree (sampleB.map b8) false false) st := by
  rw [F_ro (mf := m_law39_Program) rfl rfl]
  simp only [m_law39_Program, bC, bW, bZ, wpY', bV, seval, -List.reduceReplicate, Z3f, Z300_len, L_law39_Program_0_eq]
  refine L_Program 300 0 Z300 (by omega) Z300_len (by simp) ?_
  have e : (sampleB.map b8).length = 300 := by rw [List.length_map, sample_len]
  have e2 : List.take 300 (sampleB.map b8) = sampleB.map b8 := List.take_of_length_le (by omega)
  simp only [bC, bW, bZ, wpY', bV, seval, e2, b8_all, sample_len]
theorem L_plain : ∀ (d k : Nat) (v : SV) (h : Heap) (nx : Nat), k + d = 16 → RowS true 1 iV h 0 nx (((List.range k).map fun i : Nat => (i : Int))) v → fresh h nx →
    (∀ v h nx, RowS true 1 iV h 0 nx plainL v → (Q (.exit 0) ⟨[(1, v)], h, nx, ls, 0⟩ ↔ R)) →
    (L_law39_plain_0 XX v (.int .i64 k) h nx ls 0 Q ↔ R) := by
  intro d
  induction d with
  | zero =>
    intro k v h nx hk hv hf q
    obtain rfl : k = 16 := by omega
    rw [L_law39_plain_0_unf]
    simp only [b_law39_plain_0, bC, bD, bH, bZ, bV, bVD, Nat.add_assoc, seval, Int.lt_irrefl, Int.ofNat_eq_natCast]
    exact q v h nx hv
  | succ d ih =>
    intro k v h nx hk hv hf q
    have hk' : (k : Int) < 16 := by omega
    have hw : IntKind.i64.wrap ((k : Int) + 1) = ((k + 1 : Nat) : Int) := wi_s (n := 16) (by omega) (by omega)
    rw [L_law39_plain_0_unf]
    simp (disch := omega) only [b_law39_plain_0, bC, bD, bH, bZ, wpY', bVA, bVD, bB, seval, hk']
    refine wO_append (Cell1.S iV_c) ((List.range k).map fun i : Nat => (i : Int)) [(k : Int)] (lo := 0) (hi := nx) (v := v) hv hf (Nat.le_refl _) (by simp) (by simp; omega) rfl rfl fun v' h' i1 i2 i3 => ?_
    simp (disch := omega) only [bC, bD, bH, bZ, wpY', bVA, bVD, bB, seval, hw, L_law39_plain_0_eq]
    refine ih (k + 1) v' _ (nx + 1) (by omega) ?_ i2 q
    rw [List.range_succ, List.map_append]
    exact i1.mono (fun _ _ _ => rfl) (by omega) (Nat.le_refl _)
theorem f_law39_plain : WpF XX .ro n_law39_plain [] st K ↔ K (.tree (plainL.map iV) false false) st := by
  rw [F_ro (mf := m_law39_plain) rfl rfl]
  simp only [m_law39_plain, bC, bW, bZ, wpY', bV, seval, L_law39_plain_0_eq]
  refine L_plain 16 0 _ _ 0 (by omega) (.inl ⟨rfl, rfl, rfl⟩) (fun j hj => by simp (disch := omega) only [bC, bD, bH, bZ, wpY', bV, bVD, seval]) fun v h nx hv => ?_
  have ee := RowS.expo (Cell1.S iV_c) hv
  have e2 : (decide (plainL = []) && true) = false := rfl
  rw [e2] at ee
  simp (disch := omega) only [bC, bD, bH, bZ, wpY', bVA, bVD, bB, seval, ee]
def fewS (s : Sp) (n : Nat) : Bool := fewI s.pages.xs s.proofs.xs s.rows.xs s.proof.xs && decide (n ≤ 100)
/-! ### equal blocks -/
end
end Go.Proofs.YtfmbdcmjgnikiaaGreatDoor.Sm
namespace Go.Proofs.YtfmbdcmjgnikiaaGreatDoor.Sm
open Go Go.RowKit

theorem refused_valid {x : Sp} {b : Bl} (h : refusedI x b = 0) : validS x = true ∧ dataB b = true ∧ emptyS x = false ∧ wholeS x = false ∧ b.page = x.pages.xs.length ∧ (x.rows.xs.length = 0 ∨ b.proof.xs = x.proof.xs) := by
  unfold refusedI at h
  split at h
  · rename_i hv
    split at h
    · omega
    · rename_i h1
      split at h
      · omega
      · rename_i h2
        split at h
        · omega
        · rename_i h3
          split at h
          · omega
          · rename_i h4
            split at h
            · omega
            · rename_i h5
              refine ⟨hv.1, hv.2, by simpa using h1, by simpa using h2, by omega, ?_⟩
              by_cases h6 : x.rows.xs.length = 0
              · exact .inl h6
              · refine .inr ?_
                by_cases h7 : b.proof.xs = x.proof.xs
                · exact h7
                · exact absurd ⟨by omega, h7⟩ h5
  · omega
theorem valid_rows16 {x : Sp} (h : validS x = true) : x.rows.xs.length < 16 := by
  simp only [validS, Bool.or_eq_true, Bool.and_eq_true] at h
  rcases h with h | h
  · simp only [emptyS, Bool.and_eq_true] at h
    have := of_decide_eq_true h.1.1.2
    unfold lensS at this
    omega
  · exact of_decide_eq_true h.1.1.1.2
theorem anew_W {x : Sp} (W : SpW x) : SpW (anewS x) := ⟨W.lp, W.lq, Nat.zero_le _, Nat.zero_le _, W.hp, W.hq, by simp [anewS, nilS], W.np, W.nq, fun _ => rfl, fun _ => rfl⟩
theorem push_W {y : Sp} (W : SpW y) {p : By} {f : Sl Int} (hp : p.ok ∧ p.xs.length ≤ 100000) (hf : f.ok ∧ f.xs.length ≤ 1000) (h : putOK y p.xs f.xs = true) : SpW (pushS y p f) := by
  simp only [putOK, Bool.and_eq_true] at h
  have hs := sound_parts h.1.1.1
  have hl : y.pages.xs.length ≤ 16 := by have := hs.2.1; unfold countI at this; omega
  refine ⟨?_, ?_, Nat.zero_le _, Nat.zero_le _, fun q hq => ?_, fun q hq => ?_, by simp [pushS, nilS], fun h => (nomatch h), fun h => (nomatch h), fun _ => rfl, fun _ => rfl⟩
  · show ((y.pages.xs ++ [p]).map cloneB).length ≤ 1000
    simp; omega
  · show ((y.proofs.xs ++ [f]).map cloneB).length ≤ 1000
    have := hs.2.2.1
    simp; omega
  · obtain ⟨z, hz, rfl⟩ := List.mem_map.1 (show q ∈ (y.pages.xs ++ [p]).map cloneB from hq)
    rcases List.mem_append.1 hz with hz | hz
    · exact W.hp z hz
    · simp only [List.mem_singleton] at hz; subst hz; exact hp
  · obtain ⟨z, hz, rfl⟩ := List.mem_map.1 (show q ∈ (y.proofs.xs ++ [f]).map cloneB from hq)
    rcases List.mem_append.1 hz with hz | hz
    · exact W.hq z hz
    · simp only [List.mem_singleton] at hz; subst hz; exact ⟨hf.1, by have := hf.2; show z.xs.length ≤ _; omega⟩
theorem recvG_W {x : Sp} {b : Bl} (W : SpW x) (B : BlW b) : SpW (recvG x b).1 := by
  unfold recvG
  split
  · exact W
  · rename_i h1
    have h1 : refusedI x b = 0 := by omega
    have W2 := recv_W W B (by have := valid_rows16 (refused_valid h1).1; omega)
    split
    · exact anew_W W
    · unfold addG
      split
      · exact W2
      · rename_i p hp
        unfold endG
        split
        · rename_i h; exact push_W (p := ⟨p, false, false⟩) W2 ⟨fun h => (nomatch h), by have := pageR_len hp; show p.length ≤ _; omega⟩ ⟨B.hp, B.lp⟩ h
        · exact anew_W W2
def feedBl (page : List UInt8) (number seed : Int) (pf : Sl Int) : Bl := { (encR page number seed).1 with proof := pf }
theorem feedBl_W {page : List UInt8} {number seed : Int} {pf : Sl Int} (h : pf.ok) (hl : pf.xs.length ≤ 1000) : BlW (feedBl page number seed pf) := by
  unfold feedBl encR
  split
  · exact ⟨fun h => (nomatch h), by show (encB page (setN seed) 16).l.length ≤ _; rw [Bk.h]; omega, h, hl⟩
  · exact ⟨fun _ => rfl, Nat.zero_le _, h, hl⟩
/-- Blocks of a page, one after the other. -/
def feedL (page : List UInt8) (number : Int) (pf : Sl Int) : List Int → Sp → Sp × Bool
  | [], s => (s, true)
  | x :: xs, s =>
    if (encR page number x).2 ≠ 0 then (s, false)
    else if (recvG (copyS s) (feedBl page number x pf)).2 ≠ 0 ∧ (recvG (copyS s) (feedBl page number x pf)).2 ≠ 14 ∧ (recvG (copyS s) (feedBl page number x pf)).2 ≠ 10 then (s, false)
    else feedL page number pf xs (recvG (copyS s) (feedBl page number x pf)).1
def feedG (s : Sp) (pages : List By) (number : Int) (seeds : List Int) : Sp × Bool :=
  if arePagesI pages = true ∧ 0 ≤ number ∧ number < pages.length then feedL ((pages[number.toNat]?).getD nilS).xs number (prq pages number.toNat) seeds s else (s, false)
section
variable {ls : List (Nat × LRec)} {Q : Ex → St → Prop} {R : Prop} {st : St} {K : SV → St → Prop}
set_option maxHeartbeats 1000000 in
theorem L_feed {pages : List By} {n1 g1 nl tg : Bool} {N : Nat} {page : By} (hN : pages[N]? = some page) (ho : page.ok) {pf : Sl Int} (hpo : pf.ok) (hpl : pf.xs.length ≤ 1000) {seeds : List Int} (hl : seeds.length < 4611686018427387904) :
    ∀ (d k : Nat) (s : Sp) (h : Heap) (nx : Nat), k + d = seeds.length → SpW s → look h 0 = some s.c → look h 1 = some Zi2w1i1t4i5 → 1 < nx → fresh h nx →
    (∀ s' h' nx', feedL page.xs N pf (seeds.drop k) s = (s', true) → look h' 0 = some s'.c → look h' 1 = some Zi2w1i1t4i5 → (Q (.exit 0) ⟨[(4, .ptr 0 0), (8, .ptr 1 0)], h', nx', ls, 0⟩ ↔ R)) →
    (∀ s' h' nx' e, feedL page.xs N pf (seeds.drop k) s = (s', false) → look h' 1 = some s'.c → getE e 8 = .ptr 1 0 → getE e 9 = .bool false → (Q .ret ⟨e, h', nx', ls, 0⟩ ↔ R)) →
    (L_law39_feed_0 XX (.tree (pages.map By.v) n1 g1) (.int .i64 N) (.ptr 0 0) (.ptr 1 0) (.tree (pf.xs.map uV) pf.nl pf.tg) (.tree (seeds.map iV) nl tg) (.int .i64 seeds.length) (.int .i64 k) h nx ls 0 Q ↔ R) := by
  intro d
  induction d with
  | zero =>
    intro k s h nx hk W a0 a1 hn hf q1 q2
    obtain rfl : k = seeds.length := by omega
    rw [L_law39_feed_0_unf]
    simp only [b_law39_feed_0, bC, bD, bH, bZ, bV, bVD, Nat.add_assoc, seval, Int.lt_irrefl]
    exact q1 s h nx (by rw [List.drop_length]; rfl) a0 a1
  | succ d ih =>
    intro k s h nx hk W a0 a1 hn hf q1 q2
    have hlt : k < seeds.length := by omega
    obtain ⟨x, hx, hd⟩ := get_some hlt
    have hx' : (seeds.map iV)[k]? = some (.int .i64 x) := by rw [List.getElem?_map, hx]; rfl
    have hNl := (List.getElem?_eq_some_iff.1 hN).1
    have hp' : (pages.map By.v)[N]? = some (.tree (page.xs.map b8) page.nl page.tg) := by rw [List.getElem?_map, hN]; rfl
    have e1 := fun st K => f_fountain_Encode (st := st) (K := K) (page := page) (number := (N : Int)) (seed := x) ho
    have e2 := fun st K => f_spread_Receive (st := st) (K := K) (s := s) (b := feedBl page.xs N x pf) W (feedBl_W hpo hpl)
    have f0 := hf nx (Nat.le_refl _)
    have f1 := hf (nx + 1) (by omega)
    rw [hd, feedL] at q1 q2
    have W' := recvG_W W.copy (feedBl_W (page := page.xs) (number := (N : Int)) (seed := x) hpo hpl)
    generalize hR : recvG (copyS s) (feedBl page.xs N x pf) = r at e2 q1 q2 W'
    rw [L_law39_feed_0_unf]
    simp only [Sp.c, Bl.c, feedBl] at e2
    have a0' := a0
    rw [Sp.c] at a0'
    rw [Zi2w1i1t4i5_eq] at a1
    by_cases h1 : (encR page.xs N x).2 = 0
    case neg =>
      rw [if_pos h1] at q2
      simp (disch := omega) only [b_law39_feed_0, bC, bD, bH, bZ, wpY', bV, bVD, seval, lt_c hlt, lt_c hNl, hx', hp', e1, Bl.c, f0, a0', a1, h1]
      refine q2 s _ _ _ rfl ?_ rfl rfl
      simp (disch := omega) only [bC, bD, bH, bZ, wpY', bV, bVD, seval, a1, Sp.c]
    rw [if_neg (by simpa using h1)] at q1 q2
    by_cases h2 : r.2 = 0 ∨ r.2 = 14 ∨ r.2 = 10
    · rw [if_neg (by omega)] at q1 q2
      have key : ∀ h' nx', look h' 0 = some r.1.c → look h' 1 = some Zi2w1i1t4i5 → 1 < nx' → fresh h' nx' → (L_law39_feed_0 XX (.tree (pages.map By.v) n1 g1) (.int .i64 N) (.ptr 0 0) (.ptr 1 0) (.tree (pf.xs.map uV) pf.nl pf.tg) (.tree (seeds.map iV) nl tg) (.int .i64 seeds.length) (.int .i64 (k + 1 : Nat)) h' nx' ls 0 Q ↔ R) :=
        fun h' nx' k1 k2 k3 k4 => ih (k + 1) r.1 h' nx' (by omega) W' k1 k2 k3 k4 q1 q2
      by_cases h3 : r.2 = 0
      · simp (disch := omega) only [b_law39_feed_0, bC, bD, bH, bZ, wpY', bV, bVD, seval, lt_c hlt, lt_c hNl, hx', hp', e1, Bl.c, f0, f1, a0', a1, eq_true h1, e2, eq_true h3, wi_s hlt (by omega), L_law39_feed_0_eq, Nat.add_assoc]
        refine key _ _ ?_ ?_ (by omega) (fun j hj => ?_)
        · simp (disch := omega) only [bC, bD, bH, bZ, wpY', bV, bVD, seval, a0', Sp.c]
        · simp (disch := omega) only [bC, bD, bH, bZ, wpY', bV, bVD, seval, a1]
        · simp (disch := omega) only [bC, bD, bH, bZ, wpY', bV, bVD, seval]; exact hf j (by omega)
      · by_cases h4 : r.2 = 14
        · simp (disch := omega) only [b_law39_feed_0, bC, bD, bH, bZ, wpY', bV, bVD, seval, lt_c hlt, lt_c hNl, hx', hp', e1, Bl.c, f0, f1, a0', a1, eq_true h1, e2, h3, eq_true h4, wi_s hlt (by omega), L_law39_feed_0_eq, Nat.add_assoc]
          refine key _ _ ?_ ?_ (by omega) (fun j hj => ?_)
          · simp (disch := omega) only [bC, bD, bH, bZ, wpY', bV, bVD, seval, a0', Sp.c]
          · simp (disch := omega) only [bC, bD, bH, bZ, wpY', bV, bVD, seval, a1]
          · simp (disch := omega) only [bC, bD, bH, bZ, wpY', bV, bVD, seval]; exact hf j (by omega)
        · have h5 : r.2 = 10 := by omega
          simp (disch := omega) only [b_law39_feed_0, bC, bD, bH, bZ, wpY', bV, bVD, seval, lt_c hlt, lt_c hNl, hx', hp', e1, Bl.c, f0, f1, a0', a1, eq_true h1, e2, h3, h4, eq_true h5, wi_s hlt (by omega), L_law39_feed_0_eq, Nat.add_assoc]
          refine key _ _ ?_ ?_ (by omega) (fun j hj => ?_)
          · simp (disch := omega) only [bC, bD, bH, bZ, wpY', bV, bVD, seval, a0', Sp.c]
          · simp (disch := omega) only [bC, bD, bH, bZ, wpY', bV, bVD, seval, a1]
          · simp (disch := omega) only [bC, bD, bH, bZ, wpY', bV, bVD, seval]; exact hf j (by omega)
    · rw [if_pos (by omega)] at q2
      have h3 : ¬ r.2 = 0 := by omega
      have h4 : ¬ r.2 = 14 := by omega
      have h5 : ¬ r.2 = 10 := by omega
      simp (disch := omega) only [b_law39_feed_0, bC, bD, bH, bZ, wpY', bV, bVD, seval, lt_c hlt, lt_c hNl, hx', hp', e1, Bl.c, f0, f1, a0', a1, eq_true h1, e2, h3, h4, h5, Nat.add_assoc]
      refine q2 s _ _ _ rfl ?_ rfl rfl
      simp (disch := omega) only [bC, bD, bH, bZ, wpY', bV, bVD, seval, a1, Sp.c]
theorem prq_ok (a : List By) (k : Nat) : (prq a k).ok := fun h => by simpa [prq] using h
theorem f_law39_feed {s : Sp} {pages : List By} {n1 g1 : Bool} {number : Int} {seeds : List Int} {nl tg : Bool} (W : SpW s) (ho : ∀ p ∈ pages, p.ok) (hl : seeds.length < 4611686018427387904) :
    WpF XX .ro n_law39_feed [.agg s.c, .tree (pages.map By.v) n1 g1, .int .i64 number, .tree (seeds.map iV) nl tg] st K ↔ K (.tup [.agg (feedG s pages number seeds).1.c, .bool (feedG s pages number seeds).2]) st := by
  rw [F_ro (mf := m_law39_feed) rfl rfl]
  unfold feedG
  by_cases h1 : arePagesI pages = true ∧ 0 ≤ number ∧ number < pages.length
  case neg =>
    simp only [m_law39_feed, Sp.c, bC, bW, bD, bZ, wpY', bV, bVD, seval, f_tree_Proof, h1]
  obtain ⟨N, rfl⟩ : ∃ N : Nat, number = N := ⟨number.toNat, by omega⟩
  obtain ⟨page, hpg, _⟩ := get_some (l := pages) (k := N) (by omega)
  have h2 : ¬ (pages.length : Int) ≤ (N : Int) := by omega
  have hg : (pages[N]?).getD nilS = page := by rw [hpg]; rfl
  have hpl := proof_len pages N
  rw [Int.toNat_natCast, hg]
  simp only [m_law39_feed, Sp.c, bC, bW, bD, bZ, wpY', bV, bVD, seval, f_tree_Proof, h1.1, eq_true h1.2.2, h2, L_law39_feed_0_eq]
  refine L_feed (pf := prq pages N) hpg (ho page (List.mem_of_getElem? hpg)) (prq_ok _ _) (by show (proofI pages N).length ≤ _; omega) hl seeds.length 0 s _ 2 (by omega) W ?_ ?_ (by omega) (fun j hj => ?_) (fun s' h' nx' hfe a0 a1 => ?_) (fun s' h' nx' e hfe a1 e1 e2 => ?_)
  · simp (disch := omega) only [bC, bD, bH, bZ, wpY', bV, bVD, seval, Sp.c]
  · simp (disch := omega) only [bC, bD, bH, bZ, wpY', bV, bVD, seval]
  · simp (disch := omega) only [bC, bD, bH, bZ, wpY', bV, bVD, seval]
  · rw [List.drop_zero] at hfe
    rw [Sp.c] at a0
    rw [Zi2w1i1t4i5_eq] at a1
    rw [hfe]
    simp (disch := omega) only [bC, bD, bH, bZ, wpY', bV, bVD, seval, a0, a1]
  · rw [List.drop_zero] at hfe
    rw [Sp.c] at a1
    rw [hfe]
    simp (disch := omega) only [bC, bD, bH, bZ, wpY', bV, bVD, seval, a1, e1, e2]
end
end Go.Proofs.YtfmbdcmjgnikiaaGreatDoor.Sm
namespace Go.Proofs.YtfmbdcmjgnikiaaGreatDoor.Sm
open Go Go.RowKit

/-! ### sums -/
theorem xorL_comm (a b : List UInt8) : xorL a b = xorL b a := by
  unfold xorL
  rw [List.zipWith_comm]
  congr 1
  funext x y
  exact UInt8.xor_comm y x
theorem xorL_assoc : ∀ a b c : List UInt8, xorL (xorL a b) c = xorL a (xorL b c)
  | [], b, c => by simp [xorL]
  | x :: a, [], c => by simp [xorL]
  | x :: a, y :: b, [] => by simp [xorL]
  | x :: a, y :: b, z :: c => by
    have := xorL_assoc a b c
    simp only [xorL, List.zipWith_cons_cons, UInt8.xor_assoc] at this ⊢
    rw [this]
theorem xorL_self : ∀ a : List UInt8, xorL a a = List.replicate a.length 0
  | [] => rfl
  | x :: a => by
    have := xorL_self a
    simp only [xorL, List.zipWith_cons_cons, UInt8.xor_self, List.length_cons, List.replicate_succ] at this ⊢
    rw [this]
theorem xorL_zero : ∀ a : List UInt8, xorL a (List.replicate a.length 0) = a
  | [] => rfl
  | x :: a => by
    have := xorL_zero a
    simp only [xorL, List.zipWith_cons_cons, UInt8.xor_zero, List.length_cons, List.replicate_succ] at this ⊢
    rw [this]
theorem bx_comm (a b : Bk) : a.xor b = b.xor a := Bk.ext (xorL_comm _ _)
theorem bx_assoc (a b c : Bk) : (a.xor b).xor c = a.xor (b.xor c) := Bk.ext (xorL_assoc _ _ _)
theorem bx_self (a : Bk) : a.xor a = Bk.zero := Bk.ext (by show xorL a.l a.l = _; rw [xorL_self, a.h]; rfl)
theorem bx_zero (a : Bk) : a.xor Bk.zero = a := Bk.ext (by
  have := xorL_zero a.l
  rw [a.h] at this
  exact this)
def zE : En := ⟨0, Bk.zero⟩
theorem En.ext {a b : En} (h : a.m = b.m) (k : a.b = b.b) : a = b := by cases a; cases b; cases h; cases k; rfl
theorem pl_comm (a b : En) : plusE a b = plusE b a := En.ext (Nat.xor_comm _ _) (bx_comm _ _)
theorem pl_assoc (a b c : En) : plusE (plusE a b) c = plusE a (plusE b c) := En.ext (Nat.xor_assoc _ _ _) (bx_assoc _ _ _)
theorem pl_zero (a : En) : plusE a zE = a := En.ext (Nat.xor_zero _) (bx_zero _)
theorem pl_self (a : En) : plusE a a = zE := En.ext (Nat.xor_self _) (bx_self _)
theorem pl_left (a b c : En) : plusE a (plusE b c) = plusE b (plusE a c) := by rw [← pl_assoc, pl_comm a b, pl_assoc]
theorem pl_bit (a b : En) (i : Nat) : (plusE a b).m.testBit i = (a.m.testBit i ^^ b.m.testBit i) := Nat.testBit_xor _ _ _
def sumE (l : List En) : En := l.foldr plusE zE
theorem sum_c (a : En) (l : List En) : sumE (a :: l) = plusE a (sumE l) := rfl
theorem sum_perm {l m : List En} (h : l.Perm m) : sumE l = sumE m := by
  induction h with
  | nil => rfl
  | cons a _ ih => rw [sum_c, sum_c, ih]
  | swap a b l => rw [sum_c, sum_c, sum_c, sum_c, pl_left]
  | trans _ _ h1 h2 => rw [h1, h2]

/-! ### leading bits -/
def hb (e : En) : Nat := e.m.log2
theorem and_pow (x i : Nat) : x &&& 2 ^ i = if x.testBit i = true then 2 ^ i else 0 := by
  apply Nat.eq_of_testBit_eq
  intro j
  rw [Nat.testBit_and, Nat.testBit_two_pow]
  by_cases h : i = j
  · subst h; cases h : x.testBit i <;> simp [h, Nat.testBit_two_pow]
  · cases h2 : x.testBit i <;> simp [h, h2, Nat.testBit_two_pow]
theorem and_lead {x : Nat} {e : En} (h : 1 ≤ e.m) : x &&& leadN e.m ≠ 0 ↔ x.testBit (hb e) = true := by
  unfold leadN hb
  rw [if_neg (by omega), and_pow]
  have := Nat.two_pow_pos e.m.log2
  cases x.testBit e.m.log2 <;> simp
theorem step_if {x e : En} (h : 1 ≤ e.m) : stepE x e = if x.m.testBit (hb e) = true then plusE x e else x := by
  unfold stepE
  by_cases h1 : x.m.testBit (hb e) = true
  · rw [if_pos ((and_lead h).2 h1), if_pos h1]
  · rw [if_neg (fun hh => h1 ((and_lead h).1 hh)), if_neg h1]
theorem elim_step (e r : En) : elimE e r = stepE r e := rfl
theorem hb_bit {e : En} (h : 1 ≤ e.m) : e.m.testBit (hb e) = true := Nat.testBit_log2 (by omega)
theorem lead_pow {e : En} (h : 1 ≤ e.m) : leadN e.m = 2 ^ hb e := by unfold leadN hb; rw [if_neg (by omega)]
theorem lead_lt_iff {a b : En} (ha : 1 ≤ a.m) (hb' : 1 ≤ b.m) : leadN a.m < leadN b.m ↔ hb a < hb b := by
  rw [lead_pow ha, lead_pow hb', Nat.pow_lt_pow_iff_right (by omega)]
theorem bit_hi {e : En} {i : Nat} (h : hb e < i) : e.m.testBit i = false := Nat.testBit_lt_two_pow (Nat.lt_of_lt_of_le Nat.lt_log2_self (Nat.pow_le_pow_right (by omega) h))
theorem hb_xor {a b : En} (ha : 1 ≤ a.m) (h : hb b < hb a) : hb (plusE a b) = hb a ∧ 1 ≤ (plusE a b).m := by
  have hbit : (plusE a b).m.testBit (hb a) = true := by rw [pl_bit, hb_bit ha, bit_hi h]; rfl
  have hge := Nat.ge_two_pow_of_testBit hbit
  have hpos := Nat.two_pow_pos (hb a)
  have hlt : (plusE a b).m < 2 ^ (hb a + 1) := by
    have h1 : a.m < 2 ^ (hb a + 1) := Nat.lt_log2_self
    have h2 : b.m < 2 ^ (hb a + 1) := Nat.lt_of_lt_of_le Nat.lt_log2_self (Nat.pow_le_pow_right (by omega) (by show hb b + 1 ≤ _; omega))
    exact Nat.xor_lt_two_pow h1 h2
  exact ⟨(Nat.log2_eq_iff (by omega)).2 ⟨hge, hlt⟩, by omega⟩

/-! ### reduced rows -/
structure Rref (l : List En) : Prop where
  rg : ∀ e ∈ l, 1 ≤ e.m ∧ e.m < 65536
  dec : l.Pairwise fun a b => hb b < hb a
  red : ∀ a ∈ l, ∀ b ∈ l, hb a ≠ hb b → a.m.testBit (hb b) = false
theorem Rref.tail {a : En} {l : List En} (h : Rref (a :: l)) : Rref l :=
  ⟨fun e he => h.rg e (List.mem_cons_of_mem _ he), (List.pairwise_cons.1 h.dec).2, fun a ha b hb => h.red a (List.mem_cons_of_mem _ ha) b (List.mem_cons_of_mem _ hb)⟩
theorem Rref.nil : Rref [] := ⟨by simp, .nil, by simp⟩
def sel (l : List En) (v : Nat) : List En := l.filter fun e => v.testBit (hb e)
theorem sel_c (a : En) (l : List En) (v : Nat) : sel (a :: l) v = if v.testBit (hb a) = true then a :: sel l v else sel l v := by
  unfold sel; rw [List.filter_cons]
theorem red_go : ∀ {l : List En} (h : Rref l) (v : Nat) (y : En), (∀ e ∈ l, y.m.testBit (hb e) = v.testBit (hb e)) → redE l y = plusE y (sumE (sel l v))
  | [], _, v, y, _ => (pl_zero y).symm
  | a :: l, h, v, y, hy => by
    have ha := (h.rg a List.mem_cons_self).1
    have h1 := hy a List.mem_cons_self
    have hd := (List.pairwise_cons.1 h.dec).1
    show redE l (stepE y a) = _
    rw [step_if ha, sel_c, h1]
    by_cases h2 : v.testBit (hb a) = true
    · rw [if_pos h2, if_pos h2, red_go h.tail v (plusE y a) fun e he => ?_, sum_c, pl_assoc]
      rw [pl_bit, h.red a List.mem_cons_self e (List.mem_cons_of_mem _ he) (by have := hd e he; omega), Bool.xor_false]
      exact hy e (List.mem_cons_of_mem _ he)
    · rw [if_neg h2, if_neg h2]
      exact red_go h.tail v y fun e he => hy e (List.mem_cons_of_mem _ he)
theorem red_eq {l : List En} (h : Rref l) (x : En) : redE l x = plusE x (sumE (sel l x.m)) := red_go h x.m x fun _ _ => rfl
theorem sum_bit : ∀ {l : List En}, Rref l → ∀ (v : Nat) (r : En), r ∈ l → (sumE (sel l v)).m.testBit (hb r) = v.testBit (hb r)
  | [], _, v, r, hr => by simp at hr
  | a :: l, h, v, r, hr => by
    have hd := (List.pairwise_cons.1 h.dec).1
    have other : ∀ e ∈ l, ∀ m : List En, (∀ x ∈ m, x ∈ l) → (sumE m).m.testBit (hb a) = false := fun e he m hm => by
      induction m with
      | nil => simp [sumE, zE]
      | cons x m ih =>
        rw [sum_c, pl_bit, ih fun y hy => hm y (List.mem_cons_of_mem _ hy)]
        have hx := hm x List.mem_cons_self
        rw [h.red x (List.mem_cons_of_mem _ hx) a List.mem_cons_self (by have := hd x hx; omega)]; rfl
    have otherA : (sumE (sel l v)).m.testBit (hb a) = false := by
      cases l with
      | nil => simp [sel, sumE, zE]
      | cons e l => exact other e List.mem_cons_self _ fun x hx => (List.mem_filter.1 hx).1
    rw [sel_c]
    rcases List.mem_cons.1 hr with rfl | hr
    · by_cases h2 : v.testBit (hb r) = true
      · rw [if_pos h2, sum_c, pl_bit, otherA, hb_bit (h.rg r List.mem_cons_self).1, h2]; rfl
      · rw [if_neg h2, otherA]; simpa using h2
    · have ih := sum_bit h.tail v r hr
      by_cases h2 : v.testBit (hb a) = true
      · rw [if_pos h2, sum_c, pl_bit, ih, h.red a List.mem_cons_self r (List.mem_cons_of_mem _ hr) (by have := hd r hr; omega)]; simp
      · rw [if_neg h2, ih]
theorem red_bit {l : List En} (h : Rref l) (x : En) {r : En} (hr : r ∈ l) : (redE l x).m.testBit (hb r) = false := by
  rw [red_eq h, pl_bit, sum_bit h _ r hr]; simp

/-! ### one more row -/
structure Fits (e : En) (l : List En) : Prop where
  rg : 1 ≤ e.m ∧ e.m < 65536
  no : ∀ r ∈ l, e.m.testBit (hb r) = false
theorem Fits.ne {e : En} {l : List En} (h : Fits e l) {r : En} (hr : r ∈ l) : hb r ≠ hb e := fun hh => by
  have := h.no r hr
  rw [hh, hb_bit h.rg.1] at this
  cases this
theorem elim_hb {e r : En} (he : 1 ≤ e.m) (hr : 1 ≤ r.m) (hne : hb r ≠ hb e) : hb (elimE e r) = hb r ∧ 1 ≤ (elimE e r).m := by
  rw [elim_step, step_if he]
  split
  · rename_i h
    refine hb_xor hr ?_
    have : ¬ hb r < hb e := fun hh => by rw [bit_hi hh] at h; cases h
    omega
  · exact ⟨rfl, hr⟩
theorem elim_bit {e r : En} (he : 1 ≤ e.m) : (elimE e r).m.testBit (hb e) = false := by
  rw [elim_step, step_if he]
  split
  · rename_i h; rw [pl_bit, h, hb_bit he]; rfl
  · rename_i h; simpa using h
theorem ins_perm (e : En) : ∀ (l : List En) (p : Bool), (insE e l p).Perm (if p then l.map (elimE e) else e :: l.map (elimE e))
  | [], p => by cases p <;> simp [insE]
  | r :: l, p => by
    unfold insE
    cases p with
    | true =>
      rw [if_neg (by simp)]
      have := ins_perm e l true
      simp only [if_true, List.map_cons] at this ⊢
      exact this.cons _
    | false =>
      simp only [Bool.false_eq_true, if_false, List.map_cons, true_and]
      split
      · have := ins_perm e l true
        simp only [if_true] at this
        exact (this.cons _).cons _
      · have := ins_perm e l false
        simp only [Bool.false_eq_true, if_false] at this
        exact (this.cons _).trans (List.Perm.swap _ _ _)
theorem ins_mem {e x : En} {l : List En} : x ∈ insE e l false ↔ x = e ∨ ∃ r ∈ l, x = elimE e r := by
  have := (ins_perm e l false).mem_iff (a := x)
  simp only [Bool.false_eq_true, if_false, List.mem_cons, List.mem_map] at this
  rw [this]
  constructor
  · rintro (h | ⟨r, h1, h2⟩)
    · exact .inl h
    · exact .inr ⟨r, h1, h2.symm⟩
  · rintro (h | ⟨r, h1, h2⟩)
    · exact .inl h
    · exact .inr ⟨r, h1, h2.symm⟩
theorem ins_true (e : En) : ∀ l : List En, insE e l true = l.map (elimE e)
  | [] => rfl
  | r :: l => by unfold insE; rw [if_neg (by simp), ins_true e l]; rfl
theorem ins_dec {e : En} (he : 1 ≤ e.m) : ∀ {l : List En}, Rref l → (∀ r ∈ l, hb r ≠ hb e) → (insE e l false).Pairwise fun a b => hb b < hb a
  | [], _, _ => by simp [insE]
  | r :: l, h, hn => by
    have hr := (h.rg r List.mem_cons_self).1
    have hd := (List.pairwise_cons.1 h.dec).1
    have hne := hn r List.mem_cons_self
    have hel : ∀ x ∈ l, hb (elimE e x) = hb x := fun x hx => (elim_hb he (h.rg x (List.mem_cons_of_mem _ hx)).1 (hn x (List.mem_cons_of_mem _ hx))).1
    have her := (elim_hb he hr hne).1
    have hmap : (l.map (elimE e)).Pairwise fun a b => hb b < hb a := by
      rw [List.pairwise_map]
      refine List.Pairwise.imp_of_mem ?_ (List.pairwise_cons.1 h.dec).2
      intro a b ha hb' hh
      rw [hel a ha, hel b hb']; exact hh
    unfold insE
    by_cases h1 : leadN r.m < leadN e.m
    · rw [if_pos ⟨rfl, h1⟩, ins_true]
      rw [lead_lt_iff hr he] at h1
      refine List.pairwise_cons.2 ⟨fun x hx => ?_, List.pairwise_cons.2 ⟨fun x hx => ?_, hmap⟩⟩
      · rcases List.mem_cons.1 hx with rfl | hx
        · rw [her]; exact h1
        · obtain ⟨y, hy, rfl⟩ := List.mem_map.1 hx
          rw [hel y hy]; have := hd y hy; omega
      · obtain ⟨y, hy, rfl⟩ := List.mem_map.1 hx
        rw [hel y hy, her]; exact hd y hy
    · rw [if_neg (fun hh => h1 hh.2)]
      rw [lead_lt_iff hr he] at h1
      refine List.pairwise_cons.2 ⟨fun x hx => ?_, ins_dec he h.tail fun x hx => hn x (List.mem_cons_of_mem _ hx)⟩
      rw [her]
      rcases ins_mem.1 hx with rfl | ⟨y, hy, rfl⟩
      · omega
      · rw [hel y hy]; exact hd y hy
theorem ins_rref {e : En} {l : List En} (h : Rref l) (F : Fits e l) : Rref (insE e l false) where
  rg := fun x hx => by
    rcases ins_mem.1 hx with rfl | ⟨r, hr, rfl⟩
    · exact F.rg
    · exact ⟨(elim_hb F.rg.1 (h.rg r hr).1 (F.ne hr)).2, elim_lt F.rg.2 (h.rg r hr).2⟩
  dec := ins_dec F.rg.1 h fun r hr => F.ne hr
  red := fun a ha b hb' hne => by
    rcases ins_mem.1 ha with rfl | ⟨r, hr, rfl⟩
    · rcases ins_mem.1 hb' with rfl | ⟨r', hr', rfl⟩
      · exact absurd rfl hne
      · rw [(elim_hb F.rg.1 (h.rg r' hr').1 (F.ne hr')).1]; exact F.no r' hr'
    · rcases ins_mem.1 hb' with rfl | ⟨r', hr', rfl⟩
      · exact elim_bit F.rg.1
      · rw [(elim_hb F.rg.1 (h.rg r hr).1 (F.ne hr)).1, (elim_hb F.rg.1 (h.rg r' hr').1 (F.ne hr')).1] at hne
        rw [(elim_hb F.rg.1 (h.rg r' hr').1 (F.ne hr')).1, elim_step, step_if F.rg.1]
        split
        · rw [pl_bit, h.red r hr r' hr' hne, F.no r' hr']; rfl
        · exact h.red r hr r' hr' hne
theorem elim_add {e a b : En} (he : 1 ≤ e.m) : elimE e (plusE a b) = plusE (elimE e a) (elimE e b) := by
  rw [elim_step, elim_step, elim_step, step_if he, step_if he, step_if he, pl_bit]
  cases h1 : a.m.testBit (hb e) <;> cases h2 : b.m.testBit (hb e) <;> simp only [Bool.xor_false, Bool.false_xor, Bool.xor_self, Bool.false_eq_true, if_false, if_true, Bool.xor_true, Bool.not_true, Bool.not_false]
  · rw [pl_assoc]
  · rw [pl_assoc, pl_comm b e, ← pl_assoc]
  · rw [pl_assoc, pl_left e b e, pl_self, pl_zero]
theorem sum_elim {e : En} (he : 1 ≤ e.m) : ∀ l : List En, sumE (l.map (elimE e)) = elimE e (sumE l)
  | [] => by
    show zE = elimE e zE
    rw [elim_step, step_if he, if_neg (by simp [zE])]
  | a :: l => by rw [List.map_cons, sum_c, sum_c, sum_elim he l, elim_add he]
/-- Reducing by one more row is reducing, and then by that row. -/
theorem red_ins {e : En} {l : List En} (h : Rref l) (F : Fits e l) (v : En) : redE (insE e l false) v = elimE e (redE l v) := by
  rw [red_eq (ins_rref h F), red_eq h]
  have hp : (sel (insE e l false) v.m).Perm (sel (e :: l.map (elimE e)) v.m) := by
    have := ins_perm e l false
    simp only [Bool.false_eq_true, if_false] at this
    exact this.filter _
  rw [sum_perm hp, sel_c, elim_add F.rg.1]
  have hs : sel (l.map (elimE e)) v.m = (sel l v.m).map (elimE e) := by
    unfold sel
    rw [List.filter_map]
    congr 1
    apply List.filter_congr
    intro r hr
    show v.m.testBit (hb (elimE e r)) = _
    rw [(elim_hb F.rg.1 (h.rg r hr).1 (F.ne hr)).1]
  rw [hs]
  have hv : elimE e v = if v.m.testBit (hb e) = true then plusE v e else v := by rw [elim_step, step_if F.rg.1]
  by_cases h1 : v.m.testBit (hb e) = true
  · rw [if_pos h1, sum_c, sum_elim F.rg.1, hv, if_pos h1, pl_assoc]
  · rw [if_neg h1, sum_elim F.rg.1, hv, if_neg h1]
theorem red_fits {l : List En} (h : Rref l) (x : En) (hx : x.m < 65536) (h0 : (redE l x).m ≠ 0) : Fits (redE l x) l :=
  ⟨⟨by omega, redE_lt hx fun e he => (h.rg e he).2⟩, fun r hr => red_bit h x hr⟩
theorem red_zero {e : En} {l : List En} (h : Rref l) (F : Fits e l) {v : En} (hv : (redE l v).m = 0) : (redE (insE e l false) v).m = 0 := by
  rw [red_ins h F, elim_step, step_if F.rg.1, if_neg (by rw [hv]; simp)]; exact hv
theorem red_self {l : List En} (h : Rref l) {x : En} (F : Fits (redE l x) l) : (redE (insE (redE l x) l false) x).m = 0 := by
  rw [red_ins h F, elim_step, step_if F.rg.1, if_pos (hb_bit F.rg.1), pl_self]; rfl
/-- What a unit reduces to. -/
theorem red_unit : ∀ {l : List En}, Rref l → ∀ {i : Nat} {x : En}, x.m = 2 ^ i → (redE l x).m = 0 → ∃ r ∈ l, r.m = 2 ^ i := by
  intro l h i x hx h0
  have hbit : ∀ j, x.m.testBit j = decide (i = j) := fun j => by rw [hx, Nat.testBit_two_pow]
  rw [red_eq h] at h0
  have h0 : x.m ^^^ (sumE (sel l x.m)).m = 0 := h0
  cases hs : sel l x.m with
  | nil =>
    rw [hs] at h0
    have : x.m ^^^ 0 = 0 := h0
    rw [Nat.xor_zero, hx] at this
    have := Nat.two_pow_pos i
    omega
  | cons r s =>
    have hr : r ∈ l ∧ x.m.testBit (hb r) = true := by
      have : r ∈ sel l x.m := by rw [hs]; exact List.mem_cons_self
      exact List.mem_filter.1 this
    have hsn : s = [] := by
      cases s with
      | nil => rfl
      | cons r' s =>
        exfalso
        have hp : (sel l x.m).Pairwise fun a b => hb b < hb a := h.dec.filter _
        rw [hs] at hp
        have h1 := (List.pairwise_cons.1 hp).1 r' List.mem_cons_self
        have hr' : x.m.testBit (hb r') = true := by
          have : r' ∈ sel l x.m := by rw [hs]; exact List.mem_cons_of_mem _ List.mem_cons_self
          exact (List.mem_filter.1 this).2
        have e1 := hr.2
        rw [hbit] at e1 hr'
        simp only [decide_eq_true_eq] at e1 hr'
        omega
    rw [hs, hsn] at h0
    have h1 : sumE [r] = r := pl_zero r
    rw [h1] at h0
    refine ⟨r, hr.1, ?_⟩
    have : x.m ^^^ (x.m ^^^ r.m) = x.m ^^^ 0 := by rw [h0]
    rw [← Nat.xor_assoc, Nat.xor_self, Nat.zero_xor, Nat.xor_zero] at this
    rw [this, hx]
end Go.Proofs.YtfmbdcmjgnikiaaGreatDoor.Sm
namespace Go.Proofs.YtfmbdcmjgnikiaaGreatDoor.Sm
open Go Go.RowKit

/-! ### valid is reduced -/
def orL (L : Nat) (l : List Rw) : Nat := l.foldl (fun a r => a ||| leadN r.mask.toNat) L
def Dec : Nat → List Rw → Prop
  | _, [] => True
  | last, r :: rs => leadN r.mask.toNat < last ∧ Dec (leadN r.mask.toNat) rs
theorem scanV_iff : ∀ (l : List Rw) (L last M : Nat), scanV l L last = some M ↔ (∀ r ∈ l, fmB r = true) ∧ Dec last l ∧ M = orL L l
  | [], L, last, M => ⟨fun h => by cases h; exact ⟨by simp, trivial, rfl⟩, fun ⟨_, _, h⟩ => by rw [h]; rfl⟩
  | r :: l, L, last, M => by
    rw [scanV]
    by_cases h : fmB r = true ∧ leadN r.mask.toNat < last
    · rw [if_pos h, scanV_iff l]
      simp only [List.mem_cons, forall_eq_or_imp, Dec, h.1, h.2, true_and]
      rfl
    · rw [if_neg h]
      simp only [List.mem_cons, forall_eq_or_imp, Dec, reduceCtorEq, false_iff]
      rintro ⟨⟨h1, _⟩, ⟨h2, _⟩, _⟩
      exact h ⟨h1, h2⟩
theorem dec_iff : ∀ (l : List Rw) (last : Nat), Dec last l ↔ (∀ r ∈ l, leadN r.mask.toNat < last) ∧ l.Pairwise fun a b => leadN b.mask.toNat < leadN a.mask.toNat
  | [], last => by simp [Dec]
  | r :: l, last => by
    rw [Dec, dec_iff l, List.pairwise_cons]
    simp only [List.mem_cons, forall_eq_or_imp]
    constructor
    · rintro ⟨h1, h2, h3⟩
      exact ⟨⟨h1, fun x hx => by have := h2 x hx; omega⟩, h2, h3⟩
    · rintro ⟨⟨h1, _⟩, h2, h3⟩
      exact ⟨h1, h2, h3⟩
theorem orL_bit : ∀ (l : List Rw) (L i : Nat), (∀ r ∈ l, fmB r = true) → ((orL L l).testBit i = true ↔ L.testBit i = true ∨ ∃ r ∈ l, hb (enR r) = i)
  | [], L, i, _ => by simp [orL]
  | r :: l, L, i, h => by
    have hr := (enR_m (h r List.mem_cons_self)).2.2
    have e : orL L (r :: l) = orL (L ||| leadN r.mask.toNat) l := rfl
    have hl : leadN r.mask.toNat = 2 ^ hb (enR r) := lead_pow hr
    rw [e, orL_bit l _ i fun x hx => h x (List.mem_cons_of_mem _ hx), Nat.testBit_or, hl, Nat.testBit_two_pow, Bool.or_eq_true, decide_eq_true_eq]
    simp only [List.mem_cons, exists_eq_or_imp]
    constructor
    · rintro ((h | h) | h)
      · exact .inl h
      · exact .inr (.inl h)
      · exact .inr (.inr h)
    · rintro (h | h | h)
      · exact .inl (.inl h)
      · exact .inl (.inr h)
      · exact .inr h
theorem validI_iff {rows : List Rw} : validI rows = true ↔ (∀ r ∈ rows, fmB r = true) ∧ Rref (rows.map enR) := by
  by_cases hfm : ∀ r ∈ rows, fmB r = true
  case neg =>
    constructor
    · intro h; exact absurd (valid_fm h) hfm
    · intro h; exact absurd h.1 hfm
  have hm : ∀ r ∈ rows, 1 ≤ (enR r).m ∧ (enR r).m < 65536 := fun r hr => ⟨(enR_m (hfm r hr)).2.2, (enR_m (hfm r hr)).2.1⟩
  have hpw : (rows.Pairwise fun a b => leadN b.mask.toNat < leadN a.mask.toNat) ↔ (rows.map enR).Pairwise fun a b => hb b < hb a := by
    rw [List.pairwise_map]
    constructor
    · exact List.Pairwise.imp_of_mem fun {a b} ha hb' hh => (lead_lt_iff (hm b hb').1 (hm a ha).1).1 hh
    · exact List.Pairwise.imp_of_mem fun {a b} ha hb' hh => (lead_lt_iff (hm b hb').1 (hm a ha).1).2 hh
  have hall : ∀ r ∈ rows, leadN r.mask.toNat < 65536 := fun r hr => lead_lt (hm r hr).2
  have hred : redV (orL 0 rows) rows = true ↔ ∀ a ∈ rows, ∀ b ∈ rows, hb (enR a) ≠ hb (enR b) → (enR a).m.testBit (hb (enR b)) = false := by
    unfold redV
    rw [List.all_eq_true]
    refine forall_congr' fun a => ?_
    refine imp_congr_right fun ha => ?_
    rw [decide_eq_true_eq]
    have hl : leadN a.mask.toNat = 2 ^ hb (enR a) := lead_pow (hm a ha).1
    rw [hl]
    constructor
    · intro h b hb' hne
      have h2 := congrArg (fun x => x.testBit (hb (enR b))) h
      simp only [Nat.testBit_and, Nat.testBit_two_pow] at h2
      rw [(orL_bit rows 0 (hb (enR b)) hfm).2 (.inr ⟨b, hb', rfl⟩), Bool.and_true] at h2
      show a.mask.toNat.testBit _ = false
      rw [h2]; simpa using hne
    · intro h
      apply Nat.eq_of_testBit_eq
      intro j
      rw [Nat.testBit_and, Nat.testBit_two_pow]
      by_cases hj : hb (enR a) = j
      · subst hj
        have h1 : a.mask.toNat.testBit (hb (enR a)) = true := hb_bit (hm a ha).1
        rw [h1, (orL_bit rows 0 (hb (enR a)) hfm).2 (.inr ⟨a, ha, rfl⟩)]; simp
      · cases ho : (orL 0 rows).testBit j with
        | false => simp [hj]
        | true =>
          rcases (orL_bit rows 0 j hfm).1 ho with h0 | ⟨b, hb', e⟩
          · simp at h0
          · subst e
            have h1 : a.mask.toNat.testBit (hb (enR b)) = false := h b hb' hj
            rw [h1]; simp [hj]
  constructor
  · intro h
    unfold validI at h
    split at h
    · cases h
    · rename_i L hL
      obtain ⟨_, h2, rfl⟩ := (scanV_iff rows 0 65536 L).1 hL
      refine ⟨hfm, ⟨?_, hpw.1 ((dec_iff rows 65536).1 h2).2, ?_⟩⟩
      · intro e he; obtain ⟨r, hr, rfl⟩ := List.mem_map.1 he; exact hm r hr
      · intro a ha b hb' hne
        obtain ⟨x, hx, rfl⟩ := List.mem_map.1 ha
        obtain ⟨y, hy, rfl⟩ := List.mem_map.1 hb'
        exact hred.1 h x hx y hy hne
  · rintro ⟨_, h⟩
    have hs := (scanV_iff rows 0 65536 (orL 0 rows)).2 ⟨hfm, (dec_iff rows 65536).2 ⟨hall, hpw.2 h.dec⟩, rfl⟩
    unfold validI
    rw [hs]
    exact hred.2 fun a ha b hb' hne => h.red _ (List.mem_map_of_mem ha) _ (List.mem_map_of_mem hb') hne

/-! ### rows that are kept -/
theorem en_row {e : En} : enR (rowE e) = e := En.ext (by show (e.m : Int).toNat = e.m; exact Int.toNat_natCast _) (Bk.ext (Bk.of_eq e.b.h))
theorem en_rows (l : List En) : (l.map rowE).map enR = l := by
  rw [List.map_map]
  exact (List.map_congr_left (f := enR ∘ rowE) (g := id) fun e _ => en_row).trans (List.map_id _)
theorem fm_row {e : En} (h : 1 ≤ e.m ∧ e.m < 65536) : fmB (rowE e) = true := by
  unfold fmB
  rw [Bool.and_eq_true, Bool.and_eq_true]
  exact ⟨⟨decide_eq_true (show (1 : Int) ≤ (e.m : Int) by omega), decide_eq_true (show (e.m : Int) < 65536 by omega)⟩, decide_eq_true e.b.h⟩
theorem valid_rows {l : List En} (h : Rref l) : validI (l.map rowE) = true := by
  rw [validI_iff, en_rows]
  exact ⟨fun r hr => by obtain ⟨e, he, rfl⟩ := List.mem_map.1 hr; exact fm_row (h.rg e he), h⟩
/-- One more equation, told of the rows as equations. -/
theorem addR_ok {rows : List Rw} {x : Rw} (hv : validI rows = true) (hx : fmB x = true) :
    ((redE (rows.map enR) (enR x)).m = 0 ∧ (redE (rows.map enR) (enR x)).b.l = Bk.zero.l ∧ addR rows x = (slR ((rows.map enR).map rowE), false, 0)) ∨
    ((redE (rows.map enR) (enR x)).m = 0 ∧ (redE (rows.map enR) (enR x)).b.l ≠ Bk.zero.l ∧ addR rows x = (nilS, false, 12)) ∨
    (Fits (redE (rows.map enR) (enR x)) (rows.map enR) ∧ addR rows x = (slR ((insE (redE (rows.map enR) (enR x)) (rows.map enR) false).map rowE), true, 0)) := by
  obtain ⟨hfm, hr⟩ := validI_iff.1 hv
  unfold addR
  rw [if_pos ⟨hv, hx⟩]
  simp only
  by_cases h0 : (redE (rows.map enR) (enR x)).m = 0
  · rw [if_pos h0]
    by_cases hb' : (redE (rows.map enR) (enR x)).b.l = Bk.zero.l
    · rw [if_pos hb']; exact .inl ⟨h0, hb', rfl⟩
    · rw [if_neg hb']; exact .inr (.inl ⟨h0, hb', rfl⟩)
  · rw [if_neg h0]
    exact .inr (.inr ⟨red_fits hr _ (enR_m hx).2.1 h0, rfl⟩)
/-! ### all blocks -/
theorem dec_count : ∀ (n : Nat) (l : List Nat), l.Pairwise (fun a b => b < a) → (∀ x ∈ l, x < n) → l.length ≤ n ∧ (l.length = n → ∀ i, i < n → i ∈ l)
  | 0, l, _, h => by
    cases l with
    | nil => exact ⟨by simp, fun _ i hi => by omega⟩
    | cons a l => have := h a List.mem_cons_self; omega
  | n + 1, [], _, _ => ⟨by simp, fun h => by simp at h⟩
  | n + 1, a :: l, hp, h => by
    have hp' := List.pairwise_cons.1 hp
    have ha := h a List.mem_cons_self
    have ih := dec_count n l hp'.2 fun x hx => by have := hp'.1 x hx; omega
    refine ⟨by simp; exact ih.1, fun hl i hi => ?_⟩
    have hl' : l.length = n := by simpa using hl
    by_cases hia : i = a
    · exact hia ▸ List.mem_cons_self
    by_cases hin : i < n
    · exact List.mem_cons_of_mem _ (ih.2 hl' i hin)
    · exfalso
      have h2 := dec_count a l hp'.2 fun x hx => hp'.1 x hx
      omega
theorem hb_16 {l : List En} (h : Rref l) {e : En} (he : e ∈ l) : hb e < 16 := log2_16 (h.rg e he).2
theorem rref_len {l : List En} (h : Rref l) : l.length ≤ 16 := by
  have := (dec_count 16 (l.map hb) (by rw [List.pairwise_map]; exact h.dec) fun x hx => by obtain ⟨e, he, rfl⟩ := List.mem_map.1 hx; exact hb_16 h he).1
  simpa using this
theorem unit_of {l : List En} (h : Rref l) (hl : l.length = 16) {i : Nat} (hi : i < 16) : ∃ r ∈ l, r.m = 2 ^ i := by
  have hmem := (dec_count 16 (l.map hb) (by rw [List.pairwise_map]; exact h.dec) fun x hx => by obtain ⟨e, he, rfl⟩ := List.mem_map.1 hx; exact hb_16 h he).2 (by simpa using hl)
  obtain ⟨r, hr, e⟩ := List.mem_map.1 (hmem i hi)
  refine ⟨r, hr, ?_⟩
  apply Nat.eq_of_testBit_eq
  intro j
  rw [Nat.testBit_two_pow]
  by_cases hj : i = j
  · subst hj
    rw [← e, hb_bit (h.rg r hr).1]; simp
  · rw [decide_eq_false hj]
    by_cases hj16 : j < 16
    · obtain ⟨r', hr', e'⟩ := List.mem_map.1 (hmem j hj16)
      rw [← e']
      exact h.red r hr r' hr' (by omega)
    · exact bit_hi (by have := hb_16 h hr; omega)
theorem okF_iff {rows : List Rw} (hv : validI rows = true) (i : Nat) : okF rows i = true ↔ ∃ r ∈ rows.map enR, r.m = 2 ^ i := by
  unfold okF solvedI
  rw [if_pos hv, Option.isSome_map, List.find?_isSome]
  simp
theorem full_iff {rows : List Rw} (hv : validI rows = true) : fullF rows = true ↔ rows.length = 16 := by
  have hr := (validI_iff.1 hv).2
  unfold fullF
  rw [List.all_eq_true]
  constructor
  · intro h
    have hle := rref_len hr
    rw [List.length_map] at hle
    have : ∀ n, n ≤ 16 → n ≤ rows.length ∨ True := fun _ _ => .inr trivial
    have hsub : (List.range 16).length ≤ ((rows.map enR).map hb).length := by
      refine List.Nodup.length_le_of_subset List.nodup_range ?_
      intro i hi
      obtain ⟨r, h1, h2⟩ := (okF_iff hv i).1 (h i hi)
      refine List.mem_map.2 ⟨r, h1, ?_⟩
      unfold hb
      rw [h2, Nat.log2_two_pow]
    simp at hsub
    omega
  · intro h i hi
    exact (okF_iff hv i).2 (unit_of hr (by simpa using h) (List.mem_range.1 hi))
end Go.Proofs.YtfmbdcmjgnikiaaGreatDoor.Sm
namespace Go.Proofs.YtfmbdcmjgnikiaaGreatDoor.Sm
open Go Go.RowKit

theorem enc_s (page : List UInt8) (S i : Nat) : encB page S (i + 1) = if S.testBit i = true then (encB page S i).xor (blkI page i) else encB page S i := by
  rw [encB, Nat.testBit_eq_decide_div_mod_eq]
  simp only [decide_eq_true_eq]
theorem enc_lin (page : List UInt8) (a b : Nat) : ∀ i, encB page (a ^^^ b) i = (encB page a i).xor (encB page b i)
  | 0 => (bx_self _).symm
  | i + 1 => by
    rw [enc_s, enc_s, enc_s, enc_lin page a b i, Nat.testBit_xor]
    cases a.testBit i <;> cases b.testBit i <;> simp only [Bool.xor_false, Bool.false_xor, Bool.xor_self, Bool.false_eq_true, if_false, if_true, Bool.xor_true, Bool.not_true, Bool.not_false]
    · rw [bx_assoc]
    · rw [bx_assoc, bx_comm (encB page b i), ← bx_assoc]
    · rw [bx_assoc, bx_comm (blkI page i), bx_assoc, bx_self, bx_zero]
theorem enc_0 (page : List UInt8) : ∀ i, encB page 0 i = Bk.zero
  | 0 => rfl
  | i + 1 => by rw [enc_s, Nat.zero_testBit, if_neg (by simp)]; exact enc_0 page i
theorem enc_unit (page : List UInt8) (k : Nat) : ∀ i, encB page (2 ^ k) i = if k < i then blkI page k else Bk.zero
  | 0 => rfl
  | i + 1 => by
    rw [enc_s, Nat.testBit_two_pow, enc_unit page k i]
    by_cases h : k = i
    · subst h
      rw [if_pos (by simp), if_neg (by omega), if_pos (by omega), bx_comm, bx_zero]
    · rw [if_neg (by simpa using h)]
      by_cases h2 : k < i
      · rw [if_pos h2, if_pos (by omega)]
      · rw [if_neg h2, if_neg (by omega)]
/-- An equation that a page fulfils. -/
def Cons (page : List UInt8) (e : En) : Prop := e.b = encB page e.m 16
theorem cons_plus {page : List UInt8} {a b : En} (ha : Cons page a) (hb' : Cons page b) : Cons page (plusE a b) := by
  unfold Cons at ha hb' ⊢
  show a.b.xor b.b = encB page (a.m ^^^ b.m) 16
  rw [enc_lin, ha, hb']
theorem cons_step {page : List UInt8} {x e : En} (hx : Cons page x) (he : Cons page e) : Cons page (stepE x e) := by
  unfold stepE
  split
  · exact cons_plus hx he
  · exact hx
theorem cons_red {page : List UInt8} : ∀ {l : List En} {x : En}, (∀ e ∈ l, Cons page e) → Cons page x → Cons page (redE l x)
  | [], x, _, hx => hx
  | e :: l, x, hl, hx => cons_red (l := l) (fun e he => hl e (List.mem_cons_of_mem _ he)) (cons_step hx (hl e List.mem_cons_self))
structure Gd (page : List UInt8) (rows : List Rw) : Prop where
  val : validI rows = true
  con : ∀ e ∈ rows.map enR, Cons page e
theorem Gd.rref {page : List UInt8} {rows : List Rw} (G : Gd page rows) : Rref (rows.map enR) := (validI_iff.1 G.val).2
theorem Gd.nil (page : List UInt8) : Gd page [] := ⟨rfl, by simp⟩
def codE (page : List UInt8) (seed : Int) : En := ⟨setN seed, encB page (setN seed) 16⟩
theorem cod_fits {page : List UInt8} {seed : Int} (hs : seedB seed = true) {data : By} (hd : data.xs = (encB page (setN seed) 16).l) : fmB ⟨setN seed, data⟩ = true ∧ enR ⟨setN seed, data⟩ = codE page seed := by
  have h1 := set_pos hs
  have h2 := set_lt seed
  have h3 : data.xs.length = 16 := by rw [hd]; exact Bk.h _
  refine ⟨?_, ?_⟩
  · unfold fmB
    rw [Bool.and_eq_true, Bool.and_eq_true]
    exact ⟨⟨decide_eq_true (show (1 : Int) ≤ (setN seed : Int) by omega), decide_eq_true (show (setN seed : Int) < 65536 by omega)⟩, decide_eq_true h3⟩
  · refine En.ext (Int.toNat_natCast _) (Bk.ext ?_)
    show (Bk.of data.xs).l = _
    rw [Bk.of_eq h3, hd]; rfl
/-- A coded block is taken into rows of coded blocks. -/
theorem add_cod {page : List UInt8} {rows : List Rw} {seed : Int} (G : Gd page rows) (hs : seedB seed = true) {data : By} (hd : data.xs = (encB page (setN seed) 16).l) :
    ∃ l : List En, (addR rows ⟨setN seed, data⟩).1 = slR (l.map rowE) ∧ (addR rows ⟨setN seed, data⟩).2.2 = 0 ∧ Gd page (l.map rowE) ∧ (∀ v, (redE (rows.map enR) v).m = 0 → (redE l v).m = 0) ∧ (redE l (codE page seed)).m = 0 ∧
      (l = if (redE (rows.map enR) (codE page seed)).m = 0 then rows.map enR else insE (redE (rows.map enR) (codE page seed)) (rows.map enR) false) := by
  obtain ⟨hf, he⟩ := cod_fits hs hd
  have hr := G.rref
  have hc : Cons page (redE (rows.map enR) (codE page seed)) := cons_red G.con rfl
  rcases addR_ok G.val hf with ⟨h0, h1, e⟩ | ⟨h0, h1, e⟩ | ⟨F, e⟩
  · rw [he] at h0
    refine ⟨rows.map enR, by rw [e], by rw [e], ⟨valid_rows hr, by rw [en_rows]; exact G.con⟩, fun v hv => hv, h0, by rw [if_pos h0]⟩
  · exfalso
    rw [he] at h0 h1
    unfold Cons at hc
    rw [h0, enc_0] at hc
    exact h1 (by rw [hc])
  · rw [he] at F e
    refine ⟨_, by rw [e], by rw [e], ⟨valid_rows (ins_rref hr F), ?_⟩, fun v hv => red_zero hr F hv, red_self hr F, by rw [if_neg (by have := F.rg.1; omega)]⟩
    rw [en_rows]
    intro x hx
    rcases ins_mem.1 hx with rfl | ⟨r, h1, rfl⟩
    · exact hc
    · rw [elim_step]; exact cons_step (G.con r h1) hc
theorem full_units {page : List UInt8} {rows : List Rw} (G : Gd page rows) (h : ∀ i : Nat, i < 16 → (redE (rows.map enR) (codE page i)).m = 0) : fullF rows = true := by
  unfold fullF
  rw [List.all_eq_true]
  intro i hi
  have hi := List.mem_range.1 hi
  refine (okF_iff G.val i).2 (red_unit G.rref (x := codE page i) ?_ (h i hi))
  show setN (i : Int) = 2 ^ i
  unfold setN
  rw [if_pos (seed_iff.2 (by omega)), if_pos (by omega), Int.toNat_natCast]
theorem blocks_page {page : List UInt8} : ∀ n, 16 * n ≤ page.length → (List.range n).flatMap (fun i => (blkI page i).l) = page.take (16 * n)
  | 0, _ => by simp
  | n + 1, h => by
    have hl : ((page.drop (n * 16)).take 16).length = 16 := by simp; omega
    rw [List.range_succ, List.flatMap_append, blocks_page n (by omega), List.flatMap_cons, List.flatMap_nil, List.append_nil, blkI, Bk.of_eq hl, Nat.mul_comm n 16, show 16 * (n + 1) = 16 * n + 16 by omega, List.take_add]
theorem page_of {page : List UInt8} {rows : List Rw} (G : Gd page rows) (hp : page.length = 256) (hf : fullF rows = true) : pageR rows = some page := by
  unfold pageR
  rw [if_pos hf]
  have h : pgB rows 16 = (List.range 16).flatMap (fun i => (blkI page i).l) := by
    unfold pgB
    unfold fullF at hf
    rw [List.all_eq_true] at hf
    have : ∀ i ∈ List.range 16, datO (solvedI rows i) = (blkI page i).l := fun i hi => by
      have h1 := hf i hi
      have hi := List.mem_range.1 hi
      unfold okF solvedI at h1
      unfold solvedI
      rw [if_pos G.val] at h1 ⊢
      cases hh : (rows.map enR).find? fun e => decide (e.m = 2 ^ i) with
      | none => rw [hh] at h1; cases h1
      | some r =>
        have hm := List.find?_some hh
        have hmem := List.mem_of_find?_eq_some hh
        have hc := G.con r hmem
        simp only [decide_eq_true_eq] at hm
        unfold Cons at hc
        rw [hm, enc_unit, if_pos hi] at hc
        show r.b.l = _
        rw [hc]
    generalize List.range 16 = l at this
    induction l with
    | nil => rfl
    | cons a l ih => rw [List.flatMap_cons, List.flatMap_cons, this a List.mem_cons_self, ih fun i hi => this i (List.mem_cons_of_mem _ hi)]
  rw [h, blocks_page 16 (by omega), List.take_of_length_le (by omega)]
end Go.Proofs.YtfmbdcmjgnikiaaGreatDoor.Sm
namespace Go.Proofs.YtfmbdcmjgnikiaaGreatDoor.Sm
open Go Go.RowKit

/-- A state in which the first k pages of a program are there. -/
structure Ld (b : List UInt8) (ver start : Int) (T : Tm) (k : Nat) (s : Sp) : Prop where
  n1 : s.ver = ver
  n2 : s.size = b.length
  n3 : s.dg = rootI (splitI b)
  n4 : s.start = start
  tm : s.t = T
  pg : inner s.pages.xs = inner ((splitI b).take k)
  pf : inner s.proofs.xs = inner (ldQ (splitI b) k)
structure LdA (b : List UInt8) (ver start : Int) (T : Tm) (k : Nat) (page : By) (s : Sp) : Prop where
  ld : Ld b ver start T k s
  hp : (splitI b)[k]? = some page
  gd : Gd page.xs s.rows.xs
  lt : s.rows.xs.length < 16
  q0 : s.rows.xs = [] → s.proof.xs = []
  q1 : s.rows.xs ≠ [] → s.proof.xs = proofI (splitI b) k
structure LdB (b : List UInt8) (ver start : Int) (T : Tm) (k : Nat) (s : Sp) : Prop where
  ld : Ld b ver start T k s
  r0 : s.rows.xs = []
  p0 : s.proof.xs = []
section
variable {b : List UInt8} {ver start : Int} {T : Tm} {k : Nat} {page : By} {s : Sp}
theorem Ld.len (h : Ld b ver start T k s) (hk : k ≤ (splitI b).length) : s.pages.xs.length = k := by
  have := inner_len h.pg
  rw [List.length_take] at this
  omega
theorem Ld.copy (h : Ld b ver start T k s) : Ld b ver start T k (copyS s) :=
  ⟨h.n1, h.n2, h.n3, h.n4, h.tm, (inner_clone _).trans h.pg, (inner_clone _).trans h.pf⟩
theorem en_clone (l : List Rw) : (l.map cloneR).map enR = l.map enR := by rw [List.map_map]; rfl
theorem Gd.copy {p : List UInt8} {rows : List Rw} (G : Gd p rows) : Gd p (rows.map cloneR) := ⟨by rw [validI_clone]; exact G.val, by rw [en_clone]; exact G.con⟩
theorem map_nil {α β : Type} {f : α → β} {l : List α} : l.map f = [] ↔ l = [] := List.map_eq_nil_iff
theorem LdA.copy (h : LdA b ver start T k page s) : LdA b ver start T k page (copyS s) :=
  ⟨h.ld.copy, h.hp, h.gd.copy, by show (s.rows.xs.map cloneR).length < 16; rw [List.length_map]; exact h.lt, fun e => h.q0 (map_nil.1 e), fun e => h.q1 fun e' => e (map_nil.2 e')⟩
theorem LdB.copy (h : LdB b ver start T k s) : LdB b ver start T k (copyS s) := ⟨h.ld.copy, map_nil.2 h.r0, h.p0⟩
theorem Ld.sound (hn : noticeI ver b.length start = true) (h : Ld b ver start T k s) (hk : k ≤ (splitI b).length) : soundS s = true := by
  unfold soundS
  rw [h.n1, h.n2, h.n3, h.n4, soundI_inner h.pg h.pf]
  exact ld_sound hn hk
theorem Ld.empty (hn : noticeI ver b.length start = true) (h : Ld b ver start T k s) : emptyS s = false := by
  have h1 : 1 ≤ s.size := by
    have := notice_size hn
    rw [h.n2]; exact this.1
  unfold emptyS zeroN
  have : decide (s.ver = 0 ∧ s.size = 0 ∧ s.dg = 0 ∧ s.start = 0) = false := decide_eq_false (by omega)
  rw [this]; rfl
theorem Ld.whole (hn : noticeI ver b.length start = true) (h : Ld b ver start T k s) (hk : k ≤ (splitI b).length) : wholeS s = decide (k = (splitI b).length) := by
  unfold wholeS
  rw [h.n2, split_count (notice_sized hn), h.len hk]
  by_cases e : k = (splitI b).length
  · rw [decide_eq_true e, decide_eq_true (by omega)]
  · rw [decide_eq_false e, decide_eq_false (by omega)]
theorem LdA.lt' (h : LdA b ver start T k page s) : k < (splitI b).length := (List.getElem?_eq_some_iff.1 h.hp).1
theorem validS_of {x : Sp} (h1 : soundS x = true) (h2 : validI x.rows.xs = true) (h3 : x.rows.xs.length < 16) (h4 : x.rows.xs.length = 0 ∨ wholeS x = false) (h5 : 0 < x.rows.xs.length ∨ x.proof.xs.length = 0) (h6 : validT x.t = true) : validS x = true := by
  unfold validS
  rw [h1, h2, h6, decide_eq_true h3]
  have a : (decide (x.rows.xs.length = 0) || !wholeS x) = true := by
    rcases h4 with h | h
    · rw [decide_eq_true h]; rfl
    · rw [h]; simp
  have c : (decide (0 < x.rows.xs.length) || decide (x.proof.xs.length = 0)) = true := by
    rcases h5 with h | h
    · rw [decide_eq_true h]; rfl
    · rw [decide_eq_true h]; simp
  rw [a, c]; simp
theorem LdA.valid (hn : noticeI ver b.length start = true) (hT : validT T = true) (h : LdA b ver start T k page s) : validS s = true := by
  have hk := h.lt'
  refine validS_of (h.ld.sound hn (by omega)) h.gd.val h.lt (.inr ?_) ?_ (by rw [h.ld.tm]; exact hT)
  · rw [h.ld.whole hn (by omega), decide_eq_false (by omega)]
  · by_cases e : s.rows.xs = []
    · exact .inr (by rw [h.q0 e]; rfl)
    · exact .inl (List.length_pos_iff.2 e)
theorem LdB.valid (hn : noticeI ver b.length start = true) (hT : validT T = true) (hk : k ≤ (splitI b).length) (h : LdB b ver start T k s) : validS s = true := by
  refine validS_of (h.ld.sound hn hk) ?_ ?_ (.inl ?_) (.inr ?_) (by rw [h.ld.tm]; exact hT)
  · rw [h.r0]; rfl
  · rw [h.r0]; decide
  · rw [h.r0]; rfl
  · rw [h.p0]; rfl
theorem LdB.toA (h : LdB b ver start T k s) (hp : (splitI b)[k]? = some page) : LdA b ver start T k page s :=
  ⟨h.ld, hp, by rw [h.r0]; exact Gd.nil _, by rw [h.r0]; decide, fun _ => h.p0, fun e => absurd h.r0 e⟩
theorem fb_ok (hp : (splitI b)[k]? = some page) {x : Int} (hx : seedB x = true) {pf : Sl Int} :
    page.xs.length = 256 ∧ (encR page.xs k x).2 = 0 ∧ dataB (feedBl page.xs k x pf) = true ∧ (feedBl page.xs k x pf).page = k ∧ (feedBl page.xs k x pf).seed = x ∧ (feedBl page.xs k x pf).data.xs = (encB page.xs (setN x) 16).l ∧ (feedBl page.xs k x pf).proof = pf := by
  have hl := ((split_pages b).2.1 page (List.mem_of_getElem? hp)).1
  have hk := (List.getElem?_eq_some_iff.1 hp).1
  have h16 := (split_pages b).1
  have hpb : pageB (k : Int) = true := by unfold pageB; rw [Bool.and_eq_true]; exact ⟨decide_eq_true (by omega), decide_eq_true (by omega)⟩
  have e : encR page.xs k x = (⟨k, x, ⟨(encB page.xs (setN x) 16).l, false, false⟩, nilS⟩, 0) := by unfold encR; rw [if_pos ⟨hl, hpb, hx⟩]
  refine ⟨hl, by rw [e], ?_, by unfold feedBl; rw [e], by unfold feedBl; rw [e], by unfold feedBl; rw [e], rfl⟩
  unfold dataB feedBl
  rw [e]
  simp only [hpb, hx, Bk.h, decide_true, Bool.and_self]
/-- A block of the page that is being loaded. -/
theorem stepA (hn : noticeI ver b.length start = true) (hT : validT T = true) (A : LdA b ver start T k page s) {x : Int} (hx : seedB x = true) {pf : Sl Int} (hpf : pf.xs = proofI (splitI b) k) :
    (recvG (copyS s) (feedBl page.xs k x pf)).2 = 0 ∧ ∃ l : List En, l = (if (redE (s.rows.xs.map enR) (codE page.xs x)).m = 0 then s.rows.xs.map enR else insE (redE (s.rows.xs.map enR) (codE page.xs x)) (s.rows.xs.map enR) false) ∧
      (∀ v, (redE (s.rows.xs.map enR) v).m = 0 → (redE l v).m = 0) ∧ (redE l (codE page.xs x)).m = 0 ∧
      ((l.length < 16 ∧ LdA b ver start T k page (recvG (copyS s) (feedBl page.xs k x pf)).1 ∧ (recvG (copyS s) (feedBl page.xs k x pf)).1.rows.xs.map enR = l) ∨ (l.length = 16 ∧ LdB b ver start T (k + 1) (recvG (copyS s) (feedBl page.xs k x pf)).1)) := by
  have A' := A.copy
  have hk := A.lt'
  have hcl := en_clone s.rows.xs
  have hrc : (copyS s).rows.xs.map enR = s.rows.xs.map enR := hcl
  generalize copyS s = y at A' hrc
  obtain ⟨f1, f2, f3, f4, f5, f6, f7⟩ := fb_ok A.hp hx (pf := pf)
  have hv := A'.valid hn hT
  have hwh : wholeS y = false := by rw [A'.ld.whole hn (by omega), decide_eq_false (by omega)]
  have hln := A'.ld.len (by omega)
  have href : refusedI y (feedBl page.xs k x pf) = 0 := by
    unfold refusedI
    rw [if_pos ⟨hv, f3⟩, A'.ld.empty hn, hwh, f4, hln, f7, hpf]
    rw [if_neg (by simp), if_neg (by simp), if_neg (show ¬ ((k : Int) < (k : Int)) by omega), if_neg (show ¬ ((k : Int) < (k : Int)) by omega), if_neg]
    rintro ⟨h1, h2⟩
    exact h2 (A'.q1 (List.length_pos_iff.1 h1)).symm
  obtain ⟨l, l1, l2, l3, l4, l5, l6⟩ := add_cod A'.gd hx f6
  rw [hrc] at l4 l6
  have hrv : recvR y.rows.xs (feedBl page.xs k x pf) = addR y.rows.xs ⟨setN x, (feedBl page.xs k x pf).data⟩ := by
    unfold recvR
    unfold dataB at f3
    simp only [Bool.and_eq_true] at f3
    rw [if_pos ⟨f3.1.1, f3.1.2, of_decide_eq_true f3.2⟩, f5]
  have hfull := full_iff l3.val
  rw [List.length_map] at hfull
  have hmain : recvG y (feedBl page.xs k x pf) = addG y (feedBl page.xs k x pf) (slR (l.map rowE)) (withS y (slR (l.map rowE)) (cloneB pf)) := by
    unfold recvG
    rw [href, hrv, l2, l1, f7, if_neg (by simp), if_neg (by simp)]
  have hne : l ≠ [] := fun e => by
    have h := set_pos hx
    rw [e] at l5
    have h2 : setN x = 0 := l5
    omega
  have hll := rref_len (l := l) (by have := l3.rref; rwa [en_rows] at this)
  by_cases hf : l.length = 16
  · have hpg := page_of l3 f1 (hfull.2 hf)
    have hput : putOK (withS y (slR (l.map rowE)) (cloneB pf)) page.xs pf.xs = true := by
      unfold putOK
      have h1 : soundS (withS y (slR (l.map rowE)) (cloneB pf)) = true := (show soundS y = true from A'.ld.sound hn (by omega))
      have h2 : wholeS (withS y (slR (l.map rowE)) (cloneB pf)) = false := hwh
      have h3 : checkI (withS y (slR (l.map rowE)) (cloneB pf)).dg (countI (withS y (slR (l.map rowE)) (cloneB pf)).size) (withS y (slR (l.map rowE)) (cloneB pf)).pages.xs.length page.xs pf.xs = true := by
        show checkI y.dg (countI y.size) y.pages.xs.length page.xs pf.xs = true
        rw [A'.ld.n3, A'.ld.n2, split_count (notice_sized hn), hln, hpf]
        exact check_proof (split_are (notice_sized hn)) A.hp
      rw [h1, h2, h3, decide_eq_true f1]; rfl
    have he : recvG y (feedBl page.xs k x pf) = (pushS (withS y (slR (l.map rowE)) (cloneB pf)) ⟨page.xs, false, false⟩ pf, 0) := by
      rw [hmain]
      unfold addG
      have hpg' : pageR (slR (l.map rowE)).xs = some page.xs := hpg
      rw [hpg']
      simp only [f7]
      unfold endG
      rw [if_pos hput]
    rw [he]
    refine ⟨rfl, l, l6, l4, l5, .inr ⟨hf, ⟨⟨A'.ld.n1, A'.ld.n2, A'.ld.n3, A'.ld.n4, A'.ld.tm, ?_, ?_⟩, rfl, rfl⟩⟩⟩
    · show inner ((y.pages.xs ++ [(⟨page.xs, false, false⟩ : By)]).map cloneB) = _
      rw [inner_clone, List.take_add_one, A.hp]
      have := A'.ld.pg
      simp only [inner, List.map_append] at this ⊢
      rw [this]; rfl
    · show inner ((y.proofs.xs ++ [pf]).map cloneB) = _
      have := A'.ld.pf
      rw [inner_clone, ldQ, List.range_succ]
      simp only [inner, List.map_append, ldQ] at this ⊢
      rw [this]
      simp [hpf, prq]
  · have hnf : fullF (l.map rowE) = false := by
      cases h : fullF (l.map rowE) with
      | false => rfl
      | true => exact absurd (hfull.1 h) hf
    have hpg' : pageR (slR (l.map rowE)).xs = none := by unfold pageR; rw [if_neg (by show ¬ fullF (l.map rowE) = true; rw [hnf]; simp)]
    have he : recvG y (feedBl page.xs k x pf) = (withS y (slR (l.map rowE)) (cloneB pf), 0) := by
      rw [hmain]
      unfold addG
      rw [hpg']
    rw [he]
    refine ⟨rfl, l, l6, l4, l5, .inl ⟨by omega, ⟨⟨A'.ld.n1, A'.ld.n2, A'.ld.n3, A'.ld.n4, A'.ld.tm, A'.ld.pg, A'.ld.pf⟩, A.hp, l3, ?_, fun e => absurd (map_nil.1 e) hne, fun _ => hpf⟩, en_rows l⟩⟩
    show (l.map rowE).length < 16
    rw [List.length_map]; omega
/-- A block of a page that is there. -/
theorem stepB (hn : noticeI ver b.length start = true) (hT : validT T = true) (hp : (splitI b)[k]? = some page) (B : LdB b ver start T (k + 1) s) {x : Int} (hx : seedB x = true) {pf : Sl Int} :
    ((recvG (copyS s) (feedBl page.xs k x pf)).2 = if k + 1 = (splitI b).length then 10 else 14) ∧ LdB b ver start T (k + 1) (recvG (copyS s) (feedBl page.xs k x pf)).1 := by
  have B' := B.copy
  have hk := (List.getElem?_eq_some_iff.1 hp).1
  generalize copyS s = y at B'
  obtain ⟨f1, f2, f3, f4, f5, f6, f7⟩ := fb_ok hp hx (pf := pf)
  have hv := B'.valid hn hT (by omega)
  have hwh := B'.ld.whole hn (by omega)
  have hln := B'.ld.len (by omega)
  have href : refusedI y (feedBl page.xs k x pf) = if k + 1 = (splitI b).length then 10 else 14 := by
    unfold refusedI
    rw [if_pos ⟨hv, f3⟩, B'.ld.empty hn, hwh, f4, hln, if_neg (by simp)]
    by_cases e : k + 1 = (splitI b).length
    · rw [decide_eq_true e, if_pos rfl, if_pos e]
    · rw [decide_eq_false e, if_neg (by simp), if_neg e, if_pos (by omega)]
  have he : recvG y (feedBl page.xs k x pf) = (y, if k + 1 = (splitI b).length then 10 else 14) := by
    unfold recvG
    rw [href, if_pos (by split <;> omega)]
  rw [he]
  exact ⟨rfl, B'⟩
theorem feedL_c {x : Int} {xs : List Int} {pf : Sl Int} (h1 : (encR page.xs k x).2 = 0) (h2 : (recvG (copyS s) (feedBl page.xs k x pf)).2 = 0 ∨ (recvG (copyS s) (feedBl page.xs k x pf)).2 = 14 ∨ (recvG (copyS s) (feedBl page.xs k x pf)).2 = 10) :
    feedL page.xs k pf (x :: xs) s = feedL page.xs k pf xs (recvG (copyS s) (feedBl page.xs k x pf)).1 := by
  rw [feedL, if_neg (by omega), if_neg (by omega)]
theorem feedB (hn : noticeI ver b.length start = true) (hT : validT T = true) (hp : (splitI b)[k]? = some page) {pf : Sl Int} : ∀ (xs : List Int) (s : Sp), (∀ x ∈ xs, seedB x = true) → LdB b ver start T (k + 1) s → ∃ s', feedL page.xs k pf xs s = (s', true) ∧ LdB b ver start T (k + 1) s'
  | [], s, _, B => ⟨s, rfl, B⟩
  | x :: xs, s, hx, B => by
    have h := stepB hn hT hp B (hx x List.mem_cons_self) (pf := pf)
    rw [feedL_c (fb_ok hp (hx x List.mem_cons_self) (pf := pf)).2.1 (by rw [h.1]; split <;> simp)]
    exact feedB hn hT hp xs _ (fun y hy => hx y (List.mem_cons_of_mem _ hy)) h.2
theorem feedA (hn : noticeI ver b.length start = true) (hT : validT T = true) (hp : (splitI b)[k]? = some page) {pf : Sl Int} (hpf : pf.xs = proofI (splitI b) k) : ∀ (xs : List Int) (s : Sp), (∀ x ∈ xs, seedB x = true) → LdA b ver start T k page s →
    ∃ s', feedL page.xs k pf xs s = (s', true) ∧ (LdB b ver start T (k + 1) s' ∨ (LdA b ver start T k page s' ∧ (∀ v, (redE (s.rows.xs.map enR) v).m = 0 → (redE (s'.rows.xs.map enR) v).m = 0) ∧ ∀ x ∈ xs, (redE (s'.rows.xs.map enR) (codE page.xs x)).m = 0))
  | [], s, _, A => ⟨s, rfl, .inr ⟨A, fun _ h => h, by simp⟩⟩
  | x :: xs, s, hx, A => by
    obtain ⟨h1, l, h2, h3, h4, h5⟩ := stepA hn hT A (hx x List.mem_cons_self) hpf
    rw [feedL_c (fb_ok hp (hx x List.mem_cons_self) (pf := pf)).2.1 (.inl h1)]
    have hxs : ∀ y ∈ xs, seedB y = true := fun y hy => hx y (List.mem_cons_of_mem _ hy)
    rcases h5 with ⟨_, A', e⟩ | ⟨_, B⟩
    · obtain ⟨s', g1, g2⟩ := feedA hn hT hp hpf xs _ hxs A'
      refine ⟨s', g1, ?_⟩
      rw [e] at g2
      rcases g2 with g2 | ⟨g2, g3, g4⟩
      · exact .inl g2
      · refine .inr ⟨g2, fun v hv => g3 v (h3 v hv), fun y hy => ?_⟩
        rcases List.mem_cons.1 hy with rfl | hy
        · exact g3 _ h4
        · exact g4 y hy
    · obtain ⟨s', g1, g2⟩ := feedB hn hT hp (pf := pf) xs _ hxs B
      exact ⟨s', g1, .inl g2⟩
/-- With the plain blocks, the page is there. -/
theorem feed_page (hn : noticeI ver b.length start = true) (hT : validT T = true) (hp : (splitI b)[k]? = some page) {xs : List Int} (hx : ∀ x ∈ xs, seedB x = true) (h16 : ∀ i : Nat, i < 16 → (i : Int) ∈ xs) (A : LdA b ver start T k page s) :
    ∃ s', feedL page.xs k (prq (splitI b) k) xs s = (s', true) ∧ LdB b ver start T (k + 1) s' := by
  obtain ⟨s', g1, g2⟩ := feedA hn hT hp (pf := prq (splitI b) k) rfl xs s hx A
  rcases g2 with g2 | ⟨g2, _, g4⟩
  · exact ⟨s', g1, g2⟩
  · exfalso
    have hf := full_units g2.gd fun i hi => g4 i (h16 i hi)
    have := (full_iff g2.gd.val).1 hf
    have := g2.lt
    omega
end
end Go.Proofs.YtfmbdcmjgnikiaaGreatDoor.Sm
namespace Go.Proofs.YtfmbdcmjgnikiaaGreatDoor.Sm
open Go Go.RowKit

theorem feedL_W {page : List UInt8} {number : Int} {pf : Sl Int} (h : pf.ok) (hl : pf.xs.length ≤ 1000) : ∀ (xs : List Int) (s : Sp), SpW s → SpW (feedL page number pf xs s).1
  | [], s, W => W
  | x :: xs, s, W => by
    rw [feedL]
    split
    · exact W
    · split
      · exact W
      · exact feedL_W h hl xs _ (recvG_W W.copy (feedBl_W h hl))
theorem feedG_W {s : Sp} {pages : List By} {number : Int} {seeds : List Int} (W : SpW s) : SpW (feedG s pages number seeds).1 := by
  unfold feedG
  split
  · exact feedL_W (prq_ok _ _) (by have := proof_len pages number.toNat; show (proofI pages number.toNat).length ≤ _; omega) _ _ W
  · exact W
theorem feedG_eq {s : Sp} {b : List UInt8} {k : Nat} {page : By} {seeds : List Int} (hs : sizedI b.length = true) (hp : (splitI b)[k]? = some page) : feedG s (splitI b) k seeds = feedL page.xs k (prq (splitI b) k) seeds s := by
  have hk := (List.getElem?_eq_some_iff.1 hp).1
  unfold feedG
  rw [if_pos ⟨split_are hs, by omega, by omega⟩, Int.toNat_natCast, hp]; rfl
theorem plain_mem (i : Nat) (h : i < 16) : (i : Int) ∈ plainL := List.mem_map.2 ⟨i, List.mem_range.2 h, rfl⟩
theorem plain_seed : ∀ x ∈ plainL, seedB x = true := fun x hx => by
  obtain ⟨i, hi, rfl⟩ := List.mem_map.1 hx
  have := List.mem_range.1 hi
  exact seed_iff.2 (by omega)
theorem nil_W (a b c d : Int) (t : Tm) : SpW (nilSp a b c d t) := ⟨by simp [nilSp, nilS], by simp [nilSp, nilS], by simp [nilSp, nilS], by simp [nilSp, nilS], by simp [nilSp, nilS], by simp [nilSp, nilS], by simp [nilSp, nilS], fun _ => rfl, fun _ => rfl, fun _ => rfl, fun _ => rfl⟩
theorem nil_copy (a b c d : Int) (t : Tm) : copyS (nilSp a b c d t) = nilSp a b c d t := rfl
theorem below_1 (s : Int) : belowI s 1 = 0 := by unfold belowI; rw [if_pos (by omega), Int.tmod_one]
theorem newT_eq (sd frame : Int) : newT sd frame = ⟨1, frame, frame, 0, sd⟩ := by
  unfold newT beginT
  have : (1 : Int) - 1 / 2 = 1 := rfl
  rw [this, below_1]
  simp
theorem new_valid {sd frame : Int} (h : seedB sd = true) (k : frameB frame = true) : validT (newT sd frame) = true := by
  rw [newT_eq]
  have hf := frame_iff.1 k
  show (decide ((1 : Int) = 1 ∨ (1 : Int) = 2 ∨ (1 : Int) = 4 ∨ (1 : Int) = 8) && frameB frame && seedB sd && decide (frame + 1 / 2 ≤ frame) && decide (frame ≤ frame + 1 - 1) && decide ((0 : Int) ≤ 0) && decide ((0 : Int) ≤ 100)) = true
  rw [h, k, decide_eq_true (by omega), decide_eq_true (by omega), decide_eq_true (by omega), decide_eq_true (by omega), decide_eq_true (by omega)]; rfl
/-- Where a program is announced, its loading begins. -/
theorem hear_new {b : List UInt8} {ver start pages frame sd : Int} (hn : noticeI ver b.length start = true) (h0 : 0 ≤ pages) (h1 : pages ≤ countI b.length) (hs : seedB sd = true) (hf : frameB frame = true) :
    hearG (copyS (nilSp 0 0 0 0 ⟨0, 0, 0, 0, sd⟩)) ver b.length (rootI (splitI b)) start pages frame = nilSp ver b.length (rootI (splitI b)) start (newT sd frame) ∧ LdB b ver start (newT sd frame) 0 (nilSp ver b.length (rootI (splitI b)) start (newT sd frame)) := by
  have hv : validS (nilSp 0 0 0 0 ⟨0, 0, 0, 0, sd⟩) = true := by
    unfold validS emptyS
    have : seedB (nilSp 0 0 0 0 ⟨0, 0, 0, 0, sd⟩).t.sd = true := hs
    rw [this]; rfl
  have hver : 1 ≤ ver := by
    simp only [noticeI, Bool.and_eq_true, decide_eq_true_eq] at hn; omega
  have hff := frame_iff.1 hf
  have hz : zeroN ver b.length (rootI (splitI b)) start = false := by unfold zeroN; exact decide_eq_false (by omega)
  refine ⟨?_, ⟨⟨rfl, rfl, rfl, rfl, rfl, rfl, rfl⟩, rfl, rfl⟩⟩
  rw [nil_copy]
  unfold hearG badH
  rw [hv, hz, hn, decide_eq_false (by omega), decide_eq_false (by omega), decide_eq_false (by omega), decide_eq_false (by omega), if_neg (by simp)]
  rw [if_pos (show (nilSp 0 0 0 0 ⟨0, 0, 0, 0, sd⟩).ver < ver by show (0 : Int) < ver; omega)]
  unfold newT'
  rw [if_pos ⟨hs, hf⟩]; rfl
theorem allB_eq {p q : List By} (h : inner p = inner q) : allB p = allB q := by
  have e : ∀ l : List By, allB l = (inner l).flatten := fun l => by simp [allB, inner, List.flatMap]
  rw [e, e, h]
theorem joinOK_eq {p q : List By} (h : inner p = inner q) (n : Int) : joinOK p n = joinOK q n := by
  unfold joinOK
  rw [paged_inner h, inner_len h]
theorem f_Whole_S {s : Sp} {b : List UInt8} {ver start : Int} {T : Tm} {st : St} {K : SV → St → Prop} (W : SpW s) (hn : noticeI ver b.length start = true) (h : Ld b ver start T (splitI b).length s) :
    WpF XX .ro n_image_Whole [.agg s.c] st K ↔ K (.tup [.tree (b.map b8) false true, .bool true]) st := by
  have e := f_image_Whole (st := st) (K := K) (ver := s.ver) (size := s.size) (dg := s.dg) (start := s.start) (pages := s.pages.xs) (n1 := s.pages.nl) (g1 := s.pages.tg) (proofs := s.proofs.xs) (n2 := s.proofs.nl) (g2 := s.proofs.tg) (rows := s.rows.xs) (n3 := s.rows.nl) (g3 := s.rows.tg) (proof := s.proof.xs) (n4 := s.proof.nl) (g4 := s.proof.tg) (iv := s.t.iv) (bg := s.t.bg) (fi := s.t.fi) (ct := s.t.ct) (sd := s.t.sd) W.ok
  refine e.trans ?_
  have hs := h.sound hn (Nat.le_refl _)
  have hp := h.pg
  rw [List.take_length] at hp
  obtain ⟨j1, j2, j3⟩ := split_join (notice_sized hn)
  rw [h.n2, allB_eq hp, joinOK_eq hp]
  have hs' : soundI s.ver b.length s.dg s.start s.pages.xs s.proofs.xs = true := by rw [← h.n2]; exact hs
  rw [if_pos ⟨hs', j1, j2⟩, j3]
theorem proof_two {a : List By} (h : a.length = 2) : (proofI a 1).length = 1 := by
  match a, h with
  | [p, q], _ => rfl
section
variable {st : St} {K : SV → St → Prop}
end
end Go.Proofs.YtfmbdcmjgnikiaaGreatDoor.Sm
namespace Go.Proofs.YtfmbdcmjgnikiaaGreatDoor.Sm
open Go Go.RowKit

theorem recv_ref {x : Sp} {b : Bl} (h : refusedI x b ≠ 0) : recvG x b = (x, refusedI x b) := by unfold recvG; rw [if_pos h]
section
variable {b : List UInt8} {ver start : Int} {T : Tm} {k j : Nat} {page : By} {s : Sp}
theorem ref_whole (hn : noticeI ver b.length start = true) (hT : validT T = true) (B : LdB b ver start T (splitI b).length s) (hp : (splitI b)[j]? = some page) {x : Int} (hx : seedB x = true) {pf : Sl Int} : recvG (copyS s) (feedBl page.xs j x pf) = (copyS s, 10) := by
  have B' := B.copy
  have f := fb_ok hp hx (pf := pf)
  have hr : refusedI (copyS s) (feedBl page.xs j x pf) = 10 := by
    unfold refusedI
    rw [if_pos ⟨B'.valid hn hT (Nat.le_refl _), f.2.2.1⟩, B'.ld.empty hn, B'.ld.whole hn (Nat.le_refl _), if_neg (by simp), if_pos (by simp)]
  rw [recv_ref (by omega), hr]
theorem ref_later (hn : noticeI ver b.length start = true) (hT : validT T = true) (B : LdB b ver start T k s) (hk : k < j) (hp : (splitI b)[j]? = some page) {x : Int} (hx : seedB x = true) {pf : Sl Int} : recvG (copyS s) (feedBl page.xs j x pf) = (copyS s, 6) := by
  have B' := B.copy
  have hj := (List.getElem?_eq_some_iff.1 hp).1
  have f := fb_ok hp hx (pf := pf)
  have hr : refusedI (copyS s) (feedBl page.xs j x pf) = 6 := by
    unfold refusedI
    rw [if_pos ⟨B'.valid hn hT (by omega), f.2.2.1⟩, B'.ld.empty hn, B'.ld.whole hn (by omega), decide_eq_false (by omega), if_neg (by simp), if_neg (by simp), f.2.2.2.1, B'.ld.len (by omega), if_neg (by omega), if_pos (by omega)]
  rw [recv_ref (by omega), hr]
theorem zero_valid {sd : Int} (hs : seedB sd = true) : validS (nilSp 0 0 0 0 ⟨0, 0, 0, 0, sd⟩) = true ∧ emptyS (nilSp 0 0 0 0 ⟨0, 0, 0, 0, sd⟩) = true := by
  have h : emptyS (nilSp 0 0 0 0 ⟨0, 0, 0, 0, sd⟩) = true := by
    unfold emptyS
    have : seedB (nilSp 0 0 0 0 ⟨0, 0, 0, 0, sd⟩).t.sd = true := hs
    rw [this]; rfl
  exact ⟨by unfold validS; rw [h]; rfl, h⟩
theorem ref_none {sd : Int} (hs : seedB sd = true) (hp : (splitI b)[j]? = some page) {x : Int} (hx : seedB x = true) {pf : Sl Int} : recvG (copyS (nilSp 0 0 0 0 ⟨0, 0, 0, 0, sd⟩)) (feedBl page.xs j x pf) = (nilSp 0 0 0 0 ⟨0, 0, 0, 0, sd⟩, 4) := by
  have f := fb_ok hp hx (pf := pf)
  have hz := zero_valid hs
  rw [nil_copy]
  have hr : refusedI (nilSp 0 0 0 0 ⟨0, 0, 0, 0, sd⟩) (feedBl page.xs j x pf) = 4 := by
    unfold refusedI
    rw [if_pos ⟨hz.1, f.2.2.1⟩, if_pos hz.2]
  rw [recv_ref (by omega), hr]
end
theorem hd_n : noticeI 2 sampleB.length 100 = true := by rw [sample_len]; decide
theorem hd_two : (splitI sampleB).length = 2 := by rw [split_len (by rw [sample_len]; omega), sample_len]
theorem hd_T : newT 7 5 = ⟨1, 5, 5, 0, 7⟩ := newT_eq 7 5
/-- A near node of the check. -/
def hdNear (R : Int) : Nr := ⟨[.int .i64 0, .int .i64 0, .int .i64 0, .int .i64 0, .int .i64 0, .int .i64 0, .int .i64 0, .int .i64 0, .int .i64 0, .int .i64 0, .int .i64 0, .int .i64 0, .tree [] true true, .tree [] true true, .tree [] true true, .tree [] true true, .bool false, .tree [] true true, .tree [] true true, .tree [] true true, .int .i64 2, .int .i64 300, .int .u64 R, .int .i64 100, .int .i64 1, .int .i64 0, .int .i64 0, .int .i64 0, .tree [] true true, .tree [] true true, .bool false], 2, 300, R, 100, 1, rfl, rfl, rfl, rfl, rfl⟩
theorem hd_serve {c : Sp} (hB : LdB sampleB 2 100 (newT 7 5) 2 c) : ∃ z bk, serveG (copyS c) [hdNear (rootI (splitI sampleB))] 5 = (z, bk, true) ∧ bk.page = 1 ∧ bk.seed = 327 ∧ bk.proof.xs.length = 1 := by
  have hT := new_valid (sd := 7) (frame := 5) rfl rfl
  have B := hB.copy
  have h2 := hd_two
  generalize copyS c = x at B
  have hv := B.valid hd_n hT (by omega)
  have he := B.ld.empty hd_n
  have hln := B.ld.len (by omega)
  have htk : tickT x.t 5 = (x.t, true) := by rw [B.ld.tm, hd_T]; decide
  have hle : leastG x [hdNear (rootI (splitI sampleB))] = 1 := by
    have hb : nearB x (hdNear (rootI (splitI sampleB))) = true := by
      unfold nearB
      refine decide_eq_true ⟨?_, ?_, ?_, ?_⟩
      · rw [B.ld.n1]; rfl
      · rw [B.ld.n2, sample_len]; rfl
      · rw [B.ld.n3]; rfl
      · rw [B.ld.n4]; rfl
    unfold leastG
    rw [List.foldl_cons, if_pos hb, hln]; rfl
  obtain ⟨pg, hpg, _⟩ := get_some (l := x.pages.xs) (k := 1) (by omega)
  have hpl : x.proofs.xs.length = 2 := by
    have := inner_len B.ld.pf
    rw [this, ldQ, List.length_map, List.length_range]
  obtain ⟨pf, hpf, _⟩ := get_some (l := x.proofs.xs) (k := 1) (by omega)
  have hl : pg.xs.length = 256 := by
    have := (sound_parts (B.ld.sound hd_n (by omega))).2.2.2
    exact this pg (List.mem_of_getElem? hpg)
  have hpq : pf.xs = proofI (splitI sampleB) 1 := by
    have h1 : (inner x.proofs.xs)[1]? = some pf.xs := by simp [inner, hpf]
    rw [B.ld.pf] at h1
    simp [inner, ldQ, prq] at h1
    exact h1.symm
  have e1 : pageAt (timeS x x.t) 1 = pg := by show (x.pages.xs[1]?).getD nilS = pg; rw [hpg]; rfl
  have e2 : proofAt (timeS x x.t) 1 = pf := by show (x.proofs.xs[1]?).getD nilS = pf; rw [hpf]; rfl
  have e3 : encR pg.xs 1 327 = (⟨1, 327, ⟨(encB pg.xs (setN 327) 16).l, false, false⟩, nilS⟩, 0) := by unfold encR; rw [if_pos ⟨hl, rfl, rfl⟩]
  have e4 : seedV 5 x.t.sd = 327 := by rw [B.ld.tm]; rfl
  refine ⟨timeS x x.t, blockS (timeS x x.t) 5 1, ?_, ?_, ?_, ?_⟩
  · unfold serveG
    rw [if_pos ⟨hv, he, rfl⟩, htk, hle, if_pos ⟨rfl, by omega, by rw [hln]; decide⟩]
  · unfold blockS; rw [e1]; show (encR pg.xs 1 (seedV 5 x.t.sd)).1.page = 1; rw [e4, e3]
  · unfold blockS; rw [e1]; show (encR pg.xs 1 (seedV 5 x.t.sd)).1.seed = 327; rw [e4, e3]
  · unfold blockS; rw [e2]; show pf.xs.length = 1; rw [hpq]; exact proof_two hd_two
section
variable {st : St} {K : SV → St → Prop}
set_option maxHeartbeats 4000000 in
set_option maxRecDepth 4000 in
theorem f_law39_head : WpF XX .ro n_law39_head [] st K ↔ K (.bool true) st := by
  have hT := new_valid (sd := 7) (frame := 5) rfl rfl
  have h2 := hd_two
  have hS := notice_sized hd_n
  have hn1 : noticeI 2 300 100 = true := by decide
  have eS : ∀ st K, WpF XX .ro n_image_Split [.tree (sampleB.map b8) false false] st K ↔ K (.tup [.tree ((splitI sampleB).map By.v) false false, .int .i64 0]) st := fun st K => by rw [f_image_Split, if_pos hS]
  have eA : ∀ st K, WpF XX .ro n_image_Announce [.int .i64 2, .tree (sampleB.map b8) false false, .int .i64 100] st K ↔ K (.tup [.agg [.int .i64 2, .int .i64 300, .int .u64 (rootI (splitI sampleB)), .int .i64 100], .int .i64 0]) st := fun st K => by rw [f_image_Announce, if_pos hd_n, sample_len]; rfl
  obtain ⟨hh1, hB0⟩ := hear_new (pages := 1) (frame := 5) (sd := 7) hd_n (by omega) (by rw [sample_len]; decide) rfl rfl
  rw [sample_len] at hh1
  have W1 : SpW (nilSp 2 (sampleB.length : Int) (rootI (splitI sampleB)) 100 (newT 7 5)) := nil_W _ _ _ _ _
  have eH : ∀ st K, WpF XX .ro n_spread_Hear [.agg [.int .i64 0, .int .i64 0, .int .u64 0, .int .i64 0, .tree [] true true, .tree [] true true, .tree [] true true, .tree [] true true, .int .i64 0, .int .i64 0, .int .i64 0, .int .i64 0, .int .i64 7], .agg [.int .i64 2, .int .i64 300, .int .u64 (rootI (splitI sampleB)), .int .i64 100], .int .i64 1, .int .i64 5] st K ↔ K (.agg (nilSp 2 (sampleB.length : Int) (rootI (splitI sampleB)) 100 (newT 7 5)).c) st := fun st K => by
    have := f_spread_Hear (st := st) (K := K) (s := nilSp 0 0 0 0 ⟨0, 0, 0, 0, 7⟩) (nil_W _ _ _ _ _) (a := 2) (b := 300) (c := rootI (splitI sampleB)) (d := 100) (pages := 1) (frame := 5)
    have e300 : ((300 : Nat) : Int) = 300 := rfl
    rw [e300] at hh1
    rw [hh1] at this
    rw [sample_len]
    exact this
  have q1 : (nilSp 2 (sampleB.length : Int) (rootI (splitI sampleB)) 100 (newT 7 5)).ver = 2 ∧ (nilSp 2 (sampleB.length : Int) (rootI (splitI sampleB)) 100 (newT 7 5)).size = 300 ∧ (nilSp 2 (sampleB.length : Int) (rootI (splitI sampleB)) 100 (newT 7 5)).dg = rootI (splitI sampleB) ∧ (nilSp 2 (sampleB.length : Int) (rootI (splitI sampleB)) 100 (newT 7 5)).start = 100 := ⟨rfl, by show (sampleB.length : Int) = 300; rw [sample_len]; rfl, rfl, rfl⟩
  have q2 : (nilSp 2 (sampleB.length : Int) (rootI (splitI sampleB)) 100 (newT 7 5)).t.iv = 1 := by show (newT 7 5).iv = 1; rw [hd_T]
  have q3 : (nilSp 2 (sampleB.length : Int) (rootI (splitI sampleB)) 100 (newT 7 5)).t.sd = 7 := rfl
  generalize nilSp 2 (sampleB.length : Int) (rootI (splitI sampleB)) 100 (newT 7 5) = s1 at hB0 W1 eH q1 q2 q3
  obtain ⟨p0, hp0, _⟩ := get_some (l := splitI sampleB) (k := 0) (by omega)
  obtain ⟨p1, hp1, _⟩ := get_some (l := splitI sampleB) (k := 1) (by omega)
  have hx1 : ((splitI sampleB).map By.v)[1]? = some (.tree (p1.xs.map b8) p1.nl p1.tg) := by rw [List.getElem?_map, hp1]; rfl
  have hok : ∀ p ∈ splitI sampleB, p.ok := fun p hp h => by rw [((split_pages sampleB).2.1 p hp).2.1] at h; cases h
  have g0 : seedB 0 = true := rfl
  have gb := fb_ok hp1 g0 (pf := nilS)
  have BW : BlW (feedBl p1.xs (1 : Nat) 0 nilS) := feedBl_W (fun _ => rfl) (by simp [nilS])
  have ebl : (encR p1.xs 1 0).1 = feedBl p1.xs (1 : Nat) 0 nilS := by
    have e1 : encR p1.xs 1 0 = (⟨1, 0, ⟨(encB p1.xs (setN 0) 16).l, false, false⟩, nilS⟩, 0) := by unfold encR; rw [if_pos ⟨gb.1, rfl, rfl⟩]
    show (encR p1.xs 1 0).1 = { (encR p1.xs 1 0).1 with proof := nilS }
    rw [e1]
  have eE : ∀ st K, WpF XX .ro n_fountain_Encode [.tree (p1.xs.map b8) p1.nl p1.tg, .int .i64 1, .int .i64 0] st K ↔ K (.tup [.agg (feedBl p1.xs (1 : Nat) 0 nilS).c, .int .i64 0]) st := fun st K => by
    have e : (encR p1.xs 1 0).2 = 0 := gb.2.1
    have := f_fountain_Encode (st := st) (K := K) (page := p1) (number := 1) (seed := 0) (hok p1 (List.mem_of_getElem? hp1))
    rw [ebl, e] at this
    exact this
  have eR1 : ∀ st K, WpF XX .ro n_spread_Receive [.agg s1.c, .agg (feedBl p1.xs (1 : Nat) 0 nilS).c] st K ↔ K (.tup [.agg (copyS s1).c, .int .i64 6]) st := fun st K => by
    rw [f_spread_Receive W1 BW, ref_later hd_n hT hB0 (by omega) hp1 g0]
  have eR2 : ∀ st K, WpF XX .ro n_spread_Receive [.agg [.int .i64 0, .int .i64 0, .int .u64 0, .int .i64 0, .tree [] true true, .tree [] true true, .tree [] true true, .tree [] true true, .int .i64 0, .int .i64 0, .int .i64 0, .int .i64 0, .int .i64 0], .agg (feedBl p1.xs (1 : Nat) 0 nilS).c] st K ↔ K (.tup [.agg (nilSp 0 0 0 0 ⟨0, 0, 0, 0, 0⟩).c, .int .i64 4]) st := fun st K => by
    have := f_spread_Receive (st := st) (K := K) (s := nilSp 0 0 0 0 ⟨0, 0, 0, 0, 0⟩) (nil_W _ _ _ _ _) BW
    rw [ref_none rfl hp1 g0] at this
    exact this
  obtain ⟨a, ha, hBa⟩ := feed_page hd_n hT hp0 plain_seed plain_mem (hB0.toA hp0)
  have hga : feedG s1 (splitI sampleB) (0 : Nat) plainL = (a, true) := by rw [feedG_eq hS hp0, ha]
  have Wa : SpW a := by have := feedG_W (s := s1) (pages := splitI sampleB) (number := (0 : Nat)) (seeds := plainL) W1; rwa [hga] at this
  have eF0 : ∀ st K, WpF XX .ro n_law39_feed [.agg s1.c, .tree ((splitI sampleB).map By.v) false false, .int .i64 0, .tree (plainL.map iV) false false] st K ↔ K (.tup [.agg a.c, .bool true]) st := fun st K => by
    have := f_law39_feed (st := st) (K := K) (n1 := false) (g1 := false) (number := (0 : Nat)) (seeds := plainL) (nl := false) (tg := false) W1 hok (by simp [plainL])
    rw [hga] at this
    exact this
  obtain ⟨c, hc, hBc⟩ := feed_page hd_n hT hp1 plain_seed plain_mem (hBa.toA hp1)
  have hgc : feedG a (splitI sampleB) (1 : Nat) plainL = (c, true) := by rw [feedG_eq hS hp1, hc]
  have Wc : SpW c := by have := feedG_W (s := a) (pages := splitI sampleB) (number := (1 : Nat)) (seeds := plainL) Wa; rwa [hgc] at this
  have eF1 : ∀ st K, WpF XX .ro n_law39_feed [.agg a.c, .tree ((splitI sampleB).map By.v) false false, .int .i64 1, .tree (plainL.map iV) false false] st K ↔ K (.tup [.agg c.c, .bool true]) st := fun st K => by
    have := f_law39_feed (st := st) (K := K) (n1 := false) (g1 := false) (number := (1 : Nat)) (seeds := plainL) (nl := false) (tg := false) Wa hok (by simp [plainL])
    rw [hgc] at this
    exact this
  have eW := fun st K => f_Whole_S (st := st) (K := K) Wc hd_n (by rw [h2]; exact hBc.ld)
  have eR3 : ∀ st K, WpF XX .ro n_spread_Receive [.agg c.c, .agg (feedBl p1.xs (1 : Nat) 0 nilS).c] st K ↔ K (.tup [.agg (copyS c).c, .int .i64 10]) st := fun st K => by
    rw [f_spread_Receive Wc BW, ref_whole hd_n hT (by rw [h2]; exact hBc) hp1 g0]
  obtain ⟨z, bk, hz, z1, z2, z3⟩ := hd_serve hBc
  have eV : ∀ st K, WpF XX .ro n_spread_Serve [.agg c.c, .tree [(hdNear (rootI (splitI sampleB))).v] false true, .int .i64 5] st K ↔ K (.tup [.agg z.c, .agg bk.c, .bool true]) st := fun st K => by
    have := f_spread_Serve (st := st) (K := K) (near := [hdNear (rootI (splitI sampleB))]) (nl := false) (tg := true) (frame := 5) Wc (by simp)
    rw [hz] at this
    exact this
  have ea : a.pages.xs.length = 1 := hBa.ld.len (by omega)
  have ea' : (a.pages.xs.length : Int) = 1 := by omega
  have z3' : (bk.proof.xs.length : Int) = 1 := by omega
  have eB := fun st K => f_ref36_Bytes (st := st) (K := K) (a := sampleB) (b := sampleB) (n1 := false) (g1 := true) (n2 := false) (g2 := false) (by rw [sample_len]; omega)
  generalize feedBl p1.xs (1 : Nat) 0 nilS = lt at eE eR1 eR2 eR3
  generalize copyS s1 = r1 at eR1
  generalize copyS c = r3 at eR3
  generalize nilSp 0 0 0 0 ⟨0, 0, 0, 0, 0⟩ = r2 at eR2
  simp only [Sp.c, Bl.c] at eH eE eR1 eR2 eF0 eF1 eW eR3 eV
  simp only [Nr.v, hdNear] at eV
  have h2' : (1 : Int) < ((splitI sampleB).length : Int) := by omega
  rw [F_ro (mf := m_law39_head) rfl rfl]
  simp only [m_law39_head, bC, bW, bD, bZ, wpY', bV, bVD, seval, f_law39_Program, eS, eA, eH, eq_true q1, eq_true q2, eq_true q3, h2, hx1, eE, eR1, eR2, f_law39_plain, eF0, eF1, eW, eR3, eV, eq_true ea', eB, eq_true z1, eq_true z2, eq_true z3']
end
end Go.Proofs.YtfmbdcmjgnikiaaGreatDoor.Sm
