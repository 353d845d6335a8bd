/- Hearing never lowers the version. Conditions: none. Kinds of data, as the laws' own terms have them. Conditions: none. SpreadVersions for every argument. Conditions: none. -/
import Derived.Test.YtfmbdcmjgnikiaaGreatDoorM14
import Derived.Test.YtfmbdcmjgnikiaaGreatDoorM4
set_option linter.unusedSimpArgs false
set_option linter.unusedVariables false
namespace Go.Proofs.YtfmbdcmjgnikiaaGreatDoor.Sm
open Go Go.RowKit

/-- A state as it is handed in. -/
structure SpI (s : Sp) : Prop where
  hp : ∀ p ∈ s.pages.xs, p.ok
  hq : ∀ p ∈ s.proofs.xs, p.ok
  hr : ∀ r ∈ s.rows.xs, r.data.ok
  np : s.pages.ok
  nq : s.proofs.ok
  nr : s.rows.ok
  nf : s.proof.ok
theorem SpI.W {s : Sp} {n : Nat} (h : SpI s) (hf : fewS s n = true) : SpW s := by
  unfold fewS fewI at hf
  simp only [Bool.and_eq_true, decide_eq_true_eq, List.all_eq_true] at hf
  obtain ⟨⟨⟨⟨⟨⟨⟨f1, f2⟩, f3⟩, f4⟩, f5⟩, f6⟩, f7⟩, f8⟩ := hf
  exact ⟨by omega, by omega, by omega, by omega, fun p hp => ⟨h.hp p hp, by have := f5 p hp; omega⟩, fun p hp => ⟨h.hq p hp, by have := f6 p hp; omega⟩, fun p hp => ⟨h.hr p hp, by have := f7 p hp; omega⟩, h.np, h.nq, h.nr, h.nf⟩
/-- Two states hold the same. -/
def eqS (a b : Sp) : Prop := (a.ver = b.ver ∧ a.size = b.size ∧ a.dg = b.dg ∧ a.start = b.start) ∧ (a.t.iv = b.t.iv ∧ a.t.bg = b.t.bg ∧ a.t.fi = b.t.fi ∧ a.t.ct = b.t.ct ∧ a.t.sd = b.t.sd) ∧ inner a.pages.xs = inner b.pages.xs ∧ inner a.proofs.xs = inner b.proofs.xs ∧ a.proof.xs = b.proof.xs ∧ rwE a.rows.xs = rwE b.rows.xs
instance (a b : Sp) : Decidable (eqS a b) := by unfold eqS; infer_instance
theorem SpW.bnd {s : Sp} (W : SpW s) : SpBnd s.pages.xs s.proofs.xs s.rows.xs s.proof.xs :=
  ⟨by have := W.lp; omega, by have := W.lq; omega, by have := W.lr; omega, by have := W.lf; omega, fun p hp => by have := (W.hp p hp).2; omega, fun p hp => by have := (W.hq p hp).2; omega, fun p hp => by have := (W.hr p hp).2; omega⟩
theorem f_Same_S {a b : Sp} (W : SpW a) {st : St} {K : SV → St → Prop} : WpF XX .ro n_ref36_Same [.agg a.c, .agg b.c] st K ↔ K (.bool (decide (eqS a b))) st :=
  f_ref36_Same W.bnd
theorem rwE_clone (l : List Rw) : rwE (l.map cloneR) = rwE l := by simp [rwE, cloneR, cloneB, Function.comp_def]
theorem eqS_copy (s : Sp) : eqS (copyS s) s := ⟨⟨rfl, rfl, rfl, rfl⟩, ⟨rfl, rfl, rfl, rfl, rfl⟩, inner_clone _, inner_clone _, rfl, rwE_clone _⟩
theorem hear_cases (x : Sp) (a b c d pages frame : Int) : hearG x a b c d pages frame = x ∨ (x.ver < a ∧ hearG x a b c d pages frame = nilSp a b c d (newT' x.t.sd frame)) ∨ (¬ x.ver < a ∧ ∃ T, hearG x a b c d pages frame = timeS x T) := by
  unfold hearG
  split
  · exact .inl rfl
  · split
    · rename_i h; exact .inr (.inl ⟨h, rfl⟩)
    · rename_i h
      split
      · exact .inr (.inr ⟨h, _, rfl⟩)
      · split
        · exact .inr (.inr ⟨h, _, rfl⟩)
        · exact .inl rfl
theorem time_W {s : Sp} (W : SpW s) (T : Tm) : SpW (timeS s T) := ⟨W.lp, W.lq, W.lr, W.lf, W.hp, W.hq, W.hr, W.np, W.nq, W.nr, W.nf⟩
theorem hear_W {x : Sp} (W : SpW x) (a b c d pages frame : Int) : SpW (hearG x a b c d pages frame) := by
  rcases hear_cases x a b c d pages frame with h | ⟨_, h⟩ | ⟨_, T, h⟩
  · rw [h]; exact W
  · rw [h]; exact nil_W _ _ _ _ _
  · rw [h]; exact time_W W T
section
variable {st : St} {K : SV → St → Prop}
theorem law_SpreadVersions {s : Sp} (I : SpI s) {a b c d pages frame : Int} :
    WpF XX .ro n_law39_SpreadVersions [.agg s.c, .agg [.int .i64 a, .int .i64 b, .int .u64 c, .int .i64 d], .int .i64 pages, .int .i64 frame] st K ↔ K (.bool true) st := by
  rw [F_ro (mf := m_law39_SpreadVersions) rfl rfl]
  have ef := fun st K => f_law39_few (st := st) (K := K) (s := s) (near := []) (nl := true) (tg := true)
  simp only [List.length_nil] at ef
  cases hf : fewS s 0 with
  | false =>
    simp only [Sp.c, hf] at ef
    simp only [m_law39_SpreadVersions, Sp.c, bC, bW, bD, bZ, wpY', bV, bVD, seval, f_law39_head, ef]
  | true =>
    have W := I.W hf
    have eh := fun st K => f_spread_Hear (st := st) (K := K) W (a := a) (b := b) (c := c) (d := d) (pages := pages) (frame := frame)
    have hW := hear_W W.copy a b c d pages frame
    have hc := hear_cases (copyS s) a b c d pages frame
    have hq := eqS_copy s
    have hv : (copyS s).ver = s.ver := rfl
    have hn : (copyS s).size = s.size ∧ (copyS s).dg = s.dg ∧ (copyS s).start = s.start := ⟨rfl, rfl, rfl⟩
    generalize copyS s = x at eh hW hc hq hv hn
    generalize hearG x a b c d pages frame = h at eh hW hc
    have e1 : ¬ h.ver < s.ver := by
      rcases hc with rfl | ⟨h1, rfl⟩ | ⟨h1, T, rfl⟩
      · omega
      · show ¬ a < s.ver; omega
      · show ¬ x.ver < s.ver; omega
    have es := fun st K => f_Same_S (st := st) (K := K) (a := timeS h s.t) (b := s) (time_W hW s.t)
    simp only [Sp.c, hf] at ef eh
    simp only [Sp.c, timeS] at es
    by_cases h2 : s.ver < a
    · by_cases h3 : h.ver = a ∧ h.size = b ∧ h.dg = c ∧ h.start = d
      · simp only [m_law39_SpreadVersions, Sp.c, bC, bW, bD, bZ, wpY', bV, bVD, seval, f_law39_head, ef, eh, e1, h2, eq_true h3]
      · have h4 : h.ver = s.ver ∧ h.size = s.size ∧ h.dg = s.dg ∧ h.start = s.start := by
          rcases hc with rfl | ⟨h1, rfl⟩ | ⟨h1, T, rfl⟩
          · exact ⟨hv, hn⟩
          · exact absurd ⟨rfl, rfl, rfl, rfl⟩ h3
          · exact ⟨hv, hn⟩
        simp only [m_law39_SpreadVersions, Sp.c, bC, bW, bD, bZ, wpY', bV, bVD, seval, f_law39_head, ef, eh, e1, h2, h3, eq_true h4]
    · have h5 : eqS { ver := h.ver, size := h.size, dg := h.dg, start := h.start, pages := h.pages, proofs := h.proofs, rows := h.rows, proof := h.proof, t := s.t } s := by
        rcases hc with rfl | ⟨h1, rfl⟩ | ⟨h1, T, rfl⟩
        · exact ⟨hq.1, ⟨rfl, rfl, rfl, rfl, rfl⟩, hq.2.2⟩
        · omega
        · exact ⟨hq.1, ⟨rfl, rfl, rfl, rfl, rfl⟩, hq.2.2⟩
      simp only [m_law39_SpreadVersions, Sp.c, bC, bW, bD, bZ, wpY', bV, bVD, seval, f_law39_head, ef, eh, e1, h2, es, eq_true h5]
end
end Go.Proofs.YtfmbdcmjgnikiaaGreatDoor.Sm
namespace Go.Proofs.YtfmbdcmjgnikiaaGreatDoor.Sm
open Go Go.RowKit

def tI : TD := .int .i64
def tB : TD := .sl (.int .u8)
def tBB : TD := .sl tB
def tU : TD := .sl (.int .u64)
def tUU : TD := .sl tU
def tR : TD := .sl (.st [.int .i64, tB])
def tS : TD := .st [.st [.int .i64, .int .i64, .int .u64, .int .i64], tBB, tUU, tR, tU, .st [.int .i64, .int .i64, .int .i64, .int .i64, .int .i64]]

theorem lift {α : Type} {f : α → SV} {p : α → Prop} : ∀ {xs : List SV}, (∀ x ∈ xs, ∃ a, x = f a ∧ p a) → ∃ l : List α, xs = l.map f ∧ ∀ a ∈ l, p a
  | [], _ => ⟨[], rfl, by simp⟩
  | x :: xs, h => by
    obtain ⟨a, rfl, ha⟩ := h x List.mem_cons_self
    obtain ⟨l, rfl, hl⟩ := lift fun y hy => h y (List.mem_cons_of_mem _ hy)
    exact ⟨a :: l, rfl, fun b hb => by rcases List.mem_cons.1 hb with rfl | hb; exact ha; exact hl b hb⟩
theorem wf_u8 {n : Int} (h : (Lit.int .u8 n).wf = true) : ∃ c : UInt8, SV.int .u8 n = b8 c := by
  simp only [Lit.wf, IntKind.min, IntKind.max, IntKind.signed, IntKind.bits, Bool.and_eq_true, decide_eq_true_eq] at h
  have h1 : 0 ≤ n ∧ n < 256 := by simp at h; omega
  refine ⟨UInt8.ofNat n.toNat, ?_⟩
  have : (UInt8.ofNat n.toNat).toNat = n.toNat := by
    rw [UInt8.toNat_ofNat']
    omega
  rw [b8, this]
  congr 1
  omega
theorem wf_u64 {n : Int} (h : (Lit.int .u64 n).wf = true) : InR n := by
  simp only [Lit.wf, IntKind.min, IntKind.max, IntKind.signed, IntKind.bits, Bool.and_eq_true, decide_eq_true_eq] at h
  simp at h
  exact ⟨by omega, by omega⟩
theorem wf_i64 {n : Int} (h : (Lit.int .i64 n).wf = true) : -9223372036854775808 ≤ n ∧ n < 9223372036854775808 := by
  simp only [Lit.wf, IntKind.min, IntKind.max, IntKind.signed, IntKind.bits, Bool.and_eq_true, decide_eq_true_eq] at h
  simp at h
  exact ⟨by omega, by omega⟩
theorem enc_tB {ys : List SV} (h : tB.enc ys) : ∃ b : By, ys = [b.v] ∧ b.ok ∧ b.xs.length ≤ 140737488351232 ∧ b.tg = false := by
  obtain ⟨xs, nl, rfl, hl, hn, hx⟩ := h
  obtain ⟨l, rfl, _⟩ := lift (f := b8) (p := fun _ => True) fun x hx' => by
    obtain ⟨zs, ⟨n, rfl, hw⟩, rfl⟩ := hx x hx'
    obtain ⟨c, hc⟩ := wf_u8 hw
    exact ⟨c, hc, trivial⟩
  exact ⟨⟨l, nl, false⟩, rfl, fun h => by simpa using hn h, by simpa [reachBytes] using hl, rfl⟩
theorem enc_tU {ys : List SV} (h : tU.enc ys) : ∃ b : Sl Int, ys = [b.v uV] ∧ b.ok ∧ b.xs.length ≤ 140737488351232 ∧ (∀ x ∈ b.xs, InR x) ∧ b.tg = false := by
  obtain ⟨xs, nl, rfl, hl, hn, hx⟩ := h
  obtain ⟨l, rfl, hr⟩ := lift (f := uV) (p := InR) fun x hx' => by
    obtain ⟨zs, ⟨n, rfl, hw⟩, rfl⟩ := hx x hx'
    exact ⟨n, rfl, wf_u64 hw⟩
  exact ⟨⟨l, nl, false⟩, rfl, fun h => by simpa using hn h, by simpa [reachBytes] using hl, hr, rfl⟩
theorem enc_tBB {ys : List SV} (h : tBB.enc ys) : ∃ (l : List By) (nl : Bool), ys = [.tree (l.map By.v) nl false] ∧ (nl = true → l = []) ∧ l.length ≤ 140737488351232 ∧ ∀ b ∈ l, b.ok ∧ b.xs.length ≤ 140737488351232 := by
  obtain ⟨xs, nl, rfl, hl, hn, hx⟩ := h
  obtain ⟨l, rfl, hr⟩ := lift (f := By.v) (p := fun b => b.ok ∧ b.xs.length ≤ 140737488351232) fun x hx' => by
    obtain ⟨zs, hz, rfl⟩ := hx x hx'
    obtain ⟨b, rfl, h1, h2, _⟩ := enc_tB hz
    exact ⟨b, rfl, h1, h2⟩
  exact ⟨l, nl, rfl, fun h => by simpa using hn h, by simpa [reachBytes] using hl, hr⟩
theorem enc_tUU {ys : List SV} (h : tUU.enc ys) : ∃ (l : List (Sl Int)) (nl : Bool), ys = [.tree (l.map (Sl.v uV)) nl false] ∧ (nl = true → l = []) ∧ l.length ≤ 140737488351232 ∧ ∀ b ∈ l, b.ok ∧ b.xs.length ≤ 140737488351232 ∧ ∀ x ∈ b.xs, InR x := by
  obtain ⟨xs, nl, rfl, hl, hn, hx⟩ := h
  obtain ⟨l, rfl, hr⟩ := lift (f := Sl.v uV) (p := fun b => b.ok ∧ b.xs.length ≤ 140737488351232 ∧ ∀ x ∈ b.xs, InR x) fun x hx' => by
    obtain ⟨zs, hz, rfl⟩ := hx x hx'
    obtain ⟨b, rfl, h1, h2, h3, _⟩ := enc_tU hz
    exact ⟨b, rfl, h1, h2, h3⟩
  exact ⟨l, nl, rfl, fun h => by simpa using hn h, by simpa [reachBytes] using hl, hr⟩
theorem enc_tR {ys : List SV} (h : tR.enc ys) : ∃ (l : List Rw) (nl : Bool), ys = [.tree (l.map Rw.v) nl false] ∧ (nl = true → l = []) ∧ l.length ≤ 140737488351232 ∧ ∀ r ∈ l, r.data.ok ∧ r.data.xs.length ≤ 140737488351232 ∧ -9223372036854775808 ≤ r.mask ∧ r.mask < 9223372036854775808 := by
  obtain ⟨xs, nl, rfl, hl, hn, hx⟩ := h
  obtain ⟨l, rfl, hr⟩ := lift (f := Rw.v) (p := fun r => r.data.ok ∧ r.data.xs.length ≤ 140737488351232 ∧ -9223372036854775808 ≤ r.mask ∧ r.mask < 9223372036854775808) fun x hx' => by
    obtain ⟨zs, hz, rfl⟩ := hx x hx'
    obtain ⟨a, b, rfl, ⟨n, rfl, hn⟩, c, d, rfl, hc, rfl⟩ := hz
    obtain ⟨b, rfl, h1, h2, _⟩ := enc_tB hc
    exact ⟨⟨n, b⟩, rfl, h1, h2, wf_i64 hn⟩
  exact ⟨l, nl, rfl, fun h => by simpa using hn h, by simpa [reachBytes] using hl, hr⟩

/-! ### arguments -/
def I64 (n : Int) : Prop := -9223372036854775808 ≤ n ∧ n < 9223372036854775808
theorem arg_tI {s : SV} (h : tI.arg s) : ∃ n, s = .int .i64 n ∧ I64 n := by
  obtain ⟨n, h, hw⟩ := h
  cases h
  exact ⟨n, rfl, wf_i64 hw⟩
theorem arg_tS {s : SV} (h : tS.arg s) : ∃ x : Sp, s = .agg x.c ∧ SpI x := by
  obtain ⟨ys, rfl, h⟩ := h
  obtain ⟨_, _, rfl, hn, _, _, rfl, hp, _, _, rfl, hq, _, _, rfl, hr, _, _, rfl, hf, _, _, rfl, ht, rfl⟩ := h
  obtain ⟨_, _, rfl, ⟨a, rfl, ha⟩, _, _, rfl, ⟨b, rfl, hb⟩, _, _, rfl, ⟨c, rfl, hc⟩, _, _, rfl, ⟨d, rfl, hd⟩, rfl⟩ := hn
  obtain ⟨_, _, rfl, ⟨e, rfl, he⟩, _, _, rfl, ⟨f, rfl, hf'⟩, _, _, rfl, ⟨g, rfl, hg⟩, _, _, rfl, ⟨i, rfl, hi⟩, _, _, rfl, ⟨j, rfl, hj⟩, rfl⟩ := ht
  obtain ⟨pages, n1, rfl, p1, p2, p3⟩ := enc_tBB hp
  obtain ⟨proofs, n2, rfl, q1, q2, q3⟩ := enc_tUU hq
  obtain ⟨rows, n3, rfl, r1, r2, r3⟩ := enc_tR hr
  obtain ⟨xs, n4, rfl, f1, f2, f3⟩ := hf
  obtain ⟨proof, rfl, f4⟩ := lift (f := uV) (p := InR) fun x hx' => by
    obtain ⟨zs, ⟨n, rfl, hw⟩, rfl⟩ := f3 x hx'
    exact ⟨n, rfl, wf_u64 hw⟩
  exact ⟨⟨a, b, c, d, ⟨pages, n1, false⟩, ⟨proofs, n2, false⟩, ⟨rows, n3, false⟩, ⟨proof, n4, false⟩, ⟨e, f, g, i, j⟩⟩, rfl,
    ⟨fun p hp => (p3 p hp).1, fun p hp => (q3 p hp).1, fun p hp => (r3 p hp).1, p1, q1, r1, fun h => by simpa using f2 h⟩⟩
def tN : TD := .st [.int .i64, .int .i64, .int .u64, .int .i64]
theorem arg_tN {s : SV} (h : tN.arg s) : ∃ a b c d : Int, s = .agg [.int .i64 a, .int .i64 b, .int .u64 c, .int .i64 d] ∧ InR c := by
  obtain ⟨ys, rfl, h⟩ := h
  obtain ⟨_, _, rfl, ⟨a, rfl, ha⟩, _, _, rfl, ⟨b, rfl, hb⟩, _, _, rfl, ⟨c, rfl, hc⟩, _, _, rfl, ⟨d, rfl, hd⟩, rfl⟩ := h
  exact ⟨a, b, c, d, rfl, wf_u64 hc⟩
end Go.Proofs.YtfmbdcmjgnikiaaGreatDoor.Sm
namespace Go.Proofs.YtfmbdcmjgnikiaaGreatDoor.Sm
open Go Go.RowKit

theorem g_SpreadVersions {st : St} {ss : List SV} (h : argL [tS, tN, tI, tI] ss) : WpF XX .ro n_law39_SpreadVersions ss st fun r _ => r = .bool true := by
  obtain ⟨_, _, rfl, a1, _, _, rfl, a2, _, _, rfl, a3, _, _, rfl, a4, rfl⟩ := h
  obtain ⟨s, rfl, I⟩ := arg_tS a1
  obtain ⟨a, b, c, d, rfl, _⟩ := arg_tN a2
  obtain ⟨p, rfl, _⟩ := arg_tI a3
  obtain ⟨f, rfl, _⟩ := arg_tI a4
  exact (law_SpreadVersions I).2 rfl
end Go.Proofs.YtfmbdcmjgnikiaaGreatDoor.Sm
