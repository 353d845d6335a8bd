/- The tables that the row lists are those that the small code reads; a world that has them. Conditions: none. This program: every small code is checked. Conditions: none. The middle printed by tie.py. -/
import Derived.Test.YtfmbdcmjgnikiaaGreatDoorM4
import Derived.Test.YtfmbdcmjgnikiaaGreatDoorM6
import Derived.Test.YtfmbdcmjgnikiaaGreatDoorTie
import Derived.Test.YtfmbdcmjgnikiaaGreatDoorCards
import Derived.WalkKit
import Derived.ProofKit
import Derived.OpenShut
import Derived.Deep.DeepHandedRow
import Derived.Lib.LaidTab
import Derived.ChangeSame
import Derived.Test.YtfmbdcmjgnikiaaGreatDoorM2
set_option linter.unusedSimpArgs false
set_option linter.unusedVariables false
namespace Go.Proofs.YtfmbdcmjgnikiaaGreatDoor.Sm
open Go Go.RowKit Go.Lib

def laidL : List (String × DataW Unit) := [("math/bits.deBruijn32tab", Rows.laid_math_bits_deBruijn32tab), ("math/bits.deBruijn64tab", Rows.laid_math_bits_deBruijn64tab), ("unicode/utf8.acceptRanges", Rows.laid_unicode_utf8_acceptRanges), ("slotmesh/random.steps", Rows.laid_slotmesh_random_steps), ("unicode/utf8.first", Rows.laid_unicode_utf8_first)]
theorem laidH {W : World} (h : laidMetH Tryz.prog laidL W) : laidMet Tryz.prog laidL W := h
/-- What stands on the list is so. -/
theorem laid_at {P : Program} {w : World} {n : String} {d : DataW Unit} : ∀ {l : List (String × DataW Unit)} {ps : List MemPlace}, DataW.LaidVars P w l ps → (n, d) ∈ l →
    ∃ g t cs fuel p, P.globalNamed n = some g ∧ (P.globals[g]?).map (·.type) = some t ∧ w.var? P n = some cs ∧ DataW.trod (fun _ => ()) P w 0 (fun _ => true) false fuel t cs.toList = some (d, p)
  | [], ps, h, hm => by cases hm
  | (m, e) :: l, ps, h, hm => by
    obtain ⟨g, t, cs, fuel, p, q, h1, h2, h3, h4, h5, _⟩ := h
    rcases List.mem_cons.1 hm with hm | hm
    · cases hm; exact ⟨g, t, cs, fuel, p, h1, h2, h3, h4⟩
    · exact laid_at h5 hm
def zs64 : List Int := [0, 1, 56, 2, 57, 49, 28, 3, 61, 58, 42, 50, 38, 29, 17, 4, 62, 47, 59, 36, 45, 43, 51, 22, 53, 39, 33, 30, 24, 18, 12, 5, 63, 55, 48, 27, 60, 41, 37, 16, 46, 35, 44, 21, 52, 32, 23, 11, 54, 26, 40, 15, 34, 20, 31, 10, 25, 14, 19, 9, 13, 8, 7, 6]
theorem laid_64 {W : World} (h : laidMet Tryz.prog laidL W) : W.var? Tryz.prog "math/bits.deBruijn64tab" = some (zs64.map fun z => Value.int .u8 z).toArray := by
  obtain ⟨ps, h, _⟩ := h
  obtain ⟨g, t, cs, fuel, p, h1, h2, h3, h4⟩ := laid_at (n := "math/bits.deBruijn64tab") (d := tabData .u8 zs64) h (.tail _ (.head _))
  obtain rfl : 1 = g := Option.some.inj ((show Tryz.prog.globalNamed "math/bits.deBruijn64tab" = some 1 by kernel_rfl).symm.trans h1)
  obtain rfl : 260 = t := Option.some.inj ((show (Tryz.prog.globals[1]?).map (·.type) = some 260 by kernel_rfl).symm.trans h2)
  rw [h3, ← cells_of_tab (e := 5) (n := 64) (k := .u8) (by kernel_rfl) (by kernel_rfl) (by kernel_rfl) (by kernel_rfl) h4]
/-- Three pairs of numbers. -/
theorem cells_steps {P : Program} {w : World} {t e : TypeId} {fuel : Nat} {cs : List Value} {p : List MemPlace} {f0 f1 : Field} {a1 b1 a2 b2 a3 b3 : Int} {k0 k1 : IntKind}
    (ht : P.underlying t = some (.array 3 e)) (he : P.underlying e = some (.struct #[f0, f1])) (h0 : P.underlying f0.type = some (.int k0)) (h1 : P.underlying f1.type = some (.int k1))
    (o0 : f0.offset = 0) (o1 : f1.offset = 1) (c0 : P.cellsOf f0.type = 1) (c1 : P.cellsOf f1.type = 1) (hce : P.cellsOf e = 2) (hct : P.cellsOf t = 6)
    (h : DataW.trod (fun _ => ()) P w 0 (fun _ => true) false fuel t cs = some (.agg [.agg [.lit (.int k0 a1), .lit (.int k1 b1)], .agg [.lit (.int k0 a2), .lit (.int k1 b2)], .agg [.lit (.int k0 a3), .lit (.int k1 b3)]], p)) :
    cs = [.int k0 a1, .int k1 b1, .int k0 a2, .int k1 b2, .int k0 a3, .int k1 b3] := by
  cases fuel with
  | zero => simp [DataW.trod] at h
  | succ fuel =>
    simp only [DataW.trod, ht, hce, hct] at h
    split at h
    · rename_i hl
      match cs, hl with
      | [x1, x2, x3, x4, x5, x6], _ =>
        simp only [show List.range 3 = [0, 1, 2] from rfl, List.mapM_cons, List.mapM_nil, Nat.zero_mul, Nat.one_mul, List.drop_zero, Nat.reduceMul, List.drop_succ_cons, List.take_succ_cons, List.take_zero, Option.bind_eq_bind, Option.map_eq_some_iff, Option.bind_eq_some_iff, Option.pure_def, Option.some.injEq] at h
        obtain ⟨xs, ⟨y1, r1, _, ⟨y2, r2, _, ⟨y3, r3, _, rfl, rfl⟩, rfl⟩, rfl⟩, hx⟩ := h
        obtain ⟨u1, v1, n1, rfl, -, g1, g2⟩ := Go.ChangeShapes.trod_struct2 he r1
        obtain ⟨u2, v2, n2, rfl, -, g3, g4⟩ := Go.ChangeShapes.trod_struct2 he r2
        obtain ⟨u3, v3, n3, rfl, -, g5, g6⟩ := Go.ChangeShapes.trod_struct2 he r3
        simp only [o0, o1, c0, c1, List.drop_zero, List.drop_succ_cons, List.take_succ_cons, List.take_zero] at g1 g2 g3 g4 g5 g6
        obtain ⟨m1, e1, rfl, _⟩ := DataW.trod_int h0 g1
        obtain ⟨m2, e2, rfl, _⟩ := DataW.trod_int h1 g2
        obtain ⟨m3, e3, rfl, _⟩ := DataW.trod_int h0 g3
        obtain ⟨m4, e4, rfl, _⟩ := DataW.trod_int h1 g4
        obtain ⟨m5, e5, rfl, _⟩ := DataW.trod_int h0 g5
        obtain ⟨m6, e6, rfl, _⟩ := DataW.trod_int h1 g6
        simp only [List.map_cons, List.map_nil, Prod.mk.injEq, DataW.agg.injEq, List.cons.injEq, DataW.lit.injEq, Lit.int.injEq, true_and, and_true] at hx e1 e2 e3 e4 e5 e6
        simp only [e1, e2, e3, e4, e5, e6, hx]
    · cases h
theorem laid_steps {W : World} (h : laidMet Tryz.prog laidL W) : W.var? Tryz.prog "slotmesh/random.steps" = some #[.int .i64 30, .int .u64 13787848793156543929, .int .i64 27, .int .u64 10723151780598845931, .int .i64 31, .int .u64 1] := by
  obtain ⟨ps, h, _⟩ := h
  obtain ⟨g, t, cs, fuel, p, h1, h2, h3, h4⟩ := laid_at (n := "slotmesh/random.steps") (d := Rows.laid_slotmesh_random_steps) h (.tail _ (.tail _ (.tail _ (.head _))))
  obtain rfl : 3 = g := Option.some.inj ((show Tryz.prog.globalNamed "slotmesh/random.steps" = some 3 by kernel_rfl).symm.trans h1)
  obtain rfl : 278 = t := Option.some.inj ((show (Tryz.prog.globals[3]?).map (·.type) = some 278 by kernel_rfl).symm.trans h2)
  have := cells_steps (e := 277) (f0 := ⟨"shift", 3, 0, false, "", "slotmesh/random", 0⟩) (f1 := ⟨"factor", 37, 1, false, "", "slotmesh/random", 8⟩) (k0 := .i64) (k1 := .u64) (by kernel_rfl) (by kernel_rfl) (by kernel_rfl) (by kernel_rfl) rfl rfl (by kernel_rfl) (by kernel_rfl) (by kernel_rfl) (by kernel_rfl) h4
  rw [h3, ← this]
theorem gok_of {W : World} {i : Nat} {n : String} {cs : Array Value} {gs : List SV} (hg : Tryz.prog.globalNamed n = some i) (hv : W.var? Tryz.prog n = some cs) (hp : ∀ y ∈ gs, pl1 y = true)
    (hr : ∀ (j : Nat) y, gs[j]? = some y → RV (K0 W) (cs.getD j Go.undef) y) (hl : gs.length = cs.size) : RV (K0 W) (.pointer (some ⟨i, 0, none⟩)) (.tptr gs 0) := by
  refine .tptr i 0 gs 0 (fun j => cs.getD j Go.undef) hp (fun j y hy => ⟨?_, fun h => h⟩) hr
  show W.cell? ⟨i, 0 + j, none⟩ = _
  rw [Nat.zero_add, World.var?_cell hg hv]
  have : j < gs.length := by
    rcases Nat.lt_or_ge j gs.length with h | h
    · exact h
    · rw [List.getElem?_eq_none h] at hy; cases hy
  rw [Array.getElem?_eq_getElem (by omega), Array.getD_eq_getD_getElem?, Array.getElem?_eq_getElem (by omega)]
  rfl
theorem rv_ints {W : World} {k : IntKind} {zs : List Int} {j : Nat} {y : SV} (h : (zs.map fun z => SV.int k z)[j]? = some y) : RV (K0 W) ((zs.map fun z => Value.int k z).toArray.getD j Go.undef) y := by
  rw [List.getElem?_map, Option.map_eq_some_iff] at h
  obtain ⟨z, hz, rfl⟩ := h
  simp only [Array.getD_eq_getD_getElem?, List.getElem?_toArray, List.getElem?_map, hz, Option.map_some, Option.getD_some]
  exact .int _ _
theorem hG {W : World} (h : laidMetH Tryz.prog laidL W) : GOK XX (K0 W) := by
  have h := laidH h
  intro i
  show RV (K0 W) _ (.tptr (globs i) 0)
  unfold globs
  split
  · refine gok_of (n := "math/bits.deBruijn64tab") (by kernel_rfl) (laid_64 h) ?_ (fun j y hy => rv_ints (zs := zs64) hy) rfl
    intro y hy
    obtain ⟨n, _, rfl⟩ := List.mem_map.1 hy
    rfl
  · refine gok_of (n := "slotmesh/random.steps") (by kernel_rfl) (laid_steps h) (by decide) (fun j y hy => ?_) rfl
    match j, hy with
    | 0, hy => cases hy; exact .int _ _
    | 1, hy => cases hy; exact .int _ _
    | 2, hy => cases hy; exact .int _ _
    | 3, hy => cases hy; exact .int _ _
    | 4, hy => cases hy; exact .int _ _
    | 5, hy => cases hy; exact .int _ _
    | j + 6, hy => simp at hy
  · exact .tptr i 0 [] 0 (fun _ => Go.undef) (fun y hy => by cases hy) (fun j y hy => by simp at hy) (fun j y hy => by simp at hy)

def firstCells : Array Value := (Go.Pinned.utf8FirstZ.map fun n : Nat => Value.int .u8 (n : Int)).toArray
def acceptCells : Array Value := ([128, 191, 160, 191, 128, 159, 144, 191, 128, 143, 0, 0, 0, 0, 0, 0, 0, 0, 0, 0, 0, 0, 0, 0, 0, 0, 0, 0, 0, 0, 0, 0].map fun n : Int => Value.int .u8 n).toArray
def cells32 : Array Value := ([0, 1, 28, 2, 29, 14, 24, 3, 30, 22, 20, 15, 25, 17, 4, 8, 31, 27, 13, 23, 21, 19, 16, 7, 26, 12, 18, 6, 11, 5, 10, 9].map fun n : Int => Value.int .u8 n).toArray
def cells64 : Array Value := (zs64.map fun n : Int => Value.int .u8 n).toArray
def cellsSteps : Array Value := #[.int .i64 30, .int .u64 13787848793156543929, .int .i64 27, .int .u64 10723151780598845931, .int .i64 31, .int .u64 1]
def layCells (cs : Array Value) : Obj → Obj
  | .cells _ t frozen => .cells cs t frozen
  | o => o
/-- A world for the witness: the settled one, the tables laid. -/
noncomputable def laidWorld (os : Os) : World :=
  { World.holding Tryz.prog os ⟨#[], #[], []⟩ with heap := (((((World.holding Tryz.prog os ⟨#[], #[], []⟩).heap.modify 0 (layCells cells32)).modify 1 (layCells cells64)).modify 3 (layCells cellsSteps)).modify 4 (layCells firstCells)).modify 5 (layCells acceptCells) }
theorem laid_met (os : Os) (args : Array Value) : laidMet Tryz.prog laidL ((laidWorld os).forCall (fun _ _ => 0) ⟨#[], args, []⟩).memory :=
  laidMet_of_run' 8 (by kernel_rfl) (by kernel_rfl)
end Go.Proofs.YtfmbdcmjgnikiaaGreatDoor.Sm
namespace Go.Proofs.YtfmbdcmjgnikiaaGreatDoor.Sm
open Go Go.RowKit

set_option maxRecDepth 100000 in
theorem hX : ∀ f mf, XX.fns f = some mf → ∃ fn, Tryz.prog.funcs[f]? = some fn ∧ chkF Tryz.prog eqTs fn mf = true := by
  intro f mf h
  have h : fns f = some mf := h
  unfold fns at h
  split at h
  · cases h; exact ⟨_, Tryz.func8, c_law39_SpreadEnough⟩
  · cases h; exact ⟨_, Tryz.func18, c_law39_head⟩
  · cases h; exact ⟨_, Tryz.func20, c_spread_Receive⟩
  · cases h; exact ⟨_, Tryz.func22, c_spread_Serve⟩
  · cases h; exact ⟨_, Tryz.func26, c_spread_Hear⟩
  · cases h; exact ⟨_, Tryz.func30, c_image_Announce⟩
  · cases h; exact ⟨_, Tryz.func32, c_image_Split⟩
  · cases h; exact ⟨_, Tryz.func33, c_law39_feed⟩
  · cases h; exact ⟨_, Tryz.func34, c_law39_plain⟩
  · cases h; exact ⟨_, Tryz.func35, c_image_Whole⟩
  · cases h; exact ⟨_, Tryz.func36, c_ref36_Bytes⟩
  · cases h; exact ⟨_, Tryz.func37, c_solve_Add⟩
  · cases h; exact ⟨_, Tryz.func38, c_fountain_Set⟩
  · cases h; exact ⟨_, Tryz.func39, c_fountain_Encode⟩
  · cases h; exact ⟨_, Tryz.func55, c_law39_Program⟩
  · cases h; exact ⟨_, Tryz.func57, c_spread_copied⟩
  · cases h; exact ⟨_, Tryz.func58, c_pspread_state_refused⟩
  · cases h; exact ⟨_, Tryz.func59, c_fountain_Receive⟩
  · cases h; exact ⟨_, Tryz.func60, c_pspread_state_anew⟩
  · cases h; exact ⟨_, Tryz.func61, c_slices_Clone_suint64_uint64⟩
  · cases h; exact ⟨_, Tryz.func62, c_fountain_Page⟩
  · cases h; exact ⟨_, Tryz.func63, c_image_Put⟩
  · cases h; exact ⟨_, Tryz.func71, c_pspread_state_valid⟩
  · cases h; exact ⟨_, Tryz.func72, c_pspread_state_empty⟩
  · cases h; exact ⟨_, Tryz.func73, c_trickle_Tick⟩
  · cases h; exact ⟨_, Tryz.func74, c_pspread_state_lacking⟩
  · cases h; exact ⟨_, Tryz.func80, c_spread_announced⟩
  · cases h; exact ⟨_, Tryz.func81, c_spread_count⟩
  · cases h; exact ⟨_, Tryz.func82, c_trickle_New⟩
  · cases h; exact ⟨_, Tryz.func83, c_trickle_Reset⟩
  · cases h; exact ⟨_, Tryz.func84, c_trickle_Hear⟩
  · cases h; exact ⟨_, Tryz.func93, c_image_announced⟩
  · cases h; exact ⟨_, Tryz.func94, c_tree_Root⟩
  · cases h; exact ⟨_, Tryz.func95, c_image_sized⟩
  · cases h; exact ⟨_, Tryz.func96, c_slices_Chunk_sbyte_byte⟩
  · cases h; exact ⟨_, Tryz.func97, c_tree_Proof⟩
  · cases h; exact ⟨_, Tryz.func98, c_image_load_sound⟩
  · cases h; exact ⟨_, Tryz.func99, c_image_Join⟩
  · cases h; exact ⟨_, Tryz.func100, c_solve_formed⟩
  · cases h; exact ⟨_, Tryz.func101, c_solve_Valid⟩
  · cases h; exact ⟨_, Tryz.func102, c_solve_reduce⟩
  · cases h; exact ⟨_, Tryz.func103, c_solve_equations⟩
  · cases h; exact ⟨_, Tryz.func104, c_solve_equation_row⟩
  · cases h; exact ⟨_, Tryz.func105, c_solve_equation_leading⟩
  · cases h; exact ⟨_, Tryz.func106, c_solve_block_plus⟩
  · cases h; exact ⟨_, Tryz.func107, c_fountain_isSeed⟩
  · cases h; exact ⟨_, Tryz.func108, c_random_Mask⟩
  · cases h; exact ⟨_, Tryz.func109, c_fountain_isPage⟩
  · cases h; exact ⟨_, Tryz.func110, c_fountain_Encode_1⟩
  · cases h; exact ⟨_, Tryz.func111, c_fountain_blocks⟩
  · cases h; exact ⟨_, Tryz.func112, c_bits_TrailingZeros⟩
  · cases h; exact ⟨_, Tryz.func113, c_slices_Clone_sbyte_byte⟩
  · cases h; exact ⟨_, Tryz.func117, c_bytes_Clone⟩
  · cases h; exact ⟨_, Tryz.func134, c_digest_Add⟩
  · cases h; exact ⟨_, Tryz.func135, c_digest_Sum⟩
  · cases h; exact ⟨_, Tryz.func136, c_pspread_state_whole⟩
  · cases h; exact ⟨_, Tryz.func137, c_slices_Equal_suint64_uint64⟩
  · cases h; exact ⟨_, Tryz.func138, c_solve_Solved⟩
  · cases h; exact ⟨_, Tryz.func139, c_slices_Contains_sbool_bool⟩
  · cases h; exact ⟨_, Tryz.func140, c_image_count⟩
  · cases h; exact ⟨_, Tryz.func141, c_image_load_proved⟩
  · cases h; exact ⟨_, Tryz.func142, c_slices_Clone_ssbyte_sbyte⟩
  · cases h; exact ⟨_, Tryz.func143, c_slices_Clone_ssuint64_suint64⟩
  · cases h; exact ⟨_, Tryz.func147, c_pspread_state_sound⟩
  · cases h; exact ⟨_, Tryz.func148, c_pspread_state_timed⟩
  · cases h; exact ⟨_, Tryz.func149, c_trickle_isValid⟩
  · cases h; exact ⟨_, Tryz.func150, c_trickle_isFrame⟩
  · cases h; exact ⟨_, Tryz.func151, c_ptrickle_timer_begin⟩
  · cases h; exact ⟨_, Tryz.func152, c_pspread_state_lacking_1⟩
  · cases h; exact ⟨_, Tryz.func155, c_trickle_isSeed⟩
  · cases h; exact ⟨_, Tryz.func160, c_tree_arePages⟩
  · cases h; exact ⟨_, Tryz.func161, c_tree_levels⟩
  · cases h; exact ⟨_, Tryz.func162, c_slices_Chunk_sbyte_byte_1⟩
  · cases h; exact ⟨_, Tryz.func163, c_image_paged⟩
  · cases h; exact ⟨_, Tryz.func164, c_slices_Concat_sbyte_byte⟩
  · cases h; exact ⟨_, Tryz.func165, c_bytes_Trim⟩
  · cases h; exact ⟨_, Tryz.func166, c_solve_equations_1⟩
  · cases h; exact ⟨_, Tryz.func167, c_bits_Len⟩
  · cases h; exact ⟨_, Tryz.func168, c_random_first⟩
  · cases h; exact ⟨_, Tryz.func169, c_fountain_blocks_1⟩
  · cases h; exact ⟨_, Tryz.func171, c_bits_TrailingZeros64⟩
  · cases h; exact ⟨_, Tryz.func177, c_digest_words⟩
  · cases h; exact ⟨_, Tryz.func178, c_digest_number_step⟩
  · cases h; exact ⟨_, Tryz.func179, c_slices_Index_sbool_bool⟩
  · cases h; exact ⟨_, Tryz.func180, c_tree_Check⟩
  · cases h; exact ⟨_, Tryz.func189, c_trickle_in_int⟩
  · cases h; exact ⟨_, Tryz.func190, c_random_Below⟩
  · cases h; exact ⟨_, Tryz.func192, c_slices_ContainsFunc_ssbyte_sbyte⟩
  · cases h; exact ⟨_, Tryz.func193, c_tree_arePages_1⟩
  · cases h; exact ⟨_, Tryz.func194, c_tree_levels_1⟩
  · cases h; exact ⟨_, Tryz.func195, c_tree_leaf⟩
  · cases h; exact ⟨_, Tryz.func196, c_slices_Chunk_suint64_uint64⟩
  · cases h; exact ⟨_, Tryz.func197, c_digest_Pair⟩
  · cases h; exact ⟨_, Tryz.func198, c_image_paged_1⟩
  · cases h; exact ⟨_, Tryz.func199, c_slices_Grow_sbyte_byte⟩
  · cases h; exact ⟨_, Tryz.func200, c_bytes_trimLeftByte⟩
  · cases h; exact ⟨_, Tryz.func201, c_bytes_trimRightByte⟩
  · cases h; exact ⟨_, Tryz.func208, c_bits_Len64⟩
  · cases h; exact ⟨_, Tryz.func209, c_random_halves⟩
  · cases h; exact ⟨_, Tryz.func212, c_digest_words_1⟩
  · cases h; exact ⟨_, Tryz.func213, c_tree_walk⟩
  · cases h; exact ⟨_, Tryz.func218, c_slices_IndexFunc_ssbyte_sbyte⟩
  · cases h; exact ⟨_, Tryz.func219, c_slices_Chunk_suint64_uint64_1⟩
  · cases h; exact ⟨_, Tryz.func224, c_random_halves_1⟩
  · cases h; exact ⟨_, Tryz.func225, c_random_Next⟩
  · cases h; exact ⟨_, Tryz.func228, c_tree_walk_1⟩
  · cases h

theorem hE : ∀ t n, eqTs.contains (t, n) = true → EqT Tryz.prog t n := by
  intro t n h
  simp only [eqTs, List.contains_cons, List.contains_nil, Bool.or_false, Bool.or_eq_true, beq_iff_eq, Prod.mk.injEq] at h
  rcases h with ⟨rfl, rfl⟩ | ⟨rfl, rfl⟩ | ⟨rfl, rfl⟩ | ⟨rfl, rfl⟩
  · exact eqT_of (by kernel_rfl)
  · exact eqT_of (by kernel_rfl)
  · exact eqT_of (by kernel_rfl)
  · exact eqT_of (by kernel_rfl)
theorem hM : Tryz.prog.follows .mixedOrders = true := by kernel_rfl
theorem runs_ok : ∀ n, FnOK Tryz.prog eqTs XX (ev XX n) := code_ok hM hX hE
theorem laid_out : laidOutB Tryz.prog = true := by kernel_rfl
theorem own : ownKnob Tryz.prog.godebug = none := by kernel_rfl
end Go.Proofs.YtfmbdcmjgnikiaaGreatDoor.Sm
