/- This program: every small code is checked; the world of the witness. Conditions: none. The middle printed by tie.py. -/
import Derived.Test.YtfmbdcmjgnikiaaDoorM4
import Derived.Test.YtfmbdcmjgnikiaaDoorM6
import Derived.Test.YtfmbdcmjgnikiaaDoorTie
import Derived.Test.YtfmbdcmjgnikiaaDoorCards
import Derived.WalkKit
import Derived.ProofKit
import Derived.OpenShut
import Derived.Deep.DeepHandedRow
import Derived.Lib.LaidTab
set_option linter.unusedSimpArgs false
set_option linter.unusedVariables false
namespace Go.Proofs.YtfmbdcmjgnikiaaDoor.Sm
open Go Go.RowKit

set_option maxRecDepth 100000 in
theorem hX : ∀ f mf, XX.fns f = some mf → ∃ fn, Tryd.prog.funcs[f]? = some fn ∧ chkF Tryd.prog eqTs fn mf = true := by
  intro f mf h
  have h : fns f = some mf := h
  unfold fns at h
  split at h
  · cases h; exact ⟨_, Tryd.func3, c_law36_ImageMatchesReference⟩
  · cases h; exact ⟨_, Tryd.func4, c_law36_ImageInverse⟩
  · cases h; exact ⟨_, Tryd.func5, c_law36_ImageKeeps⟩
  · cases h; exact ⟨_, Tryd.func6, c_law36_ImageNotices⟩
  · cases h; exact ⟨_, Tryd.func7, c_law36_ImageSizes⟩
  · cases h; exact ⟨_, Tryd.func8, c_law36_ImageLoads⟩
  · cases h; exact ⟨_, Tryd.func9, c_law36_ImageOnlyRight⟩
  · cases h; exact ⟨_, Tryd.func10, c_law36_head⟩
  · cases h; exact ⟨_, Tryd.func11, c_law36_short⟩
  · cases h; exact ⟨_, Tryd.func12, c_ref36_Few⟩
  · cases h; exact ⟨_, Tryd.func13, c_image_Split⟩
  · cases h; exact ⟨_, Tryd.func14, c_ref36_Split⟩
  · cases h; exact ⟨_, Tryd.func15, c_image_Join⟩
  · cases h; exact ⟨_, Tryd.func16, c_ref36_Join⟩
  · cases h; exact ⟨_, Tryd.func17, c_image_Announce⟩
  · cases h; exact ⟨_, Tryd.func18, c_ref36_Announce⟩
  · cases h; exact ⟨_, Tryd.func19, c_ref36_Lists⟩
  · cases h; exact ⟨_, Tryd.func20, c_ref36_Bytes⟩
  · cases h; exact ⟨_, Tryd.func21, c_image_Put⟩
  · cases h; exact ⟨_, Tryd.func22, c_ref36_Put⟩
  · cases h; exact ⟨_, Tryd.func23, c_image_Whole⟩
  · cases h; exact ⟨_, Tryd.func24, c_ref36_Whole⟩
  · cases h; exact ⟨_, Tryd.func25, c_ref36_Same⟩
  · cases h; exact ⟨_, Tryd.func26, c_ref36_Sound⟩
  · cases h; exact ⟨_, Tryd.func27, c_ref36_Count⟩
  · cases h; exact ⟨_, Tryd.func28, c_ref35_Same⟩
  · cases h; exact ⟨_, Tryd.func29, c_tree_Proof⟩
  · cases h; exact ⟨_, Tryd.func30, c_law36_loaded⟩
  · cases h; exact ⟨_, Tryd.func31, c_law36_sample⟩
  · cases h; exact ⟨_, Tryd.func32, c_ref35_Leaf⟩
  · cases h; exact ⟨_, Tryd.func33, c_image_sized⟩
  · cases h; exact ⟨_, Tryd.func34, c_slices_Chunk_sbyte_byte⟩
  · cases h; exact ⟨_, Tryd.func35, c_ref36_Size⟩
  · cases h; exact ⟨_, Tryd.func36, c_image_count⟩
  · cases h; exact ⟨_, Tryd.func37, c_image_paged⟩
  · cases h; exact ⟨_, Tryd.func38, c_slices_Concat_sbyte_byte⟩
  · cases h; exact ⟨_, Tryd.func39, c_bytes_Trim⟩
  · cases h; exact ⟨_, Tryd.func40, c_ref36_Pages⟩
  · cases h; exact ⟨_, Tryd.func41, c_image_announced⟩
  · cases h; exact ⟨_, Tryd.func42, c_tree_Root⟩
  · cases h; exact ⟨_, Tryd.func43, c_ref36_Notice⟩
  · cases h; exact ⟨_, Tryd.func44, c_ref35_Root⟩
  · cases h; exact ⟨_, Tryd.func45, c_image_load_sound⟩
  · cases h; exact ⟨_, Tryd.func46, c_image_load_proved⟩
  · cases h; exact ⟨_, Tryd.func47, c_slices_Clone_ssbyte_sbyte⟩
  · cases h; exact ⟨_, Tryd.func48, c_bytes_Clone⟩
  · cases h; exact ⟨_, Tryd.func49, c_slices_Clone_ssuint64_suint64⟩
  · cases h; exact ⟨_, Tryd.func50, c_slices_Clone_suint64_uint64⟩
  · cases h; exact ⟨_, Tryd.func51, c_ref35_Check⟩
  · cases h; exact ⟨_, Tryd.func52, c_ref36_proofs⟩
  · cases h; exact ⟨_, Tryd.func53, c_tree_arePages⟩
  · cases h; exact ⟨_, Tryd.func54, c_tree_levels⟩
  · cases h; exact ⟨_, Tryd.func55, c_ref05_Add⟩
  · cases h; exact ⟨_, Tryd.func56, c_ref05_Sum⟩
  · cases h; exact ⟨_, Tryd.func57, c_slices_Chunk_sbyte_byte_1⟩
  · cases h; exact ⟨_, Tryd.func58, c_slices_ContainsFunc_ssbyte_sbyte⟩
  · cases h; exact ⟨_, Tryd.func59, c_image_paged_1⟩
  · cases h; exact ⟨_, Tryd.func60, c_slices_Grow_sbyte_byte⟩
  · cases h; exact ⟨_, Tryd.func61, c_bytes_trimLeftByte⟩
  · cases h; exact ⟨_, Tryd.func62, c_bytes_trimRightByte⟩
  · cases h; exact ⟨_, Tryd.func68, c_ref35_Pages⟩
  · cases h; exact ⟨_, Tryd.func69, c_ref35_leaves⟩
  · cases h; exact ⟨_, Tryd.func70, c_ref35_Next⟩
  · cases h; exact ⟨_, Tryd.func71, c_tree_Check⟩
  · cases h; exact ⟨_, Tryd.func72, c_ref35_Length⟩
  · cases h; exact ⟨_, Tryd.func73, c_ref35_other⟩
  · cases h; exact ⟨_, Tryd.func74, c_ref05_Pair⟩
  · cases h; exact ⟨_, Tryd.func75, c_tree_arePages_1⟩
  · cases h; exact ⟨_, Tryd.func76, c_tree_levels_1⟩
  · cases h; exact ⟨_, Tryd.func77, c_tree_leaf⟩
  · cases h; exact ⟨_, Tryd.func78, c_slices_Chunk_suint64_uint64⟩
  · cases h; exact ⟨_, Tryd.func79, c_digest_Pair⟩
  · cases h; exact ⟨_, Tryd.func80, c_slices_IndexFunc_ssbyte_sbyte⟩
  · cases h; exact ⟨_, Tryd.func85, c_tree_walk⟩
  · cases h; exact ⟨_, Tryd.func86, c_digest_Sum⟩
  · cases h; exact ⟨_, Tryd.func87, c_digest_Add⟩
  · cases h; exact ⟨_, Tryd.func88, c_slices_Chunk_suint64_uint64_1⟩
  · cases h; exact ⟨_, Tryd.func89, c_digest_number_step⟩
  · cases h; exact ⟨_, Tryd.func92, c_tree_walk_1⟩
  · cases h; exact ⟨_, Tryd.func93, c_digest_words⟩
  · cases h; exact ⟨_, Tryd.func94, c_digest_words_1⟩
  · cases h

theorem hE : ∀ t n, eqTs.contains (t, n) = true → EqT Tryd.prog t n := by
  intro t n h
  simp only [eqTs, List.contains_cons, List.contains_nil, Bool.or_false, Bool.or_eq_true, beq_iff_eq, Prod.mk.injEq] at h
  rcases h with ⟨rfl, rfl⟩ | ⟨rfl, rfl⟩
  · exact eqT_of (by kernel_rfl)
  · exact eqT_of (by kernel_rfl)
theorem hG : ∀ i, XX.glob i = [] := fun _ => rfl
theorem hM : Tryd.prog.follows .mixedOrders = true := by kernel_rfl
theorem runs_ok : ∀ n, FnOK Tryd.prog eqTs XX (ev XX n) := code_ok hM hX hE
theorem laid_out : laidOutB Tryd.prog = true := by kernel_rfl
theorem own : ownKnob Tryd.prog.godebug = none := by kernel_rfl

def firstCells : Array Value := (Go.Pinned.utf8FirstZ.map fun n : Nat => Value.int .u8 (n : Int)).toArray
def acceptCells : Array Value := ([128, 191, 160, 191, 128, 159, 144, 191, 128, 143, 0, 0, 0, 0, 0, 0, 0, 0, 0, 0, 0, 0, 0, 0, 0, 0, 0, 0, 0, 0, 0, 0].map fun n : Int => Value.int .u8 n).toArray
def layCells (cs : Array Value) : Obj → Obj
  | .cells _ t frozen => .cells cs t frozen
  | o => o
/-- A world for the witness: the settled one, the two tables laid. -/
noncomputable def laidWorld (os : Os) : World :=
  { World.holding Tryd.prog os ⟨#[], #[], []⟩ with heap := ((World.holding Tryd.prog os ⟨#[], #[], []⟩).heap.modify 0 (layCells firstCells)).modify 1 (layCells acceptCells) }
theorem laid_met (os : Os) (args : Array Value) : laidMet Tryd.prog [("unicode/utf8.acceptRanges", Rows.laid_unicode_utf8_acceptRanges), ("unicode/utf8.first", Rows.laid_unicode_utf8_first)] ((laidWorld os).forCall (fun _ _ => 0) ⟨#[], args, []⟩).memory :=
  laidMet_of_run' 8 (by kernel_rfl) (by kernel_rfl)

end Go.Proofs.YtfmbdcmjgnikiaaDoor.Sm
