/- The small codes are the loaded ones. Conditions: none. Printed by gen.py. The heads of the loops. Conditions: none. Printed by gen.py. -/
import Derived.Test.YtfmbdcmjgnikiaaDoorM1
import Derived.Test.YtfmbdcmjgnikiaaDoorM5
import Derived.Test.YtfmbdcmjgnikiaaDoorProg
import Derived.KernelRfl
import Derived.Test.YtfmbdcmjgnikiaaDoorM4
set_option linter.unusedSimpArgs false
set_option linter.unusedVariables false
namespace Go.Proofs.YtfmbdcmjgnikiaaDoor.Sm
open Go

theorem c_law36_ImageMatchesReference : chkF Tryd.prog eqTs Tryd.f3 m_law36_ImageMatchesReference = true := by kernel_rfl
theorem c_law36_ImageInverse : chkF Tryd.prog eqTs Tryd.f4 m_law36_ImageInverse = true := by kernel_rfl
theorem c_law36_ImageKeeps : chkF Tryd.prog eqTs Tryd.f5 m_law36_ImageKeeps = true := by kernel_rfl
theorem c_law36_ImageNotices : chkF Tryd.prog eqTs Tryd.f6 m_law36_ImageNotices = true := by kernel_rfl
theorem c_law36_ImageSizes : chkF Tryd.prog eqTs Tryd.f7 m_law36_ImageSizes = true := by kernel_rfl
theorem c_law36_ImageLoads : chkF Tryd.prog eqTs Tryd.f8 m_law36_ImageLoads = true := by kernel_rfl
theorem c_law36_ImageOnlyRight : chkF Tryd.prog eqTs Tryd.f9 m_law36_ImageOnlyRight = true := by kernel_rfl
theorem c_law36_head : chkF Tryd.prog eqTs Tryd.f10 m_law36_head = true := by kernel_rfl
theorem c_law36_short : chkF Tryd.prog eqTs Tryd.f11 m_law36_short = true := by kernel_rfl
theorem c_ref36_Few : chkF Tryd.prog eqTs Tryd.f12 m_ref36_Few = true := by kernel_rfl
theorem c_image_Split : chkF Tryd.prog eqTs Tryd.f13 m_image_Split = true := by kernel_rfl
theorem c_ref36_Split : chkF Tryd.prog eqTs Tryd.f14 m_ref36_Split = true := by kernel_rfl
theorem c_image_Join : chkF Tryd.prog eqTs Tryd.f15 m_image_Join = true := by kernel_rfl
theorem c_ref36_Join : chkF Tryd.prog eqTs Tryd.f16 m_ref36_Join = true := by kernel_rfl
theorem c_image_Announce : chkF Tryd.prog eqTs Tryd.f17 m_image_Announce = true := by kernel_rfl
theorem c_ref36_Announce : chkF Tryd.prog eqTs Tryd.f18 m_ref36_Announce = true := by kernel_rfl
theorem c_ref36_Lists : chkF Tryd.prog eqTs Tryd.f19 m_ref36_Lists = true := by kernel_rfl
theorem c_ref36_Bytes : chkF Tryd.prog eqTs Tryd.f20 m_ref36_Bytes = true := by kernel_rfl
theorem c_image_Put : chkF Tryd.prog eqTs Tryd.f21 m_image_Put = true := by kernel_rfl
theorem c_ref36_Put : chkF Tryd.prog eqTs Tryd.f22 m_ref36_Put = true := by kernel_rfl
theorem c_image_Whole : chkF Tryd.prog eqTs Tryd.f23 m_image_Whole = true := by kernel_rfl
theorem c_ref36_Whole : chkF Tryd.prog eqTs Tryd.f24 m_ref36_Whole = true := by kernel_rfl
theorem c_ref36_Same : chkF Tryd.prog eqTs Tryd.f25 m_ref36_Same = true := by kernel_rfl
theorem c_ref36_Sound : chkF Tryd.prog eqTs Tryd.f26 m_ref36_Sound = true := by kernel_rfl
theorem c_ref36_Count : chkF Tryd.prog eqTs Tryd.f27 m_ref36_Count = true := by kernel_rfl
theorem c_ref35_Same : chkF Tryd.prog eqTs Tryd.f28 m_ref35_Same = true := by kernel_rfl
theorem c_tree_Proof : chkF Tryd.prog eqTs Tryd.f29 m_tree_Proof = true := by kernel_rfl
theorem c_law36_loaded : chkF Tryd.prog eqTs Tryd.f30 m_law36_loaded = true := by kernel_rfl
theorem c_law36_sample : chkF Tryd.prog eqTs Tryd.f31 m_law36_sample = true := by kernel_rfl
theorem c_ref35_Leaf : chkF Tryd.prog eqTs Tryd.f32 m_ref35_Leaf = true := by kernel_rfl
theorem c_image_sized : chkF Tryd.prog eqTs Tryd.f33 m_image_sized = true := by kernel_rfl
theorem c_slices_Chunk_sbyte_byte : chkF Tryd.prog eqTs Tryd.f34 m_slices_Chunk_sbyte_byte = true := by kernel_rfl
theorem c_ref36_Size : chkF Tryd.prog eqTs Tryd.f35 m_ref36_Size = true := by kernel_rfl
theorem c_image_count : chkF Tryd.prog eqTs Tryd.f36 m_image_count = true := by kernel_rfl
theorem c_image_paged : chkF Tryd.prog eqTs Tryd.f37 m_image_paged = true := by kernel_rfl
theorem c_slices_Concat_sbyte_byte : chkF Tryd.prog eqTs Tryd.f38 m_slices_Concat_sbyte_byte = true := by kernel_rfl
theorem c_bytes_Trim : chkF Tryd.prog eqTs Tryd.f39 m_bytes_Trim = true := by kernel_rfl
theorem c_ref36_Pages : chkF Tryd.prog eqTs Tryd.f40 m_ref36_Pages = true := by kernel_rfl
theorem c_image_announced : chkF Tryd.prog eqTs Tryd.f41 m_image_announced = true := by kernel_rfl
theorem c_tree_Root : chkF Tryd.prog eqTs Tryd.f42 m_tree_Root = true := by kernel_rfl
theorem c_ref36_Notice : chkF Tryd.prog eqTs Tryd.f43 m_ref36_Notice = true := by kernel_rfl
theorem c_ref35_Root : chkF Tryd.prog eqTs Tryd.f44 m_ref35_Root = true := by kernel_rfl
theorem c_image_load_sound : chkF Tryd.prog eqTs Tryd.f45 m_image_load_sound = true := by kernel_rfl
theorem c_image_load_proved : chkF Tryd.prog eqTs Tryd.f46 m_image_load_proved = true := by kernel_rfl
theorem c_slices_Clone_ssbyte_sbyte : chkF Tryd.prog eqTs Tryd.f47 m_slices_Clone_ssbyte_sbyte = true := by kernel_rfl
theorem c_bytes_Clone : chkF Tryd.prog eqTs Tryd.f48 m_bytes_Clone = true := by kernel_rfl
theorem c_slices_Clone_ssuint64_suint64 : chkF Tryd.prog eqTs Tryd.f49 m_slices_Clone_ssuint64_suint64 = true := by kernel_rfl
theorem c_slices_Clone_suint64_uint64 : chkF Tryd.prog eqTs Tryd.f50 m_slices_Clone_suint64_uint64 = true := by kernel_rfl
theorem c_ref35_Check : chkF Tryd.prog eqTs Tryd.f51 m_ref35_Check = true := by kernel_rfl
theorem c_ref36_proofs : chkF Tryd.prog eqTs Tryd.f52 m_ref36_proofs = true := by kernel_rfl
theorem c_tree_arePages : chkF Tryd.prog eqTs Tryd.f53 m_tree_arePages = true := by kernel_rfl
theorem c_tree_levels : chkF Tryd.prog eqTs Tryd.f54 m_tree_levels = true := by kernel_rfl
theorem c_ref05_Add : chkF Tryd.prog eqTs Tryd.f55 m_ref05_Add = true := by kernel_rfl
theorem c_ref05_Sum : chkF Tryd.prog eqTs Tryd.f56 m_ref05_Sum = true := by kernel_rfl
theorem c_slices_Chunk_sbyte_byte_1 : chkF Tryd.prog eqTs Tryd.f57 m_slices_Chunk_sbyte_byte_1 = true := by kernel_rfl
theorem c_slices_ContainsFunc_ssbyte_sbyte : chkF Tryd.prog eqTs Tryd.f58 m_slices_ContainsFunc_ssbyte_sbyte = true := by kernel_rfl
theorem c_image_paged_1 : chkF Tryd.prog eqTs Tryd.f59 m_image_paged_1 = true := by kernel_rfl
theorem c_slices_Grow_sbyte_byte : chkF Tryd.prog eqTs Tryd.f60 m_slices_Grow_sbyte_byte = true := by kernel_rfl
theorem c_bytes_trimLeftByte : chkF Tryd.prog eqTs Tryd.f61 m_bytes_trimLeftByte = true := by kernel_rfl
theorem c_bytes_trimRightByte : chkF Tryd.prog eqTs Tryd.f62 m_bytes_trimRightByte = true := by kernel_rfl
theorem c_ref35_Pages : chkF Tryd.prog eqTs Tryd.f68 m_ref35_Pages = true := by kernel_rfl
theorem c_ref35_leaves : chkF Tryd.prog eqTs Tryd.f69 m_ref35_leaves = true := by kernel_rfl
theorem c_ref35_Next : chkF Tryd.prog eqTs Tryd.f70 m_ref35_Next = true := by kernel_rfl
theorem c_tree_Check : chkF Tryd.prog eqTs Tryd.f71 m_tree_Check = true := by kernel_rfl
theorem c_ref35_Length : chkF Tryd.prog eqTs Tryd.f72 m_ref35_Length = true := by kernel_rfl
theorem c_ref35_other : chkF Tryd.prog eqTs Tryd.f73 m_ref35_other = true := by kernel_rfl
theorem c_ref05_Pair : chkF Tryd.prog eqTs Tryd.f74 m_ref05_Pair = true := by kernel_rfl
theorem c_tree_arePages_1 : chkF Tryd.prog eqTs Tryd.f75 m_tree_arePages_1 = true := by kernel_rfl
theorem c_tree_levels_1 : chkF Tryd.prog eqTs Tryd.f76 m_tree_levels_1 = true := by kernel_rfl
theorem c_tree_leaf : chkF Tryd.prog eqTs Tryd.f77 m_tree_leaf = true := by kernel_rfl
theorem c_slices_Chunk_suint64_uint64 : chkF Tryd.prog eqTs Tryd.f78 m_slices_Chunk_suint64_uint64 = true := by kernel_rfl
theorem c_digest_Pair : chkF Tryd.prog eqTs Tryd.f79 m_digest_Pair = true := by kernel_rfl
theorem c_slices_IndexFunc_ssbyte_sbyte : chkF Tryd.prog eqTs Tryd.f80 m_slices_IndexFunc_ssbyte_sbyte = true := by kernel_rfl
theorem c_tree_walk : chkF Tryd.prog eqTs Tryd.f85 m_tree_walk = true := by kernel_rfl
theorem c_digest_Sum : chkF Tryd.prog eqTs Tryd.f86 m_digest_Sum = true := by kernel_rfl
theorem c_digest_Add : chkF Tryd.prog eqTs Tryd.f87 m_digest_Add = true := by kernel_rfl
theorem c_slices_Chunk_suint64_uint64_1 : chkF Tryd.prog eqTs Tryd.f88 m_slices_Chunk_suint64_uint64_1 = true := by kernel_rfl
theorem c_digest_number_step : chkF Tryd.prog eqTs Tryd.f89 m_digest_number_step = true := by kernel_rfl
theorem c_tree_walk_1 : chkF Tryd.prog eqTs Tryd.f92 m_tree_walk_1 = true := by kernel_rfl
theorem c_digest_words : chkF Tryd.prog eqTs Tryd.f93 m_digest_words = true := by kernel_rfl
theorem c_digest_words_1 : chkF Tryd.prog eqTs Tryd.f94 m_digest_words_1 = true := by kernel_rfl
end Go.Proofs.YtfmbdcmjgnikiaaDoor.Sm
namespace Go.Proofs.YtfmbdcmjgnikiaaDoor.Sm
open Go

def L_law36_ImageKeeps_0 (X : Cx) (v1 v2 v3 v7 v8 v10 v116 v117 : SV) (h : Heap) (nx : Nat) (ls : List (Nat × LRec)) (wb : Nat) (Q : Ex → St → Prop) : Prop := Wp X l_law36_ImageKeeps_0 ⟨[(1, v1), (2, v2), (3, v3), (7, v7), (8, v8), (10, v10), (116, v116), (117, v117)], h, nx, ls, wb⟩ Q
theorem L_law36_ImageKeeps_0_eq {X : Cx} {e : Env} {h : Heap} {nx : Nat} {ls : List (Nat × LRec)} {wb : Nat} {Q : Ex → St → Prop} : Wp X l_law36_ImageKeeps_0 ⟨e, h, nx, ls, wb⟩ Q ↔ L_law36_ImageKeeps_0 X (getE e 1) (getE e 2) (getE e 3) (getE e 7) (getE e 8) (getE e 10) (getE e 116) (getE e 117) h nx ls wb Q := wp_loop_env
theorem L_law36_ImageKeeps_0_unf {X : Cx} {v1 v2 v3 v7 v8 v10 v116 v117 : SV} {h : Heap} {nx : Nat} {ls : List (Nat × LRec)} {wb : Nat} {Q : Ex → St → Prop} : L_law36_ImageKeeps_0 X v1 v2 v3 v7 v8 v10 v116 v117 h nx ls wb Q ↔ Wp X b_law36_ImageKeeps_0 ⟨[(1, v1), (2, v2), (3, v3), (7, v7), (8, v8), (10, v10), (116, v116), (117, v117)], h, nx, ls, wb⟩ (seqK X l_law36_ImageKeeps_0 Q) := by
  unfold L_law36_ImageKeeps_0 l_law36_ImageKeeps_0
  rw [wp_loop, wp_trim]
  rfl
def L_law36_ImageSizes_0 (X : Cx) (v0 v1 v5 v8 v9 v10 v11 : SV) (h : Heap) (nx : Nat) (ls : List (Nat × LRec)) (wb : Nat) (Q : Ex → St → Prop) : Prop := Wp X l_law36_ImageSizes_0 ⟨[(0, v0), (1, v1), (5, v5), (8, v8), (9, v9), (10, v10), (11, v11)], h, nx, ls, wb⟩ Q
theorem L_law36_ImageSizes_0_eq {X : Cx} {e : Env} {h : Heap} {nx : Nat} {ls : List (Nat × LRec)} {wb : Nat} {Q : Ex → St → Prop} : Wp X l_law36_ImageSizes_0 ⟨e, h, nx, ls, wb⟩ Q ↔ L_law36_ImageSizes_0 X (getE e 0) (getE e 1) (getE e 5) (getE e 8) (getE e 9) (getE e 10) (getE e 11) h nx ls wb Q := wp_loop_env
theorem L_law36_ImageSizes_0_unf {X : Cx} {v0 v1 v5 v8 v9 v10 v11 : SV} {h : Heap} {nx : Nat} {ls : List (Nat × LRec)} {wb : Nat} {Q : Ex → St → Prop} : L_law36_ImageSizes_0 X v0 v1 v5 v8 v9 v10 v11 h nx ls wb Q ↔ Wp X b_law36_ImageSizes_0 ⟨[(0, v0), (1, v1), (5, v5), (8, v8), (9, v9), (10, v10), (11, v11)], h, nx, ls, wb⟩ (seqK X l_law36_ImageSizes_0 Q) := by
  unfold L_law36_ImageSizes_0 l_law36_ImageSizes_0
  rw [wp_loop, wp_trim]
  rfl
def L_law36_ImageLoads_0 (X : Cx) (v0 v7 v10 v12 v43 v44 v45 : SV) (h : Heap) (nx : Nat) (ls : List (Nat × LRec)) (wb : Nat) (Q : Ex → St → Prop) : Prop := Wp X l_law36_ImageLoads_0 ⟨[(0, v0), (7, v7), (10, v10), (12, v12), (43, v43), (44, v44), (45, v45)], h, nx, ls, wb⟩ Q
theorem L_law36_ImageLoads_0_eq {X : Cx} {e : Env} {h : Heap} {nx : Nat} {ls : List (Nat × LRec)} {wb : Nat} {Q : Ex → St → Prop} : Wp X l_law36_ImageLoads_0 ⟨e, h, nx, ls, wb⟩ Q ↔ L_law36_ImageLoads_0 X (getE e 0) (getE e 7) (getE e 10) (getE e 12) (getE e 43) (getE e 44) (getE e 45) h nx ls wb Q := wp_loop_env
theorem L_law36_ImageLoads_0_unf {X : Cx} {v0 v7 v10 v12 v43 v44 v45 : SV} {h : Heap} {nx : Nat} {ls : List (Nat × LRec)} {wb : Nat} {Q : Ex → St → Prop} : L_law36_ImageLoads_0 X v0 v7 v10 v12 v43 v44 v45 h nx ls wb Q ↔ Wp X b_law36_ImageLoads_0 ⟨[(0, v0), (7, v7), (10, v10), (12, v12), (43, v43), (44, v44), (45, v45)], h, nx, ls, wb⟩ (seqK X l_law36_ImageLoads_0 Q) := by
  unfold L_law36_ImageLoads_0 l_law36_ImageLoads_0
  rw [wp_loop, wp_trim]
  rfl
def L_law36_short_0 (X : Cx) (v0 v1 v7 v8 v9 : SV) (h : Heap) (nx : Nat) (ls : List (Nat × LRec)) (wb : Nat) (Q : Ex → St → Prop) : Prop := Wp X l_law36_short_0 ⟨[(0, v0), (1, v1), (7, v7), (8, v8), (9, v9)], h, nx, ls, wb⟩ Q
theorem L_law36_short_0_eq {X : Cx} {e : Env} {h : Heap} {nx : Nat} {ls : List (Nat × LRec)} {wb : Nat} {Q : Ex → St → Prop} : Wp X l_law36_short_0 ⟨e, h, nx, ls, wb⟩ Q ↔ L_law36_short_0 X (getE e 0) (getE e 1) (getE e 7) (getE e 8) (getE e 9) h nx ls wb Q := wp_loop_env
theorem L_law36_short_0_unf {X : Cx} {v0 v1 v7 v8 v9 : SV} {h : Heap} {nx : Nat} {ls : List (Nat × LRec)} {wb : Nat} {Q : Ex → St → Prop} : L_law36_short_0 X v0 v1 v7 v8 v9 h nx ls wb Q ↔ Wp X b_law36_short_0 ⟨[(0, v0), (1, v1), (7, v7), (8, v8), (9, v9)], h, nx, ls, wb⟩ (seqK X l_law36_short_0 Q) := by
  unfold L_law36_short_0 l_law36_short_0
  rw [wp_loop, wp_trim]
  rfl
def L_ref36_Few_0 (X : Cx) (v1 v3 : SV) (h : Heap) (nx : Nat) (ls : List (Nat × LRec)) (wb : Nat) (Q : Ex → St → Prop) : Prop := Wp X l_ref36_Few_0 ⟨[(1, v1), (3, v3)], h, nx, ls, wb⟩ Q
theorem L_ref36_Few_0_eq {X : Cx} {e : Env} {h : Heap} {nx : Nat} {ls : List (Nat × LRec)} {wb : Nat} {Q : Ex → St → Prop} : Wp X l_ref36_Few_0 ⟨e, h, nx, ls, wb⟩ Q ↔ L_ref36_Few_0 X (getE e 1) (getE e 3) h nx ls wb Q := wp_loop_env
theorem L_ref36_Few_0_unf {X : Cx} {v1 v3 : SV} {h : Heap} {nx : Nat} {ls : List (Nat × LRec)} {wb : Nat} {Q : Ex → St → Prop} : L_ref36_Few_0 X v1 v3 h nx ls wb Q ↔ Wp X b_ref36_Few_0 ⟨[(1, v1), (3, v3)], h, nx, ls, wb⟩ (seqK X l_ref36_Few_0 Q) := by
  unfold L_ref36_Few_0 l_ref36_Few_0
  rw [wp_loop, wp_trim]
  rfl
def L_ref36_Few_1 (X : Cx) (v1 v4 : SV) (h : Heap) (nx : Nat) (ls : List (Nat × LRec)) (wb : Nat) (Q : Ex → St → Prop) : Prop := Wp X l_ref36_Few_1 ⟨[(1, v1), (4, v4)], h, nx, ls, wb⟩ Q
theorem L_ref36_Few_1_eq {X : Cx} {e : Env} {h : Heap} {nx : Nat} {ls : List (Nat × LRec)} {wb : Nat} {Q : Ex → St → Prop} : Wp X l_ref36_Few_1 ⟨e, h, nx, ls, wb⟩ Q ↔ L_ref36_Few_1 X (getE e 1) (getE e 4) h nx ls wb Q := wp_loop_env
theorem L_ref36_Few_1_unf {X : Cx} {v1 v4 : SV} {h : Heap} {nx : Nat} {ls : List (Nat × LRec)} {wb : Nat} {Q : Ex → St → Prop} : L_ref36_Few_1 X v1 v4 h nx ls wb Q ↔ Wp X b_ref36_Few_1 ⟨[(1, v1), (4, v4)], h, nx, ls, wb⟩ (seqK X l_ref36_Few_1 Q) := by
  unfold L_ref36_Few_1 l_ref36_Few_1
  rw [wp_loop, wp_trim]
  rfl
def L_ref36_Few_2 (X : Cx) (v1 v5 : SV) (h : Heap) (nx : Nat) (ls : List (Nat × LRec)) (wb : Nat) (Q : Ex → St → Prop) : Prop := Wp X l_ref36_Few_2 ⟨[(1, v1), (5, v5)], h, nx, ls, wb⟩ Q
theorem L_ref36_Few_2_eq {X : Cx} {e : Env} {h : Heap} {nx : Nat} {ls : List (Nat × LRec)} {wb : Nat} {Q : Ex → St → Prop} : Wp X l_ref36_Few_2 ⟨e, h, nx, ls, wb⟩ Q ↔ L_ref36_Few_2 X (getE e 1) (getE e 5) h nx ls wb Q := wp_loop_env
theorem L_ref36_Few_2_unf {X : Cx} {v1 v5 : SV} {h : Heap} {nx : Nat} {ls : List (Nat × LRec)} {wb : Nat} {Q : Ex → St → Prop} : L_ref36_Few_2 X v1 v5 h nx ls wb Q ↔ Wp X b_ref36_Few_2 ⟨[(1, v1), (5, v5)], h, nx, ls, wb⟩ (seqK X l_ref36_Few_2 Q) := by
  unfold L_ref36_Few_2 l_ref36_Few_2
  rw [wp_loop, wp_trim]
  rfl
def L_ref36_Split_0 (X : Cx) (v0 v4 v5 v6 v7 : SV) (h : Heap) (nx : Nat) (ls : List (Nat × LRec)) (wb : Nat) (Q : Ex → St → Prop) : Prop := Wp X l_ref36_Split_0 ⟨[(0, v0), (4, v4), (5, v5), (6, v6), (7, v7)], h, nx, ls, wb⟩ Q
theorem L_ref36_Split_0_eq {X : Cx} {e : Env} {h : Heap} {nx : Nat} {ls : List (Nat × LRec)} {wb : Nat} {Q : Ex → St → Prop} : Wp X l_ref36_Split_0 ⟨e, h, nx, ls, wb⟩ Q ↔ L_ref36_Split_0 X (getE e 0) (getE e 4) (getE e 5) (getE e 6) (getE e 7) h nx ls wb Q := wp_loop_env
theorem L_ref36_Split_0_unf {X : Cx} {v0 v4 v5 v6 v7 : SV} {h : Heap} {nx : Nat} {ls : List (Nat × LRec)} {wb : Nat} {Q : Ex → St → Prop} : L_ref36_Split_0 X v0 v4 v5 v6 v7 h nx ls wb Q ↔ Wp X b_ref36_Split_0 ⟨[(0, v0), (4, v4), (5, v5), (6, v6), (7, v7)], h, nx, ls, wb⟩ (seqK X l_ref36_Split_0 Q) := by
  unfold L_ref36_Split_0 l_ref36_Split_0
  rw [wp_loop, wp_trim]
  rfl
def L_ref36_Split_1 (X : Cx) (v0 v4 v5 : SV) (h : Heap) (nx : Nat) (ls : List (Nat × LRec)) (wb : Nat) (Q : Ex → St → Prop) : Prop := Wp X l_ref36_Split_1 ⟨[(0, v0), (4, v4), (5, v5)], h, nx, ls, wb⟩ Q
theorem L_ref36_Split_1_eq {X : Cx} {e : Env} {h : Heap} {nx : Nat} {ls : List (Nat × LRec)} {wb : Nat} {Q : Ex → St → Prop} : Wp X l_ref36_Split_1 ⟨e, h, nx, ls, wb⟩ Q ↔ L_ref36_Split_1 X (getE e 0) (getE e 4) (getE e 5) h nx ls wb Q := wp_loop_env
theorem L_ref36_Split_1_unf {X : Cx} {v0 v4 v5 : SV} {h : Heap} {nx : Nat} {ls : List (Nat × LRec)} {wb : Nat} {Q : Ex → St → Prop} : L_ref36_Split_1 X v0 v4 v5 h nx ls wb Q ↔ Wp X b_ref36_Split_1 ⟨[(0, v0), (4, v4), (5, v5)], h, nx, ls, wb⟩ (seqK X l_ref36_Split_1 Q) := by
  unfold L_ref36_Split_1 l_ref36_Split_1
  rw [wp_loop, wp_trim]
  rfl
def L_ref36_Join_0 (X : Cx) (v0 v1 v6 v7 v8 : SV) (h : Heap) (nx : Nat) (ls : List (Nat × LRec)) (wb : Nat) (Q : Ex → St → Prop) : Prop := Wp X l_ref36_Join_0 ⟨[(0, v0), (1, v1), (6, v6), (7, v7), (8, v8)], h, nx, ls, wb⟩ Q
theorem L_ref36_Join_0_eq {X : Cx} {e : Env} {h : Heap} {nx : Nat} {ls : List (Nat × LRec)} {wb : Nat} {Q : Ex → St → Prop} : Wp X l_ref36_Join_0 ⟨e, h, nx, ls, wb⟩ Q ↔ L_ref36_Join_0 X (getE e 0) (getE e 1) (getE e 6) (getE e 7) (getE e 8) h nx ls wb Q := wp_loop_env
theorem L_ref36_Join_0_unf {X : Cx} {v0 v1 v6 v7 v8 : SV} {h : Heap} {nx : Nat} {ls : List (Nat × LRec)} {wb : Nat} {Q : Ex → St → Prop} : L_ref36_Join_0 X v0 v1 v6 v7 v8 h nx ls wb Q ↔ Wp X b_ref36_Join_0 ⟨[(0, v0), (1, v1), (6, v6), (7, v7), (8, v8)], h, nx, ls, wb⟩ (seqK X l_ref36_Join_0 Q) := by
  unfold L_ref36_Join_0 l_ref36_Join_0
  rw [wp_loop, wp_trim]
  rfl
def L_ref36_Join_1 (X : Cx) (v0 v1 v6 v7 : SV) (h : Heap) (nx : Nat) (ls : List (Nat × LRec)) (wb : Nat) (Q : Ex → St → Prop) : Prop := Wp X l_ref36_Join_1 ⟨[(0, v0), (1, v1), (6, v6), (7, v7)], h, nx, ls, wb⟩ Q
theorem L_ref36_Join_1_eq {X : Cx} {e : Env} {h : Heap} {nx : Nat} {ls : List (Nat × LRec)} {wb : Nat} {Q : Ex → St → Prop} : Wp X l_ref36_Join_1 ⟨e, h, nx, ls, wb⟩ Q ↔ L_ref36_Join_1 X (getE e 0) (getE e 1) (getE e 6) (getE e 7) h nx ls wb Q := wp_loop_env
theorem L_ref36_Join_1_unf {X : Cx} {v0 v1 v6 v7 : SV} {h : Heap} {nx : Nat} {ls : List (Nat × LRec)} {wb : Nat} {Q : Ex → St → Prop} : L_ref36_Join_1 X v0 v1 v6 v7 h nx ls wb Q ↔ Wp X b_ref36_Join_1 ⟨[(0, v0), (1, v1), (6, v6), (7, v7)], h, nx, ls, wb⟩ (seqK X l_ref36_Join_1 Q) := by
  unfold L_ref36_Join_1 l_ref36_Join_1
  rw [wp_loop, wp_trim]
  rfl
def L_ref36_Lists_0 (X : Cx) (v0 v1 v5 : SV) (h : Heap) (nx : Nat) (ls : List (Nat × LRec)) (wb : Nat) (Q : Ex → St → Prop) : Prop := Wp X l_ref36_Lists_0 ⟨[(0, v0), (1, v1), (5, v5)], h, nx, ls, wb⟩ Q
theorem L_ref36_Lists_0_eq {X : Cx} {e : Env} {h : Heap} {nx : Nat} {ls : List (Nat × LRec)} {wb : Nat} {Q : Ex → St → Prop} : Wp X l_ref36_Lists_0 ⟨e, h, nx, ls, wb⟩ Q ↔ L_ref36_Lists_0 X (getE e 0) (getE e 1) (getE e 5) h nx ls wb Q := wp_loop_env
theorem L_ref36_Lists_0_unf {X : Cx} {v0 v1 v5 : SV} {h : Heap} {nx : Nat} {ls : List (Nat × LRec)} {wb : Nat} {Q : Ex → St → Prop} : L_ref36_Lists_0 X v0 v1 v5 h nx ls wb Q ↔ Wp X b_ref36_Lists_0 ⟨[(0, v0), (1, v1), (5, v5)], h, nx, ls, wb⟩ (seqK X l_ref36_Lists_0 Q) := by
  unfold L_ref36_Lists_0 l_ref36_Lists_0
  rw [wp_loop, wp_trim]
  rfl
def L_ref36_Bytes_0 (X : Cx) (v0 v1 v5 : SV) (h : Heap) (nx : Nat) (ls : List (Nat × LRec)) (wb : Nat) (Q : Ex → St → Prop) : Prop := Wp X l_ref36_Bytes_0 ⟨[(0, v0), (1, v1), (5, v5)], h, nx, ls, wb⟩ Q
theorem L_ref36_Bytes_0_eq {X : Cx} {e : Env} {h : Heap} {nx : Nat} {ls : List (Nat × LRec)} {wb : Nat} {Q : Ex → St → Prop} : Wp X l_ref36_Bytes_0 ⟨e, h, nx, ls, wb⟩ Q ↔ L_ref36_Bytes_0 X (getE e 0) (getE e 1) (getE e 5) h nx ls wb Q := wp_loop_env
theorem L_ref36_Bytes_0_unf {X : Cx} {v0 v1 v5 : SV} {h : Heap} {nx : Nat} {ls : List (Nat × LRec)} {wb : Nat} {Q : Ex → St → Prop} : L_ref36_Bytes_0 X v0 v1 v5 h nx ls wb Q ↔ Wp X b_ref36_Bytes_0 ⟨[(0, v0), (1, v1), (5, v5)], h, nx, ls, wb⟩ (seqK X l_ref36_Bytes_0 Q) := by
  unfold L_ref36_Bytes_0 l_ref36_Bytes_0
  rw [wp_loop, wp_trim]
  rfl
def L_image_Put_0 (X : Cx) (v2 v6 v8 v9 v62 v63 v64 : SV) (h : Heap) (nx : Nat) (ls : List (Nat × LRec)) (wb : Nat) (Q : Ex → St → Prop) : Prop := Wp X l_image_Put_0 ⟨[(2, v2), (6, v6), (8, v8), (9, v9), (62, v62), (63, v63), (64, v64)], h, nx, ls, wb⟩ Q
theorem L_image_Put_0_eq {X : Cx} {e : Env} {h : Heap} {nx : Nat} {ls : List (Nat × LRec)} {wb : Nat} {Q : Ex → St → Prop} : Wp X l_image_Put_0 ⟨e, h, nx, ls, wb⟩ Q ↔ L_image_Put_0 X (getE e 2) (getE e 6) (getE e 8) (getE e 9) (getE e 62) (getE e 63) (getE e 64) h nx ls wb Q := wp_loop_env
theorem L_image_Put_0_unf {X : Cx} {v2 v6 v8 v9 v62 v63 v64 : SV} {h : Heap} {nx : Nat} {ls : List (Nat × LRec)} {wb : Nat} {Q : Ex → St → Prop} : L_image_Put_0 X v2 v6 v8 v9 v62 v63 v64 h nx ls wb Q ↔ Wp X b_image_Put_0 ⟨[(2, v2), (6, v6), (8, v8), (9, v9), (62, v62), (63, v63), (64, v64)], h, nx, ls, wb⟩ (seqK X l_image_Put_0 Q) := by
  unfold L_image_Put_0 l_image_Put_0
  rw [wp_loop, wp_trim]
  rfl
def L_image_Put_1 (X : Cx) (v6 v9 v82 v83 v84 : SV) (h : Heap) (nx : Nat) (ls : List (Nat × LRec)) (wb : Nat) (Q : Ex → St → Prop) : Prop := Wp X l_image_Put_1 ⟨[(6, v6), (9, v9), (82, v82), (83, v83), (84, v84)], h, nx, ls, wb⟩ Q
theorem L_image_Put_1_eq {X : Cx} {e : Env} {h : Heap} {nx : Nat} {ls : List (Nat × LRec)} {wb : Nat} {Q : Ex → St → Prop} : Wp X l_image_Put_1 ⟨e, h, nx, ls, wb⟩ Q ↔ L_image_Put_1 X (getE e 6) (getE e 9) (getE e 82) (getE e 83) (getE e 84) h nx ls wb Q := wp_loop_env
theorem L_image_Put_1_unf {X : Cx} {v6 v9 v82 v83 v84 : SV} {h : Heap} {nx : Nat} {ls : List (Nat × LRec)} {wb : Nat} {Q : Ex → St → Prop} : L_image_Put_1 X v6 v9 v82 v83 v84 h nx ls wb Q ↔ Wp X b_image_Put_1 ⟨[(6, v6), (9, v9), (82, v82), (83, v83), (84, v84)], h, nx, ls, wb⟩ (seqK X l_image_Put_1 Q) := by
  unfold L_image_Put_1 l_image_Put_1
  rw [wp_loop, wp_trim]
  rfl
def L_ref36_Put_0 (X : Cx) (v1 v2 v3 v6 v9 v10 : SV) (h : Heap) (nx : Nat) (ls : List (Nat × LRec)) (wb : Nat) (Q : Ex → St → Prop) : Prop := Wp X l_ref36_Put_0 ⟨[(1, v1), (2, v2), (3, v3), (6, v6), (9, v9), (10, v10)], h, nx, ls, wb⟩ Q
theorem L_ref36_Put_0_eq {X : Cx} {e : Env} {h : Heap} {nx : Nat} {ls : List (Nat × LRec)} {wb : Nat} {Q : Ex → St → Prop} : Wp X l_ref36_Put_0 ⟨e, h, nx, ls, wb⟩ Q ↔ L_ref36_Put_0 X (getE e 1) (getE e 2) (getE e 3) (getE e 6) (getE e 9) (getE e 10) h nx ls wb Q := wp_loop_env
theorem L_ref36_Put_0_unf {X : Cx} {v1 v2 v3 v6 v9 v10 : SV} {h : Heap} {nx : Nat} {ls : List (Nat × LRec)} {wb : Nat} {Q : Ex → St → Prop} : L_ref36_Put_0 X v1 v2 v3 v6 v9 v10 h nx ls wb Q ↔ Wp X b_ref36_Put_0 ⟨[(1, v1), (2, v2), (3, v3), (6, v6), (9, v9), (10, v10)], h, nx, ls, wb⟩ (seqK X l_ref36_Put_0 Q) := by
  unfold L_ref36_Put_0 l_ref36_Put_0
  rw [wp_loop, wp_trim]
  rfl
def L_ref36_Same_0 (X : Cx) (v2 v3 v5 : SV) (h : Heap) (nx : Nat) (ls : List (Nat × LRec)) (wb : Nat) (Q : Ex → St → Prop) : Prop := Wp X l_ref36_Same_0 ⟨[(2, v2), (3, v3), (5, v5)], h, nx, ls, wb⟩ Q
theorem L_ref36_Same_0_eq {X : Cx} {e : Env} {h : Heap} {nx : Nat} {ls : List (Nat × LRec)} {wb : Nat} {Q : Ex → St → Prop} : Wp X l_ref36_Same_0 ⟨e, h, nx, ls, wb⟩ Q ↔ L_ref36_Same_0 X (getE e 2) (getE e 3) (getE e 5) h nx ls wb Q := wp_loop_env
theorem L_ref36_Same_0_unf {X : Cx} {v2 v3 v5 : SV} {h : Heap} {nx : Nat} {ls : List (Nat × LRec)} {wb : Nat} {Q : Ex → St → Prop} : L_ref36_Same_0 X v2 v3 v5 h nx ls wb Q ↔ Wp X b_ref36_Same_0 ⟨[(2, v2), (3, v3), (5, v5)], h, nx, ls, wb⟩ (seqK X l_ref36_Same_0 Q) := by
  unfold L_ref36_Same_0 l_ref36_Same_0
  rw [wp_loop, wp_trim]
  rfl
def L_ref36_Sound_0 (X : Cx) (v1 v3 : SV) (h : Heap) (nx : Nat) (ls : List (Nat × LRec)) (wb : Nat) (Q : Ex → St → Prop) : Prop := Wp X l_ref36_Sound_0 ⟨[(1, v1), (3, v3)], h, nx, ls, wb⟩ Q
theorem L_ref36_Sound_0_eq {X : Cx} {e : Env} {h : Heap} {nx : Nat} {ls : List (Nat × LRec)} {wb : Nat} {Q : Ex → St → Prop} : Wp X l_ref36_Sound_0 ⟨e, h, nx, ls, wb⟩ Q ↔ L_ref36_Sound_0 X (getE e 1) (getE e 3) h nx ls wb Q := wp_loop_env
theorem L_ref36_Sound_0_unf {X : Cx} {v1 v3 : SV} {h : Heap} {nx : Nat} {ls : List (Nat × LRec)} {wb : Nat} {Q : Ex → St → Prop} : L_ref36_Sound_0 X v1 v3 h nx ls wb Q ↔ Wp X b_ref36_Sound_0 ⟨[(1, v1), (3, v3)], h, nx, ls, wb⟩ (seqK X l_ref36_Sound_0 Q) := by
  unfold L_ref36_Sound_0 l_ref36_Sound_0
  rw [wp_loop, wp_trim]
  rfl
def L_ref35_Same_0 (X : Cx) (v0 v1 v5 : SV) (h : Heap) (nx : Nat) (ls : List (Nat × LRec)) (wb : Nat) (Q : Ex → St → Prop) : Prop := Wp X l_ref35_Same_0 ⟨[(0, v0), (1, v1), (5, v5)], h, nx, ls, wb⟩ Q
theorem L_ref35_Same_0_eq {X : Cx} {e : Env} {h : Heap} {nx : Nat} {ls : List (Nat × LRec)} {wb : Nat} {Q : Ex → St → Prop} : Wp X l_ref35_Same_0 ⟨e, h, nx, ls, wb⟩ Q ↔ L_ref35_Same_0 X (getE e 0) (getE e 1) (getE e 5) h nx ls wb Q := wp_loop_env
theorem L_ref35_Same_0_unf {X : Cx} {v0 v1 v5 : SV} {h : Heap} {nx : Nat} {ls : List (Nat × LRec)} {wb : Nat} {Q : Ex → St → Prop} : L_ref35_Same_0 X v0 v1 v5 h nx ls wb Q ↔ Wp X b_ref35_Same_0 ⟨[(0, v0), (1, v1), (5, v5)], h, nx, ls, wb⟩ (seqK X l_ref35_Same_0 Q) := by
  unfold L_ref35_Same_0 l_ref35_Same_0
  rw [wp_loop, wp_trim]
  rfl
def L_law36_loaded_0 (X : Cx) (v2 v6 v10 v11 v12 v13 v14 : SV) (h : Heap) (nx : Nat) (ls : List (Nat × LRec)) (wb : Nat) (Q : Ex → St → Prop) : Prop := Wp X l_law36_loaded_0 ⟨[(2, v2), (6, v6), (10, v10), (11, v11), (12, v12), (13, v13), (14, v14)], h, nx, ls, wb⟩ Q
theorem L_law36_loaded_0_eq {X : Cx} {e : Env} {h : Heap} {nx : Nat} {ls : List (Nat × LRec)} {wb : Nat} {Q : Ex → St → Prop} : Wp X l_law36_loaded_0 ⟨e, h, nx, ls, wb⟩ Q ↔ L_law36_loaded_0 X (getE e 2) (getE e 6) (getE e 10) (getE e 11) (getE e 12) (getE e 13) (getE e 14) h nx ls wb Q := wp_loop_env
theorem L_law36_loaded_0_unf {X : Cx} {v2 v6 v10 v11 v12 v13 v14 : SV} {h : Heap} {nx : Nat} {ls : List (Nat × LRec)} {wb : Nat} {Q : Ex → St → Prop} : L_law36_loaded_0 X v2 v6 v10 v11 v12 v13 v14 h nx ls wb Q ↔ Wp X b_law36_loaded_0 ⟨[(2, v2), (6, v6), (10, v10), (11, v11), (12, v12), (13, v13), (14, v14)], h, nx, ls, wb⟩ (seqK X l_law36_loaded_0 Q) := by
  unfold L_law36_loaded_0 l_law36_loaded_0
  rw [wp_loop, wp_trim]
  rfl
def L_law36_sample_0 (X : Cx) (v1 v5 v6 : SV) (h : Heap) (nx : Nat) (ls : List (Nat × LRec)) (wb : Nat) (Q : Ex → St → Prop) : Prop := Wp X l_law36_sample_0 ⟨[(1, v1), (5, v5), (6, v6)], h, nx, ls, wb⟩ Q
theorem L_law36_sample_0_eq {X : Cx} {e : Env} {h : Heap} {nx : Nat} {ls : List (Nat × LRec)} {wb : Nat} {Q : Ex → St → Prop} : Wp X l_law36_sample_0 ⟨e, h, nx, ls, wb⟩ Q ↔ L_law36_sample_0 X (getE e 1) (getE e 5) (getE e 6) h nx ls wb Q := wp_loop_env
theorem L_law36_sample_0_unf {X : Cx} {v1 v5 v6 : SV} {h : Heap} {nx : Nat} {ls : List (Nat × LRec)} {wb : Nat} {Q : Ex → St → Prop} : L_law36_sample_0 X v1 v5 v6 h nx ls wb Q ↔ Wp X b_law36_sample_0 ⟨[(1, v1), (5, v5), (6, v6)], h, nx, ls, wb⟩ (seqK X l_law36_sample_0 Q) := by
  unfold L_law36_sample_0 l_law36_sample_0
  rw [wp_loop, wp_trim]
  rfl
def L_slices_Concat_sbyte_byte_0 (X : Cx) (v0 v3 v9 v10 v11 : SV) (h : Heap) (nx : Nat) (ls : List (Nat × LRec)) (wb : Nat) (Q : Ex → St → Prop) : Prop := Wp X l_slices_Concat_sbyte_byte_0 ⟨[(0, v0), (3, v3), (9, v9), (10, v10), (11, v11)], h, nx, ls, wb⟩ Q
theorem L_slices_Concat_sbyte_byte_0_eq {X : Cx} {e : Env} {h : Heap} {nx : Nat} {ls : List (Nat × LRec)} {wb : Nat} {Q : Ex → St → Prop} : Wp X l_slices_Concat_sbyte_byte_0 ⟨e, h, nx, ls, wb⟩ Q ↔ L_slices_Concat_sbyte_byte_0 X (getE e 0) (getE e 3) (getE e 9) (getE e 10) (getE e 11) h nx ls wb Q := wp_loop_env
theorem L_slices_Concat_sbyte_byte_0_unf {X : Cx} {v0 v3 v9 v10 v11 : SV} {h : Heap} {nx : Nat} {ls : List (Nat × LRec)} {wb : Nat} {Q : Ex → St → Prop} : L_slices_Concat_sbyte_byte_0 X v0 v3 v9 v10 v11 h nx ls wb Q ↔ Wp X b_slices_Concat_sbyte_byte_0 ⟨[(0, v0), (3, v3), (9, v9), (10, v10), (11, v11)], h, nx, ls, wb⟩ (seqK X l_slices_Concat_sbyte_byte_0 Q) := by
  unfold L_slices_Concat_sbyte_byte_0 l_slices_Concat_sbyte_byte_0
  rw [wp_loop, wp_trim]
  rfl
def L_slices_Concat_sbyte_byte_1 (X : Cx) (v6 v25 v26 v27 : SV) (h : Heap) (nx : Nat) (ls : List (Nat × LRec)) (wb : Nat) (Q : Ex → St → Prop) : Prop := Wp X l_slices_Concat_sbyte_byte_1 ⟨[(6, v6), (25, v25), (26, v26), (27, v27)], h, nx, ls, wb⟩ Q
theorem L_slices_Concat_sbyte_byte_1_eq {X : Cx} {e : Env} {h : Heap} {nx : Nat} {ls : List (Nat × LRec)} {wb : Nat} {Q : Ex → St → Prop} : Wp X l_slices_Concat_sbyte_byte_1 ⟨e, h, nx, ls, wb⟩ Q ↔ L_slices_Concat_sbyte_byte_1 X (getE e 6) (getE e 25) (getE e 26) (getE e 27) h nx ls wb Q := wp_loop_env
theorem L_slices_Concat_sbyte_byte_1_unf {X : Cx} {v6 v25 v26 v27 : SV} {h : Heap} {nx : Nat} {ls : List (Nat × LRec)} {wb : Nat} {Q : Ex → St → Prop} : L_slices_Concat_sbyte_byte_1 X v6 v25 v26 v27 h nx ls wb Q ↔ Wp X b_slices_Concat_sbyte_byte_1 ⟨[(6, v6), (25, v25), (26, v26), (27, v27)], h, nx, ls, wb⟩ (seqK X l_slices_Concat_sbyte_byte_1 Q) := by
  unfold L_slices_Concat_sbyte_byte_1 l_slices_Concat_sbyte_byte_1
  rw [wp_loop, wp_trim]
  rfl
def L_ref36_Pages_0 (X : Cx) (v0 v3 : SV) (h : Heap) (nx : Nat) (ls : List (Nat × LRec)) (wb : Nat) (Q : Ex → St → Prop) : Prop := Wp X l_ref36_Pages_0 ⟨[(0, v0), (3, v3)], h, nx, ls, wb⟩ Q
theorem L_ref36_Pages_0_eq {X : Cx} {e : Env} {h : Heap} {nx : Nat} {ls : List (Nat × LRec)} {wb : Nat} {Q : Ex → St → Prop} : Wp X l_ref36_Pages_0 ⟨e, h, nx, ls, wb⟩ Q ↔ L_ref36_Pages_0 X (getE e 0) (getE e 3) h nx ls wb Q := wp_loop_env
theorem L_ref36_Pages_0_unf {X : Cx} {v0 v3 : SV} {h : Heap} {nx : Nat} {ls : List (Nat × LRec)} {wb : Nat} {Q : Ex → St → Prop} : L_ref36_Pages_0 X v0 v3 h nx ls wb Q ↔ Wp X b_ref36_Pages_0 ⟨[(0, v0), (3, v3)], h, nx, ls, wb⟩ (seqK X l_ref36_Pages_0 Q) := by
  unfold L_ref36_Pages_0 l_ref36_Pages_0
  rw [wp_loop, wp_trim]
  rfl
def L_ref35_Root_0 (X : Cx) (v4 : SV) (h : Heap) (nx : Nat) (ls : List (Nat × LRec)) (wb : Nat) (Q : Ex → St → Prop) : Prop := Wp X l_ref35_Root_0 ⟨[(4, v4)], h, nx, ls, wb⟩ Q
theorem L_ref35_Root_0_eq {X : Cx} {e : Env} {h : Heap} {nx : Nat} {ls : List (Nat × LRec)} {wb : Nat} {Q : Ex → St → Prop} : Wp X l_ref35_Root_0 ⟨e, h, nx, ls, wb⟩ Q ↔ L_ref35_Root_0 X (getE e 4) h nx ls wb Q := wp_loop_env
theorem L_ref35_Root_0_unf {X : Cx} {v4 : SV} {h : Heap} {nx : Nat} {ls : List (Nat × LRec)} {wb : Nat} {Q : Ex → St → Prop} : L_ref35_Root_0 X v4 h nx ls wb Q ↔ Wp X b_ref35_Root_0 ⟨[(4, v4)], h, nx, ls, wb⟩ (seqK X l_ref35_Root_0 Q) := by
  unfold L_ref35_Root_0 l_ref35_Root_0
  rw [wp_loop, wp_trim]
  rfl
def L_image_load_sound_0 (X : Cx) (v1 v42 v43 v44 : SV) (h : Heap) (nx : Nat) (ls : List (Nat × LRec)) (wb : Nat) (Q : Ex → St → Prop) : Prop := Wp X l_image_load_sound_0 ⟨[(1, v1), (42, v42), (43, v43), (44, v44)], h, nx, ls, wb⟩ Q
theorem L_image_load_sound_0_eq {X : Cx} {e : Env} {h : Heap} {nx : Nat} {ls : List (Nat × LRec)} {wb : Nat} {Q : Ex → St → Prop} : Wp X l_image_load_sound_0 ⟨e, h, nx, ls, wb⟩ Q ↔ L_image_load_sound_0 X (getE e 1) (getE e 42) (getE e 43) (getE e 44) h nx ls wb Q := wp_loop_env
theorem L_image_load_sound_0_unf {X : Cx} {v1 v42 v43 v44 : SV} {h : Heap} {nx : Nat} {ls : List (Nat × LRec)} {wb : Nat} {Q : Ex → St → Prop} : L_image_load_sound_0 X v1 v42 v43 v44 h nx ls wb Q ↔ Wp X b_image_load_sound_0 ⟨[(1, v1), (42, v42), (43, v43), (44, v44)], h, nx, ls, wb⟩ (seqK X l_image_load_sound_0 Q) := by
  unfold L_image_load_sound_0 l_image_load_sound_0
  rw [wp_loop, wp_trim]
  rfl
def L_ref35_Check_0 (X : Cx) (v0 v1 v2 v4 v11 v12 : SV) (h : Heap) (nx : Nat) (ls : List (Nat × LRec)) (wb : Nat) (Q : Ex → St → Prop) : Prop := Wp X l_ref35_Check_0 ⟨[(0, v0), (1, v1), (2, v2), (4, v4), (11, v11), (12, v12)], h, nx, ls, wb⟩ Q
theorem L_ref35_Check_0_eq {X : Cx} {e : Env} {h : Heap} {nx : Nat} {ls : List (Nat × LRec)} {wb : Nat} {Q : Ex → St → Prop} : Wp X l_ref35_Check_0 ⟨e, h, nx, ls, wb⟩ Q ↔ L_ref35_Check_0 X (getE e 0) (getE e 1) (getE e 2) (getE e 4) (getE e 11) (getE e 12) h nx ls wb Q := wp_loop_env
theorem L_ref35_Check_0_unf {X : Cx} {v0 v1 v2 v4 v11 v12 : SV} {h : Heap} {nx : Nat} {ls : List (Nat × LRec)} {wb : Nat} {Q : Ex → St → Prop} : L_ref35_Check_0 X v0 v1 v2 v4 v11 v12 h nx ls wb Q ↔ Wp X b_ref35_Check_0 ⟨[(0, v0), (1, v1), (2, v2), (4, v4), (11, v11), (12, v12)], h, nx, ls, wb⟩ (seqK X l_ref35_Check_0 Q) := by
  unfold L_ref35_Check_0 l_ref35_Check_0
  rw [wp_loop, wp_trim]
  rfl
def L_ref36_proofs_0 (X : Cx) (v0 v1 v5 : SV) (h : Heap) (nx : Nat) (ls : List (Nat × LRec)) (wb : Nat) (Q : Ex → St → Prop) : Prop := Wp X l_ref36_proofs_0 ⟨[(0, v0), (1, v1), (5, v5)], h, nx, ls, wb⟩ Q
theorem L_ref36_proofs_0_eq {X : Cx} {e : Env} {h : Heap} {nx : Nat} {ls : List (Nat × LRec)} {wb : Nat} {Q : Ex → St → Prop} : Wp X l_ref36_proofs_0 ⟨e, h, nx, ls, wb⟩ Q ↔ L_ref36_proofs_0 X (getE e 0) (getE e 1) (getE e 5) h nx ls wb Q := wp_loop_env
theorem L_ref36_proofs_0_unf {X : Cx} {v0 v1 v5 : SV} {h : Heap} {nx : Nat} {ls : List (Nat × LRec)} {wb : Nat} {Q : Ex → St → Prop} : L_ref36_proofs_0 X v0 v1 v5 h nx ls wb Q ↔ Wp X b_ref36_proofs_0 ⟨[(0, v0), (1, v1), (5, v5)], h, nx, ls, wb⟩ (seqK X l_ref36_proofs_0 Q) := by
  unfold L_ref36_proofs_0 l_ref36_proofs_0
  rw [wp_loop, wp_trim]
  rfl
def L_ref05_Add_0 (X : Cx) (v0 v1 v5 : SV) (h : Heap) (nx : Nat) (ls : List (Nat × LRec)) (wb : Nat) (Q : Ex → St → Prop) : Prop := Wp X l_ref05_Add_0 ⟨[(0, v0), (1, v1), (5, v5)], h, nx, ls, wb⟩ Q
theorem L_ref05_Add_0_eq {X : Cx} {e : Env} {h : Heap} {nx : Nat} {ls : List (Nat × LRec)} {wb : Nat} {Q : Ex → St → Prop} : Wp X l_ref05_Add_0 ⟨e, h, nx, ls, wb⟩ Q ↔ L_ref05_Add_0 X (getE e 0) (getE e 1) (getE e 5) h nx ls wb Q := wp_loop_env
theorem L_ref05_Add_0_unf {X : Cx} {v0 v1 v5 : SV} {h : Heap} {nx : Nat} {ls : List (Nat × LRec)} {wb : Nat} {Q : Ex → St → Prop} : L_ref05_Add_0 X v0 v1 v5 h nx ls wb Q ↔ Wp X b_ref05_Add_0 ⟨[(0, v0), (1, v1), (5, v5)], h, nx, ls, wb⟩ (seqK X l_ref05_Add_0 Q) := by
  unfold L_ref05_Add_0 l_ref05_Add_0
  rw [wp_loop, wp_trim]
  rfl
def L_slices_Chunk_sbyte_byte_1_0 (X : Cx) (v0 v1 v2 v4 : SV) (h : Heap) (nx : Nat) (ls : List (Nat × LRec)) (wb : Nat) (Q : Ex → St → Prop) : Prop := Wp X l_slices_Chunk_sbyte_byte_1_0 ⟨[(0, v0), (1, v1), (2, v2), (4, v4)], h, nx, ls, wb⟩ Q
theorem L_slices_Chunk_sbyte_byte_1_0_eq {X : Cx} {e : Env} {h : Heap} {nx : Nat} {ls : List (Nat × LRec)} {wb : Nat} {Q : Ex → St → Prop} : Wp X l_slices_Chunk_sbyte_byte_1_0 ⟨e, h, nx, ls, wb⟩ Q ↔ L_slices_Chunk_sbyte_byte_1_0 X (getE e 0) (getE e 1) (getE e 2) (getE e 4) h nx ls wb Q := wp_loop_env
theorem L_slices_Chunk_sbyte_byte_1_0_unf {X : Cx} {v0 v1 v2 v4 : SV} {h : Heap} {nx : Nat} {ls : List (Nat × LRec)} {wb : Nat} {Q : Ex → St → Prop} : L_slices_Chunk_sbyte_byte_1_0 X v0 v1 v2 v4 h nx ls wb Q ↔ Wp X b_slices_Chunk_sbyte_byte_1_0 ⟨[(0, v0), (1, v1), (2, v2), (4, v4)], h, nx, ls, wb⟩ (seqK X l_slices_Chunk_sbyte_byte_1_0 Q) := by
  unfold L_slices_Chunk_sbyte_byte_1_0 l_slices_Chunk_sbyte_byte_1_0
  rw [wp_loop, wp_trim]
  rfl
def L_bytes_trimLeftByte_0 (X : Cx) (v0 v1 : SV) (h : Heap) (nx : Nat) (ls : List (Nat × LRec)) (wb : Nat) (Q : Ex → St → Prop) : Prop := Wp X l_bytes_trimLeftByte_0 ⟨[(0, v0), (1, v1)], h, nx, ls, wb⟩ Q
theorem L_bytes_trimLeftByte_0_eq {X : Cx} {e : Env} {h : Heap} {nx : Nat} {ls : List (Nat × LRec)} {wb : Nat} {Q : Ex → St → Prop} : Wp X l_bytes_trimLeftByte_0 ⟨e, h, nx, ls, wb⟩ Q ↔ L_bytes_trimLeftByte_0 X (getE e 0) (getE e 1) h nx ls wb Q := wp_loop_env
theorem L_bytes_trimLeftByte_0_unf {X : Cx} {v0 v1 : SV} {h : Heap} {nx : Nat} {ls : List (Nat × LRec)} {wb : Nat} {Q : Ex → St → Prop} : L_bytes_trimLeftByte_0 X v0 v1 h nx ls wb Q ↔ Wp X b_bytes_trimLeftByte_0 ⟨[(0, v0), (1, v1)], h, nx, ls, wb⟩ (seqK X l_bytes_trimLeftByte_0 Q) := by
  unfold L_bytes_trimLeftByte_0 l_bytes_trimLeftByte_0
  rw [wp_loop, wp_trim]
  rfl
def L_bytes_trimRightByte_0 (X : Cx) (v0 v1 : SV) (h : Heap) (nx : Nat) (ls : List (Nat × LRec)) (wb : Nat) (Q : Ex → St → Prop) : Prop := Wp X l_bytes_trimRightByte_0 ⟨[(0, v0), (1, v1)], h, nx, ls, wb⟩ Q
theorem L_bytes_trimRightByte_0_eq {X : Cx} {e : Env} {h : Heap} {nx : Nat} {ls : List (Nat × LRec)} {wb : Nat} {Q : Ex → St → Prop} : Wp X l_bytes_trimRightByte_0 ⟨e, h, nx, ls, wb⟩ Q ↔ L_bytes_trimRightByte_0 X (getE e 0) (getE e 1) h nx ls wb Q := wp_loop_env
theorem L_bytes_trimRightByte_0_unf {X : Cx} {v0 v1 : SV} {h : Heap} {nx : Nat} {ls : List (Nat × LRec)} {wb : Nat} {Q : Ex → St → Prop} : L_bytes_trimRightByte_0 X v0 v1 h nx ls wb Q ↔ Wp X b_bytes_trimRightByte_0 ⟨[(0, v0), (1, v1)], h, nx, ls, wb⟩ (seqK X l_bytes_trimRightByte_0 Q) := by
  unfold L_bytes_trimRightByte_0 l_bytes_trimRightByte_0
  rw [wp_loop, wp_trim]
  rfl
def L_ref35_Pages_0 (X : Cx) (v0 v3 : SV) (h : Heap) (nx : Nat) (ls : List (Nat × LRec)) (wb : Nat) (Q : Ex → St → Prop) : Prop := Wp X l_ref35_Pages_0 ⟨[(0, v0), (3, v3)], h, nx, ls, wb⟩ Q
theorem L_ref35_Pages_0_eq {X : Cx} {e : Env} {h : Heap} {nx : Nat} {ls : List (Nat × LRec)} {wb : Nat} {Q : Ex → St → Prop} : Wp X l_ref35_Pages_0 ⟨e, h, nx, ls, wb⟩ Q ↔ L_ref35_Pages_0 X (getE e 0) (getE e 3) h nx ls wb Q := wp_loop_env
theorem L_ref35_Pages_0_unf {X : Cx} {v0 v3 : SV} {h : Heap} {nx : Nat} {ls : List (Nat × LRec)} {wb : Nat} {Q : Ex → St → Prop} : L_ref35_Pages_0 X v0 v3 h nx ls wb Q ↔ Wp X b_ref35_Pages_0 ⟨[(0, v0), (3, v3)], h, nx, ls, wb⟩ (seqK X l_ref35_Pages_0 Q) := by
  unfold L_ref35_Pages_0 l_ref35_Pages_0
  rw [wp_loop, wp_trim]
  rfl
def L_ref35_leaves_0 (X : Cx) (v0 v3 v4 : SV) (h : Heap) (nx : Nat) (ls : List (Nat × LRec)) (wb : Nat) (Q : Ex → St → Prop) : Prop := Wp X l_ref35_leaves_0 ⟨[(0, v0), (3, v3), (4, v4)], h, nx, ls, wb⟩ Q
theorem L_ref35_leaves_0_eq {X : Cx} {e : Env} {h : Heap} {nx : Nat} {ls : List (Nat × LRec)} {wb : Nat} {Q : Ex → St → Prop} : Wp X l_ref35_leaves_0 ⟨e, h, nx, ls, wb⟩ Q ↔ L_ref35_leaves_0 X (getE e 0) (getE e 3) (getE e 4) h nx ls wb Q := wp_loop_env
theorem L_ref35_leaves_0_unf {X : Cx} {v0 v3 v4 : SV} {h : Heap} {nx : Nat} {ls : List (Nat × LRec)} {wb : Nat} {Q : Ex → St → Prop} : L_ref35_leaves_0 X v0 v3 v4 h nx ls wb Q ↔ Wp X b_ref35_leaves_0 ⟨[(0, v0), (3, v3), (4, v4)], h, nx, ls, wb⟩ (seqK X l_ref35_leaves_0 Q) := by
  unfold L_ref35_leaves_0 l_ref35_leaves_0
  rw [wp_loop, wp_trim]
  rfl
def L_ref35_Next_0 (X : Cx) (v0 v3 v4 : SV) (h : Heap) (nx : Nat) (ls : List (Nat × LRec)) (wb : Nat) (Q : Ex → St → Prop) : Prop := Wp X l_ref35_Next_0 ⟨[(0, v0), (3, v3), (4, v4)], h, nx, ls, wb⟩ Q
theorem L_ref35_Next_0_eq {X : Cx} {e : Env} {h : Heap} {nx : Nat} {ls : List (Nat × LRec)} {wb : Nat} {Q : Ex → St → Prop} : Wp X l_ref35_Next_0 ⟨e, h, nx, ls, wb⟩ Q ↔ L_ref35_Next_0 X (getE e 0) (getE e 3) (getE e 4) h nx ls wb Q := wp_loop_env
theorem L_ref35_Next_0_unf {X : Cx} {v0 v3 v4 : SV} {h : Heap} {nx : Nat} {ls : List (Nat × LRec)} {wb : Nat} {Q : Ex → St → Prop} : L_ref35_Next_0 X v0 v3 v4 h nx ls wb Q ↔ Wp X b_ref35_Next_0 ⟨[(0, v0), (3, v3), (4, v4)], h, nx, ls, wb⟩ (seqK X l_ref35_Next_0 Q) := by
  unfold L_ref35_Next_0 l_ref35_Next_0
  rw [wp_loop, wp_trim]
  rfl
def L_ref35_Length_0 (X : Cx) (v0 v1 v5 : SV) (h : Heap) (nx : Nat) (ls : List (Nat × LRec)) (wb : Nat) (Q : Ex → St → Prop) : Prop := Wp X l_ref35_Length_0 ⟨[(0, v0), (1, v1), (5, v5)], h, nx, ls, wb⟩ Q
theorem L_ref35_Length_0_eq {X : Cx} {e : Env} {h : Heap} {nx : Nat} {ls : List (Nat × LRec)} {wb : Nat} {Q : Ex → St → Prop} : Wp X l_ref35_Length_0 ⟨e, h, nx, ls, wb⟩ Q ↔ L_ref35_Length_0 X (getE e 0) (getE e 1) (getE e 5) h nx ls wb Q := wp_loop_env
theorem L_ref35_Length_0_unf {X : Cx} {v0 v1 v5 : SV} {h : Heap} {nx : Nat} {ls : List (Nat × LRec)} {wb : Nat} {Q : Ex → St → Prop} : L_ref35_Length_0 X v0 v1 v5 h nx ls wb Q ↔ Wp X b_ref35_Length_0 ⟨[(0, v0), (1, v1), (5, v5)], h, nx, ls, wb⟩ (seqK X l_ref35_Length_0 Q) := by
  unfold L_ref35_Length_0 l_ref35_Length_0
  rw [wp_loop, wp_trim]
  rfl
def L_tree_levels_1_0 (X : Cx) (v0 v3 v8 v9 v10 : SV) (h : Heap) (nx : Nat) (ls : List (Nat × LRec)) (wb : Nat) (Q : Ex → St → Prop) : Prop := Wp X l_tree_levels_1_0 ⟨[(0, v0), (3, v3), (8, v8), (9, v9), (10, v10)], h, nx, ls, wb⟩ Q
theorem L_tree_levels_1_0_eq {X : Cx} {e : Env} {h : Heap} {nx : Nat} {ls : List (Nat × LRec)} {wb : Nat} {Q : Ex → St → Prop} : Wp X l_tree_levels_1_0 ⟨e, h, nx, ls, wb⟩ Q ↔ L_tree_levels_1_0 X (getE e 0) (getE e 3) (getE e 8) (getE e 9) (getE e 10) h nx ls wb Q := wp_loop_env
theorem L_tree_levels_1_0_unf {X : Cx} {v0 v3 v8 v9 v10 : SV} {h : Heap} {nx : Nat} {ls : List (Nat × LRec)} {wb : Nat} {Q : Ex → St → Prop} : L_tree_levels_1_0 X v0 v3 v8 v9 v10 h nx ls wb Q ↔ Wp X b_tree_levels_1_0 ⟨[(0, v0), (3, v3), (8, v8), (9, v9), (10, v10)], h, nx, ls, wb⟩ (seqK X l_tree_levels_1_0 Q) := by
  unfold L_tree_levels_1_0 l_tree_levels_1_0
  rw [wp_loop, wp_trim]
  rfl
def L_tree_levels_1_2 (X : Cx) (v0 v3 : SV) (h : Heap) (nx : Nat) (ls : List (Nat × LRec)) (wb : Nat) (Q : Ex → St → Prop) : Prop := Wp X l_tree_levels_1_2 ⟨[(0, v0), (3, v3)], h, nx, ls, wb⟩ Q
theorem L_tree_levels_1_2_eq {X : Cx} {e : Env} {h : Heap} {nx : Nat} {ls : List (Nat × LRec)} {wb : Nat} {Q : Ex → St → Prop} : Wp X l_tree_levels_1_2 ⟨e, h, nx, ls, wb⟩ Q ↔ L_tree_levels_1_2 X (getE e 0) (getE e 3) h nx ls wb Q := wp_loop_env
theorem L_tree_levels_1_2_unf {X : Cx} {v0 v3 : SV} {h : Heap} {nx : Nat} {ls : List (Nat × LRec)} {wb : Nat} {Q : Ex → St → Prop} : L_tree_levels_1_2 X v0 v3 h nx ls wb Q ↔ Wp X b_tree_levels_1_2 ⟨[(0, v0), (3, v3)], h, nx, ls, wb⟩ (seqK X l_tree_levels_1_2 Q) := by
  unfold L_tree_levels_1_2 l_tree_levels_1_2
  rw [wp_loop, wp_trim]
  rfl
def L_tree_leaf_0 (X : Cx) (v3 v8 v9 v10 : SV) (h : Heap) (nx : Nat) (ls : List (Nat × LRec)) (wb : Nat) (Q : Ex → St → Prop) : Prop := Wp X l_tree_leaf_0 ⟨[(3, v3), (8, v8), (9, v9), (10, v10)], h, nx, ls, wb⟩ Q
theorem L_tree_leaf_0_eq {X : Cx} {e : Env} {h : Heap} {nx : Nat} {ls : List (Nat × LRec)} {wb : Nat} {Q : Ex → St → Prop} : Wp X l_tree_leaf_0 ⟨e, h, nx, ls, wb⟩ Q ↔ L_tree_leaf_0 X (getE e 3) (getE e 8) (getE e 9) (getE e 10) h nx ls wb Q := wp_loop_env
theorem L_tree_leaf_0_unf {X : Cx} {v3 v8 v9 v10 : SV} {h : Heap} {nx : Nat} {ls : List (Nat × LRec)} {wb : Nat} {Q : Ex → St → Prop} : L_tree_leaf_0 X v3 v8 v9 v10 h nx ls wb Q ↔ Wp X b_tree_leaf_0 ⟨[(3, v3), (8, v8), (9, v9), (10, v10)], h, nx, ls, wb⟩ (seqK X l_tree_leaf_0 Q) := by
  unfold L_tree_leaf_0 l_tree_leaf_0
  rw [wp_loop, wp_trim]
  rfl
def L_slices_IndexFunc_ssbyte_sbyte_0 (X : Cx) (v0 v1 v7 v8 : SV) (h : Heap) (nx : Nat) (ls : List (Nat × LRec)) (wb : Nat) (Q : Ex → St → Prop) : Prop := Wp X l_slices_IndexFunc_ssbyte_sbyte_0 ⟨[(0, v0), (1, v1), (7, v7), (8, v8)], h, nx, ls, wb⟩ Q
theorem L_slices_IndexFunc_ssbyte_sbyte_0_eq {X : Cx} {e : Env} {h : Heap} {nx : Nat} {ls : List (Nat × LRec)} {wb : Nat} {Q : Ex → St → Prop} : Wp X l_slices_IndexFunc_ssbyte_sbyte_0 ⟨e, h, nx, ls, wb⟩ Q ↔ L_slices_IndexFunc_ssbyte_sbyte_0 X (getE e 0) (getE e 1) (getE e 7) (getE e 8) h nx ls wb Q := wp_loop_env
theorem L_slices_IndexFunc_ssbyte_sbyte_0_unf {X : Cx} {v0 v1 v7 v8 : SV} {h : Heap} {nx : Nat} {ls : List (Nat × LRec)} {wb : Nat} {Q : Ex → St → Prop} : L_slices_IndexFunc_ssbyte_sbyte_0 X v0 v1 v7 v8 h nx ls wb Q ↔ Wp X b_slices_IndexFunc_ssbyte_sbyte_0 ⟨[(0, v0), (1, v1), (7, v7), (8, v8)], h, nx, ls, wb⟩ (seqK X l_slices_IndexFunc_ssbyte_sbyte_0 Q) := by
  unfold L_slices_IndexFunc_ssbyte_sbyte_0 l_slices_IndexFunc_ssbyte_sbyte_0
  rw [wp_loop, wp_trim]
  rfl
def L_slices_Chunk_suint64_uint64_1_0 (X : Cx) (v0 v1 v2 v4 : SV) (h : Heap) (nx : Nat) (ls : List (Nat × LRec)) (wb : Nat) (Q : Ex → St → Prop) : Prop := Wp X l_slices_Chunk_suint64_uint64_1_0 ⟨[(0, v0), (1, v1), (2, v2), (4, v4)], h, nx, ls, wb⟩ Q
theorem L_slices_Chunk_suint64_uint64_1_0_eq {X : Cx} {e : Env} {h : Heap} {nx : Nat} {ls : List (Nat × LRec)} {wb : Nat} {Q : Ex → St → Prop} : Wp X l_slices_Chunk_suint64_uint64_1_0 ⟨e, h, nx, ls, wb⟩ Q ↔ L_slices_Chunk_suint64_uint64_1_0 X (getE e 0) (getE e 1) (getE e 2) (getE e 4) h nx ls wb Q := wp_loop_env
theorem L_slices_Chunk_suint64_uint64_1_0_unf {X : Cx} {v0 v1 v2 v4 : SV} {h : Heap} {nx : Nat} {ls : List (Nat × LRec)} {wb : Nat} {Q : Ex → St → Prop} : L_slices_Chunk_suint64_uint64_1_0 X v0 v1 v2 v4 h nx ls wb Q ↔ Wp X b_slices_Chunk_suint64_uint64_1_0 ⟨[(0, v0), (1, v1), (2, v2), (4, v4)], h, nx, ls, wb⟩ (seqK X l_slices_Chunk_suint64_uint64_1_0 Q) := by
  unfold L_slices_Chunk_suint64_uint64_1_0 l_slices_Chunk_suint64_uint64_1_0
  rw [wp_loop, wp_trim]
  rfl
def L_tree_walk_1_0 (X : Cx) (v0 v1 v2 : SV) (h : Heap) (nx : Nat) (ls : List (Nat × LRec)) (wb : Nat) (Q : Ex → St → Prop) : Prop := Wp X l_tree_walk_1_0 ⟨[(0, v0), (1, v1), (2, v2)], h, nx, ls, wb⟩ Q
theorem L_tree_walk_1_0_eq {X : Cx} {e : Env} {h : Heap} {nx : Nat} {ls : List (Nat × LRec)} {wb : Nat} {Q : Ex → St → Prop} : Wp X l_tree_walk_1_0 ⟨e, h, nx, ls, wb⟩ Q ↔ L_tree_walk_1_0 X (getE e 0) (getE e 1) (getE e 2) h nx ls wb Q := wp_loop_env
theorem L_tree_walk_1_0_unf {X : Cx} {v0 v1 v2 : SV} {h : Heap} {nx : Nat} {ls : List (Nat × LRec)} {wb : Nat} {Q : Ex → St → Prop} : L_tree_walk_1_0 X v0 v1 v2 h nx ls wb Q ↔ Wp X b_tree_walk_1_0 ⟨[(0, v0), (1, v1), (2, v2)], h, nx, ls, wb⟩ (seqK X l_tree_walk_1_0 Q) := by
  unfold L_tree_walk_1_0 l_tree_walk_1_0
  rw [wp_loop, wp_trim]
  rfl
def L_digest_words_1_0 (X : Cx) (v0 v7 v8 v9 v13 v14 v15 : SV) (h : Heap) (nx : Nat) (ls : List (Nat × LRec)) (wb : Nat) (Q : Ex → St → Prop) : Prop := Wp X l_digest_words_1_0 ⟨[(0, v0), (7, v7), (8, v8), (9, v9), (13, v13), (14, v14), (15, v15)], h, nx, ls, wb⟩ Q
theorem L_digest_words_1_0_eq {X : Cx} {e : Env} {h : Heap} {nx : Nat} {ls : List (Nat × LRec)} {wb : Nat} {Q : Ex → St → Prop} : Wp X l_digest_words_1_0 ⟨e, h, nx, ls, wb⟩ Q ↔ L_digest_words_1_0 X (getE e 0) (getE e 7) (getE e 8) (getE e 9) (getE e 13) (getE e 14) (getE e 15) h nx ls wb Q := wp_loop_env
theorem L_digest_words_1_0_unf {X : Cx} {v0 v7 v8 v9 v13 v14 v15 : SV} {h : Heap} {nx : Nat} {ls : List (Nat × LRec)} {wb : Nat} {Q : Ex → St → Prop} : L_digest_words_1_0 X v0 v7 v8 v9 v13 v14 v15 h nx ls wb Q ↔ Wp X b_digest_words_1_0 ⟨[(0, v0), (7, v7), (8, v8), (9, v9), (13, v13), (14, v14), (15, v15)], h, nx, ls, wb⟩ (seqK X l_digest_words_1_0 Q) := by
  unfold L_digest_words_1_0 l_digest_words_1_0
  rw [wp_loop, wp_trim]
  rfl
def L_digest_words_1_1 (X : Cx) (v0 v7 v8 v9 : SV) (h : Heap) (nx : Nat) (ls : List (Nat × LRec)) (wb : Nat) (Q : Ex → St → Prop) : Prop := Wp X l_digest_words_1_1 ⟨[(0, v0), (7, v7), (8, v8), (9, v9)], h, nx, ls, wb⟩ Q
theorem L_digest_words_1_1_eq {X : Cx} {e : Env} {h : Heap} {nx : Nat} {ls : List (Nat × LRec)} {wb : Nat} {Q : Ex → St → Prop} : Wp X l_digest_words_1_1 ⟨e, h, nx, ls, wb⟩ Q ↔ L_digest_words_1_1 X (getE e 0) (getE e 7) (getE e 8) (getE e 9) h nx ls wb Q := wp_loop_env
theorem L_digest_words_1_1_unf {X : Cx} {v0 v7 v8 v9 : SV} {h : Heap} {nx : Nat} {ls : List (Nat × LRec)} {wb : Nat} {Q : Ex → St → Prop} : L_digest_words_1_1 X v0 v7 v8 v9 h nx ls wb Q ↔ Wp X b_digest_words_1_1 ⟨[(0, v0), (7, v7), (8, v8), (9, v9)], h, nx, ls, wb⟩ (seqK X l_digest_words_1_1 Q) := by
  unfold L_digest_words_1_1 l_digest_words_1_1
  rw [wp_loop, wp_trim]
  rfl
end Go.Proofs.YtfmbdcmjgnikiaaDoor.Sm
