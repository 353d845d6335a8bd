/- The small codes are the loaded ones. Conditions: none. Printed by gen.py. The heads of the loops. Conditions: none. Printed by gen.py. -/
import Derived.Test.YtfmbdcmjgnikiaaGreatDoorM1
import Derived.Test.YtfmbdcmjgnikiaaGreatDoorM5
import Derived.Test.YtfmbdcmjgnikiaaGreatDoorProg
import Derived.KernelRfl
import Derived.Test.YtfmbdcmjgnikiaaGreatDoorM4
set_option linter.unusedSimpArgs false
set_option linter.unusedVariables false
namespace Go.Proofs.YtfmbdcmjgnikiaaGreatDoor.Sm
open Go

theorem c_law39_SpreadEnough : chkF Tryz.prog eqTs Tryz.f8 m_law39_SpreadEnough = true := by kernel_rfl
theorem c_law39_head : chkF Tryz.prog eqTs Tryz.f18 m_law39_head = true := by kernel_rfl
theorem c_spread_Receive : chkF Tryz.prog eqTs Tryz.f20 m_spread_Receive = true := by kernel_rfl
theorem c_spread_Serve : chkF Tryz.prog eqTs Tryz.f22 m_spread_Serve = true := by kernel_rfl
theorem c_spread_Hear : chkF Tryz.prog eqTs Tryz.f26 m_spread_Hear = true := by kernel_rfl
theorem c_image_Announce : chkF Tryz.prog eqTs Tryz.f30 m_image_Announce = true := by kernel_rfl
theorem c_image_Split : chkF Tryz.prog eqTs Tryz.f32 m_image_Split = true := by kernel_rfl
theorem c_law39_feed : chkF Tryz.prog eqTs Tryz.f33 m_law39_feed = true := by kernel_rfl
theorem c_law39_plain : chkF Tryz.prog eqTs Tryz.f34 m_law39_plain = true := by kernel_rfl
theorem c_image_Whole : chkF Tryz.prog eqTs Tryz.f35 m_image_Whole = true := by kernel_rfl
theorem c_ref36_Bytes : chkF Tryz.prog eqTs Tryz.f36 m_ref36_Bytes = true := by kernel_rfl
theorem c_solve_Add : chkF Tryz.prog eqTs Tryz.f37 m_solve_Add = true := by kernel_rfl
theorem c_fountain_Set : chkF Tryz.prog eqTs Tryz.f38 m_fountain_Set = true := by kernel_rfl
theorem c_fountain_Encode : chkF Tryz.prog eqTs Tryz.f39 m_fountain_Encode = true := by kernel_rfl
theorem c_law39_Program : chkF Tryz.prog eqTs Tryz.f55 m_law39_Program = true := by kernel_rfl
theorem c_spread_copied : chkF Tryz.prog eqTs Tryz.f57 m_spread_copied = true := by kernel_rfl
theorem c_pspread_state_refused : chkF Tryz.prog eqTs Tryz.f58 m_pspread_state_refused = true := by kernel_rfl
theorem c_fountain_Receive : chkF Tryz.prog eqTs Tryz.f59 m_fountain_Receive = true := by kernel_rfl
theorem c_pspread_state_anew : chkF Tryz.prog eqTs Tryz.f60 m_pspread_state_anew = true := by kernel_rfl
theorem c_slices_Clone_suint64_uint64 : chkF Tryz.prog eqTs Tryz.f61 m_slices_Clone_suint64_uint64 = true := by kernel_rfl
theorem c_fountain_Page : chkF Tryz.prog eqTs Tryz.f62 m_fountain_Page = true := by kernel_rfl
theorem c_image_Put : chkF Tryz.prog eqTs Tryz.f63 m_image_Put = true := by kernel_rfl
theorem c_pspread_state_valid : chkF Tryz.prog eqTs Tryz.f71 m_pspread_state_valid = true := by kernel_rfl
theorem c_pspread_state_empty : chkF Tryz.prog eqTs Tryz.f72 m_pspread_state_empty = true := by kernel_rfl
theorem c_trickle_Tick : chkF Tryz.prog eqTs Tryz.f73 m_trickle_Tick = true := by kernel_rfl
theorem c_pspread_state_lacking : chkF Tryz.prog eqTs Tryz.f74 m_pspread_state_lacking = true := by kernel_rfl
theorem c_spread_announced : chkF Tryz.prog eqTs Tryz.f80 m_spread_announced = true := by kernel_rfl
theorem c_spread_count : chkF Tryz.prog eqTs Tryz.f81 m_spread_count = true := by kernel_rfl
theorem c_trickle_New : chkF Tryz.prog eqTs Tryz.f82 m_trickle_New = true := by kernel_rfl
theorem c_trickle_Reset : chkF Tryz.prog eqTs Tryz.f83 m_trickle_Reset = true := by kernel_rfl
theorem c_trickle_Hear : chkF Tryz.prog eqTs Tryz.f84 m_trickle_Hear = true := by kernel_rfl
theorem c_image_announced : chkF Tryz.prog eqTs Tryz.f93 m_image_announced = true := by kernel_rfl
theorem c_tree_Root : chkF Tryz.prog eqTs Tryz.f94 m_tree_Root = true := by kernel_rfl
theorem c_image_sized : chkF Tryz.prog eqTs Tryz.f95 m_image_sized = true := by kernel_rfl
theorem c_slices_Chunk_sbyte_byte : chkF Tryz.prog eqTs Tryz.f96 m_slices_Chunk_sbyte_byte = true := by kernel_rfl
theorem c_tree_Proof : chkF Tryz.prog eqTs Tryz.f97 m_tree_Proof = true := by kernel_rfl
theorem c_image_load_sound : chkF Tryz.prog eqTs Tryz.f98 m_image_load_sound = true := by kernel_rfl
theorem c_image_Join : chkF Tryz.prog eqTs Tryz.f99 m_image_Join = true := by kernel_rfl
theorem c_solve_formed : chkF Tryz.prog eqTs Tryz.f100 m_solve_formed = true := by kernel_rfl
theorem c_solve_Valid : chkF Tryz.prog eqTs Tryz.f101 m_solve_Valid = true := by kernel_rfl
theorem c_solve_reduce : chkF Tryz.prog eqTs Tryz.f102 m_solve_reduce = true := by kernel_rfl
theorem c_solve_equations : chkF Tryz.prog eqTs Tryz.f103 m_solve_equations = true := by kernel_rfl
theorem c_solve_equation_row : chkF Tryz.prog eqTs Tryz.f104 m_solve_equation_row = true := by kernel_rfl
theorem c_solve_equation_leading : chkF Tryz.prog eqTs Tryz.f105 m_solve_equation_leading = true := by kernel_rfl
theorem c_solve_block_plus : chkF Tryz.prog eqTs Tryz.f106 m_solve_block_plus = true := by kernel_rfl
theorem c_fountain_isSeed : chkF Tryz.prog eqTs Tryz.f107 m_fountain_isSeed = true := by kernel_rfl
theorem c_random_Mask : chkF Tryz.prog eqTs Tryz.f108 m_random_Mask = true := by kernel_rfl
theorem c_fountain_isPage : chkF Tryz.prog eqTs Tryz.f109 m_fountain_isPage = true := by kernel_rfl
theorem c_fountain_Encode_1 : chkF Tryz.prog eqTs Tryz.f110 m_fountain_Encode_1 = true := by kernel_rfl
theorem c_fountain_blocks : chkF Tryz.prog eqTs Tryz.f111 m_fountain_blocks = true := by kernel_rfl
theorem c_bits_TrailingZeros : chkF Tryz.prog eqTs Tryz.f112 m_bits_TrailingZeros = true := by kernel_rfl
theorem c_slices_Clone_sbyte_byte : chkF Tryz.prog eqTs Tryz.f113 m_slices_Clone_sbyte_byte = true := by kernel_rfl
theorem c_bytes_Clone : chkF Tryz.prog eqTs Tryz.f117 m_bytes_Clone = true := by kernel_rfl
theorem c_digest_Add : chkF Tryz.prog eqTs Tryz.f134 m_digest_Add = true := by kernel_rfl
theorem c_digest_Sum : chkF Tryz.prog eqTs Tryz.f135 m_digest_Sum = true := by kernel_rfl
theorem c_pspread_state_whole : chkF Tryz.prog eqTs Tryz.f136 m_pspread_state_whole = true := by kernel_rfl
theorem c_slices_Equal_suint64_uint64 : chkF Tryz.prog eqTs Tryz.f137 m_slices_Equal_suint64_uint64 = true := by kernel_rfl
theorem c_solve_Solved : chkF Tryz.prog eqTs Tryz.f138 m_solve_Solved = true := by kernel_rfl
theorem c_slices_Contains_sbool_bool : chkF Tryz.prog eqTs Tryz.f139 m_slices_Contains_sbool_bool = true := by kernel_rfl
theorem c_image_count : chkF Tryz.prog eqTs Tryz.f140 m_image_count = true := by kernel_rfl
theorem c_image_load_proved : chkF Tryz.prog eqTs Tryz.f141 m_image_load_proved = true := by kernel_rfl
theorem c_slices_Clone_ssbyte_sbyte : chkF Tryz.prog eqTs Tryz.f142 m_slices_Clone_ssbyte_sbyte = true := by kernel_rfl
theorem c_slices_Clone_ssuint64_suint64 : chkF Tryz.prog eqTs Tryz.f143 m_slices_Clone_ssuint64_suint64 = true := by kernel_rfl
theorem c_pspread_state_sound : chkF Tryz.prog eqTs Tryz.f147 m_pspread_state_sound = true := by kernel_rfl
theorem c_pspread_state_timed : chkF Tryz.prog eqTs Tryz.f148 m_pspread_state_timed = true := by kernel_rfl
theorem c_trickle_isValid : chkF Tryz.prog eqTs Tryz.f149 m_trickle_isValid = true := by kernel_rfl
theorem c_trickle_isFrame : chkF Tryz.prog eqTs Tryz.f150 m_trickle_isFrame = true := by kernel_rfl
theorem c_ptrickle_timer_begin : chkF Tryz.prog eqTs Tryz.f151 m_ptrickle_timer_begin = true := by kernel_rfl
theorem c_pspread_state_lacking_1 : chkF Tryz.prog eqTs Tryz.f152 m_pspread_state_lacking_1 = true := by kernel_rfl
theorem c_trickle_isSeed : chkF Tryz.prog eqTs Tryz.f155 m_trickle_isSeed = true := by kernel_rfl
theorem c_tree_arePages : chkF Tryz.prog eqTs Tryz.f160 m_tree_arePages = true := by kernel_rfl
theorem c_tree_levels : chkF Tryz.prog eqTs Tryz.f161 m_tree_levels = true := by kernel_rfl
theorem c_slices_Chunk_sbyte_byte_1 : chkF Tryz.prog eqTs Tryz.f162 m_slices_Chunk_sbyte_byte_1 = true := by kernel_rfl
theorem c_image_paged : chkF Tryz.prog eqTs Tryz.f163 m_image_paged = true := by kernel_rfl
theorem c_slices_Concat_sbyte_byte : chkF Tryz.prog eqTs Tryz.f164 m_slices_Concat_sbyte_byte = true := by kernel_rfl
theorem c_bytes_Trim : chkF Tryz.prog eqTs Tryz.f165 m_bytes_Trim = true := by kernel_rfl
theorem c_solve_equations_1 : chkF Tryz.prog eqTs Tryz.f166 m_solve_equations_1 = true := by kernel_rfl
theorem c_bits_Len : chkF Tryz.prog eqTs Tryz.f167 m_bits_Len = true := by kernel_rfl
theorem c_random_first : chkF Tryz.prog eqTs Tryz.f168 m_random_first = true := by kernel_rfl
theorem c_fountain_blocks_1 : chkF Tryz.prog eqTs Tryz.f169 m_fountain_blocks_1 = true := by kernel_rfl
theorem c_bits_TrailingZeros64 : chkF Tryz.prog eqTs Tryz.f171 m_bits_TrailingZeros64 = true := by kernel_rfl
theorem c_digest_words : chkF Tryz.prog eqTs Tryz.f177 m_digest_words = true := by kernel_rfl
theorem c_digest_number_step : chkF Tryz.prog eqTs Tryz.f178 m_digest_number_step = true := by kernel_rfl
theorem c_slices_Index_sbool_bool : chkF Tryz.prog eqTs Tryz.f179 m_slices_Index_sbool_bool = true := by kernel_rfl
theorem c_tree_Check : chkF Tryz.prog eqTs Tryz.f180 m_tree_Check = true := by kernel_rfl
theorem c_trickle_in_int : chkF Tryz.prog eqTs Tryz.f189 m_trickle_in_int = true := by kernel_rfl
theorem c_random_Below : chkF Tryz.prog eqTs Tryz.f190 m_random_Below = true := by kernel_rfl
theorem c_slices_ContainsFunc_ssbyte_sbyte : chkF Tryz.prog eqTs Tryz.f192 m_slices_ContainsFunc_ssbyte_sbyte = true := by kernel_rfl
theorem c_tree_arePages_1 : chkF Tryz.prog eqTs Tryz.f193 m_tree_arePages_1 = true := by kernel_rfl
theorem c_tree_levels_1 : chkF Tryz.prog eqTs Tryz.f194 m_tree_levels_1 = true := by kernel_rfl
theorem c_tree_leaf : chkF Tryz.prog eqTs Tryz.f195 m_tree_leaf = true := by kernel_rfl
theorem c_slices_Chunk_suint64_uint64 : chkF Tryz.prog eqTs Tryz.f196 m_slices_Chunk_suint64_uint64 = true := by kernel_rfl
theorem c_digest_Pair : chkF Tryz.prog eqTs Tryz.f197 m_digest_Pair = true := by kernel_rfl
theorem c_image_paged_1 : chkF Tryz.prog eqTs Tryz.f198 m_image_paged_1 = true := by kernel_rfl
theorem c_slices_Grow_sbyte_byte : chkF Tryz.prog eqTs Tryz.f199 m_slices_Grow_sbyte_byte = true := by kernel_rfl
theorem c_bytes_trimLeftByte : chkF Tryz.prog eqTs Tryz.f200 m_bytes_trimLeftByte = true := by kernel_rfl
theorem c_bytes_trimRightByte : chkF Tryz.prog eqTs Tryz.f201 m_bytes_trimRightByte = true := by kernel_rfl
theorem c_bits_Len64 : chkF Tryz.prog eqTs Tryz.f208 m_bits_Len64 = true := by kernel_rfl
theorem c_random_halves : chkF Tryz.prog eqTs Tryz.f209 m_random_halves = true := by kernel_rfl
theorem c_digest_words_1 : chkF Tryz.prog eqTs Tryz.f212 m_digest_words_1 = true := by kernel_rfl
theorem c_tree_walk : chkF Tryz.prog eqTs Tryz.f213 m_tree_walk = true := by kernel_rfl
theorem c_slices_IndexFunc_ssbyte_sbyte : chkF Tryz.prog eqTs Tryz.f218 m_slices_IndexFunc_ssbyte_sbyte = true := by kernel_rfl
theorem c_slices_Chunk_suint64_uint64_1 : chkF Tryz.prog eqTs Tryz.f219 m_slices_Chunk_suint64_uint64_1 = true := by kernel_rfl
theorem c_random_halves_1 : chkF Tryz.prog eqTs Tryz.f224 m_random_halves_1 = true := by kernel_rfl
theorem c_random_Next : chkF Tryz.prog eqTs Tryz.f225 m_random_Next = true := by kernel_rfl
theorem c_tree_walk_1 : chkF Tryz.prog eqTs Tryz.f228 m_tree_walk_1 = true := by kernel_rfl
end Go.Proofs.YtfmbdcmjgnikiaaGreatDoor.Sm
namespace Go.Proofs.YtfmbdcmjgnikiaaGreatDoor.Sm
open Go

def L_law39_SpreadEnough_0 (X : Cx) (v5 v8 v10 v11 v49 v50 v51 : SV) (h : Heap) (nx : Nat) (ls : List (Nat × LRec)) (wb : Nat) (Q : Ex → St → Prop) : Prop := Wp X l_law39_SpreadEnough_0 ⟨[(5, v5), (8, v8), (10, v10), (11, v11), (49, v49), (50, v50), (51, v51)], h, nx, ls, wb⟩ Q
theorem L_law39_SpreadEnough_0_eq {X : Cx} {e : Env} {h : Heap} {nx : Nat} {ls : List (Nat × LRec)} {wb : Nat} {Q : Ex → St → Prop} : Wp X l_law39_SpreadEnough_0 ⟨e, h, nx, ls, wb⟩ Q ↔ L_law39_SpreadEnough_0 X (getE e 5) (getE e 8) (getE e 10) (getE e 11) (getE e 49) (getE e 50) (getE e 51) h nx ls wb Q := wp_loop_env
theorem L_law39_SpreadEnough_0_unf {X : Cx} {v5 v8 v10 v11 v49 v50 v51 : SV} {h : Heap} {nx : Nat} {ls : List (Nat × LRec)} {wb : Nat} {Q : Ex → St → Prop} : L_law39_SpreadEnough_0 X v5 v8 v10 v11 v49 v50 v51 h nx ls wb Q ↔ Wp X b_law39_SpreadEnough_0 ⟨[(5, v5), (8, v8), (10, v10), (11, v11), (49, v49), (50, v50), (51, v51)], h, nx, ls, wb⟩ (seqK X l_law39_SpreadEnough_0 Q) := by
  unfold L_law39_SpreadEnough_0 l_law39_SpreadEnough_0
  rw [wp_loop, wp_trim]
  rfl
def L_law39_feed_0 (X : Cx) (v1 v2 v4 v8 v10 v33 v34 v35 : SV) (h : Heap) (nx : Nat) (ls : List (Nat × LRec)) (wb : Nat) (Q : Ex → St → Prop) : Prop := Wp X l_law39_feed_0 ⟨[(1, v1), (2, v2), (4, v4), (8, v8), (10, v10), (33, v33), (34, v34), (35, v35)], h, nx, ls, wb⟩ Q
theorem L_law39_feed_0_eq {X : Cx} {e : Env} {h : Heap} {nx : Nat} {ls : List (Nat × LRec)} {wb : Nat} {Q : Ex → St → Prop} : Wp X l_law39_feed_0 ⟨e, h, nx, ls, wb⟩ Q ↔ L_law39_feed_0 X (getE e 1) (getE e 2) (getE e 4) (getE e 8) (getE e 10) (getE e 33) (getE e 34) (getE e 35) h nx ls wb Q := wp_loop_env
theorem L_law39_feed_0_unf {X : Cx} {v1 v2 v4 v8 v10 v33 v34 v35 : SV} {h : Heap} {nx : Nat} {ls : List (Nat × LRec)} {wb : Nat} {Q : Ex → St → Prop} : L_law39_feed_0 X v1 v2 v4 v8 v10 v33 v34 v35 h nx ls wb Q ↔ Wp X b_law39_feed_0 ⟨[(1, v1), (2, v2), (4, v4), (8, v8), (10, v10), (33, v33), (34, v34), (35, v35)], h, nx, ls, wb⟩ (seqK X l_law39_feed_0 Q) := by
  unfold L_law39_feed_0 l_law39_feed_0
  rw [wp_loop, wp_trim]
  rfl
def L_law39_plain_0 (X : Cx) (v1 v3 : SV) (h : Heap) (nx : Nat) (ls : List (Nat × LRec)) (wb : Nat) (Q : Ex → St → Prop) : Prop := Wp X l_law39_plain_0 ⟨[(1, v1), (3, v3)], h, nx, ls, wb⟩ Q
theorem L_law39_plain_0_eq {X : Cx} {e : Env} {h : Heap} {nx : Nat} {ls : List (Nat × LRec)} {wb : Nat} {Q : Ex → St → Prop} : Wp X l_law39_plain_0 ⟨e, h, nx, ls, wb⟩ Q ↔ L_law39_plain_0 X (getE e 1) (getE e 3) h nx ls wb Q := wp_loop_env
theorem L_law39_plain_0_unf {X : Cx} {v1 v3 : SV} {h : Heap} {nx : Nat} {ls : List (Nat × LRec)} {wb : Nat} {Q : Ex → St → Prop} : L_law39_plain_0 X v1 v3 h nx ls wb Q ↔ Wp X b_law39_plain_0 ⟨[(1, v1), (3, v3)], h, nx, ls, wb⟩ (seqK X l_law39_plain_0 Q) := by
  unfold L_law39_plain_0 l_law39_plain_0
  rw [wp_loop, wp_trim]
  rfl
def L_ref36_Bytes_0 (X : Cx) (v0 v1 v5 : SV) (h : Heap) (nx : Nat) (ls : List (Nat × LRec)) (wb : Nat) (Q : Ex → St → Prop) : Prop := Wp X l_ref36_Bytes_0 ⟨[(0, v0), (1, v1), (5, v5)], h, nx, ls, wb⟩ Q
theorem L_ref36_Bytes_0_eq {X : Cx} {e : Env} {h : Heap} {nx : Nat} {ls : List (Nat × LRec)} {wb : Nat} {Q : Ex → St → Prop} : Wp X l_ref36_Bytes_0 ⟨e, h, nx, ls, wb⟩ Q ↔ L_ref36_Bytes_0 X (getE e 0) (getE e 1) (getE e 5) h nx ls wb Q := wp_loop_env
theorem L_ref36_Bytes_0_unf {X : Cx} {v0 v1 v5 : SV} {h : Heap} {nx : Nat} {ls : List (Nat × LRec)} {wb : Nat} {Q : Ex → St → Prop} : L_ref36_Bytes_0 X v0 v1 v5 h nx ls wb Q ↔ Wp X b_ref36_Bytes_0 ⟨[(0, v0), (1, v1), (5, v5)], h, nx, ls, wb⟩ (seqK X l_ref36_Bytes_0 Q) := by
  unfold L_ref36_Bytes_0 l_ref36_Bytes_0
  rw [wp_loop, wp_trim]
  rfl
def L_law39_Program_0 (X : Cx) (v3 v8 v9 : SV) (h : Heap) (nx : Nat) (ls : List (Nat × LRec)) (wb : Nat) (Q : Ex → St → Prop) : Prop := Wp X l_law39_Program_0 ⟨[(3, v3), (8, v8), (9, v9)], h, nx, ls, wb⟩ Q
theorem L_law39_Program_0_eq {X : Cx} {e : Env} {h : Heap} {nx : Nat} {ls : List (Nat × LRec)} {wb : Nat} {Q : Ex → St → Prop} : Wp X l_law39_Program_0 ⟨e, h, nx, ls, wb⟩ Q ↔ L_law39_Program_0 X (getE e 3) (getE e 8) (getE e 9) h nx ls wb Q := wp_loop_env
theorem L_law39_Program_0_unf {X : Cx} {v3 v8 v9 : SV} {h : Heap} {nx : Nat} {ls : List (Nat × LRec)} {wb : Nat} {Q : Ex → St → Prop} : L_law39_Program_0 X v3 v8 v9 h nx ls wb Q ↔ Wp X b_law39_Program_0 ⟨[(3, v3), (8, v8), (9, v9)], h, nx, ls, wb⟩ (seqK X l_law39_Program_0 Q) := by
  unfold L_law39_Program_0 l_law39_Program_0
  rw [wp_loop, wp_trim]
  rfl
def L_spread_copied_0 (X : Cx) (v1 v3 v19 v20 v21 : SV) (h : Heap) (nx : Nat) (ls : List (Nat × LRec)) (wb : Nat) (Q : Ex → St → Prop) : Prop := Wp X l_spread_copied_0 ⟨[(1, v1), (3, v3), (19, v19), (20, v20), (21, v21)], h, nx, ls, wb⟩ Q
theorem L_spread_copied_0_eq {X : Cx} {e : Env} {h : Heap} {nx : Nat} {ls : List (Nat × LRec)} {wb : Nat} {Q : Ex → St → Prop} : Wp X l_spread_copied_0 ⟨e, h, nx, ls, wb⟩ Q ↔ L_spread_copied_0 X (getE e 1) (getE e 3) (getE e 19) (getE e 20) (getE e 21) h nx ls wb Q := wp_loop_env
theorem L_spread_copied_0_unf {X : Cx} {v1 v3 v19 v20 v21 : SV} {h : Heap} {nx : Nat} {ls : List (Nat × LRec)} {wb : Nat} {Q : Ex → St → Prop} : L_spread_copied_0 X v1 v3 v19 v20 v21 h nx ls wb Q ↔ Wp X b_spread_copied_0 ⟨[(1, v1), (3, v3), (19, v19), (20, v20), (21, v21)], h, nx, ls, wb⟩ (seqK X l_spread_copied_0 Q) := by
  unfold L_spread_copied_0 l_spread_copied_0
  rw [wp_loop, wp_trim]
  rfl
def L_spread_copied_1 (X : Cx) (v1 v3 v34 v35 v36 : SV) (h : Heap) (nx : Nat) (ls : List (Nat × LRec)) (wb : Nat) (Q : Ex → St → Prop) : Prop := Wp X l_spread_copied_1 ⟨[(1, v1), (3, v3), (34, v34), (35, v35), (36, v36)], h, nx, ls, wb⟩ Q
theorem L_spread_copied_1_eq {X : Cx} {e : Env} {h : Heap} {nx : Nat} {ls : List (Nat × LRec)} {wb : Nat} {Q : Ex → St → Prop} : Wp X l_spread_copied_1 ⟨e, h, nx, ls, wb⟩ Q ↔ L_spread_copied_1 X (getE e 1) (getE e 3) (getE e 34) (getE e 35) (getE e 36) h nx ls wb Q := wp_loop_env
theorem L_spread_copied_1_unf {X : Cx} {v1 v3 v34 v35 v36 : SV} {h : Heap} {nx : Nat} {ls : List (Nat × LRec)} {wb : Nat} {Q : Ex → St → Prop} : L_spread_copied_1 X v1 v3 v34 v35 v36 h nx ls wb Q ↔ Wp X b_spread_copied_1 ⟨[(1, v1), (3, v3), (34, v34), (35, v35), (36, v36)], h, nx, ls, wb⟩ (seqK X l_spread_copied_1 Q) := by
  unfold L_spread_copied_1 l_spread_copied_1
  rw [wp_loop, wp_trim]
  rfl
def L_spread_copied_2 (X : Cx) (v3 v49 v50 v51 : SV) (h : Heap) (nx : Nat) (ls : List (Nat × LRec)) (wb : Nat) (Q : Ex → St → Prop) : Prop := Wp X l_spread_copied_2 ⟨[(3, v3), (49, v49), (50, v50), (51, v51)], h, nx, ls, wb⟩ Q
theorem L_spread_copied_2_eq {X : Cx} {e : Env} {h : Heap} {nx : Nat} {ls : List (Nat × LRec)} {wb : Nat} {Q : Ex → St → Prop} : Wp X l_spread_copied_2 ⟨e, h, nx, ls, wb⟩ Q ↔ L_spread_copied_2 X (getE e 3) (getE e 49) (getE e 50) (getE e 51) h nx ls wb Q := wp_loop_env
theorem L_spread_copied_2_unf {X : Cx} {v3 v49 v50 v51 : SV} {h : Heap} {nx : Nat} {ls : List (Nat × LRec)} {wb : Nat} {Q : Ex → St → Prop} : L_spread_copied_2 X v3 v49 v50 v51 h nx ls wb Q ↔ Wp X b_spread_copied_2 ⟨[(3, v3), (49, v49), (50, v50), (51, v51)], h, nx, ls, wb⟩ (seqK X l_spread_copied_2 Q) := by
  unfold L_spread_copied_2 l_spread_copied_2
  rw [wp_loop, wp_trim]
  rfl
def L_fountain_Page_0 (X : Cx) (v0 v4 v5 v9 : SV) (h : Heap) (nx : Nat) (ls : List (Nat × LRec)) (wb : Nat) (Q : Ex → St → Prop) : Prop := Wp X l_fountain_Page_0 ⟨[(0, v0), (4, v4), (5, v5), (9, v9)], h, nx, ls, wb⟩ Q
theorem L_fountain_Page_0_eq {X : Cx} {e : Env} {h : Heap} {nx : Nat} {ls : List (Nat × LRec)} {wb : Nat} {Q : Ex → St → Prop} : Wp X l_fountain_Page_0 ⟨e, h, nx, ls, wb⟩ Q ↔ L_fountain_Page_0 X (getE e 0) (getE e 4) (getE e 5) (getE e 9) h nx ls wb Q := wp_loop_env
theorem L_fountain_Page_0_unf {X : Cx} {v0 v4 v5 v9 : SV} {h : Heap} {nx : Nat} {ls : List (Nat × LRec)} {wb : Nat} {Q : Ex → St → Prop} : L_fountain_Page_0 X v0 v4 v5 v9 h nx ls wb Q ↔ Wp X b_fountain_Page_0 ⟨[(0, v0), (4, v4), (5, v5), (9, v9)], h, nx, ls, wb⟩ (seqK X l_fountain_Page_0 Q) := by
  unfold L_fountain_Page_0 l_fountain_Page_0
  rw [wp_loop, wp_trim]
  rfl
def L_image_Put_0 (X : Cx) (v2 v6 v8 v9 v62 v63 v64 : SV) (h : Heap) (nx : Nat) (ls : List (Nat × LRec)) (wb : Nat) (Q : Ex → St → Prop) : Prop := Wp X l_image_Put_0 ⟨[(2, v2), (6, v6), (8, v8), (9, v9), (62, v62), (63, v63), (64, v64)], h, nx, ls, wb⟩ Q
theorem L_image_Put_0_eq {X : Cx} {e : Env} {h : Heap} {nx : Nat} {ls : List (Nat × LRec)} {wb : Nat} {Q : Ex → St → Prop} : Wp X l_image_Put_0 ⟨e, h, nx, ls, wb⟩ Q ↔ L_image_Put_0 X (getE e 2) (getE e 6) (getE e 8) (getE e 9) (getE e 62) (getE e 63) (getE e 64) h nx ls wb Q := wp_loop_env
theorem L_image_Put_0_unf {X : Cx} {v2 v6 v8 v9 v62 v63 v64 : SV} {h : Heap} {nx : Nat} {ls : List (Nat × LRec)} {wb : Nat} {Q : Ex → St → Prop} : L_image_Put_0 X v2 v6 v8 v9 v62 v63 v64 h nx ls wb Q ↔ Wp X b_image_Put_0 ⟨[(2, v2), (6, v6), (8, v8), (9, v9), (62, v62), (63, v63), (64, v64)], h, nx, ls, wb⟩ (seqK X l_image_Put_0 Q) := by
  unfold L_image_Put_0 l_image_Put_0
  rw [wp_loop, wp_trim]
  rfl
def L_image_Put_1 (X : Cx) (v6 v9 v82 v83 v84 : SV) (h : Heap) (nx : Nat) (ls : List (Nat × LRec)) (wb : Nat) (Q : Ex → St → Prop) : Prop := Wp X l_image_Put_1 ⟨[(6, v6), (9, v9), (82, v82), (83, v83), (84, v84)], h, nx, ls, wb⟩ Q
theorem L_image_Put_1_eq {X : Cx} {e : Env} {h : Heap} {nx : Nat} {ls : List (Nat × LRec)} {wb : Nat} {Q : Ex → St → Prop} : Wp X l_image_Put_1 ⟨e, h, nx, ls, wb⟩ Q ↔ L_image_Put_1 X (getE e 6) (getE e 9) (getE e 82) (getE e 83) (getE e 84) h nx ls wb Q := wp_loop_env
theorem L_image_Put_1_unf {X : Cx} {v6 v9 v82 v83 v84 : SV} {h : Heap} {nx : Nat} {ls : List (Nat × LRec)} {wb : Nat} {Q : Ex → St → Prop} : L_image_Put_1 X v6 v9 v82 v83 v84 h nx ls wb Q ↔ Wp X b_image_Put_1 ⟨[(6, v6), (9, v9), (82, v82), (83, v83), (84, v84)], h, nx, ls, wb⟩ (seqK X l_image_Put_1 Q) := by
  unfold L_image_Put_1 l_image_Put_1
  rw [wp_loop, wp_trim]
  rfl
def L_image_load_sound_0 (X : Cx) (v1 v42 v43 v44 : SV) (h : Heap) (nx : Nat) (ls : List (Nat × LRec)) (wb : Nat) (Q : Ex → St → Prop) : Prop := Wp X l_image_load_sound_0 ⟨[(1, v1), (42, v42), (43, v43), (44, v44)], h, nx, ls, wb⟩ Q
theorem L_image_load_sound_0_eq {X : Cx} {e : Env} {h : Heap} {nx : Nat} {ls : List (Nat × LRec)} {wb : Nat} {Q : Ex → St → Prop} : Wp X l_image_load_sound_0 ⟨e, h, nx, ls, wb⟩ Q ↔ L_image_load_sound_0 X (getE e 1) (getE e 42) (getE e 43) (getE e 44) h nx ls wb Q := wp_loop_env
theorem L_image_load_sound_0_unf {X : Cx} {v1 v42 v43 v44 : SV} {h : Heap} {nx : Nat} {ls : List (Nat × LRec)} {wb : Nat} {Q : Ex → St → Prop} : L_image_load_sound_0 X v1 v42 v43 v44 h nx ls wb Q ↔ Wp X b_image_load_sound_0 ⟨[(1, v1), (42, v42), (43, v43), (44, v44)], h, nx, ls, wb⟩ (seqK X l_image_load_sound_0 Q) := by
  unfold L_image_load_sound_0 l_image_load_sound_0
  rw [wp_loop, wp_trim]
  rfl
def L_solve_block_plus_0 (X : Cx) (v2 v3 v4 v6 : SV) (h : Heap) (nx : Nat) (ls : List (Nat × LRec)) (wb : Nat) (Q : Ex → St → Prop) : Prop := Wp X l_solve_block_plus_0 ⟨[(2, v2), (3, v3), (4, v4), (6, v6)], h, nx, ls, wb⟩ Q
theorem L_solve_block_plus_0_eq {X : Cx} {e : Env} {h : Heap} {nx : Nat} {ls : List (Nat × LRec)} {wb : Nat} {Q : Ex → St → Prop} : Wp X l_solve_block_plus_0 ⟨e, h, nx, ls, wb⟩ Q ↔ L_solve_block_plus_0 X (getE e 2) (getE e 3) (getE e 4) (getE e 6) h nx ls wb Q := wp_loop_env
theorem L_solve_block_plus_0_unf {X : Cx} {v2 v3 v4 v6 : SV} {h : Heap} {nx : Nat} {ls : List (Nat × LRec)} {wb : Nat} {Q : Ex → St → Prop} : L_solve_block_plus_0 X v2 v3 v4 v6 h nx ls wb Q ↔ Wp X b_solve_block_plus_0 ⟨[(2, v2), (3, v3), (4, v4), (6, v6)], h, nx, ls, wb⟩ (seqK X l_solve_block_plus_0 Q) := by
  unfold L_solve_block_plus_0 l_solve_block_plus_0
  rw [wp_loop, wp_trim]
  rfl
def L_fountain_Encode_1_0 (X : Cx) (v1 v2 v4 : SV) (h : Heap) (nx : Nat) (ls : List (Nat × LRec)) (wb : Nat) (Q : Ex → St → Prop) : Prop := Wp X l_fountain_Encode_1_0 ⟨[(1, v1), (2, v2), (4, v4)], h, nx, ls, wb⟩ Q
theorem L_fountain_Encode_1_0_eq {X : Cx} {e : Env} {h : Heap} {nx : Nat} {ls : List (Nat × LRec)} {wb : Nat} {Q : Ex → St → Prop} : Wp X l_fountain_Encode_1_0 ⟨e, h, nx, ls, wb⟩ Q ↔ L_fountain_Encode_1_0 X (getE e 1) (getE e 2) (getE e 4) h nx ls wb Q := wp_loop_env
theorem L_fountain_Encode_1_0_unf {X : Cx} {v1 v2 v4 : SV} {h : Heap} {nx : Nat} {ls : List (Nat × LRec)} {wb : Nat} {Q : Ex → St → Prop} : L_fountain_Encode_1_0 X v1 v2 v4 h nx ls wb Q ↔ Wp X b_fountain_Encode_1_0 ⟨[(1, v1), (2, v2), (4, v4)], h, nx, ls, wb⟩ (seqK X l_fountain_Encode_1_0 Q) := by
  unfold L_fountain_Encode_1_0 l_fountain_Encode_1_0
  rw [wp_loop, wp_trim]
  rfl
def L_slices_Equal_suint64_uint64_0 (X : Cx) (v0 v1 v12 v13 : SV) (h : Heap) (nx : Nat) (ls : List (Nat × LRec)) (wb : Nat) (Q : Ex → St → Prop) : Prop := Wp X l_slices_Equal_suint64_uint64_0 ⟨[(0, v0), (1, v1), (12, v12), (13, v13)], h, nx, ls, wb⟩ Q
theorem L_slices_Equal_suint64_uint64_0_eq {X : Cx} {e : Env} {h : Heap} {nx : Nat} {ls : List (Nat × LRec)} {wb : Nat} {Q : Ex → St → Prop} : Wp X l_slices_Equal_suint64_uint64_0 ⟨e, h, nx, ls, wb⟩ Q ↔ L_slices_Equal_suint64_uint64_0 X (getE e 0) (getE e 1) (getE e 12) (getE e 13) h nx ls wb Q := wp_loop_env
theorem L_slices_Equal_suint64_uint64_0_unf {X : Cx} {v0 v1 v12 v13 : SV} {h : Heap} {nx : Nat} {ls : List (Nat × LRec)} {wb : Nat} {Q : Ex → St → Prop} : L_slices_Equal_suint64_uint64_0 X v0 v1 v12 v13 h nx ls wb Q ↔ Wp X b_slices_Equal_suint64_uint64_0 ⟨[(0, v0), (1, v1), (12, v12), (13, v13)], h, nx, ls, wb⟩ (seqK X l_slices_Equal_suint64_uint64_0 Q) := by
  unfold L_slices_Equal_suint64_uint64_0 l_slices_Equal_suint64_uint64_0
  rw [wp_loop, wp_trim]
  rfl
def L_pspread_state_lacking_1_0 (X : Cx) (v0 v2 v6 v7 v8 : SV) (h : Heap) (nx : Nat) (ls : List (Nat × LRec)) (wb : Nat) (Q : Ex → St → Prop) : Prop := Wp X l_pspread_state_lacking_1_0 ⟨[(0, v0), (2, v2), (6, v6), (7, v7), (8, v8)], h, nx, ls, wb⟩ Q
theorem L_pspread_state_lacking_1_0_eq {X : Cx} {e : Env} {h : Heap} {nx : Nat} {ls : List (Nat × LRec)} {wb : Nat} {Q : Ex → St → Prop} : Wp X l_pspread_state_lacking_1_0 ⟨e, h, nx, ls, wb⟩ Q ↔ L_pspread_state_lacking_1_0 X (getE e 0) (getE e 2) (getE e 6) (getE e 7) (getE e 8) h nx ls wb Q := wp_loop_env
theorem L_pspread_state_lacking_1_0_unf {X : Cx} {v0 v2 v6 v7 v8 : SV} {h : Heap} {nx : Nat} {ls : List (Nat × LRec)} {wb : Nat} {Q : Ex → St → Prop} : L_pspread_state_lacking_1_0 X v0 v2 v6 v7 v8 h nx ls wb Q ↔ Wp X b_pspread_state_lacking_1_0 ⟨[(0, v0), (2, v2), (6, v6), (7, v7), (8, v8)], h, nx, ls, wb⟩ (seqK X l_pspread_state_lacking_1_0 Q) := by
  unfold L_pspread_state_lacking_1_0 l_pspread_state_lacking_1_0
  rw [wp_loop, wp_trim]
  rfl
def L_slices_Chunk_sbyte_byte_1_0 (X : Cx) (v0 v1 v2 v4 : SV) (h : Heap) (nx : Nat) (ls : List (Nat × LRec)) (wb : Nat) (Q : Ex → St → Prop) : Prop := Wp X l_slices_Chunk_sbyte_byte_1_0 ⟨[(0, v0), (1, v1), (2, v2), (4, v4)], h, nx, ls, wb⟩ Q
theorem L_slices_Chunk_sbyte_byte_1_0_eq {X : Cx} {e : Env} {h : Heap} {nx : Nat} {ls : List (Nat × LRec)} {wb : Nat} {Q : Ex → St → Prop} : Wp X l_slices_Chunk_sbyte_byte_1_0 ⟨e, h, nx, ls, wb⟩ Q ↔ L_slices_Chunk_sbyte_byte_1_0 X (getE e 0) (getE e 1) (getE e 2) (getE e 4) h nx ls wb Q := wp_loop_env
theorem L_slices_Chunk_sbyte_byte_1_0_unf {X : Cx} {v0 v1 v2 v4 : SV} {h : Heap} {nx : Nat} {ls : List (Nat × LRec)} {wb : Nat} {Q : Ex → St → Prop} : L_slices_Chunk_sbyte_byte_1_0 X v0 v1 v2 v4 h nx ls wb Q ↔ Wp X b_slices_Chunk_sbyte_byte_1_0 ⟨[(0, v0), (1, v1), (2, v2), (4, v4)], h, nx, ls, wb⟩ (seqK X l_slices_Chunk_sbyte_byte_1_0 Q) := by
  unfold L_slices_Chunk_sbyte_byte_1_0 l_slices_Chunk_sbyte_byte_1_0
  rw [wp_loop, wp_trim]
  rfl
def L_slices_Concat_sbyte_byte_0 (X : Cx) (v0 v3 v9 v10 v11 : SV) (h : Heap) (nx : Nat) (ls : List (Nat × LRec)) (wb : Nat) (Q : Ex → St → Prop) : Prop := Wp X l_slices_Concat_sbyte_byte_0 ⟨[(0, v0), (3, v3), (9, v9), (10, v10), (11, v11)], h, nx, ls, wb⟩ Q
theorem L_slices_Concat_sbyte_byte_0_eq {X : Cx} {e : Env} {h : Heap} {nx : Nat} {ls : List (Nat × LRec)} {wb : Nat} {Q : Ex → St → Prop} : Wp X l_slices_Concat_sbyte_byte_0 ⟨e, h, nx, ls, wb⟩ Q ↔ L_slices_Concat_sbyte_byte_0 X (getE e 0) (getE e 3) (getE e 9) (getE e 10) (getE e 11) h nx ls wb Q := wp_loop_env
theorem L_slices_Concat_sbyte_byte_0_unf {X : Cx} {v0 v3 v9 v10 v11 : SV} {h : Heap} {nx : Nat} {ls : List (Nat × LRec)} {wb : Nat} {Q : Ex → St → Prop} : L_slices_Concat_sbyte_byte_0 X v0 v3 v9 v10 v11 h nx ls wb Q ↔ Wp X b_slices_Concat_sbyte_byte_0 ⟨[(0, v0), (3, v3), (9, v9), (10, v10), (11, v11)], h, nx, ls, wb⟩ (seqK X l_slices_Concat_sbyte_byte_0 Q) := by
  unfold L_slices_Concat_sbyte_byte_0 l_slices_Concat_sbyte_byte_0
  rw [wp_loop, wp_trim]
  rfl
def L_slices_Concat_sbyte_byte_1 (X : Cx) (v6 v25 v26 v27 : SV) (h : Heap) (nx : Nat) (ls : List (Nat × LRec)) (wb : Nat) (Q : Ex → St → Prop) : Prop := Wp X l_slices_Concat_sbyte_byte_1 ⟨[(6, v6), (25, v25), (26, v26), (27, v27)], h, nx, ls, wb⟩ Q
theorem L_slices_Concat_sbyte_byte_1_eq {X : Cx} {e : Env} {h : Heap} {nx : Nat} {ls : List (Nat × LRec)} {wb : Nat} {Q : Ex → St → Prop} : Wp X l_slices_Concat_sbyte_byte_1 ⟨e, h, nx, ls, wb⟩ Q ↔ L_slices_Concat_sbyte_byte_1 X (getE e 6) (getE e 25) (getE e 26) (getE e 27) h nx ls wb Q := wp_loop_env
theorem L_slices_Concat_sbyte_byte_1_unf {X : Cx} {v6 v25 v26 v27 : SV} {h : Heap} {nx : Nat} {ls : List (Nat × LRec)} {wb : Nat} {Q : Ex → St → Prop} : L_slices_Concat_sbyte_byte_1 X v6 v25 v26 v27 h nx ls wb Q ↔ Wp X b_slices_Concat_sbyte_byte_1 ⟨[(6, v6), (25, v25), (26, v26), (27, v27)], h, nx, ls, wb⟩ (seqK X l_slices_Concat_sbyte_byte_1 Q) := by
  unfold L_slices_Concat_sbyte_byte_1 l_slices_Concat_sbyte_byte_1
  rw [wp_loop, wp_trim]
  rfl
def L_solve_equations_1_0 (X : Cx) (v0 v5 v6 v7 : SV) (h : Heap) (nx : Nat) (ls : List (Nat × LRec)) (wb : Nat) (Q : Ex → St → Prop) : Prop := Wp X l_solve_equations_1_0 ⟨[(0, v0), (5, v5), (6, v6), (7, v7)], h, nx, ls, wb⟩ Q
theorem L_solve_equations_1_0_eq {X : Cx} {e : Env} {h : Heap} {nx : Nat} {ls : List (Nat × LRec)} {wb : Nat} {Q : Ex → St → Prop} : Wp X l_solve_equations_1_0 ⟨e, h, nx, ls, wb⟩ Q ↔ L_solve_equations_1_0 X (getE e 0) (getE e 5) (getE e 6) (getE e 7) h nx ls wb Q := wp_loop_env
theorem L_solve_equations_1_0_unf {X : Cx} {v0 v5 v6 v7 : SV} {h : Heap} {nx : Nat} {ls : List (Nat × LRec)} {wb : Nat} {Q : Ex → St → Prop} : L_solve_equations_1_0 X v0 v5 v6 v7 h nx ls wb Q ↔ Wp X b_solve_equations_1_0 ⟨[(0, v0), (5, v5), (6, v6), (7, v7)], h, nx, ls, wb⟩ (seqK X l_solve_equations_1_0 Q) := by
  unfold L_solve_equations_1_0 l_solve_equations_1_0
  rw [wp_loop, wp_trim]
  rfl
def L_fountain_blocks_1_0 (X : Cx) (v0 v1 v4 : SV) (h : Heap) (nx : Nat) (ls : List (Nat × LRec)) (wb : Nat) (Q : Ex → St → Prop) : Prop := Wp X l_fountain_blocks_1_0 ⟨[(0, v0), (1, v1), (4, v4)], h, nx, ls, wb⟩ Q
theorem L_fountain_blocks_1_0_eq {X : Cx} {e : Env} {h : Heap} {nx : Nat} {ls : List (Nat × LRec)} {wb : Nat} {Q : Ex → St → Prop} : Wp X l_fountain_blocks_1_0 ⟨e, h, nx, ls, wb⟩ Q ↔ L_fountain_blocks_1_0 X (getE e 0) (getE e 1) (getE e 4) h nx ls wb Q := wp_loop_env
theorem L_fountain_blocks_1_0_unf {X : Cx} {v0 v1 v4 : SV} {h : Heap} {nx : Nat} {ls : List (Nat × LRec)} {wb : Nat} {Q : Ex → St → Prop} : L_fountain_blocks_1_0 X v0 v1 v4 h nx ls wb Q ↔ Wp X b_fountain_blocks_1_0 ⟨[(0, v0), (1, v1), (4, v4)], h, nx, ls, wb⟩ (seqK X l_fountain_blocks_1_0 Q) := by
  unfold L_fountain_blocks_1_0 l_fountain_blocks_1_0
  rw [wp_loop, wp_trim]
  rfl
def L_slices_Index_sbool_bool_0 (X : Cx) (v0 v1 v7 v8 : SV) (h : Heap) (nx : Nat) (ls : List (Nat × LRec)) (wb : Nat) (Q : Ex → St → Prop) : Prop := Wp X l_slices_Index_sbool_bool_0 ⟨[(0, v0), (1, v1), (7, v7), (8, v8)], h, nx, ls, wb⟩ Q
theorem L_slices_Index_sbool_bool_0_eq {X : Cx} {e : Env} {h : Heap} {nx : Nat} {ls : List (Nat × LRec)} {wb : Nat} {Q : Ex → St → Prop} : Wp X l_slices_Index_sbool_bool_0 ⟨e, h, nx, ls, wb⟩ Q ↔ L_slices_Index_sbool_bool_0 X (getE e 0) (getE e 1) (getE e 7) (getE e 8) h nx ls wb Q := wp_loop_env
theorem L_slices_Index_sbool_bool_0_unf {X : Cx} {v0 v1 v7 v8 : SV} {h : Heap} {nx : Nat} {ls : List (Nat × LRec)} {wb : Nat} {Q : Ex → St → Prop} : L_slices_Index_sbool_bool_0 X v0 v1 v7 v8 h nx ls wb Q ↔ Wp X b_slices_Index_sbool_bool_0 ⟨[(0, v0), (1, v1), (7, v7), (8, v8)], h, nx, ls, wb⟩ (seqK X l_slices_Index_sbool_bool_0 Q) := by
  unfold L_slices_Index_sbool_bool_0 l_slices_Index_sbool_bool_0
  rw [wp_loop, wp_trim]
  rfl
def L_tree_levels_1_0 (X : Cx) (v0 v3 v8 v9 v10 : SV) (h : Heap) (nx : Nat) (ls : List (Nat × LRec)) (wb : Nat) (Q : Ex → St → Prop) : Prop := Wp X l_tree_levels_1_0 ⟨[(0, v0), (3, v3), (8, v8), (9, v9), (10, v10)], h, nx, ls, wb⟩ Q
theorem L_tree_levels_1_0_eq {X : Cx} {e : Env} {h : Heap} {nx : Nat} {ls : List (Nat × LRec)} {wb : Nat} {Q : Ex → St → Prop} : Wp X l_tree_levels_1_0 ⟨e, h, nx, ls, wb⟩ Q ↔ L_tree_levels_1_0 X (getE e 0) (getE e 3) (getE e 8) (getE e 9) (getE e 10) h nx ls wb Q := wp_loop_env
theorem L_tree_levels_1_0_unf {X : Cx} {v0 v3 v8 v9 v10 : SV} {h : Heap} {nx : Nat} {ls : List (Nat × LRec)} {wb : Nat} {Q : Ex → St → Prop} : L_tree_levels_1_0 X v0 v3 v8 v9 v10 h nx ls wb Q ↔ Wp X b_tree_levels_1_0 ⟨[(0, v0), (3, v3), (8, v8), (9, v9), (10, v10)], h, nx, ls, wb⟩ (seqK X l_tree_levels_1_0 Q) := by
  unfold L_tree_levels_1_0 l_tree_levels_1_0
  rw [wp_loop, wp_trim]
  rfl
def L_tree_levels_1_2 (X : Cx) (v0 v3 : SV) (h : Heap) (nx : Nat) (ls : List (Nat × LRec)) (wb : Nat) (Q : Ex → St → Prop) : Prop := Wp X l_tree_levels_1_2 ⟨[(0, v0), (3, v3)], h, nx, ls, wb⟩ Q
theorem L_tree_levels_1_2_eq {X : Cx} {e : Env} {h : Heap} {nx : Nat} {ls : List (Nat × LRec)} {wb : Nat} {Q : Ex → St → Prop} : Wp X l_tree_levels_1_2 ⟨e, h, nx, ls, wb⟩ Q ↔ L_tree_levels_1_2 X (getE e 0) (getE e 3) h nx ls wb Q := wp_loop_env
theorem L_tree_levels_1_2_unf {X : Cx} {v0 v3 : SV} {h : Heap} {nx : Nat} {ls : List (Nat × LRec)} {wb : Nat} {Q : Ex → St → Prop} : L_tree_levels_1_2 X v0 v3 h nx ls wb Q ↔ Wp X b_tree_levels_1_2 ⟨[(0, v0), (3, v3)], h, nx, ls, wb⟩ (seqK X l_tree_levels_1_2 Q) := by
  unfold L_tree_levels_1_2 l_tree_levels_1_2
  rw [wp_loop, wp_trim]
  rfl
def L_tree_leaf_0 (X : Cx) (v3 v8 v9 v10 : SV) (h : Heap) (nx : Nat) (ls : List (Nat × LRec)) (wb : Nat) (Q : Ex → St → Prop) : Prop := Wp X l_tree_leaf_0 ⟨[(3, v3), (8, v8), (9, v9), (10, v10)], h, nx, ls, wb⟩ Q
theorem L_tree_leaf_0_eq {X : Cx} {e : Env} {h : Heap} {nx : Nat} {ls : List (Nat × LRec)} {wb : Nat} {Q : Ex → St → Prop} : Wp X l_tree_leaf_0 ⟨e, h, nx, ls, wb⟩ Q ↔ L_tree_leaf_0 X (getE e 3) (getE e 8) (getE e 9) (getE e 10) h nx ls wb Q := wp_loop_env
theorem L_tree_leaf_0_unf {X : Cx} {v3 v8 v9 v10 : SV} {h : Heap} {nx : Nat} {ls : List (Nat × LRec)} {wb : Nat} {Q : Ex → St → Prop} : L_tree_leaf_0 X v3 v8 v9 v10 h nx ls wb Q ↔ Wp X b_tree_leaf_0 ⟨[(3, v3), (8, v8), (9, v9), (10, v10)], h, nx, ls, wb⟩ (seqK X l_tree_leaf_0 Q) := by
  unfold L_tree_leaf_0 l_tree_leaf_0
  rw [wp_loop, wp_trim]
  rfl
def L_bytes_trimLeftByte_0 (X : Cx) (v0 v1 : SV) (h : Heap) (nx : Nat) (ls : List (Nat × LRec)) (wb : Nat) (Q : Ex → St → Prop) : Prop := Wp X l_bytes_trimLeftByte_0 ⟨[(0, v0), (1, v1)], h, nx, ls, wb⟩ Q
theorem L_bytes_trimLeftByte_0_eq {X : Cx} {e : Env} {h : Heap} {nx : Nat} {ls : List (Nat × LRec)} {wb : Nat} {Q : Ex → St → Prop} : Wp X l_bytes_trimLeftByte_0 ⟨e, h, nx, ls, wb⟩ Q ↔ L_bytes_trimLeftByte_0 X (getE e 0) (getE e 1) h nx ls wb Q := wp_loop_env
theorem L_bytes_trimLeftByte_0_unf {X : Cx} {v0 v1 : SV} {h : Heap} {nx : Nat} {ls : List (Nat × LRec)} {wb : Nat} {Q : Ex → St → Prop} : L_bytes_trimLeftByte_0 X v0 v1 h nx ls wb Q ↔ Wp X b_bytes_trimLeftByte_0 ⟨[(0, v0), (1, v1)], h, nx, ls, wb⟩ (seqK X l_bytes_trimLeftByte_0 Q) := by
  unfold L_bytes_trimLeftByte_0 l_bytes_trimLeftByte_0
  rw [wp_loop, wp_trim]
  rfl
def L_bytes_trimRightByte_0 (X : Cx) (v0 v1 : SV) (h : Heap) (nx : Nat) (ls : List (Nat × LRec)) (wb : Nat) (Q : Ex → St → Prop) : Prop := Wp X l_bytes_trimRightByte_0 ⟨[(0, v0), (1, v1)], h, nx, ls, wb⟩ Q
theorem L_bytes_trimRightByte_0_eq {X : Cx} {e : Env} {h : Heap} {nx : Nat} {ls : List (Nat × LRec)} {wb : Nat} {Q : Ex → St → Prop} : Wp X l_bytes_trimRightByte_0 ⟨e, h, nx, ls, wb⟩ Q ↔ L_bytes_trimRightByte_0 X (getE e 0) (getE e 1) h nx ls wb Q := wp_loop_env
theorem L_bytes_trimRightByte_0_unf {X : Cx} {v0 v1 : SV} {h : Heap} {nx : Nat} {ls : List (Nat × LRec)} {wb : Nat} {Q : Ex → St → Prop} : L_bytes_trimRightByte_0 X v0 v1 h nx ls wb Q ↔ Wp X b_bytes_trimRightByte_0 ⟨[(0, v0), (1, v1)], h, nx, ls, wb⟩ (seqK X l_bytes_trimRightByte_0 Q) := by
  unfold L_bytes_trimRightByte_0 l_bytes_trimRightByte_0
  rw [wp_loop, wp_trim]
  rfl
def L_digest_words_1_0 (X : Cx) (v0 v7 v8 v9 v13 v14 v15 : SV) (h : Heap) (nx : Nat) (ls : List (Nat × LRec)) (wb : Nat) (Q : Ex → St → Prop) : Prop := Wp X l_digest_words_1_0 ⟨[(0, v0), (7, v7), (8, v8), (9, v9), (13, v13), (14, v14), (15, v15)], h, nx, ls, wb⟩ Q
theorem L_digest_words_1_0_eq {X : Cx} {e : Env} {h : Heap} {nx : Nat} {ls : List (Nat × LRec)} {wb : Nat} {Q : Ex → St → Prop} : Wp X l_digest_words_1_0 ⟨e, h, nx, ls, wb⟩ Q ↔ L_digest_words_1_0 X (getE e 0) (getE e 7) (getE e 8) (getE e 9) (getE e 13) (getE e 14) (getE e 15) h nx ls wb Q := wp_loop_env
theorem L_digest_words_1_0_unf {X : Cx} {v0 v7 v8 v9 v13 v14 v15 : SV} {h : Heap} {nx : Nat} {ls : List (Nat × LRec)} {wb : Nat} {Q : Ex → St → Prop} : L_digest_words_1_0 X v0 v7 v8 v9 v13 v14 v15 h nx ls wb Q ↔ Wp X b_digest_words_1_0 ⟨[(0, v0), (7, v7), (8, v8), (9, v9), (13, v13), (14, v14), (15, v15)], h, nx, ls, wb⟩ (seqK X l_digest_words_1_0 Q) := by
  unfold L_digest_words_1_0 l_digest_words_1_0
  rw [wp_loop, wp_trim]
  rfl
def L_digest_words_1_1 (X : Cx) (v0 v7 v8 v9 : SV) (h : Heap) (nx : Nat) (ls : List (Nat × LRec)) (wb : Nat) (Q : Ex → St → Prop) : Prop := Wp X l_digest_words_1_1 ⟨[(0, v0), (7, v7), (8, v8), (9, v9)], h, nx, ls, wb⟩ Q
theorem L_digest_words_1_1_eq {X : Cx} {e : Env} {h : Heap} {nx : Nat} {ls : List (Nat × LRec)} {wb : Nat} {Q : Ex → St → Prop} : Wp X l_digest_words_1_1 ⟨e, h, nx, ls, wb⟩ Q ↔ L_digest_words_1_1 X (getE e 0) (getE e 7) (getE e 8) (getE e 9) h nx ls wb Q := wp_loop_env
theorem L_digest_words_1_1_unf {X : Cx} {v0 v7 v8 v9 : SV} {h : Heap} {nx : Nat} {ls : List (Nat × LRec)} {wb : Nat} {Q : Ex → St → Prop} : L_digest_words_1_1 X v0 v7 v8 v9 h nx ls wb Q ↔ Wp X b_digest_words_1_1 ⟨[(0, v0), (7, v7), (8, v8), (9, v9)], h, nx, ls, wb⟩ (seqK X l_digest_words_1_1 Q) := by
  unfold L_digest_words_1_1 l_digest_words_1_1
  rw [wp_loop, wp_trim]
  rfl
def L_slices_IndexFunc_ssbyte_sbyte_0 (X : Cx) (v0 v1 v7 v8 : SV) (h : Heap) (nx : Nat) (ls : List (Nat × LRec)) (wb : Nat) (Q : Ex → St → Prop) : Prop := Wp X l_slices_IndexFunc_ssbyte_sbyte_0 ⟨[(0, v0), (1, v1), (7, v7), (8, v8)], h, nx, ls, wb⟩ Q
theorem L_slices_IndexFunc_ssbyte_sbyte_0_eq {X : Cx} {e : Env} {h : Heap} {nx : Nat} {ls : List (Nat × LRec)} {wb : Nat} {Q : Ex → St → Prop} : Wp X l_slices_IndexFunc_ssbyte_sbyte_0 ⟨e, h, nx, ls, wb⟩ Q ↔ L_slices_IndexFunc_ssbyte_sbyte_0 X (getE e 0) (getE e 1) (getE e 7) (getE e 8) h nx ls wb Q := wp_loop_env
theorem L_slices_IndexFunc_ssbyte_sbyte_0_unf {X : Cx} {v0 v1 v7 v8 : SV} {h : Heap} {nx : Nat} {ls : List (Nat × LRec)} {wb : Nat} {Q : Ex → St → Prop} : L_slices_IndexFunc_ssbyte_sbyte_0 X v0 v1 v7 v8 h nx ls wb Q ↔ Wp X b_slices_IndexFunc_ssbyte_sbyte_0 ⟨[(0, v0), (1, v1), (7, v7), (8, v8)], h, nx, ls, wb⟩ (seqK X l_slices_IndexFunc_ssbyte_sbyte_0 Q) := by
  unfold L_slices_IndexFunc_ssbyte_sbyte_0 l_slices_IndexFunc_ssbyte_sbyte_0
  rw [wp_loop, wp_trim]
  rfl
def L_slices_Chunk_suint64_uint64_1_0 (X : Cx) (v0 v1 v2 v4 : SV) (h : Heap) (nx : Nat) (ls : List (Nat × LRec)) (wb : Nat) (Q : Ex → St → Prop) : Prop := Wp X l_slices_Chunk_suint64_uint64_1_0 ⟨[(0, v0), (1, v1), (2, v2), (4, v4)], h, nx, ls, wb⟩ Q
theorem L_slices_Chunk_suint64_uint64_1_0_eq {X : Cx} {e : Env} {h : Heap} {nx : Nat} {ls : List (Nat × LRec)} {wb : Nat} {Q : Ex → St → Prop} : Wp X l_slices_Chunk_suint64_uint64_1_0 ⟨e, h, nx, ls, wb⟩ Q ↔ L_slices_Chunk_suint64_uint64_1_0 X (getE e 0) (getE e 1) (getE e 2) (getE e 4) h nx ls wb Q := wp_loop_env
theorem L_slices_Chunk_suint64_uint64_1_0_unf {X : Cx} {v0 v1 v2 v4 : SV} {h : Heap} {nx : Nat} {ls : List (Nat × LRec)} {wb : Nat} {Q : Ex → St → Prop} : L_slices_Chunk_suint64_uint64_1_0 X v0 v1 v2 v4 h nx ls wb Q ↔ Wp X b_slices_Chunk_suint64_uint64_1_0 ⟨[(0, v0), (1, v1), (2, v2), (4, v4)], h, nx, ls, wb⟩ (seqK X l_slices_Chunk_suint64_uint64_1_0 Q) := by
  unfold L_slices_Chunk_suint64_uint64_1_0 l_slices_Chunk_suint64_uint64_1_0
  rw [wp_loop, wp_trim]
  rfl
def L_random_halves_1_0 (X : Cx) (v0 v1 : SV) (h : Heap) (nx : Nat) (ls : List (Nat × LRec)) (wb : Nat) (Q : Ex → St → Prop) : Prop := Wp X l_random_halves_1_0 ⟨[(0, v0), (1, v1)], h, nx, ls, wb⟩ Q
theorem L_random_halves_1_0_eq {X : Cx} {e : Env} {h : Heap} {nx : Nat} {ls : List (Nat × LRec)} {wb : Nat} {Q : Ex → St → Prop} : Wp X l_random_halves_1_0 ⟨e, h, nx, ls, wb⟩ Q ↔ L_random_halves_1_0 X (getE e 0) (getE e 1) h nx ls wb Q := wp_loop_env
theorem L_random_halves_1_0_unf {X : Cx} {v0 v1 : SV} {h : Heap} {nx : Nat} {ls : List (Nat × LRec)} {wb : Nat} {Q : Ex → St → Prop} : L_random_halves_1_0 X v0 v1 h nx ls wb Q ↔ Wp X b_random_halves_1_0 ⟨[(0, v0), (1, v1)], h, nx, ls, wb⟩ (seqK X l_random_halves_1_0 Q) := by
  unfold L_random_halves_1_0 l_random_halves_1_0
  rw [wp_loop, wp_trim]
  rfl
def L_random_Next_0 (X : Cx) (v3 v8 v9 : SV) (h : Heap) (nx : Nat) (ls : List (Nat × LRec)) (wb : Nat) (Q : Ex → St → Prop) : Prop := Wp X l_random_Next_0 ⟨[(3, v3), (8, v8), (9, v9)], h, nx, ls, wb⟩ Q
theorem L_random_Next_0_eq {X : Cx} {e : Env} {h : Heap} {nx : Nat} {ls : List (Nat × LRec)} {wb : Nat} {Q : Ex → St → Prop} : Wp X l_random_Next_0 ⟨e, h, nx, ls, wb⟩ Q ↔ L_random_Next_0 X (getE e 3) (getE e 8) (getE e 9) h nx ls wb Q := wp_loop_env
theorem L_random_Next_0_unf {X : Cx} {v3 v8 v9 : SV} {h : Heap} {nx : Nat} {ls : List (Nat × LRec)} {wb : Nat} {Q : Ex → St → Prop} : L_random_Next_0 X v3 v8 v9 h nx ls wb Q ↔ Wp X b_random_Next_0 ⟨[(3, v3), (8, v8), (9, v9)], h, nx, ls, wb⟩ (seqK X l_random_Next_0 Q) := by
  unfold L_random_Next_0 l_random_Next_0
  rw [wp_loop, wp_trim]
  rfl
def L_tree_walk_1_0 (X : Cx) (v0 v1 v2 : SV) (h : Heap) (nx : Nat) (ls : List (Nat × LRec)) (wb : Nat) (Q : Ex → St → Prop) : Prop := Wp X l_tree_walk_1_0 ⟨[(0, v0), (1, v1), (2, v2)], h, nx, ls, wb⟩ Q
theorem L_tree_walk_1_0_eq {X : Cx} {e : Env} {h : Heap} {nx : Nat} {ls : List (Nat × LRec)} {wb : Nat} {Q : Ex → St → Prop} : Wp X l_tree_walk_1_0 ⟨e, h, nx, ls, wb⟩ Q ↔ L_tree_walk_1_0 X (getE e 0) (getE e 1) (getE e 2) h nx ls wb Q := wp_loop_env
theorem L_tree_walk_1_0_unf {X : Cx} {v0 v1 v2 : SV} {h : Heap} {nx : Nat} {ls : List (Nat × LRec)} {wb : Nat} {Q : Ex → St → Prop} : L_tree_walk_1_0 X v0 v1 v2 h nx ls wb Q ↔ Wp X b_tree_walk_1_0 ⟨[(0, v0), (1, v1), (2, v2)], h, nx, ls, wb⟩ (seqK X l_tree_walk_1_0 Q) := by
  unfold L_tree_walk_1_0 l_tree_walk_1_0
  rw [wp_loop, wp_trim]
  rfl
end Go.Proofs.YtfmbdcmjgnikiaaGreatDoor.Sm
