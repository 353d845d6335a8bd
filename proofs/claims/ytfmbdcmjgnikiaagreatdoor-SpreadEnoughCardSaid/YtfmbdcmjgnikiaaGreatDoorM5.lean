/- The small codes of functions of the program. Conditions: none. Printed by gen.py. -/
import Derived.Test.YtfmbdcmjgnikiaaGreatDoorM1
set_option linter.unusedSimpArgs false
set_option linter.unusedVariables false
namespace Go.Proofs.YtfmbdcmjgnikiaaGreatDoor.Sm
open Go

abbrev n_law39_SpreadEnough : Nat := 8
abbrev n_law39_head : Nat := 18
abbrev n_spread_Receive : Nat := 20
abbrev n_spread_Serve : Nat := 22
abbrev n_spread_Hear : Nat := 26
abbrev n_image_Announce : Nat := 30
abbrev n_image_Split : Nat := 32
abbrev n_law39_feed : Nat := 33
abbrev n_law39_plain : Nat := 34
abbrev n_image_Whole : Nat := 35
abbrev n_ref36_Bytes : Nat := 36
abbrev n_solve_Add : Nat := 37
abbrev n_fountain_Set : Nat := 38
abbrev n_fountain_Encode : Nat := 39
abbrev n_law39_Program : Nat := 55
abbrev n_spread_copied : Nat := 57
abbrev n_pspread_state_refused : Nat := 58
abbrev n_fountain_Receive : Nat := 59
abbrev n_pspread_state_anew : Nat := 60
abbrev n_slices_Clone_suint64_uint64 : Nat := 61
abbrev n_fountain_Page : Nat := 62
abbrev n_image_Put : Nat := 63
abbrev n_pspread_state_valid : Nat := 71
abbrev n_pspread_state_empty : Nat := 72
abbrev n_trickle_Tick : Nat := 73
abbrev n_pspread_state_lacking : Nat := 74
abbrev n_spread_announced : Nat := 80
abbrev n_spread_count : Nat := 81
abbrev n_trickle_New : Nat := 82
abbrev n_trickle_Reset : Nat := 83
abbrev n_trickle_Hear : Nat := 84
abbrev n_image_announced : Nat := 93
abbrev n_tree_Root : Nat := 94
abbrev n_image_sized : Nat := 95
abbrev n_slices_Chunk_sbyte_byte : Nat := 96
abbrev n_tree_Proof : Nat := 97
abbrev n_image_load_sound : Nat := 98
abbrev n_image_Join : Nat := 99
abbrev n_solve_formed : Nat := 100
abbrev n_solve_Valid : Nat := 101
abbrev n_solve_reduce : Nat := 102
abbrev n_solve_equations : Nat := 103
abbrev n_solve_equation_row : Nat := 104
abbrev n_solve_equation_leading : Nat := 105
abbrev n_solve_block_plus : Nat := 106
abbrev n_fountain_isSeed : Nat := 107
abbrev n_random_Mask : Nat := 108
abbrev n_fountain_isPage : Nat := 109
abbrev n_fountain_Encode_1 : Nat := 110
abbrev n_fountain_blocks : Nat := 111
abbrev n_bits_TrailingZeros : Nat := 112
abbrev n_slices_Clone_sbyte_byte : Nat := 113
abbrev n_bytes_Clone : Nat := 117
abbrev n_digest_Add : Nat := 134
abbrev n_digest_Sum : Nat := 135
abbrev n_pspread_state_whole : Nat := 136
abbrev n_slices_Equal_suint64_uint64 : Nat := 137
abbrev n_solve_Solved : Nat := 138
abbrev n_slices_Contains_sbool_bool : Nat := 139
abbrev n_image_count : Nat := 140
abbrev n_image_load_proved : Nat := 141
abbrev n_slices_Clone_ssbyte_sbyte : Nat := 142
abbrev n_slices_Clone_ssuint64_suint64 : Nat := 143
abbrev n_pspread_state_sound : Nat := 147
abbrev n_pspread_state_timed : Nat := 148
abbrev n_trickle_isValid : Nat := 149
abbrev n_trickle_isFrame : Nat := 150
abbrev n_ptrickle_timer_begin : Nat := 151
abbrev n_pspread_state_lacking_1 : Nat := 152
abbrev n_trickle_isSeed : Nat := 155
abbrev n_tree_arePages : Nat := 160
abbrev n_tree_levels : Nat := 161
abbrev n_slices_Chunk_sbyte_byte_1 : Nat := 162
abbrev n_image_paged : Nat := 163
abbrev n_slices_Concat_sbyte_byte : Nat := 164
abbrev n_bytes_Trim : Nat := 165
abbrev n_solve_equations_1 : Nat := 166
abbrev n_bits_Len : Nat := 167
abbrev n_random_first : Nat := 168
abbrev n_fountain_blocks_1 : Nat := 169
abbrev n_bits_TrailingZeros64 : Nat := 171
abbrev n_digest_words : Nat := 177
abbrev n_digest_number_step : Nat := 178
abbrev n_slices_Index_sbool_bool : Nat := 179
abbrev n_tree_Check : Nat := 180
abbrev n_trickle_in_int : Nat := 189
abbrev n_random_Below : Nat := 190
abbrev n_slices_ContainsFunc_ssbyte_sbyte : Nat := 192
abbrev n_tree_arePages_1 : Nat := 193
abbrev n_tree_levels_1 : Nat := 194
abbrev n_tree_leaf : Nat := 195
abbrev n_slices_Chunk_suint64_uint64 : Nat := 196
abbrev n_digest_Pair : Nat := 197
abbrev n_image_paged_1 : Nat := 198
abbrev n_slices_Grow_sbyte_byte : Nat := 199
abbrev n_bytes_trimLeftByte : Nat := 200
abbrev n_bytes_trimRightByte : Nat := 201
abbrev n_bits_Len64 : Nat := 208
abbrev n_random_halves : Nat := 209
abbrev n_digest_words_1 : Nat := 212
abbrev n_tree_walk : Nat := 213
abbrev n_slices_IndexFunc_ssbyte_sbyte : Nat := 218
abbrev n_slices_Chunk_suint64_uint64_1 : Nat := 219
abbrev n_random_halves_1 : Nat := 224
abbrev n_random_Next : Nat := 225
abbrev n_tree_walk_1 : Nat := 228
abbrev o_ (d : Nat) (o : ROp) : Ins := ⟨some d, none, .r o⟩
abbrev w_ (o : WOp) : Ins := ⟨none, none, .w o⟩
abbrev v_ (d : Nat) (o : WOp) : Ins := ⟨some d, none, .w o⟩
abbrev f_ (d f : Nat) (as : List Arg) : Ins := ⟨some d, none, .call .ro (.c (.fn f [] [])) as⟩
abbrev g_ (d g : Nat) (b : Bool) (o : ROp) : Ins := ⟨some d, some (g, b), .r o⟩
abbrev i_ (n : Int) : Arg := .c (.int .i64 n)
abbrev T_ : Arg := .c (.bool true)
abbrev F_ : Arg := .c (.bool false)
def lenT : ByteArray := ⟨#[0, 1, 2, 2, 3, 3, 3, 3, 4, 4, 4, 4, 4, 4, 4, 4, 5, 5, 5, 5, 5, 5, 5, 5, 5, 5, 5, 5, 5, 5, 5, 5, 6, 6, 6, 6, 6, 6, 6, 6, 6, 6, 6, 6, 6, 6, 6, 6, 6, 6, 6, 6, 6, 6, 6, 6, 6, 6, 6, 6, 6, 6, 6, 6, 7, 7, 7, 7, 7, 7, 7, 7, 7, 7, 7, 7, 7, 7, 7, 7, 7, 7, 7, 7, 7, 7, 7, 7, 7, 7, 7, 7, 7, 7, 7, 7, 7, 7, 7, 7, 7, 7, 7, 7, 7, 7, 7, 7, 7, 7, 7, 7, 7, 7, 7, 7, 7, 7, 7, 7, 7, 7, 7, 7, 7, 7, 7, 7, 8, 8, 8, 8, 8, 8, 8, 8, 8, 8, 8, 8, 8, 8, 8, 8, 8, 8, 8, 8, 8, 8, 8, 8, 8, 8, 8, 8, 8, 8, 8, 8, 8, 8, 8, 8, 8, 8, 8, 8, 8, 8, 8, 8, 8, 8, 8, 8, 8, 8, 8, 8, 8, 8, 8, 8, 8, 8, 8, 8, 8, 8, 8, 8, 8, 8, 8, 8, 8, 8, 8, 8, 8, 8, 8, 8, 8, 8, 8, 8, 8, 8, 8, 8, 8, 8, 8, 8, 8, 8, 8, 8, 8, 8, 8, 8, 8, 8, 8, 8, 8, 8, 8, 8, 8, 8, 8, 8, 8, 8, 8, 8, 8, 8, 8, 8, 8, 8, 8, 8, 8, 8, 8, 8, 8, 8, 8, 8]⟩
def Zf16 : List SV := [.bool false, .bool false, .bool false, .bool false, .bool false, .bool false, .bool false, .bool false, .bool false, .bool false, .bool false, .bool false, .bool false, .bool false, .bool false, .bool false]
theorem Zf16_eq : Zf16 = [.bool false, .bool false, .bool false, .bool false, .bool false, .bool false, .bool false, .bool false, .bool false, .bool false, .bool false, .bool false, .bool false, .bool false, .bool false, .bool false] := rfl
def Zi11t4f1t3i2w1i5t2f1 : List SV := [.int .i64 0, .int .i64 0, .int .i64 0, .int .i64 0, .int .i64 0, .int .i64 0, .int .i64 0, .int .i64 0, .int .i64 0, .int .i64 0, .int .i64 0, .tree [] true true, .tree [] true true, .tree [] true true, .tree [] true true, .bool false, .tree [] true true, .tree [] true true, .tree [] true true, .int .i64 0, .int .i64 0, .int .u64 0, .int .i64 0, .int .i64 0, .int .i64 0, .int .i64 0, .int .i64 0, .tree [] true true, .tree [] true true, .bool false]
theorem Zi11t4f1t3i2w1i5t2f1_eq : Zi11t4f1t3i2w1i5t2f1 = [.int .i64 0, .int .i64 0, .int .i64 0, .int .i64 0, .int .i64 0, .int .i64 0, .int .i64 0, .int .i64 0, .int .i64 0, .int .i64 0, .int .i64 0, .tree [] true true, .tree [] true true, .tree [] true true, .tree [] true true, .bool false, .tree [] true true, .tree [] true true, .tree [] true true, .int .i64 0, .int .i64 0, .int .u64 0, .int .i64 0, .int .i64 0, .int .i64 0, .int .i64 0, .int .i64 0, .tree [] true true, .tree [] true true, .bool false] := rfl
def Zi12t4f1t3i2w1i5t2f1 : List SV := [.int .i64 0, .int .i64 0, .int .i64 0, .int .i64 0, .int .i64 0, .int .i64 0, .int .i64 0, .int .i64 0, .int .i64 0, .int .i64 0, .int .i64 0, .int .i64 0, .tree [] true true, .tree [] true true, .tree [] true true, .tree [] true true, .bool false, .tree [] true true, .tree [] true true, .tree [] true true, .int .i64 0, .int .i64 0, .int .u64 0, .int .i64 0, .int .i64 0, .int .i64 0, .int .i64 0, .int .i64 0, .tree [] true true, .tree [] true true, .bool false]
theorem Zi12t4f1t3i2w1i5t2f1_eq : Zi12t4f1t3i2w1i5t2f1 = [.int .i64 0, .int .i64 0, .int .i64 0, .int .i64 0, .int .i64 0, .int .i64 0, .int .i64 0, .int .i64 0, .int .i64 0, .int .i64 0, .int .i64 0, .int .i64 0, .tree [] true true, .tree [] true true, .tree [] true true, .tree [] true true, .bool false, .tree [] true true, .tree [] true true, .tree [] true true, .int .i64 0, .int .i64 0, .int .u64 0, .int .i64 0, .int .i64 0, .int .i64 0, .int .i64 0, .int .i64 0, .tree [] true true, .tree [] true true, .bool false] := rfl
def Zi1t1 : List SV := [.int .i64 0, .tree [] true true]
theorem Zi1t1_eq : Zi1t1 = [.int .i64 0, .tree [] true true] := rfl
def Zi1w1 : List SV := [.int .i64 0, .int .u64 0]
theorem Zi1w1_eq : Zi1w1 = [.int .i64 0, .int .u64 0] := rfl
def Zi1y16 : List SV := [.int .i64 0, .int .u8 0, .int .u8 0, .int .u8 0, .int .u8 0, .int .u8 0, .int .u8 0, .int .u8 0, .int .u8 0, .int .u8 0, .int .u8 0, .int .u8 0, .int .u8 0, .int .u8 0, .int .u8 0, .int .u8 0, .int .u8 0]
theorem Zi1y16_eq : Zi1y16 = [.int .i64 0, .int .u8 0, .int .u8 0, .int .u8 0, .int .u8 0, .int .u8 0, .int .u8 0, .int .u8 0, .int .u8 0, .int .u8 0, .int .u8 0, .int .u8 0, .int .u8 0, .int .u8 0, .int .u8 0, .int .u8 0, .int .u8 0] := rfl
def Zi2t2 : List SV := [.int .i64 0, .int .i64 0, .tree [] true true, .tree [] true true]
theorem Zi2t2_eq : Zi2t2 = [.int .i64 0, .int .i64 0, .tree [] true true, .tree [] true true] := rfl
def Zi2w1i1 : List SV := [.int .i64 0, .int .i64 0, .int .u64 0, .int .i64 0]
theorem Zi2w1i1_eq : Zi2w1i1 = [.int .i64 0, .int .i64 0, .int .u64 0, .int .i64 0] := rfl
def Zi2w1i1t4i5 : List SV := [.int .i64 0, .int .i64 0, .int .u64 0, .int .i64 0, .tree [] true true, .tree [] true true, .tree [] true true, .tree [] true true, .int .i64 0, .int .i64 0, .int .i64 0, .int .i64 0, .int .i64 0]
theorem Zi2w1i1t4i5_eq : Zi2w1i1t4i5 = [.int .i64 0, .int .i64 0, .int .u64 0, .int .i64 0, .tree [] true true, .tree [] true true, .tree [] true true, .tree [] true true, .int .i64 0, .int .i64 0, .int .i64 0, .int .i64 0, .int .i64 0] := rfl
def Zi5 : List SV := [.int .i64 0, .int .i64 0, .int .i64 0, .int .i64 0, .int .i64 0]
theorem Zi5_eq : Zi5 = [.int .i64 0, .int .i64 0, .int .i64 0, .int .i64 0, .int .i64 0] := rfl
def Zy16 : List SV := [.int .u8 0, .int .u8 0, .int .u8 0, .int .u8 0, .int .u8 0, .int .u8 0, .int .u8 0, .int .u8 0, .int .u8 0, .int .u8 0, .int .u8 0, .int .u8 0, .int .u8 0, .int .u8 0, .int .u8 0, .int .u8 0]
theorem Zy16_eq : Zy16 = [.int .u8 0, .int .u8 0, .int .u8 0, .int .u8 0, .int .u8 0, .int .u8 0, .int .u8 0, .int .u8 0, .int .u8 0, .int .u8 0, .int .u8 0, .int .u8 0, .int .u8 0, .int .u8 0, .int .u8 0, .int .u8 0] := rfl
set_option linter.defProp false in
def bZ := (And.intro (And.intro (And.intro @Zf16_eq @Zi11t4f1t3i2w1i5t2f1_eq) (And.intro @Zi12t4f1t3i2w1i5t2f1_eq (And.intro @Zi1t1_eq @Zi1w1_eq))) (And.intro (And.intro @Zi1y16_eq (And.intro @Zi2t2_eq @Zi2w1i1_eq)) (And.intro @Zi2w1i1t4i5_eq (And.intro @Zi5_eq @Zy16_eq))))

/-- slotmeshlaw39.SpreadEnough -/
def b_law39_SpreadEnough_0 : MCode := .seq (.region [o_ 52 (.bin .lss (.t 51) (.t 50))])
  (.seq (.cond (.t 52) (.skip)
  (.trim [5] (.exit 0)))
  (.seq (.block 1
  (.seq (.region [o_ 53 (.iaddr 1 (.t 49) (.t 51)), o_ 54 (.load 1 false (.t 53)), o_ 13 (.mov (.t 54))])
    (.seq (.region [o_ 55 (.mov (.t 13)), o_ 56 (.conv .i64 (.t 55)), o_ 57 (.bin .rem (.t 56) (i_ 1000000001)), o_ 14 (.mov (.t 57))])
    (.seq (.seq (.region [o_ 58 (.mov (.t 13)), o_ 59 (.bin .lss (.t 58) (.c (.int .u32 64)))])
    (.cond (.t 59) (.region [o_ 60 (.mov (.t 13)), o_ 61 (.conv .i64 (.t 60)), o_ 14 (.mov (.t 61))])
    (.skip)))
    (.seq (.region [o_ 63 (.load 13 true (.t 10)), o_ 64 (.mov (.t 8)), o_ 65 (.mov (.t 14)), o_ 66 (.bslice 1 [.t 65]), f_ 67 n_law39_feed [.t 63, .t 64, i_ 0, .t 66], o_ 62 (.mov (.t 67)), o_ 68 (.extract 0 (.t 62)), o_ 69 (.extract 1 (.t 62)), o_ 15 (.alloc Zi2w1i1t4i5), w_ (.store 13 (.t 15) (.t 68)), o_ 16 (.mov (.t 69))])
    (.seq (.draw [] [o_ 71 (.mov (.t 11)), o_ 72 (.mov (.t 14)), f_ 73 n_fountain_Set [.t 72], o_ 74 (.mktree [.int .u8 0] (i_ 16) (i_ 16)), o_ 75 (.build Zi1t1 [(0, 1, .t 73), (1, 1, .t 74)]), f_ 76 n_solve_Add [.t 71, .t 75], o_ 70 (.mov (.t 76)), o_ 77 (.extract 0 (.t 70)), o_ 78 (.extract 1 (.t 70)), o_ 79 (.extract 2 (.t 70)), o_ 17 (.mov (.t 77)), o_ 18 (.mov (.t 78)), o_ 19 (.mov (.t 79))])
    (.seq (.seq (.region [o_ 80 (.mov (.t 16)), o_ 81 (.not (.t 80)), o_ 82 (.mov (.t 81)), g_ 83 82 false (.mov (.t 19)), g_ 84 82 false (.bin .neq (.t 83) (i_ 0)), o_ 85 (.pick (.t 82) T_ (.t 84))])
    (.cond (.t 85) (.seq (.region [o_ 4 (.mov F_)])
      (.ret))
    (.skip)))
    (.seq (.region [o_ 86 (.load 13 true (.t 15)), o_ 87 (.mov (.t 17)), w_ (.store 13 (.t 10) (.t 86)), o_ 11 (.mov (.t 87))])
    (.seq (.region [o_ 88 (.faddr 4 (.t 10)), o_ 89 (.load 1 false (.t 88)), o_ 90 (.len (.t 89)), o_ 91 (.bin .eql (.t 90) (i_ 1)), o_ 92 (.mov (.t 11)), o_ 93 (.len (.t 92)), o_ 94 (.bin .eql (.t 93) (i_ 16)), o_ 95 (.eqb true (.t 91) (.t 94))])
    (.cond (.t 95) (.seq (.region [o_ 4 (.mov F_)])
      (.ret))
    (.skip)))))))))))
  (.region [o_ 96 (.bin .add (.t 51) (i_ 1)), o_ 51 (.mov (.t 96))])))
def l_law39_SpreadEnough_0 : MCode := .loop (.trim [5, 8, 10, 11, 49, 50, 51] b_law39_SpreadEnough_0)
def m_law39_SpreadEnough : MFun := ⟨.seq (.region [o_ 4 (.mov F_)])
  (.seq (.region [f_ 20 n_law39_head [], o_ 5 (.mov (.t 20))])
  (.seq (.region [o_ 22 (.mov (.t 0)), f_ 23 n_image_Announce [i_ 1, .t 22, i_ 0], o_ 21 (.mov (.t 23)), o_ 24 (.extract 0 (.t 21)), o_ 25 (.extract 1 (.t 21)), o_ 6 (.alloc Zi2w1i1), w_ (.store 4 (.t 6) (.t 24)), o_ 7 (.mov (.t 25))])
  (.seq (.seq (.region [o_ 26 (.mov (.t 7)), o_ 27 (.bin .neq (.t 26) (i_ 0)), o_ 28 (.mov (.t 27)), g_ 29 28 false (.mov (.t 1)), g_ 30 28 false (.len (.t 29)), g_ 31 28 false (.bin .gtr (.t 30) (i_ 40)), o_ 32 (.pick (.t 28) T_ (.t 31))])
  (.cond (.t 32) (.seq (.region [o_ 33 (.mov (.t 5)), o_ 4 (.mov (.t 33))])
    (.ret))
  (.skip)))
  (.seq (.region [o_ 35 (.mov (.t 0)), f_ 36 n_image_Split [.t 35], o_ 34 (.mov (.t 36)), o_ 37 (.extract 0 (.t 34)), o_ 38 (.extract 1 (.t 34)), o_ 8 (.mov (.t 37)), o_ 9 (.mov (.t 38))])
  (.seq (.region [o_ 39 (.build Zi2w1i1t4i5 []), o_ 40 (.load 4 true (.t 6)), f_ 41 n_spread_Hear [.t 39, .t 40, i_ 0, i_ 0], o_ 10 (.alloc Zi2w1i1t4i5), w_ (.store 13 (.t 10) (.t 41))])
  (.seq (.seq (.region [o_ 42 (.mov (.t 9)), o_ 43 (.bin .neq (.t 42) (i_ 0)), o_ 44 (.mov (.t 43)), g_ 45 44 false (.mov (.t 8)), g_ 46 44 false (.len (.t 45)), g_ 47 44 false (.bin .eql (.t 46) (i_ 0)), o_ 48 (.pick (.t 44) T_ (.t 47))])
  (.cond (.t 48) (.seq (.region [o_ 4 (.mov F_)])
    (.ret))
  (.skip)))
  (.seq (.region [o_ 11 (.mov (.c (.tree [] true true)))])
  (.seq (.seq (.region [o_ 49 (.mov (.t 1)), o_ 50 (.len (.t 49)), o_ 51 (.mov (i_ 0))])
  (.block 0
  (l_law39_SpreadEnough_0)))
  (.seq (.region [o_ 97 (.mov (.t 5)), o_ 4 (.mov (.t 97))])
  (.ret)))))))))),
  [.t 4]⟩
/-- slotmeshlaw39.head -/
def m_law39_head : MFun := ⟨.seq (.region [o_ 0 (.mov F_)])
  (.seq (.region [f_ 24 n_law39_Program [i_ 300], o_ 1 (.mov (.t 24))])
  (.seq (.region [o_ 26 (.mov (.t 1)), f_ 27 n_image_Split [.t 26], o_ 25 (.mov (.t 27)), o_ 28 (.extract 0 (.t 25)), o_ 29 (.extract 1 (.t 25)), o_ 2 (.mov (.t 28)), o_ 3 (.mov (.t 29))])
  (.seq (.region [o_ 31 (.mov (.t 1)), f_ 32 n_image_Announce [i_ 2, .t 31, i_ 100], o_ 30 (.mov (.t 32)), o_ 33 (.extract 0 (.t 30)), o_ 34 (.extract 1 (.t 30)), o_ 4 (.alloc Zi2w1i1), w_ (.store 4 (.t 4) (.t 33)), o_ 5 (.mov (.t 34))])
  (.seq (.region [o_ 35 (.build Zi5 [(4, 1, i_ 7)]), o_ 36 (.build Zi2w1i1t4i5 [(8, 5, .t 35)]), o_ 37 (.load 4 true (.t 4)), f_ 38 n_spread_Hear [.t 36, .t 37, i_ 1, i_ 5], o_ 6 (.alloc Zi2w1i1t4i5), w_ (.store 13 (.t 6) (.t 38))])
  (.seq (.seq (.region [o_ 39 (.mov (.t 3)), o_ 40 (.bin .neq (.t 39) (i_ 0)), o_ 41 (.mov (.t 40)), g_ 42 41 false (.mov (.t 5)), g_ 43 41 false (.bin .neq (.t 42) (i_ 0)), o_ 44 (.pick (.t 41) T_ (.t 43)), o_ 45 (.mov (.t 44)), g_ 46 45 false (.faddr 0 (.t 6)), g_ 47 45 false (.load 4 true (.t 46)), g_ 48 45 false (.load 4 true (.t 4)), g_ 49 45 false (.eqa true 4 (.t 47) (.t 48)), o_ 50 (.pick (.t 45) T_ (.t 49)), o_ 51 (.mov (.t 50)), g_ 52 51 false (.faddr 8 (.t 6)), g_ 53 51 false (.faddr 0 (.t 52)), g_ 54 51 false (.load 1 false (.t 53)), g_ 55 51 false (.bin .neq (.t 54) (i_ 1)), o_ 56 (.pick (.t 51) T_ (.t 55)), o_ 57 (.mov (.t 56)), g_ 58 57 false (.faddr 8 (.t 6)), g_ 59 57 false (.faddr 4 (.t 58)), g_ 60 57 false (.load 1 false (.t 59)), g_ 61 57 false (.bin .neq (.t 60) (i_ 7)), o_ 62 (.pick (.t 57) T_ (.t 61))])
  (.cond (.t 62) (.seq (.region [o_ 0 (.mov F_)])
    (.ret))
  (.skip)))
  (.seq (.region [o_ 64 (.mov (.t 2)), o_ 65 (.iaddr 1 (.t 64) (i_ 1)), o_ 66 (.load 1 false (.t 65)), f_ 67 n_fountain_Encode [.t 66, i_ 1, i_ 0], o_ 63 (.mov (.t 67)), o_ 68 (.extract 0 (.t 63)), o_ 69 (.extract 1 (.t 63)), o_ 7 (.alloc Zi2t2), w_ (.store 4 (.t 7) (.t 68)), o_ 8 (.mov (.t 69))])
  (.seq (.region [o_ 71 (.load 13 true (.t 6)), o_ 72 (.load 4 true (.t 7)), f_ 73 n_spread_Receive [.t 71, .t 72], o_ 70 (.mov (.t 73)), o_ 74 (.extract 0 (.t 70)), o_ 75 (.extract 1 (.t 70)), o_ 9 (.alloc Zi2w1i1t4i5), w_ (.store 13 (.t 9) (.t 74)), o_ 10 (.mov (.t 75))])
  (.seq (.region [o_ 77 (.build Zi2w1i1t4i5 []), o_ 78 (.load 4 true (.t 7)), f_ 79 n_spread_Receive [.t 77, .t 78], o_ 76 (.mov (.t 79)), o_ 80 (.extract 0 (.t 76)), o_ 81 (.extract 1 (.t 76)), o_ 11 (.alloc Zi2w1i1t4i5), w_ (.store 13 (.t 11) (.t 80)), o_ 12 (.mov (.t 81))])
  (.seq (.draw [(0, 2), (0, 7), (2, 7), (3, 7)] [o_ 83 (.load 13 true (.t 6)), o_ 84 (.mov (.t 2)), f_ 85 n_law39_plain [], f_ 86 n_law39_feed [.t 83, .t 84, i_ 0, .t 85], o_ 82 (.mov (.t 86)), o_ 87 (.extract 0 (.t 82)), o_ 88 (.extract 1 (.t 82)), o_ 13 (.alloc Zi2w1i1t4i5), w_ (.store 13 (.t 13) (.t 87)), o_ 14 (.mov (.t 88))])
  (.seq (.draw [(0, 2), (0, 7), (2, 7), (3, 7)] [o_ 90 (.load 13 true (.t 13)), o_ 91 (.mov (.t 2)), f_ 92 n_law39_plain [], f_ 93 n_law39_feed [.t 90, .t 91, i_ 1, .t 92], o_ 89 (.mov (.t 93)), o_ 94 (.extract 0 (.t 89)), o_ 95 (.extract 1 (.t 89)), o_ 15 (.alloc Zi2w1i1t4i5), w_ (.store 13 (.t 15) (.t 94)), o_ 16 (.mov (.t 95))])
  (.seq (.region [o_ 97 (.load 13 true (.t 15)), f_ 98 n_image_Whole [.t 97], o_ 96 (.mov (.t 98)), o_ 99 (.extract 0 (.t 96)), o_ 100 (.extract 1 (.t 96)), o_ 17 (.mov (.t 99)), o_ 18 (.mov (.t 100))])
  (.seq (.region [o_ 102 (.load 13 true (.t 15)), o_ 103 (.load 4 true (.t 7)), f_ 104 n_spread_Receive [.t 102, .t 103], o_ 101 (.mov (.t 104)), o_ 105 (.extract 0 (.t 101)), o_ 106 (.extract 1 (.t 101)), o_ 19 (.alloc Zi2w1i1t4i5), w_ (.store 13 (.t 19) (.t 105)), o_ 20 (.mov (.t 106))])
  (.seq (.region [o_ 108 (.load 13 true (.t 15)), o_ 109 (.load 4 true (.t 4)), o_ 110 (.build Zi11t4f1t3i2w1i5t2f1 [(19, 4, .t 109), (23, 1, i_ 1)]), o_ 111 (.build Zi12t4f1t3i2w1i5t2f1 [(1, 30, .t 110)]), v_ 112 (.bslice 31 [.t 111]), f_ 113 n_spread_Serve [.t 108, .t 112, i_ 5], o_ 107 (.mov (.t 113)), o_ 114 (.extract 0 (.t 107)), o_ 115 (.extract 1 (.t 107)), o_ 116 (.extract 2 (.t 107)), o_ 21 (.alloc Zi2w1i1t4i5), o_ 22 (.alloc Zi2t2), w_ (.store 13 (.t 21) (.t 114)), w_ (.store 4 (.t 22) (.t 115)), o_ 23 (.mov (.t 116))])
  (.seq (.region [o_ 117 (.mov (.t 8)), o_ 118 (.bin .eql (.t 117) (i_ 0)), o_ 119 (.mov (.t 118)), g_ 120 119 true (.mov (.t 10)), g_ 121 119 true (.bin .eql (.t 120) (i_ 6)), o_ 122 (.pick (.t 119) (.t 121) F_), o_ 123 (.mov (.t 122)), g_ 124 123 true (.mov (.t 12)), g_ 125 123 true (.bin .eql (.t 124) (i_ 4)), o_ 126 (.pick (.t 123) (.t 125) F_), o_ 127 (.mov (.t 126)), g_ 128 127 true (.mov (.t 20)), g_ 129 127 true (.bin .eql (.t 128) (i_ 10)), o_ 130 (.pick (.t 127) (.t 129) F_), o_ 131 (.mov (.t 130)), g_ 132 131 true (.mov (.t 14)), o_ 133 (.pick (.t 131) (.t 132) F_), o_ 134 (.mov (.t 133)), g_ 135 134 true (.mov (.t 16)), o_ 136 (.pick (.t 134) (.t 135) F_), o_ 137 (.mov (.t 136)), g_ 138 137 true (.mov (.t 18)), o_ 139 (.pick (.t 137) (.t 138) F_), o_ 140 (.mov (.t 139)), g_ 141 140 true (.faddr 4 (.t 13)), g_ 142 140 true (.load 1 false (.t 141)), g_ 143 140 true (.len (.t 142)), g_ 144 140 true (.bin .eql (.t 143) (i_ 1)), o_ 145 (.pick (.t 140) (.t 144) F_), o_ 146 (.mov (.t 145)), g_ 147 146 true (.mov (.t 17)), g_ 148 146 true (.mov (.t 1)), ⟨some 149, (some (146, true)), .call .ro (.c (.fn n_ref36_Bytes [] [])) [.t 147, .t 148]⟩, o_ 150 (.pick (.t 146) (.t 149) F_), o_ 151 (.mov (.t 150)), g_ 152 151 true (.mov (.t 23)), o_ 153 (.pick (.t 151) (.t 152) F_), o_ 154 (.mov (.t 153)), g_ 155 154 true (.faddr 0 (.t 22)), g_ 156 154 true (.load 1 false (.t 155)), g_ 157 154 true (.bin .eql (.t 156) (i_ 1)), o_ 158 (.pick (.t 154) (.t 157) F_), o_ 159 (.mov (.t 158)), g_ 160 159 true (.faddr 1 (.t 22)), g_ 161 159 true (.load 1 false (.t 160)), g_ 162 159 true (.bin .eql (.t 161) (i_ 327)), o_ 163 (.pick (.t 159) (.t 162) F_), o_ 164 (.mov (.t 163)), g_ 165 164 true (.faddr 3 (.t 22)), g_ 166 164 true (.load 1 false (.t 165)), g_ 167 164 true (.len (.t 166)), g_ 168 164 true (.bin .eql (.t 167) (i_ 1)), o_ 169 (.pick (.t 164) (.t 168) F_), o_ 0 (.mov (.t 169))])
  (.ret))))))))))))))),
  [.t 0]⟩
/-- spread.Receive -/
def m_spread_Receive : MFun := ⟨.seq (.region [o_ 2 (.box (.t 0)), o_ 3 (.box (.t 1)), o_ 4 (.alloc Zi2w1i1t4i5), o_ 5 (.mov (i_ 0))])
  (.seq (.region [o_ 14 (.load 13 true (.t 2)), ⟨some 15, none, .call .rw (.c (.fn n_spread_copied [] [])) [.t 14]⟩, o_ 6 (.mov (.t 15))])
  (.seq (.seq (.region [o_ 16 (.mov (.t 6)), o_ 17 (.load 4 true (.t 3)), f_ 18 n_pspread_state_refused [.t 16, .t 17], o_ 7 (.mov (.t 18))])
  (.seq (.region [o_ 19 (.mov (.t 7)), o_ 20 (.bin .neq (.t 19) (i_ 0))])
  (.cond (.t 20) (.seq (.region [o_ 21 (.mov (.t 6)), o_ 22 (.nilck (.t 21)), o_ 23 (.faddr 0 (.t 22)), o_ 24 (.load 13 true (.t 23)), o_ 25 (.mov (.t 7)), w_ (.store 13 (.t 4) (.t 24)), o_ 5 (.mov (.t 25))])
    (.ret))
  (.skip))))
  (.seq (.draw [(4, 5)] [o_ 27 (.mov (.t 6)), o_ 28 (.nilck (.t 27)), o_ 29 (.faddr 0 (.t 28)), o_ 30 (.faddr 6 (.t 29)), o_ 31 (.load 1 false (.t 30)), o_ 32 (.load 4 true (.t 3)), f_ 33 n_fountain_Receive [.t 31, .t 32], o_ 26 (.mov (.t 33)), o_ 34 (.extract 0 (.t 26)), o_ 35 (.extract 1 (.t 26)), o_ 36 (.extract 2 (.t 26)), o_ 8 (.mov (.t 34)), o_ 9 (.mov (.t 35)), o_ 10 (.mov (.t 36))])
  (.seq (.seq (.region [o_ 37 (.mov (.t 10)), o_ 38 (.bin .neq (.t 37) (i_ 0))])
  (.cond (.t 38) (.seq (.region [o_ 39 (.mov (.t 6)), o_ 40 (.mov (.t 10)), ⟨some 41, none, .call .rw (.c (.fn n_pspread_state_anew [] [])) [.t 39, .t 40]⟩, o_ 42 (.extract 0 (.t 41)), o_ 43 (.extract 1 (.t 41)), w_ (.store 13 (.t 4) (.t 42)), o_ 5 (.mov (.t 43))])
    (.ret))
  (.skip)))
  (.seq (.region [o_ 44 (.mov (.t 6)), o_ 45 (.mov (.t 6)), o_ 46 (.mov (.t 8)), o_ 47 (.faddr 3 (.t 3)), o_ 48 (.load 1 false (.t 47)), f_ 49 n_slices_Clone_suint64_uint64 [.t 48], o_ 50 (.nilck (.t 44)), o_ 51 (.faddr 0 (.t 50)), o_ 52 (.faddr 6 (.t 51)), w_ (.store 1 (.t 52) (.t 46)), o_ 53 (.nilck (.t 45)), o_ 54 (.faddr 0 (.t 53)), o_ 55 (.faddr 7 (.t 54)), w_ (.store 1 (.t 55) (.t 49))])
  (.seq (.region [o_ 57 (.mov (.t 8)), f_ 58 n_fountain_Page [.t 57], o_ 56 (.mov (.t 58)), o_ 59 (.extract 0 (.t 56)), o_ 60 (.extract 1 (.t 56)), o_ 11 (.mov (.t 59)), o_ 12 (.mov (.t 60))])
  (.seq (.seq (.region [o_ 61 (.mov (.t 12)), o_ 62 (.not (.t 61))])
  (.cond (.t 62) (.seq (.region [o_ 63 (.mov (.t 6)), o_ 64 (.nilck (.t 63)), o_ 65 (.faddr 0 (.t 64)), o_ 66 (.load 13 true (.t 65)), w_ (.store 13 (.t 4) (.t 66)), o_ 5 (.mov (i_ 0))])
    (.ret))
  (.skip)))
  (.seq (.draw [(3, 6), (3, 11), (6, 11), (7, 11)] [o_ 68 (.mov (.t 6)), o_ 69 (.nilck (.t 68)), o_ 70 (.faddr 0 (.t 69)), o_ 71 (.load 13 true (.t 70)), o_ 72 (.mov (.t 11)), o_ 73 (.faddr 3 (.t 3)), o_ 74 (.load 1 false (.t 73)), f_ 75 n_image_Put [.t 71, .t 72, .t 74], o_ 67 (.mov (.t 75)), o_ 76 (.extract 0 (.t 67)), o_ 77 (.extract 1 (.t 67)), o_ 13 (.alloc Zi2w1i1t4i5), w_ (.store 13 (.t 13) (.t 76)), o_ 10 (.mov (.t 77))])
  (.seq (.seq (.region [o_ 78 (.mov (.t 10)), o_ 79 (.bin .neq (.t 78) (i_ 0))])
  (.cond (.t 79) (.seq (.region [o_ 80 (.mov (.t 6)), ⟨some 81, none, .call .rw (.c (.fn n_pspread_state_anew [] [])) [.t 80, i_ 12]⟩, o_ 82 (.extract 0 (.t 81)), o_ 83 (.extract 1 (.t 81)), w_ (.store 13 (.t 4) (.t 82)), o_ 5 (.mov (.t 83))])
    (.ret))
  (.skip)))
  (.seq (.region [o_ 84 (.load 13 true (.t 13)), w_ (.store 13 (.t 4) (.t 84)), o_ 5 (.mov (i_ 0))])
  (.ret))))))))))),
  [.cell 4 13 true, .t 5]⟩
/-- spread.Serve -/
def a_spread_Serve_0 : MCode := .region [o_ 13 (.mov (.t 62))]
def y_spread_Serve_0 : MCode := .block 1
  (.region [o_ 63 (.load 1 false (.t 12)), o_ 64 (.mov (.t 13)), o_ 65 (.mn (.t 63) (.t 64)), w_ (.store 1 (.t 12) (.t 65))])
def g_spread_Serve_0 : MCode := .range (.t 61) [62] a_spread_Serve_0 y_spread_Serve_0
def m_spread_Serve : MFun := ⟨.seq (.region [o_ 3 (.box (.t 0)), o_ 6 (.alloc Zi2w1i1t4i5), o_ 7 (.alloc Zi2t2), o_ 8 (.mov F_)])
  (.seq (.region [o_ 16 (.load 13 true (.t 3)), ⟨some 17, none, .call .rw (.c (.fn n_spread_copied [] [])) [.t 16]⟩, o_ 9 (.mov (.t 17))])
  (.seq (.seq (.region [o_ 18 (.mov (.t 9)), f_ 19 n_pspread_state_valid [.t 18], o_ 20 (.not (.t 19)), o_ 21 (.mov (.t 20)), g_ 22 21 false (.mov (.t 9)), ⟨some 23, (some (21, false)), .call .ro (.c (.fn n_pspread_state_empty [] [])) [.t 22]⟩, o_ 24 (.pick (.t 21) T_ (.t 23)), o_ 25 (.mov (.t 24)), g_ 26 25 false (.mov (.t 2)), g_ 27 25 false (.bin .lss (.t 26) (i_ 0)), o_ 28 (.pick (.t 25) T_ (.t 27)), o_ 29 (.mov (.t 28)), g_ 30 29 false (.mov (.t 2)), g_ 31 29 false (.bin .gtr (.t 30) (i_ 999999984)), o_ 32 (.pick (.t 29) T_ (.t 31))])
  (.cond (.t 32) (.seq (.region [o_ 33 (.mov (.t 9)), o_ 34 (.nilck (.t 33)), o_ 35 (.faddr 0 (.t 34)), o_ 36 (.load 13 true (.t 35)), o_ 37 (.build Zi2t2 []), w_ (.store 13 (.t 6) (.t 36)), w_ (.store 4 (.t 7) (.t 37)), o_ 8 (.mov F_)])
    (.ret))
  (.skip)))
  (.seq (.region [o_ 39 (.mov (.t 9)), o_ 40 (.nilck (.t 39)), o_ 41 (.faddr 0 (.t 40)), o_ 42 (.faddr 8 (.t 41)), o_ 43 (.load 5 true (.t 42)), o_ 44 (.mov (.t 2)), f_ 45 n_trickle_Tick [.t 43, .t 44], o_ 38 (.mov (.t 45)), o_ 46 (.extract 0 (.t 38)), o_ 47 (.extract 1 (.t 38)), o_ 10 (.alloc Zi5), w_ (.store 5 (.t 10) (.t 46)), o_ 11 (.mov (.t 47))])
  (.seq (.region [o_ 48 (.mov (.t 9)), o_ 49 (.load 5 true (.t 10)), o_ 50 (.nilck (.t 48)), o_ 51 (.faddr 0 (.t 50)), o_ 52 (.faddr 8 (.t 51)), w_ (.store 5 (.t 52) (.t 49))])
  (.seq (.region [o_ 53 (.mov (.t 9)), o_ 54 (.nilck (.t 53)), o_ 55 (.faddr 0 (.t 54)), o_ 56 (.faddr 4 (.t 55)), o_ 57 (.load 1 false (.t 56)), o_ 58 (.len (.t 57)), o_ 12 (.alloc [.int .i64 0]), w_ (.store 1 (.t 12) (.t 58))])
  (.seq (.seq (.region [o_ 59 (.mov (.t 9)), o_ 60 (.mov (.t 1)), ⟨some 61, none, .call .rw (.c (.fn n_pspread_state_lacking [] [])) [.t 59, .t 60]⟩])
  (.block 0
  (.trim [2, 6, 7, 8, 9, 10, 11, 12, 61] g_spread_Serve_0)))
  (.seq (.seq (.draw [(7, 12)] [o_ 66 (.mov (.t 11)), o_ 67 (.not (.t 66)), o_ 68 (.mov (.t 67)), g_ 69 68 false (.load 1 false (.t 12)), g_ 70 68 false (.bin .lss (.t 69) (i_ 0)), o_ 71 (.pick (.t 68) T_ (.t 70)), o_ 72 (.mov (.t 71)), g_ 73 72 false (.load 1 false (.t 12)), g_ 74 72 false (.mov (.t 9)), g_ 75 72 false (.nilck (.t 74)), g_ 76 72 false (.faddr 0 (.t 75)), g_ 77 72 false (.faddr 4 (.t 76)), g_ 78 72 false (.load 1 false (.t 77)), g_ 79 72 false (.len (.t 78)), g_ 80 72 false (.bin .geq (.t 73) (.t 79)), o_ 81 (.pick (.t 72) T_ (.t 80))])
  (.cond (.t 81) (.seq (.region [o_ 82 (.mov (.t 9)), o_ 83 (.nilck (.t 82)), o_ 84 (.faddr 0 (.t 83)), o_ 85 (.load 13 true (.t 84)), o_ 86 (.build Zi2t2 []), w_ (.store 13 (.t 6) (.t 85)), w_ (.store 4 (.t 7) (.t 86)), o_ 8 (.mov F_)])
    (.ret))
  (.skip)))
  (.seq (.draw [(4, 5), (4, 8), (5, 8), (7, 8), (4, 12), (5, 12), (7, 12), (8, 12), (4, 20), (5, 20), (7, 20), (8, 20), (12, 20), (16, 20)] [o_ 88 (.mov (.t 9)), o_ 89 (.nilck (.t 88)), o_ 90 (.faddr 0 (.t 89)), o_ 91 (.faddr 4 (.t 90)), o_ 92 (.load 1 false (.t 91)), o_ 93 (.load 1 false (.t 12)), o_ 94 (.iaddr 1 (.t 92) (.t 93)), o_ 95 (.load 1 false (.t 94)), o_ 96 (.load 1 false (.t 12)), o_ 97 (.mov (.t 2)), o_ 98 (.bin .mul (i_ 64) (.t 97)), o_ 99 (.faddr 4 (.t 10)), o_ 100 (.load 1 false (.t 99)), o_ 101 (.bin .rem (.t 100) (i_ 64)), o_ 102 (.bin .add (.t 98) (.t 101)), o_ 103 (.bin .rem (.t 102) (i_ 1000000001)), f_ 104 n_fountain_Encode [.t 95, .t 96, .t 103], o_ 87 (.mov (.t 104)), o_ 105 (.extract 0 (.t 87)), o_ 106 (.extract 1 (.t 87)), o_ 14 (.alloc Zi2t2), w_ (.store 4 (.t 14) (.t 105)), o_ 15 (.mov (.t 106))])
  (.seq (.draw [(4, 5)] [o_ 107 (.mov (.t 9)), o_ 108 (.nilck (.t 107)), o_ 109 (.faddr 0 (.t 108)), o_ 110 (.faddr 5 (.t 109)), o_ 111 (.load 1 false (.t 110)), o_ 112 (.load 1 false (.t 12)), o_ 113 (.iaddr 1 (.t 111) (.t 112)), o_ 114 (.load 1 false (.t 113)), f_ 115 n_slices_Clone_suint64_uint64 [.t 114], o_ 116 (.faddr 3 (.t 14)), w_ (.store 1 (.t 116) (.t 115))])
  (.seq (.draw [(3, 4), (4, 5)] [o_ 117 (.mov (.t 9)), o_ 118 (.nilck (.t 117)), o_ 119 (.faddr 0 (.t 118)), o_ 120 (.load 13 true (.t 119)), o_ 121 (.load 4 true (.t 14)), w_ (.store 13 (.t 6) (.t 120)), w_ (.store 4 (.t 7) (.t 121)), o_ 8 (.mov T_)])
  (.ret))))))))))),
  [.cell 6 13 true, .cell 7 4 true, .t 8]⟩
/-- spread.Hear -/
def m_spread_Hear : MFun := ⟨.seq (.region [o_ 4 (.box (.t 0)), o_ 5 (.box (.t 1)), o_ 8 (.alloc Zi2w1i1t4i5)])
  (.seq (.region [o_ 14 (.load 13 true (.t 4)), ⟨some 15, none, .call .rw (.c (.fn n_spread_copied [] [])) [.t 14]⟩, o_ 9 (.mov (.t 15))])
  (.seq (.region [o_ 16 (.load 4 true (.t 5)), o_ 17 (.build Zi2w1i1 []), o_ 18 (.eqa false 4 (.t 16) (.t 17)), o_ 10 (.mov (.t 18))])
  (.seq (.seq (.region [o_ 19 (.mov (.t 9)), f_ 20 n_pspread_state_valid [.t 19], o_ 21 (.not (.t 20)), o_ 22 (.mov (.t 21)), g_ 23 22 false (.mov (.t 10)), g_ 24 22 false (.not (.t 23)), g_ 25 22 false (.mov (.t 24)), g_ 26 25 true (.load 4 true (.t 5)), ⟨some 27, (some (25, true)), .call .ro (.c (.fn n_spread_announced [] [])) [.t 26]⟩, g_ 28 25 true (.not (.t 27)), g_ 29 22 false (.pick (.t 25) (.t 28) F_), o_ 30 (.pick (.t 22) T_ (.t 29)), o_ 31 (.mov (.t 30)), g_ 32 31 false (.mov (.t 2)), g_ 33 31 false (.bin .lss (.t 32) (i_ 0)), o_ 34 (.pick (.t 31) T_ (.t 33)), o_ 35 (.mov (.t 34)), g_ 36 35 false (.mov (.t 2)), g_ 37 35 false (.load 4 true (.t 5)), ⟨some 38, (some (35, false)), .call .ro (.c (.fn n_spread_count [] [])) [.t 37]⟩, g_ 39 35 false (.bin .gtr (.t 36) (.t 38)), o_ 40 (.pick (.t 35) T_ (.t 39)), o_ 41 (.mov (.t 40)), g_ 42 41 false (.mov (.t 3)), g_ 43 41 false (.bin .lss (.t 42) (i_ 0)), o_ 44 (.pick (.t 41) T_ (.t 43)), o_ 45 (.mov (.t 44)), g_ 46 45 false (.mov (.t 3)), g_ 47 45 false (.bin .gtr (.t 46) (i_ 999999984)), o_ 48 (.pick (.t 45) T_ (.t 47))])
  (.cond (.t 48) (.seq (.region [o_ 49 (.mov (.t 9)), o_ 50 (.nilck (.t 49)), o_ 51 (.faddr 0 (.t 50)), o_ 52 (.load 13 true (.t 51)), w_ (.store 13 (.t 8) (.t 52))])
    (.ret))
  (.skip)))
  (.seq (.draw [(3, 8)] [o_ 53 (.mov (.t 10)), o_ 54 (.not (.t 53)), o_ 55 (.mov (.t 54)), g_ 56 55 true (.load 4 true (.t 5)), g_ 57 55 true (.mov (.t 9)), g_ 58 55 true (.nilck (.t 57)), g_ 59 55 true (.faddr 0 (.t 58)), g_ 60 55 true (.faddr 0 (.t 59)), g_ 61 55 true (.load 4 true (.t 60)), g_ 62 55 true (.eqa false 4 (.t 56) (.t 61)), o_ 63 (.pick (.t 55) (.t 62) F_), o_ 11 (.mov (.t 63))])
  (.seq (.block 0
  (.seq (.draw [(1, 7)] [o_ 65 (.faddr 0 (.t 5)), o_ 66 (.load 1 false (.t 65)), o_ 67 (.mov (.t 9)), o_ 68 (.nilck (.t 67)), o_ 69 (.faddr 0 (.t 68)), o_ 70 (.faddr 0 (.t 69)), o_ 71 (.faddr 0 (.t 70)), o_ 72 (.load 1 false (.t 71)), o_ 73 (.bin .gtr (.t 66) (.t 72)), o_ 64 (.mov (.t 73))])
    (.cond (.t 64) (.seq (.region [o_ 75 (.mov (.t 9)), o_ 76 (.nilck (.t 75)), o_ 77 (.faddr 0 (.t 76)), o_ 78 (.faddr 8 (.t 77)), o_ 79 (.faddr 4 (.t 78)), o_ 80 (.load 1 false (.t 79)), o_ 81 (.mov (.t 3)), f_ 82 n_trickle_New [.t 80, .t 81], o_ 74 (.mov (.t 82)), o_ 83 (.extract 0 (.t 74)), o_ 84 (.extract 1 (.t 74)), o_ 12 (.alloc Zi5), w_ (.store 5 (.t 12) (.t 83)), o_ 13 (.mov (.t 84))])
      (.seq (.region [o_ 85 (.load 4 true (.t 5)), o_ 86 (.load 5 true (.t 12)), o_ 87 (.build Zi2w1i1t4i5 [(0, 4, .t 85), (8, 5, .t 86)]), w_ (.store 13 (.t 8) (.t 87))])
      (.ret)))
    (.seq (.draw [(1, 7)] [o_ 89 (.faddr 0 (.t 5)), o_ 90 (.load 1 false (.t 89)), o_ 91 (.mov (.t 9)), o_ 92 (.nilck (.t 91)), o_ 93 (.faddr 0 (.t 92)), o_ 94 (.faddr 0 (.t 93)), o_ 95 (.faddr 0 (.t 94)), o_ 96 (.load 1 false (.t 95)), o_ 97 (.bin .lss (.t 90) (.t 96)), o_ 98 (.mov (.t 97)), g_ 99 98 false (.mov (.t 11)), g_ 100 98 false (.mov (.t 99)), g_ 101 100 true (.mov (.t 2)), g_ 102 100 true (.mov (.t 9)), g_ 103 100 true (.nilck (.t 102)), g_ 104 100 true (.faddr 0 (.t 103)), g_ 105 100 true (.faddr 4 (.t 104)), g_ 106 100 true (.load 1 false (.t 105)), g_ 107 100 true (.len (.t 106)), g_ 108 100 true (.bin .neq (.t 101) (.t 107)), g_ 109 98 false (.pick (.t 100) (.t 108) F_), o_ 110 (.pick (.t 98) T_ (.t 109)), o_ 88 (.mov (.t 110))])
      (.cond (.t 88) (.region [o_ 111 (.mov (.t 9)), o_ 112 (.mov (.t 9)), o_ 113 (.nilck (.t 112)), o_ 114 (.faddr 0 (.t 113)), o_ 115 (.faddr 8 (.t 114)), o_ 116 (.load 5 true (.t 115)), o_ 117 (.mov (.t 3)), f_ 118 n_trickle_Reset [.t 116, .t 117], o_ 119 (.nilck (.t 111)), o_ 120 (.faddr 0 (.t 119)), o_ 121 (.faddr 8 (.t 120)), w_ (.store 5 (.t 121) (.t 118))])
      (.seq (.region [o_ 123 (.mov (.t 11)), o_ 122 (.mov (.t 123))])
        (.cond (.t 122) (.region [o_ 124 (.mov (.t 9)), o_ 125 (.mov (.t 9)), o_ 126 (.nilck (.t 125)), o_ 127 (.faddr 0 (.t 126)), o_ 128 (.faddr 8 (.t 127)), o_ 129 (.load 5 true (.t 128)), f_ 130 n_trickle_Hear [.t 129], o_ 131 (.nilck (.t 124)), o_ 132 (.faddr 0 (.t 131)), o_ 133 (.faddr 8 (.t 132)), w_ (.store 5 (.t 133) (.t 130))])
        (.skip))))))))
  (.seq (.region [o_ 134 (.mov (.t 9)), o_ 135 (.nilck (.t 134)), o_ 136 (.faddr 0 (.t 135)), o_ 137 (.load 13 true (.t 136)), w_ (.store 13 (.t 8) (.t 137))])
  (.ret))))))),
  [.cell 8 13 true]⟩
/-- image.Announce -/
def m_image_Announce : MFun := ⟨.seq (.region [o_ 6 (.alloc Zi2w1i1), o_ 7 (.mov (i_ 0))])
  (.seq (.region [o_ 11 (.mov (.t 0)), o_ 12 (.mov (.t 1)), o_ 13 (.len (.t 12)), o_ 14 (.mov (.t 2)), o_ 15 (.build Zi2w1i1 [(0, 1, .t 11), (1, 1, .t 13), (3, 1, .t 14)]), o_ 8 (.alloc Zi2w1i1), w_ (.store 4 (.t 8) (.t 15))])
  (.seq (.region [o_ 17 (.mov (.t 1)), f_ 18 n_image_Split [.t 17], o_ 16 (.mov (.t 18)), o_ 19 (.extract 0 (.t 16)), o_ 20 (.extract 1 (.t 16)), o_ 9 (.mov (.t 19)), o_ 10 (.mov (.t 20))])
  (.seq (.seq (.region [o_ 21 (.mov (.t 10)), o_ 22 (.bin .neq (.t 21) (i_ 0)), o_ 23 (.mov (.t 22)), g_ 24 23 false (.load 4 true (.t 8)), ⟨some 25, (some (23, false)), .call .ro (.c (.fn n_image_announced [] [])) [.t 24]⟩, g_ 26 23 false (.not (.t 25)), o_ 27 (.pick (.t 23) T_ (.t 26))])
  (.cond (.t 27) (.seq (.region [o_ 28 (.build Zi2w1i1 []), w_ (.store 4 (.t 6) (.t 28)), o_ 7 (.mov (i_ 1))])
    (.ret))
  (.skip)))
  (.seq (.region [o_ 30 (.mov (.t 9)), f_ 31 n_tree_Root [.t 30], o_ 29 (.mov (.t 31)), o_ 32 (.extract 0 (.t 29)), o_ 33 (.extract 1 (.t 29)), o_ 34 (.faddr 2 (.t 8)), w_ (.store 1 (.t 34) (.t 32)), o_ 10 (.mov (.t 33))])
  (.seq (.region [o_ 35 (.load 4 true (.t 8)), o_ 36 (.mov (.t 10)), w_ (.store 4 (.t 6) (.t 35)), o_ 7 (.mov (.t 36))])
  (.ret)))))),
  [.cell 6 4 true, .t 7]⟩
/-- image.Split -/
def a_image_Split_0 : MCode := .region [o_ 5 (.mov (.t 13))]
def y_image_Split_0 : MCode := .block 1
  (.seq (.region [o_ 14 (.mkslice [.int .u8 0] (i_ 256) (i_ 256)), o_ 6 (.mov (.t 14))])
    (.seq (.region [o_ 15 (.mov (.t 6)), o_ 16 (.mov (.t 5)), v_ 17 (.copy 1 (.t 15) (.t 16))])
    (.region [o_ 18 (.load 1 false (.t 4)), o_ 19 (.mov (.t 6)), v_ 20 (.bslice 1 [.t 19]), v_ 21 (.append 1 (.t 18) (.t 20)), w_ (.store 1 (.t 4) (.t 21))])))
def g_image_Split_0 : MCode := .range (.t 12) [13] a_image_Split_0 y_image_Split_0
def m_image_Split : MFun := ⟨.seq (.region [o_ 2 (.mov (.c (.tree [] true true))), o_ 3 (.mov (i_ 0))])
  (.seq (.seq (.region [o_ 7 (.mov (.t 0)), o_ 8 (.len (.t 7)), f_ 9 n_image_sized [.t 8], o_ 10 (.not (.t 9))])
  (.cond (.t 10) (.seq (.region [o_ 2 (.mov (.c (.tree [] true true))), o_ 3 (.mov (i_ 1))])
    (.ret))
  (.skip)))
  (.seq (.region [o_ 4 (.alloc [.tree [] true true])])
  (.seq (.seq (.region [o_ 11 (.mov (.t 0)), ⟨some 12, none, .call .rw (.c (.fn n_slices_Chunk_sbyte_byte [] [])) [.t 11, i_ 256]⟩])
  (.block 0
  (.trim [2, 3, 4, 12] g_image_Split_0)))
  (.seq (.region [o_ 22 (.load 1 false (.t 4)), o_ 2 (.mov (.t 22)), o_ 3 (.mov (i_ 0))])
  (.ret))))),
  [.t 2, .t 3]⟩
/-- slotmeshlaw39.feed -/
def b_law39_feed_0 : MCode := .seq (.region [o_ 36 (.bin .lss (.t 35) (.t 34))])
  (.seq (.cond (.t 36) (.skip)
  (.trim [4, 8] (.exit 0)))
  (.seq (.block 1
  (.seq (.region [o_ 37 (.iaddr 1 (.t 33) (.t 35)), o_ 38 (.load 1 false (.t 37)), o_ 13 (.mov (.t 38))])
    (.seq (.region [o_ 40 (.mov (.t 1)), o_ 41 (.mov (.t 2)), o_ 42 (.iaddr 1 (.t 40) (.t 41)), o_ 43 (.load 1 false (.t 42)), o_ 44 (.mov (.t 2)), o_ 45 (.mov (.t 13)), f_ 46 n_fountain_Encode [.t 43, .t 44, .t 45], o_ 39 (.mov (.t 46)), o_ 47 (.extract 0 (.t 39)), o_ 48 (.extract 1 (.t 39)), o_ 14 (.alloc Zi2t2), w_ (.store 4 (.t 14) (.t 47)), o_ 15 (.mov (.t 48))])
    (.seq (.seq (.region [o_ 49 (.mov (.t 15)), o_ 50 (.bin .neq (.t 49) (i_ 0))])
    (.cond (.t 50) (.seq (.region [o_ 51 (.load 13 true (.t 4)), w_ (.store 13 (.t 8) (.t 51)), o_ 9 (.mov F_)])
      (.ret))
    (.skip)))
    (.seq (.region [o_ 52 (.mov (.t 10)), o_ 53 (.faddr 3 (.t 14)), w_ (.store 1 (.t 53) (.t 52))])
    (.seq (.region [o_ 55 (.load 13 true (.t 4)), o_ 56 (.load 4 true (.t 14)), f_ 57 n_spread_Receive [.t 55, .t 56], o_ 54 (.mov (.t 57)), o_ 58 (.extract 0 (.t 54)), o_ 59 (.extract 1 (.t 54)), o_ 16 (.alloc Zi2w1i1t4i5), w_ (.store 13 (.t 16) (.t 58)), o_ 17 (.mov (.t 59))])
    (.seq (.seq (.region [o_ 60 (.mov (.t 17)), o_ 61 (.bin .neq (.t 60) (i_ 0)), o_ 62 (.mov (.t 61)), g_ 63 62 true (.mov (.t 17)), g_ 64 62 true (.bin .neq (.t 63) (i_ 14)), o_ 65 (.pick (.t 62) (.t 64) F_), o_ 66 (.mov (.t 65)), g_ 67 66 true (.mov (.t 17)), g_ 68 66 true (.bin .neq (.t 67) (i_ 10)), o_ 69 (.pick (.t 66) (.t 68) F_)])
    (.cond (.t 69) (.seq (.region [o_ 70 (.load 13 true (.t 4)), w_ (.store 13 (.t 8) (.t 70)), o_ 9 (.mov F_)])
      (.ret))
    (.skip)))
    (.region [o_ 71 (.load 13 true (.t 16)), w_ (.store 13 (.t 4) (.t 71))]))))))))
  (.region [o_ 72 (.bin .add (.t 35) (i_ 1)), o_ 35 (.mov (.t 72))])))
def l_law39_feed_0 : MCode := .loop (.trim [1, 2, 4, 8, 10, 33, 34, 35] b_law39_feed_0)
def m_law39_feed : MFun := ⟨.seq (.region [o_ 4 (.box (.t 0)), o_ 8 (.alloc Zi2w1i1t4i5), o_ 9 (.mov F_)])
  (.seq (.region [o_ 19 (.mov (.t 1)), o_ 20 (.mov (.t 2)), f_ 21 n_tree_Proof [.t 19, .t 20], o_ 18 (.mov (.t 21)), o_ 22 (.extract 0 (.t 18)), o_ 23 (.extract 1 (.t 18)), o_ 10 (.mov (.t 22)), o_ 11 (.mov (.t 23))])
  (.seq (.seq (.region [o_ 24 (.mov (.t 11)), o_ 25 (.bin .neq (.t 24) (i_ 0)), o_ 26 (.mov (.t 25)), g_ 27 26 false (.mov (.t 2)), g_ 28 26 false (.mov (.t 1)), g_ 29 26 false (.len (.t 28)), g_ 30 26 false (.bin .geq (.t 27) (.t 29)), o_ 31 (.pick (.t 26) T_ (.t 30))])
  (.cond (.t 31) (.seq (.region [o_ 32 (.load 13 true (.t 4)), w_ (.store 13 (.t 8) (.t 32)), o_ 9 (.mov F_)])
    (.ret))
  (.skip)))
  (.seq (.seq (.region [o_ 33 (.mov (.t 3)), o_ 34 (.len (.t 33)), o_ 35 (.mov (i_ 0))])
  (.block 0
  (l_law39_feed_0)))
  (.seq (.region [o_ 73 (.load 13 true (.t 4)), w_ (.store 13 (.t 8) (.t 73)), o_ 9 (.mov T_)])
  (.ret))))),
  [.cell 8 13 true, .t 9]⟩
/-- slotmeshlaw39.plain -/
def b_law39_plain_0 : MCode := .seq (.region [o_ 4 (.bin .lss (.t 3) (i_ 16))])
  (.seq (.cond (.t 4) (.skip)
  (.trim [1] (.exit 0)))
  (.seq (.block 1
  (.seq (.region [o_ 5 (.mov (.t 3)), o_ 2 (.mov (.t 5))])
    (.region [o_ 6 (.mov (.t 1)), o_ 7 (.mov (.t 2)), o_ 8 (.bslice 1 [.t 7]), v_ 9 (.append 1 (.t 6) (.t 8)), o_ 1 (.mov (.t 9))])))
  (.region [o_ 10 (.bin .add (.t 3) (i_ 1)), o_ 3 (.mov (.t 10))])))
def l_law39_plain_0 : MCode := .loop (.trim [1, 3] b_law39_plain_0)
def m_law39_plain : MFun := ⟨.seq (.region [o_ 0 (.mov (.c (.tree [] true true)))])
  (.seq (.region [o_ 1 (.mov (.c (.tree [] true true)))])
  (.seq (.seq (.region [o_ 3 (.mov (i_ 0))])
  (.block 0
  (l_law39_plain_0)))
  (.seq (.region [o_ 11 (.mov (.t 1)), o_ 0 (.mov (.t 11))])
  (.ret)))),
  [.t 0]⟩
/-- image.Whole -/
def m_image_Whole : MFun := ⟨.seq (.region [o_ 1 (.box (.t 0)), o_ 2 (.mov (.c (.tree [] true true))), o_ 3 (.mov F_)])
  (.seq (.seq (.region [o_ 6 (.load 13 true (.t 1)), o_ 7 (.build Zi2w1i1t4i5 [(0, 13, .t 6)]), f_ 8 n_image_load_sound [.t 7], o_ 9 (.not (.t 8))])
  (.cond (.t 9) (.seq (.region [o_ 2 (.mov (.c (.tree [] true true))), o_ 3 (.mov F_)])
    (.ret))
  (.skip)))
  (.seq (.region [o_ 11 (.faddr 4 (.t 1)), o_ 12 (.load 1 false (.t 11)), o_ 13 (.faddr 0 (.t 1)), o_ 14 (.faddr 1 (.t 13)), o_ 15 (.load 1 false (.t 14)), f_ 16 n_image_Join [.t 12, .t 15], o_ 10 (.mov (.t 16)), o_ 17 (.extract 0 (.t 10)), o_ 18 (.extract 1 (.t 10)), o_ 4 (.mov (.t 17)), o_ 5 (.mov (.t 18))])
  (.seq (.region [o_ 19 (.mov (.t 4)), o_ 20 (.mov (.t 5)), o_ 21 (.bin .eql (.t 20) (i_ 0)), o_ 2 (.mov (.t 19)), o_ 3 (.mov (.t 21))])
  (.ret)))),
  [.t 2, .t 3]⟩
/-- slotmeshref36.Bytes -/
def b_ref36_Bytes_0 : MCode := .seq (.seq (.region [o_ 11 (.mov (.t 5)), o_ 12 (.mov (.t 0)), o_ 13 (.len (.t 12)), o_ 14 (.bin .lss (.t 11) (.t 13))])
  (.cond (.t 14) (.skip)
  (.trim [] (.exit 0))))
  (.seq (.block 1
  (.seq (.draw [(3, 7)] [o_ 17 (.mov (.t 0)), o_ 18 (.mov (.t 5)), o_ 19 (.iaddr 1 (.t 17) (.t 18)), o_ 20 (.load 1 false (.t 19)), o_ 21 (.mov (.t 1)), o_ 22 (.mov (.t 5)), o_ 23 (.iaddr 1 (.t 21) (.t 22)), o_ 24 (.load 1 false (.t 23)), o_ 25 (.bin .neq (.t 20) (.t 24))])
    (.cond (.t 25) (.seq (.region [o_ 4 (.mov F_)])
      (.ret))
    (.skip))))
  (.region [o_ 15 (.mov (.t 5)), o_ 16 (.bin .add (.t 15) (i_ 1)), o_ 5 (.mov (.t 16))]))
def l_ref36_Bytes_0 : MCode := .loop (.trim [0, 1, 5] b_ref36_Bytes_0)
def m_ref36_Bytes : MFun := ⟨.seq (.region [o_ 4 (.mov F_)])
  (.seq (.seq (.region [o_ 6 (.mov (.t 0)), o_ 7 (.len (.t 6)), o_ 8 (.mov (.t 1)), o_ 9 (.len (.t 8)), o_ 10 (.bin .neq (.t 7) (.t 9))])
  (.cond (.t 10) (.seq (.region [o_ 4 (.mov F_)])
    (.ret))
  (.skip)))
  (.seq (.seq (.region [o_ 5 (.mov (i_ 0))])
  (.block 0
  (l_ref36_Bytes_0)))
  (.seq (.region [o_ 4 (.mov T_)])
  (.ret)))),
  [.t 4]⟩
/-- solve.Add -/
def a_solve_Add_0 : MCode := .region [o_ 10 (.alloc Zi1y16), w_ (.store 17 (.t 10) (.t 35))]
def y_solve_Add_0 : MCode := .block 2
  (.draw [(0, 1), (0, 2)] [o_ 37 (.load 1 false (.t 9)), o_ 38 (.load 17 true (.t 10)), f_ 39 n_solve_equation_row [.t 38], o_ 40 (.bslice 2 [.t 39]), v_ 41 (.append 2 (.t 37) (.t 40)), w_ (.store 1 (.t 9) (.t 41))])
def g_solve_Add_0 : MCode := .range (.t 34) [35, 36] a_solve_Add_0 y_solve_Add_0
def a_solve_Add_1 : MCode := .region [o_ 13 (.alloc Zi1y16), w_ (.store 17 (.t 13) (.t 49))]
def y_solve_Add_1 : MCode := .block 4
  (.seq (.seq (.draw [(3, 5), (4, 5)] [o_ 51 (.load 1 false (.t 12)), o_ 52 (.not (.t 51)), o_ 53 (.mov (.t 52)), g_ 54 53 true (.load 17 true (.t 13)), ⟨some 55, (some (53, true)), .call .ro (.c (.fn n_solve_equation_leading [] [])) [.t 54]⟩, g_ 56 53 true (.load 17 true (.t 7)), ⟨some 57, (some (53, true)), .call .ro (.c (.fn n_solve_equation_leading [] [])) [.t 56]⟩, g_ 58 53 true (.bin .lss (.t 55) (.t 57)), o_ 59 (.pick (.t 53) (.t 58) F_)])
    (.cond (.t 59) (.draw [(0, 1), (0, 2)] [o_ 60 (.load 1 false (.t 11)), o_ 61 (.load 17 true (.t 7)), f_ 62 n_solve_equation_row [.t 61], o_ 63 (.bslice 2 [.t 62]), v_ 64 (.append 2 (.t 60) (.t 63)), w_ (.store 1 (.t 11) (.t 64)), w_ (.store 1 (.t 12) T_)])
    (.skip)))
    (.seq (.seq (.draw [(1, 2), (1, 3)] [o_ 65 (.faddr 0 (.t 13)), o_ 66 (.load 1 false (.t 65)), o_ 67 (.load 17 true (.t 7)), f_ 68 n_solve_equation_leading [.t 67], o_ 69 (.bin .and (.t 66) (.t 68)), o_ 70 (.bin .neq (.t 69) (i_ 0))])
    (.cond (.t 70) (.draw [(1, 3), (1, 6), (3, 6), (1, 8), (3, 8), (6, 8), (1, 9), (3, 9)] [o_ 71 (.faddr 0 (.t 13)), o_ 72 (.load 1 false (.t 71)), o_ 73 (.faddr 0 (.t 7)), o_ 74 (.load 1 false (.t 73)), o_ 75 (.bin .xor (.t 72) (.t 74)), o_ 76 (.faddr 1 (.t 13)), o_ 77 (.load 16 true (.t 76)), o_ 78 (.faddr 1 (.t 7)), o_ 79 (.load 16 true (.t 78)), f_ 80 n_solve_block_plus [.t 77, .t 79], o_ 81 (.build Zi1y16 [(0, 1, .t 75), (1, 16, .t 80)]), w_ (.store 17 (.t 13) (.t 81))])
    (.skip)))
    (.draw [(0, 1), (0, 2)] [o_ 82 (.load 1 false (.t 11)), o_ 83 (.load 17 true (.t 13)), f_ 84 n_solve_equation_row [.t 83], o_ 85 (.bslice 2 [.t 84]), v_ 86 (.append 2 (.t 82) (.t 85)), w_ (.store 1 (.t 11) (.t 86))])))
def g_solve_Add_1 : MCode := .range (.t 48) [49, 50] a_solve_Add_1 y_solve_Add_1
def m_solve_Add : MFun := ⟨.seq (.region [o_ 3 (.box (.t 1)), o_ 4 (.mov (.c (.tree [] true true))), o_ 5 (.mov F_), o_ 6 (.mov (i_ 0))])
  (.seq (.region [o_ 15 (.load 2 true (.t 3)), f_ 16 n_solve_formed [.t 15], o_ 14 (.mov (.t 16)), o_ 17 (.extract 0 (.t 14)), o_ 18 (.extract 1 (.t 14)), o_ 7 (.alloc Zi1y16), w_ (.store 17 (.t 7) (.t 17)), o_ 8 (.mov (.t 18))])
  (.seq (.seq (.region [o_ 19 (.mov (.t 0)), f_ 20 n_solve_Valid [.t 19], o_ 21 (.not (.t 20)), o_ 22 (.mov (.t 21)), g_ 23 22 false (.mov (.t 8)), g_ 24 22 false (.not (.t 23)), o_ 25 (.pick (.t 22) T_ (.t 24))])
  (.cond (.t 25) (.seq (.region [o_ 4 (.mov (.c (.tree [] true true))), o_ 5 (.mov F_), o_ 6 (.mov (i_ 1))])
    (.ret))
  (.skip)))
  (.seq (.region [o_ 26 (.mov (.t 0)), o_ 27 (.load 17 true (.t 7)), f_ 28 n_solve_reduce [.t 26, .t 27], w_ (.store 17 (.t 7) (.t 28))])
  (.seq (.block 0
  (.seq (.region [o_ 30 (.load 17 true (.t 7)), o_ 31 (.build Zi1y16 []), o_ 32 (.eqa false 17 (.t 30) (.t 31)), o_ 29 (.mov (.t 32))])
    (.cond (.t 29) (.seq (.region [o_ 9 (.alloc [.tree [] true true])])
      (.seq (.seq (.region [o_ 33 (.mov (.t 0)), ⟨some 34, none, .call .rw (.c (.fn n_solve_equations [] [])) [.t 33]⟩])
      (.block 1
      (.trim [0, 4, 5, 6, 7, 9, 34] g_solve_Add_0)))
      (.seq (.region [o_ 42 (.load 1 false (.t 9)), o_ 4 (.mov (.t 42)), o_ 5 (.mov F_), o_ 6 (.mov (i_ 0))])
      (.ret))))
    (.seq (.region [o_ 44 (.faddr 0 (.t 7)), o_ 45 (.load 1 false (.t 44)), o_ 46 (.bin .eql (.t 45) (i_ 0)), o_ 43 (.mov (.t 46))])
      (.cond (.t 43) (.seq (.region [o_ 4 (.mov (.c (.tree [] true true))), o_ 5 (.mov F_), o_ 6 (.mov (i_ 12))])
        (.ret))
      (.skip))))))
  (.seq (.region [o_ 11 (.alloc [.tree [] true true])])
  (.seq (.region [o_ 12 (.alloc [.bool false]), w_ (.store 1 (.t 12) F_)])
  (.seq (.seq (.region [o_ 47 (.mov (.t 0)), ⟨some 48, none, .call .rw (.c (.fn n_solve_equations [] [])) [.t 47]⟩])
  (.block 3
  (.trim [4, 5, 6, 7, 11, 12, 48] g_solve_Add_1)))
  (.seq (.seq (.region [o_ 87 (.load 1 false (.t 12)), o_ 88 (.not (.t 87))])
  (.cond (.t 88) (.draw [(0, 1), (0, 2)] [o_ 89 (.load 1 false (.t 11)), o_ 90 (.load 17 true (.t 7)), f_ 91 n_solve_equation_row [.t 90], o_ 92 (.bslice 2 [.t 91]), v_ 93 (.append 2 (.t 89) (.t 92)), w_ (.store 1 (.t 11) (.t 93))])
  (.skip)))
  (.seq (.region [o_ 94 (.load 1 false (.t 11)), o_ 4 (.mov (.t 94)), o_ 5 (.mov T_), o_ 6 (.mov (i_ 0))])
  (.ret)))))))))),
  [.t 4, .t 5, .t 6]⟩
/-- fountain.Set -/
def m_fountain_Set : MFun := ⟨.seq (.region [o_ 2 (.mov (i_ 0))])
  (.seq (.block 0
  (.seq (.region [o_ 4 (.mov (.t 0)), f_ 5 n_fountain_isSeed [.t 4], o_ 6 (.not (.t 5)), o_ 3 (.mov (.t 6))])
    (.cond (.t 3) (.seq (.region [o_ 2 (.mov (i_ 0))])
      (.ret))
    (.seq (.region [o_ 8 (.mov (.t 0)), o_ 9 (.bin .lss (.t 8) (i_ 16)), o_ 7 (.mov (.t 9))])
      (.cond (.t 7) (.seq (.region [o_ 10 (.mov (.t 0)), o_ 11 (.bin .shl (i_ 1) (.t 10)), o_ 2 (.mov (.t 11))])
        (.ret))
      (.skip))))))
  (.seq (.region [o_ 12 (.mov (.t 0)), o_ 13 (.conv .u64 (.t 12)), f_ 14 n_random_Mask [.t 13, i_ 16], o_ 2 (.mov (.t 14))])
  (.ret))),
  [.t 2]⟩
/-- fountain.Encode -/
def a_fountain_Encode_0 : MCode := .seq (.region [o_ 11 (.mov (.t 33))])
  (.region [o_ 12 (.alloc Zy16), w_ (.store 16 (.t 12) (.t 34))])
def y_fountain_Encode_0 : MCode := .block 1
  (.seq (.region [o_ 35 (.mov (.t 11)), o_ 36 (.load 1 false (.t 10)), f_ 37 n_bits_TrailingZeros [.t 36], o_ 38 (.bin .eql (.t 35) (.t 37))])
    (.cond (.t 38) (.seq (.region [o_ 39 (.load 1 false (.t 9)), o_ 40 (.load 16 true (.t 12)), ⟨some 41, none, .call .rw (.t 39) [.t 40]⟩])
      (.region [o_ 42 (.load 1 false (.t 10)), o_ 43 (.load 1 false (.t 10)), o_ 44 (.bin .sub (.t 43) (.c (.int .u64 1))), o_ 45 (.bin .and (.t 42) (.t 44)), w_ (.store 1 (.t 10) (.t 45))]))
    (.skip)))
def g_fountain_Encode_0 : MCode := .range (.t 32) [33, 34] a_fountain_Encode_0 y_fountain_Encode_0
def m_fountain_Encode : MFun := ⟨.seq (.region [o_ 6 (.alloc Zi2t2), o_ 7 (.mov (i_ 0))])
  (.seq (.seq (.region [o_ 13 (.mov (.t 0)), o_ 14 (.len (.t 13)), o_ 15 (.bin .neq (.t 14) (i_ 256)), o_ 16 (.mov (.t 15)), g_ 17 16 false (.mov (.t 1)), ⟨some 18, (some (16, false)), .call .ro (.c (.fn n_fountain_isPage [] [])) [.t 17]⟩, g_ 19 16 false (.not (.t 18)), o_ 20 (.pick (.t 16) T_ (.t 19)), o_ 21 (.mov (.t 20)), g_ 22 21 false (.mov (.t 2)), ⟨some 23, (some (21, false)), .call .ro (.c (.fn n_fountain_isSeed [] [])) [.t 22]⟩, g_ 24 21 false (.not (.t 23)), o_ 25 (.pick (.t 21) T_ (.t 24))])
  (.cond (.t 25) (.seq (.region [o_ 26 (.build Zi2t2 []), w_ (.store 4 (.t 6) (.t 26)), o_ 7 (.mov (i_ 1))])
    (.ret))
  (.skip)))
  (.seq (.region [o_ 8 (.alloc Zy16)])
  (.seq (.region [o_ 27 (.mkfn n_fountain_Encode_1 [] [.t 8]), o_ 9 (.alloc [.undef]), w_ (.store 1 (.t 9) (.t 27))])
  (.seq (.region [o_ 28 (.mov (.t 2)), f_ 29 n_fountain_Set [.t 28], o_ 30 (.conv .u64 (.t 29)), o_ 10 (.alloc [.int .u64 0]), w_ (.store 1 (.t 10) (.t 30))])
  (.seq (.seq (.region [o_ 31 (.mov (.t 0)), ⟨some 32, none, .call .rw (.c (.fn n_fountain_blocks [] [])) [.t 31]⟩])
  (.block 0
  (.trim [1, 2, 6, 7, 8, 9, 10, 32] g_fountain_Encode_0)))
  (.seq (.region [o_ 46 (.mov (.t 1)), o_ 47 (.mov (.t 2)), o_ 48 (.sliceA 16 1 (.t 8)), f_ 49 n_slices_Clone_sbyte_byte [.t 48], o_ 50 (.build Zi2t2 [(0, 1, .t 46), (1, 1, .t 47), (2, 1, .t 49)]), w_ (.store 4 (.t 6) (.t 50)), o_ 7 (.mov (i_ 0))])
  (.ret))))))),
  [.cell 6 4 true, .t 7]⟩
/-- slotmeshlaw39.Program -/
def b_law39_Program_0 : MCode := .seq (.region [o_ 10 (.bin .lss (.t 9) (.t 8))])
  (.seq (.cond (.t 10) (.skip)
  (.trim [3] (.exit 0)))
  (.seq (.block 1
  (.seq (.region [o_ 11 (.mov (.t 9)), o_ 4 (.mov (.t 11))])
    (.region [o_ 12 (.mov (.t 3)), o_ 13 (.mov (.t 4)), o_ 14 (.mov (.t 4)), o_ 15 (.bin .mul (.t 14) (i_ 5)), o_ 16 (.bin .rem (.t 15) (i_ 251)), o_ 17 (.bin .add (i_ 1) (.t 16)), o_ 18 (.conv .u8 (.t 17)), o_ 19 (.iaddr 1 (.t 12) (.t 13)), w_ (.store 1 (.t 19) (.t 18))])))
  (.region [o_ 20 (.bin .add (.t 9) (i_ 1)), o_ 9 (.mov (.t 20))])))
def l_law39_Program_0 : MCode := .loop (.trim [3, 8, 9] b_law39_Program_0)
def m_law39_Program : MFun := ⟨.seq (.region [o_ 2 (.mov (.c (.tree [] true true)))])
  (.seq (.region [o_ 5 (.mov (.t 0)), o_ 6 (.mkslice [.int .u8 0] (.t 5) (.t 5)), o_ 3 (.mov (.t 6))])
  (.seq (.seq (.region [o_ 7 (.mov (.t 3)), o_ 8 (.len (.t 7)), o_ 9 (.mov (i_ 0))])
  (.block 0
  (l_law39_Program_0)))
  (.seq (.region [o_ 21 (.mov (.t 3)), o_ 2 (.mov (.t 21))])
  (.ret)))),
  [.t 2]⟩
/-- spread.copied -/
def b_spread_copied_0 : MCode := .seq (.region [o_ 22 (.bin .lss (.t 21) (.t 20))])
  (.seq (.cond (.t 22) (.skip)
  (.trim [1, 3] (.exit 0)))
  (.seq (.block 1
  (.seq (.region [o_ 23 (.iaddr 1 (.t 19) (.t 21)), o_ 24 (.load 1 false (.t 23)), o_ 5 (.mov (.t 24))])
    (.draw [(1, 3)] [o_ 25 (.faddr 4 (.t 3)), o_ 26 (.load 1 false (.t 25)), o_ 27 (.mov (.t 5)), f_ 28 n_bytes_Clone [.t 27], o_ 29 (.bslice 1 [.t 28]), v_ 30 (.append 1 (.t 26) (.t 29)), o_ 31 (.faddr 4 (.t 3)), w_ (.store 1 (.t 31) (.t 30))])))
  (.region [o_ 32 (.bin .add (.t 21) (i_ 1)), o_ 21 (.mov (.t 32))])))
def l_spread_copied_0 : MCode := .loop (.trim [1, 3, 19, 20, 21] b_spread_copied_0)
def b_spread_copied_1 : MCode := .seq (.region [o_ 37 (.bin .lss (.t 36) (.t 35))])
  (.seq (.cond (.t 37) (.skip)
  (.trim [1, 3] (.exit 2)))
  (.seq (.block 3
  (.seq (.region [o_ 38 (.iaddr 1 (.t 34) (.t 36)), o_ 39 (.load 1 false (.t 38)), o_ 7 (.mov (.t 39))])
    (.draw [(1, 3)] [o_ 40 (.faddr 5 (.t 3)), o_ 41 (.load 1 false (.t 40)), o_ 42 (.mov (.t 7)), f_ 43 n_slices_Clone_suint64_uint64 [.t 42], o_ 44 (.bslice 1 [.t 43]), v_ 45 (.append 1 (.t 41) (.t 44)), o_ 46 (.faddr 5 (.t 3)), w_ (.store 1 (.t 46) (.t 45))])))
  (.region [o_ 47 (.bin .add (.t 36) (i_ 1)), o_ 36 (.mov (.t 47))])))
def l_spread_copied_1 : MCode := .loop (.trim [1, 3, 34, 35, 36] b_spread_copied_1)
def b_spread_copied_2 : MCode := .seq (.region [o_ 52 (.bin .lss (.t 51) (.t 50))])
  (.seq (.cond (.t 52) (.skip)
  (.trim [3] (.exit 4)))
  (.seq (.block 5
  (.seq (.region [o_ 53 (.iaddr 2 (.t 49) (.t 51)), o_ 54 (.load 2 true (.t 53)), o_ 9 (.alloc Zi1t1), w_ (.store 2 (.t 9) (.t 54))])
    (.draw [(1, 3), (1, 5), (3, 5), (1, 6), (3, 6)] [o_ 55 (.faddr 6 (.t 3)), o_ 56 (.load 1 false (.t 55)), o_ 57 (.faddr 0 (.t 9)), o_ 58 (.load 1 false (.t 57)), o_ 59 (.faddr 1 (.t 9)), o_ 60 (.load 1 false (.t 59)), f_ 61 n_bytes_Clone [.t 60], o_ 62 (.build Zi1t1 [(0, 1, .t 58), (1, 1, .t 61)]), o_ 63 (.bslice 2 [.t 62]), v_ 64 (.append 2 (.t 56) (.t 63)), o_ 65 (.faddr 6 (.t 3)), w_ (.store 1 (.t 65) (.t 64))])))
  (.region [o_ 66 (.bin .add (.t 51) (i_ 1)), o_ 51 (.mov (.t 66))])))
def l_spread_copied_2 : MCode := .loop (.trim [3, 49, 50, 51] b_spread_copied_2)
def m_spread_copied : MFun := ⟨.seq (.region [o_ 1 (.box (.t 0)), o_ 2 (.mov (.c (.undef)))])
  (.seq (.draw [(1, 3), (1, 5), (3, 5), (1, 6), (3, 6), (1, 8), (3, 8), (5, 8), (6, 8)] [o_ 10 (.faddr 0 (.t 1)), o_ 11 (.load 4 true (.t 10)), o_ 12 (.faddr 8 (.t 1)), o_ 13 (.load 5 true (.t 12)), o_ 14 (.faddr 7 (.t 1)), o_ 15 (.load 1 false (.t 14)), f_ 16 n_slices_Clone_suint64_uint64 [.t 15], o_ 17 (.build Zi2w1i1t4i5 [(0, 4, .t 11), (8, 5, .t 13), (7, 1, .t 16)]), o_ 3 (.alloc Zi2w1i1t4i5), w_ (.store 13 (.t 3) (.t 17))])
  (.seq (.seq (.region [o_ 18 (.faddr 4 (.t 1)), o_ 19 (.load 1 false (.t 18)), o_ 20 (.len (.t 19)), o_ 21 (.mov (i_ 0))])
  (.block 0
  (l_spread_copied_0)))
  (.seq (.seq (.region [o_ 33 (.faddr 5 (.t 1)), o_ 34 (.load 1 false (.t 33)), o_ 35 (.len (.t 34)), o_ 36 (.mov (i_ 0))])
  (.block 2
  (l_spread_copied_1)))
  (.seq (.seq (.region [o_ 48 (.faddr 6 (.t 1)), o_ 49 (.load 1 false (.t 48)), o_ 50 (.len (.t 49)), o_ 51 (.mov (i_ 0))])
  (.block 4
  (l_spread_copied_2)))
  (.seq (.region [o_ 67 (.load 13 true (.t 3)), v_ 68 (.bfrz Zi2w1i1t4i5 [(0, 13, .t 67)]), o_ 69 (.box (.t 68)), o_ 2 (.mov (.t 69))])
  (.ret)))))),
  [.t 2]⟩
/-- (*spread.state).refused -/
def m_pspread_state_refused : MFun := ⟨.seq (.region [o_ 3 (.box (.t 1)), o_ 4 (.mov (i_ 0))])
  (.seq (.block 0
  (.seq (.region [o_ 6 (.mov (.t 0)), f_ 7 n_pspread_state_valid [.t 6], o_ 8 (.not (.t 7)), o_ 9 (.mov (.t 8)), g_ 10 9 false (.faddr 0 (.t 3)), g_ 11 9 false (.load 1 false (.t 10)), g_ 12 9 false (.bin .lss (.t 11) (i_ 0)), o_ 13 (.pick (.t 9) T_ (.t 12)), o_ 14 (.mov (.t 13)), g_ 15 14 false (.faddr 0 (.t 3)), g_ 16 14 false (.load 1 false (.t 15)), g_ 17 14 false (.bin .geq (.t 16) (i_ 16)), o_ 18 (.pick (.t 14) T_ (.t 17)), o_ 19 (.mov (.t 18)), g_ 20 19 false (.faddr 1 (.t 3)), g_ 21 19 false (.load 1 false (.t 20)), g_ 22 19 false (.bin .lss (.t 21) (i_ 0)), o_ 23 (.pick (.t 19) T_ (.t 22)), o_ 24 (.mov (.t 23)), g_ 25 24 false (.faddr 1 (.t 3)), g_ 26 24 false (.load 1 false (.t 25)), g_ 27 24 false (.bin .gtr (.t 26) (i_ 1000000000)), o_ 28 (.pick (.t 24) T_ (.t 27)), o_ 29 (.mov (.t 28)), g_ 30 29 false (.faddr 2 (.t 3)), g_ 31 29 false (.load 1 false (.t 30)), g_ 32 29 false (.len (.t 31)), g_ 33 29 false (.bin .neq (.t 32) (i_ 16)), o_ 34 (.pick (.t 29) T_ (.t 33)), o_ 5 (.mov (.t 34))])
    (.cond (.t 5) (.seq (.region [o_ 4 (.mov (i_ 1))])
      (.ret))
    (.seq (.region [o_ 36 (.mov (.t 0)), f_ 37 n_pspread_state_empty [.t 36], o_ 35 (.mov (.t 37))])
      (.cond (.t 35) (.seq (.region [o_ 4 (.mov (i_ 4))])
        (.ret))
      (.seq (.region [o_ 39 (.mov (.t 0)), f_ 40 n_pspread_state_whole [.t 39], o_ 38 (.mov (.t 40))])
        (.cond (.t 38) (.seq (.region [o_ 4 (.mov (i_ 10))])
          (.ret))
        (.seq (.draw [(1, 6)] [o_ 42 (.faddr 0 (.t 3)), o_ 43 (.load 1 false (.t 42)), o_ 44 (.mov (.t 0)), o_ 45 (.nilck (.t 44)), o_ 46 (.faddr 0 (.t 45)), o_ 47 (.faddr 4 (.t 46)), o_ 48 (.load 1 false (.t 47)), o_ 49 (.len (.t 48)), o_ 50 (.bin .lss (.t 43) (.t 49)), o_ 41 (.mov (.t 50))])
          (.cond (.t 41) (.seq (.region [o_ 4 (.mov (i_ 14))])
            (.ret))
          (.seq (.draw [(1, 6)] [o_ 52 (.faddr 0 (.t 3)), o_ 53 (.load 1 false (.t 52)), o_ 54 (.mov (.t 0)), o_ 55 (.nilck (.t 54)), o_ 56 (.faddr 0 (.t 55)), o_ 57 (.faddr 4 (.t 56)), o_ 58 (.load 1 false (.t 57)), o_ 59 (.len (.t 58)), o_ 60 (.bin .gtr (.t 53) (.t 59)), o_ 51 (.mov (.t 60))])
            (.cond (.t 51) (.seq (.region [o_ 4 (.mov (i_ 6))])
              (.ret))
            (.seq (.draw [(9, 14)] [o_ 62 (.mov (.t 0)), o_ 63 (.nilck (.t 62)), o_ 64 (.faddr 0 (.t 63)), o_ 65 (.faddr 6 (.t 64)), o_ 66 (.load 1 false (.t 65)), o_ 67 (.len (.t 66)), o_ 68 (.bin .gtr (.t 67) (i_ 0)), o_ 69 (.mov (.t 68)), g_ 70 69 true (.faddr 3 (.t 3)), g_ 71 69 true (.load 1 false (.t 70)), g_ 72 69 true (.mov (.t 0)), g_ 73 69 true (.nilck (.t 72)), g_ 74 69 true (.faddr 0 (.t 73)), g_ 75 69 true (.faddr 7 (.t 74)), g_ 76 69 true (.load 1 false (.t 75)), ⟨some 77, (some (69, true)), .call .ro (.c (.fn n_slices_Equal_suint64_uint64 [] [])) [.t 71, .t 76]⟩, g_ 78 69 true (.not (.t 77)), o_ 79 (.pick (.t 69) (.t 78) F_), o_ 61 (.mov (.t 79))])
              (.cond (.t 61) (.seq (.region [o_ 4 (.mov (i_ 12))])
                (.ret))
              (.skip))))))))))))))
  (.seq (.region [o_ 4 (.mov (i_ 0))])
  (.ret))),
  [.t 4]⟩
/-- fountain.Receive -/
def m_fountain_Receive : MFun := ⟨.seq (.region [o_ 3 (.box (.t 1)), o_ 4 (.mov (.c (.tree [] true true))), o_ 5 (.mov F_), o_ 6 (.mov (i_ 0))])
  (.seq (.seq (.region [o_ 7 (.faddr 0 (.t 3)), o_ 8 (.load 1 false (.t 7)), f_ 9 n_fountain_isPage [.t 8], o_ 10 (.not (.t 9)), o_ 11 (.mov (.t 10)), g_ 12 11 false (.faddr 1 (.t 3)), g_ 13 11 false (.load 1 false (.t 12)), ⟨some 14, (some (11, false)), .call .ro (.c (.fn n_fountain_isSeed [] [])) [.t 13]⟩, g_ 15 11 false (.not (.t 14)), o_ 16 (.pick (.t 11) T_ (.t 15)), o_ 17 (.mov (.t 16)), g_ 18 17 false (.faddr 2 (.t 3)), g_ 19 17 false (.load 1 false (.t 18)), g_ 20 17 false (.len (.t 19)), g_ 21 17 false (.bin .neq (.t 20) (i_ 16)), o_ 22 (.pick (.t 17) T_ (.t 21))])
  (.cond (.t 22) (.seq (.region [o_ 4 (.mov (.c (.tree [] true true))), o_ 5 (.mov F_), o_ 6 (.mov (i_ 1))])
    (.ret))
  (.skip)))
  (.seq (.draw [(2, 5), (3, 5)] [o_ 23 (.mov (.t 0)), o_ 24 (.faddr 1 (.t 3)), o_ 25 (.load 1 false (.t 24)), f_ 26 n_fountain_Set [.t 25], o_ 27 (.faddr 2 (.t 3)), o_ 28 (.load 1 false (.t 27)), o_ 29 (.build Zi1t1 [(0, 1, .t 26), (1, 1, .t 28)]), f_ 30 n_solve_Add [.t 23, .t 29], o_ 31 (.extract 0 (.t 30)), o_ 32 (.extract 1 (.t 30)), o_ 33 (.extract 2 (.t 30)), o_ 4 (.mov (.t 31)), o_ 5 (.mov (.t 32)), o_ 6 (.mov (.t 33))])
  (.ret))),
  [.t 4, .t 5, .t 6]⟩
/-- (*spread.state).anew -/
def m_pspread_state_anew : MFun := ⟨.seq (.region [o_ 4 (.alloc Zi2w1i1t4i5), o_ 5 (.mov (i_ 0))])
  (.seq (.region [o_ 6 (.mov (.t 0)), o_ 7 (.mov (.t 0)), o_ 8 (.nilck (.t 6)), o_ 9 (.faddr 0 (.t 8)), o_ 10 (.faddr 6 (.t 9)), w_ (.store 1 (.t 10) (.c (.tree [] true true))), o_ 11 (.nilck (.t 7)), o_ 12 (.faddr 0 (.t 11)), o_ 13 (.faddr 7 (.t 12)), w_ (.store 1 (.t 13) (.c (.tree [] true true)))])
  (.seq (.region [o_ 14 (.mov (.t 0)), o_ 15 (.nilck (.t 14)), o_ 16 (.faddr 0 (.t 15)), o_ 17 (.load 13 true (.t 16)), o_ 18 (.mov (.t 1)), w_ (.store 13 (.t 4) (.t 17)), o_ 5 (.mov (.t 18))])
  (.ret))),
  [.cell 4 13 true, .t 5]⟩
/-- slices.Clone[[]uint64,uint64] -/
def m_slices_Clone_suint64_uint64 : MFun := ⟨.seq (.region [o_ 2 (.mov (.c (.tree [] true true)))])
  (.seq (.seq (.region [o_ 3 (.mov (.t 0)), o_ 4 (.eqn false (.t 3) (.c (.tree [] true true)))])
  (.cond (.t 4) (.seq (.region [o_ 2 (.mov (.c (.tree [] true true)))])
    (.ret))
  (.skip)))
  (.seq (.region [o_ 5 (.bslice 1 []), o_ 6 (.mov (.t 0)), v_ 7 (.append 1 (.t 5) (.t 6)), o_ 2 (.mov (.t 7))])
  (.ret))),
  [.t 2]⟩
/-- fountain.Page -/
def b_fountain_Page_0 : MCode := .seq (.region [o_ 10 (.bin .lss (.t 9) (i_ 16))])
  (.seq (.cond (.t 10) (.skip)
  (.trim [4, 5] (.exit 0)))
  (.seq (.block 1
  (.seq (.region [o_ 11 (.mov (.t 9)), o_ 6 (.mov (.t 11))])
    (.seq (.region [o_ 7 (.mov (.c (.tree [] true true)))])
    (.seq (.region [o_ 13 (.mov (.t 6)), o_ 14 (.mov (.t 0)), o_ 15 (.mov (.t 6)), f_ 16 n_solve_Solved [.t 14, .t 15], o_ 12 (.mov (.t 16)), o_ 17 (.extract 0 (.t 12)), o_ 18 (.extract 1 (.t 12)), o_ 7 (.mov (.t 17)), o_ 19 (.iaddrA 16 1 (.t 4) (.t 13)), w_ (.store 1 (.t 19) (.t 18))])
    (.seq (.region [o_ 20 (.mov (.t 6)), o_ 21 (.iaddrA 16 1 (.t 4) (.t 20)), o_ 22 (.load 1 false (.t 21))])
    (.cond (.t 22) (.region [o_ 23 (.mov (.t 5)), o_ 24 (.mov (.t 7)), v_ 25 (.append 1 (.t 23) (.t 24)), o_ 5 (.mov (.t 25))])
    (.skip)))))))
  (.region [o_ 26 (.bin .add (.t 9) (i_ 1)), o_ 9 (.mov (.t 26))])))
def l_fountain_Page_0 : MCode := .loop (.trim [0, 4, 5, 9] b_fountain_Page_0)
def m_fountain_Page : MFun := ⟨.seq (.region [o_ 2 (.mov (.c (.tree [] true true))), o_ 3 (.mov F_)])
  (.seq (.region [o_ 4 (.alloc Zf16)])
  (.seq (.region [o_ 8 (.mkslice [.int .u8 0] (i_ 0) (i_ 256)), o_ 5 (.mov (.t 8))])
  (.seq (.seq (.region [o_ 9 (.mov (i_ 0))])
  (.block 0
  (l_fountain_Page_0)))
  (.seq (.seq (.region [o_ 27 (.load 16 true (.t 4)), o_ 28 (.build Zf16 []), o_ 29 (.eqa false 1000016 (.t 27) (.t 28)), o_ 30 (.mov (.t 29)), g_ 31 30 false (.sliceA 16 1 (.t 4)), ⟨some 32, (some (30, false)), .call .ro (.c (.fn n_slices_Contains_sbool_bool [] [])) [.t 31, F_]⟩, o_ 33 (.pick (.t 30) T_ (.t 32))])
  (.cond (.t 33) (.seq (.region [o_ 2 (.mov (.c (.tree [] true true))), o_ 3 (.mov F_)])
    (.ret))
  (.skip)))
  (.seq (.region [o_ 34 (.mov (.t 5)), o_ 2 (.mov (.t 34)), o_ 3 (.mov T_)])
  (.ret)))))),
  [.t 2, .t 3]⟩
/-- image.Put -/
def b_image_Put_0 : MCode := .seq (.region [o_ 65 (.bin .lss (.t 64) (.t 63))])
  (.seq (.cond (.t 65) (.skip)
  (.trim [2, 6, 8, 9] (.exit 1)))
  (.seq (.block 2
  (.seq (.region [o_ 66 (.iaddr 1 (.t 62) (.t 64)), o_ 67 (.load 1 false (.t 66)), o_ 11 (.mov (.t 67))])
    (.draw [(1, 3)] [o_ 68 (.faddr 4 (.t 9)), o_ 69 (.load 1 false (.t 68)), o_ 70 (.mov (.t 11)), f_ 71 n_bytes_Clone [.t 70], o_ 72 (.bslice 1 [.t 71]), v_ 73 (.append 1 (.t 69) (.t 72)), o_ 74 (.faddr 4 (.t 9)), w_ (.store 1 (.t 74) (.t 73))])))
  (.region [o_ 75 (.bin .add (.t 64) (i_ 1)), o_ 64 (.mov (.t 75))])))
def l_image_Put_0 : MCode := .loop (.trim [2, 6, 8, 9, 62, 63, 64] b_image_Put_0)
def b_image_Put_1 : MCode := .seq (.region [o_ 85 (.bin .lss (.t 84) (.t 83))])
  (.seq (.cond (.t 85) (.skip)
  (.trim [6, 9] (.exit 3)))
  (.seq (.block 4
  (.seq (.region [o_ 86 (.iaddr 1 (.t 82) (.t 84)), o_ 87 (.load 1 false (.t 86)), o_ 13 (.mov (.t 87))])
    (.draw [(1, 3)] [o_ 88 (.faddr 5 (.t 9)), o_ 89 (.load 1 false (.t 88)), o_ 90 (.mov (.t 13)), f_ 91 n_slices_Clone_suint64_uint64 [.t 90], o_ 92 (.bslice 1 [.t 91]), v_ 93 (.append 1 (.t 89) (.t 92)), o_ 94 (.faddr 5 (.t 9)), w_ (.store 1 (.t 94) (.t 93))])))
  (.region [o_ 95 (.bin .add (.t 84) (i_ 1)), o_ 84 (.mov (.t 95))])))
def l_image_Put_1 : MCode := .loop (.trim [6, 9, 82, 83, 84] b_image_Put_1)
def m_image_Put : MFun := ⟨.seq (.region [o_ 3 (.box (.t 0)), o_ 6 (.alloc Zi2w1i1t4i5), o_ 7 (.mov (i_ 0))])
  (.seq (.region [o_ 14 (.load 13 true (.t 3)), o_ 15 (.build Zi2w1i1t4i5 [(0, 13, .t 14)]), o_ 8 (.alloc Zi2w1i1t4i5), w_ (.store 13 (.t 8) (.t 15))])
  (.seq (.block 0
  (.seq (.region [o_ 17 (.load 13 true (.t 8)), f_ 18 n_image_load_sound [.t 17], o_ 19 (.not (.t 18)), o_ 20 (.mov (.t 19)), g_ 21 20 false (.mov (.t 1)), g_ 22 20 false (.len (.t 21)), g_ 23 20 false (.bin .neq (.t 22) (i_ 256)), o_ 24 (.pick (.t 20) T_ (.t 23)), o_ 16 (.mov (.t 24))])
    (.cond (.t 16) (.seq (.region [o_ 25 (.build Zi2w1i1t4i5 []), w_ (.store 13 (.t 6) (.t 25)), o_ 7 (.mov (i_ 1))])
      (.ret))
    (.seq (.draw [(2, 7), (2, 8)] [o_ 27 (.faddr 0 (.t 8)), o_ 28 (.faddr 4 (.t 27)), o_ 29 (.load 1 false (.t 28)), o_ 30 (.len (.t 29)), o_ 31 (.faddr 0 (.t 8)), o_ 32 (.faddr 0 (.t 31)), o_ 33 (.faddr 1 (.t 32)), o_ 34 (.load 1 false (.t 33)), f_ 35 n_image_count [.t 34], o_ 36 (.bin .eql (.t 30) (.t 35)), o_ 26 (.mov (.t 36))])
      (.cond (.t 26) (.seq (.region [o_ 37 (.build Zi2w1i1t4i5 []), w_ (.store 13 (.t 6) (.t 37)), o_ 7 (.mov (i_ 10))])
        (.ret))
      (.seq (.region [o_ 39 (.load 13 true (.t 8)), o_ 40 (.faddr 0 (.t 8)), o_ 41 (.faddr 4 (.t 40)), o_ 42 (.load 1 false (.t 41)), o_ 43 (.len (.t 42)), o_ 44 (.mov (.t 1)), o_ 45 (.mov (.t 2)), f_ 46 n_image_load_proved [.t 39, .t 43, .t 44, .t 45], o_ 47 (.not (.t 46)), o_ 38 (.mov (.t 47))])
        (.cond (.t 38) (.seq (.region [o_ 48 (.build Zi2w1i1t4i5 []), w_ (.store 13 (.t 6) (.t 48)), o_ 7 (.mov (i_ 12))])
          (.ret))
        (.skip))))))))
  (.seq (.region [o_ 49 (.faddr 0 (.t 8)), o_ 50 (.faddr 0 (.t 49)), o_ 51 (.load 4 true (.t 50)), o_ 52 (.faddr 0 (.t 8)), o_ 53 (.faddr 8 (.t 52)), o_ 54 (.load 5 true (.t 53)), o_ 55 (.build Zi2w1i1t4i5 [(0, 4, .t 51), (8, 5, .t 54)]), o_ 9 (.alloc Zi2w1i1t4i5), w_ (.store 13 (.t 9) (.t 55))])
  (.seq (.seq (.region [o_ 56 (.faddr 0 (.t 8)), o_ 57 (.faddr 4 (.t 56)), o_ 58 (.load 1 false (.t 57)), ⟨some 59, none, .call .rw (.c (.fn n_slices_Clone_ssbyte_sbyte [] [])) [.t 58]⟩, o_ 60 (.mov (.t 1)), v_ 61 (.bslice 1 [.t 60]), v_ 62 (.append 1 (.t 59) (.t 61)), o_ 63 (.len (.t 62)), o_ 64 (.mov (i_ 0))])
  (.block 1
  (l_image_Put_0)))
  (.seq (.seq (.region [o_ 76 (.faddr 0 (.t 8)), o_ 77 (.faddr 5 (.t 76)), o_ 78 (.load 1 false (.t 77)), ⟨some 79, none, .call .rw (.c (.fn n_slices_Clone_ssuint64_suint64 [] [])) [.t 78]⟩, o_ 80 (.mov (.t 2)), v_ 81 (.bslice 1 [.t 80]), v_ 82 (.append 1 (.t 79) (.t 81)), o_ 83 (.len (.t 82)), o_ 84 (.mov (i_ 0))])
  (.block 3
  (l_image_Put_1)))
  (.seq (.region [o_ 96 (.load 13 true (.t 9)), w_ (.store 13 (.t 6) (.t 96)), o_ 7 (.mov (i_ 0))])
  (.ret))))))),
  [.cell 6 13 true, .t 7]⟩
/-- (*spread.state).valid -/
def m_pspread_state_valid : MFun := ⟨.seq (.region [o_ 2 (.mov F_)])
  (.seq (.seq (.region [o_ 4 (.mov (.t 0)), f_ 5 n_pspread_state_empty [.t 4]])
  (.cond (.t 5) (.seq (.region [o_ 2 (.mov T_)])
    (.ret))
  (.skip)))
  (.seq (.region [o_ 6 (.mov (.t 0)), o_ 7 (.nilck (.t 6)), o_ 8 (.faddr 0 (.t 7)), o_ 9 (.faddr 6 (.t 8)), o_ 10 (.load 1 false (.t 9)), o_ 11 (.len (.t 10)), o_ 3 (.mov (.t 11))])
  (.seq (.region [o_ 12 (.mov (.t 0)), f_ 13 n_pspread_state_sound [.t 12], o_ 14 (.mov (.t 13)), g_ 15 14 true (.mov (.t 0)), g_ 16 14 true (.nilck (.t 15)), g_ 17 14 true (.faddr 0 (.t 16)), g_ 18 14 true (.faddr 6 (.t 17)), g_ 19 14 true (.load 1 false (.t 18)), ⟨some 20, (some (14, true)), .call .ro (.c (.fn n_solve_Valid [] [])) [.t 19]⟩, o_ 21 (.pick (.t 14) (.t 20) F_), o_ 22 (.mov (.t 21)), g_ 23 22 true (.mov (.t 3)), g_ 24 22 true (.bin .lss (.t 23) (i_ 16)), o_ 25 (.pick (.t 22) (.t 24) F_), o_ 26 (.mov (.t 25)), g_ 27 26 true (.mov (.t 3)), g_ 28 26 true (.bin .eql (.t 27) (i_ 0)), g_ 29 26 true (.mov (.t 28)), g_ 30 29 false (.mov (.t 0)), ⟨some 31, (some (29, false)), .call .ro (.c (.fn n_pspread_state_whole [] [])) [.t 30]⟩, g_ 32 29 false (.not (.t 31)), g_ 33 26 true (.pick (.t 29) T_ (.t 32)), o_ 34 (.pick (.t 26) (.t 33) F_), o_ 35 (.mov (.t 34)), g_ 36 35 true (.mov (.t 3)), g_ 37 35 true (.bin .gtr (.t 36) (i_ 0)), g_ 38 35 true (.mov (.t 37)), g_ 39 38 false (.mov (.t 0)), g_ 40 38 false (.nilck (.t 39)), g_ 41 38 false (.faddr 0 (.t 40)), g_ 42 38 false (.faddr 7 (.t 41)), g_ 43 38 false (.load 1 false (.t 42)), g_ 44 38 false (.len (.t 43)), g_ 45 38 false (.bin .eql (.t 44) (i_ 0)), g_ 46 35 true (.pick (.t 38) T_ (.t 45)), o_ 47 (.pick (.t 35) (.t 46) F_), o_ 48 (.mov (.t 47)), g_ 49 48 true (.mov (.t 0)), ⟨some 50, (some (48, true)), .call .ro (.c (.fn n_pspread_state_timed [] [])) [.t 49]⟩, o_ 51 (.pick (.t 48) (.t 50) F_), o_ 2 (.mov (.t 51))])
  (.ret)))),
  [.t 2]⟩
/-- (*spread.state).empty -/
def m_pspread_state_empty : MFun := ⟨.seq (.region [o_ 2 (.mov F_)])
  (.seq (.draw [(12, 18), (12, 25), (18, 25), (12, 32), (18, 32), (25, 32), (42, 48)] [o_ 3 (.mov (.t 0)), o_ 4 (.nilck (.t 3)), o_ 5 (.faddr 0 (.t 4)), o_ 6 (.faddr 0 (.t 5)), o_ 7 (.load 4 true (.t 6)), o_ 8 (.build Zi2w1i1 []), o_ 9 (.eqa false 4 (.t 7) (.t 8)), o_ 10 (.mov (.t 9)), g_ 11 10 true (.mov (.t 0)), g_ 12 10 true (.nilck (.t 11)), g_ 13 10 true (.faddr 0 (.t 12)), g_ 14 10 true (.faddr 4 (.t 13)), g_ 15 10 true (.load 1 false (.t 14)), g_ 16 10 true (.len (.t 15)), g_ 17 10 true (.mov (.t 0)), g_ 18 10 true (.nilck (.t 17)), g_ 19 10 true (.faddr 0 (.t 18)), g_ 20 10 true (.faddr 5 (.t 19)), g_ 21 10 true (.load 1 false (.t 20)), g_ 22 10 true (.len (.t 21)), g_ 23 10 true (.bin .add (.t 16) (.t 22)), g_ 24 10 true (.mov (.t 0)), g_ 25 10 true (.nilck (.t 24)), g_ 26 10 true (.faddr 0 (.t 25)), g_ 27 10 true (.faddr 6 (.t 26)), g_ 28 10 true (.load 1 false (.t 27)), g_ 29 10 true (.len (.t 28)), g_ 30 10 true (.bin .add (.t 23) (.t 29)), g_ 31 10 true (.mov (.t 0)), g_ 32 10 true (.nilck (.t 31)), g_ 33 10 true (.faddr 0 (.t 32)), g_ 34 10 true (.faddr 7 (.t 33)), g_ 35 10 true (.load 1 false (.t 34)), g_ 36 10 true (.len (.t 35)), g_ 37 10 true (.bin .add (.t 30) (.t 36)), g_ 38 10 true (.bin .eql (.t 37) (i_ 0)), o_ 39 (.pick (.t 10) (.t 38) F_), o_ 40 (.mov (.t 39)), g_ 41 40 true (.mov (.t 0)), g_ 42 40 true (.nilck (.t 41)), g_ 43 40 true (.faddr 0 (.t 42)), g_ 44 40 true (.faddr 8 (.t 43)), g_ 45 40 true (.load 5 true (.t 44)), g_ 46 40 true (.mov (.t 0)), g_ 47 40 true (.nilck (.t 46)), g_ 48 40 true (.faddr 0 (.t 47)), g_ 49 40 true (.faddr 8 (.t 48)), g_ 50 40 true (.faddr 4 (.t 49)), g_ 51 40 true (.load 1 false (.t 50)), g_ 52 40 true (.build Zi5 [(4, 1, .t 51)]), g_ 53 40 true (.eqa false 5 (.t 45) (.t 52)), o_ 54 (.pick (.t 40) (.t 53) F_), o_ 55 (.mov (.t 54)), g_ 56 55 true (.mov (.t 0)), g_ 57 55 true (.nilck (.t 56)), g_ 58 55 true (.faddr 0 (.t 57)), g_ 59 55 true (.faddr 8 (.t 58)), g_ 60 55 true (.faddr 4 (.t 59)), g_ 61 55 true (.load 1 false (.t 60)), g_ 62 55 true (.bin .geq (.t 61) (i_ 0)), o_ 63 (.pick (.t 55) (.t 62) F_), o_ 64 (.mov (.t 63)), g_ 65 64 true (.mov (.t 0)), g_ 66 64 true (.nilck (.t 65)), g_ 67 64 true (.faddr 0 (.t 66)), g_ 68 64 true (.faddr 8 (.t 67)), g_ 69 64 true (.faddr 4 (.t 68)), g_ 70 64 true (.load 1 false (.t 69)), g_ 71 64 true (.bin .leq (.t 70) (i_ 1000000000)), o_ 72 (.pick (.t 64) (.t 71) F_), o_ 2 (.mov (.t 72))])
  (.ret)),
  [.t 2]⟩
/-- trickle.Tick -/
def m_trickle_Tick : MFun := ⟨.seq (.region [o_ 2 (.box (.t 0)), o_ 4 (.alloc Zi5), o_ 5 (.mov F_)])
  (.seq (.seq (.region [o_ 7 (.load 5 true (.t 2)), f_ 8 n_trickle_isValid [.t 7], o_ 9 (.not (.t 8)), o_ 10 (.mov (.t 9)), g_ 11 10 false (.mov (.t 1)), ⟨some 12, (some (10, false)), .call .ro (.c (.fn n_trickle_isFrame [] [])) [.t 11]⟩, g_ 13 10 false (.not (.t 12)), o_ 14 (.pick (.t 10) T_ (.t 13)), o_ 15 (.mov (.t 14)), g_ 16 15 false (.mov (.t 1)), g_ 17 15 false (.faddr 1 (.t 2)), g_ 18 15 false (.load 1 false (.t 17)), g_ 19 15 false (.bin .lss (.t 16) (.t 18)), o_ 20 (.pick (.t 15) T_ (.t 19))])
  (.cond (.t 20) (.seq (.region [o_ 21 (.load 5 true (.t 2)), w_ (.store 5 (.t 4) (.t 21)), o_ 5 (.mov F_)])
    (.ret))
  (.skip)))
  (.seq (.region [o_ 22 (.load 5 true (.t 2)), o_ 23 (.build Zi5 [(0, 5, .t 22)]), o_ 6 (.alloc Zi5), w_ (.store 5 (.t 6) (.t 23))])
  (.seq (.seq (.region [o_ 24 (.mov (.t 1)), o_ 25 (.faddr 1 (.t 2)), o_ 26 (.load 1 false (.t 25)), o_ 27 (.faddr 0 (.t 2)), o_ 28 (.load 1 false (.t 27)), o_ 29 (.bin .add (.t 26) (.t 28)), o_ 30 (.bin .geq (.t 24) (.t 29))])
  (.cond (.t 30) (.region [o_ 31 (.faddr 0 (.t 2)), o_ 32 (.load 1 false (.t 31)), o_ 33 (.bin .mul (i_ 2) (.t 32)), o_ 34 (.mn (i_ 8) (.t 33)), o_ 35 (.mov (.t 1)), ⟨some 36, none, .call .rw (.c (.fn n_ptrickle_timer_begin [] [])) [.t 6, .t 34, .t 35]⟩])
  (.skip)))
  (.seq (.region [o_ 37 (.mov (.t 1)), o_ 38 (.faddr 0 (.t 6)), o_ 39 (.faddr 2 (.t 38)), o_ 40 (.load 1 false (.t 39)), o_ 41 (.bin .eql (.t 37) (.t 40)), o_ 42 (.mov (.t 41)), g_ 43 42 true (.faddr 0 (.t 6)), g_ 44 42 true (.faddr 3 (.t 43)), g_ 45 42 true (.load 1 false (.t 44)), g_ 46 42 true (.bin .lss (.t 45) (i_ 2)), o_ 47 (.pick (.t 42) (.t 46) F_), o_ 5 (.mov (.t 47))])
  (.seq (.region [o_ 48 (.faddr 0 (.t 6)), o_ 49 (.load 5 true (.t 48)), o_ 50 (.mov (.t 5)), w_ (.store 5 (.t 4) (.t 49)), o_ 5 (.mov (.t 50))])
  (.ret)))))),
  [.cell 4 5 true, .t 5]⟩
/-- (*spread.state).lacking -/
def m_pspread_state_lacking : MFun := ⟨.seq (.region [o_ 2 (.box (.t 0)), o_ 3 (.box (.t 1)), o_ 4 (.mov (.c (.undef)))])
  (.seq (.region [o_ 5 (.mkfn n_pspread_state_lacking_1 [] [.t 3, .t 2]), o_ 4 (.mov (.t 5))])
  (.ret)),
  [.t 4]⟩
/-- spread.announced -/
def m_spread_announced : MFun := ⟨.seq (.region [o_ 1 (.box (.t 0)), o_ 2 (.mov F_)])
  (.seq (.region [o_ 3 (.faddr 0 (.t 1)), o_ 4 (.load 1 false (.t 3)), o_ 5 (.bin .geq (.t 4) (i_ 1)), o_ 6 (.mov (.t 5)), g_ 7 6 true (.faddr 0 (.t 1)), g_ 8 6 true (.load 1 false (.t 7)), g_ 9 6 true (.bin .leq (.t 8) (i_ 1000000000)), o_ 10 (.pick (.t 6) (.t 9) F_), o_ 11 (.mov (.t 10)), g_ 12 11 true (.faddr 1 (.t 1)), g_ 13 11 true (.load 1 false (.t 12)), g_ 14 11 true (.bin .geq (.t 13) (i_ 1)), o_ 15 (.pick (.t 11) (.t 14) F_), o_ 16 (.mov (.t 15)), g_ 17 16 true (.faddr 1 (.t 1)), g_ 18 16 true (.load 1 false (.t 17)), g_ 19 16 true (.bin .leq (.t 18) (i_ 4096)), o_ 20 (.pick (.t 16) (.t 19) F_), o_ 21 (.mov (.t 20)), g_ 22 21 true (.faddr 3 (.t 1)), g_ 23 21 true (.load 1 false (.t 22)), g_ 24 21 true (.bin .geq (.t 23) (i_ 0)), o_ 25 (.pick (.t 21) (.t 24) F_), o_ 26 (.mov (.t 25)), g_ 27 26 true (.faddr 3 (.t 1)), g_ 28 26 true (.load 1 false (.t 27)), g_ 29 26 true (.bin .leq (.t 28) (i_ 1000000000)), o_ 30 (.pick (.t 26) (.t 29) F_), o_ 2 (.mov (.t 30))])
  (.ret)),
  [.t 2]⟩
/-- spread.count -/
def m_spread_count : MFun := ⟨.seq (.region [o_ 1 (.box (.t 0)), o_ 2 (.mov (i_ 0))])
  (.seq (.region [o_ 3 (.faddr 1 (.t 1)), o_ 4 (.load 1 false (.t 3)), o_ 5 (.bin .add (.t 4) (i_ 256)), o_ 6 (.bin .sub (.t 5) (i_ 1)), o_ 7 (.bin .quo (.t 6) (i_ 256)), o_ 2 (.mov (.t 7))])
  (.ret)),
  [.t 2]⟩
/-- trickle.New -/
def m_trickle_New : MFun := ⟨.seq (.region [o_ 4 (.alloc Zi5), o_ 5 (.mov (i_ 0))])
  (.seq (.seq (.region [o_ 7 (.mov (.t 0)), f_ 8 n_trickle_isSeed [.t 7], o_ 9 (.not (.t 8)), o_ 10 (.mov (.t 9)), g_ 11 10 false (.mov (.t 1)), ⟨some 12, (some (10, false)), .call .ro (.c (.fn n_trickle_isFrame [] [])) [.t 11]⟩, g_ 13 10 false (.not (.t 12)), o_ 14 (.pick (.t 10) T_ (.t 13))])
  (.cond (.t 14) (.seq (.region [o_ 15 (.load 5 true (.t 4)), w_ (.store 5 (.t 4) (.t 15)), o_ 5 (.mov (i_ 1))])
    (.ret))
  (.skip)))
  (.seq (.region [o_ 16 (.mov (.t 0)), o_ 17 (.build Zi5 [(4, 1, .t 16)]), o_ 18 (.build Zi5 [(0, 5, .t 17)]), o_ 6 (.alloc Zi5), w_ (.store 5 (.t 6) (.t 18))])
  (.seq (.region [o_ 19 (.mov (.t 1)), ⟨some 20, none, .call .rw (.c (.fn n_ptrickle_timer_begin [] [])) [.t 6, i_ 1, .t 19]⟩])
  (.seq (.region [o_ 21 (.faddr 0 (.t 6)), o_ 22 (.load 5 true (.t 21)), w_ (.store 5 (.t 4) (.t 22)), o_ 5 (.mov (i_ 0))])
  (.ret))))),
  [.cell 4 5 true, .t 5]⟩
/-- trickle.Reset -/
def m_trickle_Reset : MFun := ⟨.seq (.region [o_ 2 (.box (.t 0)), o_ 4 (.alloc Zi5)])
  (.seq (.seq (.region [o_ 6 (.load 5 true (.t 2)), f_ 7 n_trickle_isValid [.t 6], o_ 8 (.not (.t 7)), o_ 9 (.mov (.t 8)), g_ 10 9 false (.mov (.t 1)), ⟨some 11, (some (9, false)), .call .ro (.c (.fn n_trickle_isFrame [] [])) [.t 10]⟩, g_ 12 9 false (.not (.t 11)), o_ 13 (.pick (.t 9) T_ (.t 12)), o_ 14 (.mov (.t 13)), g_ 15 14 false (.faddr 0 (.t 2)), g_ 16 14 false (.load 1 false (.t 15)), g_ 17 14 false (.bin .eql (.t 16) (i_ 1)), o_ 18 (.pick (.t 14) T_ (.t 17))])
  (.cond (.t 18) (.seq (.region [o_ 19 (.load 5 true (.t 2)), w_ (.store 5 (.t 4) (.t 19))])
    (.ret))
  (.skip)))
  (.seq (.region [o_ 20 (.load 5 true (.t 2)), o_ 21 (.build Zi5 [(0, 5, .t 20)]), o_ 5 (.alloc Zi5), w_ (.store 5 (.t 5) (.t 21))])
  (.seq (.region [o_ 22 (.mov (.t 1)), ⟨some 23, none, .call .rw (.c (.fn n_ptrickle_timer_begin [] [])) [.t 5, i_ 1, .t 22]⟩])
  (.seq (.region [o_ 24 (.faddr 0 (.t 5)), o_ 25 (.load 5 true (.t 24)), w_ (.store 5 (.t 4) (.t 25))])
  (.ret))))),
  [.cell 4 5 true]⟩
/-- trickle.Hear -/
def m_trickle_Hear : MFun := ⟨.seq (.region [o_ 1 (.box (.t 0)), o_ 2 (.alloc Zi5)])
  (.seq (.seq (.region [o_ 3 (.load 5 true (.t 1)), f_ 4 n_trickle_isValid [.t 3]])
  (.cond (.t 4) (.region [o_ 5 (.faddr 3 (.t 1)), o_ 6 (.load 1 false (.t 5)), o_ 7 (.bin .add (.t 6) (i_ 1)), o_ 8 (.mn (i_ 100) (.t 7)), o_ 9 (.faddr 3 (.t 1)), w_ (.store 1 (.t 9) (.t 8))])
  (.skip)))
  (.seq (.region [o_ 10 (.load 5 true (.t 1)), w_ (.store 5 (.t 2) (.t 10))])
  (.ret))),
  [.cell 2 5 true]⟩
/-- image.announced -/
def m_image_announced : MFun := ⟨.seq (.region [o_ 1 (.box (.t 0)), o_ 2 (.mov F_)])
  (.seq (.region [o_ 3 (.faddr 0 (.t 1)), o_ 4 (.load 1 false (.t 3)), o_ 5 (.bin .geq (.t 4) (i_ 1)), o_ 6 (.mov (.t 5)), g_ 7 6 true (.faddr 0 (.t 1)), g_ 8 6 true (.load 1 false (.t 7)), g_ 9 6 true (.bin .leq (.t 8) (i_ 1000000000)), o_ 10 (.pick (.t 6) (.t 9) F_), o_ 11 (.mov (.t 10)), g_ 12 11 true (.faddr 1 (.t 1)), g_ 13 11 true (.load 1 false (.t 12)), ⟨some 14, (some (11, true)), .call .ro (.c (.fn n_image_sized [] [])) [.t 13]⟩, o_ 15 (.pick (.t 11) (.t 14) F_), o_ 16 (.mov (.t 15)), g_ 17 16 true (.faddr 3 (.t 1)), g_ 18 16 true (.load 1 false (.t 17)), g_ 19 16 true (.bin .geq (.t 18) (i_ 0)), o_ 20 (.pick (.t 16) (.t 19) F_), o_ 21 (.mov (.t 20)), g_ 22 21 true (.faddr 3 (.t 1)), g_ 23 21 true (.load 1 false (.t 22)), g_ 24 21 true (.bin .leq (.t 23) (i_ 1000000000)), o_ 25 (.pick (.t 21) (.t 24) F_), o_ 2 (.mov (.t 25))])
  (.ret)),
  [.t 2]⟩
/-- tree.Root -/
def a_tree_Root_0 : MCode := .region [o_ 5 (.mov (.t 11))]
def y_tree_Root_0 : MCode := .block 1
  (.region [o_ 12 (.mov (.t 5)), o_ 13 (.iaddr 1 (.t 12) (i_ 0)), o_ 14 (.load 1 false (.t 13)), w_ (.store 1 (.t 4) (.t 14))])
def g_tree_Root_0 : MCode := .range (.t 10) [11] a_tree_Root_0 y_tree_Root_0
def m_tree_Root : MFun := ⟨.seq (.region [o_ 2 (.mov (.c (.int .u64 0))), o_ 3 (.mov (i_ 0))])
  (.seq (.seq (.region [o_ 6 (.mov (.t 0)), f_ 7 n_tree_arePages [.t 6], o_ 8 (.not (.t 7))])
  (.cond (.t 8) (.seq (.region [o_ 2 (.mov (.c (.int .u64 0))), o_ 3 (.mov (i_ 1))])
    (.ret))
  (.skip)))
  (.seq (.region [o_ 4 (.alloc [.int .u64 0])])
  (.seq (.seq (.region [o_ 9 (.mov (.t 0)), ⟨some 10, none, .call .rw (.c (.fn n_tree_levels [] [])) [.t 9]⟩])
  (.block 0
  (.trim [2, 3, 4, 10] g_tree_Root_0)))
  (.seq (.region [o_ 15 (.load 1 false (.t 4)), o_ 2 (.mov (.t 15)), o_ 3 (.mov (i_ 0))])
  (.ret))))),
  [.t 2, .t 3]⟩
/-- image.sized -/
def m_image_sized : MFun := ⟨.seq (.region [o_ 2 (.mov F_)])
  (.seq (.region [o_ 3 (.mov (.t 0)), o_ 4 (.bin .geq (.t 3) (i_ 1)), o_ 5 (.mov (.t 4)), g_ 6 5 true (.mov (.t 0)), g_ 7 5 true (.bin .leq (.t 6) (i_ 4096)), o_ 8 (.pick (.t 5) (.t 7) F_), o_ 2 (.mov (.t 8))])
  (.ret)),
  [.t 2]⟩
/-- slices.Chunk[[]byte,byte] -/
def m_slices_Chunk_sbyte_byte : MFun := ⟨.seq (.region [o_ 2 (.box (.t 0)), o_ 3 (.box (.t 1)), o_ 4 (.mov (.c (.undef)))])
  (.seq (.seq (.region [o_ 5 (.load 1 false (.t 3)), o_ 6 (.bin .lss (.t 5) (i_ 1))])
  (.cond (.t 6) (.trap)
  (.skip)))
  (.seq (.region [o_ 8 (.mkfn n_slices_Chunk_sbyte_byte_1 [] [.t 2, .t 3]), o_ 4 (.mov (.t 8))])
  (.ret))),
  [.t 4]⟩
/-- tree.Proof -/
def a_tree_Proof_0 : MCode := .region [o_ 7 (.mov (.t 24))]
def y_tree_Proof_0 : MCode := .block 1
  (.seq (.seq (.region [o_ 25 (.load 1 false (.t 3)), o_ 26 (.bin .xor (.t 25) (i_ 1)), o_ 8 (.mov (.t 26))])
    (.seq (.region [o_ 27 (.mov (.t 8)), o_ 28 (.mov (.t 7)), o_ 29 (.len (.t 28)), o_ 30 (.bin .lss (.t 27) (.t 29))])
    (.cond (.t 30) (.draw [(0, 4)] [o_ 31 (.load 1 false (.t 6)), o_ 32 (.mov (.t 7)), o_ 33 (.mov (.t 8)), o_ 34 (.iaddr 1 (.t 32) (.t 33)), o_ 35 (.load 1 false (.t 34)), o_ 36 (.bslice 1 [.t 35]), v_ 37 (.append 1 (.t 31) (.t 36)), w_ (.store 1 (.t 6) (.t 37))])
    (.skip))))
    (.region [o_ 38 (.load 1 false (.t 3)), o_ 39 (.bin .quo (.t 38) (i_ 2)), w_ (.store 1 (.t 3) (.t 39))]))
def g_tree_Proof_0 : MCode := .range (.t 23) [24] a_tree_Proof_0 y_tree_Proof_0
def m_tree_Proof : MFun := ⟨.seq (.region [o_ 3 (.box (.t 1)), o_ 4 (.mov (.c (.tree [] true true))), o_ 5 (.mov (i_ 0))])
  (.seq (.seq (.region [o_ 9 (.mov (.t 0)), f_ 10 n_tree_arePages [.t 9], o_ 11 (.not (.t 10)), o_ 12 (.mov (.t 11)), g_ 13 12 false (.load 1 false (.t 3)), g_ 14 12 false (.bin .lss (.t 13) (i_ 0)), o_ 15 (.pick (.t 12) T_ (.t 14)), o_ 16 (.mov (.t 15)), g_ 17 16 false (.load 1 false (.t 3)), g_ 18 16 false (.mov (.t 0)), g_ 19 16 false (.len (.t 18)), g_ 20 16 false (.bin .geq (.t 17) (.t 19)), o_ 21 (.pick (.t 16) T_ (.t 20))])
  (.cond (.t 21) (.seq (.region [o_ 4 (.mov (.c (.tree [] true true))), o_ 5 (.mov (i_ 1))])
    (.ret))
  (.skip)))
  (.seq (.region [o_ 6 (.alloc [.tree [] true true])])
  (.seq (.seq (.region [o_ 22 (.mov (.t 0)), ⟨some 23, none, .call .rw (.c (.fn n_tree_levels [] [])) [.t 22]⟩])
  (.block 0
  (.trim [3, 4, 5, 6, 23] g_tree_Proof_0)))
  (.seq (.region [o_ 40 (.load 1 false (.t 6)), o_ 4 (.mov (.t 40)), o_ 5 (.mov (i_ 0))])
  (.ret))))),
  [.t 4, .t 5]⟩
/-- (image.load).sound -/
def b_image_load_sound_0 : MCode := .seq (.region [o_ 45 (.bin .lss (.t 44) (.t 43))])
  (.seq (.cond (.t 45) (.skip)
  (.trim [] (.exit 0)))
  (.seq (.block 1
  (.seq (.region [o_ 46 (.mov (.t 44)), o_ 47 (.iaddr 1 (.t 42) (.t 44)), o_ 48 (.load 1 false (.t 47)), o_ 3 (.mov (.t 46)), o_ 4 (.mov (.t 48))])
    (.seq (.draw [(0, 5), (0, 8)] [o_ 49 (.load 13 true (.t 1)), o_ 50 (.mov (.t 3)), o_ 51 (.mov (.t 4)), o_ 52 (.faddr 0 (.t 1)), o_ 53 (.faddr 5 (.t 52)), o_ 54 (.load 1 false (.t 53)), o_ 55 (.mov (.t 3)), o_ 56 (.iaddr 1 (.t 54) (.t 55)), o_ 57 (.load 1 false (.t 56)), f_ 58 n_image_load_proved [.t 49, .t 50, .t 51, .t 57], o_ 59 (.not (.t 58))])
    (.cond (.t 59) (.seq (.region [o_ 2 (.mov F_)])
      (.ret))
    (.skip)))))
  (.region [o_ 60 (.bin .add (.t 44) (i_ 1)), o_ 44 (.mov (.t 60))])))
def l_image_load_sound_0 : MCode := .loop (.trim [1, 42, 43, 44] b_image_load_sound_0)
def m_image_load_sound : MFun := ⟨.seq (.region [o_ 1 (.box (.t 0)), o_ 2 (.mov F_)])
  (.seq (.seq (.draw [(8, 13), (8, 14), (20, 24)] [o_ 5 (.faddr 0 (.t 1)), o_ 6 (.faddr 0 (.t 5)), o_ 7 (.load 4 true (.t 6)), f_ 8 n_image_announced [.t 7], o_ 9 (.not (.t 8)), o_ 10 (.mov (.t 9)), g_ 11 10 false (.faddr 0 (.t 1)), g_ 12 10 false (.faddr 4 (.t 11)), g_ 13 10 false (.load 1 false (.t 12)), g_ 14 10 false (.len (.t 13)), g_ 15 10 false (.faddr 0 (.t 1)), g_ 16 10 false (.faddr 0 (.t 15)), g_ 17 10 false (.faddr 1 (.t 16)), g_ 18 10 false (.load 1 false (.t 17)), ⟨some 19, (some (10, false)), .call .ro (.c (.fn n_image_count [] [])) [.t 18]⟩, g_ 20 10 false (.bin .gtr (.t 14) (.t 19)), o_ 21 (.pick (.t 10) T_ (.t 20)), o_ 22 (.mov (.t 21)), g_ 23 22 false (.faddr 0 (.t 1)), g_ 24 22 false (.faddr 5 (.t 23)), g_ 25 22 false (.load 1 false (.t 24)), g_ 26 22 false (.len (.t 25)), g_ 27 22 false (.faddr 0 (.t 1)), g_ 28 22 false (.faddr 4 (.t 27)), g_ 29 22 false (.load 1 false (.t 28)), g_ 30 22 false (.len (.t 29)), g_ 31 22 false (.bin .neq (.t 26) (.t 30)), o_ 32 (.pick (.t 22) T_ (.t 31)), o_ 33 (.mov (.t 32)), g_ 34 33 false (.faddr 0 (.t 1)), g_ 35 33 false (.faddr 4 (.t 34)), g_ 36 33 false (.load 1 false (.t 35)), ⟨some 37, (some (33, false)), .call .ro (.c (.fn n_image_paged [] [])) [.t 36]⟩, g_ 38 33 false (.not (.t 37)), o_ 39 (.pick (.t 33) T_ (.t 38))])
  (.cond (.t 39) (.seq (.region [o_ 2 (.mov F_)])
    (.ret))
  (.skip)))
  (.seq (.seq (.region [o_ 40 (.faddr 0 (.t 1)), o_ 41 (.faddr 4 (.t 40)), o_ 42 (.load 1 false (.t 41)), o_ 43 (.len (.t 42)), o_ 44 (.mov (i_ 0))])
  (.block 0
  (l_image_load_sound_0)))
  (.seq (.region [o_ 2 (.mov T_)])
  (.ret)))),
  [.t 2]⟩
/-- image.Join -/
def m_image_Join : MFun := ⟨.seq (.region [o_ 4 (.mov (.c (.tree [] true true))), o_ 5 (.mov (i_ 0))])
  (.seq (.seq (.region [o_ 7 (.mov (.t 1)), f_ 8 n_image_sized [.t 7], o_ 9 (.not (.t 8)), o_ 10 (.mov (.t 9)), g_ 11 10 false (.mov (.t 0)), g_ 12 10 false (.len (.t 11)), g_ 13 10 false (.mov (.t 1)), ⟨some 14, (some (10, false)), .call .ro (.c (.fn n_image_count [] [])) [.t 13]⟩, g_ 15 10 false (.bin .neq (.t 12) (.t 14)), o_ 16 (.pick (.t 10) T_ (.t 15)), o_ 17 (.mov (.t 16)), g_ 18 17 false (.mov (.t 0)), ⟨some 19, (some (17, false)), .call .ro (.c (.fn n_image_paged [] [])) [.t 18]⟩, g_ 20 17 false (.not (.t 19)), o_ 21 (.pick (.t 17) T_ (.t 20))])
  (.cond (.t 21) (.seq (.region [o_ 4 (.mov (.c (.tree [] true true))), o_ 5 (.mov (i_ 1))])
    (.ret))
  (.skip)))
  (.seq (.region [o_ 22 (.mov (.t 0)), f_ 23 n_slices_Concat_sbyte_byte [.t 22], o_ 6 (.mov (.t 23))])
  (.seq (.seq (.region [o_ 24 (.mov (.t 6)), o_ 25 (.mov (.t 1)), o_ 26 (.slice 1 (.t 24) (some (.t 25)) none none), f_ 27 n_bytes_Trim [.t 26, .c (.str ⟨#[0]⟩)], o_ 28 (.len (.t 27)), o_ 29 (.bin .gtr (.t 28) (i_ 0))])
  (.cond (.t 29) (.seq (.region [o_ 4 (.mov (.c (.tree [] true true))), o_ 5 (.mov (i_ 12))])
    (.ret))
  (.skip)))
  (.seq (.region [o_ 30 (.mov (.t 6)), o_ 31 (.mov (.t 1)), o_ 32 (.mov (.t 1)), o_ 33 (.slice 1 (.t 30) none (some (.t 31)) (some (.t 32))), o_ 4 (.mov (.t 33)), o_ 5 (.mov (i_ 0))])
  (.ret))))),
  [.t 4, .t 5]⟩
/-- solve.formed -/
def m_solve_formed : MFun := ⟨.seq (.region [o_ 1 (.box (.t 0)), o_ 2 (.alloc Zi1y16), o_ 3 (.mov F_)])
  (.seq (.region [o_ 5 (.faddr 0 (.t 1)), o_ 6 (.load 1 false (.t 5)), o_ 7 (.build Zi1y16 [(0, 1, .t 6)]), o_ 4 (.alloc Zi1y16), w_ (.store 17 (.t 4) (.t 7))])
  (.seq (.draw [(1, 3)] [o_ 8 (.faddr 1 (.t 4)), o_ 9 (.sliceA 16 1 (.t 8)), o_ 10 (.faddr 1 (.t 1)), o_ 11 (.load 1 false (.t 10)), v_ 12 (.copy 1 (.t 9) (.t 11))])
  (.seq (.draw [(0, 2), (0, 6), (0, 11), (11, 15)] [o_ 13 (.load 17 true (.t 4)), o_ 14 (.faddr 0 (.t 1)), o_ 15 (.load 1 false (.t 14)), o_ 16 (.bin .geq (.t 15) (i_ 1)), o_ 17 (.mov (.t 16)), g_ 18 17 true (.faddr 0 (.t 1)), g_ 19 17 true (.load 1 false (.t 18)), g_ 20 17 true (.bin .lss (.t 19) (i_ 65536)), o_ 21 (.pick (.t 17) (.t 20) F_), o_ 22 (.mov (.t 21)), g_ 23 22 true (.faddr 1 (.t 1)), g_ 24 22 true (.load 1 false (.t 23)), g_ 25 22 true (.len (.t 24)), g_ 26 22 true (.bin .eql (.t 25) (i_ 16)), o_ 27 (.pick (.t 22) (.t 26) F_), w_ (.store 17 (.t 2) (.t 13)), o_ 3 (.mov (.t 27))])
  (.ret)))),
  [.cell 2 17 true, .t 3]⟩
/-- solve.Valid -/
def a_solve_Valid_0 : MCode := .seq (.region [o_ 5 (.alloc Zi1y16), w_ (.store 17 (.t 5) (.t 10))])
  (.region [o_ 6 (.mov (.t 11))])
def y_solve_Valid_0 : MCode := .block 1
  (.seq (.seq (.draw [(3, 5), (4, 5)] [o_ 12 (.mov (.t 6)), o_ 13 (.not (.t 12)), o_ 14 (.mov (.t 13)), g_ 15 14 false (.load 17 true (.t 5)), ⟨some 16, (some (14, false)), .call .ro (.c (.fn n_solve_equation_leading [] [])) [.t 15]⟩, g_ 17 14 false (.load 1 false (.t 4)), g_ 18 14 false (.bin .geq (.t 16) (.t 17)), o_ 19 (.pick (.t 14) T_ (.t 18))])
    (.cond (.t 19) (.seq (.region [w_ (.store 1 (.t 2) F_)])
      (.ret))
    (.skip)))
    (.seq (.region [o_ 20 (.load 17 true (.t 5)), f_ 21 n_solve_equation_leading [.t 20], w_ (.store 1 (.t 4) (.t 21))])
    (.region [o_ 22 (.load 1 false (.t 3)), o_ 23 (.load 1 false (.t 4)), o_ 24 (.bin .or (.t 22) (.t 23)), w_ (.store 1 (.t 3) (.t 24))])))
def g_solve_Valid_0 : MCode := .range (.t 9) [10, 11] a_solve_Valid_0 y_solve_Valid_0
def a_solve_Valid_1 : MCode := .region [o_ 7 (.alloc Zi1y16), w_ (.store 17 (.t 7) (.t 27))]
def y_solve_Valid_1 : MCode := .block 3
  (.seq (.draw [(1, 2), (1, 4), (2, 4), (1, 5), (2, 5)] [o_ 29 (.faddr 0 (.t 7)), o_ 30 (.load 1 false (.t 29)), o_ 31 (.load 1 false (.t 3)), o_ 32 (.bin .and (.t 30) (.t 31)), o_ 33 (.load 17 true (.t 7)), f_ 34 n_solve_equation_leading [.t 33], o_ 35 (.bin .neq (.t 32) (.t 34))])
    (.cond (.t 35) (.seq (.region [w_ (.store 1 (.t 2) F_)])
      (.ret))
    (.skip)))
def g_solve_Valid_1 : MCode := .range (.t 26) [27, 28] a_solve_Valid_1 y_solve_Valid_1
def m_solve_Valid : MFun := ⟨.seq (.region [o_ 2 (.alloc [.bool false])])
  (.seq (.region [o_ 3 (.alloc [.int .i64 0]), o_ 4 (.alloc [.int .i64 0]), w_ (.store 1 (.t 3) (i_ 0)), w_ (.store 1 (.t 4) (i_ 65536))])
  (.seq (.seq (.region [o_ 8 (.mov (.t 0)), ⟨some 9, none, .call .rw (.c (.fn n_solve_equations [] [])) [.t 8]⟩])
  (.block 0
  (.trim [0, 2, 3, 4, 9] g_solve_Valid_0)))
  (.seq (.seq (.region [o_ 25 (.mov (.t 0)), ⟨some 26, none, .call .rw (.c (.fn n_solve_equations [] [])) [.t 25]⟩])
  (.block 2
  (.trim [2, 3, 26] g_solve_Valid_1)))
  (.seq (.region [w_ (.store 1 (.t 2) T_)])
  (.ret))))),
  [.cell 2 1 false]⟩
/-- solve.reduce -/
def a_solve_reduce_0 : MCode := .region [o_ 5 (.alloc Zi1y16), w_ (.store 17 (.t 5) (.t 8))]
def y_solve_reduce_0 : MCode := .block 1
  (.seq (.draw [(1, 2), (1, 3)] [o_ 10 (.faddr 0 (.t 3)), o_ 11 (.load 1 false (.t 10)), o_ 12 (.load 17 true (.t 5)), f_ 13 n_solve_equation_leading [.t 12], o_ 14 (.bin .and (.t 11) (.t 13)), o_ 15 (.bin .neq (.t 14) (i_ 0))])
    (.cond (.t 15) (.draw [(1, 3), (1, 6), (3, 6), (1, 8), (3, 8), (6, 8), (1, 9), (3, 9)] [o_ 16 (.faddr 0 (.t 3)), o_ 17 (.load 1 false (.t 16)), o_ 18 (.faddr 0 (.t 5)), o_ 19 (.load 1 false (.t 18)), o_ 20 (.bin .xor (.t 17) (.t 19)), o_ 21 (.faddr 1 (.t 3)), o_ 22 (.load 16 true (.t 21)), o_ 23 (.faddr 1 (.t 5)), o_ 24 (.load 16 true (.t 23)), f_ 25 n_solve_block_plus [.t 22, .t 24], o_ 26 (.build Zi1y16 [(0, 1, .t 20), (1, 16, .t 25)]), w_ (.store 17 (.t 3) (.t 26))])
    (.skip)))
def g_solve_reduce_0 : MCode := .range (.t 7) [8, 9] a_solve_reduce_0 y_solve_reduce_0
def m_solve_reduce : MFun := ⟨.seq (.region [o_ 3 (.box (.t 1)), o_ 4 (.alloc Zi1y16)])
  (.seq (.seq (.region [o_ 6 (.mov (.t 0)), ⟨some 7, none, .call .rw (.c (.fn n_solve_equations [] [])) [.t 6]⟩])
  (.block 0
  (.trim [3, 4, 7] g_solve_reduce_0)))
  (.seq (.region [o_ 27 (.load 17 true (.t 3)), w_ (.store 17 (.t 4) (.t 27))])
  (.ret))),
  [.cell 4 17 true]⟩
/-- solve.equations -/
def m_solve_equations : MFun := ⟨.seq (.region [o_ 1 (.box (.t 0)), o_ 2 (.mov (.c (.undef)))])
  (.seq (.region [o_ 3 (.mkfn n_solve_equations_1 [] [.t 1]), o_ 2 (.mov (.t 3))])
  (.ret)),
  [.t 2]⟩
/-- (solve.equation).row -/
def m_solve_equation_row : MFun := ⟨.seq (.region [o_ 1 (.box (.t 0)), o_ 2 (.alloc Zi1t1)])
  (.seq (.region [o_ 4 (.mkslice [.int .u8 0] (i_ 16) (i_ 16)), o_ 3 (.mov (.t 4))])
  (.seq (.region [o_ 5 (.mov (.t 3)), o_ 6 (.faddr 1 (.t 1)), o_ 7 (.sliceA 16 1 (.t 6)), v_ 8 (.copy 1 (.t 5) (.t 7))])
  (.seq (.region [o_ 9 (.faddr 0 (.t 1)), o_ 10 (.load 1 false (.t 9)), o_ 11 (.mov (.t 3)), o_ 12 (.build Zi1t1 [(0, 1, .t 10), (1, 1, .t 11)]), w_ (.store 2 (.t 2) (.t 12))])
  (.ret)))),
  [.cell 2 2 true]⟩
/-- (solve.equation).leading -/
def m_solve_equation_leading : MFun := ⟨.seq (.region [o_ 1 (.box (.t 0)), o_ 2 (.mov (i_ 0))])
  (.seq (.region [o_ 3 (.faddr 0 (.t 1)), o_ 4 (.load 1 false (.t 3)), o_ 5 (.conv .u64 (.t 4)), f_ 6 n_bits_Len [.t 5], o_ 7 (.bin .shl (i_ 1) (.t 6)), o_ 8 (.bin .shr (.t 7) (.c (.int .u64 1))), o_ 2 (.mov (.t 8))])
  (.ret)),
  [.t 2]⟩
/-- (solve.block).plus -/
def b_solve_block_plus_0 : MCode := .seq (.region [o_ 7 (.bin .lss (.t 6) (i_ 16))])
  (.seq (.cond (.t 7) (.skip)
  (.trim [2, 4] (.exit 0)))
  (.seq (.block 1
  (.seq (.region [o_ 8 (.mov (.t 6)), o_ 5 (.mov (.t 8))])
    (.draw [(2, 5)] [o_ 9 (.mov (.t 5)), o_ 10 (.iaddrA 16 1 (.t 2) (.t 9)), o_ 11 (.load 1 false (.t 10)), o_ 12 (.mov (.t 5)), o_ 13 (.iaddrA 16 1 (.t 3) (.t 12)), o_ 14 (.load 1 false (.t 13)), o_ 15 (.bin .xor (.t 11) (.t 14)), o_ 16 (.iaddrA 16 1 (.t 2) (.t 9)), w_ (.store 1 (.t 16) (.t 15))])))
  (.region [o_ 17 (.bin .add (.t 6) (i_ 1)), o_ 6 (.mov (.t 17))])))
def l_solve_block_plus_0 : MCode := .loop (.trim [2, 3, 4, 6] b_solve_block_plus_0)
def m_solve_block_plus : MFun := ⟨.seq (.region [o_ 2 (.box (.t 0)), o_ 3 (.box (.t 1)), o_ 4 (.alloc Zy16)])
  (.seq (.seq (.region [o_ 6 (.mov (i_ 0))])
  (.block 0
  (l_solve_block_plus_0)))
  (.seq (.region [o_ 18 (.load 16 true (.t 2)), w_ (.store 16 (.t 4) (.t 18))])
  (.ret))),
  [.cell 4 16 true]⟩
/-- fountain.isSeed -/
def m_fountain_isSeed : MFun := ⟨.seq (.region [o_ 2 (.mov F_)])
  (.seq (.region [o_ 3 (.mov (.t 0)), o_ 4 (.bin .geq (.t 3) (i_ 0)), o_ 5 (.mov (.t 4)), g_ 6 5 true (.mov (.t 0)), g_ 7 5 true (.bin .leq (.t 6) (i_ 1000000000)), o_ 8 (.pick (.t 5) (.t 7) F_), o_ 2 (.mov (.t 8))])
  (.ret)),
  [.t 2]⟩
/-- random.Mask -/
def m_random_Mask : MFun := ⟨.seq (.region [o_ 4 (.mov (i_ 0))])
  (.seq (.seq (.region [o_ 5 (.mov (.t 1)), o_ 6 (.bin .lss (.t 5) (i_ 1)), o_ 7 (.mov (.t 6)), g_ 8 7 false (.mov (.t 1)), g_ 9 7 false (.bin .gtr (.t 8) (i_ 16)), o_ 10 (.pick (.t 7) T_ (.t 9))])
  (.cond (.t 10) (.seq (.region [o_ 4 (.mov (i_ 0))])
    (.ret))
  (.skip)))
  (.seq (.draw [] [o_ 11 (.mov (.t 0)), f_ 12 n_random_first [.t 11], o_ 13 (.mov (.t 1)), o_ 14 (.bin .shl (i_ 1) (.t 13)), o_ 15 (.bin .sub (.t 14) (i_ 1)), o_ 16 (.bin .rem (.t 12) (.t 15)), o_ 17 (.bin .add (i_ 1) (.t 16)), o_ 4 (.mov (.t 17))])
  (.ret))),
  [.t 4]⟩
/-- fountain.isPage -/
def m_fountain_isPage : MFun := ⟨.seq (.region [o_ 2 (.mov F_)])
  (.seq (.region [o_ 3 (.mov (.t 0)), o_ 4 (.bin .geq (.t 3) (i_ 0)), o_ 5 (.mov (.t 4)), g_ 6 5 true (.mov (.t 0)), g_ 7 5 true (.bin .lss (.t 6) (i_ 16)), o_ 8 (.pick (.t 5) (.t 7) F_), o_ 2 (.mov (.t 8))])
  (.ret)),
  [.t 2]⟩
/-- fountain.Encode$1 -/
def b_fountain_Encode_1_0 : MCode := .seq (.region [o_ 5 (.bin .lss (.t 4) (i_ 16))])
  (.seq (.cond (.t 5) (.skip)
  (.trim [] (.exit 0)))
  (.seq (.block 1
  (.seq (.region [o_ 6 (.mov (.t 4)), o_ 3 (.mov (.t 6))])
    (.draw [(2, 5)] [o_ 7 (.mov (.t 3)), o_ 8 (.iaddrA 16 1 (.t 1) (.t 7)), o_ 9 (.load 1 false (.t 8)), o_ 10 (.mov (.t 3)), o_ 11 (.iaddrA 16 1 (.t 2) (.t 10)), o_ 12 (.load 1 false (.t 11)), o_ 13 (.bin .xor (.t 9) (.t 12)), o_ 14 (.iaddrA 16 1 (.t 1) (.t 7)), w_ (.store 1 (.t 14) (.t 13))])))
  (.region [o_ 15 (.bin .add (.t 4) (i_ 1)), o_ 4 (.mov (.t 15))])))
def l_fountain_Encode_1_0 : MCode := .loop (.trim [1, 2, 4] b_fountain_Encode_1_0)
def m_fountain_Encode_1 : MFun := ⟨.seq (.region [o_ 2 (.box (.t 0))])
  (.seq (.region [o_ 4 (.mov (i_ 0))])
  (.block 0
  (l_fountain_Encode_1_0))),
  []⟩
/-- fountain.blocks -/
def m_fountain_blocks : MFun := ⟨.seq (.region [o_ 1 (.box (.t 0)), o_ 2 (.mov (.c (.undef)))])
  (.seq (.region [o_ 3 (.mkfn n_fountain_blocks_1 [] [.t 1]), o_ 2 (.mov (.t 3))])
  (.ret)),
  [.t 2]⟩
/-- math/bits.TrailingZeros -/
def m_bits_TrailingZeros : MFun := ⟨.seq (.region [o_ 2 (.mov (i_ 0))])
  (.seq (.cond F_ (.seq (.region [o_ 3 (.mov (.t 0)), o_ 4 (.conv .u32 (.t 3)), f_ 5 170 [.t 4], o_ 2 (.mov (.t 5))])
    (.ret))
  (.skip))
  (.seq (.region [o_ 6 (.mov (.t 0)), f_ 7 n_bits_TrailingZeros64 [.t 6], o_ 2 (.mov (.t 7))])
  (.ret))),
  [.t 2]⟩
/-- slices.Clone[[]byte,byte] -/
def m_slices_Clone_sbyte_byte : MFun := ⟨.seq (.region [o_ 2 (.mov (.c (.tree [] true true)))])
  (.seq (.seq (.region [o_ 3 (.mov (.t 0)), o_ 4 (.eqn false (.t 3) (.c (.tree [] true true)))])
  (.cond (.t 4) (.seq (.region [o_ 2 (.mov (.c (.tree [] true true)))])
    (.ret))
  (.skip)))
  (.seq (.region [o_ 5 (.bslice 1 []), o_ 6 (.mov (.t 0)), v_ 7 (.append 1 (.t 5) (.t 6)), o_ 2 (.mov (.t 7))])
  (.ret))),
  [.t 2]⟩
/-- bytes.Clone -/
def m_bytes_Clone : MFun := ⟨.seq (.region [o_ 2 (.mov (.c (.tree [] true true)))])
  (.seq (.seq (.region [o_ 3 (.mov (.t 0)), o_ 4 (.eqn false (.t 3) (.c (.tree [] true true)))])
  (.cond (.t 4) (.seq (.region [o_ 2 (.mov (.c (.tree [] true true)))])
    (.ret))
  (.skip)))
  (.seq (.region [o_ 5 (.bslice 1 []), o_ 6 (.mov (.t 0)), v_ 7 (.append 1 (.t 5) (.t 6)), o_ 2 (.mov (.t 7))])
  (.ret))),
  [.t 2]⟩
/-- digest.Add -/
def a_digest_Add_0 : MCode := .region [o_ 6 (.mov (.t 11))]
def y_digest_Add_0 : MCode := .block 1
  (.region [o_ 12 (.load 1 false (.t 5)), o_ 13 (.mov (.t 6)), f_ 14 n_digest_number_step [.t 12, .t 13], w_ (.store 1 (.t 5) (.t 14))])
def g_digest_Add_0 : MCode := .range (.t 10) [11] a_digest_Add_0 y_digest_Add_0
def m_digest_Add : MFun := ⟨.seq (.region [o_ 4 (.mov (.c (.int .u64 0)))])
  (.seq (.region [o_ 7 (.mov (.t 0)), o_ 5 (.alloc [.int .u64 0]), w_ (.store 1 (.t 5) (.t 7))])
  (.seq (.seq (.region [o_ 8 (.mov (.t 1)), v_ 9 (.bslice 1 [.t 8]), ⟨some 10, none, .call .rw (.c (.fn n_digest_words [] [])) [.t 9]⟩])
  (.block 0
  (.trim [4, 5, 10] g_digest_Add_0)))
  (.seq (.region [o_ 15 (.load 1 false (.t 5)), o_ 4 (.mov (.t 15))])
  (.ret)))),
  [.t 4]⟩
/-- digest.Sum -/
def m_digest_Sum : MFun := ⟨.seq (.region [o_ 2 (.mov (.c (.int .u64 0)))])
  (.seq (.region [o_ 3 (.mov (.t 0)), f_ 4 n_digest_Add [.c (.int .u64 14695981039346656037), .t 3], o_ 2 (.mov (.t 4))])
  (.ret)),
  [.t 2]⟩
/-- (*spread.state).whole -/
def m_pspread_state_whole : MFun := ⟨.seq (.region [o_ 2 (.mov F_)])
  (.seq (.draw [(4, 10), (4, 11)] [o_ 3 (.mov (.t 0)), o_ 4 (.nilck (.t 3)), o_ 5 (.faddr 0 (.t 4)), o_ 6 (.faddr 4 (.t 5)), o_ 7 (.load 1 false (.t 6)), o_ 8 (.len (.t 7)), o_ 9 (.mov (.t 0)), o_ 10 (.nilck (.t 9)), o_ 11 (.faddr 0 (.t 10)), o_ 12 (.faddr 0 (.t 11)), o_ 13 (.load 4 true (.t 12)), f_ 14 n_spread_count [.t 13], o_ 15 (.bin .eql (.t 8) (.t 14)), o_ 2 (.mov (.t 15))])
  (.ret)),
  [.t 2]⟩
/-- slices.Equal[[]uint64,uint64] -/
def b_slices_Equal_suint64_uint64_0 : MCode := .seq (.region [o_ 14 (.bin .lss (.t 13) (.t 12))])
  (.seq (.cond (.t 14) (.skip)
  (.trim [] (.exit 0)))
  (.seq (.block 1
  (.seq (.region [o_ 15 (.mov (.t 13)), o_ 5 (.mov (.t 15))])
    (.seq (.draw [(3, 7)] [o_ 16 (.mov (.t 0)), o_ 17 (.mov (.t 5)), o_ 18 (.iaddr 1 (.t 16) (.t 17)), o_ 19 (.load 1 false (.t 18)), o_ 20 (.mov (.t 1)), o_ 21 (.mov (.t 5)), o_ 22 (.iaddr 1 (.t 20) (.t 21)), o_ 23 (.load 1 false (.t 22)), o_ 24 (.bin .neq (.t 19) (.t 23))])
    (.cond (.t 24) (.seq (.region [o_ 4 (.mov F_)])
      (.ret))
    (.skip)))))
  (.region [o_ 25 (.bin .add (.t 13) (i_ 1)), o_ 13 (.mov (.t 25))])))
def l_slices_Equal_suint64_uint64_0 : MCode := .loop (.trim [0, 1, 12, 13] b_slices_Equal_suint64_uint64_0)
def m_slices_Equal_suint64_uint64 : MFun := ⟨.seq (.region [o_ 4 (.mov F_)])
  (.seq (.seq (.region [o_ 6 (.mov (.t 0)), o_ 7 (.len (.t 6)), o_ 8 (.mov (.t 1)), o_ 9 (.len (.t 8)), o_ 10 (.bin .neq (.t 7) (.t 9))])
  (.cond (.t 10) (.seq (.region [o_ 4 (.mov F_)])
    (.ret))
  (.skip)))
  (.seq (.seq (.region [o_ 11 (.mov (.t 0)), o_ 12 (.len (.t 11)), o_ 13 (.mov (i_ 0))])
  (.block 0
  (l_slices_Equal_suint64_uint64_0)))
  (.seq (.region [o_ 4 (.mov T_)])
  (.ret)))),
  [.t 4]⟩
/-- solve.Solved -/
def a_solve_Solved_0 : MCode := .region [o_ 7 (.alloc Zi1y16), w_ (.store 17 (.t 7) (.t 21))]
def y_solve_Solved_0 : MCode := .block 1
  (.seq (.draw [(1, 2)] [o_ 23 (.faddr 0 (.t 7)), o_ 24 (.load 1 false (.t 23)), o_ 25 (.load 1 false (.t 3)), o_ 26 (.bin .shl (i_ 1) (.t 25)), o_ 27 (.bin .eql (.t 24) (.t 26))])
    (.cond (.t 27) (.seq (.region [o_ 28 (.load 17 true (.t 7)), f_ 29 n_solve_equation_row [.t 28], o_ 30 (.field 1 1 false (.t 29)), w_ (.store 1 (.t 6) (.t 30))])
      (.trim [] (.exit 0)))
    (.skip)))
def g_solve_Solved_0 : MCode := .range (.t 20) [21, 22] a_solve_Solved_0 y_solve_Solved_0
def m_solve_Solved : MFun := ⟨.seq (.region [o_ 3 (.box (.t 1)), o_ 4 (.mov (.c (.tree [] true true))), o_ 5 (.mov F_)])
  (.trim [0, 3, 4, 5] (.seq (.seq (.region [o_ 8 (.load 1 false (.t 3)), o_ 9 (.bin .lss (.t 8) (i_ 0)), o_ 10 (.mov (.t 9)), g_ 11 10 false (.load 1 false (.t 3)), g_ 12 10 false (.bin .geq (.t 11) (i_ 16)), o_ 13 (.pick (.t 10) T_ (.t 12)), o_ 14 (.mov (.t 13)), g_ 15 14 false (.mov (.t 0)), ⟨some 16, (some (14, false)), .call .ro (.c (.fn n_solve_Valid [] [])) [.t 15]⟩, g_ 17 14 false (.not (.t 16)), o_ 18 (.pick (.t 14) T_ (.t 17))])
  (.cond (.t 18) (.seq (.region [o_ 4 (.mov (.c (.tree [] true true))), o_ 5 (.mov F_)])
    (.ret))
  (.skip)))
  (.seq (.region [o_ 6 (.alloc [.tree [] true true])])
  (.seq (.skip)
  (.seq (.seq (.region [o_ 19 (.mov (.t 0)), ⟨some 20, none, .call .rw (.c (.fn n_solve_equations [] [])) [.t 19]⟩])
  (.block 0
  (.trim [3, 4, 5, 6, 20] g_solve_Solved_0)))
  (.seq (.draw [(0, 1)] [o_ 31 (.load 1 false (.t 6)), o_ 32 (.load 1 false (.t 6)), o_ 33 (.eqn true (.t 32) (.c (.tree [] true true))), o_ 4 (.mov (.t 31)), o_ 5 (.mov (.t 33))])
  (.ret))))))),
  [.t 4, .t 5]⟩
/-- slices.Contains[[]bool,bool] -/
def m_slices_Contains_sbool_bool : MFun := ⟨.seq (.region [o_ 4 (.mov F_)])
  (.seq (.region [o_ 5 (.mov (.t 0)), o_ 6 (.mov (.t 1)), f_ 7 n_slices_Index_sbool_bool [.t 5, .t 6], o_ 8 (.bin .geq (.t 7) (i_ 0)), o_ 4 (.mov (.t 8))])
  (.ret)),
  [.t 4]⟩
/-- image.count -/
def m_image_count : MFun := ⟨.seq (.region [o_ 2 (.mov (i_ 0))])
  (.seq (.region [o_ 3 (.mov (.t 0)), o_ 4 (.bin .add (.t 3) (i_ 256)), o_ 5 (.bin .sub (.t 4) (i_ 1)), o_ 6 (.bin .quo (.t 5) (i_ 256)), o_ 2 (.mov (.t 6))])
  (.ret)),
  [.t 2]⟩
/-- (image.load).proved -/
def m_image_load_proved : MFun := ⟨.seq (.region [o_ 4 (.box (.t 0)), o_ 8 (.mov F_)])
  (.seq (.draw [(3, 7), (3, 8)] [o_ 9 (.faddr 0 (.t 4)), o_ 10 (.faddr 0 (.t 9)), o_ 11 (.faddr 2 (.t 10)), o_ 12 (.load 1 false (.t 11)), o_ 13 (.faddr 0 (.t 4)), o_ 14 (.faddr 0 (.t 13)), o_ 15 (.faddr 1 (.t 14)), o_ 16 (.load 1 false (.t 15)), f_ 17 n_image_count [.t 16], o_ 18 (.mov (.t 1)), o_ 19 (.mov (.t 2)), o_ 20 (.mov (.t 3)), f_ 21 n_tree_Check [.t 12, .t 17, .t 18, .t 19, .t 20], o_ 8 (.mov (.t 21))])
  (.ret)),
  [.t 8]⟩
/-- slices.Clone[[][]byte,[]byte] -/
def m_slices_Clone_ssbyte_sbyte : MFun := ⟨.seq (.region [o_ 2 (.mov (.c (.tree [] true true)))])
  (.seq (.seq (.region [o_ 3 (.mov (.t 0)), o_ 4 (.eqn false (.t 3) (.c (.tree [] true true)))])
  (.cond (.t 4) (.seq (.region [o_ 2 (.mov (.c (.tree [] true true)))])
    (.ret))
  (.skip)))
  (.seq (.region [v_ 5 (.bslice 1 []), o_ 6 (.mov (.t 0)), v_ 7 (.append 1 (.t 5) (.t 6)), o_ 2 (.mov (.t 7))])
  (.ret))),
  [.t 2]⟩
/-- slices.Clone[[][]uint64,[]uint64] -/
def m_slices_Clone_ssuint64_suint64 : MFun := ⟨.seq (.region [o_ 2 (.mov (.c (.tree [] true true)))])
  (.seq (.seq (.region [o_ 3 (.mov (.t 0)), o_ 4 (.eqn false (.t 3) (.c (.tree [] true true)))])
  (.cond (.t 4) (.seq (.region [o_ 2 (.mov (.c (.tree [] true true)))])
    (.ret))
  (.skip)))
  (.seq (.region [v_ 5 (.bslice 1 []), o_ 6 (.mov (.t 0)), v_ 7 (.append 1 (.t 5) (.t 6)), o_ 2 (.mov (.t 7))])
  (.ret))),
  [.t 2]⟩
/-- (*spread.state).sound -/
def m_pspread_state_sound : MFun := ⟨.seq (.region [o_ 2 (.mov F_)])
  (.seq (.draw [(3, 9), (5, 9)] [o_ 6 (.mov (.t 0)), o_ 7 (.nilck (.t 6)), o_ 8 (.faddr 0 (.t 7)), o_ 9 (.load 13 true (.t 8)), o_ 10 (.mktree [.int .u8 0] (i_ 256) (i_ 256)), f_ 11 n_image_Put [.t 9, .t 10, .c (.tree [] true true)], o_ 5 (.mov (.t 11)), o_ 12 (.extract 0 (.t 5)), o_ 13 (.extract 1 (.t 5)), o_ 3 (.alloc Zi2w1i1t4i5), w_ (.store 13 (.t 3) (.t 12)), o_ 4 (.mov (.t 13))])
  (.seq (.region [o_ 14 (.mov (.t 4)), o_ 15 (.bin .neq (.t 14) (i_ 1)), o_ 2 (.mov (.t 15))])
  (.ret))),
  [.t 2]⟩
/-- (*spread.state).timed -/
def m_pspread_state_timed : MFun := ⟨.seq (.region [o_ 2 (.mov F_)])
  (.seq (.region [o_ 4 (.mov (.t 0)), o_ 5 (.nilck (.t 4)), o_ 6 (.faddr 0 (.t 5)), o_ 7 (.faddr 8 (.t 6)), o_ 8 (.load 5 true (.t 7)), o_ 3 (.alloc Zi5), w_ (.store 5 (.t 3) (.t 8))])
  (.seq (.region [o_ 9 (.faddr 3 (.t 3)), w_ (.store 1 (.t 9) (i_ 0))])
  (.seq (.draw [(17, 19), (18, 19)] [o_ 10 (.mov (.t 0)), o_ 11 (.nilck (.t 10)), o_ 12 (.faddr 0 (.t 11)), o_ 13 (.faddr 8 (.t 12)), o_ 14 (.faddr 3 (.t 13)), o_ 15 (.load 1 false (.t 14)), o_ 16 (.bin .geq (.t 15) (i_ 0)), o_ 17 (.mov (.t 16)), g_ 18 17 true (.mov (.t 0)), g_ 19 17 true (.nilck (.t 18)), g_ 20 17 true (.faddr 0 (.t 19)), g_ 21 17 true (.faddr 8 (.t 20)), g_ 22 17 true (.faddr 3 (.t 21)), g_ 23 17 true (.load 1 false (.t 22)), g_ 24 17 true (.bin .leq (.t 23) (i_ 100)), o_ 25 (.pick (.t 17) (.t 24) F_), o_ 26 (.mov (.t 25)), g_ 27 26 true (.load 5 true (.t 3)), ⟨some 28, (some (26, true)), .call .ro (.c (.fn n_trickle_Hear [] [])) [.t 27]⟩, g_ 29 26 true (.load 5 true (.t 3)), g_ 30 26 true (.eqa true 5 (.t 28) (.t 29)), o_ 31 (.pick (.t 26) (.t 30) F_), o_ 2 (.mov (.t 31))])
  (.ret)))),
  [.t 2]⟩
/-- trickle.isValid -/
def m_trickle_isValid : MFun := ⟨.seq (.region [o_ 1 (.box (.t 0)), o_ 2 (.mov F_)])
  (.seq (.seq (.region [o_ 3 (.faddr 0 (.t 1)), o_ 4 (.load 1 false (.t 3)), f_ 5 n_trickle_in_int [.t 4, i_ 1, i_ 8], o_ 6 (.not (.t 5)), o_ 7 (.mov (.t 6)), g_ 8 7 false (.faddr 0 (.t 1)), g_ 9 7 false (.load 1 false (.t 8)), g_ 10 7 false (.faddr 0 (.t 1)), g_ 11 7 false (.load 1 false (.t 10)), g_ 12 7 false (.bin .sub (.t 11) (i_ 1)), g_ 13 7 false (.bin .and (.t 9) (.t 12)), g_ 14 7 false (.bin .neq (.t 13) (i_ 0)), o_ 15 (.pick (.t 7) T_ (.t 14)), o_ 16 (.mov (.t 15)), g_ 17 16 false (.faddr 1 (.t 1)), g_ 18 16 false (.load 1 false (.t 17)), ⟨some 19, (some (16, false)), .call .ro (.c (.fn n_trickle_isFrame [] [])) [.t 18]⟩, g_ 20 16 false (.not (.t 19)), o_ 21 (.pick (.t 16) T_ (.t 20)), o_ 22 (.mov (.t 21)), g_ 23 22 false (.faddr 4 (.t 1)), g_ 24 22 false (.load 1 false (.t 23)), ⟨some 25, (some (22, false)), .call .ro (.c (.fn n_trickle_isSeed [] [])) [.t 24]⟩, g_ 26 22 false (.not (.t 25)), o_ 27 (.pick (.t 22) T_ (.t 26))])
  (.cond (.t 27) (.seq (.region [o_ 2 (.mov F_)])
    (.ret))
  (.skip)))
  (.seq (.region [o_ 28 (.faddr 2 (.t 1)), o_ 29 (.load 1 false (.t 28)), o_ 30 (.faddr 1 (.t 1)), o_ 31 (.load 1 false (.t 30)), o_ 32 (.faddr 0 (.t 1)), o_ 33 (.load 1 false (.t 32)), o_ 34 (.bin .quo (.t 33) (i_ 2)), o_ 35 (.bin .add (.t 31) (.t 34)), o_ 36 (.faddr 1 (.t 1)), o_ 37 (.load 1 false (.t 36)), o_ 38 (.faddr 0 (.t 1)), o_ 39 (.load 1 false (.t 38)), o_ 40 (.bin .add (.t 37) (.t 39)), o_ 41 (.bin .sub (.t 40) (i_ 1)), f_ 42 n_trickle_in_int [.t 29, .t 35, .t 41], o_ 43 (.mov (.t 42)), g_ 44 43 true (.faddr 3 (.t 1)), g_ 45 43 true (.load 1 false (.t 44)), ⟨some 46, (some (43, true)), .call .ro (.c (.fn n_trickle_in_int [] [])) [.t 45, i_ 0, i_ 100]⟩, o_ 47 (.pick (.t 43) (.t 46) F_), o_ 2 (.mov (.t 47))])
  (.ret))),
  [.t 2]⟩
/-- trickle.isFrame -/
def m_trickle_isFrame : MFun := ⟨.seq (.region [o_ 2 (.mov F_)])
  (.seq (.region [o_ 3 (.mov (.t 0)), f_ 4 n_trickle_in_int [.t 3, i_ 0, i_ 999999984], o_ 2 (.mov (.t 4))])
  (.ret)),
  [.t 2]⟩
/-- (*trickle.timer).begin -/
def m_ptrickle_timer_begin : MFun := ⟨.seq (.region [o_ 7 (.mov (.t 1)), o_ 8 (.bin .quo (.t 7) (i_ 2)), o_ 6 (.mov (.t 8))])
  (.seq (.region [o_ 9 (.mov (.t 0)), o_ 10 (.mov (.t 0)), o_ 11 (.mov (.t 0)), o_ 12 (.mov (.t 1)), o_ 13 (.mov (.t 2)), o_ 14 (.nilck (.t 9)), o_ 15 (.faddr 0 (.t 14)), o_ 16 (.faddr 0 (.t 15)), w_ (.store 1 (.t 16) (.t 12)), o_ 17 (.nilck (.t 10)), o_ 18 (.faddr 0 (.t 17)), o_ 19 (.faddr 1 (.t 18)), w_ (.store 1 (.t 19) (.t 13)), o_ 20 (.nilck (.t 11)), o_ 21 (.faddr 0 (.t 20)), o_ 22 (.faddr 3 (.t 21)), w_ (.store 1 (.t 22) (i_ 0))])
  (.region [o_ 23 (.mov (.t 0)), o_ 24 (.mov (.t 2)), o_ 25 (.mov (.t 6)), o_ 26 (.bin .add (.t 24) (.t 25)), o_ 27 (.mov (.t 0)), o_ 28 (.nilck (.t 27)), o_ 29 (.faddr 0 (.t 28)), o_ 30 (.faddr 4 (.t 29)), o_ 31 (.load 1 false (.t 30)), o_ 32 (.conv .u64 (.t 31)), o_ 33 (.bin .mul (.c (.int .u64 1000003)) (.t 32)), o_ 34 (.mov (.t 2)), o_ 35 (.conv .u64 (.t 34)), o_ 36 (.bin .add (.t 33) (.t 35)), o_ 37 (.mov (.t 1)), o_ 38 (.mov (.t 6)), o_ 39 (.bin .sub (.t 37) (.t 38)), f_ 40 n_random_Below [.t 36, .t 39], o_ 41 (.bin .add (.t 26) (.t 40)), o_ 42 (.nilck (.t 23)), o_ 43 (.faddr 0 (.t 42)), o_ 44 (.faddr 2 (.t 43)), w_ (.store 1 (.t 44) (.t 41))])),
  []⟩
/-- (*spread.state).lacking$1 -/
def b_pspread_state_lacking_1_0 : MCode := .seq (.region [o_ 9 (.bin .lss (.t 8) (.t 7))])
  (.seq (.cond (.t 9) (.skip)
  (.trim [] (.exit 0)))
  (.seq (.block 1
  (.seq (.region [o_ 10 (.iaddr 31 (.t 6) (.t 8)), o_ 11 (.load 31 true (.t 10)), o_ 5 (.alloc Zi12t4f1t3i2w1i5t2f1), w_ (.store 31 (.t 5) (.t 11))])
    (.seq (.draw [(2, 3), (2, 7)] [o_ 12 (.faddr 1 (.t 5)), o_ 13 (.faddr 19 (.t 12)), o_ 14 (.load 4 true (.t 13)), o_ 15 (.load 1 false (.t 2)), o_ 16 (.nilck (.t 15)), o_ 17 (.faddr 0 (.t 16)), o_ 18 (.faddr 0 (.t 17)), o_ 19 (.load 4 true (.t 18)), o_ 20 (.eqa false 4 (.t 14) (.t 19)), o_ 21 (.mov (.t 20)), g_ 22 21 true (.mov (.t 0)), g_ 23 21 true (.faddr 1 (.t 5)), g_ 24 21 true (.faddr 23 (.t 23)), g_ 25 21 true (.load 1 false (.t 24)), ⟨some 26, (some (21, true)), .call .rw (.t 22) [.t 25]⟩, g_ 27 21 true (.not (.t 26)), o_ 28 (.pick (.t 21) (.t 27) F_)])
    (.cond (.t 28) (.ret)
    (.skip)))))
  (.region [o_ 29 (.bin .add (.t 8) (i_ 1)), o_ 8 (.mov (.t 29))])))
def l_pspread_state_lacking_1_0 : MCode := .loop (.trim [0, 2, 6, 7, 8] b_pspread_state_lacking_1_0)
def m_pspread_state_lacking_1 : MFun := ⟨.seq (.region [o_ 6 (.load 1 false (.t 1)), o_ 7 (.len (.t 6)), o_ 8 (.mov (i_ 0))])
  (.block 0
  (l_pspread_state_lacking_1_0)),
  []⟩
/-- trickle.isSeed -/
def m_trickle_isSeed : MFun := ⟨.seq (.region [o_ 2 (.mov F_)])
  (.seq (.region [o_ 3 (.mov (.t 0)), f_ 4 n_trickle_in_int [.t 3, i_ 0, i_ 1000000000], o_ 2 (.mov (.t 4))])
  (.ret)),
  [.t 2]⟩
/-- tree.arePages -/
def m_tree_arePages : MFun := ⟨.seq (.region [o_ 2 (.mov F_)])
  (.seq (.region [o_ 3 (.mov (.t 0)), o_ 4 (.len (.t 3)), o_ 5 (.bin .gtr (.t 4) (i_ 0)), o_ 6 (.mov (.t 5)), g_ 7 6 true (.mov (.t 0)), g_ 8 6 true (.len (.t 7)), g_ 9 6 true (.bin .leq (.t 8) (i_ 16)), o_ 10 (.pick (.t 6) (.t 9) F_), o_ 11 (.mov (.t 10)), g_ 12 11 true (.mov (.t 0)), ⟨some 13, (some (11, true)), .call .ro (.c (.fn n_slices_ContainsFunc_ssbyte_sbyte [] [])) [.t 12, .c (.fn n_tree_arePages_1 [] [])]⟩, g_ 14 11 true (.not (.t 13)), o_ 15 (.pick (.t 11) (.t 14) F_), o_ 2 (.mov (.t 15))])
  (.ret)),
  [.t 2]⟩
/-- tree.levels -/
def m_tree_levels : MFun := ⟨.seq (.region [o_ 1 (.box (.t 0)), o_ 2 (.mov (.c (.undef)))])
  (.seq (.region [o_ 3 (.mkfn n_tree_levels_1 [] [.t 1]), o_ 2 (.mov (.t 3))])
  (.ret)),
  [.t 2]⟩
/-- slices.Chunk[[]byte,byte]$1 -/
def b_slices_Chunk_sbyte_byte_1_0 : MCode := .seq (.seq (.region [o_ 6 (.mov (.t 4)), o_ 7 (.load 1 false (.t 1)), o_ 8 (.len (.t 7)), o_ 9 (.bin .lss (.t 6) (.t 8))])
  (.cond (.t 9) (.skip)
  (.trim [] (.exit 0))))
  (.seq (.block 1
  (.seq (.draw [(0, 1)] [o_ 13 (.load 1 false (.t 2)), o_ 14 (.load 1 false (.t 1)), o_ 15 (.mov (.t 4)), o_ 16 (.slice 1 (.t 14) (some (.t 15)) none none), o_ 17 (.len (.t 16)), o_ 18 (.mn (.t 13) (.t 17)), o_ 5 (.mov (.t 18))])
    (.seq (.region [o_ 19 (.mov (.t 0)), o_ 20 (.load 1 false (.t 1)), o_ 21 (.mov (.t 4)), o_ 22 (.mov (.t 4)), o_ 23 (.mov (.t 5)), o_ 24 (.bin .add (.t 22) (.t 23)), o_ 25 (.mov (.t 4)), o_ 26 (.mov (.t 5)), o_ 27 (.bin .add (.t 25) (.t 26)), o_ 28 (.slice 1 (.t 20) (some (.t 21)) (some (.t 24)) (some (.t 27))), ⟨some 29, none, .call .rw (.t 19) [.t 28]⟩, o_ 30 (.not (.t 29))])
    (.cond (.t 30) (.ret)
    (.skip)))))
  (.region [o_ 10 (.mov (.t 4)), o_ 11 (.load 1 false (.t 2)), o_ 12 (.bin .add (.t 10) (.t 11)), o_ 4 (.mov (.t 12))]))
def l_slices_Chunk_sbyte_byte_1_0 : MCode := .loop (.trim [0, 1, 2, 4] b_slices_Chunk_sbyte_byte_1_0)
def m_slices_Chunk_sbyte_byte_1 : MFun := ⟨.seq (.region [o_ 4 (.mov (i_ 0))])
  (.block 0
  (l_slices_Chunk_sbyte_byte_1_0)),
  []⟩
/-- image.paged -/
def m_image_paged : MFun := ⟨.seq (.region [o_ 2 (.mov F_)])
  (.seq (.region [o_ 3 (.mov (.t 0)), f_ 4 n_slices_ContainsFunc_ssbyte_sbyte [.t 3, .c (.fn n_image_paged_1 [] [])], o_ 5 (.not (.t 4)), o_ 2 (.mov (.t 5))])
  (.ret)),
  [.t 2]⟩
/-- slices.Concat[[]byte,byte] -/
def b_slices_Concat_sbyte_byte_0 : MCode := .seq (.region [o_ 12 (.bin .lss (.t 11) (.t 10))])
  (.seq (.cond (.t 12) (.skip)
  (.trim [0, 3] (.exit 0)))
  (.seq (.block 1
  (.seq (.region [o_ 13 (.iaddr 1 (.t 9) (.t 11)), o_ 14 (.load 1 false (.t 13)), o_ 5 (.mov (.t 14))])
    (.seq (.region [o_ 15 (.mov (.t 3)), o_ 16 (.mov (.t 5)), o_ 17 (.len (.t 16)), o_ 18 (.bin .add (.t 15) (.t 17)), o_ 3 (.mov (.t 18))])
    (.seq (.region [o_ 19 (.mov (.t 3)), o_ 20 (.bin .lss (.t 19) (i_ 0))])
    (.cond (.t 20) (.trap)
    (.skip))))))
  (.region [o_ 22 (.bin .add (.t 11) (i_ 1)), o_ 11 (.mov (.t 22))])))
def l_slices_Concat_sbyte_byte_0 : MCode := .loop (.trim [0, 3, 9, 10, 11] b_slices_Concat_sbyte_byte_0)
def b_slices_Concat_sbyte_byte_1 : MCode := .seq (.region [o_ 28 (.bin .lss (.t 27) (.t 26))])
  (.seq (.cond (.t 28) (.skip)
  (.trim [6] (.exit 2)))
  (.seq (.block 3
  (.seq (.region [o_ 29 (.iaddr 1 (.t 25) (.t 27)), o_ 30 (.load 1 false (.t 29)), o_ 8 (.mov (.t 30))])
    (.region [o_ 31 (.mov (.t 6)), o_ 32 (.mov (.t 8)), v_ 33 (.append 1 (.t 31) (.t 32)), o_ 6 (.mov (.t 33))])))
  (.region [o_ 34 (.bin .add (.t 27) (i_ 1)), o_ 27 (.mov (.t 34))])))
def l_slices_Concat_sbyte_byte_1 : MCode := .loop (.trim [6, 25, 26, 27] b_slices_Concat_sbyte_byte_1)
def m_slices_Concat_sbyte_byte : MFun := ⟨.seq (.region [o_ 2 (.mov (.c (.tree [] true true)))])
  (.seq (.region [o_ 3 (.mov (i_ 0))])
  (.seq (.seq (.region [o_ 9 (.mov (.t 0)), o_ 10 (.len (.t 9)), o_ 11 (.mov (i_ 0))])
  (.block 0
  (l_slices_Concat_sbyte_byte_0)))
  (.seq (.region [o_ 23 (.mov (.t 3)), ⟨some 24, none, .call .rw (.c (.fn n_slices_Grow_sbyte_byte [] [])) [.c (.tree [] true true), .t 23]⟩, o_ 6 (.mov (.t 24))])
  (.seq (.seq (.region [o_ 25 (.mov (.t 0)), o_ 26 (.len (.t 25)), o_ 27 (.mov (i_ 0))])
  (.block 2
  (l_slices_Concat_sbyte_byte_1)))
  (.seq (.region [o_ 35 (.mov (.t 6)), o_ 2 (.mov (.t 35))])
  (.ret)))))),
  [.t 2]⟩
/-- bytes.Trim -/
def m_bytes_Trim : MFun := ⟨.seq (.region [o_ 4 (.mov (.c (.tree [] true true)))])
  (.seq (.seq (.region [o_ 7 (.mov (.t 0)), o_ 8 (.len (.t 7)), o_ 9 (.bin .eql (.t 8) (i_ 0))])
  (.cond (.t 9) (.seq (.region [o_ 4 (.mov (.c (.tree [] true true)))])
    (.ret))
  (.skip)))
  (.seq (.seq (.region [o_ 10 (.mov (.t 1)), o_ 11 (.eqs false (.t 10) (.c (.str ⟨#[]⟩)))])
  (.cond (.t 11) (.seq (.region [o_ 12 (.mov (.t 0)), o_ 4 (.mov (.t 12))])
    (.ret))
  (.skip)))
  (.seq (.seq (.region [o_ 13 (.mov (.t 1)), o_ 14 (.lenS (.t 13)), o_ 15 (.bin .eql (.t 14) (i_ 1)), o_ 16 (.mov (.t 15)), g_ 17 16 true (.mov (.t 1)), g_ 18 16 true (.indexS (.t 17) (i_ 0)), g_ 19 16 true (.bin .lss (.t 18) (.c (.int .u8 128))), o_ 20 (.pick (.t 16) (.t 19) F_)])
  (.cond (.t 20) (.seq (.draw [] [o_ 21 (.mov (.t 0)), o_ 22 (.mov (.t 1)), o_ 23 (.indexS (.t 22) (i_ 0)), f_ 24 n_bytes_trimRightByte [.t 21, .t 23], o_ 25 (.mov (.t 1)), o_ 26 (.indexS (.t 25) (i_ 0)), f_ 27 n_bytes_trimLeftByte [.t 24, .t 26], o_ 4 (.mov (.t 27))])
    (.ret))
  (.skip)))
  (.seq (.seq (.trap)
  (.seq (.region [o_ 33 (.mov (.t 6))])
  (.cond (.t 33) (.seq (.region [o_ 34 (.mov (.t 0)), f_ 35 204 [.t 34, .t 5], f_ 36 203 [.t 35, .t 5], o_ 4 (.mov (.t 36))])
    (.ret))
  (.skip))))
  (.seq (.region [o_ 37 (.mov (.t 0)), o_ 38 (.mov (.t 1)), f_ 39 206 [.t 37, .t 38], o_ 40 (.mov (.t 1)), f_ 41 205 [.t 39, .t 40], o_ 4 (.mov (.t 41))])
  (.ret)))))),
  [.t 4]⟩
/-- solve.equations$1 -/
def b_solve_equations_1_0 : MCode := .seq (.region [o_ 8 (.bin .lss (.t 7) (.t 6))])
  (.seq (.cond (.t 8) (.skip)
  (.trim [] (.exit 0)))
  (.seq (.block 1
  (.seq (.region [o_ 9 (.iaddr 2 (.t 5) (.t 7)), o_ 10 (.load 2 true (.t 9)), o_ 4 (.alloc Zi1t1), w_ (.store 2 (.t 4) (.t 10))])
    (.seq (.region [o_ 11 (.mov (.t 0)), o_ 12 (.load 2 true (.t 4)), f_ 13 n_solve_formed [.t 12], o_ 14 (.extract 0 (.t 13)), o_ 15 (.extract 1 (.t 13)), ⟨some 16, none, .call .rw (.t 11) [.t 14, .t 15]⟩, o_ 17 (.not (.t 16))])
    (.cond (.t 17) (.ret)
    (.skip)))))
  (.region [o_ 18 (.bin .add (.t 7) (i_ 1)), o_ 7 (.mov (.t 18))])))
def l_solve_equations_1_0 : MCode := .loop (.trim [0, 5, 6, 7] b_solve_equations_1_0)
def m_solve_equations_1 : MFun := ⟨.seq (.region [o_ 5 (.load 1 false (.t 1)), o_ 6 (.len (.t 5)), o_ 7 (.mov (i_ 0))])
  (.block 0
  (l_solve_equations_1_0)),
  []⟩
/-- math/bits.Len -/
def m_bits_Len : MFun := ⟨.seq (.region [o_ 2 (.mov (i_ 0))])
  (.seq (.cond F_ (.seq (.region [o_ 3 (.mov (.t 0)), o_ 4 (.conv .u32 (.t 3)), f_ 5 207 [.t 4], o_ 2 (.mov (.t 5))])
    (.ret))
  (.skip))
  (.seq (.region [o_ 6 (.mov (.t 0)), f_ 7 n_bits_Len64 [.t 6], o_ 2 (.mov (.t 7))])
  (.ret))),
  [.t 2]⟩
/-- random.first -/
def a_random_first_0 : MCode := .region [o_ 3 (.mov (.t 6))]
def y_random_first_0 : MCode := .block 1
  (.seq (.region [o_ 7 (.mov (.t 3)), w_ (.store 1 (.t 2) (.t 7))])
    (.ret))
def g_random_first_0 : MCode := .range (.t 5) [6] a_random_first_0 y_random_first_0
def m_random_first : MFun := ⟨.seq (.region [o_ 2 (.alloc [.int .i64 0])])
  (.seq (.seq (.region [o_ 4 (.mov (.t 0)), ⟨some 5, none, .call .rw (.c (.fn n_random_halves [] [])) [.t 4]⟩])
  (.block 0
  (.trim [2, 5] g_random_first_0)))
  (.seq (.region [w_ (.store 1 (.t 2) (i_ 0))])
  (.ret))),
  [.cell 2 1 false]⟩
/-- fountain.blocks$1 -/
def b_fountain_blocks_1_0 : MCode := .seq (.region [o_ 5 (.bin .lss (.t 4) (i_ 16))])
  (.seq (.cond (.t 5) (.skip)
  (.trim [] (.exit 0)))
  (.seq (.block 1
  (.seq (.region [o_ 6 (.mov (.t 4)), o_ 3 (.mov (.t 6))])
    (.seq (.region [o_ 7 (.mov (.t 0)), o_ 8 (.mov (.t 3)), o_ 9 (.load 1 false (.t 1)), o_ 10 (.mov (.t 3)), o_ 11 (.bin .mul (.t 10) (i_ 16)), o_ 12 (.slice 1 (.t 9) (some (.t 11)) none none), o_ 13 (.s2a 16 (.t 12)), o_ 14 (.load 16 true (.t 13)), ⟨some 15, none, .call .rw (.t 7) [.t 8, .t 14]⟩, o_ 16 (.not (.t 15))])
    (.cond (.t 16) (.ret)
    (.skip)))))
  (.region [o_ 17 (.bin .add (.t 4) (i_ 1)), o_ 4 (.mov (.t 17))])))
def l_fountain_blocks_1_0 : MCode := .loop (.trim [0, 1, 4] b_fountain_blocks_1_0)
def m_fountain_blocks_1 : MFun := ⟨.seq (.region [o_ 4 (.mov (i_ 0))])
  (.block 0
  (l_fountain_blocks_1_0)),
  []⟩
/-- math/bits.TrailingZeros64 -/
def m_bits_TrailingZeros64 : MFun := ⟨.seq (.region [o_ 2 (.mov (i_ 0))])
  (.seq (.seq (.region [o_ 3 (.mov (.t 0)), o_ 4 (.bin .eql (.t 3) (.c (.int .u64 0)))])
  (.cond (.t 4) (.seq (.region [o_ 2 (.mov (i_ 64))])
    (.ret))
  (.skip)))
  (.seq (.region [o_ 5 (.mov (.t 0)), o_ 6 (.mov (.t 0)), o_ 7 (.neg (.t 6)), o_ 8 (.bin .and (.t 5) (.t 7)), o_ 9 (.bin .mul (.t 8) (.c (.int .u64 285870213051353865))), o_ 10 (.bin .shr (.t 9) (.c (.int .u64 58))), o_ 11 (.iaddrA 64 1 (.g 1) (.t 10)), o_ 12 (.load 1 false (.t 11)), o_ 13 (.conv .i64 (.t 12)), o_ 2 (.mov (.t 13))])
  (.ret))),
  [.t 2]⟩
/-- digest.words -/
def m_digest_words : MFun := ⟨.seq (.region [o_ 1 (.box (.t 0)), o_ 2 (.mov (.c (.undef)))])
  (.seq (.region [o_ 3 (.mkfn n_digest_words_1 [] [.t 1]), o_ 2 (.mov (.t 3))])
  (.ret)),
  [.t 2]⟩
/-- (digest.number).step -/
def m_digest_number_step : MFun := ⟨.seq (.region [o_ 4 (.mov (.c (.int .u64 0)))])
  (.seq (.region [o_ 5 (.mov (.t 0)), o_ 6 (.mov (.t 1)), o_ 7 (.bin .xor (.t 5) (.t 6)), o_ 8 (.bin .mul (.t 7) (.c (.int .u64 1099511628211))), o_ 4 (.mov (.t 8))])
  (.ret)),
  [.t 4]⟩
/-- slices.Index[[]bool,bool] -/
def b_slices_Index_sbool_bool_0 : MCode := .seq (.region [o_ 9 (.bin .lss (.t 8) (.t 7))])
  (.seq (.cond (.t 9) (.skip)
  (.trim [] (.exit 0)))
  (.seq (.block 1
  (.seq (.region [o_ 10 (.mov (.t 8)), o_ 5 (.mov (.t 10))])
    (.seq (.region [o_ 11 (.mov (.t 1)), o_ 12 (.mov (.t 0)), o_ 13 (.mov (.t 5)), o_ 14 (.iaddr 1 (.t 12) (.t 13)), o_ 15 (.load 1 false (.t 14)), o_ 16 (.eqb false (.t 11) (.t 15))])
    (.cond (.t 16) (.seq (.region [o_ 17 (.mov (.t 5)), o_ 4 (.mov (.t 17))])
      (.ret))
    (.skip)))))
  (.region [o_ 18 (.bin .add (.t 8) (i_ 1)), o_ 8 (.mov (.t 18))])))
def l_slices_Index_sbool_bool_0 : MCode := .loop (.trim [0, 1, 7, 8] b_slices_Index_sbool_bool_0)
def m_slices_Index_sbool_bool : MFun := ⟨.seq (.region [o_ 4 (.mov (i_ 0))])
  (.seq (.seq (.region [o_ 6 (.mov (.t 0)), o_ 7 (.len (.t 6)), o_ 8 (.mov (i_ 0))])
  (.block 0
  (l_slices_Index_sbool_bool_0)))
  (.seq (.region [o_ 4 (.mov (i_ (-1)))])
  (.ret))),
  [.t 4]⟩
/-- tree.Check -/
def a_tree_Check_0 : MCode := .seq (.region [o_ 12 (.mov (.t 42))])
  (.region [o_ 13 (.mov (.t 43))])
def y_tree_Check_0 : MCode := .block 1
  (.seq (.seq (.region [o_ 44 (.mov (.t 12)), o_ 45 (.not (.t 44))])
    (.cond (.t 45) (.trim [] (.exit 1))
    (.skip)))
    (.seq (.seq (.region [o_ 46 (.load 1 false (.t 9)), o_ 47 (.len (.t 46)), o_ 48 (.bin .eql (.t 47) (i_ 0))])
    (.cond (.t 48) (.seq (.region [w_ (.store 1 (.t 10) F_)])
      (.ret))
    (.skip)))
    (.seq (.draw [(0, 1), (0, 3)] [o_ 49 (.load 1 false (.t 11)), o_ 50 (.load 1 false (.t 9)), o_ 51 (.iaddr 1 (.t 50) (i_ 0)), o_ 52 (.load 1 false (.t 51)), o_ 14 (.mov (.t 49)), o_ 15 (.mov (.t 52))])
    (.seq (.seq (.region [o_ 53 (.mov (.t 13))])
    (.cond (.t 53) (.region [o_ 54 (.mov (.t 15)), o_ 55 (.mov (.t 14)), o_ 14 (.mov (.t 54)), o_ 15 (.mov (.t 55))])
    (.skip)))
    (.draw [(2, 3), (3, 5)] [o_ 56 (.mov (.t 14)), o_ 57 (.mov (.t 15)), f_ 58 n_digest_Pair [.t 56, .t 57], o_ 59 (.load 1 false (.t 9)), o_ 60 (.slice 1 (.t 59) (some (i_ 1)) none none), w_ (.store 1 (.t 11) (.t 58)), w_ (.store 1 (.t 9) (.t 60))])))))
def g_tree_Check_0 : MCode := .range (.t 41) [42, 43] a_tree_Check_0 y_tree_Check_0
def m_tree_Check : MFun := ⟨.seq (.region [o_ 9 (.box (.t 4)), o_ 10 (.alloc [.bool false])])
  (.seq (.seq (.region [o_ 16 (.mov (.t 1)), o_ 17 (.bin .lss (.t 16) (i_ 1)), o_ 18 (.mov (.t 17)), g_ 19 18 false (.mov (.t 1)), g_ 20 18 false (.bin .gtr (.t 19) (i_ 16)), o_ 21 (.pick (.t 18) T_ (.t 20)), o_ 22 (.mov (.t 21)), g_ 23 22 false (.mov (.t 2)), g_ 24 22 false (.bin .lss (.t 23) (i_ 0)), o_ 25 (.pick (.t 22) T_ (.t 24)), o_ 26 (.mov (.t 25)), g_ 27 26 false (.mov (.t 2)), g_ 28 26 false (.mov (.t 1)), g_ 29 26 false (.bin .geq (.t 27) (.t 28)), o_ 30 (.pick (.t 26) T_ (.t 29)), o_ 31 (.mov (.t 30)), g_ 32 31 false (.mov (.t 3)), g_ 33 31 false (.len (.t 32)), g_ 34 31 false (.bin .gtr (.t 33) (i_ 256)), o_ 35 (.pick (.t 31) T_ (.t 34))])
  (.cond (.t 35) (.seq (.region [w_ (.store 1 (.t 10) F_)])
    (.ret))
  (.skip)))
  (.seq (.region [o_ 36 (.mov (.t 3)), v_ 37 (.bslice 1 [.t 36]), f_ 38 n_tree_leaf [.t 37], o_ 11 (.alloc [.int .u64 0]), w_ (.store 1 (.t 11) (.t 38))])
  (.seq (.seq (.region [o_ 39 (.mov (.t 1)), o_ 40 (.mov (.t 2)), ⟨some 41, none, .call .rw (.c (.fn n_tree_walk [] [])) [.t 39, .t 40]⟩])
  (.block 0
  (.trim [0, 9, 10, 11, 41] g_tree_Check_0)))
  (.seq (.region [o_ 61 (.load 1 false (.t 9)), o_ 62 (.len (.t 61)), o_ 63 (.bin .eql (.t 62) (i_ 0)), o_ 64 (.mov (.t 63)), g_ 65 64 true (.load 1 false (.t 11)), g_ 66 64 true (.mov (.t 0)), g_ 67 64 true (.bin .eql (.t 65) (.t 66)), o_ 68 (.pick (.t 64) (.t 67) F_), w_ (.store 1 (.t 10) (.t 68))])
  (.ret))))),
  [.cell 10 1 false]⟩
/-- trickle.in[int] -/
def m_trickle_in_int : MFun := ⟨.seq (.region [o_ 6 (.mov F_)])
  (.seq (.region [o_ 7 (.mov (.t 0)), o_ 8 (.mov (.t 1)), o_ 9 (.bin .geq (.t 7) (.t 8)), o_ 10 (.mov (.t 9)), g_ 11 10 true (.mov (.t 0)), g_ 12 10 true (.mov (.t 2)), g_ 13 10 true (.bin .leq (.t 11) (.t 12)), o_ 14 (.pick (.t 10) (.t 13) F_), o_ 6 (.mov (.t 14))])
  (.ret)),
  [.t 6]⟩
/-- random.Below -/
def m_random_Below : MFun := ⟨.seq (.region [o_ 4 (.mov (i_ 0))])
  (.seq (.seq (.region [o_ 5 (.mov (.t 1)), o_ 6 (.bin .lss (.t 5) (i_ 1)), o_ 7 (.mov (.t 6)), g_ 8 7 false (.mov (.t 1)), g_ 9 7 false (.bin .gtr (.t 8) (i_ 1000000000)), o_ 10 (.pick (.t 7) T_ (.t 9))])
  (.cond (.t 10) (.seq (.region [o_ 4 (.mov (i_ 0))])
    (.ret))
  (.skip)))
  (.seq (.region [o_ 11 (.mov (.t 0)), f_ 12 n_random_first [.t 11], o_ 13 (.mov (.t 1)), o_ 14 (.bin .rem (.t 12) (.t 13)), o_ 4 (.mov (.t 14))])
  (.ret))),
  [.t 4]⟩
/-- slices.ContainsFunc[[][]byte,[]byte] -/
def m_slices_ContainsFunc_ssbyte_sbyte : MFun := ⟨.seq (.region [o_ 4 (.mov F_)])
  (.seq (.region [o_ 5 (.mov (.t 0)), o_ 6 (.mov (.t 1)), f_ 7 n_slices_IndexFunc_ssbyte_sbyte [.t 5, .t 6], o_ 8 (.bin .geq (.t 7) (i_ 0)), o_ 4 (.mov (.t 8))])
  (.ret)),
  [.t 4]⟩
/-- tree.arePages$1 -/
def m_tree_arePages_1 : MFun := ⟨.seq (.region [o_ 2 (.mov F_)])
  (.seq (.region [o_ 3 (.mov (.t 0)), o_ 4 (.len (.t 3)), o_ 5 (.bin .gtr (.t 4) (i_ 256)), o_ 2 (.mov (.t 5))])
  (.ret)),
  [.t 2]⟩
/-- tree.levels$1 -/
def b_tree_levels_1_0 : MCode := .seq (.region [o_ 11 (.bin .lss (.t 10) (.t 9))])
  (.seq (.cond (.t 11) (.skip)
  (.trim [0, 3] (.exit 0)))
  (.seq (.block 1
  (.seq (.region [o_ 12 (.iaddr 1 (.t 8) (.t 10)), o_ 13 (.load 1 false (.t 12)), o_ 5 (.mov (.t 13))])
    (.region [o_ 14 (.mov (.t 3)), o_ 15 (.mov (.t 5)), v_ 16 (.bslice 1 [.t 15]), f_ 17 n_tree_leaf [.t 16], o_ 18 (.bslice 1 [.t 17]), v_ 19 (.append 1 (.t 14) (.t 18)), o_ 3 (.mov (.t 19))])))
  (.region [o_ 20 (.bin .add (.t 10) (i_ 1)), o_ 10 (.mov (.t 20))])))
def l_tree_levels_1_0 : MCode := .loop (.trim [0, 3, 8, 9, 10] b_tree_levels_1_0)
def a_tree_levels_1_1 : MCode := .region [o_ 7 (.mov (.t 31))]
def y_tree_levels_1_1 : MCode := .block 5
  (.seq (.region [o_ 32 (.mov (.t 7)), o_ 33 (.len (.t 32)), o_ 34 (.bin .eql (.t 33) (i_ 2))])
    (.cond (.t 34) (.draw [(0, 3), (0, 6), (3, 6), (0, 7)] [o_ 35 (.load 1 false (.t 6)), o_ 36 (.mov (.t 7)), o_ 37 (.iaddr 1 (.t 36) (i_ 0)), o_ 38 (.load 1 false (.t 37)), o_ 39 (.mov (.t 7)), o_ 40 (.iaddr 1 (.t 39) (i_ 1)), o_ 41 (.load 1 false (.t 40)), f_ 42 n_digest_Pair [.t 38, .t 41], o_ 43 (.bslice 1 [.t 42]), v_ 44 (.append 1 (.t 35) (.t 43)), w_ (.store 1 (.t 6) (.t 44))])
    (.draw [(0, 3)] [o_ 45 (.load 1 false (.t 6)), o_ 46 (.mov (.t 7)), o_ 47 (.iaddr 1 (.t 46) (i_ 0)), o_ 48 (.load 1 false (.t 47)), o_ 49 (.bslice 1 [.t 48]), v_ 50 (.append 1 (.t 45) (.t 49)), w_ (.store 1 (.t 6) (.t 50))])))
def g_tree_levels_1_1 : MCode := .range (.t 30) [31] a_tree_levels_1_1 y_tree_levels_1_1
def b_tree_levels_1_2 : MCode := .seq (.seq (.region [o_ 21 (.mov (.t 0)), o_ 22 (.mov (.t 3)), ⟨some 23, none, .call .rw (.t 21) [.t 22]⟩, o_ 24 (.mov (.t 23)), g_ 25 24 true (.mov (.t 3)), g_ 26 24 true (.len (.t 25)), g_ 27 24 true (.bin .gtr (.t 26) (i_ 1)), o_ 28 (.pick (.t 24) (.t 27) F_)])
  (.cond (.t 28) (.skip)
  (.trim [] (.exit 2))))
  (.block 3
  (.seq (.region [o_ 6 (.alloc [.tree [] true true])])
    (.seq (.seq (.region [o_ 29 (.mov (.t 3)), ⟨some 30, none, .call .rw (.c (.fn n_slices_Chunk_suint64_uint64 [] [])) [.t 29, i_ 2]⟩])
    (.block 4
    (.trim [0, 3, 6, 30] g_tree_levels_1_1)))
    (.region [o_ 51 (.load 1 false (.t 6)), o_ 3 (.mov (.t 51))]))))
def l_tree_levels_1_2 : MCode := .loop (.trim [0, 3] b_tree_levels_1_2)
def m_tree_levels_1 : MFun := ⟨.seq (.region [o_ 3 (.mov (.c (.tree [] true true)))])
  (.seq (.seq (.region [o_ 8 (.load 1 false (.t 1)), o_ 9 (.len (.t 8)), o_ 10 (.mov (i_ 0))])
  (.block 0
  (l_tree_levels_1_0)))
  (.block 2
  (l_tree_levels_1_2))),
  []⟩
/-- tree.leaf -/
def b_tree_leaf_0 : MCode := .seq (.region [o_ 11 (.bin .lss (.t 10) (.t 9))])
  (.seq (.cond (.t 11) (.skip)
  (.trim [3] (.exit 0)))
  (.seq (.block 1
  (.seq (.region [o_ 12 (.iaddr 1 (.t 8) (.t 10)), o_ 13 (.load 1 false (.t 12)), o_ 5 (.mov (.t 13))])
    (.region [o_ 14 (.mov (.t 3)), o_ 15 (.mov (.t 5)), f_ 16 n_digest_Add [.t 14, .t 15], o_ 3 (.mov (.t 16))])))
  (.region [o_ 17 (.bin .add (.t 10) (i_ 1)), o_ 10 (.mov (.t 17))])))
def l_tree_leaf_0 : MCode := .loop (.trim [3, 8, 9, 10] b_tree_leaf_0)
def m_tree_leaf : MFun := ⟨.seq (.region [o_ 2 (.mov (.c (.int .u64 0)))])
  (.seq (.region [o_ 6 (.bslice 1 [.c (.int .u8 0)]), f_ 7 n_digest_Sum [.t 6], o_ 3 (.mov (.t 7))])
  (.seq (.seq (.region [o_ 8 (.mov (.t 0)), o_ 9 (.len (.t 8)), o_ 10 (.mov (i_ 0))])
  (.block 0
  (l_tree_leaf_0)))
  (.seq (.region [o_ 18 (.mov (.t 3)), o_ 2 (.mov (.t 18))])
  (.ret)))),
  [.t 2]⟩
/-- slices.Chunk[[]uint64,uint64] -/
def m_slices_Chunk_suint64_uint64 : MFun := ⟨.seq (.region [o_ 2 (.box (.t 0)), o_ 3 (.box (.t 1)), o_ 4 (.mov (.c (.undef)))])
  (.seq (.seq (.region [o_ 5 (.load 1 false (.t 3)), o_ 6 (.bin .lss (.t 5) (i_ 1))])
  (.cond (.t 6) (.trap)
  (.skip)))
  (.seq (.region [o_ 8 (.mkfn n_slices_Chunk_suint64_uint64_1 [] [.t 2, .t 3]), o_ 4 (.mov (.t 8))])
  (.ret))),
  [.t 4]⟩
/-- digest.Pair -/
def m_digest_Pair : MFun := ⟨.seq (.region [o_ 4 (.mov (.c (.int .u64 0)))])
  (.seq (.region [o_ 5 (.mov (.c (.int .u64 3750763034362895578)))])
  (.seq (.region [o_ 7 (.mov (.t 5)), o_ 8 (.mkfn n_digest_number_step [.t 7] []), o_ 6 (.mov (.t 8))])
  (.seq (.region [o_ 9 (.mov (.t 6)), o_ 10 (.mov (.t 0)), ⟨some 11, none, .call .ro (.t 9) [.t 10]⟩, o_ 12 (.mov (.t 1)), f_ 13 n_digest_number_step [.t 11, .t 12], o_ 4 (.mov (.t 13))])
  (.ret)))),
  [.t 4]⟩
/-- image.paged$1 -/
def m_image_paged_1 : MFun := ⟨.seq (.region [o_ 2 (.mov F_)])
  (.seq (.region [o_ 3 (.mov (.t 0)), o_ 4 (.len (.t 3)), o_ 5 (.bin .neq (.t 4) (i_ 256)), o_ 2 (.mov (.t 5))])
  (.ret)),
  [.t 2]⟩
/-- slices.Grow[[]byte,byte] -/
def m_slices_Grow_sbyte_byte : MFun := ⟨.seq (.region [o_ 4 (.mov (.c (.tree [] true true)))])
  (.seq (.seq (.region [o_ 5 (.mov (.t 1)), o_ 6 (.bin .lss (.t 5) (i_ 0))])
  (.cond (.t 6) (.trap)
  (.skip)))
  (.seq (.seq (.region [o_ 8 (.mov (.t 1)), o_ 9 (.mov (.t 0)), o_ 10 (.cap (.t 9)), o_ 11 (.mov (.t 0)), o_ 12 (.len (.t 11)), o_ 13 (.bin .sub (.t 10) (.t 12)), o_ 14 (.bin .sub (.t 8) (.t 13)), o_ 1 (.mov (.t 14))])
  (.seq (.region [o_ 15 (.mov (.t 1)), o_ 16 (.bin .gtr (.t 15) (i_ 0))])
  (.cond (.t 16) (.region [o_ 17 (.mov (.t 0)), o_ 18 (.mov (.t 0)), o_ 19 (.cap (.t 18)), o_ 20 (.slice 1 (.t 17) none (some (.t 19)) none), o_ 21 (.mov (.t 1)), v_ 22 (.appendZ [.int .u8 0] (.t 20) (.t 21)), o_ 23 (.mov (.t 0)), o_ 24 (.len (.t 23)), o_ 25 (.slice 1 (.t 22) none (some (.t 24)) none), o_ 0 (.mov (.t 25))])
  (.skip))))
  (.seq (.region [o_ 26 (.mov (.t 0)), o_ 4 (.mov (.t 26))])
  (.ret)))),
  [.t 4]⟩
/-- bytes.trimLeftByte -/
def b_bytes_trimLeftByte_0 : MCode := .seq (.seq (.region [o_ 5 (.mov (.t 0)), o_ 6 (.len (.t 5)), o_ 7 (.bin .gtr (.t 6) (i_ 0)), o_ 8 (.mov (.t 7)), g_ 9 8 true (.mov (.t 0)), g_ 10 8 true (.iaddr 1 (.t 9) (i_ 0)), g_ 11 8 true (.load 1 false (.t 10)), g_ 12 8 true (.mov (.t 1)), g_ 13 8 true (.bin .eql (.t 11) (.t 12)), o_ 14 (.pick (.t 8) (.t 13) F_)])
  (.cond (.t 14) (.skip)
  (.trim [0] (.exit 0))))
  (.block 1
  (.region [o_ 15 (.mov (.t 0)), o_ 16 (.slice 1 (.t 15) (some (i_ 1)) none none), o_ 0 (.mov (.t 16))]))
def l_bytes_trimLeftByte_0 : MCode := .loop (.trim [0, 1] b_bytes_trimLeftByte_0)
def m_bytes_trimLeftByte : MFun := ⟨.seq (.region [o_ 4 (.mov (.c (.tree [] true true)))])
  (.seq (.block 0
  (l_bytes_trimLeftByte_0))
  (.seq (.seq (.region [o_ 17 (.mov (.t 0)), o_ 18 (.len (.t 17)), o_ 19 (.bin .eql (.t 18) (i_ 0))])
  (.cond (.t 19) (.seq (.region [o_ 4 (.mov (.c (.tree [] true true)))])
    (.ret))
  (.skip)))
  (.seq (.region [o_ 20 (.mov (.t 0)), o_ 4 (.mov (.t 20))])
  (.ret)))),
  [.t 4]⟩
/-- bytes.trimRightByte -/
def b_bytes_trimRightByte_0 : MCode := .seq (.seq (.region [o_ 5 (.mov (.t 0)), o_ 6 (.len (.t 5)), o_ 7 (.bin .gtr (.t 6) (i_ 0)), o_ 8 (.mov (.t 7)), g_ 9 8 true (.mov (.t 0)), g_ 10 8 true (.mov (.t 0)), g_ 11 8 true (.len (.t 10)), g_ 12 8 true (.bin .sub (.t 11) (i_ 1)), g_ 13 8 true (.iaddr 1 (.t 9) (.t 12)), g_ 14 8 true (.load 1 false (.t 13)), g_ 15 8 true (.mov (.t 1)), g_ 16 8 true (.bin .eql (.t 14) (.t 15)), o_ 17 (.pick (.t 8) (.t 16) F_)])
  (.cond (.t 17) (.skip)
  (.trim [0] (.exit 0))))
  (.block 1
  (.region [o_ 18 (.mov (.t 0)), o_ 19 (.mov (.t 0)), o_ 20 (.len (.t 19)), o_ 21 (.bin .sub (.t 20) (i_ 1)), o_ 22 (.slice 1 (.t 18) none (some (.t 21)) none), o_ 0 (.mov (.t 22))]))
def l_bytes_trimRightByte_0 : MCode := .loop (.trim [0, 1] b_bytes_trimRightByte_0)
def m_bytes_trimRightByte : MFun := ⟨.seq (.region [o_ 4 (.mov (.c (.tree [] true true)))])
  (.seq (.block 0
  (l_bytes_trimRightByte_0))
  (.seq (.region [o_ 23 (.mov (.t 0)), o_ 4 (.mov (.t 23))])
  (.ret))),
  [.t 4]⟩
/-- math/bits.Len64 -/
def m_bits_Len64 : MFun := ⟨.seq (.region [o_ 2 (.mov (i_ 0))])
  (.seq (.seq (.region [o_ 3 (.mov (.t 0)), o_ 4 (.bin .geq (.t 3) (.c (.int .u64 4294967296)))])
  (.cond (.t 4) (.seq (.region [o_ 5 (.mov (.t 0)), o_ 6 (.bin .shr (.t 5) (.c (.int .u64 32))), o_ 0 (.mov (.t 6))])
    (.region [o_ 2 (.mov (i_ 32))]))
  (.skip)))
  (.seq (.seq (.region [o_ 7 (.mov (.t 0)), o_ 8 (.bin .geq (.t 7) (.c (.int .u64 65536)))])
  (.cond (.t 8) (.seq (.region [o_ 9 (.mov (.t 0)), o_ 10 (.bin .shr (.t 9) (.c (.int .u64 16))), o_ 0 (.mov (.t 10))])
    (.region [o_ 11 (.mov (.t 2)), o_ 12 (.bin .add (.t 11) (i_ 16)), o_ 2 (.mov (.t 12))]))
  (.skip)))
  (.seq (.seq (.region [o_ 13 (.mov (.t 0)), o_ 14 (.bin .geq (.t 13) (.c (.int .u64 256)))])
  (.cond (.t 14) (.seq (.region [o_ 15 (.mov (.t 0)), o_ 16 (.bin .shr (.t 15) (.c (.int .u64 8))), o_ 0 (.mov (.t 16))])
    (.region [o_ 17 (.mov (.t 2)), o_ 18 (.bin .add (.t 17) (i_ 8)), o_ 2 (.mov (.t 18))]))
  (.skip)))
  (.seq (.region [o_ 19 (.mov (.t 2)), o_ 20 (.mov (.t 0)), o_ 21 (.conv .u8 (.t 20)), o_ 22 (.indexS (.c (.str lenT)) (.t 21)), o_ 23 (.conv .i64 (.t 22)), o_ 24 (.bin .add (.t 19) (.t 23)), o_ 2 (.mov (.t 24))])
  (.ret))))),
  [.t 2]⟩
/-- random.halves -/
def m_random_halves : MFun := ⟨.seq (.region [o_ 1 (.box (.t 0)), o_ 2 (.mov (.c (.undef)))])
  (.seq (.region [o_ 3 (.mkfn n_random_halves_1 [] [.t 1]), o_ 2 (.mov (.t 3))])
  (.ret)),
  [.t 2]⟩
/-- digest.words$1 -/
def b_digest_words_1_0 : MCode := .seq (.region [o_ 16 (.bin .lss (.t 15) (.t 14))])
  (.seq (.cond (.t 16) (.skip)
  (.trim [0, 7, 8, 9] (.exit 2)))
  (.seq (.block 3
  (.seq (.region [o_ 17 (.iaddr 1 (.t 13) (.t 15)), o_ 18 (.load 1 false (.t 17)), o_ 6 (.mov (.t 18))])
    (.seq (.region [o_ 19 (.mov (.t 0)), o_ 20 (.mov (.t 6)), o_ 21 (.conv .u64 (.t 20)), ⟨some 22, none, .call .rw (.t 19) [.t 21]⟩, o_ 23 (.not (.t 22))])
    (.cond (.t 23) (.ret)
    (.skip)))))
  (.region [o_ 24 (.bin .add (.t 15) (i_ 1)), o_ 15 (.mov (.t 24))])))
def l_digest_words_1_0 : MCode := .loop (.trim [0, 7, 8, 9, 13, 14, 15] b_digest_words_1_0)
def b_digest_words_1_1 : MCode := .seq (.region [o_ 10 (.bin .lss (.t 9) (.t 8))])
  (.seq (.cond (.t 10) (.skip)
  (.trim [] (.exit 0)))
  (.seq (.block 1
  (.seq (.region [o_ 11 (.iaddr 1 (.t 7) (.t 9)), o_ 12 (.load 1 false (.t 11)), o_ 4 (.mov (.t 12))])
    (.seq (.region [o_ 13 (.mov (.t 4)), o_ 14 (.len (.t 13)), o_ 15 (.mov (i_ 0))])
    (.block 2
    (l_digest_words_1_0)))))
  (.region [o_ 25 (.bin .add (.t 9) (i_ 1)), o_ 9 (.mov (.t 25))])))
def l_digest_words_1_1 : MCode := .loop (.trim [0, 7, 8, 9] b_digest_words_1_1)
def m_digest_words_1 : MFun := ⟨.seq (.region [o_ 7 (.load 1 false (.t 1)), o_ 8 (.len (.t 7)), o_ 9 (.mov (i_ 0))])
  (.block 0
  (l_digest_words_1_1)),
  []⟩
/-- tree.walk -/
def m_tree_walk : MFun := ⟨.seq (.region [o_ 2 (.box (.t 0)), o_ 3 (.box (.t 1)), o_ 4 (.mov (.c (.undef)))])
  (.seq (.region [o_ 5 (.mkfn n_tree_walk_1 [] [.t 2, .t 3]), o_ 4 (.mov (.t 5))])
  (.ret)),
  [.t 4]⟩
/-- slices.IndexFunc[[][]byte,[]byte] -/
def b_slices_IndexFunc_ssbyte_sbyte_0 : MCode := .seq (.region [o_ 9 (.bin .lss (.t 8) (.t 7))])
  (.seq (.cond (.t 9) (.skip)
  (.trim [] (.exit 0)))
  (.seq (.block 1
  (.seq (.region [o_ 10 (.mov (.t 8)), o_ 5 (.mov (.t 10))])
    (.seq (.region [o_ 11 (.mov (.t 1)), o_ 12 (.mov (.t 0)), o_ 13 (.mov (.t 5)), o_ 14 (.iaddr 1 (.t 12) (.t 13)), o_ 15 (.load 1 false (.t 14)), ⟨some 16, none, .call .ro (.t 11) [.t 15]⟩])
    (.cond (.t 16) (.seq (.region [o_ 17 (.mov (.t 5)), o_ 4 (.mov (.t 17))])
      (.ret))
    (.skip)))))
  (.region [o_ 18 (.bin .add (.t 8) (i_ 1)), o_ 8 (.mov (.t 18))])))
def l_slices_IndexFunc_ssbyte_sbyte_0 : MCode := .loop (.trim [0, 1, 7, 8] b_slices_IndexFunc_ssbyte_sbyte_0)
def m_slices_IndexFunc_ssbyte_sbyte : MFun := ⟨.seq (.region [o_ 4 (.mov (i_ 0))])
  (.seq (.seq (.region [o_ 6 (.mov (.t 0)), o_ 7 (.len (.t 6)), o_ 8 (.mov (i_ 0))])
  (.block 0
  (l_slices_IndexFunc_ssbyte_sbyte_0)))
  (.seq (.region [o_ 4 (.mov (i_ (-1)))])
  (.ret))),
  [.t 4]⟩
/-- slices.Chunk[[]uint64,uint64]$1 -/
def b_slices_Chunk_suint64_uint64_1_0 : MCode := .seq (.seq (.region [o_ 6 (.mov (.t 4)), o_ 7 (.load 1 false (.t 1)), o_ 8 (.len (.t 7)), o_ 9 (.bin .lss (.t 6) (.t 8))])
  (.cond (.t 9) (.skip)
  (.trim [] (.exit 0))))
  (.seq (.block 1
  (.seq (.draw [(0, 1)] [o_ 13 (.load 1 false (.t 2)), o_ 14 (.load 1 false (.t 1)), o_ 15 (.mov (.t 4)), o_ 16 (.slice 1 (.t 14) (some (.t 15)) none none), o_ 17 (.len (.t 16)), o_ 18 (.mn (.t 13) (.t 17)), o_ 5 (.mov (.t 18))])
    (.seq (.region [o_ 19 (.mov (.t 0)), o_ 20 (.load 1 false (.t 1)), o_ 21 (.mov (.t 4)), o_ 22 (.mov (.t 4)), o_ 23 (.mov (.t 5)), o_ 24 (.bin .add (.t 22) (.t 23)), o_ 25 (.mov (.t 4)), o_ 26 (.mov (.t 5)), o_ 27 (.bin .add (.t 25) (.t 26)), o_ 28 (.slice 1 (.t 20) (some (.t 21)) (some (.t 24)) (some (.t 27))), ⟨some 29, none, .call .rw (.t 19) [.t 28]⟩, o_ 30 (.not (.t 29))])
    (.cond (.t 30) (.ret)
    (.skip)))))
  (.region [o_ 10 (.mov (.t 4)), o_ 11 (.load 1 false (.t 2)), o_ 12 (.bin .add (.t 10) (.t 11)), o_ 4 (.mov (.t 12))]))
def l_slices_Chunk_suint64_uint64_1_0 : MCode := .loop (.trim [0, 1, 2, 4] b_slices_Chunk_suint64_uint64_1_0)
def m_slices_Chunk_suint64_uint64_1 : MFun := ⟨.seq (.region [o_ 4 (.mov (i_ 0))])
  (.block 0
  (l_slices_Chunk_suint64_uint64_1_0)),
  []⟩
/-- random.halves$1 -/
def b_random_halves_1_0 : MCode := .seq (.seq (.region [o_ 5 (.mov (.t 0)), o_ 6 (.load 1 false (.t 1)), o_ 7 (.bin .shr (.t 6) (.c (.int .u64 32))), o_ 8 (.conv .i64 (.t 7)), ⟨some 9, none, .call .rw (.t 5) [.t 8]⟩])
  (.cond (.t 9) (.skip)
  (.trim [] (.exit 0))))
  (.seq (.block 1
  (.skip))
  (.region [o_ 10 (.load 1 false (.t 1)), f_ 11 n_random_Next [.t 10], w_ (.store 1 (.t 1) (.t 11))]))
def l_random_halves_1_0 : MCode := .loop (.trim [0, 1] b_random_halves_1_0)
def m_random_halves_1 : MFun := ⟨.seq (.region [o_ 3 (.load 1 false (.t 1)), f_ 4 n_random_Next [.t 3], w_ (.store 1 (.t 1) (.t 4))])
  (.block 0
  (l_random_halves_1_0)),
  []⟩
/-- random.Next -/
def b_random_Next_0 : MCode := .seq (.region [o_ 10 (.bin .lss (.t 9) (i_ 3))])
  (.seq (.cond (.t 10) (.skip)
  (.trim [3] (.exit 0)))
  (.seq (.block 1
  (.seq (.region [o_ 11 (.index 3 2 true (.t 8) (.t 9)), o_ 5 (.alloc Zi1w1), w_ (.store 2 (.t 5) (.t 11))])
    (.draw [(3, 7)] [o_ 12 (.mov (.t 3)), o_ 13 (.mov (.t 3)), o_ 14 (.faddr 0 (.t 5)), o_ 15 (.load 1 false (.t 14)), o_ 16 (.bin .shr (.t 13) (.t 15)), o_ 17 (.bin .xor (.t 12) (.t 16)), o_ 18 (.faddr 1 (.t 5)), o_ 19 (.load 1 false (.t 18)), o_ 20 (.bin .mul (.t 17) (.t 19)), o_ 3 (.mov (.t 20))])))
  (.region [o_ 21 (.bin .add (.t 9) (i_ 1)), o_ 9 (.mov (.t 21))])))
def l_random_Next_0 : MCode := .loop (.trim [3, 8, 9] b_random_Next_0)
def m_random_Next : MFun := ⟨.seq (.region [o_ 2 (.mov (.c (.int .u64 0)))])
  (.seq (.region [o_ 6 (.mov (.t 0)), o_ 7 (.bin .add (.t 6) (.c (.int .u64 11400714819323198485))), o_ 3 (.mov (.t 7))])
  (.seq (.seq (.region [o_ 8 (.load 6 true (.g 3)), o_ 9 (.mov (i_ 0))])
  (.block 0
  (l_random_Next_0)))
  (.seq (.region [o_ 22 (.mov (.t 3)), o_ 2 (.mov (.t 22))])
  (.ret)))),
  [.t 2]⟩
/-- tree.walk$1 -/
def b_tree_walk_1_0 : MCode := .seq (.seq (.region [o_ 4 (.load 1 false (.t 1)), o_ 5 (.bin .gtr (.t 4) (i_ 1))])
  (.cond (.t 5) (.skip)
  (.trim [] (.exit 0))))
  (.seq (.block 1
  (.seq (.region [o_ 11 (.mov (.t 0)), o_ 12 (.load 1 false (.t 2)), o_ 13 (.bin .xor (.t 12) (i_ 1)), o_ 14 (.load 1 false (.t 1)), o_ 15 (.bin .lss (.t 13) (.t 14)), o_ 16 (.load 1 false (.t 2)), o_ 17 (.bin .rem (.t 16) (i_ 2)), o_ 18 (.bin .eql (.t 17) (i_ 1)), ⟨some 19, none, .call .rw (.t 11) [.t 15, .t 18]⟩, o_ 20 (.not (.t 19))])
    (.cond (.t 20) (.ret)
    (.skip))))
  (.draw [(0, 3), (3, 5)] [o_ 6 (.load 1 false (.t 1)), o_ 7 (.bin .add (.t 6) (i_ 1)), o_ 8 (.bin .quo (.t 7) (i_ 2)), o_ 9 (.load 1 false (.t 2)), o_ 10 (.bin .quo (.t 9) (i_ 2)), w_ (.store 1 (.t 1) (.t 8)), w_ (.store 1 (.t 2) (.t 10))]))
def l_tree_walk_1_0 : MCode := .loop (.trim [0, 1, 2] b_tree_walk_1_0)
def m_tree_walk_1 : MFun := ⟨.block 0
  (l_tree_walk_1_0),
  []⟩
def fns : Nat → Option MFun
  | 8 => some m_law39_SpreadEnough
  | 18 => some m_law39_head
  | 20 => some m_spread_Receive
  | 22 => some m_spread_Serve
  | 26 => some m_spread_Hear
  | 30 => some m_image_Announce
  | 32 => some m_image_Split
  | 33 => some m_law39_feed
  | 34 => some m_law39_plain
  | 35 => some m_image_Whole
  | 36 => some m_ref36_Bytes
  | 37 => some m_solve_Add
  | 38 => some m_fountain_Set
  | 39 => some m_fountain_Encode
  | 55 => some m_law39_Program
  | 57 => some m_spread_copied
  | 58 => some m_pspread_state_refused
  | 59 => some m_fountain_Receive
  | 60 => some m_pspread_state_anew
  | 61 => some m_slices_Clone_suint64_uint64
  | 62 => some m_fountain_Page
  | 63 => some m_image_Put
  | 71 => some m_pspread_state_valid
  | 72 => some m_pspread_state_empty
  | 73 => some m_trickle_Tick
  | 74 => some m_pspread_state_lacking
  | 80 => some m_spread_announced
  | 81 => some m_spread_count
  | 82 => some m_trickle_New
  | 83 => some m_trickle_Reset
  | 84 => some m_trickle_Hear
  | 93 => some m_image_announced
  | 94 => some m_tree_Root
  | 95 => some m_image_sized
  | 96 => some m_slices_Chunk_sbyte_byte
  | 97 => some m_tree_Proof
  | 98 => some m_image_load_sound
  | 99 => some m_image_Join
  | 100 => some m_solve_formed
  | 101 => some m_solve_Valid
  | 102 => some m_solve_reduce
  | 103 => some m_solve_equations
  | 104 => some m_solve_equation_row
  | 105 => some m_solve_equation_leading
  | 106 => some m_solve_block_plus
  | 107 => some m_fountain_isSeed
  | 108 => some m_random_Mask
  | 109 => some m_fountain_isPage
  | 110 => some m_fountain_Encode_1
  | 111 => some m_fountain_blocks
  | 112 => some m_bits_TrailingZeros
  | 113 => some m_slices_Clone_sbyte_byte
  | 117 => some m_bytes_Clone
  | 134 => some m_digest_Add
  | 135 => some m_digest_Sum
  | 136 => some m_pspread_state_whole
  | 137 => some m_slices_Equal_suint64_uint64
  | 138 => some m_solve_Solved
  | 139 => some m_slices_Contains_sbool_bool
  | 140 => some m_image_count
  | 141 => some m_image_load_proved
  | 142 => some m_slices_Clone_ssbyte_sbyte
  | 143 => some m_slices_Clone_ssuint64_suint64
  | 147 => some m_pspread_state_sound
  | 148 => some m_pspread_state_timed
  | 149 => some m_trickle_isValid
  | 150 => some m_trickle_isFrame
  | 151 => some m_ptrickle_timer_begin
  | 152 => some m_pspread_state_lacking_1
  | 155 => some m_trickle_isSeed
  | 160 => some m_tree_arePages
  | 161 => some m_tree_levels
  | 162 => some m_slices_Chunk_sbyte_byte_1
  | 163 => some m_image_paged
  | 164 => some m_slices_Concat_sbyte_byte
  | 165 => some m_bytes_Trim
  | 166 => some m_solve_equations_1
  | 167 => some m_bits_Len
  | 168 => some m_random_first
  | 169 => some m_fountain_blocks_1
  | 171 => some m_bits_TrailingZeros64
  | 177 => some m_digest_words
  | 178 => some m_digest_number_step
  | 179 => some m_slices_Index_sbool_bool
  | 180 => some m_tree_Check
  | 189 => some m_trickle_in_int
  | 190 => some m_random_Below
  | 192 => some m_slices_ContainsFunc_ssbyte_sbyte
  | 193 => some m_tree_arePages_1
  | 194 => some m_tree_levels_1
  | 195 => some m_tree_leaf
  | 196 => some m_slices_Chunk_suint64_uint64
  | 197 => some m_digest_Pair
  | 198 => some m_image_paged_1
  | 199 => some m_slices_Grow_sbyte_byte
  | 200 => some m_bytes_trimLeftByte
  | 201 => some m_bytes_trimRightByte
  | 208 => some m_bits_Len64
  | 209 => some m_random_halves
  | 212 => some m_digest_words_1
  | 213 => some m_tree_walk
  | 218 => some m_slices_IndexFunc_ssbyte_sbyte
  | 219 => some m_slices_Chunk_suint64_uint64_1
  | 224 => some m_random_halves_1
  | 225 => some m_random_Next
  | 228 => some m_tree_walk_1
  | _ => none

def globs : Nat → List SV
  | 1 => ([0, 1, 56, 2, 57, 49, 28, 3, 61, 58, 42, 50, 38, 29, 17, 4, 62, 47, 59, 36, 45, 43, 51, 22, 53, 39, 33, 30, 24, 18, 12, 5, 63, 55, 48, 27, 60, 41, 37, 16, 46, 35, 44, 21, 52, 32, 23, 11, 54, 26, 40, 15, 34, 20, 31, 10, 25, 14, 19, 9, 13, 8, 7, 6].map fun n : Nat => SV.int .u8 (n : Int))
  | 3 => [.int .i64 30, .int .u64 13787848793156543929, .int .i64 27, .int .u64 10723151780598845931, .int .i64 31, .int .u64 1]
  | _ => []
def XX : Cx := ⟨fns, globs⟩

def eqTs : List (Nat × Nat) := [(39, 4), (45, 5), (168, 17), (208, 1000016)]
end Go.Proofs.YtfmbdcmjgnikiaaGreatDoor.Sm
