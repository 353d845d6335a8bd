/- The small codes of functions of the program. Conditions: none. Printed by gen.py. -/
import Derived.Test.YtfmbdcmjgnikiaaDoorM1
set_option linter.unusedSimpArgs false
set_option linter.unusedVariables false
namespace Go.Proofs.YtfmbdcmjgnikiaaDoor.Sm
open Go

abbrev n_law36_ImageMatchesReference : Nat := 3
abbrev n_law36_ImageInverse : Nat := 4
abbrev n_law36_ImageKeeps : Nat := 5
abbrev n_law36_ImageNotices : Nat := 6
abbrev n_law36_ImageSizes : Nat := 7
abbrev n_law36_ImageLoads : Nat := 8
abbrev n_law36_ImageOnlyRight : Nat := 9
abbrev n_law36_head : Nat := 10
abbrev n_law36_short : Nat := 11
abbrev n_ref36_Few : Nat := 12
abbrev n_image_Split : Nat := 13
abbrev n_ref36_Split : Nat := 14
abbrev n_image_Join : Nat := 15
abbrev n_ref36_Join : Nat := 16
abbrev n_image_Announce : Nat := 17
abbrev n_ref36_Announce : Nat := 18
abbrev n_ref36_Lists : Nat := 19
abbrev n_ref36_Bytes : Nat := 20
abbrev n_image_Put : Nat := 21
abbrev n_ref36_Put : Nat := 22
abbrev n_image_Whole : Nat := 23
abbrev n_ref36_Whole : Nat := 24
abbrev n_ref36_Same : Nat := 25
abbrev n_ref36_Sound : Nat := 26
abbrev n_ref36_Count : Nat := 27
abbrev n_ref35_Same : Nat := 28
abbrev n_tree_Proof : Nat := 29
abbrev n_law36_loaded : Nat := 30
abbrev n_law36_sample : Nat := 31
abbrev n_ref35_Leaf : Nat := 32
abbrev n_image_sized : Nat := 33
abbrev n_slices_Chunk_sbyte_byte : Nat := 34
abbrev n_ref36_Size : Nat := 35
abbrev n_image_count : Nat := 36
abbrev n_image_paged : Nat := 37
abbrev n_slices_Concat_sbyte_byte : Nat := 38
abbrev n_bytes_Trim : Nat := 39
abbrev n_ref36_Pages : Nat := 40
abbrev n_image_announced : Nat := 41
abbrev n_tree_Root : Nat := 42
abbrev n_ref36_Notice : Nat := 43
abbrev n_ref35_Root : Nat := 44
abbrev n_image_load_sound : Nat := 45
abbrev n_image_load_proved : Nat := 46
abbrev n_slices_Clone_ssbyte_sbyte : Nat := 47
abbrev n_bytes_Clone : Nat := 48
abbrev n_slices_Clone_ssuint64_suint64 : Nat := 49
abbrev n_slices_Clone_suint64_uint64 : Nat := 50
abbrev n_ref35_Check : Nat := 51
abbrev n_ref36_proofs : Nat := 52
abbrev n_tree_arePages : Nat := 53
abbrev n_tree_levels : Nat := 54
abbrev n_ref05_Add : Nat := 55
abbrev n_ref05_Sum : Nat := 56
abbrev n_slices_Chunk_sbyte_byte_1 : Nat := 57
abbrev n_slices_ContainsFunc_ssbyte_sbyte : Nat := 58
abbrev n_image_paged_1 : Nat := 59
abbrev n_slices_Grow_sbyte_byte : Nat := 60
abbrev n_bytes_trimLeftByte : Nat := 61
abbrev n_bytes_trimRightByte : Nat := 62
abbrev n_ref35_Pages : Nat := 68
abbrev n_ref35_leaves : Nat := 69
abbrev n_ref35_Next : Nat := 70
abbrev n_tree_Check : Nat := 71
abbrev n_ref35_Length : Nat := 72
abbrev n_ref35_other : Nat := 73
abbrev n_ref05_Pair : Nat := 74
abbrev n_tree_arePages_1 : Nat := 75
abbrev n_tree_levels_1 : Nat := 76
abbrev n_tree_leaf : Nat := 77
abbrev n_slices_Chunk_suint64_uint64 : Nat := 78
abbrev n_digest_Pair : Nat := 79
abbrev n_slices_IndexFunc_ssbyte_sbyte : Nat := 80
abbrev n_tree_walk : Nat := 85
abbrev n_digest_Sum : Nat := 86
abbrev n_digest_Add : Nat := 87
abbrev n_slices_Chunk_suint64_uint64_1 : Nat := 88
abbrev n_digest_number_step : Nat := 89
abbrev n_tree_walk_1 : Nat := 92
abbrev n_digest_words : Nat := 93
abbrev n_digest_words_1 : Nat := 94

/-- slotmeshlaw36.ImageMatchesReference -/
def m_law36_ImageMatchesReference : MFun := ⟨.seq (.region [⟨some 13, none, .r (.box (.t 5))⟩, ⟨some 16, none, .r (.mov (.c (.bool false)))⟩])
  (.seq (.region [⟨some 38, none, .call .ro (.c (.fn n_law36_head [] [])) []⟩, ⟨some 17, none, .r (.mov (.t 38))⟩])
  (.seq (.seq (.region [⟨some 39, none, .r (.mov (.t 0))⟩, ⟨some 40, none, .r (.mov (.t 1))⟩, ⟨some 41, none, .call .ro (.c (.fn n_law36_short [] [])) [.t 39, .t 40]⟩, ⟨some 42, none, .r (.not (.t 41))⟩, ⟨some 43, none, .r (.mov (.t 42))⟩, ⟨some 44, (some (43, false)), .r (.load 13 true (.t 13))⟩, ⟨some 45, (some (43, false)), .call .ro (.c (.fn n_ref36_Few [] [])) [.t 44]⟩, ⟨some 46, (some (43, false)), .r (.not (.t 45))⟩, ⟨some 47, none, .r (.pick (.t 43) (.c (.bool true)) (.t 46))⟩, ⟨some 48, none, .r (.mov (.t 47))⟩, ⟨some 49, (some (48, false)), .r (.mov (.t 6))⟩, ⟨some 50, (some (48, false)), .r (.len (.t 49))⟩, ⟨some 51, (some (48, false)), .r (.bin .gtr (.t 50) (.c (.int .i64 1000)))⟩, ⟨some 52, none, .r (.pick (.t 48) (.c (.bool true)) (.t 51))⟩, ⟨some 53, none, .r (.mov (.t 52))⟩, ⟨some 54, (some (53, false)), .r (.mov (.t 7))⟩, ⟨some 55, (some (53, false)), .r (.len (.t 54))⟩, ⟨some 56, (some (53, false)), .r (.bin .gtr (.t 55) (.c (.int .i64 40)))⟩, ⟨some 57, none, .r (.pick (.t 53) (.c (.bool true)) (.t 56))⟩])
  (.cond (.t 57) (.seq (.region [⟨some 58, none, .r (.mov (.t 17))⟩, ⟨some 16, none, .r (.mov (.t 58))⟩])
    (.ret))
  (.skip)))
  (.seq (.region [⟨some 60, none, .r (.mov (.t 0))⟩, ⟨some 61, none, .call .ro (.c (.fn n_image_Split [] [])) [.t 60]⟩, ⟨some 59, none, .r (.mov (.t 61))⟩, ⟨some 62, none, .r (.extract 0 (.t 59))⟩, ⟨some 63, none, .r (.extract 1 (.t 59))⟩, ⟨some 18, none, .r (.mov (.t 62))⟩, ⟨some 19, none, .r (.mov (.t 63))⟩])
  (.seq (.region [⟨some 65, none, .r (.mov (.t 0))⟩, ⟨some 66, none, .call .ro (.c (.fn n_ref36_Split [] [])) [.t 65]⟩, ⟨some 64, none, .r (.mov (.t 66))⟩, ⟨some 67, none, .r (.extract 0 (.t 64))⟩, ⟨some 68, none, .r (.extract 1 (.t 64))⟩, ⟨some 20, none, .r (.mov (.t 67))⟩, ⟨some 21, none, .r (.mov (.t 68))⟩])
  (.seq (.region [⟨some 70, none, .r (.mov (.t 1))⟩, ⟨some 71, none, .r (.mov (.t 2))⟩, ⟨some 72, none, .call .ro (.c (.fn n_image_Join [] [])) [.t 70, .t 71]⟩, ⟨some 69, none, .r (.mov (.t 72))⟩, ⟨some 73, none, .r (.extract 0 (.t 69))⟩, ⟨some 74, none, .r (.extract 1 (.t 69))⟩, ⟨some 22, none, .r (.mov (.t 73))⟩, ⟨some 23, none, .r (.mov (.t 74))⟩])
  (.seq (.region [⟨some 76, none, .r (.mov (.t 1))⟩, ⟨some 77, none, .r (.mov (.t 2))⟩, ⟨some 78, none, .call .ro (.c (.fn n_ref36_Join [] [])) [.t 76, .t 77]⟩, ⟨some 75, none, .r (.mov (.t 78))⟩, ⟨some 79, none, .r (.extract 0 (.t 75))⟩, ⟨some 80, none, .r (.extract 1 (.t 75))⟩, ⟨some 24, none, .r (.mov (.t 79))⟩, ⟨some 25, none, .r (.mov (.t 80))⟩])
  (.seq (.region [⟨some 82, none, .r (.mov (.t 3))⟩, ⟨some 83, none, .r (.mov (.t 0))⟩, ⟨some 84, none, .r (.mov (.t 4))⟩, ⟨some 85, none, .call .ro (.c (.fn n_image_Announce [] [])) [.t 82, .t 83, .t 84]⟩, ⟨some 81, none, .r (.mov (.t 85))⟩, ⟨some 86, none, .r (.extract 0 (.t 81))⟩, ⟨some 87, none, .r (.extract 1 (.t 81))⟩, ⟨some 26, none, .r (.alloc [.int .i64 0, .int .i64 0, .int .u64 0, .int .i64 0])⟩, ⟨none, none, .w (.store 4 (.t 26) (.t 86))⟩, ⟨some 27, none, .r (.mov (.t 87))⟩])
  (.seq (.region [⟨some 89, none, .r (.mov (.t 3))⟩, ⟨some 90, none, .r (.mov (.t 0))⟩, ⟨some 91, none, .r (.mov (.t 4))⟩, ⟨some 92, none, .call .ro (.c (.fn n_ref36_Announce [] [])) [.t 89, .t 90, .t 91]⟩, ⟨some 88, none, .r (.mov (.t 92))⟩, ⟨some 93, none, .r (.extract 0 (.t 88))⟩, ⟨some 94, none, .r (.extract 1 (.t 88))⟩, ⟨some 28, none, .r (.alloc [.int .i64 0, .int .i64 0, .int .u64 0, .int .i64 0])⟩, ⟨none, none, .w (.store 4 (.t 28) (.t 93))⟩, ⟨some 29, none, .r (.mov (.t 94))⟩])
  (.seq (.seq (.region [⟨some 95, none, .r (.mov (.t 18))⟩, ⟨some 96, none, .r (.mov (.t 20))⟩, ⟨some 97, none, .call .ro (.c (.fn n_ref36_Lists [] [])) [.t 95, .t 96]⟩, ⟨some 98, none, .r (.not (.t 97))⟩, ⟨some 99, none, .r (.mov (.t 98))⟩, ⟨some 100, (some (99, false)), .r (.mov (.t 19))⟩, ⟨some 101, (some (99, false)), .r (.mov (.t 21))⟩, ⟨some 102, (some (99, false)), .r (.bin .neq (.t 100) (.t 101))⟩, ⟨some 103, none, .r (.pick (.t 99) (.c (.bool true)) (.t 102))⟩, ⟨some 104, none, .r (.mov (.t 103))⟩, ⟨some 105, (some (104, false)), .r (.mov (.t 22))⟩, ⟨some 106, (some (104, false)), .r (.mov (.t 24))⟩, ⟨some 107, (some (104, false)), .call .ro (.c (.fn n_ref36_Bytes [] [])) [.t 105, .t 106]⟩, ⟨some 108, (some (104, false)), .r (.not (.t 107))⟩, ⟨some 109, none, .r (.pick (.t 104) (.c (.bool true)) (.t 108))⟩, ⟨some 110, none, .r (.mov (.t 109))⟩, ⟨some 111, (some (110, false)), .r (.mov (.t 23))⟩, ⟨some 112, (some (110, false)), .r (.mov (.t 25))⟩, ⟨some 113, (some (110, false)), .r (.bin .neq (.t 111) (.t 112))⟩, ⟨some 114, none, .r (.pick (.t 110) (.c (.bool true)) (.t 113))⟩, ⟨some 115, none, .r (.mov (.t 114))⟩, ⟨some 116, (some (115, false)), .r (.load 4 true (.t 26))⟩, ⟨some 117, (some (115, false)), .r (.load 4 true (.t 28))⟩, ⟨some 118, (some (115, false)), .r (.eqa true 4 (.t 116) (.t 117))⟩, ⟨some 119, none, .r (.pick (.t 115) (.c (.bool true)) (.t 118))⟩, ⟨some 120, none, .r (.mov (.t 119))⟩, ⟨some 121, (some (120, false)), .r (.mov (.t 27))⟩, ⟨some 122, (some (120, false)), .r (.mov (.t 29))⟩, ⟨some 123, (some (120, false)), .r (.bin .neq (.t 121) (.t 122))⟩, ⟨some 124, none, .r (.pick (.t 120) (.c (.bool true)) (.t 123))⟩])
  (.cond (.t 124) (.seq (.region [⟨some 16, none, .r (.mov (.c (.bool false)))⟩])
    (.ret))
  (.skip)))
  (.seq (.region [⟨some 126, none, .r (.load 13 true (.t 13))⟩, ⟨some 127, none, .r (.mov (.t 6))⟩, ⟨some 128, none, .r (.mov (.t 7))⟩, ⟨some 129, none, .call .ro (.c (.fn n_image_Put [] [])) [.t 126, .t 127, .t 128]⟩, ⟨some 125, none, .r (.mov (.t 129))⟩, ⟨some 130, none, .r (.extract 0 (.t 125))⟩, ⟨some 131, none, .r (.extract 1 (.t 125))⟩, ⟨some 30, none, .r (.alloc [.int .i64 0, .int .i64 0, .int .u64 0, .int .i64 0, .tree [] true true, .tree [] true true, .tree [] true true, .tree [] true true, .int .i64 0, .int .i64 0, .int .i64 0, .int .i64 0, .int .i64 0])⟩, ⟨none, none, .w (.store 13 (.t 30) (.t 130))⟩, ⟨some 31, none, .r (.mov (.t 131))⟩])
  (.seq (.region [⟨some 133, none, .r (.load 13 true (.t 13))⟩, ⟨some 134, none, .r (.mov (.t 6))⟩, ⟨some 135, none, .r (.mov (.t 7))⟩, ⟨some 136, none, .call .ro (.c (.fn n_ref36_Put [] [])) [.t 133, .t 134, .t 135]⟩, ⟨some 132, none, .r (.mov (.t 136))⟩, ⟨some 137, none, .r (.extract 0 (.t 132))⟩, ⟨some 138, none, .r (.extract 1 (.t 132))⟩, ⟨some 32, none, .r (.alloc [.int .i64 0, .int .i64 0, .int .u64 0, .int .i64 0, .tree [] true true, .tree [] true true, .tree [] true true, .tree [] true true, .int .i64 0, .int .i64 0, .int .i64 0, .int .i64 0, .int .i64 0])⟩, ⟨none, none, .w (.store 13 (.t 32) (.t 137))⟩, ⟨some 33, none, .r (.mov (.t 138))⟩])
  (.seq (.region [⟨some 140, none, .r (.load 13 true (.t 13))⟩, ⟨some 141, none, .call .ro (.c (.fn n_image_Whole [] [])) [.t 140]⟩, ⟨some 139, none, .r (.mov (.t 141))⟩, ⟨some 142, none, .r (.extract 0 (.t 139))⟩, ⟨some 143, none, .r (.extract 1 (.t 139))⟩, ⟨some 34, none, .r (.mov (.t 142))⟩, ⟨some 35, none, .r (.mov (.t 143))⟩])
  (.seq (.region [⟨some 145, none, .r (.load 13 true (.t 13))⟩, ⟨some 146, none, .call .ro (.c (.fn n_ref36_Whole [] [])) [.t 145]⟩, ⟨some 144, none, .r (.mov (.t 146))⟩, ⟨some 147, none, .r (.extract 0 (.t 144))⟩, ⟨some 148, none, .r (.extract 1 (.t 144))⟩, ⟨some 36, none, .r (.mov (.t 147))⟩, ⟨some 37, none, .r (.mov (.t 148))⟩])
  (.seq (.region [⟨some 149, none, .r (.mov (.t 17))⟩, ⟨some 150, none, .r (.mov (.t 149))⟩, ⟨some 151, (some (150, true)), .r (.load 13 true (.t 30))⟩, ⟨some 152, (some (150, true)), .r (.load 13 true (.t 32))⟩, ⟨some 153, (some (150, true)), .call .ro (.c (.fn n_ref36_Same [] [])) [.t 151, .t 152]⟩, ⟨some 154, none, .r (.pick (.t 150) (.t 153) (.c (.bool false)))⟩, ⟨some 155, none, .r (.mov (.t 154))⟩, ⟨some 156, (some (155, true)), .r (.mov (.t 31))⟩, ⟨some 157, (some (155, true)), .r (.mov (.t 33))⟩, ⟨some 158, (some (155, true)), .r (.bin .eql (.t 156) (.t 157))⟩, ⟨some 159, none, .r (.pick (.t 155) (.t 158) (.c (.bool false)))⟩, ⟨some 160, none, .r (.mov (.t 159))⟩, ⟨some 161, (some (160, true)), .r (.mov (.t 34))⟩, ⟨some 162, (some (160, true)), .r (.mov (.t 36))⟩, ⟨some 163, (some (160, true)), .call .ro (.c (.fn n_ref36_Bytes [] [])) [.t 161, .t 162]⟩, ⟨some 164, none, .r (.pick (.t 160) (.t 163) (.c (.bool false)))⟩, ⟨some 165, none, .r (.mov (.t 164))⟩, ⟨some 166, (some (165, true)), .r (.mov (.t 35))⟩, ⟨some 167, (some (165, true)), .r (.mov (.t 37))⟩, ⟨some 168, (some (165, true)), .r (.eqb false (.t 166) (.t 167))⟩, ⟨some 169, none, .r (.pick (.t 165) (.t 168) (.c (.bool false)))⟩, ⟨some 16, none, .r (.mov (.t 169))⟩])
  (.ret))))))))))))))),
  [.t 16]⟩
/-- slotmeshlaw36.ImageInverse -/
def m_law36_ImageInverse : MFun := ⟨.seq (.region [⟨some 6, none, .r (.mov (.c (.bool false)))⟩])
  (.seq (.region [⟨some 16, none, .call .ro (.c (.fn n_law36_head [] [])) []⟩, ⟨some 7, none, .r (.mov (.t 16))⟩])
  (.seq (.seq (.region [⟨some 17, none, .r (.mov (.t 0))⟩, ⟨some 18, none, .r (.mov (.t 1))⟩, ⟨some 19, none, .call .ro (.c (.fn n_law36_short [] [])) [.t 17, .t 18]⟩, ⟨some 20, none, .r (.not (.t 19))⟩])
  (.cond (.t 20) (.seq (.region [⟨some 21, none, .r (.mov (.t 7))⟩, ⟨some 6, none, .r (.mov (.t 21))⟩])
    (.ret))
  (.skip)))
  (.seq (.region [⟨some 23, none, .r (.mov (.t 0))⟩, ⟨some 24, none, .call .ro (.c (.fn n_image_Split [] [])) [.t 23]⟩, ⟨some 22, none, .r (.mov (.t 24))⟩, ⟨some 25, none, .r (.extract 0 (.t 22))⟩, ⟨some 26, none, .r (.extract 1 (.t 22))⟩, ⟨some 8, none, .r (.mov (.t 25))⟩, ⟨some 9, none, .r (.mov (.t 26))⟩])
  (.seq (.seq (.region [⟨some 27, none, .r (.mov (.t 9))⟩, ⟨some 28, none, .r (.bin .eql (.t 27) (.c (.int .i64 0)))⟩, ⟨some 29, none, .r (.mov (.t 0))⟩, ⟨some 30, none, .r (.len (.t 29))⟩, ⟨some 31, none, .r (.bin .geq (.t 30) (.c (.int .i64 1)))⟩, ⟨some 32, none, .r (.mov (.t 31))⟩, ⟨some 33, (some (32, true)), .r (.mov (.t 0))⟩, ⟨some 34, (some (32, true)), .r (.len (.t 33))⟩, ⟨some 35, (some (32, true)), .r (.bin .leq (.t 34) (.c (.int .i64 4096)))⟩, ⟨some 36, none, .r (.pick (.t 32) (.t 35) (.c (.bool false)))⟩, ⟨some 37, none, .r (.eqb true (.t 28) (.t 36))⟩])
  (.cond (.t 37) (.seq (.region [⟨some 6, none, .r (.mov (.c (.bool false)))⟩])
    (.ret))
  (.skip)))
  (.seq (.seq (.region [⟨some 38, none, .r (.mov (.t 9))⟩, ⟨some 39, none, .r (.bin .eql (.t 38) (.c (.int .i64 0)))⟩])
  (.cond (.t 39) (.seq (.region [⟨some 41, none, .r (.mov (.t 8))⟩, ⟨some 42, none, .r (.mov (.t 0))⟩, ⟨some 43, none, .r (.len (.t 42))⟩, ⟨some 44, none, .call .ro (.c (.fn n_image_Join [] [])) [.t 41, .t 43]⟩, ⟨some 40, none, .r (.mov (.t 44))⟩, ⟨some 45, none, .r (.extract 0 (.t 40))⟩, ⟨some 46, none, .r (.extract 1 (.t 40))⟩, ⟨some 10, none, .r (.mov (.t 45))⟩, ⟨some 11, none, .r (.mov (.t 46))⟩])
    (.seq (.region [⟨some 47, none, .r (.mov (.t 11))⟩, ⟨some 48, none, .r (.bin .neq (.t 47) (.c (.int .i64 0)))⟩, ⟨some 49, none, .r (.mov (.t 48))⟩, ⟨some 50, (some (49, false)), .r (.mov (.t 10))⟩, ⟨some 51, (some (49, false)), .r (.mov (.t 0))⟩, ⟨some 52, (some (49, false)), .call .ro (.c (.fn n_ref36_Bytes [] [])) [.t 50, .t 51]⟩, ⟨some 53, (some (49, false)), .r (.not (.t 52))⟩, ⟨some 54, none, .r (.pick (.t 49) (.c (.bool true)) (.t 53))⟩])
    (.cond (.t 54) (.seq (.region [⟨some 6, none, .r (.mov (.c (.bool false)))⟩])
      (.ret))
    (.skip))))
  (.skip)))
  (.seq (.region [⟨some 56, none, .r (.mov (.t 1))⟩, ⟨some 57, none, .r (.mov (.t 2))⟩, ⟨some 58, none, .call .ro (.c (.fn n_image_Join [] [])) [.t 56, .t 57]⟩, ⟨some 55, none, .r (.mov (.t 58))⟩, ⟨some 59, none, .r (.extract 0 (.t 55))⟩, ⟨some 60, none, .r (.extract 1 (.t 55))⟩, ⟨some 12, none, .r (.mov (.t 59))⟩, ⟨some 13, none, .r (.mov (.t 60))⟩])
  (.seq (.seq (.region [⟨some 61, none, .r (.mov (.t 13))⟩, ⟨some 62, none, .r (.bin .neq (.t 61) (.c (.int .i64 0)))⟩])
  (.cond (.t 62) (.seq (.region [⟨some 63, none, .r (.mov (.t 7))⟩, ⟨some 6, none, .r (.mov (.t 63))⟩])
    (.ret))
  (.skip)))
  (.seq (.region [⟨some 65, none, .r (.mov (.t 12))⟩, ⟨some 66, none, .call .ro (.c (.fn n_image_Split [] [])) [.t 65]⟩, ⟨some 64, none, .r (.mov (.t 66))⟩, ⟨some 67, none, .r (.extract 0 (.t 64))⟩, ⟨some 68, none, .r (.extract 1 (.t 64))⟩, ⟨some 14, none, .r (.mov (.t 67))⟩, ⟨some 15, none, .r (.mov (.t 68))⟩])
  (.seq (.region [⟨some 69, none, .r (.mov (.t 7))⟩, ⟨some 70, none, .r (.mov (.t 69))⟩, ⟨some 71, (some (70, true)), .r (.mov (.t 15))⟩, ⟨some 72, (some (70, true)), .r (.bin .eql (.t 71) (.c (.int .i64 0)))⟩, ⟨some 73, none, .r (.pick (.t 70) (.t 72) (.c (.bool false)))⟩, ⟨some 74, none, .r (.mov (.t 73))⟩, ⟨some 75, (some (74, true)), .r (.mov (.t 12))⟩, ⟨some 76, (some (74, true)), .r (.len (.t 75))⟩, ⟨some 77, (some (74, true)), .r (.mov (.t 2))⟩, ⟨some 78, (some (74, true)), .r (.bin .eql (.t 76) (.t 77))⟩, ⟨some 79, none, .r (.pick (.t 74) (.t 78) (.c (.bool false)))⟩, ⟨some 80, none, .r (.mov (.t 79))⟩, ⟨some 81, (some (80, true)), .r (.mov (.t 14))⟩, ⟨some 82, (some (80, true)), .r (.mov (.t 1))⟩, ⟨some 83, (some (80, true)), .call .ro (.c (.fn n_ref36_Lists [] [])) [.t 81, .t 82]⟩, ⟨some 84, none, .r (.pick (.t 80) (.t 83) (.c (.bool false)))⟩, ⟨some 6, none, .r (.mov (.t 84))⟩])
  (.ret)))))))))),
  [.t 6]⟩
/-- slotmeshlaw36.ImageKeeps -/
def b_law36_ImageKeeps_0 : MCode := .seq (.region [⟨some 118, none, .r (.bin .lss (.t 117) (.t 116))⟩])
  (.seq (.cond (.t 118) (.skip)
  (.trim [1, 2, 7, 8, 10] (.exit 0)))
  (.seq (.block 1
  (.seq (.region [⟨some 119, none, .r (.mov (.t 117))⟩, ⟨some 11, none, .r (.mov (.t 119))⟩])
    (.seq (.draw [(1, 6), (4, 6), (1, 9), (4, 9), (14, 19), (17, 19), (14, 22), (17, 22)] [⟨some 120, none, .r (.faddr 4 (.t 8))⟩, ⟨some 121, none, .r (.load 1 false (.t 120))⟩, ⟨some 122, none, .r (.mov (.t 11))⟩, ⟨some 123, none, .r (.iaddr 1 (.t 121) (.t 122))⟩, ⟨some 124, none, .r (.load 1 false (.t 123))⟩, ⟨some 125, none, .r (.faddr 4 (.t 3))⟩, ⟨some 126, none, .r (.load 1 false (.t 125))⟩, ⟨some 127, none, .r (.mov (.t 11))⟩, ⟨some 128, none, .r (.iaddr 1 (.t 126) (.t 127))⟩, ⟨some 129, none, .r (.load 1 false (.t 128))⟩, ⟨some 130, none, .call .ro (.c (.fn n_ref36_Bytes [] [])) [.t 124, .t 129]⟩, ⟨some 131, none, .r (.not (.t 130))⟩, ⟨some 132, none, .r (.mov (.t 131))⟩, ⟨some 133, (some (132, false)), .r (.faddr 5 (.t 8))⟩, ⟨some 134, (some (132, false)), .r (.load 1 false (.t 133))⟩, ⟨some 135, (some (132, false)), .r (.mov (.t 11))⟩, ⟨some 136, (some (132, false)), .r (.iaddr 1 (.t 134) (.t 135))⟩, ⟨some 137, (some (132, false)), .r (.load 1 false (.t 136))⟩, ⟨some 138, (some (132, false)), .r (.faddr 5 (.t 3))⟩, ⟨some 139, (some (132, false)), .r (.load 1 false (.t 138))⟩, ⟨some 140, (some (132, false)), .r (.mov (.t 11))⟩, ⟨some 141, (some (132, false)), .r (.iaddr 1 (.t 139) (.t 140))⟩, ⟨some 142, (some (132, false)), .r (.load 1 false (.t 141))⟩, ⟨some 143, (some (132, false)), .call .ro (.c (.fn n_ref35_Same [] [])) [.t 137, .t 142]⟩, ⟨some 144, (some (132, false)), .r (.not (.t 143))⟩, ⟨some 145, none, .r (.pick (.t 132) (.c (.bool true)) (.t 144))⟩])
    (.cond (.t 145) (.seq (.region [⟨some 6, none, .r (.mov (.c (.bool false)))⟩])
      (.ret))
    (.skip)))))
  (.region [⟨some 146, none, .r (.bin .add (.t 117) (.c (.int .i64 1)))⟩, ⟨some 117, none, .r (.mov (.t 146))⟩])))
def l_law36_ImageKeeps_0 : MCode := .loop (.trim [1, 2, 3, 7, 8, 10, 116, 117] b_law36_ImageKeeps_0)
def m_law36_ImageKeeps : MFun := ⟨.seq (.region [⟨some 3, none, .r (.box (.t 0))⟩, ⟨some 6, none, .r (.mov (.c (.bool false)))⟩])
  (.seq (.region [⟨some 12, none, .call .ro (.c (.fn n_law36_head [] [])) []⟩, ⟨some 7, none, .r (.mov (.t 12))⟩])
  (.seq (.seq (.region [⟨some 13, none, .r (.load 13 true (.t 3))⟩, ⟨some 14, none, .call .ro (.c (.fn n_ref36_Few [] [])) [.t 13]⟩, ⟨some 15, none, .r (.not (.t 14))⟩, ⟨some 16, none, .r (.mov (.t 15))⟩, ⟨some 17, (some (16, false)), .r (.load 13 true (.t 3))⟩, ⟨some 18, (some (16, false)), .call .ro (.c (.fn n_ref36_Sound [] [])) [.t 17]⟩, ⟨some 19, (some (16, false)), .r (.not (.t 18))⟩, ⟨some 20, none, .r (.pick (.t 16) (.c (.bool true)) (.t 19))⟩, ⟨some 21, none, .r (.mov (.t 20))⟩, ⟨some 22, (some (21, false)), .r (.mov (.t 1))⟩, ⟨some 23, (some (21, false)), .r (.len (.t 22))⟩, ⟨some 24, (some (21, false)), .r (.bin .gtr (.t 23) (.c (.int .i64 1000)))⟩, ⟨some 25, none, .r (.pick (.t 21) (.c (.bool true)) (.t 24))⟩, ⟨some 26, none, .r (.mov (.t 25))⟩, ⟨some 27, (some (26, false)), .r (.mov (.t 2))⟩, ⟨some 28, (some (26, false)), .r (.len (.t 27))⟩, ⟨some 29, (some (26, false)), .r (.bin .gtr (.t 28) (.c (.int .i64 40)))⟩, ⟨some 30, none, .r (.pick (.t 26) (.c (.bool true)) (.t 29))⟩])
  (.cond (.t 30) (.seq (.region [⟨some 31, none, .r (.mov (.t 7))⟩, ⟨some 6, none, .r (.mov (.t 31))⟩])
    (.ret))
  (.skip)))
  (.seq (.region [⟨some 33, none, .r (.load 13 true (.t 3))⟩, ⟨some 34, none, .r (.mov (.t 1))⟩, ⟨some 35, none, .r (.mov (.t 2))⟩, ⟨some 36, none, .call .ro (.c (.fn n_image_Put [] [])) [.t 33, .t 34, .t 35]⟩, ⟨some 32, none, .r (.mov (.t 36))⟩, ⟨some 37, none, .r (.extract 0 (.t 32))⟩, ⟨some 38, none, .r (.extract 1 (.t 32))⟩, ⟨some 8, none, .r (.alloc [.int .i64 0, .int .i64 0, .int .u64 0, .int .i64 0, .tree [] true true, .tree [] true true, .tree [] true true, .tree [] true true, .int .i64 0, .int .i64 0, .int .i64 0, .int .i64 0, .int .i64 0])⟩, ⟨none, none, .w (.store 13 (.t 8) (.t 37))⟩, ⟨some 9, none, .r (.mov (.t 38))⟩])
  (.seq (.seq (.draw [(1, 5), (1, 6)] [⟨some 39, none, .r (.faddr 4 (.t 3))⟩, ⟨some 40, none, .r (.load 1 false (.t 39))⟩, ⟨some 41, none, .r (.len (.t 40))⟩, ⟨some 42, none, .r (.faddr 0 (.t 3))⟩, ⟨some 43, none, .r (.faddr 1 (.t 42))⟩, ⟨some 44, none, .r (.load 1 false (.t 43))⟩, ⟨some 45, none, .call .ro (.c (.fn n_ref36_Count [] [])) [.t 44]⟩, ⟨some 46, none, .r (.bin .eql (.t 41) (.t 45))⟩])
  (.cond (.t 46) (.seq (.region [⟨some 47, none, .r (.mov (.t 7))⟩, ⟨some 48, none, .r (.mov (.t 47))⟩, ⟨some 49, (some (48, true)), .r (.mov (.t 9))⟩, ⟨some 50, (some (48, true)), .r (.bin .eql (.t 49) (.c (.int .i64 10)))⟩, ⟨some 51, (some (48, true)), .r (.mov (.t 50))⟩, ⟨some 52, (some (51, false)), .r (.mov (.t 1))⟩, ⟨some 53, (some (51, false)), .r (.len (.t 52))⟩, ⟨some 54, (some (51, false)), .r (.bin .neq (.t 53) (.c (.int .i64 256)))⟩, ⟨some 55, (some (51, false)), .r (.mov (.t 54))⟩, ⟨some 56, (some (55, true)), .r (.mov (.t 9))⟩, ⟨some 57, (some (55, true)), .r (.bin .eql (.t 56) (.c (.int .i64 1)))⟩, ⟨some 58, (some (51, false)), .r (.pick (.t 55) (.t 57) (.c (.bool false)))⟩, ⟨some 59, (some (48, true)), .r (.pick (.t 51) (.c (.bool true)) (.t 58))⟩, ⟨some 60, none, .r (.pick (.t 48) (.t 59) (.c (.bool false)))⟩, ⟨some 6, none, .r (.mov (.t 60))⟩])
    (.ret))
  (.skip)))
  (.seq (.seq (.region [⟨some 61, none, .r (.mov (.t 9))⟩, ⟨some 62, none, .r (.bin .neq (.t 61) (.c (.int .i64 0)))⟩])
  (.cond (.t 62) (.seq (.region [⟨some 63, none, .r (.mov (.t 7))⟩, ⟨some 64, none, .r (.mov (.t 63))⟩, ⟨some 65, (some (64, true)), .r (.faddr 4 (.t 8))⟩, ⟨some 66, (some (64, true)), .r (.load 1 false (.t 65))⟩, ⟨some 67, (some (64, true)), .r (.len (.t 66))⟩, ⟨some 68, (some (64, true)), .r (.bin .eql (.t 67) (.c (.int .i64 0)))⟩, ⟨some 69, none, .r (.pick (.t 64) (.t 68) (.c (.bool false)))⟩, ⟨some 6, none, .r (.mov (.t 69))⟩])
    (.ret))
  (.skip)))
  (.seq (.region [⟨some 70, none, .r (.faddr 4 (.t 3))⟩, ⟨some 71, none, .r (.load 1 false (.t 70))⟩, ⟨some 72, none, .r (.len (.t 71))⟩, ⟨some 10, none, .r (.mov (.t 72))⟩])
  (.seq (.seq (.region [⟨some 73, none, .r (.faddr 4 (.t 8))⟩, ⟨some 74, none, .r (.load 1 false (.t 73))⟩, ⟨some 75, none, .r (.len (.t 74))⟩, ⟨some 76, none, .r (.mov (.t 10))⟩, ⟨some 77, none, .r (.bin .add (.t 76) (.c (.int .i64 1)))⟩, ⟨some 78, none, .r (.bin .neq (.t 75) (.t 77))⟩, ⟨some 79, none, .r (.mov (.t 78))⟩, ⟨some 80, (some (79, false)), .r (.faddr 5 (.t 8))⟩, ⟨some 81, (some (79, false)), .r (.load 1 false (.t 80))⟩, ⟨some 82, (some (79, false)), .r (.len (.t 81))⟩, ⟨some 83, (some (79, false)), .r (.mov (.t 10))⟩, ⟨some 84, (some (79, false)), .r (.bin .add (.t 83) (.c (.int .i64 1)))⟩, ⟨some 85, (some (79, false)), .r (.bin .neq (.t 82) (.t 84))⟩, ⟨some 86, none, .r (.pick (.t 79) (.c (.bool true)) (.t 85))⟩, ⟨some 87, none, .r (.mov (.t 86))⟩, ⟨some 88, (some (87, false)), .r (.faddr 0 (.t 8))⟩, ⟨some 89, (some (87, false)), .r (.load 4 true (.t 88))⟩, ⟨some 90, (some (87, false)), .r (.faddr 0 (.t 3))⟩, ⟨some 91, (some (87, false)), .r (.load 4 true (.t 90))⟩, ⟨some 92, (some (87, false)), .r (.eqa true 4 (.t 89) (.t 91))⟩, ⟨some 93, none, .r (.pick (.t 87) (.c (.bool true)) (.t 92))⟩, ⟨some 94, none, .r (.mov (.t 93))⟩, ⟨some 95, (some (94, false)), .r (.faddr 8 (.t 8))⟩, ⟨some 96, (some (94, false)), .r (.load 5 true (.t 95))⟩, ⟨some 97, (some (94, false)), .r (.faddr 8 (.t 3))⟩, ⟨some 98, (some (94, false)), .r (.load 5 true (.t 97))⟩, ⟨some 99, (some (94, false)), .r (.eqa true 5 (.t 96) (.t 98))⟩, ⟨some 100, none, .r (.pick (.t 94) (.c (.bool true)) (.t 99))⟩, ⟨some 101, none, .r (.mov (.t 100))⟩, ⟨some 102, (some (101, false)), .r (.faddr 6 (.t 8))⟩, ⟨some 103, (some (101, false)), .r (.load 1 false (.t 102))⟩, ⟨some 104, (some (101, false)), .r (.len (.t 103))⟩, ⟨some 105, (some (101, false)), .r (.faddr 7 (.t 8))⟩, ⟨some 106, (some (101, false)), .r (.load 1 false (.t 105))⟩, ⟨some 107, (some (101, false)), .r (.len (.t 106))⟩, ⟨some 108, (some (101, false)), .r (.bin .add (.t 104) (.t 107))⟩, ⟨some 109, (some (101, false)), .r (.bin .neq (.t 108) (.c (.int .i64 0)))⟩, ⟨some 110, none, .r (.pick (.t 101) (.c (.bool true)) (.t 109))⟩, ⟨some 111, none, .r (.mov (.t 110))⟩, ⟨some 112, (some (111, false)), .r (.load 13 true (.t 8))⟩, ⟨some 113, (some (111, false)), .call .ro (.c (.fn n_ref36_Sound [] [])) [.t 112]⟩, ⟨some 114, (some (111, false)), .r (.not (.t 113))⟩, ⟨some 115, none, .r (.pick (.t 111) (.c (.bool true)) (.t 114))⟩])
  (.cond (.t 115) (.seq (.region [⟨some 6, none, .r (.mov (.c (.bool false)))⟩])
    (.ret))
  (.skip)))
  (.seq (.seq (.region [⟨some 116, none, .r (.mov (.t 10))⟩, ⟨some 117, none, .r (.mov (.c (.int .i64 0)))⟩])
  (.block 0
  (l_law36_ImageKeeps_0)))
  (.seq (.region [⟨some 147, none, .r (.mov (.t 7))⟩, ⟨some 148, none, .r (.mov (.t 147))⟩, ⟨some 149, (some (148, true)), .r (.faddr 4 (.t 8))⟩, ⟨some 150, (some (148, true)), .r (.load 1 false (.t 149))⟩, ⟨some 151, (some (148, true)), .r (.mov (.t 10))⟩, ⟨some 152, (some (148, true)), .r (.iaddr 1 (.t 150) (.t 151))⟩, ⟨some 153, (some (148, true)), .r (.load 1 false (.t 152))⟩, ⟨some 154, (some (148, true)), .r (.mov (.t 1))⟩, ⟨some 155, (some (148, true)), .call .ro (.c (.fn n_ref36_Bytes [] [])) [.t 153, .t 154]⟩, ⟨some 156, none, .r (.pick (.t 148) (.t 155) (.c (.bool false)))⟩, ⟨some 157, none, .r (.mov (.t 156))⟩, ⟨some 158, (some (157, true)), .r (.faddr 5 (.t 8))⟩, ⟨some 159, (some (157, true)), .r (.load 1 false (.t 158))⟩, ⟨some 160, (some (157, true)), .r (.mov (.t 10))⟩, ⟨some 161, (some (157, true)), .r (.iaddr 1 (.t 159) (.t 160))⟩, ⟨some 162, (some (157, true)), .r (.load 1 false (.t 161))⟩, ⟨some 163, (some (157, true)), .r (.mov (.t 2))⟩, ⟨some 164, (some (157, true)), .call .ro (.c (.fn n_ref35_Same [] [])) [.t 162, .t 163]⟩, ⟨some 165, none, .r (.pick (.t 157) (.t 164) (.c (.bool false)))⟩, ⟨some 6, none, .r (.mov (.t 165))⟩])
  (.ret)))))))))),
  [.t 6]⟩
/-- slotmeshlaw36.ImageNotices -/
def m_law36_ImageNotices : MFun := ⟨.seq (.region [⟨some 10, none, .r (.mov (.c (.bool false)))⟩])
  (.seq (.region [⟨some 17, none, .call .ro (.c (.fn n_law36_head [] [])) []⟩, ⟨some 11, none, .r (.mov (.t 17))⟩])
  (.seq (.region [⟨some 19, none, .r (.mov (.t 1))⟩, ⟨some 20, none, .r (.mov (.t 0))⟩, ⟨some 21, none, .r (.mov (.t 2))⟩, ⟨some 22, none, .call .ro (.c (.fn n_image_Announce [] [])) [.t 19, .t 20, .t 21]⟩, ⟨some 18, none, .r (.mov (.t 22))⟩, ⟨some 23, none, .r (.extract 0 (.t 18))⟩, ⟨some 24, none, .r (.extract 1 (.t 18))⟩, ⟨some 12, none, .r (.alloc [.int .i64 0, .int .i64 0, .int .u64 0, .int .i64 0])⟩, ⟨none, none, .w (.store 4 (.t 12) (.t 23))⟩, ⟨some 13, none, .r (.mov (.t 24))⟩])
  (.seq (.seq (.region [⟨some 25, none, .r (.mov (.t 13))⟩, ⟨some 26, none, .r (.bin .neq (.t 25) (.c (.int .i64 0)))⟩, ⟨some 27, none, .r (.mov (.t 26))⟩, ⟨some 28, (some (27, false)), .r (.mov (.t 4))⟩, ⟨some 29, (some (27, false)), .r (.bin .eql (.t 28) (.c (.int .u8 0)))⟩, ⟨some 30, none, .r (.pick (.t 27) (.c (.bool true)) (.t 29))⟩, ⟨some 31, none, .r (.mov (.t 30))⟩, ⟨some 32, (some (31, false)), .r (.mov (.t 0))⟩, ⟨some 33, (some (31, false)), .r (.len (.t 32))⟩, ⟨some 34, (some (31, false)), .r (.bin .eql (.t 33) (.c (.int .i64 0)))⟩, ⟨some 35, none, .r (.pick (.t 31) (.c (.bool true)) (.t 34))⟩])
  (.cond (.t 35) (.seq (.region [⟨some 36, none, .r (.mov (.t 11))⟩, ⟨some 10, none, .r (.mov (.t 36))⟩])
    (.ret))
  (.skip)))
  (.seq (.region [⟨some 37, none, .r (.bslice 1 [])⟩, ⟨some 38, none, .r (.mov (.t 0))⟩, ⟨some 39, none, .w (.append 1 (.t 37) (.t 38))⟩, ⟨some 14, none, .r (.mov (.t 39))⟩])
  (.seq (.region [⟨some 40, none, .r (.mov (.t 14))⟩, ⟨some 41, none, .r (.mov (.t 3))⟩, ⟨some 42, none, .r (.conv .i64 (.t 41))⟩, ⟨some 43, none, .r (.mov (.t 14))⟩, ⟨some 44, none, .r (.len (.t 43))⟩, ⟨some 45, none, .r (.bin .rem (.t 42) (.t 44))⟩, ⟨some 46, none, .r (.iaddr 1 (.t 40) (.t 45))⟩, ⟨some 47, none, .r (.load 1 false (.t 46))⟩, ⟨some 48, none, .r (.mov (.t 4))⟩, ⟨some 49, none, .r (.bin .xor (.t 47) (.t 48))⟩, ⟨some 50, none, .r (.iaddr 1 (.t 40) (.t 45))⟩, ⟨none, none, .w (.store 1 (.t 50) (.t 49))⟩])
  (.seq (.region [⟨some 52, none, .r (.mov (.t 1))⟩, ⟨some 53, none, .w (.frz (.t 14))⟩, ⟨some 54, none, .r (.mov (.t 2))⟩, ⟨some 55, none, .call .ro (.c (.fn n_image_Announce [] [])) [.t 52, .t 53, .t 54]⟩, ⟨some 51, none, .r (.mov (.t 55))⟩, ⟨some 56, none, .r (.extract 0 (.t 51))⟩, ⟨some 57, none, .r (.extract 1 (.t 51))⟩, ⟨some 15, none, .r (.alloc [.int .i64 0, .int .i64 0, .int .u64 0, .int .i64 0])⟩, ⟨none, none, .w (.store 4 (.t 15) (.t 56))⟩, ⟨some 16, none, .r (.mov (.t 57))⟩])
  (.seq (.region [⟨some 58, none, .r (.mov (.t 11))⟩, ⟨some 59, none, .r (.mov (.t 58))⟩, ⟨some 60, (some (59, true)), .r (.mov (.t 16))⟩, ⟨some 61, (some (59, true)), .r (.bin .eql (.t 60) (.c (.int .i64 0)))⟩, ⟨some 62, none, .r (.pick (.t 59) (.t 61) (.c (.bool false)))⟩, ⟨some 63, none, .r (.mov (.t 62))⟩, ⟨some 64, (some (63, true)), .r (.faddr 2 (.t 12))⟩, ⟨some 65, (some (63, true)), .r (.load 1 false (.t 64))⟩, ⟨some 66, (some (63, true)), .r (.faddr 2 (.t 15))⟩, ⟨some 67, (some (63, true)), .r (.load 1 false (.t 66))⟩, ⟨some 68, (some (63, true)), .r (.bin .neq (.t 65) (.t 67))⟩, ⟨some 69, none, .r (.pick (.t 63) (.t 68) (.c (.bool false)))⟩, ⟨some 70, none, .r (.mov (.t 69))⟩, ⟨some 71, (some (70, true)), .r (.faddr 0 (.t 12))⟩, ⟨some 72, (some (70, true)), .r (.load 1 false (.t 71))⟩, ⟨some 73, (some (70, true)), .r (.mov (.t 1))⟩, ⟨some 74, (some (70, true)), .r (.bin .eql (.t 72) (.t 73))⟩, ⟨some 75, none, .r (.pick (.t 70) (.t 74) (.c (.bool false)))⟩, ⟨some 76, none, .r (.mov (.t 75))⟩, ⟨some 77, (some (76, true)), .r (.faddr 0 (.t 15))⟩, ⟨some 78, (some (76, true)), .r (.load 1 false (.t 77))⟩, ⟨some 79, (some (76, true)), .r (.mov (.t 1))⟩, ⟨some 80, (some (76, true)), .r (.bin .eql (.t 78) (.t 79))⟩, ⟨some 81, none, .r (.pick (.t 76) (.t 80) (.c (.bool false)))⟩, ⟨some 82, none, .r (.mov (.t 81))⟩, ⟨some 83, (some (82, true)), .r (.faddr 1 (.t 12))⟩, ⟨some 84, (some (82, true)), .r (.load 1 false (.t 83))⟩, ⟨some 85, (some (82, true)), .r (.mov (.t 0))⟩, ⟨some 86, (some (82, true)), .r (.len (.t 85))⟩, ⟨some 87, (some (82, true)), .r (.bin .eql (.t 84) (.t 86))⟩, ⟨some 88, none, .r (.pick (.t 82) (.t 87) (.c (.bool false)))⟩, ⟨some 89, none, .r (.mov (.t 88))⟩, ⟨some 90, (some (89, true)), .r (.faddr 1 (.t 15))⟩, ⟨some 91, (some (89, true)), .r (.load 1 false (.t 90))⟩, ⟨some 92, (some (89, true)), .r (.faddr 1 (.t 12))⟩, ⟨some 93, (some (89, true)), .r (.load 1 false (.t 92))⟩, ⟨some 94, (some (89, true)), .r (.bin .eql (.t 91) (.t 93))⟩, ⟨some 95, none, .r (.pick (.t 89) (.t 94) (.c (.bool false)))⟩, ⟨some 96, none, .r (.mov (.t 95))⟩, ⟨some 97, (some (96, true)), .r (.faddr 3 (.t 12))⟩, ⟨some 98, (some (96, true)), .r (.load 1 false (.t 97))⟩, ⟨some 99, (some (96, true)), .r (.mov (.t 2))⟩, ⟨some 100, (some (96, true)), .r (.bin .eql (.t 98) (.t 99))⟩, ⟨some 101, none, .r (.pick (.t 96) (.t 100) (.c (.bool false)))⟩, ⟨some 102, none, .r (.mov (.t 101))⟩, ⟨some 103, (some (102, true)), .r (.faddr 3 (.t 15))⟩, ⟨some 104, (some (102, true)), .r (.load 1 false (.t 103))⟩, ⟨some 105, (some (102, true)), .r (.mov (.t 2))⟩, ⟨some 106, (some (102, true)), .r (.bin .eql (.t 104) (.t 105))⟩, ⟨some 107, none, .r (.pick (.t 102) (.t 106) (.c (.bool false)))⟩, ⟨some 10, none, .r (.mov (.t 107))⟩])
  (.ret)))))))),
  [.t 10]⟩
/-- slotmeshlaw36.ImageSizes -/
def b_law36_ImageSizes_0 : MCode := .seq (.seq (.region [⟨some 64, none, .r (.mov (.t 11))⟩, ⟨some 65, none, .r (.mov (.t 0))⟩, ⟨some 66, none, .r (.len (.t 65))⟩, ⟨some 67, none, .r (.bin .lss (.t 64) (.t 66))⟩])
  (.cond (.t 67) (.skip)
  (.trim [0, 1, 5, 8, 9, 10] (.exit 0))))
  (.seq (.block 1
  (.region [⟨some 70, none, .r (.mov (.t 10))⟩, ⟨some 71, none, .r (.mov (.t 70))⟩, ⟨some 72, (some (71, true)), .r (.mov (.t 0))⟩, ⟨some 73, (some (71, true)), .r (.mov (.t 11))⟩, ⟨some 74, (some (71, true)), .r (.iaddr 1 (.t 72) (.t 73))⟩, ⟨some 75, (some (71, true)), .r (.load 1 false (.t 74))⟩, ⟨some 76, (some (71, true)), .r (.bin .eql (.t 75) (.c (.int .u8 0)))⟩, ⟨some 77, none, .r (.pick (.t 71) (.t 76) (.c (.bool false)))⟩, ⟨some 10, none, .r (.mov (.t 77))⟩]))
  (.region [⟨some 68, none, .r (.mov (.t 11))⟩, ⟨some 69, none, .r (.bin .add (.t 68) (.c (.int .i64 1)))⟩, ⟨some 11, none, .r (.mov (.t 69))⟩]))
def l_law36_ImageSizes_0 : MCode := .loop (.trim [0, 1, 5, 8, 9, 10, 11] b_law36_ImageSizes_0)
def m_law36_ImageSizes : MFun := ⟨.seq (.region [⟨some 4, none, .r (.mov (.c (.bool false)))⟩])
  (.seq (.region [⟨some 12, none, .call .ro (.c (.fn n_law36_head [] [])) []⟩, ⟨some 5, none, .r (.mov (.t 12))⟩])
  (.seq (.seq (.region [⟨some 13, none, .r (.mov (.t 0))⟩, ⟨some 14, none, .r (.len (.t 13))⟩, ⟨some 15, none, .r (.bin .lss (.t 14) (.c (.int .i64 1)))⟩, ⟨some 16, none, .r (.mov (.t 15))⟩, ⟨some 17, (some (16, false)), .r (.mov (.t 0))⟩, ⟨some 18, (some (16, false)), .r (.len (.t 17))⟩, ⟨some 19, (some (16, false)), .r (.bin .gtr (.t 18) (.c (.int .i64 4096)))⟩, ⟨some 20, none, .r (.pick (.t 16) (.c (.bool true)) (.t 19))⟩, ⟨some 21, none, .r (.mov (.t 20))⟩, ⟨some 22, (some (21, false)), .r (.mov (.t 1))⟩, ⟨some 23, (some (21, false)), .r (.bin .lss (.t 22) (.c (.int .i64 1)))⟩, ⟨some 24, none, .r (.pick (.t 21) (.c (.bool true)) (.t 23))⟩, ⟨some 25, none, .r (.mov (.t 24))⟩, ⟨some 26, (some (25, false)), .r (.mov (.t 1))⟩, ⟨some 27, (some (25, false)), .r (.bin .gtr (.t 26) (.c (.int .i64 4096)))⟩, ⟨some 28, none, .r (.pick (.t 25) (.c (.bool true)) (.t 27))⟩])
  (.cond (.t 28) (.seq (.region [⟨some 29, none, .r (.mov (.t 5))⟩, ⟨some 4, none, .r (.mov (.t 29))⟩])
    (.ret))
  (.skip)))
  (.seq (.region [⟨some 31, none, .r (.mov (.t 0))⟩, ⟨some 32, none, .call .ro (.c (.fn n_image_Split [] [])) [.t 31]⟩, ⟨some 30, none, .r (.mov (.t 32))⟩, ⟨some 33, none, .r (.extract 0 (.t 30))⟩, ⟨some 34, none, .r (.extract 1 (.t 30))⟩, ⟨some 6, none, .r (.mov (.t 33))⟩, ⟨some 7, none, .r (.mov (.t 34))⟩])
  (.seq (.seq (.region [⟨some 35, none, .r (.mov (.t 7))⟩, ⟨some 36, none, .r (.bin .neq (.t 35) (.c (.int .i64 0)))⟩, ⟨some 37, none, .r (.mov (.t 36))⟩, ⟨some 38, (some (37, false)), .r (.mov (.t 6))⟩, ⟨some 39, (some (37, false)), .r (.len (.t 38))⟩, ⟨some 40, (some (37, false)), .r (.mov (.t 0))⟩, ⟨some 41, (some (37, false)), .r (.len (.t 40))⟩, ⟨some 42, (some (37, false)), .r (.bin .add (.t 41) (.c (.int .i64 255)))⟩, ⟨some 43, (some (37, false)), .r (.bin .quo (.t 42) (.c (.int .i64 256)))⟩, ⟨some 44, (some (37, false)), .r (.bin .neq (.t 39) (.t 43))⟩, ⟨some 45, none, .r (.pick (.t 37) (.c (.bool true)) (.t 44))⟩])
  (.cond (.t 45) (.seq (.region [⟨some 4, none, .r (.mov (.c (.bool false)))⟩])
    (.ret))
  (.skip)))
  (.seq (.region [⟨some 47, none, .r (.mov (.t 6))⟩, ⟨some 48, none, .r (.mov (.t 1))⟩, ⟨some 49, none, .call .ro (.c (.fn n_image_Join [] [])) [.t 47, .t 48]⟩, ⟨some 46, none, .r (.mov (.t 49))⟩, ⟨some 50, none, .r (.extract 0 (.t 46))⟩, ⟨some 51, none, .r (.extract 1 (.t 46))⟩, ⟨some 8, none, .r (.mov (.t 50))⟩, ⟨some 9, none, .r (.mov (.t 51))⟩])
  (.seq (.seq (.region [⟨some 52, none, .r (.mov (.t 1))⟩, ⟨some 53, none, .r (.bin .add (.t 52) (.c (.int .i64 255)))⟩, ⟨some 54, none, .r (.bin .quo (.t 53) (.c (.int .i64 256)))⟩, ⟨some 55, none, .r (.mov (.t 6))⟩, ⟨some 56, none, .r (.len (.t 55))⟩, ⟨some 57, none, .r (.bin .neq (.t 54) (.t 56))⟩])
  (.cond (.t 57) (.seq (.region [⟨some 58, none, .r (.mov (.t 5))⟩, ⟨some 59, none, .r (.mov (.t 58))⟩, ⟨some 60, (some (59, true)), .r (.mov (.t 9))⟩, ⟨some 61, (some (59, true)), .r (.bin .eql (.t 60) (.c (.int .i64 1)))⟩, ⟨some 62, none, .r (.pick (.t 59) (.t 61) (.c (.bool false)))⟩, ⟨some 4, none, .r (.mov (.t 62))⟩])
    (.ret))
  (.skip)))
  (.seq (.region [⟨some 10, none, .r (.mov (.c (.bool true)))⟩])
  (.seq (.seq (.region [⟨some 63, none, .r (.mov (.t 1))⟩, ⟨some 11, none, .r (.mov (.t 63))⟩])
  (.block 0
  (l_law36_ImageSizes_0)))
  (.seq (.seq (.region [⟨some 78, none, .r (.mov (.t 10))⟩, ⟨some 79, none, .r (.not (.t 78))⟩])
  (.cond (.t 79) (.seq (.region [⟨some 80, none, .r (.mov (.t 5))⟩, ⟨some 81, none, .r (.mov (.t 80))⟩, ⟨some 82, (some (81, true)), .r (.mov (.t 9))⟩, ⟨some 83, (some (81, true)), .r (.bin .eql (.t 82) (.c (.int .i64 12)))⟩, ⟨some 84, none, .r (.pick (.t 81) (.t 83) (.c (.bool false)))⟩, ⟨some 4, none, .r (.mov (.t 84))⟩])
    (.ret))
  (.skip)))
  (.seq (.draw [] [⟨some 85, none, .r (.mov (.t 5))⟩, ⟨some 86, none, .r (.mov (.t 85))⟩, ⟨some 87, (some (86, true)), .r (.mov (.t 9))⟩, ⟨some 88, (some (86, true)), .r (.bin .eql (.t 87) (.c (.int .i64 0)))⟩, ⟨some 89, none, .r (.pick (.t 86) (.t 88) (.c (.bool false)))⟩, ⟨some 90, none, .r (.mov (.t 89))⟩, ⟨some 91, (some (90, true)), .r (.mov (.t 8))⟩, ⟨some 92, (some (90, true)), .r (.len (.t 91))⟩, ⟨some 93, (some (90, true)), .r (.mov (.t 1))⟩, ⟨some 94, (some (90, true)), .r (.bin .eql (.t 92) (.t 93))⟩, ⟨some 95, none, .r (.pick (.t 90) (.t 94) (.c (.bool false)))⟩, ⟨some 96, none, .r (.mov (.t 95))⟩, ⟨some 97, (some (96, true)), .r (.mov (.t 8))⟩, ⟨some 98, (some (96, true)), .r (.mov (.t 1))⟩, ⟨some 99, (some (96, true)), .r (.mov (.t 0))⟩, ⟨some 100, (some (96, true)), .r (.len (.t 99))⟩, ⟨some 101, (some (96, true)), .r (.mn (.t 98) (.t 100))⟩, ⟨some 102, (some (96, true)), .r (.slice 1 (.t 97) none (some (.t 101)) none)⟩, ⟨some 103, (some (96, true)), .r (.mov (.t 0))⟩, ⟨some 104, (some (96, true)), .r (.mov (.t 1))⟩, ⟨some 105, (some (96, true)), .r (.mov (.t 0))⟩, ⟨some 106, (some (96, true)), .r (.len (.t 105))⟩, ⟨some 107, (some (96, true)), .r (.mn (.t 104) (.t 106))⟩, ⟨some 108, (some (96, true)), .r (.slice 1 (.t 103) none (some (.t 107)) none)⟩, ⟨some 109, (some (96, true)), .call .ro (.c (.fn n_ref36_Bytes [] [])) [.t 102, .t 108]⟩, ⟨some 110, none, .r (.pick (.t 96) (.t 109) (.c (.bool false)))⟩, ⟨some 4, none, .r (.mov (.t 110))⟩])
  (.ret))))))))))),
  [.t 4]⟩
/-- slotmeshlaw36.ImageLoads -/
def b_law36_ImageLoads_0 : MCode := .seq (.region [⟨some 46, none, .r (.bin .lss (.t 45) (.t 44))⟩])
  (.seq (.cond (.t 46) (.skip)
  (.trim [0, 7, 12] (.exit 0)))
  (.seq (.block 1
  (.seq (.region [⟨some 47, none, .r (.mov (.t 45))⟩, ⟨some 48, none, .r (.iaddr 1 (.t 43) (.t 45))⟩, ⟨some 49, none, .r (.load 1 false (.t 48))⟩, ⟨some 13, none, .r (.mov (.t 47))⟩, ⟨some 14, none, .r (.mov (.t 49))⟩])
    (.seq (.seq (.region [⟨some 51, none, .r (.load 13 true (.t 12))⟩, ⟨some 52, none, .call .ro (.c (.fn n_image_Whole [] [])) [.t 51]⟩, ⟨some 50, none, .r (.mov (.t 52))⟩, ⟨some 53, none, .r (.extract 0 (.t 50))⟩, ⟨some 54, none, .r (.extract 1 (.t 50))⟩, ⟨some 15, none, .r (.mov (.t 53))⟩, ⟨some 16, none, .r (.mov (.t 54))⟩])
    (.seq (.region [⟨some 55, none, .r (.mov (.t 16))⟩])
    (.cond (.t 55) (.seq (.region [⟨some 6, none, .r (.mov (.c (.bool false)))⟩])
      (.ret))
    (.skip))))
    (.seq (.region [⟨some 57, none, .r (.mov (.t 10))⟩, ⟨some 58, none, .r (.mov (.t 13))⟩, ⟨some 59, none, .call .ro (.c (.fn n_tree_Proof [] [])) [.t 57, .t 58]⟩, ⟨some 56, none, .r (.mov (.t 59))⟩, ⟨some 60, none, .r (.extract 0 (.t 56))⟩, ⟨some 61, none, .r (.extract 1 (.t 56))⟩, ⟨some 17, none, .r (.mov (.t 60))⟩, ⟨some 18, none, .r (.mov (.t 61))⟩])
    (.seq (.region [⟨some 63, none, .r (.load 13 true (.t 12))⟩, ⟨some 64, none, .r (.mov (.t 14))⟩, ⟨some 65, none, .r (.mov (.t 17))⟩, ⟨some 66, none, .call .ro (.c (.fn n_image_Put [] [])) [.t 63, .t 64, .t 65]⟩, ⟨some 62, none, .r (.mov (.t 66))⟩, ⟨some 67, none, .r (.extract 0 (.t 62))⟩, ⟨some 68, none, .r (.extract 1 (.t 62))⟩, ⟨some 19, none, .r (.alloc [.int .i64 0, .int .i64 0, .int .u64 0, .int .i64 0, .tree [] true true, .tree [] true true, .tree [] true true, .tree [] true true, .int .i64 0, .int .i64 0, .int .i64 0, .int .i64 0, .int .i64 0])⟩, ⟨none, none, .w (.store 13 (.t 19) (.t 67))⟩, ⟨some 20, none, .r (.mov (.t 68))⟩])
    (.seq (.seq (.region [⟨some 69, none, .r (.mov (.t 18))⟩, ⟨some 70, none, .r (.bin .neq (.t 69) (.c (.int .i64 0)))⟩, ⟨some 71, none, .r (.mov (.t 70))⟩, ⟨some 72, (some (71, false)), .r (.mov (.t 20))⟩, ⟨some 73, (some (71, false)), .r (.bin .neq (.t 72) (.c (.int .i64 0)))⟩, ⟨some 74, none, .r (.pick (.t 71) (.c (.bool true)) (.t 73))⟩])
    (.cond (.t 74) (.seq (.region [⟨some 6, none, .r (.mov (.c (.bool false)))⟩])
      (.ret))
    (.skip)))
    (.region [⟨some 75, none, .r (.load 13 true (.t 19))⟩, ⟨none, none, .w (.store 13 (.t 12) (.t 75))⟩])))))))
  (.region [⟨some 76, none, .r (.bin .add (.t 45) (.c (.int .i64 1)))⟩, ⟨some 45, none, .r (.mov (.t 76))⟩])))
def l_law36_ImageLoads_0 : MCode := .loop (.trim [0, 7, 10, 12, 43, 44, 45] b_law36_ImageLoads_0)
def m_law36_ImageLoads : MFun := ⟨.seq (.region [⟨some 6, none, .r (.mov (.c (.bool false)))⟩])
  (.seq (.region [⟨some 23, none, .call .ro (.c (.fn n_law36_head [] [])) []⟩, ⟨some 7, none, .r (.mov (.t 23))⟩])
  (.seq (.region [⟨some 25, none, .r (.mov (.t 1))⟩, ⟨some 26, none, .r (.mov (.t 0))⟩, ⟨some 27, none, .r (.mov (.t 2))⟩, ⟨some 28, none, .call .ro (.c (.fn n_image_Announce [] [])) [.t 25, .t 26, .t 27]⟩, ⟨some 24, none, .r (.mov (.t 28))⟩, ⟨some 29, none, .r (.extract 0 (.t 24))⟩, ⟨some 30, none, .r (.extract 1 (.t 24))⟩, ⟨some 8, none, .r (.alloc [.int .i64 0, .int .i64 0, .int .u64 0, .int .i64 0])⟩, ⟨none, none, .w (.store 4 (.t 8) (.t 29))⟩, ⟨some 9, none, .r (.mov (.t 30))⟩])
  (.seq (.seq (.region [⟨some 31, none, .r (.mov (.t 9))⟩, ⟨some 32, none, .r (.bin .neq (.t 31) (.c (.int .i64 0)))⟩])
  (.cond (.t 32) (.seq (.region [⟨some 33, none, .r (.mov (.t 7))⟩, ⟨some 6, none, .r (.mov (.t 33))⟩])
    (.ret))
  (.skip)))
  (.seq (.region [⟨some 35, none, .r (.mov (.t 0))⟩, ⟨some 36, none, .call .ro (.c (.fn n_image_Split [] [])) [.t 35]⟩, ⟨some 34, none, .r (.mov (.t 36))⟩, ⟨some 37, none, .r (.extract 0 (.t 34))⟩, ⟨some 38, none, .r (.extract 1 (.t 34))⟩, ⟨some 10, none, .r (.mov (.t 37))⟩, ⟨some 11, none, .r (.mov (.t 38))⟩])
  (.seq (.seq (.region [⟨some 39, none, .r (.mov (.t 11))⟩, ⟨some 40, none, .r (.bin .neq (.t 39) (.c (.int .i64 0)))⟩])
  (.cond (.t 40) (.seq (.region [⟨some 6, none, .r (.mov (.c (.bool false)))⟩])
    (.ret))
  (.skip)))
  (.seq (.region [⟨some 41, none, .r (.load 4 true (.t 8))⟩, ⟨some 42, none, .r (.build [.int .i64 0, .int .i64 0, .int .u64 0, .int .i64 0, .tree [] true true, .tree [] true true, .tree [] true true, .tree [] true true, .int .i64 0, .int .i64 0, .int .i64 0, .int .i64 0, .int .i64 0] [(0, 4, .t 41)])⟩, ⟨some 12, none, .r (.alloc [.int .i64 0, .int .i64 0, .int .u64 0, .int .i64 0, .tree [] true true, .tree [] true true, .tree [] true true, .tree [] true true, .int .i64 0, .int .i64 0, .int .i64 0, .int .i64 0, .int .i64 0])⟩, ⟨none, none, .w (.store 13 (.t 12) (.t 42))⟩])
  (.seq (.seq (.region [⟨some 43, none, .r (.mov (.t 10))⟩, ⟨some 44, none, .r (.len (.t 43))⟩, ⟨some 45, none, .r (.mov (.c (.int .i64 0)))⟩])
  (.block 0
  (l_law36_ImageLoads_0)))
  (.seq (.region [⟨some 78, none, .r (.load 13 true (.t 12))⟩, ⟨some 79, none, .call .ro (.c (.fn n_image_Whole [] [])) [.t 78]⟩, ⟨some 77, none, .r (.mov (.t 79))⟩, ⟨some 80, none, .r (.extract 0 (.t 77))⟩, ⟨some 81, none, .r (.extract 1 (.t 77))⟩, ⟨some 21, none, .r (.mov (.t 80))⟩, ⟨some 22, none, .r (.mov (.t 81))⟩])
  (.seq (.region [⟨some 82, none, .r (.mov (.t 7))⟩, ⟨some 83, none, .r (.mov (.t 82))⟩, ⟨some 84, (some (83, true)), .r (.mov (.t 22))⟩, ⟨some 85, none, .r (.pick (.t 83) (.t 84) (.c (.bool false)))⟩, ⟨some 86, none, .r (.mov (.t 85))⟩, ⟨some 87, (some (86, true)), .r (.mov (.t 21))⟩, ⟨some 88, (some (86, true)), .r (.mov (.t 0))⟩, ⟨some 89, (some (86, true)), .call .ro (.c (.fn n_ref36_Bytes [] [])) [.t 87, .t 88]⟩, ⟨some 90, none, .r (.pick (.t 86) (.t 89) (.c (.bool false)))⟩, ⟨some 6, none, .r (.mov (.t 90))⟩])
  (.ret)))))))))),
  [.t 6]⟩
/-- slotmeshlaw36.ImageOnlyRight -/
def m_law36_ImageOnlyRight : MFun := ⟨.seq (.region [⟨some 12, none, .r (.mov (.c (.bool false)))⟩])
  (.seq (.region [⟨some 31, none, .call .ro (.c (.fn n_law36_head [] [])) []⟩, ⟨some 13, none, .r (.mov (.t 31))⟩])
  (.seq (.seq (.region [⟨some 32, none, .r (.mov (.t 0))⟩, ⟨some 33, none, .r (.len (.t 32))⟩, ⟨some 34, none, .r (.bin .lss (.t 33) (.c (.int .i64 1)))⟩, ⟨some 35, none, .r (.mov (.t 34))⟩, ⟨some 36, (some (35, false)), .r (.mov (.t 0))⟩, ⟨some 37, (some (35, false)), .r (.len (.t 36))⟩, ⟨some 38, (some (35, false)), .r (.bin .gtr (.t 37) (.c (.int .i64 4096)))⟩, ⟨some 39, none, .r (.pick (.t 35) (.c (.bool true)) (.t 38))⟩, ⟨some 40, none, .r (.mov (.t 39))⟩, ⟨some 41, (some (40, false)), .r (.mov (.t 3))⟩, ⟨some 42, (some (40, false)), .r (.bin .eql (.t 41) (.c (.int .u8 0)))⟩, ⟨some 43, none, .r (.pick (.t 40) (.c (.bool true)) (.t 42))⟩])
  (.cond (.t 43) (.seq (.region [⟨some 44, none, .r (.mov (.t 13))⟩, ⟨some 12, none, .r (.mov (.t 44))⟩])
    (.ret))
  (.skip)))
  (.seq (.region [⟨some 45, none, .r (.mov (.t 1))⟩, ⟨some 46, none, .r (.conv .i64 (.t 45))⟩, ⟨some 47, none, .r (.mov (.t 0))⟩, ⟨some 48, none, .r (.len (.t 47))⟩, ⟨some 49, none, .r (.bin .add (.t 48) (.c (.int .i64 255)))⟩, ⟨some 50, none, .r (.bin .quo (.t 49) (.c (.int .i64 256)))⟩, ⟨some 51, none, .r (.bin .rem (.t 46) (.t 50))⟩, ⟨some 14, none, .r (.mov (.t 51))⟩])
  (.seq (.region [⟨some 53, none, .r (.mov (.t 0))⟩, ⟨some 54, none, .r (.mov (.t 14))⟩, ⟨some 55, none, .call .ro (.c (.fn n_law36_loaded [] [])) [.t 53, .c (.int .i64 1), .t 54]⟩, ⟨some 52, none, .r (.mov (.t 55))⟩, ⟨some 56, none, .r (.extract 0 (.t 52))⟩, ⟨some 57, none, .r (.extract 1 (.t 52))⟩, ⟨some 58, none, .r (.extract 2 (.t 52))⟩, ⟨some 15, none, .r (.alloc [.int .i64 0, .int .i64 0, .int .u64 0, .int .i64 0, .tree [] true true, .tree [] true true, .tree [] true true, .tree [] true true, .int .i64 0, .int .i64 0, .int .i64 0, .int .i64 0, .int .i64 0])⟩, ⟨none, none, .w (.store 13 (.t 15) (.t 56))⟩, ⟨some 16, none, .r (.mov (.t 57))⟩, ⟨some 17, none, .r (.mov (.t 58))⟩])
  (.seq (.seq (.region [⟨some 59, none, .r (.mov (.t 17))⟩, ⟨some 60, none, .r (.not (.t 59))⟩, ⟨some 61, none, .r (.mov (.t 60))⟩, ⟨some 62, (some (61, false)), .r (.mov (.t 14))⟩, ⟨some 63, (some (61, false)), .r (.mov (.t 16))⟩, ⟨some 64, (some (61, false)), .r (.len (.t 63))⟩, ⟨some 65, (some (61, false)), .r (.bin .geq (.t 62) (.t 64))⟩, ⟨some 66, none, .r (.pick (.t 61) (.c (.bool true)) (.t 65))⟩, ⟨some 67, none, .r (.mov (.t 66))⟩, ⟨some 68, (some (67, false)), .r (.mov (.t 16))⟩, ⟨some 69, (some (67, false)), .r (.mov (.t 14))⟩, ⟨some 70, (some (67, false)), .r (.iaddr 1 (.t 68) (.t 69))⟩, ⟨some 71, (some (67, false)), .r (.load 1 false (.t 70))⟩, ⟨some 72, (some (67, false)), .r (.len (.t 71))⟩, ⟨some 73, (some (67, false)), .r (.bin .neq (.t 72) (.c (.int .i64 256)))⟩, ⟨some 74, none, .r (.pick (.t 67) (.c (.bool true)) (.t 73))⟩])
  (.cond (.t 74) (.seq (.region [⟨some 12, none, .r (.mov (.c (.bool false)))⟩])
    (.ret))
  (.skip)))
  (.seq (.region [⟨some 76, none, .r (.mov (.t 16))⟩, ⟨some 77, none, .r (.mov (.t 14))⟩, ⟨some 78, none, .call .ro (.c (.fn n_tree_Proof [] [])) [.t 76, .t 77]⟩, ⟨some 75, none, .r (.mov (.t 78))⟩, ⟨some 79, none, .r (.extract 0 (.t 75))⟩, ⟨some 80, none, .r (.extract 1 (.t 75))⟩, ⟨some 18, none, .r (.mov (.t 79))⟩, ⟨some 19, none, .r (.mov (.t 80))⟩])
  (.seq (.seq (.region [⟨some 81, none, .r (.mov (.t 19))⟩, ⟨some 82, none, .r (.bin .neq (.t 81) (.c (.int .i64 0)))⟩])
  (.cond (.t 82) (.seq (.region [⟨some 12, none, .r (.mov (.c (.bool false)))⟩])
    (.ret))
  (.skip)))
  (.seq (.region [⟨some 83, none, .r (.bslice 1 [])⟩, ⟨some 84, none, .r (.mov (.t 16))⟩, ⟨some 85, none, .r (.mov (.t 14))⟩, ⟨some 86, none, .r (.iaddr 1 (.t 84) (.t 85))⟩, ⟨some 87, none, .r (.load 1 false (.t 86))⟩, ⟨some 88, none, .w (.append 1 (.t 83) (.t 87))⟩, ⟨some 20, none, .r (.mov (.t 88))⟩])
  (.seq (.region [⟨some 89, none, .r (.mov (.t 20))⟩, ⟨some 90, none, .r (.mov (.t 2))⟩, ⟨some 91, none, .r (.conv .i64 (.t 90))⟩, ⟨some 92, none, .r (.bin .rem (.t 91) (.c (.int .i64 256)))⟩, ⟨some 93, none, .r (.iaddr 1 (.t 89) (.t 92))⟩, ⟨some 94, none, .r (.load 1 false (.t 93))⟩, ⟨some 95, none, .r (.mov (.t 3))⟩, ⟨some 96, none, .r (.bin .xor (.t 94) (.t 95))⟩, ⟨some 97, none, .r (.iaddr 1 (.t 89) (.t 92))⟩, ⟨none, none, .w (.store 1 (.t 97) (.t 96))⟩])
  (.seq (.region [⟨some 99, none, .r (.load 13 true (.t 15))⟩, ⟨some 100, none, .w (.frz (.t 20))⟩, ⟨some 101, none, .r (.mov (.t 18))⟩, ⟨some 102, none, .call .ro (.c (.fn n_image_Put [] [])) [.t 99, .t 100, .t 101]⟩, ⟨some 98, none, .r (.mov (.t 102))⟩, ⟨some 103, none, .r (.extract 0 (.t 98))⟩, ⟨some 104, none, .r (.extract 1 (.t 98))⟩, ⟨some 21, none, .r (.alloc [.int .i64 0, .int .i64 0, .int .u64 0, .int .i64 0, .tree [] true true, .tree [] true true, .tree [] true true, .tree [] true true, .int .i64 0, .int .i64 0, .int .i64 0, .int .i64 0, .int .i64 0])⟩, ⟨none, none, .w (.store 13 (.t 21) (.t 103))⟩, ⟨some 22, none, .r (.mov (.t 104))⟩])
  (.seq (.draw [(0, 4), (0, 13), (4, 13), (0, 18), (4, 18), (13, 18), (14, 18)] [⟨some 106, none, .r (.load 13 true (.t 15))⟩, ⟨some 107, none, .r (.mov (.t 16))⟩, ⟨some 108, none, .r (.mov (.t 14))⟩, ⟨some 109, none, .r (.iaddr 1 (.t 107) (.t 108))⟩, ⟨some 110, none, .r (.load 1 false (.t 109))⟩, ⟨some 111, none, .r (.mov (.t 18))⟩, ⟨some 112, none, .r (.mov (.t 18))⟩, ⟨some 113, none, .r (.len (.t 112))⟩, ⟨some 114, none, .r (.mov (.t 18))⟩, ⟨some 115, none, .r (.len (.t 114))⟩, ⟨some 116, none, .r (.slice 1 (.t 111) none (some (.t 113)) (some (.t 115)))⟩, ⟨some 117, none, .r (.mov (.t 5))⟩, ⟨some 118, none, .r (.bslice 1 [.t 117])⟩, ⟨some 119, none, .w (.appendT 1 (.t 116) (.t 118))⟩, ⟨some 120, none, .call .ro (.c (.fn n_image_Put [] [])) [.t 106, .t 110, .t 119]⟩, ⟨some 105, none, .r (.mov (.t 120))⟩, ⟨some 121, none, .r (.extract 0 (.t 105))⟩, ⟨some 122, none, .r (.extract 1 (.t 105))⟩, ⟨some 23, none, .r (.alloc [.int .i64 0, .int .i64 0, .int .u64 0, .int .i64 0, .tree [] true true, .tree [] true true, .tree [] true true, .tree [] true true, .int .i64 0, .int .i64 0, .int .i64 0, .int .i64 0, .int .i64 0])⟩, ⟨none, none, .w (.store 13 (.t 23) (.t 121))⟩, ⟨some 24, none, .r (.mov (.t 122))⟩])
  (.seq (.seq (.region [⟨some 123, none, .r (.mov (.t 22))⟩, ⟨some 124, none, .r (.bin .neq (.t 123) (.c (.int .i64 12)))⟩, ⟨some 125, none, .r (.mov (.t 124))⟩, ⟨some 126, (some (125, false)), .r (.mov (.t 24))⟩, ⟨some 127, (some (125, false)), .r (.bin .neq (.t 126) (.c (.int .i64 12)))⟩, ⟨some 128, none, .r (.pick (.t 125) (.c (.bool true)) (.t 127))⟩])
  (.cond (.t 128) (.seq (.region [⟨some 12, none, .r (.mov (.c (.bool false)))⟩])
    (.ret))
  (.skip)))
  (.seq (.seq (.region [⟨some 129, none, .r (.mov (.t 18))⟩, ⟨some 130, none, .r (.len (.t 129))⟩, ⟨some 131, none, .r (.bin .eql (.t 130) (.c (.int .i64 0)))⟩])
  (.cond (.t 131) (.seq (.region [⟨some 132, none, .r (.mov (.t 13))⟩, ⟨some 12, none, .r (.mov (.t 132))⟩])
    (.ret))
  (.skip)))
  (.seq (.draw [(0, 4), (0, 14), (4, 14), (10, 14)] [⟨some 134, none, .r (.load 13 true (.t 15))⟩, ⟨some 135, none, .r (.mov (.t 16))⟩, ⟨some 136, none, .r (.mov (.t 14))⟩, ⟨some 137, none, .r (.iaddr 1 (.t 135) (.t 136))⟩, ⟨some 138, none, .r (.load 1 false (.t 137))⟩, ⟨some 139, none, .r (.mov (.t 18))⟩, ⟨some 140, none, .r (.mov (.t 18))⟩, ⟨some 141, none, .r (.len (.t 140))⟩, ⟨some 142, none, .r (.bin .sub (.t 141) (.c (.int .i64 1)))⟩, ⟨some 143, none, .r (.slice 1 (.t 139) none (some (.t 142)) none)⟩, ⟨some 144, none, .call .ro (.c (.fn n_image_Put [] [])) [.t 134, .t 138, .t 143]⟩, ⟨some 133, none, .r (.mov (.t 144))⟩, ⟨some 145, none, .r (.extract 0 (.t 133))⟩, ⟨some 146, none, .r (.extract 1 (.t 133))⟩, ⟨some 25, none, .r (.alloc [.int .i64 0, .int .i64 0, .int .u64 0, .int .i64 0, .tree [] true true, .tree [] true true, .tree [] true true, .tree [] true true, .int .i64 0, .int .i64 0, .int .i64 0, .int .i64 0, .int .i64 0])⟩, ⟨none, none, .w (.store 13 (.t 25) (.t 145))⟩, ⟨some 26, none, .r (.mov (.t 146))⟩])
  (.seq (.region [⟨some 147, none, .r (.bslice 1 [])⟩, ⟨some 148, none, .r (.mov (.t 18))⟩, ⟨some 149, none, .w (.append 1 (.t 147) (.t 148))⟩, ⟨some 27, none, .r (.mov (.t 149))⟩])
  (.seq (.region [⟨some 150, none, .r (.mov (.t 4))⟩, ⟨some 151, none, .r (.conv .i64 (.t 150))⟩, ⟨some 152, none, .r (.mov (.t 27))⟩, ⟨some 153, none, .r (.len (.t 152))⟩, ⟨some 154, none, .r (.bin .rem (.t 151) (.t 153))⟩, ⟨some 28, none, .r (.mov (.t 154))⟩])
  (.seq (.seq (.region [⟨some 155, none, .r (.mov (.t 27))⟩, ⟨some 156, none, .r (.mov (.t 28))⟩, ⟨some 157, none, .r (.iaddr 1 (.t 155) (.t 156))⟩, ⟨some 158, none, .r (.load 1 false (.t 157))⟩, ⟨some 159, none, .r (.mov (.t 5))⟩, ⟨some 160, none, .r (.bin .eql (.t 158) (.t 159))⟩])
  (.cond (.t 160) (.seq (.region [⟨some 161, none, .r (.mov (.t 13))⟩, ⟨some 162, none, .r (.mov (.t 161))⟩, ⟨some 163, (some (162, true)), .r (.mov (.t 26))⟩, ⟨some 164, (some (162, true)), .r (.bin .eql (.t 163) (.c (.int .i64 12)))⟩, ⟨some 165, none, .r (.pick (.t 162) (.t 164) (.c (.bool false)))⟩, ⟨some 12, none, .r (.mov (.t 165))⟩])
    (.ret))
  (.skip)))
  (.seq (.region [⟨some 166, none, .r (.mov (.t 27))⟩, ⟨some 167, none, .r (.mov (.t 28))⟩, ⟨some 168, none, .r (.mov (.t 5))⟩, ⟨some 169, none, .r (.iaddr 1 (.t 166) (.t 167))⟩, ⟨none, none, .w (.store 1 (.t 169) (.t 168))⟩])
  (.seq (.draw [(0, 4), (0, 5), (4, 5), (0, 10), (4, 10), (5, 10), (6, 10)] [⟨some 171, none, .r (.load 13 true (.t 15))⟩, ⟨some 172, none, .r (.mov (.t 16))⟩, ⟨some 173, none, .r (.mov (.t 14))⟩, ⟨some 174, none, .r (.iaddr 1 (.t 172) (.t 173))⟩, ⟨some 175, none, .r (.load 1 false (.t 174))⟩, ⟨some 176, none, .w (.frz (.t 27))⟩, ⟨some 177, none, .call .ro (.c (.fn n_image_Put [] [])) [.t 171, .t 175, .t 176]⟩, ⟨some 170, none, .r (.mov (.t 177))⟩, ⟨some 178, none, .r (.extract 0 (.t 170))⟩, ⟨some 179, none, .r (.extract 1 (.t 170))⟩, ⟨some 29, none, .r (.alloc [.int .i64 0, .int .i64 0, .int .u64 0, .int .i64 0, .tree [] true true, .tree [] true true, .tree [] true true, .tree [] true true, .int .i64 0, .int .i64 0, .int .i64 0, .int .i64 0, .int .i64 0])⟩, ⟨none, none, .w (.store 13 (.t 29) (.t 178))⟩, ⟨some 30, none, .r (.mov (.t 179))⟩])
  (.seq (.region [⟨some 180, none, .r (.mov (.t 13))⟩, ⟨some 181, none, .r (.mov (.t 180))⟩, ⟨some 182, (some (181, true)), .r (.mov (.t 26))⟩, ⟨some 183, (some (181, true)), .r (.bin .eql (.t 182) (.c (.int .i64 12)))⟩, ⟨some 184, none, .r (.pick (.t 181) (.t 183) (.c (.bool false)))⟩, ⟨some 185, none, .r (.mov (.t 184))⟩, ⟨some 186, (some (185, true)), .r (.mov (.t 30))⟩, ⟨some 187, (some (185, true)), .r (.bin .eql (.t 186) (.c (.int .i64 12)))⟩, ⟨some 188, none, .r (.pick (.t 185) (.t 187) (.c (.bool false)))⟩, ⟨some 12, none, .r (.mov (.t 188))⟩])
  (.ret))))))))))))))))))))),
  [.t 12]⟩
/-- slotmeshlaw36.head -/
def m_law36_head : MFun := ⟨.seq (.region [⟨some 0, none, .r (.mov (.c (.bool false)))⟩])
  (.seq (.region [⟨some 26, none, .call .ro (.c (.fn n_law36_sample [] [])) []⟩, ⟨some 1, none, .r (.mov (.t 26))⟩])
  (.seq (.region [⟨some 28, none, .r (.mov (.t 1))⟩, ⟨some 29, none, .call .ro (.c (.fn n_image_Split [] [])) [.t 28]⟩, ⟨some 27, none, .r (.mov (.t 29))⟩, ⟨some 30, none, .r (.extract 0 (.t 27))⟩, ⟨some 31, none, .r (.extract 1 (.t 27))⟩, ⟨some 2, none, .r (.mov (.t 30))⟩, ⟨some 3, none, .r (.mov (.t 31))⟩])
  (.seq (.region [⟨some 33, none, .r (.mov (.t 1))⟩, ⟨some 34, none, .call .ro (.c (.fn n_image_Announce [] [])) [.c (.int .i64 3), .t 33, .c (.int .i64 50)]⟩, ⟨some 32, none, .r (.mov (.t 34))⟩, ⟨some 35, none, .r (.extract 0 (.t 32))⟩, ⟨some 36, none, .r (.extract 1 (.t 32))⟩, ⟨some 4, none, .r (.alloc [.int .i64 0, .int .i64 0, .int .u64 0, .int .i64 0])⟩, ⟨none, none, .w (.store 4 (.t 4) (.t 35))⟩, ⟨some 5, none, .r (.mov (.t 36))⟩])
  (.seq (.seq (.region [⟨some 37, none, .r (.mov (.t 3))⟩, ⟨some 38, none, .r (.bin .neq (.t 37) (.c (.int .i64 0)))⟩, ⟨some 39, none, .r (.mov (.t 38))⟩, ⟨some 40, (some (39, false)), .r (.mov (.t 5))⟩, ⟨some 41, (some (39, false)), .r (.bin .neq (.t 40) (.c (.int .i64 0)))⟩, ⟨some 42, none, .r (.pick (.t 39) (.c (.bool true)) (.t 41))⟩, ⟨some 43, none, .r (.mov (.t 42))⟩, ⟨some 44, (some (43, false)), .r (.mov (.t 2))⟩, ⟨some 45, (some (43, false)), .r (.len (.t 44))⟩, ⟨some 46, (some (43, false)), .r (.bin .neq (.t 45) (.c (.int .i64 2)))⟩, ⟨some 47, none, .r (.pick (.t 43) (.c (.bool true)) (.t 46))⟩, ⟨some 48, none, .r (.mov (.t 47))⟩, ⟨some 49, (some (48, false)), .r (.mov (.t 2))⟩, ⟨some 50, (some (48, false)), .r (.iaddr 1 (.t 49) (.c (.int .i64 0)))⟩, ⟨some 51, (some (48, false)), .r (.load 1 false (.t 50))⟩, ⟨some 52, (some (48, false)), .r (.len (.t 51))⟩, ⟨some 53, (some (48, false)), .r (.bin .neq (.t 52) (.c (.int .i64 256)))⟩, ⟨some 54, none, .r (.pick (.t 48) (.c (.bool true)) (.t 53))⟩, ⟨some 55, none, .r (.mov (.t 54))⟩, ⟨some 56, (some (55, false)), .r (.mov (.t 2))⟩, ⟨some 57, (some (55, false)), .r (.iaddr 1 (.t 56) (.c (.int .i64 1)))⟩, ⟨some 58, (some (55, false)), .r (.load 1 false (.t 57))⟩, ⟨some 59, (some (55, false)), .r (.len (.t 58))⟩, ⟨some 60, (some (55, false)), .r (.bin .neq (.t 59) (.c (.int .i64 256)))⟩, ⟨some 61, none, .r (.pick (.t 55) (.c (.bool true)) (.t 60))⟩, ⟨some 62, none, .r (.mov (.t 61))⟩, ⟨some 63, (some (62, false)), .r (.mov (.t 2))⟩, ⟨some 64, (some (62, false)), .r (.iaddr 1 (.t 63) (.c (.int .i64 1)))⟩, ⟨some 65, (some (62, false)), .r (.load 1 false (.t 64))⟩, ⟨some 66, (some (62, false)), .r (.iaddr 1 (.t 65) (.c (.int .i64 43)))⟩, ⟨some 67, (some (62, false)), .r (.load 1 false (.t 66))⟩, ⟨some 68, (some (62, false)), .r (.bin .neq (.t 67) (.c (.int .u8 45)))⟩, ⟨some 69, none, .r (.pick (.t 62) (.c (.bool true)) (.t 68))⟩, ⟨some 70, none, .r (.mov (.t 69))⟩, ⟨some 71, (some (70, false)), .r (.mov (.t 2))⟩, ⟨some 72, (some (70, false)), .r (.iaddr 1 (.t 71) (.c (.int .i64 1)))⟩, ⟨some 73, (some (70, false)), .r (.load 1 false (.t 72))⟩, ⟨some 74, (some (70, false)), .r (.iaddr 1 (.t 73) (.c (.int .i64 44)))⟩, ⟨some 75, (some (70, false)), .r (.load 1 false (.t 74))⟩, ⟨some 76, (some (70, false)), .r (.bin .neq (.t 75) (.c (.int .u8 0)))⟩, ⟨some 77, none, .r (.pick (.t 70) (.c (.bool true)) (.t 76))⟩])
  (.cond (.t 77) (.seq (.region [⟨some 0, none, .r (.mov (.c (.bool false)))⟩])
    (.ret))
  (.skip)))
  (.seq (.region [⟨some 79, none, .r (.mov (.t 2))⟩, ⟨some 80, none, .call .ro (.c (.fn n_image_Join [] [])) [.t 79, .c (.int .i64 300)]⟩, ⟨some 78, none, .r (.mov (.t 80))⟩, ⟨some 81, none, .r (.extract 0 (.t 78))⟩, ⟨some 82, none, .r (.extract 1 (.t 78))⟩, ⟨some 6, none, .r (.mov (.t 81))⟩, ⟨some 7, none, .r (.mov (.t 82))⟩])
  (.seq (.region [⟨some 84, none, .r (.mov (.t 2))⟩, ⟨some 85, none, .call .ro (.c (.fn n_image_Join [] [])) [.t 84, .c (.int .i64 299)]⟩, ⟨some 83, none, .r (.mov (.t 85))⟩, ⟨some 86, none, .r (.extract 0 (.t 83))⟩, ⟨some 87, none, .r (.extract 1 (.t 83))⟩, ⟨some 8, none, .r (.mov (.t 86))⟩, ⟨some 9, none, .r (.mov (.t 87))⟩])
  (.seq (.region [⟨some 89, none, .r (.mov (.t 2))⟩, ⟨some 90, none, .call .ro (.c (.fn n_image_Join [] [])) [.t 89, .c (.int .i64 256)]⟩, ⟨some 88, none, .r (.mov (.t 90))⟩, ⟨some 91, none, .r (.extract 0 (.t 88))⟩, ⟨some 92, none, .r (.extract 1 (.t 88))⟩, ⟨some 10, none, .r (.mov (.t 91))⟩, ⟨some 11, none, .r (.mov (.t 92))⟩])
  (.seq (.draw [(0, 4), (0, 7), (4, 7), (0, 8), (4, 8), (0, 14), (4, 14), (7, 14), (8, 14), (10, 14)] [⟨some 94, none, .r (.load 4 true (.t 4))⟩, ⟨some 95, none, .r (.build [.int .i64 0, .int .i64 0, .int .u64 0, .int .i64 0, .tree [] true true, .tree [] true true, .tree [] true true, .tree [] true true, .int .i64 0, .int .i64 0, .int .i64 0, .int .i64 0, .int .i64 0] [(0, 4, .t 94)])⟩, ⟨some 96, none, .r (.mov (.t 2))⟩, ⟨some 97, none, .r (.iaddr 1 (.t 96) (.c (.int .i64 0)))⟩, ⟨some 98, none, .r (.load 1 false (.t 97))⟩, ⟨some 99, none, .r (.mov (.t 2))⟩, ⟨some 100, none, .r (.iaddr 1 (.t 99) (.c (.int .i64 1)))⟩, ⟨some 101, none, .r (.load 1 false (.t 100))⟩, ⟨some 102, none, .call .ro (.c (.fn n_ref35_Leaf [] [])) [.t 101]⟩, ⟨some 103, none, .r (.bslice 1 [.t 102])⟩, ⟨some 104, none, .call .ro (.c (.fn n_image_Put [] [])) [.t 95, .t 98, .t 103]⟩, ⟨some 93, none, .r (.mov (.t 104))⟩, ⟨some 105, none, .r (.extract 0 (.t 93))⟩, ⟨some 106, none, .r (.extract 1 (.t 93))⟩, ⟨some 12, none, .r (.alloc [.int .i64 0, .int .i64 0, .int .u64 0, .int .i64 0, .tree [] true true, .tree [] true true, .tree [] true true, .tree [] true true, .int .i64 0, .int .i64 0, .int .i64 0, .int .i64 0, .int .i64 0])⟩, ⟨none, none, .w (.store 13 (.t 12) (.t 105))⟩, ⟨some 13, none, .r (.mov (.t 106))⟩])
  (.seq (.region [⟨some 108, none, .r (.load 13 true (.t 12))⟩, ⟨some 109, none, .call .ro (.c (.fn n_image_Whole [] [])) [.t 108]⟩, ⟨some 107, none, .r (.mov (.t 109))⟩, ⟨some 110, none, .r (.extract 0 (.t 107))⟩, ⟨some 111, none, .r (.extract 1 (.t 107))⟩, ⟨some 14, none, .r (.mov (.t 110))⟩, ⟨some 15, none, .r (.mov (.t 111))⟩])
  (.seq (.draw [(0, 3), (0, 6), (3, 6), (0, 7), (3, 7), (0, 13), (3, 13), (6, 13), (7, 13), (9, 13)] [⟨some 113, none, .r (.load 13 true (.t 12))⟩, ⟨some 114, none, .r (.mov (.t 2))⟩, ⟨some 115, none, .r (.iaddr 1 (.t 114) (.c (.int .i64 1)))⟩, ⟨some 116, none, .r (.load 1 false (.t 115))⟩, ⟨some 117, none, .r (.mov (.t 2))⟩, ⟨some 118, none, .r (.iaddr 1 (.t 117) (.c (.int .i64 0)))⟩, ⟨some 119, none, .r (.load 1 false (.t 118))⟩, ⟨some 120, none, .call .ro (.c (.fn n_ref35_Leaf [] [])) [.t 119]⟩, ⟨some 121, none, .r (.bslice 1 [.t 120])⟩, ⟨some 122, none, .call .ro (.c (.fn n_image_Put [] [])) [.t 113, .t 116, .t 121]⟩, ⟨some 112, none, .r (.mov (.t 122))⟩, ⟨some 123, none, .r (.extract 0 (.t 112))⟩, ⟨some 124, none, .r (.extract 1 (.t 112))⟩, ⟨some 16, none, .r (.alloc [.int .i64 0, .int .i64 0, .int .u64 0, .int .i64 0, .tree [] true true, .tree [] true true, .tree [] true true, .tree [] true true, .int .i64 0, .int .i64 0, .int .i64 0, .int .i64 0, .int .i64 0])⟩, ⟨none, none, .w (.store 13 (.t 16) (.t 123))⟩, ⟨some 17, none, .r (.mov (.t 124))⟩])
  (.seq (.region [⟨some 126, none, .r (.load 13 true (.t 16))⟩, ⟨some 127, none, .call .ro (.c (.fn n_image_Whole [] [])) [.t 126]⟩, ⟨some 125, none, .r (.mov (.t 127))⟩, ⟨some 128, none, .r (.extract 0 (.t 125))⟩, ⟨some 129, none, .r (.extract 1 (.t 125))⟩, ⟨some 18, none, .r (.mov (.t 128))⟩, ⟨some 19, none, .r (.mov (.t 129))⟩])
  (.seq (.draw [(0, 3), (0, 6), (3, 6), (0, 7), (3, 7), (0, 13), (3, 13), (6, 13), (7, 13), (9, 13)] [⟨some 131, none, .r (.load 13 true (.t 16))⟩, ⟨some 132, none, .r (.mov (.t 2))⟩, ⟨some 133, none, .r (.iaddr 1 (.t 132) (.c (.int .i64 1)))⟩, ⟨some 134, none, .r (.load 1 false (.t 133))⟩, ⟨some 135, none, .r (.mov (.t 2))⟩, ⟨some 136, none, .r (.iaddr 1 (.t 135) (.c (.int .i64 0)))⟩, ⟨some 137, none, .r (.load 1 false (.t 136))⟩, ⟨some 138, none, .call .ro (.c (.fn n_ref35_Leaf [] [])) [.t 137]⟩, ⟨some 139, none, .r (.bslice 1 [.t 138])⟩, ⟨some 140, none, .call .ro (.c (.fn n_image_Put [] [])) [.t 131, .t 134, .t 139]⟩, ⟨some 130, none, .r (.mov (.t 140))⟩, ⟨some 141, none, .r (.extract 0 (.t 130))⟩, ⟨some 142, none, .r (.extract 1 (.t 130))⟩, ⟨some 20, none, .r (.alloc [.int .i64 0, .int .i64 0, .int .u64 0, .int .i64 0, .tree [] true true, .tree [] true true, .tree [] true true, .tree [] true true, .int .i64 0, .int .i64 0, .int .i64 0, .int .i64 0, .int .i64 0])⟩, ⟨none, none, .w (.store 13 (.t 20) (.t 141))⟩, ⟨some 21, none, .r (.mov (.t 142))⟩])
  (.seq (.draw [(0, 3), (0, 6), (3, 6), (0, 7), (3, 7), (0, 14), (3, 14), (6, 14), (7, 14), (10, 14)] [⟨some 144, none, .r (.load 13 true (.t 12))⟩, ⟨some 145, none, .r (.mov (.t 2))⟩, ⟨some 146, none, .r (.iaddr 1 (.t 145) (.c (.int .i64 1)))⟩, ⟨some 147, none, .r (.load 1 false (.t 146))⟩, ⟨some 148, none, .r (.mov (.t 2))⟩, ⟨some 149, none, .r (.iaddr 1 (.t 148) (.c (.int .i64 0)))⟩, ⟨some 150, none, .r (.load 1 false (.t 149))⟩, ⟨some 151, none, .call .ro (.c (.fn n_ref35_Leaf [] [])) [.t 150]⟩, ⟨some 152, none, .r (.bin .xor (.t 151) (.c (.int .u64 1)))⟩, ⟨some 153, none, .r (.bslice 1 [.t 152])⟩, ⟨some 154, none, .call .ro (.c (.fn n_image_Put [] [])) [.t 144, .t 147, .t 153]⟩, ⟨some 143, none, .r (.mov (.t 154))⟩, ⟨some 155, none, .r (.extract 0 (.t 143))⟩, ⟨some 156, none, .r (.extract 1 (.t 143))⟩, ⟨some 22, none, .r (.alloc [.int .i64 0, .int .i64 0, .int .u64 0, .int .i64 0, .tree [] true true, .tree [] true true, .tree [] true true, .tree [] true true, .int .i64 0, .int .i64 0, .int .i64 0, .int .i64 0, .int .i64 0])⟩, ⟨none, none, .w (.store 13 (.t 22) (.t 155))⟩, ⟨some 23, none, .r (.mov (.t 156))⟩])
  (.seq (.region [⟨some 158, none, .call .ro (.c (.fn n_image_Split [] [])) [.c (.tree [] true true)]⟩, ⟨some 157, none, .r (.mov (.t 158))⟩, ⟨some 159, none, .r (.extract 0 (.t 157))⟩, ⟨some 160, none, .r (.extract 1 (.t 157))⟩, ⟨some 24, none, .r (.mov (.t 159))⟩, ⟨some 25, none, .r (.mov (.t 160))⟩])
  (.seq (.region [⟨some 161, none, .r (.mov (.t 7))⟩, ⟨some 162, none, .r (.bin .eql (.t 161) (.c (.int .i64 0)))⟩, ⟨some 163, none, .r (.mov (.t 162))⟩, ⟨some 164, (some (163, true)), .r (.mov (.t 9))⟩, ⟨some 165, (some (163, true)), .r (.bin .eql (.t 164) (.c (.int .i64 12)))⟩, ⟨some 166, none, .r (.pick (.t 163) (.t 165) (.c (.bool false)))⟩, ⟨some 167, none, .r (.mov (.t 166))⟩, ⟨some 168, (some (167, true)), .r (.mov (.t 11))⟩, ⟨some 169, (some (167, true)), .r (.bin .eql (.t 168) (.c (.int .i64 1)))⟩, ⟨some 170, none, .r (.pick (.t 167) (.t 169) (.c (.bool false)))⟩, ⟨some 171, none, .r (.mov (.t 170))⟩, ⟨some 172, (some (171, true)), .r (.mov (.t 13))⟩, ⟨some 173, (some (171, true)), .r (.bin .eql (.t 172) (.c (.int .i64 0)))⟩, ⟨some 174, none, .r (.pick (.t 171) (.t 173) (.c (.bool false)))⟩, ⟨some 175, none, .r (.mov (.t 174))⟩, ⟨some 176, (some (175, true)), .r (.mov (.t 17))⟩, ⟨some 177, (some (175, true)), .r (.bin .eql (.t 176) (.c (.int .i64 0)))⟩, ⟨some 178, none, .r (.pick (.t 175) (.t 177) (.c (.bool false)))⟩, ⟨some 179, none, .r (.mov (.t 178))⟩, ⟨some 180, (some (179, true)), .r (.mov (.t 21))⟩, ⟨some 181, (some (179, true)), .r (.bin .eql (.t 180) (.c (.int .i64 10)))⟩, ⟨some 182, none, .r (.pick (.t 179) (.t 181) (.c (.bool false)))⟩, ⟨some 183, none, .r (.mov (.t 182))⟩, ⟨some 184, (some (183, true)), .r (.mov (.t 23))⟩, ⟨some 185, (some (183, true)), .r (.bin .eql (.t 184) (.c (.int .i64 12)))⟩, ⟨some 186, none, .r (.pick (.t 183) (.t 185) (.c (.bool false)))⟩, ⟨some 187, none, .r (.mov (.t 186))⟩, ⟨some 188, (some (187, true)), .r (.mov (.t 25))⟩, ⟨some 189, (some (187, true)), .r (.bin .eql (.t 188) (.c (.int .i64 1)))⟩, ⟨some 190, none, .r (.pick (.t 187) (.t 189) (.c (.bool false)))⟩, ⟨some 191, none, .r (.mov (.t 190))⟩, ⟨some 192, (some (191, true)), .r (.mov (.t 15))⟩, ⟨some 193, (some (191, true)), .r (.not (.t 192))⟩, ⟨some 194, none, .r (.pick (.t 191) (.t 193) (.c (.bool false)))⟩, ⟨some 195, none, .r (.mov (.t 194))⟩, ⟨some 196, (some (195, true)), .r (.mov (.t 19))⟩, ⟨some 197, none, .r (.pick (.t 195) (.t 196) (.c (.bool false)))⟩, ⟨some 198, none, .r (.mov (.t 197))⟩, ⟨some 199, (some (198, true)), .r (.mov (.t 6))⟩, ⟨some 200, (some (198, true)), .r (.mov (.t 1))⟩, ⟨some 201, (some (198, true)), .call .ro (.c (.fn n_ref36_Bytes [] [])) [.t 199, .t 200]⟩, ⟨some 202, none, .r (.pick (.t 198) (.t 201) (.c (.bool false)))⟩, ⟨some 203, none, .r (.mov (.t 202))⟩, ⟨some 204, (some (203, true)), .r (.mov (.t 18))⟩, ⟨some 205, (some (203, true)), .r (.mov (.t 1))⟩, ⟨some 206, (some (203, true)), .call .ro (.c (.fn n_ref36_Bytes [] [])) [.t 204, .t 205]⟩, ⟨some 207, none, .r (.pick (.t 203) (.t 206) (.c (.bool false)))⟩, ⟨some 208, none, .r (.mov (.t 207))⟩, ⟨some 209, (some (208, true)), .r (.load 4 true (.t 4))⟩, ⟨some 210, (some (208, true)), .r (.faddr 2 (.t 4))⟩, ⟨some 211, (some (208, true)), .r (.load 1 false (.t 210))⟩, ⟨some 212, (some (208, true)), .r (.build [.int .i64 0, .int .i64 0, .int .u64 0, .int .i64 0] [(0, 1, .c (.int .i64 3)), (1, 1, .c (.int .i64 300)), (2, 1, .t 211), (3, 1, .c (.int .i64 50))])⟩, ⟨some 213, (some (208, true)), .r (.eqa false 4 (.t 209) (.t 212))⟩, ⟨some 214, none, .r (.pick (.t 208) (.t 213) (.c (.bool false)))⟩, ⟨some 0, none, .r (.mov (.t 214))⟩])
  (.ret)))))))))))))))),
  [.t 0]⟩
/-- slotmeshlaw36.short -/
def b_law36_short_0 : MCode := .seq (.region [⟨some 10, none, .r (.bin .lss (.t 9) (.t 8))⟩])
  (.seq (.cond (.t 10) (.skip)
  (.trim [0, 1] (.exit 0)))
  (.seq (.block 1
  (.seq (.region [⟨some 11, none, .r (.iaddr 1 (.t 7) (.t 9))⟩, ⟨some 12, none, .r (.load 1 false (.t 11))⟩, ⟨some 6, none, .r (.mov (.t 12))⟩])
    (.seq (.region [⟨some 13, none, .r (.mov (.t 6))⟩, ⟨some 14, none, .r (.len (.t 13))⟩, ⟨some 15, none, .r (.bin .gtr (.t 14) (.c (.int .i64 1000)))⟩])
    (.cond (.t 15) (.seq (.region [⟨some 4, none, .r (.mov (.c (.bool false)))⟩])
      (.ret))
    (.skip)))))
  (.region [⟨some 16, none, .r (.bin .add (.t 9) (.c (.int .i64 1)))⟩, ⟨some 9, none, .r (.mov (.t 16))⟩])))
def l_law36_short_0 : MCode := .loop (.trim [0, 1, 7, 8, 9] b_law36_short_0)
def m_law36_short : MFun := ⟨.seq (.region [⟨some 4, none, .r (.mov (.c (.bool false)))⟩])
  (.seq (.seq (.region [⟨some 7, none, .r (.mov (.t 1))⟩, ⟨some 8, none, .r (.len (.t 7))⟩, ⟨some 9, none, .r (.mov (.c (.int .i64 0)))⟩])
  (.block 0
  (l_law36_short_0)))
  (.seq (.region [⟨some 17, none, .r (.mov (.t 0))⟩, ⟨some 18, none, .r (.len (.t 17))⟩, ⟨some 19, none, .r (.bin .leq (.t 18) (.c (.int .i64 4106)))⟩, ⟨some 20, none, .r (.mov (.t 19))⟩, ⟨some 21, (some (20, true)), .r (.mov (.t 1))⟩, ⟨some 22, (some (20, true)), .r (.len (.t 21))⟩, ⟨some 23, (some (20, true)), .r (.bin .leq (.t 22) (.c (.int .i64 20)))⟩, ⟨some 24, none, .r (.pick (.t 20) (.t 23) (.c (.bool false)))⟩, ⟨some 4, none, .r (.mov (.t 24))⟩])
  (.ret))),
  [.t 4]⟩
/-- slotmeshref36.Few -/
def b_ref36_Few_0 : MCode := .seq (.seq (.region [⟨some 28, none, .r (.mov (.t 3))⟩, ⟨some 29, none, .r (.faddr 4 (.t 1))⟩, ⟨some 30, none, .r (.load 1 false (.t 29))⟩, ⟨some 31, none, .r (.len (.t 30))⟩, ⟨some 32, none, .r (.bin .lss (.t 28) (.t 31))⟩])
  (.cond (.t 32) (.skip)
  (.trim [1] (.exit 0))))
  (.seq (.block 1
  (.seq (.region [⟨some 35, none, .r (.faddr 4 (.t 1))⟩, ⟨some 36, none, .r (.load 1 false (.t 35))⟩, ⟨some 37, none, .r (.mov (.t 3))⟩, ⟨some 38, none, .r (.iaddr 1 (.t 36) (.t 37))⟩, ⟨some 39, none, .r (.load 1 false (.t 38))⟩, ⟨some 40, none, .r (.len (.t 39))⟩, ⟨some 41, none, .r (.bin .gtr (.t 40) (.c (.int .i64 1000)))⟩])
    (.cond (.t 41) (.seq (.region [⟨some 2, none, .r (.mov (.c (.bool false)))⟩])
      (.ret))
    (.skip))))
  (.region [⟨some 33, none, .r (.mov (.t 3))⟩, ⟨some 34, none, .r (.bin .add (.t 33) (.c (.int .i64 1)))⟩, ⟨some 3, none, .r (.mov (.t 34))⟩]))
def l_ref36_Few_0 : MCode := .loop (.trim [1, 3] b_ref36_Few_0)
def b_ref36_Few_1 : MCode := .seq (.seq (.region [⟨some 42, none, .r (.mov (.t 4))⟩, ⟨some 43, none, .r (.faddr 5 (.t 1))⟩, ⟨some 44, none, .r (.load 1 false (.t 43))⟩, ⟨some 45, none, .r (.len (.t 44))⟩, ⟨some 46, none, .r (.bin .lss (.t 42) (.t 45))⟩])
  (.cond (.t 46) (.skip)
  (.trim [1] (.exit 2))))
  (.seq (.block 3
  (.seq (.region [⟨some 49, none, .r (.faddr 5 (.t 1))⟩, ⟨some 50, none, .r (.load 1 false (.t 49))⟩, ⟨some 51, none, .r (.mov (.t 4))⟩, ⟨some 52, none, .r (.iaddr 1 (.t 50) (.t 51))⟩, ⟨some 53, none, .r (.load 1 false (.t 52))⟩, ⟨some 54, none, .r (.len (.t 53))⟩, ⟨some 55, none, .r (.bin .gtr (.t 54) (.c (.int .i64 40)))⟩])
    (.cond (.t 55) (.seq (.region [⟨some 2, none, .r (.mov (.c (.bool false)))⟩])
      (.ret))
    (.skip))))
  (.region [⟨some 47, none, .r (.mov (.t 4))⟩, ⟨some 48, none, .r (.bin .add (.t 47) (.c (.int .i64 1)))⟩, ⟨some 4, none, .r (.mov (.t 48))⟩]))
def l_ref36_Few_1 : MCode := .loop (.trim [1, 4] b_ref36_Few_1)
def b_ref36_Few_2 : MCode := .seq (.seq (.region [⟨some 56, none, .r (.mov (.t 5))⟩, ⟨some 57, none, .r (.faddr 6 (.t 1))⟩, ⟨some 58, none, .r (.load 1 false (.t 57))⟩, ⟨some 59, none, .r (.len (.t 58))⟩, ⟨some 60, none, .r (.bin .lss (.t 56) (.t 59))⟩])
  (.cond (.t 60) (.skip)
  (.trim [] (.exit 4))))
  (.seq (.block 5
  (.seq (.region [⟨some 63, none, .r (.faddr 6 (.t 1))⟩, ⟨some 64, none, .r (.load 1 false (.t 63))⟩, ⟨some 65, none, .r (.mov (.t 5))⟩, ⟨some 66, none, .r (.iaddr 2 (.t 64) (.t 65))⟩, ⟨some 67, none, .r (.faddr 1 (.t 66))⟩, ⟨some 68, none, .r (.load 1 false (.t 67))⟩, ⟨some 69, none, .r (.len (.t 68))⟩, ⟨some 70, none, .r (.bin .gtr (.t 69) (.c (.int .i64 100)))⟩])
    (.cond (.t 70) (.seq (.region [⟨some 2, none, .r (.mov (.c (.bool false)))⟩])
      (.ret))
    (.skip))))
  (.region [⟨some 61, none, .r (.mov (.t 5))⟩, ⟨some 62, none, .r (.bin .add (.t 61) (.c (.int .i64 1)))⟩, ⟨some 5, none, .r (.mov (.t 62))⟩]))
def l_ref36_Few_2 : MCode := .loop (.trim [1, 5] b_ref36_Few_2)
def m_ref36_Few : MFun := ⟨.seq (.region [⟨some 1, none, .r (.box (.t 0))⟩, ⟨some 2, none, .r (.mov (.c (.bool false)))⟩])
  (.seq (.seq (.region [⟨some 6, none, .r (.faddr 4 (.t 1))⟩, ⟨some 7, none, .r (.load 1 false (.t 6))⟩, ⟨some 8, none, .r (.len (.t 7))⟩, ⟨some 9, none, .r (.bin .gtr (.t 8) (.c (.int .i64 20)))⟩, ⟨some 10, none, .r (.mov (.t 9))⟩, ⟨some 11, (some (10, false)), .r (.faddr 5 (.t 1))⟩, ⟨some 12, (some (10, false)), .r (.load 1 false (.t 11))⟩, ⟨some 13, (some (10, false)), .r (.len (.t 12))⟩, ⟨some 14, (some (10, false)), .r (.bin .gtr (.t 13) (.c (.int .i64 20)))⟩, ⟨some 15, none, .r (.pick (.t 10) (.c (.bool true)) (.t 14))⟩, ⟨some 16, none, .r (.mov (.t 15))⟩, ⟨some 17, (some (16, false)), .r (.faddr 6 (.t 1))⟩, ⟨some 18, (some (16, false)), .r (.load 1 false (.t 17))⟩, ⟨some 19, (some (16, false)), .r (.len (.t 18))⟩, ⟨some 20, (some (16, false)), .r (.bin .gtr (.t 19) (.c (.int .i64 40)))⟩, ⟨some 21, none, .r (.pick (.t 16) (.c (.bool true)) (.t 20))⟩, ⟨some 22, none, .r (.mov (.t 21))⟩, ⟨some 23, (some (22, false)), .r (.faddr 7 (.t 1))⟩, ⟨some 24, (some (22, false)), .r (.load 1 false (.t 23))⟩, ⟨some 25, (some (22, false)), .r (.len (.t 24))⟩, ⟨some 26, (some (22, false)), .r (.bin .gtr (.t 25) (.c (.int .i64 40)))⟩, ⟨some 27, none, .r (.pick (.t 22) (.c (.bool true)) (.t 26))⟩])
  (.cond (.t 27) (.seq (.region [⟨some 2, none, .r (.mov (.c (.bool false)))⟩])
    (.ret))
  (.skip)))
  (.seq (.seq (.region [⟨some 3, none, .r (.mov (.c (.int .i64 0)))⟩])
  (.block 0
  (l_ref36_Few_0)))
  (.seq (.seq (.region [⟨some 4, none, .r (.mov (.c (.int .i64 0)))⟩])
  (.block 2
  (l_ref36_Few_1)))
  (.seq (.seq (.region [⟨some 5, none, .r (.mov (.c (.int .i64 0)))⟩])
  (.block 4
  (l_ref36_Few_2)))
  (.seq (.region [⟨some 2, none, .r (.mov (.c (.bool true)))⟩])
  (.ret)))))),
  [.t 2]⟩
/-- image.Split -/
def a_image_Split_0 : MCode := .region [⟨some 5, none, .r (.mov (.t 13))⟩]
def y_image_Split_0 : MCode := .block 1
  (.seq (.region [⟨some 14, none, .r (.mkslice [.int .u8 0] (.c (.int .i64 256)) (.c (.int .i64 256)))⟩, ⟨some 6, none, .r (.mov (.t 14))⟩])
    (.seq (.region [⟨some 15, none, .r (.mov (.t 6))⟩, ⟨some 16, none, .r (.mov (.t 5))⟩, ⟨some 17, none, .w (.copy 1 (.t 15) (.t 16))⟩])
    (.region [⟨some 18, none, .r (.load 1 false (.t 4))⟩, ⟨some 19, none, .r (.mov (.t 6))⟩, ⟨some 20, none, .w (.bslice 1 [.t 19])⟩, ⟨some 21, none, .w (.append 1 (.t 18) (.t 20))⟩, ⟨none, none, .w (.store 1 (.t 4) (.t 21))⟩])))
def g_image_Split_0 : MCode := .range (.t 12) [13] a_image_Split_0 y_image_Split_0
def m_image_Split : MFun := ⟨.seq (.region [⟨some 2, none, .r (.mov (.c (.tree [] true true)))⟩, ⟨some 3, none, .r (.mov (.c (.int .i64 0)))⟩])
  (.seq (.seq (.region [⟨some 7, none, .r (.mov (.t 0))⟩, ⟨some 8, none, .r (.len (.t 7))⟩, ⟨some 9, none, .call .ro (.c (.fn n_image_sized [] [])) [.t 8]⟩, ⟨some 10, none, .r (.not (.t 9))⟩])
  (.cond (.t 10) (.seq (.region [⟨some 2, none, .r (.mov (.c (.tree [] true true)))⟩, ⟨some 3, none, .r (.mov (.c (.int .i64 1)))⟩])
    (.ret))
  (.skip)))
  (.seq (.region [⟨some 4, none, .r (.alloc [.tree [] true true])⟩])
  (.seq (.seq (.region [⟨some 11, none, .r (.mov (.t 0))⟩, ⟨some 12, none, .call .rw (.c (.fn n_slices_Chunk_sbyte_byte [] [])) [.t 11, .c (.int .i64 256)]⟩])
  (.block 0
  (.trim [2, 3, 4, 12] g_image_Split_0)))
  (.seq (.region [⟨some 22, none, .r (.load 1 false (.t 4))⟩, ⟨some 2, none, .r (.mov (.t 22))⟩, ⟨some 3, none, .r (.mov (.c (.int .i64 0)))⟩])
  (.ret))))),
  [.t 2, .t 3]⟩
/-- slotmeshref36.Split -/
def b_ref36_Split_0 : MCode := .seq (.seq (.region [⟨some 20, none, .r (.mov (.t 7))⟩, ⟨some 21, none, .r (.bin .lss (.t 20) (.c (.int .i64 256)))⟩, ⟨some 22, none, .r (.mov (.t 21))⟩, ⟨some 23, (some (22, true)), .r (.mov (.t 5))⟩, ⟨some 24, (some (22, true)), .r (.bin .mul (.t 23) (.c (.int .i64 256)))⟩, ⟨some 25, (some (22, true)), .r (.mov (.t 7))⟩, ⟨some 26, (some (22, true)), .r (.bin .add (.t 24) (.t 25))⟩, ⟨some 27, (some (22, true)), .r (.mov (.t 0))⟩, ⟨some 28, (some (22, true)), .r (.len (.t 27))⟩, ⟨some 29, (some (22, true)), .r (.bin .lss (.t 26) (.t 28))⟩, ⟨some 30, none, .r (.pick (.t 22) (.t 29) (.c (.bool false)))⟩])
  (.cond (.t 30) (.skip)
  (.trim [0, 4, 5, 6] (.exit 2))))
  (.seq (.block 3
  (.region [⟨some 33, none, .r (.mov (.t 6))⟩, ⟨some 34, none, .r (.mov (.t 7))⟩, ⟨some 35, none, .r (.mov (.t 0))⟩, ⟨some 36, none, .r (.mov (.t 5))⟩, ⟨some 37, none, .r (.bin .mul (.t 36) (.c (.int .i64 256)))⟩, ⟨some 38, none, .r (.mov (.t 7))⟩, ⟨some 39, none, .r (.bin .add (.t 37) (.t 38))⟩, ⟨some 40, none, .r (.iaddr 1 (.t 35) (.t 39))⟩, ⟨some 41, none, .r (.load 1 false (.t 40))⟩, ⟨some 42, none, .r (.iaddr 1 (.t 33) (.t 34))⟩, ⟨none, none, .w (.store 1 (.t 42) (.t 41))⟩]))
  (.region [⟨some 31, none, .r (.mov (.t 7))⟩, ⟨some 32, none, .r (.bin .add (.t 31) (.c (.int .i64 1)))⟩, ⟨some 7, none, .r (.mov (.t 32))⟩]))
def l_ref36_Split_0 : MCode := .loop (.trim [0, 4, 5, 6, 7] b_ref36_Split_0)
def b_ref36_Split_1 : MCode := .seq (.seq (.region [⟨some 12, none, .r (.mov (.t 5))⟩, ⟨some 13, none, .r (.mov (.t 0))⟩, ⟨some 14, none, .r (.len (.t 13))⟩, ⟨some 15, none, .call .ro (.c (.fn n_ref36_Count [] [])) [.t 14]⟩, ⟨some 16, none, .r (.bin .lss (.t 12) (.t 15))⟩])
  (.cond (.t 16) (.skip)
  (.trim [4] (.exit 0))))
  (.seq (.block 1
  (.seq (.region [⟨some 19, none, .r (.mkslice [.int .u8 0] (.c (.int .i64 256)) (.c (.int .i64 256)))⟩, ⟨some 6, none, .r (.mov (.t 19))⟩])
    (.seq (.seq (.region [⟨some 7, none, .r (.mov (.c (.int .i64 0)))⟩])
    (.block 2
    (l_ref36_Split_0)))
    (.region [⟨some 43, none, .r (.mov (.t 4))⟩, ⟨some 44, none, .r (.mov (.t 6))⟩, ⟨some 45, none, .w (.bslice 1 [.t 44])⟩, ⟨some 46, none, .w (.append 1 (.t 43) (.t 45))⟩, ⟨some 4, none, .r (.mov (.t 46))⟩]))))
  (.region [⟨some 17, none, .r (.mov (.t 5))⟩, ⟨some 18, none, .r (.bin .add (.t 17) (.c (.int .i64 1)))⟩, ⟨some 5, none, .r (.mov (.t 18))⟩]))
def l_ref36_Split_1 : MCode := .loop (.trim [0, 4, 5] b_ref36_Split_1)
def m_ref36_Split : MFun := ⟨.seq (.region [⟨some 2, none, .r (.mov (.c (.tree [] true true)))⟩, ⟨some 3, none, .r (.mov (.c (.int .i64 0)))⟩])
  (.seq (.seq (.region [⟨some 8, none, .r (.mov (.t 0))⟩, ⟨some 9, none, .r (.len (.t 8))⟩, ⟨some 10, none, .call .ro (.c (.fn n_ref36_Size [] [])) [.t 9]⟩, ⟨some 11, none, .r (.not (.t 10))⟩])
  (.cond (.t 11) (.seq (.region [⟨some 2, none, .r (.mov (.c (.tree [] true true)))⟩, ⟨some 3, none, .r (.mov (.c (.int .i64 1)))⟩])
    (.ret))
  (.skip)))
  (.seq (.region [⟨some 4, none, .r (.mov (.c (.tree [] true true)))⟩])
  (.seq (.seq (.region [⟨some 5, none, .r (.mov (.c (.int .i64 0)))⟩])
  (.block 0
  (l_ref36_Split_1)))
  (.seq (.region [⟨some 47, none, .r (.mov (.t 4))⟩, ⟨some 2, none, .r (.mov (.t 47))⟩, ⟨some 3, none, .r (.mov (.c (.int .i64 0)))⟩])
  (.ret))))),
  [.t 2, .t 3]⟩
/-- image.Join -/
def m_image_Join : MFun := ⟨.seq (.region [⟨some 4, none, .r (.mov (.c (.tree [] true true)))⟩, ⟨some 5, none, .r (.mov (.c (.int .i64 0)))⟩])
  (.seq (.seq (.region [⟨some 7, none, .r (.mov (.t 1))⟩, ⟨some 8, none, .call .ro (.c (.fn n_image_sized [] [])) [.t 7]⟩, ⟨some 9, none, .r (.not (.t 8))⟩, ⟨some 10, none, .r (.mov (.t 9))⟩, ⟨some 11, (some (10, false)), .r (.mov (.t 0))⟩, ⟨some 12, (some (10, false)), .r (.len (.t 11))⟩, ⟨some 13, (some (10, false)), .r (.mov (.t 1))⟩, ⟨some 14, (some (10, false)), .call .ro (.c (.fn n_image_count [] [])) [.t 13]⟩, ⟨some 15, (some (10, false)), .r (.bin .neq (.t 12) (.t 14))⟩, ⟨some 16, none, .r (.pick (.t 10) (.c (.bool true)) (.t 15))⟩, ⟨some 17, none, .r (.mov (.t 16))⟩, ⟨some 18, (some (17, false)), .r (.mov (.t 0))⟩, ⟨some 19, (some (17, false)), .call .ro (.c (.fn n_image_paged [] [])) [.t 18]⟩, ⟨some 20, (some (17, false)), .r (.not (.t 19))⟩, ⟨some 21, none, .r (.pick (.t 17) (.c (.bool true)) (.t 20))⟩])
  (.cond (.t 21) (.seq (.region [⟨some 4, none, .r (.mov (.c (.tree [] true true)))⟩, ⟨some 5, none, .r (.mov (.c (.int .i64 1)))⟩])
    (.ret))
  (.skip)))
  (.seq (.region [⟨some 22, none, .r (.mov (.t 0))⟩, ⟨some 23, none, .call .ro (.c (.fn n_slices_Concat_sbyte_byte [] [])) [.t 22]⟩, ⟨some 6, none, .r (.mov (.t 23))⟩])
  (.seq (.seq (.region [⟨some 24, none, .r (.mov (.t 6))⟩, ⟨some 25, none, .r (.mov (.t 1))⟩, ⟨some 26, none, .r (.slice 1 (.t 24) (some (.t 25)) none none)⟩, ⟨some 27, none, .call .ro (.c (.fn n_bytes_Trim [] [])) [.t 26, .c (.str ⟨#[0]⟩)]⟩, ⟨some 28, none, .r (.len (.t 27))⟩, ⟨some 29, none, .r (.bin .gtr (.t 28) (.c (.int .i64 0)))⟩])
  (.cond (.t 29) (.seq (.region [⟨some 4, none, .r (.mov (.c (.tree [] true true)))⟩, ⟨some 5, none, .r (.mov (.c (.int .i64 12)))⟩])
    (.ret))
  (.skip)))
  (.seq (.region [⟨some 30, none, .r (.mov (.t 6))⟩, ⟨some 31, none, .r (.mov (.t 1))⟩, ⟨some 32, none, .r (.mov (.t 1))⟩, ⟨some 33, none, .r (.slice 1 (.t 30) none (some (.t 31)) (some (.t 32)))⟩, ⟨some 4, none, .r (.mov (.t 33))⟩, ⟨some 5, none, .r (.mov (.c (.int .i64 0)))⟩])
  (.ret))))),
  [.t 4, .t 5]⟩
/-- slotmeshref36.Join -/
def b_ref36_Join_0 : MCode := .seq (.seq (.region [⟨some 30, none, .r (.mov (.t 8))⟩, ⟨some 31, none, .r (.bin .lss (.t 30) (.c (.int .i64 256)))⟩])
  (.cond (.t 31) (.skip)
  (.trim [0, 1, 6, 7] (.exit 2))))
  (.seq (.block 3
  (.seq (.region [⟨some 34, none, .r (.mov (.t 6))⟩, ⟨some 35, none, .r (.len (.t 34))⟩, ⟨some 36, none, .r (.mov (.t 1))⟩, ⟨some 37, none, .r (.bin .lss (.t 35) (.t 36))⟩])
    (.cond (.t 37) (.region [⟨some 38, none, .r (.mov (.t 6))⟩, ⟨some 39, none, .r (.mov (.t 0))⟩, ⟨some 40, none, .r (.mov (.t 7))⟩, ⟨some 41, none, .r (.iaddr 1 (.t 39) (.t 40))⟩, ⟨some 42, none, .r (.load 1 false (.t 41))⟩, ⟨some 43, none, .r (.mov (.t 8))⟩, ⟨some 44, none, .r (.iaddr 1 (.t 42) (.t 43))⟩, ⟨some 45, none, .r (.load 1 false (.t 44))⟩, ⟨some 46, none, .r (.bslice 1 [.t 45])⟩, ⟨some 47, none, .w (.append 1 (.t 38) (.t 46))⟩, ⟨some 6, none, .r (.mov (.t 47))⟩])
    (.seq (.region [⟨some 48, none, .r (.mov (.t 0))⟩, ⟨some 49, none, .r (.mov (.t 7))⟩, ⟨some 50, none, .r (.iaddr 1 (.t 48) (.t 49))⟩, ⟨some 51, none, .r (.load 1 false (.t 50))⟩, ⟨some 52, none, .r (.mov (.t 8))⟩, ⟨some 53, none, .r (.iaddr 1 (.t 51) (.t 52))⟩, ⟨some 54, none, .r (.load 1 false (.t 53))⟩, ⟨some 55, none, .r (.bin .neq (.t 54) (.c (.int .u8 0)))⟩])
      (.cond (.t 55) (.seq (.region [⟨some 4, none, .r (.mov (.c (.tree [] true true)))⟩, ⟨some 5, none, .r (.mov (.c (.int .i64 12)))⟩])
        (.ret))
      (.skip))))))
  (.region [⟨some 32, none, .r (.mov (.t 8))⟩, ⟨some 33, none, .r (.bin .add (.t 32) (.c (.int .i64 1)))⟩, ⟨some 8, none, .r (.mov (.t 33))⟩]))
def l_ref36_Join_0 : MCode := .loop (.trim [0, 1, 6, 7, 8] b_ref36_Join_0)
def b_ref36_Join_1 : MCode := .seq (.seq (.region [⟨some 24, none, .r (.mov (.t 7))⟩, ⟨some 25, none, .r (.mov (.t 0))⟩, ⟨some 26, none, .r (.len (.t 25))⟩, ⟨some 27, none, .r (.bin .lss (.t 24) (.t 26))⟩])
  (.cond (.t 27) (.skip)
  (.trim [6] (.exit 0))))
  (.seq (.block 1
  (.seq (.region [⟨some 8, none, .r (.mov (.c (.int .i64 0)))⟩])
    (.block 2
    (l_ref36_Join_0))))
  (.region [⟨some 28, none, .r (.mov (.t 7))⟩, ⟨some 29, none, .r (.bin .add (.t 28) (.c (.int .i64 1)))⟩, ⟨some 7, none, .r (.mov (.t 29))⟩]))
def l_ref36_Join_1 : MCode := .loop (.trim [0, 1, 6, 7] b_ref36_Join_1)
def m_ref36_Join : MFun := ⟨.seq (.region [⟨some 4, none, .r (.mov (.c (.tree [] true true)))⟩, ⟨some 5, none, .r (.mov (.c (.int .i64 0)))⟩])
  (.seq (.seq (.region [⟨some 9, none, .r (.mov (.t 1))⟩, ⟨some 10, none, .call .ro (.c (.fn n_ref36_Size [] [])) [.t 9]⟩, ⟨some 11, none, .r (.not (.t 10))⟩, ⟨some 12, none, .r (.mov (.t 11))⟩, ⟨some 13, (some (12, false)), .r (.mov (.t 0))⟩, ⟨some 14, (some (12, false)), .r (.len (.t 13))⟩, ⟨some 15, (some (12, false)), .r (.mov (.t 1))⟩, ⟨some 16, (some (12, false)), .call .ro (.c (.fn n_ref36_Count [] [])) [.t 15]⟩, ⟨some 17, (some (12, false)), .r (.bin .neq (.t 14) (.t 16))⟩, ⟨some 18, none, .r (.pick (.t 12) (.c (.bool true)) (.t 17))⟩, ⟨some 19, none, .r (.mov (.t 18))⟩, ⟨some 20, (some (19, false)), .r (.mov (.t 0))⟩, ⟨some 21, (some (19, false)), .call .ro (.c (.fn n_ref36_Pages [] [])) [.t 20]⟩, ⟨some 22, (some (19, false)), .r (.not (.t 21))⟩, ⟨some 23, none, .r (.pick (.t 19) (.c (.bool true)) (.t 22))⟩])
  (.cond (.t 23) (.seq (.region [⟨some 4, none, .r (.mov (.c (.tree [] true true)))⟩, ⟨some 5, none, .r (.mov (.c (.int .i64 1)))⟩])
    (.ret))
  (.skip)))
  (.seq (.region [⟨some 6, none, .r (.mov (.c (.tree [] true true)))⟩])
  (.seq (.seq (.region [⟨some 7, none, .r (.mov (.c (.int .i64 0)))⟩])
  (.block 0
  (l_ref36_Join_1)))
  (.seq (.region [⟨some 56, none, .r (.mov (.t 6))⟩, ⟨some 4, none, .r (.mov (.t 56))⟩, ⟨some 5, none, .r (.mov (.c (.int .i64 0)))⟩])
  (.ret))))),
  [.t 4, .t 5]⟩
/-- image.Announce -/
def m_image_Announce : MFun := ⟨.seq (.region [⟨some 6, none, .r (.alloc [.int .i64 0, .int .i64 0, .int .u64 0, .int .i64 0])⟩, ⟨some 7, none, .r (.mov (.c (.int .i64 0)))⟩])
  (.seq (.region [⟨some 11, none, .r (.mov (.t 0))⟩, ⟨some 12, none, .r (.mov (.t 1))⟩, ⟨some 13, none, .r (.len (.t 12))⟩, ⟨some 14, none, .r (.mov (.t 2))⟩, ⟨some 15, none, .r (.build [.int .i64 0, .int .i64 0, .int .u64 0, .int .i64 0] [(0, 1, .t 11), (1, 1, .t 13), (3, 1, .t 14)])⟩, ⟨some 8, none, .r (.alloc [.int .i64 0, .int .i64 0, .int .u64 0, .int .i64 0])⟩, ⟨none, none, .w (.store 4 (.t 8) (.t 15))⟩])
  (.seq (.region [⟨some 17, none, .r (.mov (.t 1))⟩, ⟨some 18, none, .call .ro (.c (.fn n_image_Split [] [])) [.t 17]⟩, ⟨some 16, none, .r (.mov (.t 18))⟩, ⟨some 19, none, .r (.extract 0 (.t 16))⟩, ⟨some 20, none, .r (.extract 1 (.t 16))⟩, ⟨some 9, none, .r (.mov (.t 19))⟩, ⟨some 10, none, .r (.mov (.t 20))⟩])
  (.seq (.seq (.region [⟨some 21, none, .r (.mov (.t 10))⟩, ⟨some 22, none, .r (.bin .neq (.t 21) (.c (.int .i64 0)))⟩, ⟨some 23, none, .r (.mov (.t 22))⟩, ⟨some 24, (some (23, false)), .r (.load 4 true (.t 8))⟩, ⟨some 25, (some (23, false)), .call .ro (.c (.fn n_image_announced [] [])) [.t 24]⟩, ⟨some 26, (some (23, false)), .r (.not (.t 25))⟩, ⟨some 27, none, .r (.pick (.t 23) (.c (.bool true)) (.t 26))⟩])
  (.cond (.t 27) (.seq (.region [⟨some 28, none, .r (.build [.int .i64 0, .int .i64 0, .int .u64 0, .int .i64 0] [])⟩, ⟨none, none, .w (.store 4 (.t 6) (.t 28))⟩, ⟨some 7, none, .r (.mov (.c (.int .i64 1)))⟩])
    (.ret))
  (.skip)))
  (.seq (.region [⟨some 30, none, .r (.mov (.t 9))⟩, ⟨some 31, none, .call .ro (.c (.fn n_tree_Root [] [])) [.t 30]⟩, ⟨some 29, none, .r (.mov (.t 31))⟩, ⟨some 32, none, .r (.extract 0 (.t 29))⟩, ⟨some 33, none, .r (.extract 1 (.t 29))⟩, ⟨some 34, none, .r (.faddr 2 (.t 8))⟩, ⟨none, none, .w (.store 1 (.t 34) (.t 32))⟩, ⟨some 10, none, .r (.mov (.t 33))⟩])
  (.seq (.region [⟨some 35, none, .r (.load 4 true (.t 8))⟩, ⟨some 36, none, .r (.mov (.t 10))⟩, ⟨none, none, .w (.store 4 (.t 6) (.t 35))⟩, ⟨some 7, none, .r (.mov (.t 36))⟩])
  (.ret)))))),
  [.cell 6 4 true, .t 7]⟩
/-- slotmeshref36.Announce -/
def m_ref36_Announce : MFun := ⟨.seq (.region [⟨some 6, none, .r (.alloc [.int .i64 0, .int .i64 0, .int .u64 0, .int .i64 0])⟩, ⟨some 7, none, .r (.mov (.c (.int .i64 0)))⟩])
  (.seq (.region [⟨some 11, none, .r (.mov (.t 0))⟩, ⟨some 12, none, .r (.mov (.t 1))⟩, ⟨some 13, none, .r (.len (.t 12))⟩, ⟨some 14, none, .r (.mov (.t 2))⟩, ⟨some 15, none, .r (.build [.int .i64 0, .int .i64 0, .int .u64 0, .int .i64 0] [(0, 1, .t 11), (1, 1, .t 13), (3, 1, .t 14)])⟩, ⟨some 8, none, .r (.alloc [.int .i64 0, .int .i64 0, .int .u64 0, .int .i64 0])⟩, ⟨none, none, .w (.store 4 (.t 8) (.t 15))⟩])
  (.seq (.seq (.region [⟨some 16, none, .r (.load 4 true (.t 8))⟩, ⟨some 17, none, .call .ro (.c (.fn n_ref36_Notice [] [])) [.t 16]⟩, ⟨some 18, none, .r (.not (.t 17))⟩])
  (.cond (.t 18) (.seq (.region [⟨some 19, none, .r (.build [.int .i64 0, .int .i64 0, .int .u64 0, .int .i64 0] [])⟩, ⟨none, none, .w (.store 4 (.t 6) (.t 19))⟩, ⟨some 7, none, .r (.mov (.c (.int .i64 1)))⟩])
    (.ret))
  (.skip)))
  (.seq (.region [⟨some 21, none, .r (.mov (.t 1))⟩, ⟨some 22, none, .call .ro (.c (.fn n_ref36_Split [] [])) [.t 21]⟩, ⟨some 20, none, .r (.mov (.t 22))⟩, ⟨some 23, none, .r (.extract 0 (.t 20))⟩, ⟨some 24, none, .r (.extract 1 (.t 20))⟩, ⟨some 9, none, .r (.mov (.t 23))⟩, ⟨some 10, none, .r (.mov (.t 24))⟩])
  (.seq (.region [⟨some 26, none, .r (.mov (.t 9))⟩, ⟨some 27, none, .call .ro (.c (.fn n_ref35_Root [] [])) [.t 26]⟩, ⟨some 25, none, .r (.mov (.t 27))⟩, ⟨some 28, none, .r (.extract 0 (.t 25))⟩, ⟨some 29, none, .r (.extract 1 (.t 25))⟩, ⟨some 30, none, .r (.faddr 2 (.t 8))⟩, ⟨none, none, .w (.store 1 (.t 30) (.t 28))⟩])
  (.seq (.region [⟨some 31, none, .r (.load 4 true (.t 8))⟩, ⟨none, none, .w (.store 4 (.t 6) (.t 31))⟩, ⟨some 7, none, .r (.mov (.c (.int .i64 0)))⟩])
  (.ret)))))),
  [.cell 6 4 true, .t 7]⟩
/-- slotmeshref36.Lists -/
def b_ref36_Lists_0 : MCode := .seq (.seq (.region [⟨some 11, none, .r (.mov (.t 5))⟩, ⟨some 12, none, .r (.mov (.t 0))⟩, ⟨some 13, none, .r (.len (.t 12))⟩, ⟨some 14, none, .r (.bin .lss (.t 11) (.t 13))⟩])
  (.cond (.t 14) (.skip)
  (.trim [] (.exit 0))))
  (.seq (.block 1
  (.seq (.draw [(3, 7)] [⟨some 17, none, .r (.mov (.t 0))⟩, ⟨some 18, none, .r (.mov (.t 5))⟩, ⟨some 19, none, .r (.iaddr 1 (.t 17) (.t 18))⟩, ⟨some 20, none, .r (.load 1 false (.t 19))⟩, ⟨some 21, none, .r (.mov (.t 1))⟩, ⟨some 22, none, .r (.mov (.t 5))⟩, ⟨some 23, none, .r (.iaddr 1 (.t 21) (.t 22))⟩, ⟨some 24, none, .r (.load 1 false (.t 23))⟩, ⟨some 25, none, .call .ro (.c (.fn n_ref36_Bytes [] [])) [.t 20, .t 24]⟩, ⟨some 26, none, .r (.not (.t 25))⟩])
    (.cond (.t 26) (.seq (.region [⟨some 4, none, .r (.mov (.c (.bool false)))⟩])
      (.ret))
    (.skip))))
  (.region [⟨some 15, none, .r (.mov (.t 5))⟩, ⟨some 16, none, .r (.bin .add (.t 15) (.c (.int .i64 1)))⟩, ⟨some 5, none, .r (.mov (.t 16))⟩]))
def l_ref36_Lists_0 : MCode := .loop (.trim [0, 1, 5] b_ref36_Lists_0)
def m_ref36_Lists : MFun := ⟨.seq (.region [⟨some 4, none, .r (.mov (.c (.bool false)))⟩])
  (.seq (.seq (.region [⟨some 6, none, .r (.mov (.t 0))⟩, ⟨some 7, none, .r (.len (.t 6))⟩, ⟨some 8, none, .r (.mov (.t 1))⟩, ⟨some 9, none, .r (.len (.t 8))⟩, ⟨some 10, none, .r (.bin .neq (.t 7) (.t 9))⟩])
  (.cond (.t 10) (.seq (.region [⟨some 4, none, .r (.mov (.c (.bool false)))⟩])
    (.ret))
  (.skip)))
  (.seq (.seq (.region [⟨some 5, none, .r (.mov (.c (.int .i64 0)))⟩])
  (.block 0
  (l_ref36_Lists_0)))
  (.seq (.region [⟨some 4, none, .r (.mov (.c (.bool true)))⟩])
  (.ret)))),
  [.t 4]⟩
/-- slotmeshref36.Bytes -/
def b_ref36_Bytes_0 : MCode := .seq (.seq (.region [⟨some 11, none, .r (.mov (.t 5))⟩, ⟨some 12, none, .r (.mov (.t 0))⟩, ⟨some 13, none, .r (.len (.t 12))⟩, ⟨some 14, none, .r (.bin .lss (.t 11) (.t 13))⟩])
  (.cond (.t 14) (.skip)
  (.trim [] (.exit 0))))
  (.seq (.block 1
  (.seq (.draw [(3, 7)] [⟨some 17, none, .r (.mov (.t 0))⟩, ⟨some 18, none, .r (.mov (.t 5))⟩, ⟨some 19, none, .r (.iaddr 1 (.t 17) (.t 18))⟩, ⟨some 20, none, .r (.load 1 false (.t 19))⟩, ⟨some 21, none, .r (.mov (.t 1))⟩, ⟨some 22, none, .r (.mov (.t 5))⟩, ⟨some 23, none, .r (.iaddr 1 (.t 21) (.t 22))⟩, ⟨some 24, none, .r (.load 1 false (.t 23))⟩, ⟨some 25, none, .r (.bin .neq (.t 20) (.t 24))⟩])
    (.cond (.t 25) (.seq (.region [⟨some 4, none, .r (.mov (.c (.bool false)))⟩])
      (.ret))
    (.skip))))
  (.region [⟨some 15, none, .r (.mov (.t 5))⟩, ⟨some 16, none, .r (.bin .add (.t 15) (.c (.int .i64 1)))⟩, ⟨some 5, none, .r (.mov (.t 16))⟩]))
def l_ref36_Bytes_0 : MCode := .loop (.trim [0, 1, 5] b_ref36_Bytes_0)
def m_ref36_Bytes : MFun := ⟨.seq (.region [⟨some 4, none, .r (.mov (.c (.bool false)))⟩])
  (.seq (.seq (.region [⟨some 6, none, .r (.mov (.t 0))⟩, ⟨some 7, none, .r (.len (.t 6))⟩, ⟨some 8, none, .r (.mov (.t 1))⟩, ⟨some 9, none, .r (.len (.t 8))⟩, ⟨some 10, none, .r (.bin .neq (.t 7) (.t 9))⟩])
  (.cond (.t 10) (.seq (.region [⟨some 4, none, .r (.mov (.c (.bool false)))⟩])
    (.ret))
  (.skip)))
  (.seq (.seq (.region [⟨some 5, none, .r (.mov (.c (.int .i64 0)))⟩])
  (.block 0
  (l_ref36_Bytes_0)))
  (.seq (.region [⟨some 4, none, .r (.mov (.c (.bool true)))⟩])
  (.ret)))),
  [.t 4]⟩
/-- image.Put -/
def b_image_Put_0 : MCode := .seq (.region [⟨some 65, none, .r (.bin .lss (.t 64) (.t 63))⟩])
  (.seq (.cond (.t 65) (.skip)
  (.trim [2, 6, 8, 9] (.exit 1)))
  (.seq (.block 2
  (.seq (.region [⟨some 66, none, .r (.iaddr 1 (.t 62) (.t 64))⟩, ⟨some 67, none, .r (.load 1 false (.t 66))⟩, ⟨some 11, none, .r (.mov (.t 67))⟩])
    (.draw [(1, 3)] [⟨some 68, none, .r (.faddr 4 (.t 9))⟩, ⟨some 69, none, .r (.load 1 false (.t 68))⟩, ⟨some 70, none, .r (.mov (.t 11))⟩, ⟨some 71, none, .call .ro (.c (.fn n_bytes_Clone [] [])) [.t 70]⟩, ⟨some 72, none, .r (.bslice 1 [.t 71])⟩, ⟨some 73, none, .w (.append 1 (.t 69) (.t 72))⟩, ⟨some 74, none, .r (.faddr 4 (.t 9))⟩, ⟨none, none, .w (.store 1 (.t 74) (.t 73))⟩])))
  (.region [⟨some 75, none, .r (.bin .add (.t 64) (.c (.int .i64 1)))⟩, ⟨some 64, none, .r (.mov (.t 75))⟩])))
def l_image_Put_0 : MCode := .loop (.trim [2, 6, 8, 9, 62, 63, 64] b_image_Put_0)
def b_image_Put_1 : MCode := .seq (.region [⟨some 85, none, .r (.bin .lss (.t 84) (.t 83))⟩])
  (.seq (.cond (.t 85) (.skip)
  (.trim [6, 9] (.exit 3)))
  (.seq (.block 4
  (.seq (.region [⟨some 86, none, .r (.iaddr 1 (.t 82) (.t 84))⟩, ⟨some 87, none, .r (.load 1 false (.t 86))⟩, ⟨some 13, none, .r (.mov (.t 87))⟩])
    (.draw [(1, 3)] [⟨some 88, none, .r (.faddr 5 (.t 9))⟩, ⟨some 89, none, .r (.load 1 false (.t 88))⟩, ⟨some 90, none, .r (.mov (.t 13))⟩, ⟨some 91, none, .call .ro (.c (.fn n_slices_Clone_suint64_uint64 [] [])) [.t 90]⟩, ⟨some 92, none, .r (.bslice 1 [.t 91])⟩, ⟨some 93, none, .w (.append 1 (.t 89) (.t 92))⟩, ⟨some 94, none, .r (.faddr 5 (.t 9))⟩, ⟨none, none, .w (.store 1 (.t 94) (.t 93))⟩])))
  (.region [⟨some 95, none, .r (.bin .add (.t 84) (.c (.int .i64 1)))⟩, ⟨some 84, none, .r (.mov (.t 95))⟩])))
def l_image_Put_1 : MCode := .loop (.trim [6, 9, 82, 83, 84] b_image_Put_1)
def m_image_Put : MFun := ⟨.seq (.region [⟨some 3, none, .r (.box (.t 0))⟩, ⟨some 6, none, .r (.alloc [.int .i64 0, .int .i64 0, .int .u64 0, .int .i64 0, .tree [] true true, .tree [] true true, .tree [] true true, .tree [] true true, .int .i64 0, .int .i64 0, .int .i64 0, .int .i64 0, .int .i64 0])⟩, ⟨some 7, none, .r (.mov (.c (.int .i64 0)))⟩])
  (.seq (.region [⟨some 14, none, .r (.load 13 true (.t 3))⟩, ⟨some 15, none, .r (.build [.int .i64 0, .int .i64 0, .int .u64 0, .int .i64 0, .tree [] true true, .tree [] true true, .tree [] true true, .tree [] true true, .int .i64 0, .int .i64 0, .int .i64 0, .int .i64 0, .int .i64 0] [(0, 13, .t 14)])⟩, ⟨some 8, none, .r (.alloc [.int .i64 0, .int .i64 0, .int .u64 0, .int .i64 0, .tree [] true true, .tree [] true true, .tree [] true true, .tree [] true true, .int .i64 0, .int .i64 0, .int .i64 0, .int .i64 0, .int .i64 0])⟩, ⟨none, none, .w (.store 13 (.t 8) (.t 15))⟩])
  (.seq (.block 0
  (.seq (.region [⟨some 17, none, .r (.load 13 true (.t 8))⟩, ⟨some 18, none, .call .ro (.c (.fn n_image_load_sound [] [])) [.t 17]⟩, ⟨some 19, none, .r (.not (.t 18))⟩, ⟨some 20, none, .r (.mov (.t 19))⟩, ⟨some 21, (some (20, false)), .r (.mov (.t 1))⟩, ⟨some 22, (some (20, false)), .r (.len (.t 21))⟩, ⟨some 23, (some (20, false)), .r (.bin .neq (.t 22) (.c (.int .i64 256)))⟩, ⟨some 24, none, .r (.pick (.t 20) (.c (.bool true)) (.t 23))⟩, ⟨some 16, none, .r (.mov (.t 24))⟩])
    (.cond (.t 16) (.seq (.region [⟨some 25, none, .r (.build [.int .i64 0, .int .i64 0, .int .u64 0, .int .i64 0, .tree [] true true, .tree [] true true, .tree [] true true, .tree [] true true, .int .i64 0, .int .i64 0, .int .i64 0, .int .i64 0, .int .i64 0] [])⟩, ⟨none, none, .w (.store 13 (.t 6) (.t 25))⟩, ⟨some 7, none, .r (.mov (.c (.int .i64 1)))⟩])
      (.ret))
    (.seq (.draw [(2, 7), (2, 8)] [⟨some 27, none, .r (.faddr 0 (.t 8))⟩, ⟨some 28, none, .r (.faddr 4 (.t 27))⟩, ⟨some 29, none, .r (.load 1 false (.t 28))⟩, ⟨some 30, none, .r (.len (.t 29))⟩, ⟨some 31, none, .r (.faddr 0 (.t 8))⟩, ⟨some 32, none, .r (.faddr 0 (.t 31))⟩, ⟨some 33, none, .r (.faddr 1 (.t 32))⟩, ⟨some 34, none, .r (.load 1 false (.t 33))⟩, ⟨some 35, none, .call .ro (.c (.fn n_image_count [] [])) [.t 34]⟩, ⟨some 36, none, .r (.bin .eql (.t 30) (.t 35))⟩, ⟨some 26, none, .r (.mov (.t 36))⟩])
      (.cond (.t 26) (.seq (.region [⟨some 37, none, .r (.build [.int .i64 0, .int .i64 0, .int .u64 0, .int .i64 0, .tree [] true true, .tree [] true true, .tree [] true true, .tree [] true true, .int .i64 0, .int .i64 0, .int .i64 0, .int .i64 0, .int .i64 0] [])⟩, ⟨none, none, .w (.store 13 (.t 6) (.t 37))⟩, ⟨some 7, none, .r (.mov (.c (.int .i64 10)))⟩])
        (.ret))
      (.seq (.region [⟨some 39, none, .r (.load 13 true (.t 8))⟩, ⟨some 40, none, .r (.faddr 0 (.t 8))⟩, ⟨some 41, none, .r (.faddr 4 (.t 40))⟩, ⟨some 42, none, .r (.load 1 false (.t 41))⟩, ⟨some 43, none, .r (.len (.t 42))⟩, ⟨some 44, none, .r (.mov (.t 1))⟩, ⟨some 45, none, .r (.mov (.t 2))⟩, ⟨some 46, none, .call .ro (.c (.fn n_image_load_proved [] [])) [.t 39, .t 43, .t 44, .t 45]⟩, ⟨some 47, none, .r (.not (.t 46))⟩, ⟨some 38, none, .r (.mov (.t 47))⟩])
        (.cond (.t 38) (.seq (.region [⟨some 48, none, .r (.build [.int .i64 0, .int .i64 0, .int .u64 0, .int .i64 0, .tree [] true true, .tree [] true true, .tree [] true true, .tree [] true true, .int .i64 0, .int .i64 0, .int .i64 0, .int .i64 0, .int .i64 0] [])⟩, ⟨none, none, .w (.store 13 (.t 6) (.t 48))⟩, ⟨some 7, none, .r (.mov (.c (.int .i64 12)))⟩])
          (.ret))
        (.skip))))))))
  (.seq (.region [⟨some 49, none, .r (.faddr 0 (.t 8))⟩, ⟨some 50, none, .r (.faddr 0 (.t 49))⟩, ⟨some 51, none, .r (.load 4 true (.t 50))⟩, ⟨some 52, none, .r (.faddr 0 (.t 8))⟩, ⟨some 53, none, .r (.faddr 8 (.t 52))⟩, ⟨some 54, none, .r (.load 5 true (.t 53))⟩, ⟨some 55, none, .r (.build [.int .i64 0, .int .i64 0, .int .u64 0, .int .i64 0, .tree [] true true, .tree [] true true, .tree [] true true, .tree [] true true, .int .i64 0, .int .i64 0, .int .i64 0, .int .i64 0, .int .i64 0] [(0, 4, .t 51), (8, 5, .t 54)])⟩, ⟨some 9, none, .r (.alloc [.int .i64 0, .int .i64 0, .int .u64 0, .int .i64 0, .tree [] true true, .tree [] true true, .tree [] true true, .tree [] true true, .int .i64 0, .int .i64 0, .int .i64 0, .int .i64 0, .int .i64 0])⟩, ⟨none, none, .w (.store 13 (.t 9) (.t 55))⟩])
  (.seq (.seq (.region [⟨some 56, none, .r (.faddr 0 (.t 8))⟩, ⟨some 57, none, .r (.faddr 4 (.t 56))⟩, ⟨some 58, none, .r (.load 1 false (.t 57))⟩, ⟨some 59, none, .call .rw (.c (.fn n_slices_Clone_ssbyte_sbyte [] [])) [.t 58]⟩, ⟨some 60, none, .r (.mov (.t 1))⟩, ⟨some 61, none, .w (.bslice 1 [.t 60])⟩, ⟨some 62, none, .w (.append 1 (.t 59) (.t 61))⟩, ⟨some 63, none, .r (.len (.t 62))⟩, ⟨some 64, none, .r (.mov (.c (.int .i64 0)))⟩])
  (.block 1
  (l_image_Put_0)))
  (.seq (.seq (.region [⟨some 76, none, .r (.faddr 0 (.t 8))⟩, ⟨some 77, none, .r (.faddr 5 (.t 76))⟩, ⟨some 78, none, .r (.load 1 false (.t 77))⟩, ⟨some 79, none, .call .rw (.c (.fn n_slices_Clone_ssuint64_suint64 [] [])) [.t 78]⟩, ⟨some 80, none, .r (.mov (.t 2))⟩, ⟨some 81, none, .w (.bslice 1 [.t 80])⟩, ⟨some 82, none, .w (.append 1 (.t 79) (.t 81))⟩, ⟨some 83, none, .r (.len (.t 82))⟩, ⟨some 84, none, .r (.mov (.c (.int .i64 0)))⟩])
  (.block 3
  (l_image_Put_1)))
  (.seq (.region [⟨some 96, none, .r (.load 13 true (.t 9))⟩, ⟨none, none, .w (.store 13 (.t 6) (.t 96))⟩, ⟨some 7, none, .r (.mov (.c (.int .i64 0)))⟩])
  (.ret))))))),
  [.cell 6 13 true, .t 7]⟩
/-- slotmeshref36.Put -/
def b_ref36_Put_0 : MCode := .seq (.seq (.region [⟨some 51, none, .r (.mov (.t 10))⟩, ⟨some 52, none, .r (.faddr 4 (.t 3))⟩, ⟨some 53, none, .r (.load 1 false (.t 52))⟩, ⟨some 54, none, .r (.len (.t 53))⟩, ⟨some 55, none, .r (.bin .lss (.t 51) (.t 54))⟩])
  (.cond (.t 55) (.skip)
  (.trim [1, 2, 6, 9] (.exit 0))))
  (.seq (.block 1
  (.seq (.region [⟨some 11, none, .r (.mov (.c (.tree [] true true)))⟩])
    (.seq (.region [⟨some 58, none, .r (.mov (.t 11))⟩, ⟨some 59, none, .r (.faddr 4 (.t 3))⟩, ⟨some 60, none, .r (.load 1 false (.t 59))⟩, ⟨some 61, none, .r (.mov (.t 10))⟩, ⟨some 62, none, .r (.iaddr 1 (.t 60) (.t 61))⟩, ⟨some 63, none, .r (.load 1 false (.t 62))⟩, ⟨some 64, none, .w (.append 1 (.t 58) (.t 63))⟩, ⟨some 11, none, .r (.mov (.t 64))⟩])
    (.seq (.region [⟨some 12, none, .r (.mov (.c (.tree [] true true)))⟩])
    (.seq (.region [⟨some 65, none, .r (.mov (.t 12))⟩, ⟨some 66, none, .r (.faddr 5 (.t 3))⟩, ⟨some 67, none, .r (.load 1 false (.t 66))⟩, ⟨some 68, none, .r (.mov (.t 10))⟩, ⟨some 69, none, .r (.iaddr 1 (.t 67) (.t 68))⟩, ⟨some 70, none, .r (.load 1 false (.t 69))⟩, ⟨some 71, none, .w (.append 1 (.t 65) (.t 70))⟩, ⟨some 12, none, .r (.mov (.t 71))⟩])
    (.seq (.region [⟨some 72, none, .r (.faddr 4 (.t 9))⟩, ⟨some 73, none, .r (.load 1 false (.t 72))⟩, ⟨some 74, none, .r (.mov (.t 11))⟩, ⟨some 75, none, .w (.bslice 1 [.t 74])⟩, ⟨some 76, none, .w (.append 1 (.t 73) (.t 75))⟩, ⟨some 77, none, .r (.faddr 4 (.t 9))⟩, ⟨none, none, .w (.store 1 (.t 77) (.t 76))⟩])
    (.region [⟨some 78, none, .r (.faddr 5 (.t 9))⟩, ⟨some 79, none, .r (.load 1 false (.t 78))⟩, ⟨some 80, none, .r (.mov (.t 12))⟩, ⟨some 81, none, .w (.bslice 1 [.t 80])⟩, ⟨some 82, none, .w (.append 1 (.t 79) (.t 81))⟩, ⟨some 83, none, .r (.faddr 5 (.t 9))⟩, ⟨none, none, .w (.store 1 (.t 83) (.t 82))⟩])))))))
  (.region [⟨some 56, none, .r (.mov (.t 10))⟩, ⟨some 57, none, .r (.bin .add (.t 56) (.c (.int .i64 1)))⟩, ⟨some 10, none, .r (.mov (.t 57))⟩]))
def l_ref36_Put_0 : MCode := .loop (.trim [1, 2, 3, 6, 9, 10] b_ref36_Put_0)
def m_ref36_Put : MFun := ⟨.seq (.region [⟨some 3, none, .r (.box (.t 0))⟩, ⟨some 6, none, .r (.alloc [.int .i64 0, .int .i64 0, .int .u64 0, .int .i64 0, .tree [] true true, .tree [] true true, .tree [] true true, .tree [] true true, .int .i64 0, .int .i64 0, .int .i64 0, .int .i64 0, .int .i64 0])⟩, ⟨some 7, none, .r (.mov (.c (.int .i64 0)))⟩])
  (.seq (.seq (.region [⟨some 15, none, .r (.load 13 true (.t 3))⟩, ⟨some 16, none, .call .ro (.c (.fn n_ref36_Sound [] [])) [.t 15]⟩, ⟨some 17, none, .r (.not (.t 16))⟩, ⟨some 18, none, .r (.mov (.t 17))⟩, ⟨some 19, (some (18, false)), .r (.mov (.t 1))⟩, ⟨some 20, (some (18, false)), .r (.len (.t 19))⟩, ⟨some 21, (some (18, false)), .r (.bin .neq (.t 20) (.c (.int .i64 256)))⟩, ⟨some 22, none, .r (.pick (.t 18) (.c (.bool true)) (.t 21))⟩])
  (.cond (.t 22) (.seq (.region [⟨some 23, none, .r (.build [.int .i64 0, .int .i64 0, .int .u64 0, .int .i64 0, .tree [] true true, .tree [] true true, .tree [] true true, .tree [] true true, .int .i64 0, .int .i64 0, .int .i64 0, .int .i64 0, .int .i64 0] [])⟩, ⟨none, none, .w (.store 13 (.t 6) (.t 23))⟩, ⟨some 7, none, .r (.mov (.c (.int .i64 1)))⟩])
    (.ret))
  (.skip)))
  (.seq (.region [⟨some 24, none, .r (.faddr 0 (.t 3))⟩, ⟨some 25, none, .r (.faddr 1 (.t 24))⟩, ⟨some 26, none, .r (.load 1 false (.t 25))⟩, ⟨some 27, none, .call .ro (.c (.fn n_ref36_Count [] [])) [.t 26]⟩, ⟨some 8, none, .r (.mov (.t 27))⟩])
  (.seq (.seq (.region [⟨some 28, none, .r (.faddr 4 (.t 3))⟩, ⟨some 29, none, .r (.load 1 false (.t 28))⟩, ⟨some 30, none, .r (.len (.t 29))⟩, ⟨some 31, none, .r (.mov (.t 8))⟩, ⟨some 32, none, .r (.bin .eql (.t 30) (.t 31))⟩])
  (.cond (.t 32) (.seq (.region [⟨some 33, none, .r (.build [.int .i64 0, .int .i64 0, .int .u64 0, .int .i64 0, .tree [] true true, .tree [] true true, .tree [] true true, .tree [] true true, .int .i64 0, .int .i64 0, .int .i64 0, .int .i64 0, .int .i64 0] [])⟩, ⟨none, none, .w (.store 13 (.t 6) (.t 33))⟩, ⟨some 7, none, .r (.mov (.c (.int .i64 10)))⟩])
    (.ret))
  (.skip)))
  (.seq (.seq (.region [⟨some 34, none, .r (.faddr 0 (.t 3))⟩, ⟨some 35, none, .r (.faddr 2 (.t 34))⟩, ⟨some 36, none, .r (.load 1 false (.t 35))⟩, ⟨some 37, none, .r (.mov (.t 8))⟩, ⟨some 38, none, .r (.faddr 4 (.t 3))⟩, ⟨some 39, none, .r (.load 1 false (.t 38))⟩, ⟨some 40, none, .r (.len (.t 39))⟩, ⟨some 41, none, .r (.mov (.t 1))⟩, ⟨some 42, none, .r (.mov (.t 2))⟩, ⟨some 43, none, .call .ro (.c (.fn n_ref35_Check [] [])) [.t 36, .t 37, .t 40, .t 41, .t 42]⟩, ⟨some 44, none, .r (.not (.t 43))⟩])
  (.cond (.t 44) (.seq (.region [⟨some 45, none, .r (.build [.int .i64 0, .int .i64 0, .int .u64 0, .int .i64 0, .tree [] true true, .tree [] true true, .tree [] true true, .tree [] true true, .int .i64 0, .int .i64 0, .int .i64 0, .int .i64 0, .int .i64 0] [])⟩, ⟨none, none, .w (.store 13 (.t 6) (.t 45))⟩, ⟨some 7, none, .r (.mov (.c (.int .i64 12)))⟩])
    (.ret))
  (.skip)))
  (.seq (.region [⟨some 46, none, .r (.faddr 0 (.t 3))⟩, ⟨some 47, none, .r (.load 4 true (.t 46))⟩, ⟨some 48, none, .r (.faddr 8 (.t 3))⟩, ⟨some 49, none, .r (.load 5 true (.t 48))⟩, ⟨some 50, none, .r (.build [.int .i64 0, .int .i64 0, .int .u64 0, .int .i64 0, .tree [] true true, .tree [] true true, .tree [] true true, .tree [] true true, .int .i64 0, .int .i64 0, .int .i64 0, .int .i64 0, .int .i64 0] [(0, 4, .t 47), (8, 5, .t 49)])⟩, ⟨some 9, none, .r (.alloc [.int .i64 0, .int .i64 0, .int .u64 0, .int .i64 0, .tree [] true true, .tree [] true true, .tree [] true true, .tree [] true true, .int .i64 0, .int .i64 0, .int .i64 0, .int .i64 0, .int .i64 0])⟩, ⟨none, none, .w (.store 13 (.t 9) (.t 50))⟩])
  (.seq (.seq (.region [⟨some 10, none, .r (.mov (.c (.int .i64 0)))⟩])
  (.block 0
  (l_ref36_Put_0)))
  (.seq (.region [⟨some 13, none, .r (.mov (.c (.tree [] true true)))⟩])
  (.seq (.region [⟨some 84, none, .r (.mov (.t 13))⟩, ⟨some 85, none, .r (.mov (.t 1))⟩, ⟨some 86, none, .w (.append 1 (.t 84) (.t 85))⟩, ⟨some 13, none, .r (.mov (.t 86))⟩])
  (.seq (.region [⟨some 14, none, .r (.mov (.c (.tree [] true true)))⟩])
  (.seq (.region [⟨some 87, none, .r (.mov (.t 14))⟩, ⟨some 88, none, .r (.mov (.t 2))⟩, ⟨some 89, none, .w (.append 1 (.t 87) (.t 88))⟩, ⟨some 14, none, .r (.mov (.t 89))⟩])
  (.seq (.region [⟨some 90, none, .r (.faddr 4 (.t 9))⟩, ⟨some 91, none, .r (.load 1 false (.t 90))⟩, ⟨some 92, none, .r (.mov (.t 13))⟩, ⟨some 93, none, .w (.bslice 1 [.t 92])⟩, ⟨some 94, none, .w (.append 1 (.t 91) (.t 93))⟩, ⟨some 95, none, .r (.faddr 4 (.t 9))⟩, ⟨none, none, .w (.store 1 (.t 95) (.t 94))⟩])
  (.seq (.region [⟨some 96, none, .r (.faddr 5 (.t 9))⟩, ⟨some 97, none, .r (.load 1 false (.t 96))⟩, ⟨some 98, none, .r (.mov (.t 14))⟩, ⟨some 99, none, .w (.bslice 1 [.t 98])⟩, ⟨some 100, none, .w (.append 1 (.t 97) (.t 99))⟩, ⟨some 101, none, .r (.faddr 5 (.t 9))⟩, ⟨none, none, .w (.store 1 (.t 101) (.t 100))⟩])
  (.seq (.region [⟨some 102, none, .r (.load 13 true (.t 9))⟩, ⟨none, none, .w (.store 13 (.t 6) (.t 102))⟩, ⟨some 7, none, .r (.mov (.c (.int .i64 0)))⟩])
  (.ret)))))))))))))),
  [.cell 6 13 true, .t 7]⟩
/-- image.Whole -/
def m_image_Whole : MFun := ⟨.seq (.region [⟨some 1, none, .r (.box (.t 0))⟩, ⟨some 2, none, .r (.mov (.c (.tree [] true true)))⟩, ⟨some 3, none, .r (.mov (.c (.bool false)))⟩])
  (.seq (.seq (.region [⟨some 6, none, .r (.load 13 true (.t 1))⟩, ⟨some 7, none, .r (.build [.int .i64 0, .int .i64 0, .int .u64 0, .int .i64 0, .tree [] true true, .tree [] true true, .tree [] true true, .tree [] true true, .int .i64 0, .int .i64 0, .int .i64 0, .int .i64 0, .int .i64 0] [(0, 13, .t 6)])⟩, ⟨some 8, none, .call .ro (.c (.fn n_image_load_sound [] [])) [.t 7]⟩, ⟨some 9, none, .r (.not (.t 8))⟩])
  (.cond (.t 9) (.seq (.region [⟨some 2, none, .r (.mov (.c (.tree [] true true)))⟩, ⟨some 3, none, .r (.mov (.c (.bool false)))⟩])
    (.ret))
  (.skip)))
  (.seq (.region [⟨some 11, none, .r (.faddr 4 (.t 1))⟩, ⟨some 12, none, .r (.load 1 false (.t 11))⟩, ⟨some 13, none, .r (.faddr 0 (.t 1))⟩, ⟨some 14, none, .r (.faddr 1 (.t 13))⟩, ⟨some 15, none, .r (.load 1 false (.t 14))⟩, ⟨some 16, none, .call .ro (.c (.fn n_image_Join [] [])) [.t 12, .t 15]⟩, ⟨some 10, none, .r (.mov (.t 16))⟩, ⟨some 17, none, .r (.extract 0 (.t 10))⟩, ⟨some 18, none, .r (.extract 1 (.t 10))⟩, ⟨some 4, none, .r (.mov (.t 17))⟩, ⟨some 5, none, .r (.mov (.t 18))⟩])
  (.seq (.region [⟨some 19, none, .r (.mov (.t 4))⟩, ⟨some 20, none, .r (.mov (.t 5))⟩, ⟨some 21, none, .r (.bin .eql (.t 20) (.c (.int .i64 0)))⟩, ⟨some 2, none, .r (.mov (.t 19))⟩, ⟨some 3, none, .r (.mov (.t 21))⟩])
  (.ret)))),
  [.t 2, .t 3]⟩
/-- slotmeshref36.Whole -/
def m_ref36_Whole : MFun := ⟨.seq (.region [⟨some 1, none, .r (.box (.t 0))⟩, ⟨some 2, none, .r (.mov (.c (.tree [] true true)))⟩, ⟨some 3, none, .r (.mov (.c (.bool false)))⟩])
  (.seq (.seq (.region [⟨some 6, none, .r (.load 13 true (.t 1))⟩, ⟨some 7, none, .call .ro (.c (.fn n_ref36_Sound [] [])) [.t 6]⟩, ⟨some 8, none, .r (.not (.t 7))⟩])
  (.cond (.t 8) (.seq (.region [⟨some 2, none, .r (.mov (.c (.tree [] true true)))⟩, ⟨some 3, none, .r (.mov (.c (.bool false)))⟩])
    (.ret))
  (.skip)))
  (.seq (.region [⟨some 10, none, .r (.faddr 4 (.t 1))⟩, ⟨some 11, none, .r (.load 1 false (.t 10))⟩, ⟨some 12, none, .r (.faddr 0 (.t 1))⟩, ⟨some 13, none, .r (.faddr 1 (.t 12))⟩, ⟨some 14, none, .r (.load 1 false (.t 13))⟩, ⟨some 15, none, .call .ro (.c (.fn n_ref36_Join [] [])) [.t 11, .t 14]⟩, ⟨some 9, none, .r (.mov (.t 15))⟩, ⟨some 16, none, .r (.extract 0 (.t 9))⟩, ⟨some 17, none, .r (.extract 1 (.t 9))⟩, ⟨some 4, none, .r (.mov (.t 16))⟩, ⟨some 5, none, .r (.mov (.t 17))⟩])
  (.seq (.region [⟨some 18, none, .r (.mov (.t 4))⟩, ⟨some 19, none, .r (.mov (.t 5))⟩, ⟨some 20, none, .r (.bin .eql (.t 19) (.c (.int .i64 0)))⟩, ⟨some 2, none, .r (.mov (.t 18))⟩, ⟨some 3, none, .r (.mov (.t 20))⟩])
  (.ret)))),
  [.t 2, .t 3]⟩
/-- slotmeshref36.Same -/
def b_ref36_Same_0 : MCode := .seq (.seq (.region [⟨some 51, none, .r (.mov (.t 5))⟩, ⟨some 52, none, .r (.faddr 6 (.t 2))⟩, ⟨some 53, none, .r (.load 1 false (.t 52))⟩, ⟨some 54, none, .r (.len (.t 53))⟩, ⟨some 55, none, .r (.bin .lss (.t 51) (.t 54))⟩])
  (.cond (.t 55) (.skip)
  (.trim [] (.exit 0))))
  (.seq (.block 1
  (.seq (.draw [(1, 7), (5, 7), (1, 11), (5, 11), (15, 21), (19, 21), (15, 25), (19, 25)] [⟨some 58, none, .r (.faddr 6 (.t 2))⟩, ⟨some 59, none, .r (.load 1 false (.t 58))⟩, ⟨some 60, none, .r (.mov (.t 5))⟩, ⟨some 61, none, .r (.iaddr 2 (.t 59) (.t 60))⟩, ⟨some 62, none, .r (.faddr 0 (.t 61))⟩, ⟨some 63, none, .r (.load 1 false (.t 62))⟩, ⟨some 64, none, .r (.faddr 6 (.t 3))⟩, ⟨some 65, none, .r (.load 1 false (.t 64))⟩, ⟨some 66, none, .r (.mov (.t 5))⟩, ⟨some 67, none, .r (.iaddr 2 (.t 65) (.t 66))⟩, ⟨some 68, none, .r (.faddr 0 (.t 67))⟩, ⟨some 69, none, .r (.load 1 false (.t 68))⟩, ⟨some 70, none, .r (.bin .neq (.t 63) (.t 69))⟩, ⟨some 71, none, .r (.mov (.t 70))⟩, ⟨some 72, (some (71, false)), .r (.faddr 6 (.t 2))⟩, ⟨some 73, (some (71, false)), .r (.load 1 false (.t 72))⟩, ⟨some 74, (some (71, false)), .r (.mov (.t 5))⟩, ⟨some 75, (some (71, false)), .r (.iaddr 2 (.t 73) (.t 74))⟩, ⟨some 76, (some (71, false)), .r (.faddr 1 (.t 75))⟩, ⟨some 77, (some (71, false)), .r (.load 1 false (.t 76))⟩, ⟨some 78, (some (71, false)), .r (.faddr 6 (.t 3))⟩, ⟨some 79, (some (71, false)), .r (.load 1 false (.t 78))⟩, ⟨some 80, (some (71, false)), .r (.mov (.t 5))⟩, ⟨some 81, (some (71, false)), .r (.iaddr 2 (.t 79) (.t 80))⟩, ⟨some 82, (some (71, false)), .r (.faddr 1 (.t 81))⟩, ⟨some 83, (some (71, false)), .r (.load 1 false (.t 82))⟩, ⟨some 84, (some (71, false)), .call .ro (.c (.fn n_ref36_Bytes [] [])) [.t 77, .t 83]⟩, ⟨some 85, (some (71, false)), .r (.not (.t 84))⟩, ⟨some 86, none, .r (.pick (.t 71) (.c (.bool true)) (.t 85))⟩])
    (.cond (.t 86) (.seq (.region [⟨some 4, none, .r (.mov (.c (.bool false)))⟩])
      (.ret))
    (.skip))))
  (.region [⟨some 56, none, .r (.mov (.t 5))⟩, ⟨some 57, none, .r (.bin .add (.t 56) (.c (.int .i64 1)))⟩, ⟨some 5, none, .r (.mov (.t 57))⟩]))
def l_ref36_Same_0 : MCode := .loop (.trim [2, 3, 5] b_ref36_Same_0)
def m_ref36_Same : MFun := ⟨.seq (.region [⟨some 2, none, .r (.box (.t 0))⟩, ⟨some 3, none, .r (.box (.t 1))⟩, ⟨some 4, none, .r (.mov (.c (.bool false)))⟩])
  (.seq (.seq (.region [⟨some 6, none, .r (.faddr 0 (.t 2))⟩, ⟨some 7, none, .r (.load 4 true (.t 6))⟩, ⟨some 8, none, .r (.faddr 0 (.t 3))⟩, ⟨some 9, none, .r (.load 4 true (.t 8))⟩, ⟨some 10, none, .r (.eqa true 4 (.t 7) (.t 9))⟩, ⟨some 11, none, .r (.mov (.t 10))⟩, ⟨some 12, (some (11, false)), .r (.faddr 8 (.t 2))⟩, ⟨some 13, (some (11, false)), .r (.load 5 true (.t 12))⟩, ⟨some 14, (some (11, false)), .r (.faddr 8 (.t 3))⟩, ⟨some 15, (some (11, false)), .r (.load 5 true (.t 14))⟩, ⟨some 16, (some (11, false)), .r (.eqa true 5 (.t 13) (.t 15))⟩, ⟨some 17, none, .r (.pick (.t 11) (.c (.bool true)) (.t 16))⟩, ⟨some 18, none, .r (.mov (.t 17))⟩, ⟨some 19, (some (18, false)), .r (.faddr 6 (.t 2))⟩, ⟨some 20, (some (18, false)), .r (.load 1 false (.t 19))⟩, ⟨some 21, (some (18, false)), .r (.len (.t 20))⟩, ⟨some 22, (some (18, false)), .r (.faddr 6 (.t 3))⟩, ⟨some 23, (some (18, false)), .r (.load 1 false (.t 22))⟩, ⟨some 24, (some (18, false)), .r (.len (.t 23))⟩, ⟨some 25, (some (18, false)), .r (.bin .neq (.t 21) (.t 24))⟩, ⟨some 26, none, .r (.pick (.t 18) (.c (.bool true)) (.t 25))⟩, ⟨some 27, none, .r (.mov (.t 26))⟩, ⟨some 28, (some (27, false)), .r (.faddr 4 (.t 2))⟩, ⟨some 29, (some (27, false)), .r (.load 1 false (.t 28))⟩, ⟨some 30, (some (27, false)), .r (.faddr 4 (.t 3))⟩, ⟨some 31, (some (27, false)), .r (.load 1 false (.t 30))⟩, ⟨some 32, (some (27, false)), .call .ro (.c (.fn n_ref36_Lists [] [])) [.t 29, .t 31]⟩, ⟨some 33, (some (27, false)), .r (.not (.t 32))⟩, ⟨some 34, none, .r (.pick (.t 27) (.c (.bool true)) (.t 33))⟩, ⟨some 35, none, .r (.mov (.t 34))⟩, ⟨some 36, (some (35, false)), .r (.faddr 5 (.t 2))⟩, ⟨some 37, (some (35, false)), .r (.load 1 false (.t 36))⟩, ⟨some 38, (some (35, false)), .r (.faddr 5 (.t 3))⟩, ⟨some 39, (some (35, false)), .r (.load 1 false (.t 38))⟩, ⟨some 40, (some (35, false)), .call .ro (.c (.fn n_ref36_proofs [] [])) [.t 37, .t 39]⟩, ⟨some 41, (some (35, false)), .r (.not (.t 40))⟩, ⟨some 42, none, .r (.pick (.t 35) (.c (.bool true)) (.t 41))⟩, ⟨some 43, none, .r (.mov (.t 42))⟩, ⟨some 44, (some (43, false)), .r (.faddr 7 (.t 2))⟩, ⟨some 45, (some (43, false)), .r (.load 1 false (.t 44))⟩, ⟨some 46, (some (43, false)), .r (.faddr 7 (.t 3))⟩, ⟨some 47, (some (43, false)), .r (.load 1 false (.t 46))⟩, ⟨some 48, (some (43, false)), .call .ro (.c (.fn n_ref35_Same [] [])) [.t 45, .t 47]⟩, ⟨some 49, (some (43, false)), .r (.not (.t 48))⟩, ⟨some 50, none, .r (.pick (.t 43) (.c (.bool true)) (.t 49))⟩])
  (.cond (.t 50) (.seq (.region [⟨some 4, none, .r (.mov (.c (.bool false)))⟩])
    (.ret))
  (.skip)))
  (.seq (.seq (.region [⟨some 5, none, .r (.mov (.c (.int .i64 0)))⟩])
  (.block 0
  (l_ref36_Same_0)))
  (.seq (.region [⟨some 4, none, .r (.mov (.c (.bool true)))⟩])
  (.ret)))),
  [.t 4]⟩
/-- slotmeshref36.Sound -/
def b_ref36_Sound_0 : MCode := .seq (.seq (.region [⟨some 33, none, .r (.mov (.t 3))⟩, ⟨some 34, none, .r (.faddr 4 (.t 1))⟩, ⟨some 35, none, .r (.load 1 false (.t 34))⟩, ⟨some 36, none, .r (.len (.t 35))⟩, ⟨some 37, none, .r (.bin .lss (.t 33) (.t 36))⟩])
  (.cond (.t 37) (.skip)
  (.trim [] (.exit 0))))
  (.seq (.block 1
  (.seq (.draw [(2, 5), (2, 6), (2, 9), (5, 9), (6, 9), (2, 12), (5, 12), (6, 12), (2, 14), (5, 14), (6, 14), (9, 14), (12, 14), (2, 17), (5, 17), (6, 17), (9, 17), (12, 17)] [⟨some 40, none, .r (.faddr 0 (.t 1))⟩, ⟨some 41, none, .r (.faddr 2 (.t 40))⟩, ⟨some 42, none, .r (.load 1 false (.t 41))⟩, ⟨some 43, none, .r (.faddr 0 (.t 1))⟩, ⟨some 44, none, .r (.faddr 1 (.t 43))⟩, ⟨some 45, none, .r (.load 1 false (.t 44))⟩, ⟨some 46, none, .call .ro (.c (.fn n_ref36_Count [] [])) [.t 45]⟩, ⟨some 47, none, .r (.mov (.t 3))⟩, ⟨some 48, none, .r (.faddr 4 (.t 1))⟩, ⟨some 49, none, .r (.load 1 false (.t 48))⟩, ⟨some 50, none, .r (.mov (.t 3))⟩, ⟨some 51, none, .r (.iaddr 1 (.t 49) (.t 50))⟩, ⟨some 52, none, .r (.load 1 false (.t 51))⟩, ⟨some 53, none, .r (.faddr 5 (.t 1))⟩, ⟨some 54, none, .r (.load 1 false (.t 53))⟩, ⟨some 55, none, .r (.mov (.t 3))⟩, ⟨some 56, none, .r (.iaddr 1 (.t 54) (.t 55))⟩, ⟨some 57, none, .r (.load 1 false (.t 56))⟩, ⟨some 58, none, .call .ro (.c (.fn n_ref35_Check [] [])) [.t 42, .t 46, .t 47, .t 52, .t 57]⟩, ⟨some 59, none, .r (.not (.t 58))⟩])
    (.cond (.t 59) (.seq (.region [⟨some 2, none, .r (.mov (.c (.bool false)))⟩])
      (.ret))
    (.skip))))
  (.region [⟨some 38, none, .r (.mov (.t 3))⟩, ⟨some 39, none, .r (.bin .add (.t 38) (.c (.int .i64 1)))⟩, ⟨some 3, none, .r (.mov (.t 39))⟩]))
def l_ref36_Sound_0 : MCode := .loop (.trim [1, 3] b_ref36_Sound_0)
def m_ref36_Sound : MFun := ⟨.seq (.region [⟨some 1, none, .r (.box (.t 0))⟩, ⟨some 2, none, .r (.mov (.c (.bool false)))⟩])
  (.seq (.seq (.draw [(6, 10), (6, 11), (16, 19)] [⟨some 4, none, .r (.faddr 0 (.t 1))⟩, ⟨some 5, none, .r (.load 4 true (.t 4))⟩, ⟨some 6, none, .call .ro (.c (.fn n_ref36_Notice [] [])) [.t 5]⟩, ⟨some 7, none, .r (.not (.t 6))⟩, ⟨some 8, none, .r (.mov (.t 7))⟩, ⟨some 9, (some (8, false)), .r (.faddr 4 (.t 1))⟩, ⟨some 10, (some (8, false)), .r (.load 1 false (.t 9))⟩, ⟨some 11, (some (8, false)), .r (.len (.t 10))⟩, ⟨some 12, (some (8, false)), .r (.faddr 0 (.t 1))⟩, ⟨some 13, (some (8, false)), .r (.faddr 1 (.t 12))⟩, ⟨some 14, (some (8, false)), .r (.load 1 false (.t 13))⟩, ⟨some 15, (some (8, false)), .call .ro (.c (.fn n_ref36_Count [] [])) [.t 14]⟩, ⟨some 16, (some (8, false)), .r (.bin .gtr (.t 11) (.t 15))⟩, ⟨some 17, none, .r (.pick (.t 8) (.c (.bool true)) (.t 16))⟩, ⟨some 18, none, .r (.mov (.t 17))⟩, ⟨some 19, (some (18, false)), .r (.faddr 5 (.t 1))⟩, ⟨some 20, (some (18, false)), .r (.load 1 false (.t 19))⟩, ⟨some 21, (some (18, false)), .r (.len (.t 20))⟩, ⟨some 22, (some (18, false)), .r (.faddr 4 (.t 1))⟩, ⟨some 23, (some (18, false)), .r (.load 1 false (.t 22))⟩, ⟨some 24, (some (18, false)), .r (.len (.t 23))⟩, ⟨some 25, (some (18, false)), .r (.bin .neq (.t 21) (.t 24))⟩, ⟨some 26, none, .r (.pick (.t 18) (.c (.bool true)) (.t 25))⟩, ⟨some 27, none, .r (.mov (.t 26))⟩, ⟨some 28, (some (27, false)), .r (.faddr 4 (.t 1))⟩, ⟨some 29, (some (27, false)), .r (.load 1 false (.t 28))⟩, ⟨some 30, (some (27, false)), .call .ro (.c (.fn n_ref36_Pages [] [])) [.t 29]⟩, ⟨some 31, (some (27, false)), .r (.not (.t 30))⟩, ⟨some 32, none, .r (.pick (.t 27) (.c (.bool true)) (.t 31))⟩])
  (.cond (.t 32) (.seq (.region [⟨some 2, none, .r (.mov (.c (.bool false)))⟩])
    (.ret))
  (.skip)))
  (.seq (.seq (.region [⟨some 3, none, .r (.mov (.c (.int .i64 0)))⟩])
  (.block 0
  (l_ref36_Sound_0)))
  (.seq (.region [⟨some 2, none, .r (.mov (.c (.bool true)))⟩])
  (.ret)))),
  [.t 2]⟩
/-- slotmeshref36.Count -/
def m_ref36_Count : MFun := ⟨.seq (.region [⟨some 2, none, .r (.mov (.c (.int .i64 0)))⟩])
  (.seq (.region [⟨some 3, none, .r (.mov (.t 0))⟩, ⟨some 4, none, .r (.bin .add (.t 3) (.c (.int .i64 256)))⟩, ⟨some 5, none, .r (.bin .sub (.t 4) (.c (.int .i64 1)))⟩, ⟨some 6, none, .r (.bin .quo (.t 5) (.c (.int .i64 256)))⟩, ⟨some 2, none, .r (.mov (.t 6))⟩])
  (.ret)),
  [.t 2]⟩
/-- slotmeshref35.Same -/
def b_ref35_Same_0 : MCode := .seq (.seq (.region [⟨some 11, none, .r (.mov (.t 5))⟩, ⟨some 12, none, .r (.mov (.t 0))⟩, ⟨some 13, none, .r (.len (.t 12))⟩, ⟨some 14, none, .r (.bin .lss (.t 11) (.t 13))⟩])
  (.cond (.t 14) (.skip)
  (.trim [] (.exit 0))))
  (.seq (.block 1
  (.seq (.draw [(3, 7)] [⟨some 17, none, .r (.mov (.t 0))⟩, ⟨some 18, none, .r (.mov (.t 5))⟩, ⟨some 19, none, .r (.iaddr 1 (.t 17) (.t 18))⟩, ⟨some 20, none, .r (.load 1 false (.t 19))⟩, ⟨some 21, none, .r (.mov (.t 1))⟩, ⟨some 22, none, .r (.mov (.t 5))⟩, ⟨some 23, none, .r (.iaddr 1 (.t 21) (.t 22))⟩, ⟨some 24, none, .r (.load 1 false (.t 23))⟩, ⟨some 25, none, .r (.bin .neq (.t 20) (.t 24))⟩])
    (.cond (.t 25) (.seq (.region [⟨some 4, none, .r (.mov (.c (.bool false)))⟩])
      (.ret))
    (.skip))))
  (.region [⟨some 15, none, .r (.mov (.t 5))⟩, ⟨some 16, none, .r (.bin .add (.t 15) (.c (.int .i64 1)))⟩, ⟨some 5, none, .r (.mov (.t 16))⟩]))
def l_ref35_Same_0 : MCode := .loop (.trim [0, 1, 5] b_ref35_Same_0)
def m_ref35_Same : MFun := ⟨.seq (.region [⟨some 4, none, .r (.mov (.c (.bool false)))⟩])
  (.seq (.seq (.region [⟨some 6, none, .r (.mov (.t 0))⟩, ⟨some 7, none, .r (.len (.t 6))⟩, ⟨some 8, none, .r (.mov (.t 1))⟩, ⟨some 9, none, .r (.len (.t 8))⟩, ⟨some 10, none, .r (.bin .neq (.t 7) (.t 9))⟩])
  (.cond (.t 10) (.seq (.region [⟨some 4, none, .r (.mov (.c (.bool false)))⟩])
    (.ret))
  (.skip)))
  (.seq (.seq (.region [⟨some 5, none, .r (.mov (.c (.int .i64 0)))⟩])
  (.block 0
  (l_ref35_Same_0)))
  (.seq (.region [⟨some 4, none, .r (.mov (.c (.bool true)))⟩])
  (.ret)))),
  [.t 4]⟩
/-- tree.Proof -/
def a_tree_Proof_0 : MCode := .region [⟨some 7, none, .r (.mov (.t 24))⟩]
def y_tree_Proof_0 : MCode := .block 1
  (.seq (.seq (.region [⟨some 25, none, .r (.load 1 false (.t 3))⟩, ⟨some 26, none, .r (.bin .xor (.t 25) (.c (.int .i64 1)))⟩, ⟨some 8, none, .r (.mov (.t 26))⟩])
    (.seq (.region [⟨some 27, none, .r (.mov (.t 8))⟩, ⟨some 28, none, .r (.mov (.t 7))⟩, ⟨some 29, none, .r (.len (.t 28))⟩, ⟨some 30, none, .r (.bin .lss (.t 27) (.t 29))⟩])
    (.cond (.t 30) (.draw [(0, 4)] [⟨some 31, none, .r (.load 1 false (.t 6))⟩, ⟨some 32, none, .r (.mov (.t 7))⟩, ⟨some 33, none, .r (.mov (.t 8))⟩, ⟨some 34, none, .r (.iaddr 1 (.t 32) (.t 33))⟩, ⟨some 35, none, .r (.load 1 false (.t 34))⟩, ⟨some 36, none, .r (.bslice 1 [.t 35])⟩, ⟨some 37, none, .w (.append 1 (.t 31) (.t 36))⟩, ⟨none, none, .w (.store 1 (.t 6) (.t 37))⟩])
    (.skip))))
    (.region [⟨some 38, none, .r (.load 1 false (.t 3))⟩, ⟨some 39, none, .r (.bin .quo (.t 38) (.c (.int .i64 2)))⟩, ⟨none, none, .w (.store 1 (.t 3) (.t 39))⟩]))
def g_tree_Proof_0 : MCode := .range (.t 23) [24] a_tree_Proof_0 y_tree_Proof_0
def m_tree_Proof : MFun := ⟨.seq (.region [⟨some 3, none, .r (.box (.t 1))⟩, ⟨some 4, none, .r (.mov (.c (.tree [] true true)))⟩, ⟨some 5, none, .r (.mov (.c (.int .i64 0)))⟩])
  (.seq (.seq (.region [⟨some 9, none, .r (.mov (.t 0))⟩, ⟨some 10, none, .call .ro (.c (.fn n_tree_arePages [] [])) [.t 9]⟩, ⟨some 11, none, .r (.not (.t 10))⟩, ⟨some 12, none, .r (.mov (.t 11))⟩, ⟨some 13, (some (12, false)), .r (.load 1 false (.t 3))⟩, ⟨some 14, (some (12, false)), .r (.bin .lss (.t 13) (.c (.int .i64 0)))⟩, ⟨some 15, none, .r (.pick (.t 12) (.c (.bool true)) (.t 14))⟩, ⟨some 16, none, .r (.mov (.t 15))⟩, ⟨some 17, (some (16, false)), .r (.load 1 false (.t 3))⟩, ⟨some 18, (some (16, false)), .r (.mov (.t 0))⟩, ⟨some 19, (some (16, false)), .r (.len (.t 18))⟩, ⟨some 20, (some (16, false)), .r (.bin .geq (.t 17) (.t 19))⟩, ⟨some 21, none, .r (.pick (.t 16) (.c (.bool true)) (.t 20))⟩])
  (.cond (.t 21) (.seq (.region [⟨some 4, none, .r (.mov (.c (.tree [] true true)))⟩, ⟨some 5, none, .r (.mov (.c (.int .i64 1)))⟩])
    (.ret))
  (.skip)))
  (.seq (.region [⟨some 6, none, .r (.alloc [.tree [] true true])⟩])
  (.seq (.seq (.region [⟨some 22, none, .r (.mov (.t 0))⟩, ⟨some 23, none, .call .rw (.c (.fn n_tree_levels [] [])) [.t 22]⟩])
  (.block 0
  (.trim [3, 4, 5, 6, 23] g_tree_Proof_0)))
  (.seq (.region [⟨some 40, none, .r (.load 1 false (.t 6))⟩, ⟨some 4, none, .r (.mov (.t 40))⟩, ⟨some 5, none, .r (.mov (.c (.int .i64 0)))⟩])
  (.ret))))),
  [.t 4, .t 5]⟩
/-- slotmeshlaw36.loaded -/
def b_law36_loaded_0 : MCode := .seq (.seq (.region [⟨some 32, none, .r (.mov (.t 14))⟩, ⟨some 33, none, .r (.mov (.t 2))⟩, ⟨some 34, none, .r (.bin .lss (.t 32) (.t 33))⟩, ⟨some 35, none, .r (.mov (.t 34))⟩, ⟨some 36, (some (35, true)), .r (.mov (.t 14))⟩, ⟨some 37, (some (35, true)), .r (.mov (.t 11))⟩, ⟨some 38, (some (35, true)), .r (.len (.t 37))⟩, ⟨some 39, (some (35, true)), .r (.bin .lss (.t 36) (.t 38))⟩, ⟨some 40, none, .r (.pick (.t 35) (.t 39) (.c (.bool false)))⟩])
  (.cond (.t 40) (.skip)
  (.trim [6, 10, 11, 12, 13] (.exit 0))))
  (.seq (.block 1
  (.seq (.region [⟨some 44, none, .r (.mov (.t 11))⟩, ⟨some 45, none, .r (.mov (.t 14))⟩, ⟨some 46, none, .call .ro (.c (.fn n_tree_Proof [] [])) [.t 44, .t 45]⟩, ⟨some 43, none, .r (.mov (.t 46))⟩, ⟨some 47, none, .r (.extract 0 (.t 43))⟩, ⟨some 48, none, .r (.extract 1 (.t 43))⟩, ⟨some 15, none, .r (.mov (.t 47))⟩, ⟨some 16, none, .r (.mov (.t 48))⟩])
    (.seq (.draw [(0, 4), (0, 10), (4, 10), (6, 10)] [⟨some 50, none, .r (.load 13 true (.t 13))⟩, ⟨some 51, none, .r (.mov (.t 11))⟩, ⟨some 52, none, .r (.mov (.t 14))⟩, ⟨some 53, none, .r (.iaddr 1 (.t 51) (.t 52))⟩, ⟨some 54, none, .r (.load 1 false (.t 53))⟩, ⟨some 55, none, .r (.mov (.t 15))⟩, ⟨some 56, none, .call .ro (.c (.fn n_image_Put [] [])) [.t 50, .t 54, .t 55]⟩, ⟨some 49, none, .r (.mov (.t 56))⟩, ⟨some 57, none, .r (.extract 0 (.t 49))⟩, ⟨some 58, none, .r (.extract 1 (.t 49))⟩, ⟨some 17, none, .r (.alloc [.int .i64 0, .int .i64 0, .int .u64 0, .int .i64 0, .tree [] true true, .tree [] true true, .tree [] true true, .tree [] true true, .int .i64 0, .int .i64 0, .int .i64 0, .int .i64 0, .int .i64 0])⟩, ⟨none, none, .w (.store 13 (.t 17) (.t 57))⟩, ⟨some 18, none, .r (.mov (.t 58))⟩])
    (.seq (.seq (.region [⟨some 59, none, .r (.mov (.t 16))⟩, ⟨some 60, none, .r (.bin .neq (.t 59) (.c (.int .i64 0)))⟩, ⟨some 61, none, .r (.mov (.t 60))⟩, ⟨some 62, (some (61, false)), .r (.mov (.t 18))⟩, ⟨some 63, (some (61, false)), .r (.bin .neq (.t 62) (.c (.int .i64 0)))⟩, ⟨some 64, none, .r (.pick (.t 61) (.c (.bool true)) (.t 63))⟩])
    (.cond (.t 64) (.seq (.region [⟨some 65, none, .r (.load 13 true (.t 13))⟩, ⟨none, none, .w (.store 13 (.t 6) (.t 65))⟩, ⟨some 7, none, .r (.mov (.c (.tree [] true true)))⟩, ⟨some 8, none, .r (.mov (.c (.bool false)))⟩])
      (.ret))
    (.skip)))
    (.region [⟨some 66, none, .r (.load 13 true (.t 17))⟩, ⟨none, none, .w (.store 13 (.t 13) (.t 66))⟩])))))
  (.region [⟨some 41, none, .r (.mov (.t 14))⟩, ⟨some 42, none, .r (.bin .add (.t 41) (.c (.int .i64 1)))⟩, ⟨some 14, none, .r (.mov (.t 42))⟩]))
def l_law36_loaded_0 : MCode := .loop (.trim [2, 6, 10, 11, 12, 13, 14] b_law36_loaded_0)
def m_law36_loaded : MFun := ⟨.seq (.region [⟨some 6, none, .r (.alloc [.int .i64 0, .int .i64 0, .int .u64 0, .int .i64 0, .tree [] true true, .tree [] true true, .tree [] true true, .tree [] true true, .int .i64 0, .int .i64 0, .int .i64 0, .int .i64 0, .int .i64 0])⟩, ⟨some 7, none, .r (.mov (.c (.tree [] true true)))⟩, ⟨some 8, none, .r (.mov (.c (.bool false)))⟩])
  (.seq (.region [⟨some 20, none, .r (.mov (.t 1))⟩, ⟨some 21, none, .r (.mov (.t 0))⟩, ⟨some 22, none, .call .ro (.c (.fn n_image_Announce [] [])) [.t 20, .t 21, .c (.int .i64 0)]⟩, ⟨some 19, none, .r (.mov (.t 22))⟩, ⟨some 23, none, .r (.extract 0 (.t 19))⟩, ⟨some 24, none, .r (.extract 1 (.t 19))⟩, ⟨some 9, none, .r (.alloc [.int .i64 0, .int .i64 0, .int .u64 0, .int .i64 0])⟩, ⟨none, none, .w (.store 4 (.t 9) (.t 23))⟩, ⟨some 10, none, .r (.mov (.t 24))⟩])
  (.seq (.region [⟨some 26, none, .r (.mov (.t 0))⟩, ⟨some 27, none, .call .ro (.c (.fn n_image_Split [] [])) [.t 26]⟩, ⟨some 25, none, .r (.mov (.t 27))⟩, ⟨some 28, none, .r (.extract 0 (.t 25))⟩, ⟨some 29, none, .r (.extract 1 (.t 25))⟩, ⟨some 11, none, .r (.mov (.t 28))⟩, ⟨some 12, none, .r (.mov (.t 29))⟩])
  (.seq (.region [⟨some 30, none, .r (.load 4 true (.t 9))⟩, ⟨some 31, none, .r (.build [.int .i64 0, .int .i64 0, .int .u64 0, .int .i64 0, .tree [] true true, .tree [] true true, .tree [] true true, .tree [] true true, .int .i64 0, .int .i64 0, .int .i64 0, .int .i64 0, .int .i64 0] [(0, 4, .t 30)])⟩, ⟨some 13, none, .r (.alloc [.int .i64 0, .int .i64 0, .int .u64 0, .int .i64 0, .tree [] true true, .tree [] true true, .tree [] true true, .tree [] true true, .int .i64 0, .int .i64 0, .int .i64 0, .int .i64 0, .int .i64 0])⟩, ⟨none, none, .w (.store 13 (.t 13) (.t 31))⟩])
  (.seq (.seq (.region [⟨some 14, none, .r (.mov (.c (.int .i64 0)))⟩])
  (.block 0
  (l_law36_loaded_0)))
  (.seq (.region [⟨some 67, none, .r (.load 13 true (.t 13))⟩, ⟨some 68, none, .r (.mov (.t 11))⟩, ⟨some 69, none, .r (.mov (.t 10))⟩, ⟨some 70, none, .r (.bin .eql (.t 69) (.c (.int .i64 0)))⟩, ⟨some 71, none, .r (.mov (.t 70))⟩, ⟨some 72, (some (71, true)), .r (.mov (.t 12))⟩, ⟨some 73, (some (71, true)), .r (.bin .eql (.t 72) (.c (.int .i64 0)))⟩, ⟨some 74, none, .r (.pick (.t 71) (.t 73) (.c (.bool false)))⟩, ⟨none, none, .w (.store 13 (.t 6) (.t 67))⟩, ⟨some 7, none, .r (.mov (.t 68))⟩, ⟨some 8, none, .r (.mov (.t 74))⟩])
  (.ret)))))),
  [.cell 6 13 true, .t 7, .t 8]⟩
/-- slotmeshlaw36.sample -/
def b_law36_sample_0 : MCode := .seq (.region [⟨some 7, none, .r (.bin .lss (.t 6) (.t 5))⟩])
  (.seq (.cond (.t 7) (.skip)
  (.trim [1] (.exit 0)))
  (.seq (.block 1
  (.seq (.region [⟨some 8, none, .r (.mov (.t 6))⟩, ⟨some 2, none, .r (.mov (.t 8))⟩])
    (.region [⟨some 9, none, .r (.mov (.t 1))⟩, ⟨some 10, none, .r (.mov (.t 2))⟩, ⟨some 11, none, .r (.mov (.t 2))⟩, ⟨some 12, none, .r (.bin .mul (.t 11) (.c (.int .i64 7)))⟩, ⟨some 13, none, .r (.conv .u8 (.t 12))⟩, ⟨some 14, none, .r (.iaddr 1 (.t 9) (.t 10))⟩, ⟨none, none, .w (.store 1 (.t 14) (.t 13))⟩])))
  (.region [⟨some 15, none, .r (.bin .add (.t 6) (.c (.int .i64 1)))⟩, ⟨some 6, none, .r (.mov (.t 15))⟩])))
def l_law36_sample_0 : MCode := .loop (.trim [1, 5, 6] b_law36_sample_0)
def m_law36_sample : MFun := ⟨.seq (.region [⟨some 0, none, .r (.mov (.c (.tree [] true true)))⟩])
  (.seq (.region [⟨some 3, none, .r (.mkslice [.int .u8 0] (.c (.int .i64 300)) (.c (.int .i64 300)))⟩, ⟨some 1, none, .r (.mov (.t 3))⟩])
  (.seq (.seq (.region [⟨some 4, none, .r (.mov (.t 1))⟩, ⟨some 5, none, .r (.len (.t 4))⟩, ⟨some 6, none, .r (.mov (.c (.int .i64 0)))⟩])
  (.block 0
  (l_law36_sample_0)))
  (.seq (.region [⟨some 16, none, .r (.mov (.t 1))⟩, ⟨some 0, none, .r (.mov (.t 16))⟩])
  (.ret)))),
  [.t 0]⟩
/-- slotmeshref35.Leaf -/
def m_ref35_Leaf : MFun := ⟨.seq (.region [⟨some 2, none, .r (.mov (.c (.int .u64 0)))⟩])
  (.seq (.region [⟨some 3, none, .r (.bslice 1 [.c (.int .u8 0)])⟩, ⟨some 4, none, .call .ro (.c (.fn n_ref05_Sum [] [])) [.t 3]⟩, ⟨some 5, none, .r (.mov (.t 0))⟩, ⟨some 6, none, .call .ro (.c (.fn n_ref05_Add [] [])) [.t 4, .t 5]⟩, ⟨some 2, none, .r (.mov (.t 6))⟩])
  (.ret)),
  [.t 2]⟩
/-- image.sized -/
def m_image_sized : MFun := ⟨.seq (.region [⟨some 2, none, .r (.mov (.c (.bool false)))⟩])
  (.seq (.region [⟨some 3, none, .r (.mov (.t 0))⟩, ⟨some 4, none, .r (.bin .geq (.t 3) (.c (.int .i64 1)))⟩, ⟨some 5, none, .r (.mov (.t 4))⟩, ⟨some 6, (some (5, true)), .r (.mov (.t 0))⟩, ⟨some 7, (some (5, true)), .r (.bin .leq (.t 6) (.c (.int .i64 4096)))⟩, ⟨some 8, none, .r (.pick (.t 5) (.t 7) (.c (.bool false)))⟩, ⟨some 2, none, .r (.mov (.t 8))⟩])
  (.ret)),
  [.t 2]⟩
/-- slices.Chunk[[]byte,byte] -/
def m_slices_Chunk_sbyte_byte : MFun := ⟨.seq (.region [⟨some 2, none, .r (.box (.t 0))⟩, ⟨some 3, none, .r (.box (.t 1))⟩, ⟨some 4, none, .r (.mov (.c (.undef)))⟩])
  (.seq (.seq (.region [⟨some 5, none, .r (.load 1 false (.t 3))⟩, ⟨some 6, none, .r (.bin .lss (.t 5) (.c (.int .i64 1)))⟩])
  (.cond (.t 6) (.trap)
  (.skip)))
  (.seq (.region [⟨some 8, none, .r (.mkfn n_slices_Chunk_sbyte_byte_1 [] [.t 2, .t 3])⟩, ⟨some 4, none, .r (.mov (.t 8))⟩])
  (.ret))),
  [.t 4]⟩
/-- slotmeshref36.Size -/
def m_ref36_Size : MFun := ⟨.seq (.region [⟨some 2, none, .r (.mov (.c (.bool false)))⟩])
  (.seq (.region [⟨some 3, none, .r (.mov (.t 0))⟩, ⟨some 4, none, .r (.bin .geq (.t 3) (.c (.int .i64 1)))⟩, ⟨some 5, none, .r (.mov (.t 4))⟩, ⟨some 6, (some (5, true)), .r (.mov (.t 0))⟩, ⟨some 7, (some (5, true)), .r (.bin .leq (.t 6) (.c (.int .i64 4096)))⟩, ⟨some 8, none, .r (.pick (.t 5) (.t 7) (.c (.bool false)))⟩, ⟨some 2, none, .r (.mov (.t 8))⟩])
  (.ret)),
  [.t 2]⟩
/-- image.count -/
def m_image_count : MFun := ⟨.seq (.region [⟨some 2, none, .r (.mov (.c (.int .i64 0)))⟩])
  (.seq (.region [⟨some 3, none, .r (.mov (.t 0))⟩, ⟨some 4, none, .r (.bin .add (.t 3) (.c (.int .i64 256)))⟩, ⟨some 5, none, .r (.bin .sub (.t 4) (.c (.int .i64 1)))⟩, ⟨some 6, none, .r (.bin .quo (.t 5) (.c (.int .i64 256)))⟩, ⟨some 2, none, .r (.mov (.t 6))⟩])
  (.ret)),
  [.t 2]⟩
/-- image.paged -/
def m_image_paged : MFun := ⟨.seq (.region [⟨some 2, none, .r (.mov (.c (.bool false)))⟩])
  (.seq (.region [⟨some 3, none, .r (.mov (.t 0))⟩, ⟨some 4, none, .call .ro (.c (.fn n_slices_ContainsFunc_ssbyte_sbyte [] [])) [.t 3, .c (.fn n_image_paged_1 [] [])]⟩, ⟨some 5, none, .r (.not (.t 4))⟩, ⟨some 2, none, .r (.mov (.t 5))⟩])
  (.ret)),
  [.t 2]⟩
/-- slices.Concat[[]byte,byte] -/
def b_slices_Concat_sbyte_byte_0 : MCode := .seq (.region [⟨some 12, none, .r (.bin .lss (.t 11) (.t 10))⟩])
  (.seq (.cond (.t 12) (.skip)
  (.trim [0, 3] (.exit 0)))
  (.seq (.block 1
  (.seq (.region [⟨some 13, none, .r (.iaddr 1 (.t 9) (.t 11))⟩, ⟨some 14, none, .r (.load 1 false (.t 13))⟩, ⟨some 5, none, .r (.mov (.t 14))⟩])
    (.seq (.region [⟨some 15, none, .r (.mov (.t 3))⟩, ⟨some 16, none, .r (.mov (.t 5))⟩, ⟨some 17, none, .r (.len (.t 16))⟩, ⟨some 18, none, .r (.bin .add (.t 15) (.t 17))⟩, ⟨some 3, none, .r (.mov (.t 18))⟩])
    (.seq (.region [⟨some 19, none, .r (.mov (.t 3))⟩, ⟨some 20, none, .r (.bin .lss (.t 19) (.c (.int .i64 0)))⟩])
    (.cond (.t 20) (.trap)
    (.skip))))))
  (.region [⟨some 22, none, .r (.bin .add (.t 11) (.c (.int .i64 1)))⟩, ⟨some 11, none, .r (.mov (.t 22))⟩])))
def l_slices_Concat_sbyte_byte_0 : MCode := .loop (.trim [0, 3, 9, 10, 11] b_slices_Concat_sbyte_byte_0)
def b_slices_Concat_sbyte_byte_1 : MCode := .seq (.region [⟨some 28, none, .r (.bin .lss (.t 27) (.t 26))⟩])
  (.seq (.cond (.t 28) (.skip)
  (.trim [6] (.exit 2)))
  (.seq (.block 3
  (.seq (.region [⟨some 29, none, .r (.iaddr 1 (.t 25) (.t 27))⟩, ⟨some 30, none, .r (.load 1 false (.t 29))⟩, ⟨some 8, none, .r (.mov (.t 30))⟩])
    (.region [⟨some 31, none, .r (.mov (.t 6))⟩, ⟨some 32, none, .r (.mov (.t 8))⟩, ⟨some 33, none, .w (.append 1 (.t 31) (.t 32))⟩, ⟨some 6, none, .r (.mov (.t 33))⟩])))
  (.region [⟨some 34, none, .r (.bin .add (.t 27) (.c (.int .i64 1)))⟩, ⟨some 27, none, .r (.mov (.t 34))⟩])))
def l_slices_Concat_sbyte_byte_1 : MCode := .loop (.trim [6, 25, 26, 27] b_slices_Concat_sbyte_byte_1)
def m_slices_Concat_sbyte_byte : MFun := ⟨.seq (.region [⟨some 2, none, .r (.mov (.c (.tree [] true true)))⟩])
  (.seq (.region [⟨some 3, none, .r (.mov (.c (.int .i64 0)))⟩])
  (.seq (.seq (.region [⟨some 9, none, .r (.mov (.t 0))⟩, ⟨some 10, none, .r (.len (.t 9))⟩, ⟨some 11, none, .r (.mov (.c (.int .i64 0)))⟩])
  (.block 0
  (l_slices_Concat_sbyte_byte_0)))
  (.seq (.region [⟨some 23, none, .r (.mov (.t 3))⟩, ⟨some 24, none, .call .rw (.c (.fn n_slices_Grow_sbyte_byte [] [])) [.c (.tree [] true true), .t 23]⟩, ⟨some 6, none, .r (.mov (.t 24))⟩])
  (.seq (.seq (.region [⟨some 25, none, .r (.mov (.t 0))⟩, ⟨some 26, none, .r (.len (.t 25))⟩, ⟨some 27, none, .r (.mov (.c (.int .i64 0)))⟩])
  (.block 2
  (l_slices_Concat_sbyte_byte_1)))
  (.seq (.region [⟨some 35, none, .r (.mov (.t 6))⟩, ⟨some 2, none, .r (.mov (.t 35))⟩])
  (.ret)))))),
  [.t 2]⟩
/-- bytes.Trim -/
def m_bytes_Trim : MFun := ⟨.seq (.region [⟨some 4, none, .r (.mov (.c (.tree [] true true)))⟩])
  (.seq (.seq (.region [⟨some 7, none, .r (.mov (.t 0))⟩, ⟨some 8, none, .r (.len (.t 7))⟩, ⟨some 9, none, .r (.bin .eql (.t 8) (.c (.int .i64 0)))⟩])
  (.cond (.t 9) (.seq (.region [⟨some 4, none, .r (.mov (.c (.tree [] true true)))⟩])
    (.ret))
  (.skip)))
  (.seq (.seq (.region [⟨some 10, none, .r (.mov (.t 1))⟩, ⟨some 11, none, .r (.eqs false (.t 10) (.c (.str ⟨#[]⟩)))⟩])
  (.cond (.t 11) (.seq (.region [⟨some 12, none, .r (.mov (.t 0))⟩, ⟨some 4, none, .r (.mov (.t 12))⟩])
    (.ret))
  (.skip)))
  (.seq (.seq (.region [⟨some 13, none, .r (.mov (.t 1))⟩, ⟨some 14, none, .r (.lenS (.t 13))⟩, ⟨some 15, none, .r (.bin .eql (.t 14) (.c (.int .i64 1)))⟩, ⟨some 16, none, .r (.mov (.t 15))⟩, ⟨some 17, (some (16, true)), .r (.mov (.t 1))⟩, ⟨some 18, (some (16, true)), .r (.indexS (.t 17) (.c (.int .i64 0)))⟩, ⟨some 19, (some (16, true)), .r (.bin .lss (.t 18) (.c (.int .u8 128)))⟩, ⟨some 20, none, .r (.pick (.t 16) (.t 19) (.c (.bool false)))⟩])
  (.cond (.t 20) (.seq (.draw [] [⟨some 21, none, .r (.mov (.t 0))⟩, ⟨some 22, none, .r (.mov (.t 1))⟩, ⟨some 23, none, .r (.indexS (.t 22) (.c (.int .i64 0)))⟩, ⟨some 24, none, .call .ro (.c (.fn n_bytes_trimRightByte [] [])) [.t 21, .t 23]⟩, ⟨some 25, none, .r (.mov (.t 1))⟩, ⟨some 26, none, .r (.indexS (.t 25) (.c (.int .i64 0)))⟩, ⟨some 27, none, .call .ro (.c (.fn n_bytes_trimLeftByte [] [])) [.t 24, .t 26]⟩, ⟨some 4, none, .r (.mov (.t 27))⟩])
    (.ret))
  (.skip)))
  (.seq (.seq (.trap)
  (.seq (.region [⟨some 33, none, .r (.mov (.t 6))⟩])
  (.cond (.t 33) (.seq (.region [⟨some 34, none, .r (.mov (.t 0))⟩, ⟨some 35, none, .call .ro (.c (.fn 65 [] [])) [.t 34, .t 5]⟩, ⟨some 36, none, .call .ro (.c (.fn 64 [] [])) [.t 35, .t 5]⟩, ⟨some 4, none, .r (.mov (.t 36))⟩])
    (.ret))
  (.skip))))
  (.seq (.region [⟨some 37, none, .r (.mov (.t 0))⟩, ⟨some 38, none, .r (.mov (.t 1))⟩, ⟨some 39, none, .call .ro (.c (.fn 67 [] [])) [.t 37, .t 38]⟩, ⟨some 40, none, .r (.mov (.t 1))⟩, ⟨some 41, none, .call .ro (.c (.fn 66 [] [])) [.t 39, .t 40]⟩, ⟨some 4, none, .r (.mov (.t 41))⟩])
  (.ret)))))),
  [.t 4]⟩
/-- slotmeshref36.Pages -/
def b_ref36_Pages_0 : MCode := .seq (.seq (.region [⟨some 4, none, .r (.mov (.t 3))⟩, ⟨some 5, none, .r (.mov (.t 0))⟩, ⟨some 6, none, .r (.len (.t 5))⟩, ⟨some 7, none, .r (.bin .lss (.t 4) (.t 6))⟩])
  (.cond (.t 7) (.skip)
  (.trim [] (.exit 0))))
  (.seq (.block 1
  (.seq (.region [⟨some 10, none, .r (.mov (.t 0))⟩, ⟨some 11, none, .r (.mov (.t 3))⟩, ⟨some 12, none, .r (.iaddr 1 (.t 10) (.t 11))⟩, ⟨some 13, none, .r (.load 1 false (.t 12))⟩, ⟨some 14, none, .r (.len (.t 13))⟩, ⟨some 15, none, .r (.bin .neq (.t 14) (.c (.int .i64 256)))⟩])
    (.cond (.t 15) (.seq (.region [⟨some 2, none, .r (.mov (.c (.bool false)))⟩])
      (.ret))
    (.skip))))
  (.region [⟨some 8, none, .r (.mov (.t 3))⟩, ⟨some 9, none, .r (.bin .add (.t 8) (.c (.int .i64 1)))⟩, ⟨some 3, none, .r (.mov (.t 9))⟩]))
def l_ref36_Pages_0 : MCode := .loop (.trim [0, 3] b_ref36_Pages_0)
def m_ref36_Pages : MFun := ⟨.seq (.region [⟨some 2, none, .r (.mov (.c (.bool false)))⟩])
  (.seq (.seq (.region [⟨some 3, none, .r (.mov (.c (.int .i64 0)))⟩])
  (.block 0
  (l_ref36_Pages_0)))
  (.seq (.region [⟨some 2, none, .r (.mov (.c (.bool true)))⟩])
  (.ret))),
  [.t 2]⟩
/-- image.announced -/
def m_image_announced : MFun := ⟨.seq (.region [⟨some 1, none, .r (.box (.t 0))⟩, ⟨some 2, none, .r (.mov (.c (.bool false)))⟩])
  (.seq (.region [⟨some 3, none, .r (.faddr 0 (.t 1))⟩, ⟨some 4, none, .r (.load 1 false (.t 3))⟩, ⟨some 5, none, .r (.bin .geq (.t 4) (.c (.int .i64 1)))⟩, ⟨some 6, none, .r (.mov (.t 5))⟩, ⟨some 7, (some (6, true)), .r (.faddr 0 (.t 1))⟩, ⟨some 8, (some (6, true)), .r (.load 1 false (.t 7))⟩, ⟨some 9, (some (6, true)), .r (.bin .leq (.t 8) (.c (.int .i64 1000000000)))⟩, ⟨some 10, none, .r (.pick (.t 6) (.t 9) (.c (.bool false)))⟩, ⟨some 11, none, .r (.mov (.t 10))⟩, ⟨some 12, (some (11, true)), .r (.faddr 1 (.t 1))⟩, ⟨some 13, (some (11, true)), .r (.load 1 false (.t 12))⟩, ⟨some 14, (some (11, true)), .call .ro (.c (.fn n_image_sized [] [])) [.t 13]⟩, ⟨some 15, none, .r (.pick (.t 11) (.t 14) (.c (.bool false)))⟩, ⟨some 16, none, .r (.mov (.t 15))⟩, ⟨some 17, (some (16, true)), .r (.faddr 3 (.t 1))⟩, ⟨some 18, (some (16, true)), .r (.load 1 false (.t 17))⟩, ⟨some 19, (some (16, true)), .r (.bin .geq (.t 18) (.c (.int .i64 0)))⟩, ⟨some 20, none, .r (.pick (.t 16) (.t 19) (.c (.bool false)))⟩, ⟨some 21, none, .r (.mov (.t 20))⟩, ⟨some 22, (some (21, true)), .r (.faddr 3 (.t 1))⟩, ⟨some 23, (some (21, true)), .r (.load 1 false (.t 22))⟩, ⟨some 24, (some (21, true)), .r (.bin .leq (.t 23) (.c (.int .i64 1000000000)))⟩, ⟨some 25, none, .r (.pick (.t 21) (.t 24) (.c (.bool false)))⟩, ⟨some 2, none, .r (.mov (.t 25))⟩])
  (.ret)),
  [.t 2]⟩
/-- tree.Root -/
def a_tree_Root_0 : MCode := .region [⟨some 5, none, .r (.mov (.t 11))⟩]
def y_tree_Root_0 : MCode := .block 1
  (.region [⟨some 12, none, .r (.mov (.t 5))⟩, ⟨some 13, none, .r (.iaddr 1 (.t 12) (.c (.int .i64 0)))⟩, ⟨some 14, none, .r (.load 1 false (.t 13))⟩, ⟨none, none, .w (.store 1 (.t 4) (.t 14))⟩])
def g_tree_Root_0 : MCode := .range (.t 10) [11] a_tree_Root_0 y_tree_Root_0
def m_tree_Root : MFun := ⟨.seq (.region [⟨some 2, none, .r (.mov (.c (.int .u64 0)))⟩, ⟨some 3, none, .r (.mov (.c (.int .i64 0)))⟩])
  (.seq (.seq (.region [⟨some 6, none, .r (.mov (.t 0))⟩, ⟨some 7, none, .call .ro (.c (.fn n_tree_arePages [] [])) [.t 6]⟩, ⟨some 8, none, .r (.not (.t 7))⟩])
  (.cond (.t 8) (.seq (.region [⟨some 2, none, .r (.mov (.c (.int .u64 0)))⟩, ⟨some 3, none, .r (.mov (.c (.int .i64 1)))⟩])
    (.ret))
  (.skip)))
  (.seq (.region [⟨some 4, none, .r (.alloc [.int .u64 0])⟩])
  (.seq (.seq (.region [⟨some 9, none, .r (.mov (.t 0))⟩, ⟨some 10, none, .call .rw (.c (.fn n_tree_levels [] [])) [.t 9]⟩])
  (.block 0
  (.trim [2, 3, 4, 10] g_tree_Root_0)))
  (.seq (.region [⟨some 15, none, .r (.load 1 false (.t 4))⟩, ⟨some 2, none, .r (.mov (.t 15))⟩, ⟨some 3, none, .r (.mov (.c (.int .i64 0)))⟩])
  (.ret))))),
  [.t 2, .t 3]⟩
/-- slotmeshref36.Notice -/
def m_ref36_Notice : MFun := ⟨.seq (.region [⟨some 1, none, .r (.box (.t 0))⟩, ⟨some 2, none, .r (.mov (.c (.bool false)))⟩])
  (.seq (.region [⟨some 3, none, .r (.faddr 0 (.t 1))⟩, ⟨some 4, none, .r (.load 1 false (.t 3))⟩, ⟨some 5, none, .r (.bin .geq (.t 4) (.c (.int .i64 1)))⟩, ⟨some 6, none, .r (.mov (.t 5))⟩, ⟨some 7, (some (6, true)), .r (.faddr 0 (.t 1))⟩, ⟨some 8, (some (6, true)), .r (.load 1 false (.t 7))⟩, ⟨some 9, (some (6, true)), .r (.bin .leq (.t 8) (.c (.int .i64 1000000000)))⟩, ⟨some 10, none, .r (.pick (.t 6) (.t 9) (.c (.bool false)))⟩, ⟨some 11, none, .r (.mov (.t 10))⟩, ⟨some 12, (some (11, true)), .r (.faddr 1 (.t 1))⟩, ⟨some 13, (some (11, true)), .r (.load 1 false (.t 12))⟩, ⟨some 14, (some (11, true)), .call .ro (.c (.fn n_ref36_Size [] [])) [.t 13]⟩, ⟨some 15, none, .r (.pick (.t 11) (.t 14) (.c (.bool false)))⟩, ⟨some 16, none, .r (.mov (.t 15))⟩, ⟨some 17, (some (16, true)), .r (.faddr 3 (.t 1))⟩, ⟨some 18, (some (16, true)), .r (.load 1 false (.t 17))⟩, ⟨some 19, (some (16, true)), .r (.bin .geq (.t 18) (.c (.int .i64 0)))⟩, ⟨some 20, none, .r (.pick (.t 16) (.t 19) (.c (.bool false)))⟩, ⟨some 21, none, .r (.mov (.t 20))⟩, ⟨some 22, (some (21, true)), .r (.faddr 3 (.t 1))⟩, ⟨some 23, (some (21, true)), .r (.load 1 false (.t 22))⟩, ⟨some 24, (some (21, true)), .r (.bin .leq (.t 23) (.c (.int .i64 1000000000)))⟩, ⟨some 25, none, .r (.pick (.t 21) (.t 24) (.c (.bool false)))⟩, ⟨some 2, none, .r (.mov (.t 25))⟩])
  (.ret)),
  [.t 2]⟩
/-- slotmeshref35.Root -/
def b_ref35_Root_0 : MCode := .seq (.seq (.region [⟨some 10, none, .r (.mov (.t 4))⟩, ⟨some 11, none, .r (.len (.t 10))⟩, ⟨some 12, none, .r (.bin .gtr (.t 11) (.c (.int .i64 1)))⟩])
  (.cond (.t 12) (.skip)
  (.trim [4] (.exit 0))))
  (.block 1
  (.region [⟨some 13, none, .r (.mov (.t 4))⟩, ⟨some 14, none, .call .ro (.c (.fn n_ref35_Next [] [])) [.t 13]⟩, ⟨some 4, none, .r (.mov (.t 14))⟩]))
def l_ref35_Root_0 : MCode := .loop (.trim [4] b_ref35_Root_0)
def m_ref35_Root : MFun := ⟨.seq (.region [⟨some 2, none, .r (.mov (.c (.int .u64 0)))⟩, ⟨some 3, none, .r (.mov (.c (.int .i64 0)))⟩])
  (.seq (.seq (.region [⟨some 5, none, .r (.mov (.t 0))⟩, ⟨some 6, none, .call .ro (.c (.fn n_ref35_Pages [] [])) [.t 5]⟩, ⟨some 7, none, .r (.not (.t 6))⟩])
  (.cond (.t 7) (.seq (.region [⟨some 2, none, .r (.mov (.c (.int .u64 0)))⟩, ⟨some 3, none, .r (.mov (.c (.int .i64 1)))⟩])
    (.ret))
  (.skip)))
  (.seq (.region [⟨some 8, none, .r (.mov (.t 0))⟩, ⟨some 9, none, .call .ro (.c (.fn n_ref35_leaves [] [])) [.t 8]⟩, ⟨some 4, none, .r (.mov (.t 9))⟩])
  (.seq (.block 0
  (l_ref35_Root_0))
  (.seq (.region [⟨some 15, none, .r (.mov (.t 4))⟩, ⟨some 16, none, .r (.iaddr 1 (.t 15) (.c (.int .i64 0)))⟩, ⟨some 17, none, .r (.load 1 false (.t 16))⟩, ⟨some 2, none, .r (.mov (.t 17))⟩, ⟨some 3, none, .r (.mov (.c (.int .i64 0)))⟩])
  (.ret))))),
  [.t 2, .t 3]⟩
/-- (image.load).sound -/
def b_image_load_sound_0 : MCode := .seq (.region [⟨some 45, none, .r (.bin .lss (.t 44) (.t 43))⟩])
  (.seq (.cond (.t 45) (.skip)
  (.trim [] (.exit 0)))
  (.seq (.block 1
  (.seq (.region [⟨some 46, none, .r (.mov (.t 44))⟩, ⟨some 47, none, .r (.iaddr 1 (.t 42) (.t 44))⟩, ⟨some 48, none, .r (.load 1 false (.t 47))⟩, ⟨some 3, none, .r (.mov (.t 46))⟩, ⟨some 4, none, .r (.mov (.t 48))⟩])
    (.seq (.draw [(0, 5), (0, 8)] [⟨some 49, none, .r (.load 13 true (.t 1))⟩, ⟨some 50, none, .r (.mov (.t 3))⟩, ⟨some 51, none, .r (.mov (.t 4))⟩, ⟨some 52, none, .r (.faddr 0 (.t 1))⟩, ⟨some 53, none, .r (.faddr 5 (.t 52))⟩, ⟨some 54, none, .r (.load 1 false (.t 53))⟩, ⟨some 55, none, .r (.mov (.t 3))⟩, ⟨some 56, none, .r (.iaddr 1 (.t 54) (.t 55))⟩, ⟨some 57, none, .r (.load 1 false (.t 56))⟩, ⟨some 58, none, .call .ro (.c (.fn n_image_load_proved [] [])) [.t 49, .t 50, .t 51, .t 57]⟩, ⟨some 59, none, .r (.not (.t 58))⟩])
    (.cond (.t 59) (.seq (.region [⟨some 2, none, .r (.mov (.c (.bool false)))⟩])
      (.ret))
    (.skip)))))
  (.region [⟨some 60, none, .r (.bin .add (.t 44) (.c (.int .i64 1)))⟩, ⟨some 44, none, .r (.mov (.t 60))⟩])))
def l_image_load_sound_0 : MCode := .loop (.trim [1, 42, 43, 44] b_image_load_sound_0)
def m_image_load_sound : MFun := ⟨.seq (.region [⟨some 1, none, .r (.box (.t 0))⟩, ⟨some 2, none, .r (.mov (.c (.bool false)))⟩])
  (.seq (.seq (.draw [(8, 13), (8, 14), (20, 24)] [⟨some 5, none, .r (.faddr 0 (.t 1))⟩, ⟨some 6, none, .r (.faddr 0 (.t 5))⟩, ⟨some 7, none, .r (.load 4 true (.t 6))⟩, ⟨some 8, none, .call .ro (.c (.fn n_image_announced [] [])) [.t 7]⟩, ⟨some 9, none, .r (.not (.t 8))⟩, ⟨some 10, none, .r (.mov (.t 9))⟩, ⟨some 11, (some (10, false)), .r (.faddr 0 (.t 1))⟩, ⟨some 12, (some (10, false)), .r (.faddr 4 (.t 11))⟩, ⟨some 13, (some (10, false)), .r (.load 1 false (.t 12))⟩, ⟨some 14, (some (10, false)), .r (.len (.t 13))⟩, ⟨some 15, (some (10, false)), .r (.faddr 0 (.t 1))⟩, ⟨some 16, (some (10, false)), .r (.faddr 0 (.t 15))⟩, ⟨some 17, (some (10, false)), .r (.faddr 1 (.t 16))⟩, ⟨some 18, (some (10, false)), .r (.load 1 false (.t 17))⟩, ⟨some 19, (some (10, false)), .call .ro (.c (.fn n_image_count [] [])) [.t 18]⟩, ⟨some 20, (some (10, false)), .r (.bin .gtr (.t 14) (.t 19))⟩, ⟨some 21, none, .r (.pick (.t 10) (.c (.bool true)) (.t 20))⟩, ⟨some 22, none, .r (.mov (.t 21))⟩, ⟨some 23, (some (22, false)), .r (.faddr 0 (.t 1))⟩, ⟨some 24, (some (22, false)), .r (.faddr 5 (.t 23))⟩, ⟨some 25, (some (22, false)), .r (.load 1 false (.t 24))⟩, ⟨some 26, (some (22, false)), .r (.len (.t 25))⟩, ⟨some 27, (some (22, false)), .r (.faddr 0 (.t 1))⟩, ⟨some 28, (some (22, false)), .r (.faddr 4 (.t 27))⟩, ⟨some 29, (some (22, false)), .r (.load 1 false (.t 28))⟩, ⟨some 30, (some (22, false)), .r (.len (.t 29))⟩, ⟨some 31, (some (22, false)), .r (.bin .neq (.t 26) (.t 30))⟩, ⟨some 32, none, .r (.pick (.t 22) (.c (.bool true)) (.t 31))⟩, ⟨some 33, none, .r (.mov (.t 32))⟩, ⟨some 34, (some (33, false)), .r (.faddr 0 (.t 1))⟩, ⟨some 35, (some (33, false)), .r (.faddr 4 (.t 34))⟩, ⟨some 36, (some (33, false)), .r (.load 1 false (.t 35))⟩, ⟨some 37, (some (33, false)), .call .ro (.c (.fn n_image_paged [] [])) [.t 36]⟩, ⟨some 38, (some (33, false)), .r (.not (.t 37))⟩, ⟨some 39, none, .r (.pick (.t 33) (.c (.bool true)) (.t 38))⟩])
  (.cond (.t 39) (.seq (.region [⟨some 2, none, .r (.mov (.c (.bool false)))⟩])
    (.ret))
  (.skip)))
  (.seq (.seq (.region [⟨some 40, none, .r (.faddr 0 (.t 1))⟩, ⟨some 41, none, .r (.faddr 4 (.t 40))⟩, ⟨some 42, none, .r (.load 1 false (.t 41))⟩, ⟨some 43, none, .r (.len (.t 42))⟩, ⟨some 44, none, .r (.mov (.c (.int .i64 0)))⟩])
  (.block 0
  (l_image_load_sound_0)))
  (.seq (.region [⟨some 2, none, .r (.mov (.c (.bool true)))⟩])
  (.ret)))),
  [.t 2]⟩
/-- (image.load).proved -/
def m_image_load_proved : MFun := ⟨.seq (.region [⟨some 4, none, .r (.box (.t 0))⟩, ⟨some 8, none, .r (.mov (.c (.bool false)))⟩])
  (.seq (.draw [(3, 7), (3, 8)] [⟨some 9, none, .r (.faddr 0 (.t 4))⟩, ⟨some 10, none, .r (.faddr 0 (.t 9))⟩, ⟨some 11, none, .r (.faddr 2 (.t 10))⟩, ⟨some 12, none, .r (.load 1 false (.t 11))⟩, ⟨some 13, none, .r (.faddr 0 (.t 4))⟩, ⟨some 14, none, .r (.faddr 0 (.t 13))⟩, ⟨some 15, none, .r (.faddr 1 (.t 14))⟩, ⟨some 16, none, .r (.load 1 false (.t 15))⟩, ⟨some 17, none, .call .ro (.c (.fn n_image_count [] [])) [.t 16]⟩, ⟨some 18, none, .r (.mov (.t 1))⟩, ⟨some 19, none, .r (.mov (.t 2))⟩, ⟨some 20, none, .r (.mov (.t 3))⟩, ⟨some 21, none, .call .ro (.c (.fn n_tree_Check [] [])) [.t 12, .t 17, .t 18, .t 19, .t 20]⟩, ⟨some 8, none, .r (.mov (.t 21))⟩])
  (.ret)),
  [.t 8]⟩
/-- slices.Clone[[][]byte,[]byte] -/
def m_slices_Clone_ssbyte_sbyte : MFun := ⟨.seq (.region [⟨some 2, none, .r (.mov (.c (.tree [] true true)))⟩])
  (.seq (.seq (.region [⟨some 3, none, .r (.mov (.t 0))⟩, ⟨some 4, none, .r (.eqn false (.t 3) (.c (.tree [] true true)))⟩])
  (.cond (.t 4) (.seq (.region [⟨some 2, none, .r (.mov (.c (.tree [] true true)))⟩])
    (.ret))
  (.skip)))
  (.seq (.region [⟨some 5, none, .w (.bslice 1 [])⟩, ⟨some 6, none, .r (.mov (.t 0))⟩, ⟨some 7, none, .w (.append 1 (.t 5) (.t 6))⟩, ⟨some 2, none, .r (.mov (.t 7))⟩])
  (.ret))),
  [.t 2]⟩
/-- bytes.Clone -/
def m_bytes_Clone : MFun := ⟨.seq (.region [⟨some 2, none, .r (.mov (.c (.tree [] true true)))⟩])
  (.seq (.seq (.region [⟨some 3, none, .r (.mov (.t 0))⟩, ⟨some 4, none, .r (.eqn false (.t 3) (.c (.tree [] true true)))⟩])
  (.cond (.t 4) (.seq (.region [⟨some 2, none, .r (.mov (.c (.tree [] true true)))⟩])
    (.ret))
  (.skip)))
  (.seq (.region [⟨some 5, none, .r (.bslice 1 [])⟩, ⟨some 6, none, .r (.mov (.t 0))⟩, ⟨some 7, none, .w (.append 1 (.t 5) (.t 6))⟩, ⟨some 2, none, .r (.mov (.t 7))⟩])
  (.ret))),
  [.t 2]⟩
/-- slices.Clone[[][]uint64,[]uint64] -/
def m_slices_Clone_ssuint64_suint64 : MFun := ⟨.seq (.region [⟨some 2, none, .r (.mov (.c (.tree [] true true)))⟩])
  (.seq (.seq (.region [⟨some 3, none, .r (.mov (.t 0))⟩, ⟨some 4, none, .r (.eqn false (.t 3) (.c (.tree [] true true)))⟩])
  (.cond (.t 4) (.seq (.region [⟨some 2, none, .r (.mov (.c (.tree [] true true)))⟩])
    (.ret))
  (.skip)))
  (.seq (.region [⟨some 5, none, .w (.bslice 1 [])⟩, ⟨some 6, none, .r (.mov (.t 0))⟩, ⟨some 7, none, .w (.append 1 (.t 5) (.t 6))⟩, ⟨some 2, none, .r (.mov (.t 7))⟩])
  (.ret))),
  [.t 2]⟩
/-- slices.Clone[[]uint64,uint64] -/
def m_slices_Clone_suint64_uint64 : MFun := ⟨.seq (.region [⟨some 2, none, .r (.mov (.c (.tree [] true true)))⟩])
  (.seq (.seq (.region [⟨some 3, none, .r (.mov (.t 0))⟩, ⟨some 4, none, .r (.eqn false (.t 3) (.c (.tree [] true true)))⟩])
  (.cond (.t 4) (.seq (.region [⟨some 2, none, .r (.mov (.c (.tree [] true true)))⟩])
    (.ret))
  (.skip)))
  (.seq (.region [⟨some 5, none, .r (.bslice 1 [])⟩, ⟨some 6, none, .r (.mov (.t 0))⟩, ⟨some 7, none, .w (.append 1 (.t 5) (.t 6))⟩, ⟨some 2, none, .r (.mov (.t 7))⟩])
  (.ret))),
  [.t 2]⟩
/-- slotmeshref35.Check -/
def b_ref35_Check_0 : MCode := .seq (.seq (.region [⟨some 44, none, .r (.mov (.t 1))⟩, ⟨some 45, none, .r (.bin .gtr (.t 44) (.c (.int .i64 1)))⟩])
  (.cond (.t 45) (.skip)
  (.trim [0, 11] (.exit 0))))
  (.block 1
  (.seq (.region [⟨some 46, none, .r (.mov (.t 2))⟩, ⟨some 47, none, .r (.mov (.t 1))⟩, ⟨some 48, none, .call .ro (.c (.fn n_ref35_other [] [])) [.t 46, .t 47]⟩, ⟨some 13, none, .r (.mov (.t 48))⟩])
    (.seq (.seq (.region [⟨some 49, none, .r (.mov (.t 13))⟩, ⟨some 50, none, .r (.mov (.t 2))⟩, ⟨some 51, none, .r (.bin .gtr (.t 49) (.t 50))⟩])
    (.cond (.t 51) (.region [⟨some 52, none, .r (.mov (.t 11))⟩, ⟨some 53, none, .r (.mov (.t 4))⟩, ⟨some 54, none, .r (.mov (.t 12))⟩, ⟨some 55, none, .r (.iaddr 1 (.t 53) (.t 54))⟩, ⟨some 56, none, .r (.load 1 false (.t 55))⟩, ⟨some 57, none, .call .ro (.c (.fn n_ref05_Pair [] [])) [.t 52, .t 56]⟩, ⟨some 11, none, .r (.mov (.t 57))⟩])
    (.skip)))
    (.seq (.seq (.region [⟨some 58, none, .r (.mov (.t 13))⟩, ⟨some 59, none, .r (.bin .geq (.t 58) (.c (.int .i64 0)))⟩, ⟨some 60, none, .r (.mov (.t 59))⟩, ⟨some 61, (some (60, true)), .r (.mov (.t 13))⟩, ⟨some 62, (some (60, true)), .r (.mov (.t 2))⟩, ⟨some 63, (some (60, true)), .r (.bin .lss (.t 61) (.t 62))⟩, ⟨some 64, none, .r (.pick (.t 60) (.t 63) (.c (.bool false)))⟩])
    (.cond (.t 64) (.region [⟨some 65, none, .r (.mov (.t 4))⟩, ⟨some 66, none, .r (.mov (.t 12))⟩, ⟨some 67, none, .r (.iaddr 1 (.t 65) (.t 66))⟩, ⟨some 68, none, .r (.load 1 false (.t 67))⟩, ⟨some 69, none, .r (.mov (.t 11))⟩, ⟨some 70, none, .call .ro (.c (.fn n_ref05_Pair [] [])) [.t 68, .t 69]⟩, ⟨some 11, none, .r (.mov (.t 70))⟩])
    (.skip)))
    (.seq (.seq (.region [⟨some 71, none, .r (.mov (.t 13))⟩, ⟨some 72, none, .r (.bin .geq (.t 71) (.c (.int .i64 0)))⟩])
    (.cond (.t 72) (.region [⟨some 73, none, .r (.mov (.t 12))⟩, ⟨some 74, none, .r (.bin .add (.t 73) (.c (.int .i64 1)))⟩, ⟨some 12, none, .r (.mov (.t 74))⟩])
    (.skip)))
    (.seq (.region [⟨some 75, none, .r (.mov (.t 1))⟩, ⟨some 76, none, .r (.bin .add (.t 75) (.c (.int .i64 1)))⟩, ⟨some 77, none, .r (.bin .quo (.t 76) (.c (.int .i64 2)))⟩, ⟨some 1, none, .r (.mov (.t 77))⟩])
    (.region [⟨some 78, none, .r (.mov (.t 2))⟩, ⟨some 79, none, .r (.bin .quo (.t 78) (.c (.int .i64 2)))⟩, ⟨some 2, none, .r (.mov (.t 79))⟩])))))))
def l_ref35_Check_0 : MCode := .loop (.trim [0, 1, 2, 4, 11, 12] b_ref35_Check_0)
def m_ref35_Check : MFun := ⟨.seq (.region [⟨some 10, none, .r (.mov (.c (.bool false)))⟩])
  (.seq (.seq (.region [⟨some 14, none, .r (.mov (.t 1))⟩, ⟨some 15, none, .r (.bin .lss (.t 14) (.c (.int .i64 1)))⟩, ⟨some 16, none, .r (.mov (.t 15))⟩, ⟨some 17, (some (16, false)), .r (.mov (.t 1))⟩, ⟨some 18, (some (16, false)), .r (.bin .gtr (.t 17) (.c (.int .i64 16)))⟩, ⟨some 19, none, .r (.pick (.t 16) (.c (.bool true)) (.t 18))⟩, ⟨some 20, none, .r (.mov (.t 19))⟩, ⟨some 21, (some (20, false)), .r (.mov (.t 2))⟩, ⟨some 22, (some (20, false)), .r (.bin .lss (.t 21) (.c (.int .i64 0)))⟩, ⟨some 23, none, .r (.pick (.t 20) (.c (.bool true)) (.t 22))⟩, ⟨some 24, none, .r (.mov (.t 23))⟩, ⟨some 25, (some (24, false)), .r (.mov (.t 2))⟩, ⟨some 26, (some (24, false)), .r (.mov (.t 1))⟩, ⟨some 27, (some (24, false)), .r (.bin .geq (.t 25) (.t 26))⟩, ⟨some 28, none, .r (.pick (.t 24) (.c (.bool true)) (.t 27))⟩, ⟨some 29, none, .r (.mov (.t 28))⟩, ⟨some 30, (some (29, false)), .r (.mov (.t 3))⟩, ⟨some 31, (some (29, false)), .r (.len (.t 30))⟩, ⟨some 32, (some (29, false)), .r (.bin .gtr (.t 31) (.c (.int .i64 256)))⟩, ⟨some 33, none, .r (.pick (.t 29) (.c (.bool true)) (.t 32))⟩, ⟨some 34, none, .r (.mov (.t 33))⟩, ⟨some 35, (some (34, false)), .r (.mov (.t 4))⟩, ⟨some 36, (some (34, false)), .r (.len (.t 35))⟩, ⟨some 37, (some (34, false)), .r (.mov (.t 1))⟩, ⟨some 38, (some (34, false)), .r (.mov (.t 2))⟩, ⟨some 39, (some (34, false)), .call .ro (.c (.fn n_ref35_Length [] [])) [.t 37, .t 38]⟩, ⟨some 40, (some (34, false)), .r (.bin .neq (.t 36) (.t 39))⟩, ⟨some 41, none, .r (.pick (.t 34) (.c (.bool true)) (.t 40))⟩])
  (.cond (.t 41) (.seq (.region [⟨some 10, none, .r (.mov (.c (.bool false)))⟩])
    (.ret))
  (.skip)))
  (.seq (.region [⟨some 42, none, .r (.mov (.t 3))⟩, ⟨some 43, none, .call .ro (.c (.fn n_ref35_Leaf [] [])) [.t 42]⟩, ⟨some 11, none, .r (.mov (.t 43))⟩])
  (.seq (.region [⟨some 12, none, .r (.mov (.c (.int .i64 0)))⟩])
  (.seq (.block 0
  (l_ref35_Check_0))
  (.seq (.region [⟨some 80, none, .r (.mov (.t 11))⟩, ⟨some 81, none, .r (.mov (.t 0))⟩, ⟨some 82, none, .r (.bin .eql (.t 80) (.t 81))⟩, ⟨some 10, none, .r (.mov (.t 82))⟩])
  (.ret)))))),
  [.t 10]⟩
/-- slotmeshref36.proofs -/
def b_ref36_proofs_0 : MCode := .seq (.seq (.region [⟨some 11, none, .r (.mov (.t 5))⟩, ⟨some 12, none, .r (.mov (.t 0))⟩, ⟨some 13, none, .r (.len (.t 12))⟩, ⟨some 14, none, .r (.bin .lss (.t 11) (.t 13))⟩])
  (.cond (.t 14) (.skip)
  (.trim [] (.exit 0))))
  (.seq (.block 1
  (.seq (.draw [(3, 7)] [⟨some 17, none, .r (.mov (.t 0))⟩, ⟨some 18, none, .r (.mov (.t 5))⟩, ⟨some 19, none, .r (.iaddr 1 (.t 17) (.t 18))⟩, ⟨some 20, none, .r (.load 1 false (.t 19))⟩, ⟨some 21, none, .r (.mov (.t 1))⟩, ⟨some 22, none, .r (.mov (.t 5))⟩, ⟨some 23, none, .r (.iaddr 1 (.t 21) (.t 22))⟩, ⟨some 24, none, .r (.load 1 false (.t 23))⟩, ⟨some 25, none, .call .ro (.c (.fn n_ref35_Same [] [])) [.t 20, .t 24]⟩, ⟨some 26, none, .r (.not (.t 25))⟩])
    (.cond (.t 26) (.seq (.region [⟨some 4, none, .r (.mov (.c (.bool false)))⟩])
      (.ret))
    (.skip))))
  (.region [⟨some 15, none, .r (.mov (.t 5))⟩, ⟨some 16, none, .r (.bin .add (.t 15) (.c (.int .i64 1)))⟩, ⟨some 5, none, .r (.mov (.t 16))⟩]))
def l_ref36_proofs_0 : MCode := .loop (.trim [0, 1, 5] b_ref36_proofs_0)
def m_ref36_proofs : MFun := ⟨.seq (.region [⟨some 4, none, .r (.mov (.c (.bool false)))⟩])
  (.seq (.seq (.region [⟨some 6, none, .r (.mov (.t 0))⟩, ⟨some 7, none, .r (.len (.t 6))⟩, ⟨some 8, none, .r (.mov (.t 1))⟩, ⟨some 9, none, .r (.len (.t 8))⟩, ⟨some 10, none, .r (.bin .neq (.t 7) (.t 9))⟩])
  (.cond (.t 10) (.seq (.region [⟨some 4, none, .r (.mov (.c (.bool false)))⟩])
    (.ret))
  (.skip)))
  (.seq (.seq (.region [⟨some 5, none, .r (.mov (.c (.int .i64 0)))⟩])
  (.block 0
  (l_ref36_proofs_0)))
  (.seq (.region [⟨some 4, none, .r (.mov (.c (.bool true)))⟩])
  (.ret)))),
  [.t 4]⟩
/-- tree.arePages -/
def m_tree_arePages : MFun := ⟨.seq (.region [⟨some 2, none, .r (.mov (.c (.bool false)))⟩])
  (.seq (.region [⟨some 3, none, .r (.mov (.t 0))⟩, ⟨some 4, none, .r (.len (.t 3))⟩, ⟨some 5, none, .r (.bin .gtr (.t 4) (.c (.int .i64 0)))⟩, ⟨some 6, none, .r (.mov (.t 5))⟩, ⟨some 7, (some (6, true)), .r (.mov (.t 0))⟩, ⟨some 8, (some (6, true)), .r (.len (.t 7))⟩, ⟨some 9, (some (6, true)), .r (.bin .leq (.t 8) (.c (.int .i64 16)))⟩, ⟨some 10, none, .r (.pick (.t 6) (.t 9) (.c (.bool false)))⟩, ⟨some 11, none, .r (.mov (.t 10))⟩, ⟨some 12, (some (11, true)), .r (.mov (.t 0))⟩, ⟨some 13, (some (11, true)), .call .ro (.c (.fn n_slices_ContainsFunc_ssbyte_sbyte [] [])) [.t 12, .c (.fn n_tree_arePages_1 [] [])]⟩, ⟨some 14, (some (11, true)), .r (.not (.t 13))⟩, ⟨some 15, none, .r (.pick (.t 11) (.t 14) (.c (.bool false)))⟩, ⟨some 2, none, .r (.mov (.t 15))⟩])
  (.ret)),
  [.t 2]⟩
/-- tree.levels -/
def m_tree_levels : MFun := ⟨.seq (.region [⟨some 1, none, .r (.box (.t 0))⟩, ⟨some 2, none, .r (.mov (.c (.undef)))⟩])
  (.seq (.region [⟨some 3, none, .r (.mkfn n_tree_levels_1 [] [.t 1])⟩, ⟨some 2, none, .r (.mov (.t 3))⟩])
  (.ret)),
  [.t 2]⟩
/-- slotmeshref05.Add -/
def b_ref05_Add_0 : MCode := .seq (.seq (.region [⟨some 6, none, .r (.mov (.t 5))⟩, ⟨some 7, none, .r (.mov (.t 1))⟩, ⟨some 8, none, .r (.len (.t 7))⟩, ⟨some 9, none, .r (.bin .lss (.t 6) (.t 8))⟩])
  (.cond (.t 9) (.skip)
  (.trim [0] (.exit 0))))
  (.seq (.block 1
  (.region [⟨some 12, none, .r (.mov (.t 0))⟩, ⟨some 13, none, .r (.mov (.t 1))⟩, ⟨some 14, none, .r (.mov (.t 5))⟩, ⟨some 15, none, .r (.iaddr 1 (.t 13) (.t 14))⟩, ⟨some 16, none, .r (.load 1 false (.t 15))⟩, ⟨some 17, none, .r (.conv .u64 (.t 16))⟩, ⟨some 18, none, .r (.bin .xor (.t 12) (.t 17))⟩, ⟨some 19, none, .r (.bin .mul (.t 18) (.c (.int .u64 1099511628211)))⟩, ⟨some 0, none, .r (.mov (.t 19))⟩]))
  (.region [⟨some 10, none, .r (.mov (.t 5))⟩, ⟨some 11, none, .r (.bin .add (.t 10) (.c (.int .i64 1)))⟩, ⟨some 5, none, .r (.mov (.t 11))⟩]))
def l_ref05_Add_0 : MCode := .loop (.trim [0, 1, 5] b_ref05_Add_0)
def m_ref05_Add : MFun := ⟨.seq (.region [⟨some 4, none, .r (.mov (.c (.int .u64 0)))⟩])
  (.seq (.seq (.region [⟨some 5, none, .r (.mov (.c (.int .i64 0)))⟩])
  (.block 0
  (l_ref05_Add_0)))
  (.seq (.region [⟨some 20, none, .r (.mov (.t 0))⟩, ⟨some 4, none, .r (.mov (.t 20))⟩])
  (.ret))),
  [.t 4]⟩
/-- slotmeshref05.Sum -/
def m_ref05_Sum : MFun := ⟨.seq (.region [⟨some 2, none, .r (.mov (.c (.int .u64 0)))⟩])
  (.seq (.region [⟨some 3, none, .r (.mov (.t 0))⟩, ⟨some 4, none, .call .ro (.c (.fn n_ref05_Add [] [])) [.c (.int .u64 14695981039346656037), .t 3]⟩, ⟨some 2, none, .r (.mov (.t 4))⟩])
  (.ret)),
  [.t 2]⟩
/-- slices.Chunk[[]byte,byte]$1 -/
def b_slices_Chunk_sbyte_byte_1_0 : MCode := .seq (.seq (.region [⟨some 6, none, .r (.mov (.t 4))⟩, ⟨some 7, none, .r (.load 1 false (.t 1))⟩, ⟨some 8, none, .r (.len (.t 7))⟩, ⟨some 9, none, .r (.bin .lss (.t 6) (.t 8))⟩])
  (.cond (.t 9) (.skip)
  (.trim [] (.exit 0))))
  (.seq (.block 1
  (.seq (.draw [(0, 1)] [⟨some 13, none, .r (.load 1 false (.t 2))⟩, ⟨some 14, none, .r (.load 1 false (.t 1))⟩, ⟨some 15, none, .r (.mov (.t 4))⟩, ⟨some 16, none, .r (.slice 1 (.t 14) (some (.t 15)) none none)⟩, ⟨some 17, none, .r (.len (.t 16))⟩, ⟨some 18, none, .r (.mn (.t 13) (.t 17))⟩, ⟨some 5, none, .r (.mov (.t 18))⟩])
    (.seq (.region [⟨some 19, none, .r (.mov (.t 0))⟩, ⟨some 20, none, .r (.load 1 false (.t 1))⟩, ⟨some 21, none, .r (.mov (.t 4))⟩, ⟨some 22, none, .r (.mov (.t 4))⟩, ⟨some 23, none, .r (.mov (.t 5))⟩, ⟨some 24, none, .r (.bin .add (.t 22) (.t 23))⟩, ⟨some 25, none, .r (.mov (.t 4))⟩, ⟨some 26, none, .r (.mov (.t 5))⟩, ⟨some 27, none, .r (.bin .add (.t 25) (.t 26))⟩, ⟨some 28, none, .r (.slice 1 (.t 20) (some (.t 21)) (some (.t 24)) (some (.t 27)))⟩, ⟨some 29, none, .call .rw (.t 19) [.t 28]⟩, ⟨some 30, none, .r (.not (.t 29))⟩])
    (.cond (.t 30) (.ret)
    (.skip)))))
  (.region [⟨some 10, none, .r (.mov (.t 4))⟩, ⟨some 11, none, .r (.load 1 false (.t 2))⟩, ⟨some 12, none, .r (.bin .add (.t 10) (.t 11))⟩, ⟨some 4, none, .r (.mov (.t 12))⟩]))
def l_slices_Chunk_sbyte_byte_1_0 : MCode := .loop (.trim [0, 1, 2, 4] b_slices_Chunk_sbyte_byte_1_0)
def m_slices_Chunk_sbyte_byte_1 : MFun := ⟨.seq (.region [⟨some 4, none, .r (.mov (.c (.int .i64 0)))⟩])
  (.block 0
  (l_slices_Chunk_sbyte_byte_1_0)),
  []⟩
/-- slices.ContainsFunc[[][]byte,[]byte] -/
def m_slices_ContainsFunc_ssbyte_sbyte : MFun := ⟨.seq (.region [⟨some 4, none, .r (.mov (.c (.bool false)))⟩])
  (.seq (.region [⟨some 5, none, .r (.mov (.t 0))⟩, ⟨some 6, none, .r (.mov (.t 1))⟩, ⟨some 7, none, .call .ro (.c (.fn n_slices_IndexFunc_ssbyte_sbyte [] [])) [.t 5, .t 6]⟩, ⟨some 8, none, .r (.bin .geq (.t 7) (.c (.int .i64 0)))⟩, ⟨some 4, none, .r (.mov (.t 8))⟩])
  (.ret)),
  [.t 4]⟩
/-- image.paged$1 -/
def m_image_paged_1 : MFun := ⟨.seq (.region [⟨some 2, none, .r (.mov (.c (.bool false)))⟩])
  (.seq (.region [⟨some 3, none, .r (.mov (.t 0))⟩, ⟨some 4, none, .r (.len (.t 3))⟩, ⟨some 5, none, .r (.bin .neq (.t 4) (.c (.int .i64 256)))⟩, ⟨some 2, none, .r (.mov (.t 5))⟩])
  (.ret)),
  [.t 2]⟩
/-- slices.Grow[[]byte,byte] -/
def m_slices_Grow_sbyte_byte : MFun := ⟨.seq (.region [⟨some 4, none, .r (.mov (.c (.tree [] true true)))⟩])
  (.seq (.seq (.region [⟨some 5, none, .r (.mov (.t 1))⟩, ⟨some 6, none, .r (.bin .lss (.t 5) (.c (.int .i64 0)))⟩])
  (.cond (.t 6) (.trap)
  (.skip)))
  (.seq (.seq (.region [⟨some 8, none, .r (.mov (.t 1))⟩, ⟨some 9, none, .r (.mov (.t 0))⟩, ⟨some 10, none, .r (.cap (.t 9))⟩, ⟨some 11, none, .r (.mov (.t 0))⟩, ⟨some 12, none, .r (.len (.t 11))⟩, ⟨some 13, none, .r (.bin .sub (.t 10) (.t 12))⟩, ⟨some 14, none, .r (.bin .sub (.t 8) (.t 13))⟩, ⟨some 1, none, .r (.mov (.t 14))⟩])
  (.seq (.region [⟨some 15, none, .r (.mov (.t 1))⟩, ⟨some 16, none, .r (.bin .gtr (.t 15) (.c (.int .i64 0)))⟩])
  (.cond (.t 16) (.region [⟨some 17, none, .r (.mov (.t 0))⟩, ⟨some 18, none, .r (.mov (.t 0))⟩, ⟨some 19, none, .r (.cap (.t 18))⟩, ⟨some 20, none, .r (.slice 1 (.t 17) none (some (.t 19)) none)⟩, ⟨some 21, none, .r (.mov (.t 1))⟩, ⟨some 22, none, .w (.appendZ [.int .u8 0] (.t 20) (.t 21))⟩, ⟨some 23, none, .r (.mov (.t 0))⟩, ⟨some 24, none, .r (.len (.t 23))⟩, ⟨some 25, none, .r (.slice 1 (.t 22) none (some (.t 24)) none)⟩, ⟨some 0, none, .r (.mov (.t 25))⟩])
  (.skip))))
  (.seq (.region [⟨some 26, none, .r (.mov (.t 0))⟩, ⟨some 4, none, .r (.mov (.t 26))⟩])
  (.ret)))),
  [.t 4]⟩
/-- bytes.trimLeftByte -/
def b_bytes_trimLeftByte_0 : MCode := .seq (.seq (.region [⟨some 5, none, .r (.mov (.t 0))⟩, ⟨some 6, none, .r (.len (.t 5))⟩, ⟨some 7, none, .r (.bin .gtr (.t 6) (.c (.int .i64 0)))⟩, ⟨some 8, none, .r (.mov (.t 7))⟩, ⟨some 9, (some (8, true)), .r (.mov (.t 0))⟩, ⟨some 10, (some (8, true)), .r (.iaddr 1 (.t 9) (.c (.int .i64 0)))⟩, ⟨some 11, (some (8, true)), .r (.load 1 false (.t 10))⟩, ⟨some 12, (some (8, true)), .r (.mov (.t 1))⟩, ⟨some 13, (some (8, true)), .r (.bin .eql (.t 11) (.t 12))⟩, ⟨some 14, none, .r (.pick (.t 8) (.t 13) (.c (.bool false)))⟩])
  (.cond (.t 14) (.skip)
  (.trim [0] (.exit 0))))
  (.block 1
  (.region [⟨some 15, none, .r (.mov (.t 0))⟩, ⟨some 16, none, .r (.slice 1 (.t 15) (some (.c (.int .i64 1))) none none)⟩, ⟨some 0, none, .r (.mov (.t 16))⟩]))
def l_bytes_trimLeftByte_0 : MCode := .loop (.trim [0, 1] b_bytes_trimLeftByte_0)
def m_bytes_trimLeftByte : MFun := ⟨.seq (.region [⟨some 4, none, .r (.mov (.c (.tree [] true true)))⟩])
  (.seq (.block 0
  (l_bytes_trimLeftByte_0))
  (.seq (.seq (.region [⟨some 17, none, .r (.mov (.t 0))⟩, ⟨some 18, none, .r (.len (.t 17))⟩, ⟨some 19, none, .r (.bin .eql (.t 18) (.c (.int .i64 0)))⟩])
  (.cond (.t 19) (.seq (.region [⟨some 4, none, .r (.mov (.c (.tree [] true true)))⟩])
    (.ret))
  (.skip)))
  (.seq (.region [⟨some 20, none, .r (.mov (.t 0))⟩, ⟨some 4, none, .r (.mov (.t 20))⟩])
  (.ret)))),
  [.t 4]⟩
/-- bytes.trimRightByte -/
def b_bytes_trimRightByte_0 : MCode := .seq (.seq (.region [⟨some 5, none, .r (.mov (.t 0))⟩, ⟨some 6, none, .r (.len (.t 5))⟩, ⟨some 7, none, .r (.bin .gtr (.t 6) (.c (.int .i64 0)))⟩, ⟨some 8, none, .r (.mov (.t 7))⟩, ⟨some 9, (some (8, true)), .r (.mov (.t 0))⟩, ⟨some 10, (some (8, true)), .r (.mov (.t 0))⟩, ⟨some 11, (some (8, true)), .r (.len (.t 10))⟩, ⟨some 12, (some (8, true)), .r (.bin .sub (.t 11) (.c (.int .i64 1)))⟩, ⟨some 13, (some (8, true)), .r (.iaddr 1 (.t 9) (.t 12))⟩, ⟨some 14, (some (8, true)), .r (.load 1 false (.t 13))⟩, ⟨some 15, (some (8, true)), .r (.mov (.t 1))⟩, ⟨some 16, (some (8, true)), .r (.bin .eql (.t 14) (.t 15))⟩, ⟨some 17, none, .r (.pick (.t 8) (.t 16) (.c (.bool false)))⟩])
  (.cond (.t 17) (.skip)
  (.trim [0] (.exit 0))))
  (.block 1
  (.region [⟨some 18, none, .r (.mov (.t 0))⟩, ⟨some 19, none, .r (.mov (.t 0))⟩, ⟨some 20, none, .r (.len (.t 19))⟩, ⟨some 21, none, .r (.bin .sub (.t 20) (.c (.int .i64 1)))⟩, ⟨some 22, none, .r (.slice 1 (.t 18) none (some (.t 21)) none)⟩, ⟨some 0, none, .r (.mov (.t 22))⟩]))
def l_bytes_trimRightByte_0 : MCode := .loop (.trim [0, 1] b_bytes_trimRightByte_0)
def m_bytes_trimRightByte : MFun := ⟨.seq (.region [⟨some 4, none, .r (.mov (.c (.tree [] true true)))⟩])
  (.seq (.block 0
  (l_bytes_trimRightByte_0))
  (.seq (.region [⟨some 23, none, .r (.mov (.t 0))⟩, ⟨some 4, none, .r (.mov (.t 23))⟩])
  (.ret))),
  [.t 4]⟩
/-- slotmeshref35.Pages -/
def b_ref35_Pages_0 : MCode := .seq (.seq (.region [⟨some 12, none, .r (.mov (.t 3))⟩, ⟨some 13, none, .r (.mov (.t 0))⟩, ⟨some 14, none, .r (.len (.t 13))⟩, ⟨some 15, none, .r (.bin .lss (.t 12) (.t 14))⟩])
  (.cond (.t 15) (.skip)
  (.trim [] (.exit 0))))
  (.seq (.block 1
  (.seq (.region [⟨some 18, none, .r (.mov (.t 0))⟩, ⟨some 19, none, .r (.mov (.t 3))⟩, ⟨some 20, none, .r (.iaddr 1 (.t 18) (.t 19))⟩, ⟨some 21, none, .r (.load 1 false (.t 20))⟩, ⟨some 22, none, .r (.len (.t 21))⟩, ⟨some 23, none, .r (.bin .gtr (.t 22) (.c (.int .i64 256)))⟩])
    (.cond (.t 23) (.seq (.region [⟨some 2, none, .r (.mov (.c (.bool false)))⟩])
      (.ret))
    (.skip))))
  (.region [⟨some 16, none, .r (.mov (.t 3))⟩, ⟨some 17, none, .r (.bin .add (.t 16) (.c (.int .i64 1)))⟩, ⟨some 3, none, .r (.mov (.t 17))⟩]))
def l_ref35_Pages_0 : MCode := .loop (.trim [0, 3] b_ref35_Pages_0)
def m_ref35_Pages : MFun := ⟨.seq (.region [⟨some 2, none, .r (.mov (.c (.bool false)))⟩])
  (.seq (.seq (.region [⟨some 4, none, .r (.mov (.t 0))⟩, ⟨some 5, none, .r (.len (.t 4))⟩, ⟨some 6, none, .r (.bin .lss (.t 5) (.c (.int .i64 1)))⟩, ⟨some 7, none, .r (.mov (.t 6))⟩, ⟨some 8, (some (7, false)), .r (.mov (.t 0))⟩, ⟨some 9, (some (7, false)), .r (.len (.t 8))⟩, ⟨some 10, (some (7, false)), .r (.bin .gtr (.t 9) (.c (.int .i64 16)))⟩, ⟨some 11, none, .r (.pick (.t 7) (.c (.bool true)) (.t 10))⟩])
  (.cond (.t 11) (.seq (.region [⟨some 2, none, .r (.mov (.c (.bool false)))⟩])
    (.ret))
  (.skip)))
  (.seq (.seq (.region [⟨some 3, none, .r (.mov (.c (.int .i64 0)))⟩])
  (.block 0
  (l_ref35_Pages_0)))
  (.seq (.region [⟨some 2, none, .r (.mov (.c (.bool true)))⟩])
  (.ret)))),
  [.t 2]⟩
/-- slotmeshref35.leaves -/
def b_ref35_leaves_0 : MCode := .seq (.seq (.region [⟨some 5, none, .r (.mov (.t 4))⟩, ⟨some 6, none, .r (.mov (.t 0))⟩, ⟨some 7, none, .r (.len (.t 6))⟩, ⟨some 8, none, .r (.bin .lss (.t 5) (.t 7))⟩])
  (.cond (.t 8) (.skip)
  (.trim [3] (.exit 0))))
  (.seq (.block 1
  (.region [⟨some 11, none, .r (.mov (.t 3))⟩, ⟨some 12, none, .r (.mov (.t 0))⟩, ⟨some 13, none, .r (.mov (.t 4))⟩, ⟨some 14, none, .r (.iaddr 1 (.t 12) (.t 13))⟩, ⟨some 15, none, .r (.load 1 false (.t 14))⟩, ⟨some 16, none, .call .ro (.c (.fn n_ref35_Leaf [] [])) [.t 15]⟩, ⟨some 17, none, .r (.bslice 1 [.t 16])⟩, ⟨some 18, none, .w (.append 1 (.t 11) (.t 17))⟩, ⟨some 3, none, .r (.mov (.t 18))⟩]))
  (.region [⟨some 9, none, .r (.mov (.t 4))⟩, ⟨some 10, none, .r (.bin .add (.t 9) (.c (.int .i64 1)))⟩, ⟨some 4, none, .r (.mov (.t 10))⟩]))
def l_ref35_leaves_0 : MCode := .loop (.trim [0, 3, 4] b_ref35_leaves_0)
def m_ref35_leaves : MFun := ⟨.seq (.region [⟨some 2, none, .r (.mov (.c (.tree [] true true)))⟩])
  (.seq (.region [⟨some 3, none, .r (.mov (.c (.tree [] true true)))⟩])
  (.seq (.seq (.region [⟨some 4, none, .r (.mov (.c (.int .i64 0)))⟩])
  (.block 0
  (l_ref35_leaves_0)))
  (.seq (.region [⟨some 19, none, .r (.mov (.t 3))⟩, ⟨some 2, none, .r (.mov (.t 19))⟩])
  (.ret)))),
  [.t 2]⟩
/-- slotmeshref35.Next -/
def b_ref35_Next_0 : MCode := .seq (.seq (.region [⟨some 5, none, .r (.mov (.t 4))⟩, ⟨some 6, none, .r (.mov (.t 0))⟩, ⟨some 7, none, .r (.len (.t 6))⟩, ⟨some 8, none, .r (.bin .lss (.t 5) (.t 7))⟩])
  (.cond (.t 8) (.skip)
  (.trim [3] (.exit 0))))
  (.seq (.block 1
  (.seq (.region [⟨some 11, none, .r (.mov (.t 4))⟩, ⟨some 12, none, .r (.bin .add (.t 11) (.c (.int .i64 1)))⟩, ⟨some 13, none, .r (.mov (.t 0))⟩, ⟨some 14, none, .r (.len (.t 13))⟩, ⟨some 15, none, .r (.bin .lss (.t 12) (.t 14))⟩])
    (.cond (.t 15) (.draw [(4, 9)] [⟨some 16, none, .r (.mov (.t 3))⟩, ⟨some 17, none, .r (.mov (.t 0))⟩, ⟨some 18, none, .r (.mov (.t 4))⟩, ⟨some 19, none, .r (.iaddr 1 (.t 17) (.t 18))⟩, ⟨some 20, none, .r (.load 1 false (.t 19))⟩, ⟨some 21, none, .r (.mov (.t 0))⟩, ⟨some 22, none, .r (.mov (.t 4))⟩, ⟨some 23, none, .r (.bin .add (.t 22) (.c (.int .i64 1)))⟩, ⟨some 24, none, .r (.iaddr 1 (.t 21) (.t 23))⟩, ⟨some 25, none, .r (.load 1 false (.t 24))⟩, ⟨some 26, none, .call .ro (.c (.fn n_ref05_Pair [] [])) [.t 20, .t 25]⟩, ⟨some 27, none, .r (.bslice 1 [.t 26])⟩, ⟨some 28, none, .w (.append 1 (.t 16) (.t 27))⟩, ⟨some 3, none, .r (.mov (.t 28))⟩])
    (.region [⟨some 29, none, .r (.mov (.t 3))⟩, ⟨some 30, none, .r (.mov (.t 0))⟩, ⟨some 31, none, .r (.mov (.t 4))⟩, ⟨some 32, none, .r (.iaddr 1 (.t 30) (.t 31))⟩, ⟨some 33, none, .r (.load 1 false (.t 32))⟩, ⟨some 34, none, .r (.bslice 1 [.t 33])⟩, ⟨some 35, none, .w (.append 1 (.t 29) (.t 34))⟩, ⟨some 3, none, .r (.mov (.t 35))⟩]))))
  (.region [⟨some 9, none, .r (.mov (.t 4))⟩, ⟨some 10, none, .r (.bin .add (.t 9) (.c (.int .i64 2)))⟩, ⟨some 4, none, .r (.mov (.t 10))⟩]))
def l_ref35_Next_0 : MCode := .loop (.trim [0, 3, 4] b_ref35_Next_0)
def m_ref35_Next : MFun := ⟨.seq (.region [⟨some 2, none, .r (.mov (.c (.tree [] true true)))⟩])
  (.seq (.region [⟨some 3, none, .r (.mov (.c (.tree [] true true)))⟩])
  (.seq (.seq (.region [⟨some 4, none, .r (.mov (.c (.int .i64 0)))⟩])
  (.block 0
  (l_ref35_Next_0)))
  (.seq (.region [⟨some 36, none, .r (.mov (.t 3))⟩, ⟨some 2, none, .r (.mov (.t 36))⟩])
  (.ret)))),
  [.t 2]⟩
/-- tree.Check -/
def a_tree_Check_0 : MCode := .seq (.region [⟨some 12, none, .r (.mov (.t 42))⟩])
  (.region [⟨some 13, none, .r (.mov (.t 43))⟩])
def y_tree_Check_0 : MCode := .block 1
  (.seq (.seq (.region [⟨some 44, none, .r (.mov (.t 12))⟩, ⟨some 45, none, .r (.not (.t 44))⟩])
    (.cond (.t 45) (.trim [] (.exit 1))
    (.skip)))
    (.seq (.seq (.region [⟨some 46, none, .r (.load 1 false (.t 9))⟩, ⟨some 47, none, .r (.len (.t 46))⟩, ⟨some 48, none, .r (.bin .eql (.t 47) (.c (.int .i64 0)))⟩])
    (.cond (.t 48) (.seq (.region [⟨none, none, .w (.store 1 (.t 10) (.c (.bool false)))⟩])
      (.ret))
    (.skip)))
    (.seq (.draw [(0, 1), (0, 3)] [⟨some 49, none, .r (.load 1 false (.t 11))⟩, ⟨some 50, none, .r (.load 1 false (.t 9))⟩, ⟨some 51, none, .r (.iaddr 1 (.t 50) (.c (.int .i64 0)))⟩, ⟨some 52, none, .r (.load 1 false (.t 51))⟩, ⟨some 14, none, .r (.mov (.t 49))⟩, ⟨some 15, none, .r (.mov (.t 52))⟩])
    (.seq (.seq (.region [⟨some 53, none, .r (.mov (.t 13))⟩])
    (.cond (.t 53) (.region [⟨some 54, none, .r (.mov (.t 15))⟩, ⟨some 55, none, .r (.mov (.t 14))⟩, ⟨some 14, none, .r (.mov (.t 54))⟩, ⟨some 15, none, .r (.mov (.t 55))⟩])
    (.skip)))
    (.draw [(2, 3), (3, 5)] [⟨some 56, none, .r (.mov (.t 14))⟩, ⟨some 57, none, .r (.mov (.t 15))⟩, ⟨some 58, none, .call .ro (.c (.fn n_digest_Pair [] [])) [.t 56, .t 57]⟩, ⟨some 59, none, .r (.load 1 false (.t 9))⟩, ⟨some 60, none, .r (.slice 1 (.t 59) (some (.c (.int .i64 1))) none none)⟩, ⟨none, none, .w (.store 1 (.t 11) (.t 58))⟩, ⟨none, none, .w (.store 1 (.t 9) (.t 60))⟩])))))
def g_tree_Check_0 : MCode := .range (.t 41) [42, 43] a_tree_Check_0 y_tree_Check_0
def m_tree_Check : MFun := ⟨.seq (.region [⟨some 9, none, .r (.box (.t 4))⟩, ⟨some 10, none, .r (.alloc [.bool false])⟩])
  (.seq (.seq (.region [⟨some 16, none, .r (.mov (.t 1))⟩, ⟨some 17, none, .r (.bin .lss (.t 16) (.c (.int .i64 1)))⟩, ⟨some 18, none, .r (.mov (.t 17))⟩, ⟨some 19, (some (18, false)), .r (.mov (.t 1))⟩, ⟨some 20, (some (18, false)), .r (.bin .gtr (.t 19) (.c (.int .i64 16)))⟩, ⟨some 21, none, .r (.pick (.t 18) (.c (.bool true)) (.t 20))⟩, ⟨some 22, none, .r (.mov (.t 21))⟩, ⟨some 23, (some (22, false)), .r (.mov (.t 2))⟩, ⟨some 24, (some (22, false)), .r (.bin .lss (.t 23) (.c (.int .i64 0)))⟩, ⟨some 25, none, .r (.pick (.t 22) (.c (.bool true)) (.t 24))⟩, ⟨some 26, none, .r (.mov (.t 25))⟩, ⟨some 27, (some (26, false)), .r (.mov (.t 2))⟩, ⟨some 28, (some (26, false)), .r (.mov (.t 1))⟩, ⟨some 29, (some (26, false)), .r (.bin .geq (.t 27) (.t 28))⟩, ⟨some 30, none, .r (.pick (.t 26) (.c (.bool true)) (.t 29))⟩, ⟨some 31, none, .r (.mov (.t 30))⟩, ⟨some 32, (some (31, false)), .r (.mov (.t 3))⟩, ⟨some 33, (some (31, false)), .r (.len (.t 32))⟩, ⟨some 34, (some (31, false)), .r (.bin .gtr (.t 33) (.c (.int .i64 256)))⟩, ⟨some 35, none, .r (.pick (.t 31) (.c (.bool true)) (.t 34))⟩])
  (.cond (.t 35) (.seq (.region [⟨none, none, .w (.store 1 (.t 10) (.c (.bool false)))⟩])
    (.ret))
  (.skip)))
  (.seq (.region [⟨some 36, none, .r (.mov (.t 3))⟩, ⟨some 37, none, .w (.bslice 1 [.t 36])⟩, ⟨some 38, none, .call .ro (.c (.fn n_tree_leaf [] [])) [.t 37]⟩, ⟨some 11, none, .r (.alloc [.int .u64 0])⟩, ⟨none, none, .w (.store 1 (.t 11) (.t 38))⟩])
  (.seq (.seq (.region [⟨some 39, none, .r (.mov (.t 1))⟩, ⟨some 40, none, .r (.mov (.t 2))⟩, ⟨some 41, none, .call .rw (.c (.fn n_tree_walk [] [])) [.t 39, .t 40]⟩])
  (.block 0
  (.trim [0, 9, 10, 11, 41] g_tree_Check_0)))
  (.seq (.region [⟨some 61, none, .r (.load 1 false (.t 9))⟩, ⟨some 62, none, .r (.len (.t 61))⟩, ⟨some 63, none, .r (.bin .eql (.t 62) (.c (.int .i64 0)))⟩, ⟨some 64, none, .r (.mov (.t 63))⟩, ⟨some 65, (some (64, true)), .r (.load 1 false (.t 11))⟩, ⟨some 66, (some (64, true)), .r (.mov (.t 0))⟩, ⟨some 67, (some (64, true)), .r (.bin .eql (.t 65) (.t 66))⟩, ⟨some 68, none, .r (.pick (.t 64) (.t 67) (.c (.bool false)))⟩, ⟨none, none, .w (.store 1 (.t 10) (.t 68))⟩])
  (.ret))))),
  [.cell 10 1 false]⟩
/-- slotmeshref35.Length -/
def b_ref35_Length_0 : MCode := .seq (.seq (.region [⟨some 6, none, .r (.mov (.t 0))⟩, ⟨some 7, none, .r (.bin .gtr (.t 6) (.c (.int .i64 1)))⟩])
  (.cond (.t 7) (.skip)
  (.trim [5] (.exit 0))))
  (.block 1
  (.seq (.seq (.region [⟨some 8, none, .r (.mov (.t 1))⟩, ⟨some 9, none, .r (.mov (.t 0))⟩, ⟨some 10, none, .call .ro (.c (.fn n_ref35_other [] [])) [.t 8, .t 9]⟩, ⟨some 11, none, .r (.bin .geq (.t 10) (.c (.int .i64 0)))⟩])
    (.cond (.t 11) (.region [⟨some 12, none, .r (.mov (.t 5))⟩, ⟨some 13, none, .r (.bin .add (.t 12) (.c (.int .i64 1)))⟩, ⟨some 5, none, .r (.mov (.t 13))⟩])
    (.skip)))
    (.seq (.region [⟨some 14, none, .r (.mov (.t 0))⟩, ⟨some 15, none, .r (.bin .add (.t 14) (.c (.int .i64 1)))⟩, ⟨some 16, none, .r (.bin .quo (.t 15) (.c (.int .i64 2)))⟩, ⟨some 0, none, .r (.mov (.t 16))⟩])
    (.region [⟨some 17, none, .r (.mov (.t 1))⟩, ⟨some 18, none, .r (.bin .quo (.t 17) (.c (.int .i64 2)))⟩, ⟨some 1, none, .r (.mov (.t 18))⟩]))))
def l_ref35_Length_0 : MCode := .loop (.trim [0, 1, 5] b_ref35_Length_0)
def m_ref35_Length : MFun := ⟨.seq (.region [⟨some 4, none, .r (.mov (.c (.int .i64 0)))⟩])
  (.seq (.region [⟨some 5, none, .r (.mov (.c (.int .i64 0)))⟩])
  (.seq (.block 0
  (l_ref35_Length_0))
  (.seq (.region [⟨some 19, none, .r (.mov (.t 5))⟩, ⟨some 4, none, .r (.mov (.t 19))⟩])
  (.ret)))),
  [.t 4]⟩
/-- slotmeshref35.other -/
def m_ref35_other : MFun := ⟨.seq (.region [⟨some 4, none, .r (.mov (.c (.int .i64 0)))⟩])
  (.seq (.region [⟨some 6, none, .r (.mov (.t 0))⟩, ⟨some 7, none, .r (.bin .add (.t 6) (.c (.int .i64 1)))⟩, ⟨some 8, none, .r (.mov (.t 0))⟩, ⟨some 9, none, .r (.bin .rem (.t 8) (.c (.int .i64 2)))⟩, ⟨some 10, none, .r (.bin .mul (.c (.int .i64 2)) (.t 9))⟩, ⟨some 11, none, .r (.bin .sub (.t 7) (.t 10))⟩, ⟨some 5, none, .r (.mov (.t 11))⟩])
  (.seq (.seq (.region [⟨some 12, none, .r (.mov (.t 5))⟩, ⟨some 13, none, .r (.mov (.t 1))⟩, ⟨some 14, none, .r (.bin .geq (.t 12) (.t 13))⟩])
  (.cond (.t 14) (.seq (.region [⟨some 4, none, .r (.mov (.c (.int .i64 (-1))))⟩])
    (.ret))
  (.skip)))
  (.seq (.region [⟨some 15, none, .r (.mov (.t 5))⟩, ⟨some 4, none, .r (.mov (.t 15))⟩])
  (.ret)))),
  [.t 4]⟩
/-- slotmeshref05.Pair -/
def m_ref05_Pair : MFun := ⟨.seq (.region [⟨some 4, none, .r (.mov (.c (.int .u64 0)))⟩])
  (.seq (.region [⟨some 6, none, .r (.mov (.t 0))⟩, ⟨some 7, none, .r (.bin .xor (.c (.int .u64 3750763034362895578)) (.t 6))⟩, ⟨some 8, none, .r (.bin .mul (.t 7) (.c (.int .u64 1099511628211)))⟩, ⟨some 5, none, .r (.mov (.t 8))⟩])
  (.seq (.region [⟨some 9, none, .r (.mov (.t 5))⟩, ⟨some 10, none, .r (.mov (.t 1))⟩, ⟨some 11, none, .r (.bin .xor (.t 9) (.t 10))⟩, ⟨some 12, none, .r (.bin .mul (.t 11) (.c (.int .u64 1099511628211)))⟩, ⟨some 4, none, .r (.mov (.t 12))⟩])
  (.ret))),
  [.t 4]⟩
/-- tree.arePages$1 -/
def m_tree_arePages_1 : MFun := ⟨.seq (.region [⟨some 2, none, .r (.mov (.c (.bool false)))⟩])
  (.seq (.region [⟨some 3, none, .r (.mov (.t 0))⟩, ⟨some 4, none, .r (.len (.t 3))⟩, ⟨some 5, none, .r (.bin .gtr (.t 4) (.c (.int .i64 256)))⟩, ⟨some 2, none, .r (.mov (.t 5))⟩])
  (.ret)),
  [.t 2]⟩
/-- tree.levels$1 -/
def b_tree_levels_1_0 : MCode := .seq (.region [⟨some 11, none, .r (.bin .lss (.t 10) (.t 9))⟩])
  (.seq (.cond (.t 11) (.skip)
  (.trim [0, 3] (.exit 0)))
  (.seq (.block 1
  (.seq (.region [⟨some 12, none, .r (.iaddr 1 (.t 8) (.t 10))⟩, ⟨some 13, none, .r (.load 1 false (.t 12))⟩, ⟨some 5, none, .r (.mov (.t 13))⟩])
    (.region [⟨some 14, none, .r (.mov (.t 3))⟩, ⟨some 15, none, .r (.mov (.t 5))⟩, ⟨some 16, none, .w (.bslice 1 [.t 15])⟩, ⟨some 17, none, .call .ro (.c (.fn n_tree_leaf [] [])) [.t 16]⟩, ⟨some 18, none, .r (.bslice 1 [.t 17])⟩, ⟨some 19, none, .w (.append 1 (.t 14) (.t 18))⟩, ⟨some 3, none, .r (.mov (.t 19))⟩])))
  (.region [⟨some 20, none, .r (.bin .add (.t 10) (.c (.int .i64 1)))⟩, ⟨some 10, none, .r (.mov (.t 20))⟩])))
def l_tree_levels_1_0 : MCode := .loop (.trim [0, 3, 8, 9, 10] b_tree_levels_1_0)
def a_tree_levels_1_1 : MCode := .region [⟨some 7, none, .r (.mov (.t 31))⟩]
def y_tree_levels_1_1 : MCode := .block 5
  (.seq (.region [⟨some 32, none, .r (.mov (.t 7))⟩, ⟨some 33, none, .r (.len (.t 32))⟩, ⟨some 34, none, .r (.bin .eql (.t 33) (.c (.int .i64 2)))⟩])
    (.cond (.t 34) (.draw [(0, 3), (0, 6), (3, 6), (0, 7)] [⟨some 35, none, .r (.load 1 false (.t 6))⟩, ⟨some 36, none, .r (.mov (.t 7))⟩, ⟨some 37, none, .r (.iaddr 1 (.t 36) (.c (.int .i64 0)))⟩, ⟨some 38, none, .r (.load 1 false (.t 37))⟩, ⟨some 39, none, .r (.mov (.t 7))⟩, ⟨some 40, none, .r (.iaddr 1 (.t 39) (.c (.int .i64 1)))⟩, ⟨some 41, none, .r (.load 1 false (.t 40))⟩, ⟨some 42, none, .call .ro (.c (.fn n_digest_Pair [] [])) [.t 38, .t 41]⟩, ⟨some 43, none, .r (.bslice 1 [.t 42])⟩, ⟨some 44, none, .w (.append 1 (.t 35) (.t 43))⟩, ⟨none, none, .w (.store 1 (.t 6) (.t 44))⟩])
    (.draw [(0, 3)] [⟨some 45, none, .r (.load 1 false (.t 6))⟩, ⟨some 46, none, .r (.mov (.t 7))⟩, ⟨some 47, none, .r (.iaddr 1 (.t 46) (.c (.int .i64 0)))⟩, ⟨some 48, none, .r (.load 1 false (.t 47))⟩, ⟨some 49, none, .r (.bslice 1 [.t 48])⟩, ⟨some 50, none, .w (.append 1 (.t 45) (.t 49))⟩, ⟨none, none, .w (.store 1 (.t 6) (.t 50))⟩])))
def g_tree_levels_1_1 : MCode := .range (.t 30) [31] a_tree_levels_1_1 y_tree_levels_1_1
def b_tree_levels_1_2 : MCode := .seq (.seq (.region [⟨some 21, none, .r (.mov (.t 0))⟩, ⟨some 22, none, .r (.mov (.t 3))⟩, ⟨some 23, none, .call .rw (.t 21) [.t 22]⟩, ⟨some 24, none, .r (.mov (.t 23))⟩, ⟨some 25, (some (24, true)), .r (.mov (.t 3))⟩, ⟨some 26, (some (24, true)), .r (.len (.t 25))⟩, ⟨some 27, (some (24, true)), .r (.bin .gtr (.t 26) (.c (.int .i64 1)))⟩, ⟨some 28, none, .r (.pick (.t 24) (.t 27) (.c (.bool false)))⟩])
  (.cond (.t 28) (.skip)
  (.trim [] (.exit 2))))
  (.block 3
  (.seq (.region [⟨some 6, none, .r (.alloc [.tree [] true true])⟩])
    (.seq (.seq (.region [⟨some 29, none, .r (.mov (.t 3))⟩, ⟨some 30, none, .call .rw (.c (.fn n_slices_Chunk_suint64_uint64 [] [])) [.t 29, .c (.int .i64 2)]⟩])
    (.block 4
    (.trim [0, 3, 6, 30] g_tree_levels_1_1)))
    (.region [⟨some 51, none, .r (.load 1 false (.t 6))⟩, ⟨some 3, none, .r (.mov (.t 51))⟩]))))
def l_tree_levels_1_2 : MCode := .loop (.trim [0, 3] b_tree_levels_1_2)
def m_tree_levels_1 : MFun := ⟨.seq (.region [⟨some 3, none, .r (.mov (.c (.tree [] true true)))⟩])
  (.seq (.seq (.region [⟨some 8, none, .r (.load 1 false (.t 1))⟩, ⟨some 9, none, .r (.len (.t 8))⟩, ⟨some 10, none, .r (.mov (.c (.int .i64 0)))⟩])
  (.block 0
  (l_tree_levels_1_0)))
  (.block 2
  (l_tree_levels_1_2))),
  []⟩
/-- tree.leaf -/
def b_tree_leaf_0 : MCode := .seq (.region [⟨some 11, none, .r (.bin .lss (.t 10) (.t 9))⟩])
  (.seq (.cond (.t 11) (.skip)
  (.trim [3] (.exit 0)))
  (.seq (.block 1
  (.seq (.region [⟨some 12, none, .r (.iaddr 1 (.t 8) (.t 10))⟩, ⟨some 13, none, .r (.load 1 false (.t 12))⟩, ⟨some 5, none, .r (.mov (.t 13))⟩])
    (.region [⟨some 14, none, .r (.mov (.t 3))⟩, ⟨some 15, none, .r (.mov (.t 5))⟩, ⟨some 16, none, .call .ro (.c (.fn n_digest_Add [] [])) [.t 14, .t 15]⟩, ⟨some 3, none, .r (.mov (.t 16))⟩])))
  (.region [⟨some 17, none, .r (.bin .add (.t 10) (.c (.int .i64 1)))⟩, ⟨some 10, none, .r (.mov (.t 17))⟩])))
def l_tree_leaf_0 : MCode := .loop (.trim [3, 8, 9, 10] b_tree_leaf_0)
def m_tree_leaf : MFun := ⟨.seq (.region [⟨some 2, none, .r (.mov (.c (.int .u64 0)))⟩])
  (.seq (.region [⟨some 6, none, .r (.bslice 1 [.c (.int .u8 0)])⟩, ⟨some 7, none, .call .ro (.c (.fn n_digest_Sum [] [])) [.t 6]⟩, ⟨some 3, none, .r (.mov (.t 7))⟩])
  (.seq (.seq (.region [⟨some 8, none, .r (.mov (.t 0))⟩, ⟨some 9, none, .r (.len (.t 8))⟩, ⟨some 10, none, .r (.mov (.c (.int .i64 0)))⟩])
  (.block 0
  (l_tree_leaf_0)))
  (.seq (.region [⟨some 18, none, .r (.mov (.t 3))⟩, ⟨some 2, none, .r (.mov (.t 18))⟩])
  (.ret)))),
  [.t 2]⟩
/-- slices.Chunk[[]uint64,uint64] -/
def m_slices_Chunk_suint64_uint64 : MFun := ⟨.seq (.region [⟨some 2, none, .r (.box (.t 0))⟩, ⟨some 3, none, .r (.box (.t 1))⟩, ⟨some 4, none, .r (.mov (.c (.undef)))⟩])
  (.seq (.seq (.region [⟨some 5, none, .r (.load 1 false (.t 3))⟩, ⟨some 6, none, .r (.bin .lss (.t 5) (.c (.int .i64 1)))⟩])
  (.cond (.t 6) (.trap)
  (.skip)))
  (.seq (.region [⟨some 8, none, .r (.mkfn n_slices_Chunk_suint64_uint64_1 [] [.t 2, .t 3])⟩, ⟨some 4, none, .r (.mov (.t 8))⟩])
  (.ret))),
  [.t 4]⟩
/-- digest.Pair -/
def m_digest_Pair : MFun := ⟨.seq (.region [⟨some 4, none, .r (.mov (.c (.int .u64 0)))⟩])
  (.seq (.region [⟨some 5, none, .r (.mov (.c (.int .u64 3750763034362895578)))⟩])
  (.seq (.region [⟨some 7, none, .r (.mov (.t 5))⟩, ⟨some 8, none, .r (.mkfn n_digest_number_step [.t 7] [])⟩, ⟨some 6, none, .r (.mov (.t 8))⟩])
  (.seq (.region [⟨some 9, none, .r (.mov (.t 6))⟩, ⟨some 10, none, .r (.mov (.t 0))⟩, ⟨some 11, none, .call .ro (.t 9) [.t 10]⟩, ⟨some 12, none, .r (.mov (.t 1))⟩, ⟨some 13, none, .call .ro (.c (.fn n_digest_number_step [] [])) [.t 11, .t 12]⟩, ⟨some 4, none, .r (.mov (.t 13))⟩])
  (.ret)))),
  [.t 4]⟩
/-- slices.IndexFunc[[][]byte,[]byte] -/
def b_slices_IndexFunc_ssbyte_sbyte_0 : MCode := .seq (.region [⟨some 9, none, .r (.bin .lss (.t 8) (.t 7))⟩])
  (.seq (.cond (.t 9) (.skip)
  (.trim [] (.exit 0)))
  (.seq (.block 1
  (.seq (.region [⟨some 10, none, .r (.mov (.t 8))⟩, ⟨some 5, none, .r (.mov (.t 10))⟩])
    (.seq (.region [⟨some 11, none, .r (.mov (.t 1))⟩, ⟨some 12, none, .r (.mov (.t 0))⟩, ⟨some 13, none, .r (.mov (.t 5))⟩, ⟨some 14, none, .r (.iaddr 1 (.t 12) (.t 13))⟩, ⟨some 15, none, .r (.load 1 false (.t 14))⟩, ⟨some 16, none, .call .ro (.t 11) [.t 15]⟩])
    (.cond (.t 16) (.seq (.region [⟨some 17, none, .r (.mov (.t 5))⟩, ⟨some 4, none, .r (.mov (.t 17))⟩])
      (.ret))
    (.skip)))))
  (.region [⟨some 18, none, .r (.bin .add (.t 8) (.c (.int .i64 1)))⟩, ⟨some 8, none, .r (.mov (.t 18))⟩])))
def l_slices_IndexFunc_ssbyte_sbyte_0 : MCode := .loop (.trim [0, 1, 7, 8] b_slices_IndexFunc_ssbyte_sbyte_0)
def m_slices_IndexFunc_ssbyte_sbyte : MFun := ⟨.seq (.region [⟨some 4, none, .r (.mov (.c (.int .i64 0)))⟩])
  (.seq (.seq (.region [⟨some 6, none, .r (.mov (.t 0))⟩, ⟨some 7, none, .r (.len (.t 6))⟩, ⟨some 8, none, .r (.mov (.c (.int .i64 0)))⟩])
  (.block 0
  (l_slices_IndexFunc_ssbyte_sbyte_0)))
  (.seq (.region [⟨some 4, none, .r (.mov (.c (.int .i64 (-1))))⟩])
  (.ret))),
  [.t 4]⟩
/-- tree.walk -/
def m_tree_walk : MFun := ⟨.seq (.region [⟨some 2, none, .r (.box (.t 0))⟩, ⟨some 3, none, .r (.box (.t 1))⟩, ⟨some 4, none, .r (.mov (.c (.undef)))⟩])
  (.seq (.region [⟨some 5, none, .r (.mkfn n_tree_walk_1 [] [.t 2, .t 3])⟩, ⟨some 4, none, .r (.mov (.t 5))⟩])
  (.ret)),
  [.t 4]⟩
/-- digest.Sum -/
def m_digest_Sum : MFun := ⟨.seq (.region [⟨some 2, none, .r (.mov (.c (.int .u64 0)))⟩])
  (.seq (.region [⟨some 3, none, .r (.mov (.t 0))⟩, ⟨some 4, none, .call .ro (.c (.fn n_digest_Add [] [])) [.c (.int .u64 14695981039346656037), .t 3]⟩, ⟨some 2, none, .r (.mov (.t 4))⟩])
  (.ret)),
  [.t 2]⟩
/-- digest.Add -/
def a_digest_Add_0 : MCode := .region [⟨some 6, none, .r (.mov (.t 11))⟩]
def y_digest_Add_0 : MCode := .block 1
  (.region [⟨some 12, none, .r (.load 1 false (.t 5))⟩, ⟨some 13, none, .r (.mov (.t 6))⟩, ⟨some 14, none, .call .ro (.c (.fn n_digest_number_step [] [])) [.t 12, .t 13]⟩, ⟨none, none, .w (.store 1 (.t 5) (.t 14))⟩])
def g_digest_Add_0 : MCode := .range (.t 10) [11] a_digest_Add_0 y_digest_Add_0
def m_digest_Add : MFun := ⟨.seq (.region [⟨some 4, none, .r (.mov (.c (.int .u64 0)))⟩])
  (.seq (.region [⟨some 7, none, .r (.mov (.t 0))⟩, ⟨some 5, none, .r (.alloc [.int .u64 0])⟩, ⟨none, none, .w (.store 1 (.t 5) (.t 7))⟩])
  (.seq (.seq (.region [⟨some 8, none, .r (.mov (.t 1))⟩, ⟨some 9, none, .w (.bslice 1 [.t 8])⟩, ⟨some 10, none, .call .rw (.c (.fn n_digest_words [] [])) [.t 9]⟩])
  (.block 0
  (.trim [4, 5, 10] g_digest_Add_0)))
  (.seq (.region [⟨some 15, none, .r (.load 1 false (.t 5))⟩, ⟨some 4, none, .r (.mov (.t 15))⟩])
  (.ret)))),
  [.t 4]⟩
/-- slices.Chunk[[]uint64,uint64]$1 -/
def b_slices_Chunk_suint64_uint64_1_0 : MCode := .seq (.seq (.region [⟨some 6, none, .r (.mov (.t 4))⟩, ⟨some 7, none, .r (.load 1 false (.t 1))⟩, ⟨some 8, none, .r (.len (.t 7))⟩, ⟨some 9, none, .r (.bin .lss (.t 6) (.t 8))⟩])
  (.cond (.t 9) (.skip)
  (.trim [] (.exit 0))))
  (.seq (.block 1
  (.seq (.draw [(0, 1)] [⟨some 13, none, .r (.load 1 false (.t 2))⟩, ⟨some 14, none, .r (.load 1 false (.t 1))⟩, ⟨some 15, none, .r (.mov (.t 4))⟩, ⟨some 16, none, .r (.slice 1 (.t 14) (some (.t 15)) none none)⟩, ⟨some 17, none, .r (.len (.t 16))⟩, ⟨some 18, none, .r (.mn (.t 13) (.t 17))⟩, ⟨some 5, none, .r (.mov (.t 18))⟩])
    (.seq (.region [⟨some 19, none, .r (.mov (.t 0))⟩, ⟨some 20, none, .r (.load 1 false (.t 1))⟩, ⟨some 21, none, .r (.mov (.t 4))⟩, ⟨some 22, none, .r (.mov (.t 4))⟩, ⟨some 23, none, .r (.mov (.t 5))⟩, ⟨some 24, none, .r (.bin .add (.t 22) (.t 23))⟩, ⟨some 25, none, .r (.mov (.t 4))⟩, ⟨some 26, none, .r (.mov (.t 5))⟩, ⟨some 27, none, .r (.bin .add (.t 25) (.t 26))⟩, ⟨some 28, none, .r (.slice 1 (.t 20) (some (.t 21)) (some (.t 24)) (some (.t 27)))⟩, ⟨some 29, none, .call .rw (.t 19) [.t 28]⟩, ⟨some 30, none, .r (.not (.t 29))⟩])
    (.cond (.t 30) (.ret)
    (.skip)))))
  (.region [⟨some 10, none, .r (.mov (.t 4))⟩, ⟨some 11, none, .r (.load 1 false (.t 2))⟩, ⟨some 12, none, .r (.bin .add (.t 10) (.t 11))⟩, ⟨some 4, none, .r (.mov (.t 12))⟩]))
def l_slices_Chunk_suint64_uint64_1_0 : MCode := .loop (.trim [0, 1, 2, 4] b_slices_Chunk_suint64_uint64_1_0)
def m_slices_Chunk_suint64_uint64_1 : MFun := ⟨.seq (.region [⟨some 4, none, .r (.mov (.c (.int .i64 0)))⟩])
  (.block 0
  (l_slices_Chunk_suint64_uint64_1_0)),
  []⟩
/-- (digest.number).step -/
def m_digest_number_step : MFun := ⟨.seq (.region [⟨some 4, none, .r (.mov (.c (.int .u64 0)))⟩])
  (.seq (.region [⟨some 5, none, .r (.mov (.t 0))⟩, ⟨some 6, none, .r (.mov (.t 1))⟩, ⟨some 7, none, .r (.bin .xor (.t 5) (.t 6))⟩, ⟨some 8, none, .r (.bin .mul (.t 7) (.c (.int .u64 1099511628211)))⟩, ⟨some 4, none, .r (.mov (.t 8))⟩])
  (.ret)),
  [.t 4]⟩
/-- tree.walk$1 -/
def b_tree_walk_1_0 : MCode := .seq (.seq (.region [⟨some 4, none, .r (.load 1 false (.t 1))⟩, ⟨some 5, none, .r (.bin .gtr (.t 4) (.c (.int .i64 1)))⟩])
  (.cond (.t 5) (.skip)
  (.trim [] (.exit 0))))
  (.seq (.block 1
  (.seq (.region [⟨some 11, none, .r (.mov (.t 0))⟩, ⟨some 12, none, .r (.load 1 false (.t 2))⟩, ⟨some 13, none, .r (.bin .xor (.t 12) (.c (.int .i64 1)))⟩, ⟨some 14, none, .r (.load 1 false (.t 1))⟩, ⟨some 15, none, .r (.bin .lss (.t 13) (.t 14))⟩, ⟨some 16, none, .r (.load 1 false (.t 2))⟩, ⟨some 17, none, .r (.bin .rem (.t 16) (.c (.int .i64 2)))⟩, ⟨some 18, none, .r (.bin .eql (.t 17) (.c (.int .i64 1)))⟩, ⟨some 19, none, .call .rw (.t 11) [.t 15, .t 18]⟩, ⟨some 20, none, .r (.not (.t 19))⟩])
    (.cond (.t 20) (.ret)
    (.skip))))
  (.draw [(0, 3), (3, 5)] [⟨some 6, none, .r (.load 1 false (.t 1))⟩, ⟨some 7, none, .r (.bin .add (.t 6) (.c (.int .i64 1)))⟩, ⟨some 8, none, .r (.bin .quo (.t 7) (.c (.int .i64 2)))⟩, ⟨some 9, none, .r (.load 1 false (.t 2))⟩, ⟨some 10, none, .r (.bin .quo (.t 9) (.c (.int .i64 2)))⟩, ⟨none, none, .w (.store 1 (.t 1) (.t 8))⟩, ⟨none, none, .w (.store 1 (.t 2) (.t 10))⟩]))
def l_tree_walk_1_0 : MCode := .loop (.trim [0, 1, 2] b_tree_walk_1_0)
def m_tree_walk_1 : MFun := ⟨.block 0
  (l_tree_walk_1_0),
  []⟩
/-- digest.words -/
def m_digest_words : MFun := ⟨.seq (.region [⟨some 1, none, .r (.box (.t 0))⟩, ⟨some 2, none, .r (.mov (.c (.undef)))⟩])
  (.seq (.region [⟨some 3, none, .r (.mkfn n_digest_words_1 [] [.t 1])⟩, ⟨some 2, none, .r (.mov (.t 3))⟩])
  (.ret)),
  [.t 2]⟩
/-- digest.words$1 -/
def b_digest_words_1_0 : MCode := .seq (.region [⟨some 16, none, .r (.bin .lss (.t 15) (.t 14))⟩])
  (.seq (.cond (.t 16) (.skip)
  (.trim [0, 7, 8, 9] (.exit 2)))
  (.seq (.block 3
  (.seq (.region [⟨some 17, none, .r (.iaddr 1 (.t 13) (.t 15))⟩, ⟨some 18, none, .r (.load 1 false (.t 17))⟩, ⟨some 6, none, .r (.mov (.t 18))⟩])
    (.seq (.region [⟨some 19, none, .r (.mov (.t 0))⟩, ⟨some 20, none, .r (.mov (.t 6))⟩, ⟨some 21, none, .r (.conv .u64 (.t 20))⟩, ⟨some 22, none, .call .rw (.t 19) [.t 21]⟩, ⟨some 23, none, .r (.not (.t 22))⟩])
    (.cond (.t 23) (.ret)
    (.skip)))))
  (.region [⟨some 24, none, .r (.bin .add (.t 15) (.c (.int .i64 1)))⟩, ⟨some 15, none, .r (.mov (.t 24))⟩])))
def l_digest_words_1_0 : MCode := .loop (.trim [0, 7, 8, 9, 13, 14, 15] b_digest_words_1_0)
def b_digest_words_1_1 : MCode := .seq (.region [⟨some 10, none, .r (.bin .lss (.t 9) (.t 8))⟩])
  (.seq (.cond (.t 10) (.skip)
  (.trim [] (.exit 0)))
  (.seq (.block 1
  (.seq (.region [⟨some 11, none, .r (.iaddr 1 (.t 7) (.t 9))⟩, ⟨some 12, none, .r (.load 1 false (.t 11))⟩, ⟨some 4, none, .r (.mov (.t 12))⟩])
    (.seq (.region [⟨some 13, none, .r (.mov (.t 4))⟩, ⟨some 14, none, .r (.len (.t 13))⟩, ⟨some 15, none, .r (.mov (.c (.int .i64 0)))⟩])
    (.block 2
    (l_digest_words_1_0)))))
  (.region [⟨some 25, none, .r (.bin .add (.t 9) (.c (.int .i64 1)))⟩, ⟨some 9, none, .r (.mov (.t 25))⟩])))
def l_digest_words_1_1 : MCode := .loop (.trim [0, 7, 8, 9] b_digest_words_1_1)
def m_digest_words_1 : MFun := ⟨.seq (.region [⟨some 7, none, .r (.load 1 false (.t 1))⟩, ⟨some 8, none, .r (.len (.t 7))⟩, ⟨some 9, none, .r (.mov (.c (.int .i64 0)))⟩])
  (.block 0
  (l_digest_words_1_1)),
  []⟩
def fns : Nat → Option MFun
  | 3 => some m_law36_ImageMatchesReference
  | 4 => some m_law36_ImageInverse
  | 5 => some m_law36_ImageKeeps
  | 6 => some m_law36_ImageNotices
  | 7 => some m_law36_ImageSizes
  | 8 => some m_law36_ImageLoads
  | 9 => some m_law36_ImageOnlyRight
  | 10 => some m_law36_head
  | 11 => some m_law36_short
  | 12 => some m_ref36_Few
  | 13 => some m_image_Split
  | 14 => some m_ref36_Split
  | 15 => some m_image_Join
  | 16 => some m_ref36_Join
  | 17 => some m_image_Announce
  | 18 => some m_ref36_Announce
  | 19 => some m_ref36_Lists
  | 20 => some m_ref36_Bytes
  | 21 => some m_image_Put
  | 22 => some m_ref36_Put
  | 23 => some m_image_Whole
  | 24 => some m_ref36_Whole
  | 25 => some m_ref36_Same
  | 26 => some m_ref36_Sound
  | 27 => some m_ref36_Count
  | 28 => some m_ref35_Same
  | 29 => some m_tree_Proof
  | 30 => some m_law36_loaded
  | 31 => some m_law36_sample
  | 32 => some m_ref35_Leaf
  | 33 => some m_image_sized
  | 34 => some m_slices_Chunk_sbyte_byte
  | 35 => some m_ref36_Size
  | 36 => some m_image_count
  | 37 => some m_image_paged
  | 38 => some m_slices_Concat_sbyte_byte
  | 39 => some m_bytes_Trim
  | 40 => some m_ref36_Pages
  | 41 => some m_image_announced
  | 42 => some m_tree_Root
  | 43 => some m_ref36_Notice
  | 44 => some m_ref35_Root
  | 45 => some m_image_load_sound
  | 46 => some m_image_load_proved
  | 47 => some m_slices_Clone_ssbyte_sbyte
  | 48 => some m_bytes_Clone
  | 49 => some m_slices_Clone_ssuint64_suint64
  | 50 => some m_slices_Clone_suint64_uint64
  | 51 => some m_ref35_Check
  | 52 => some m_ref36_proofs
  | 53 => some m_tree_arePages
  | 54 => some m_tree_levels
  | 55 => some m_ref05_Add
  | 56 => some m_ref05_Sum
  | 57 => some m_slices_Chunk_sbyte_byte_1
  | 58 => some m_slices_ContainsFunc_ssbyte_sbyte
  | 59 => some m_image_paged_1
  | 60 => some m_slices_Grow_sbyte_byte
  | 61 => some m_bytes_trimLeftByte
  | 62 => some m_bytes_trimRightByte
  | 68 => some m_ref35_Pages
  | 69 => some m_ref35_leaves
  | 70 => some m_ref35_Next
  | 71 => some m_tree_Check
  | 72 => some m_ref35_Length
  | 73 => some m_ref35_other
  | 74 => some m_ref05_Pair
  | 75 => some m_tree_arePages_1
  | 76 => some m_tree_levels_1
  | 77 => some m_tree_leaf
  | 78 => some m_slices_Chunk_suint64_uint64
  | 79 => some m_digest_Pair
  | 80 => some m_slices_IndexFunc_ssbyte_sbyte
  | 85 => some m_tree_walk
  | 86 => some m_digest_Sum
  | 87 => some m_digest_Add
  | 88 => some m_slices_Chunk_suint64_uint64_1
  | 89 => some m_digest_number_step
  | 92 => some m_tree_walk_1
  | 93 => some m_digest_words
  | 94 => some m_digest_words_1
  | _ => none

def globs : Nat → List SV
  | _ => []
def XX : Cx := ⟨fns, globs⟩

def eqTs : List (Nat × Nat) := [(26, 4), (31, 5)]
end Go.Proofs.YtfmbdcmjgnikiaaDoor.Sm
