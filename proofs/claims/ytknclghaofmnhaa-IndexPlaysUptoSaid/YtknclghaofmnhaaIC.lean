import Derived.Test.YtknclghaofmnhaaK36
import Derived.KernelRfl
namespace Go.Abs
open Go Go.RowKit
abbrev n_law8_IndexPlays : Nat := 3
abbrev n_law8_IndexFinds : Nat := 4
abbrev n_law8_IndexAgain : Nat := 5
abbrev n_law8_IndexOrder : Nat := 6
abbrev n_book_Within : Nat := 17
abbrev n_law8_play : Nat := 18
abbrev n_law8_known : Nat := 19
abbrev n_index_New : Nat := 20
abbrev n_index_Index_Add : Nat := 21
abbrev n_index_Index_Find : Nat := 22
abbrev n_index_Index_Bytes : Nat := 23
abbrev n_index_Index_Entries : Nat := 24
abbrev n_index_Read : Nat := 25
abbrev n_law8_plain_find : Nat := 55
abbrev n_law8_plain_add : Nat := 56
abbrev n_law8_same : Nat := 57
abbrev n_index_Index_last : Nat := 58
abbrev n_sort_Search : Nat := 59
abbrev n_index_Index_Find_1 : Nat := 60
abbrev n_varint_Long : Nat := 61
abbrev n_slices_Clip_index_Entry_index_Entry_ : Nat := 62
abbrev n_varint_Back : Nat := 63
abbrev n_ref1_Long : Nat := 91
abbrev n_slices_Clone_byte_byte_ : Nat := 99
abbrev n_varint_bitsOf : Nat := 100
abbrev n_slices_Clip_byte_byte_ : Nat := 101
def l_law8_IndexPlays_0 : ACode := .seq (.region [⟨(some 19), none, .bin .lss .plain, [.tmp 18 false, .tmp 17 false]⟩])
 (.seq (.cond (.tmp 19 false) (.skip)
  (.ghost (.kill [3, 10, 11, 17, 18, 19]) (.exit 0)))
 (.ghost (.kill [19]) (.seq (.block 1 (.seq (.region [⟨(some 20), none, .move, [.tmp 18 false]⟩,
    ⟨(some 12), none, .move, [.tmp 20 false]⟩])
  (.ghost (.kill [20]) (.seq (.region [⟨(some 21), none, .move, [.tmp 3 false]⟩,
    ⟨(some 22), none, .move, [.tmp 12 false]⟩,
    ⟨(some 23), none, .ixAddr 1, [.tmp 21 true, .tmp 22 false]⟩,
    ⟨(some 24), none, .load false 1 false, [.tmp 23 false]⟩,
    ⟨(some 25), none, .call n_book_Within false, [.tmp 24 false, .val (.int .i64 0), .val (.int .i64 60)]⟩,
    ⟨(some 26), none, .bin .add .plain, [.val (.int .i64 1), .tmp 25 false]⟩,
    ⟨(some 13), none, .move, [.tmp 26 false]⟩])
  (.ghost (.kill [21, 22, 23, 24, 25, 26]) (.seq (.region [⟨(some 27), none, .move, [.tmp 9 true]⟩,
    ⟨(some 28), none, .move, [.tmp 11 false]⟩,
    ⟨(some 29), none, .move, [.tmp 10 false]⟩,
    ⟨(some 30), none, .move, [.tmp 13 false]⟩,
    ⟨(some 31), none, .build [.int .i64 0, .int .i64 0, .int .i64 0, .int .i64 0] [(3, 1), (1, 1), (2, 1)], [.tmp 28 false, .tmp 29 false, .tmp 30 false]⟩,
    ⟨(some 32), none, .move, [.tmp 11 false]⟩,
    ⟨(some 33), none, .move, [.tmp 3 false]⟩,
    ⟨(some 34), none, .move, [.tmp 12 false]⟩,
    ⟨(some 35), none, .ixAddr 1, [.tmp 33 true, .tmp 34 false]⟩,
    ⟨(some 36), none, .load false 1 false, [.tmp 35 false]⟩,
    ⟨(some 37), none, .bin .and .plain, [.tmp 36 false, .val (.int .i64 7)]⟩,
    ⟨(some 38), none, .bin .add .plain, [.tmp 32 false, .tmp 37 false]⟩,
    ⟨(some 39), none, .bin .sub .plain, [.tmp 38 false, .val (.int .i64 3)]⟩,
    ⟨(some 40), none, .build [.int .i64 0, .int .i64 0, .int .i64 0, .int .i64 0] [(0, 1), (3, 1)], [.val (.int .i64 4), .tmp 39 false]⟩,
    ⟨(some 41), none, .buildSlice 4 (.agg [.int .i64 0, .int .i64 0, .int .i64 0, .int .i64 0]) 2 [0, 1], [.tmp 31 false, .tmp 40 false]⟩,
    ⟨(some 42), none, .append 4 32 false, [.tmp 27 true, .tmp 41 true]⟩,
    ⟨(some 9), none, .move, [.tmp 42 true]⟩])
  (.ghost (.kill [12, 27, 28, 29, 30, 31, 32, 33, 34, 35, 36, 37, 38, 39, 40, 41, 42]) (.region [⟨(some 43), none, .move, [.tmp 10 false]⟩,
    ⟨(some 44), none, .move, [.tmp 13 false]⟩,
    ⟨(some 45), none, .bin .add .plain, [.tmp 43 false, .tmp 44 false]⟩,
    ⟨(some 46), none, .move, [.tmp 11 false]⟩,
    ⟨(some 47), none, .move, [.tmp 13 false]⟩,
    ⟨(some 48), none, .bin .rem .plain, [.tmp 47 false, .val (.int .i64 5)]⟩,
    ⟨(some 49), none, .bin .add .plain, [.tmp 46 false, .tmp 48 false]⟩,
    ⟨(some 50), none, .bin .add .plain, [.tmp 49 false, .val (.int .i64 1)]⟩,
    ⟨(some 10), none, .move, [.tmp 45 false]⟩,
    ⟨(some 11), none, .move, [.tmp 50 false]⟩]))))))))
 (.ghost (.kill [13, 43, 44, 45, 46, 47, 48, 49, 50]) (.region [⟨(some 51), none, .bin .add .plain, [.tmp 18 false, .val (.int .i64 1)]⟩,
   ⟨(some 18), none, .move, [.tmp 51 false]⟩])))))
def k_law8_IndexPlays_0 : List Nat := [12, 13, 19, 20, 21, 22, 23, 24, 25, 26, 27, 28, 29, 30, 31, 32, 33, 34, 35, 36, 37, 38, 39, 40, 41, 42, 43, 44, 45, 46, 47, 48, 49, 50, 51]
def c_law8_IndexPlays : AFunc := ⟨72, false, .seq (.region [⟨(some 8), none, .move, [.val (.bool false)]⟩])
 (.ghost (.kill [8]) (.seq (.region [⟨(some 9), none, .move, [.val (.list 4 [] .full)]⟩])
 (.seq (.region [⟨(some 14), none, .move, [.tmp 0 false]⟩,
   ⟨(some 15), none, .bin .and .plain, [.tmp 14 false, .val (.int .i64 65535)]⟩,
   ⟨(some 10), none, .move, [.val (.int .i64 0)]⟩,
   ⟨(some 11), none, .move, [.tmp 15 false]⟩])
 (.ghost (.kill [14, 15]) (.seq (.seq (.region [⟨(some 16), none, .move, [.tmp 3 false]⟩,
   ⟨(some 17), none, .len false, [.tmp 16 true]⟩,
   ⟨(some 18), none, .move, [.val (.int .i64 0)]⟩])
 (.ghost (.kill [16]) (.block 0 (.loop (.ghost (.kill k_law8_IndexPlays_0) l_law8_IndexPlays_0)))))
 (.ghost (.kill [3, 10, 11, 12, 13, 17, 18, 19, 20, 21, 22, 23, 24, 25, 26, 27, 28, 29, 30, 31, 32, 33, 34, 35, 36, 37, 38, 39, 40, 41, 42, 43, 44, 45, 46, 47, 48, 49, 50, 51]) (.seq (.regionS [(false, [⟨(some 52), none, .move, [.tmp 0 false]⟩,
   ⟨(some 53), none, .bin .and .plain, [.tmp 52 false, .val (.int .i64 65535)]⟩,
   ⟨(some 54), none, .move, [.tmp 1 false]⟩,
   ⟨(some 55), none, .call n_book_Within false, [.tmp 54 false, .val (.int .i64 0), .val (.int .i64 100)]⟩,
   ⟨(some 56), none, .bin .add .plain, [.val (.int .i64 1), .tmp 55 false]⟩,
   ⟨(some 57), none, .move, [.tmp 9 true]⟩,
   ⟨(some 58), none, .call n_law8_play false, [.tmp 53 false, .tmp 56 false, .tmp 57 true]⟩,
   ⟨(some 59), none, .move, [.tmp 58 false]⟩,
   ⟨(some 60), (some (59, true)), .move, [.tmp 0 false]⟩,
   ⟨(some 61), (some (59, true)), .move, [.tmp 1 false]⟩,
   ⟨(some 62), (some (59, true)), .move, [.tmp 2 false]⟩,
   ⟨(some 63), (some (59, true)), .call n_law8_play false, [.tmp 60 false, .tmp 61 false, .tmp 62 true]⟩,
   ⟨(some 64), none, .pick, [.tmp 59 false, .tmp 63 false, .val (.bool false)]⟩,
   ⟨(some 65), none, .move, [.tmp 64 false]⟩,
   ⟨(some 66), (some (65, true)), .move, [.tmp 2 true]⟩,
   ⟨(some 67), (some (65, true)), .call n_law8_play false, [.val (.int .i64 0), .val (.int .i64 1), .tmp 66 true]⟩,
   ⟨(some 68), none, .pick, [.tmp 65 false, .tmp 67 false, .val (.bool false)]⟩,
   ⟨(some 69), none, .move, [.tmp 68 false]⟩]),
   (true, [⟨(some 70), (some (69, true)), .call n_law8_known false, []⟩]),
   (false, [⟨(some 71), none, .pick, [.tmp 69 false, .tmp 70 false, .val (.bool false)]⟩,
   ⟨(some 8), none, .move, [.tmp 71 false]⟩])])
 (.ghost (.kill [0, 1, 2, 9, 52, 53, 54, 55, 56, 57, 58, 59, 60, 61, 62, 63, 64, 65, 66, 67, 68, 69, 70, 71]) (.ret))))))))), [.tmp 8]⟩
def l_law8_IndexFinds_0 : ACode := .seq (.seq (.region [⟨(some 25), none, .move, [.tmp 12 false]⟩,
   ⟨(some 26), none, .move, [.tmp 0 false]⟩,
   ⟨(some 27), none, .len false, [.tmp 26 true]⟩,
   ⟨(some 28), none, .bin .lss .plain, [.tmp 25 false, .tmp 27 false]⟩,
   ⟨(some 29), none, .move, [.tmp 28 false]⟩,
   ⟨(some 30), (some (29, true)), .move, [.tmp 12 false]⟩,
   ⟨(some 31), (some (29, true)), .bin .lss .plain, [.tmp 30 false, .val (.int .i64 40)]⟩,
   ⟨(some 32), none, .pick, [.tmp 29 false, .tmp 31 false, .val (.bool false)]⟩])
 (.ghost (.kill [25, 26, 27, 28, 29, 30, 31]) (.cond (.tmp 32 false) (.skip)
  (.ghost (.kill [0, 10, 11, 12, 32]) (.exit 0)))))
 (.ghost (.kill [32]) (.seq (.block 1 (.seq (.region [⟨(some 35), none, .move, [.tmp 0 false]⟩,
    ⟨(some 36), none, .move, [.tmp 12 false]⟩,
    ⟨(some 37), none, .ixAddr 1, [.tmp 35 true, .tmp 36 false]⟩,
    ⟨(some 38), none, .load false 1 false, [.tmp 37 false]⟩,
    ⟨(some 39), none, .call n_book_Within false, [.tmp 38 false, .val (.int .i64 0), .val (.int .i64 60)]⟩,
    ⟨(some 40), none, .bin .add .plain, [.val (.int .i64 1), .tmp 39 false]⟩,
    ⟨(some 13), none, .move, [.tmp 40 false]⟩])
  (.ghost (.kill [35, 36, 37, 38, 39, 40]) (.seq (.seq (.region [⟨(some 41), none, .move, [.tmp 8 false]⟩,
    ⟨(some 42), none, .move, [.tmp 12 false]⟩,
    ⟨(some 43), none, .move, [.tmp 10 false]⟩,
    ⟨(some 44), none, .move, [.tmp 13 false]⟩,
    ⟨(some 45), none, .call n_index_Index_Add false, [.tmp 41 false, .tmp 42 false, .tmp 43 false, .tmp 44 false]⟩,
    ⟨(some 46), none, .un .not, [.tmp 45 false]⟩])
  (.ghost (.kill [41, 42, 43, 44, 45]) (.cond (.tmp 46 false) (.seq (.region [⟨(some 6), none, .move, [.val (.bool false)]⟩])
   (.ghost (.kill [0, 2, 7, 8, 9, 10, 11, 12, 13, 46]) (.ret)))
   (.skip))))
  (.ghost (.kill [46]) (.seq (.region [⟨(some 47), none, .move, [.tmp 9 true]⟩,
    ⟨(some 48), none, .move, [.tmp 10 false]⟩,
    ⟨(some 49), none, .buildSlice 1 (.int .i64 0) 1 [0], [.tmp 48 false]⟩,
    ⟨(some 50), none, .append 1 8 false, [.tmp 47 true, .tmp 49 true]⟩,
    ⟨(some 9), none, .move, [.tmp 50 true]⟩])
  (.ghost (.kill [47, 48, 49, 50]) (.region [⟨(some 51), none, .move, [.tmp 10 false]⟩,
    ⟨(some 52), none, .move, [.tmp 13 false]⟩,
    ⟨(some 53), none, .bin .add .plain, [.tmp 51 false, .tmp 52 false]⟩,
    ⟨(some 54), none, .move, [.tmp 11 false]⟩,
    ⟨(some 55), none, .move, [.tmp 13 false]⟩,
    ⟨(some 56), none, .mm true, [.tmp 54 false, .tmp 55 false]⟩,
    ⟨(some 10), none, .move, [.tmp 53 false]⟩,
    ⟨(some 11), none, .move, [.tmp 56 false]⟩]))))))))
 (.ghost (.kill [13, 51, 52, 53, 54, 55, 56]) (.region [⟨(some 33), none, .move, [.tmp 12 false]⟩,
   ⟨(some 34), none, .bin .add .plain, [.tmp 33 false, .val (.int .i64 1)]⟩,
   ⟨(some 12), none, .move, [.tmp 34 false]⟩]))))
def k_law8_IndexFinds_0 : List Nat := [6, 13, 25, 26, 27, 28, 29, 30, 31, 32, 33, 34, 35, 36, 37, 38, 39, 40, 41, 42, 43, 44, 45, 46, 47, 48, 49, 50, 51, 52, 53, 54, 55, 56]
def l_law8_IndexFinds_1 : ACode := .seq (.seq (.region [⟨(some 74), none, .move, [.tmp 17 false]⟩,
   ⟨(some 75), none, .move, [.tmp 14 false]⟩,
   ⟨(some 76), none, .bin .leq .plain, [.tmp 74 false, .tmp 75 false]⟩])
 (.ghost (.kill [74, 75]) (.cond (.tmp 76 false) (.skip)
  (.ghost (.kill [17, 76]) (.exit 2)))))
 (.ghost (.kill [76]) (.seq (.block 3 (.region [⟨(some 79), none, .move, [.tmp 16 false]⟩,
    ⟨(some 80), none, .move, [.tmp 79 false]⟩,
    ⟨(some 81), (some (80, false)), .move, [.tmp 9 false]⟩,
    ⟨(some 82), (some (80, false)), .move, [.tmp 17 false]⟩,
    ⟨(some 83), (some (80, false)), .ixAddr 1, [.tmp 81 true, .tmp 82 false]⟩,
    ⟨(some 84), (some (80, false)), .load false 1 false, [.tmp 83 false]⟩,
    ⟨(some 85), (some (80, false)), .move, [.tmp 15 false]⟩,
    ⟨(some 86), (some (80, false)), .bin .eql .plain, [.tmp 84 false, .tmp 85 false]⟩,
    ⟨(some 87), none, .pick, [.tmp 80 false, .val (.bool true), .tmp 86 false]⟩,
    ⟨(some 16), none, .move, [.tmp 87 false]⟩]))
 (.ghost (.kill [79, 80, 81, 82, 83, 84, 85, 86, 87]) (.region [⟨(some 77), none, .move, [.tmp 17 false]⟩,
   ⟨(some 78), none, .bin .add .plain, [.tmp 77 false, .val (.int .i64 1)]⟩,
   ⟨(some 17), none, .move, [.tmp 78 false]⟩]))))
def k_law8_IndexFinds_1 : List Nat := [74, 75, 76, 77, 78, 79, 80, 81, 82, 83, 84, 85, 86, 87]
def c_law8_IndexFinds : AFunc := ⟨112, false, .seq (.region [⟨(some 6), none, .move, [.val (.bool false)]⟩])
 (.ghost (.kill [6]) (.seq (.region [⟨(some 18), none, .move, [.tmp 1 false]⟩,
   ⟨(some 19), none, .call n_book_Within false, [.tmp 18 false, .val (.int .i64 0), .val (.int .i64 100)]⟩,
   ⟨(some 20), none, .bin .add .plain, [.val (.int .i64 1), .tmp 19 false]⟩,
   ⟨(some 7), none, .move, [.tmp 20 false]⟩])
 (.ghost (.kill [1, 18, 19, 20]) (.seq (.region [⟨(some 21), none, .move, [.tmp 7 false]⟩,
   ⟨(some 22), none, .call n_index_New false, [.val (.int .i64 0), .tmp 21 false]⟩,
   ⟨(some 8), none, .move, [.tmp 22 false]⟩])
 (.ghost (.kill [21, 22]) (.seq (.seq (.region [⟨(some 23), none, .move, [.tmp 8 false]⟩,
   ⟨(some 24), none, .bin .eql .ptr, [.tmp 23 false, .val .nilp]⟩])
 (.ghost (.kill [23]) (.cond (.tmp 24 false) (.seq (.region [⟨(some 6), none, .move, [.val (.bool false)]⟩])
  (.ghost (.kill [0, 2, 7, 8, 24]) (.ret)))
  (.skip))))
 (.ghost (.kill [24]) (.seq (.region [⟨(some 9), none, .move, [.val (.list 1 [] .full)]⟩])
 (.seq (.region [⟨(some 10), none, .move, [.val (.int .i64 0)]⟩,
   ⟨(some 11), none, .move, [.val (.int .i64 0)]⟩])
 (.seq (.seq (.region [⟨(some 12), none, .move, [.val (.int .i64 0)]⟩])
 (.block 0 (.loop (.ghost (.kill k_law8_IndexFinds_0) l_law8_IndexFinds_0))))
 (.ghost (.kill [0, 6, 10, 11, 12, 13, 25, 26, 27, 28, 29, 30, 31, 32, 33, 34, 35, 36, 37, 38, 39, 40, 41, 42, 43, 44, 45, 46, 47, 48, 49, 50, 51, 52, 53, 54, 55, 56]) (.seq (.seq (.region [⟨(some 57), none, .move, [.tmp 9 false]⟩,
   ⟨(some 58), none, .len false, [.tmp 57 true]⟩,
   ⟨(some 59), none, .bin .eql .plain, [.tmp 58 false, .val (.int .i64 0)]⟩])
 (.ghost (.kill [57, 58]) (.cond (.tmp 59 false) (.seq (.regionS [(false, [⟨(some 60), none, .move, [.tmp 8 false]⟩,
    ⟨(some 61), none, .call n_index_Index_Find false, [.tmp 60 false, .val (.int .i64 5)]⟩,
    ⟨(some 62), none, .bin .eql .plain, [.tmp 61 false, .val (.int .i64 0)]⟩,
    ⟨(some 63), none, .move, [.tmp 62 false]⟩]),
    (true, [⟨(some 64), (some (63, true)), .call n_law8_known false, []⟩]),
    (false, [⟨(some 65), none, .pick, [.tmp 63 false, .tmp 64 false, .val (.bool false)]⟩,
    ⟨(some 6), none, .move, [.tmp 65 false]⟩])])
  (.ghost (.kill [2, 7, 8, 9, 59, 60, 61, 62, 63, 64, 65]) (.ret)))
  (.skip))))
 (.ghost (.kill [59]) (.seq (.region [⟨(some 66), none, .move, [.tmp 2 false]⟩,
   ⟨(some 67), none, .move, [.tmp 9 false]⟩,
   ⟨(some 68), none, .len false, [.tmp 67 true]⟩,
   ⟨(some 69), none, .bin .sub .plain, [.tmp 68 false, .val (.int .i64 1)]⟩,
   ⟨(some 70), none, .call n_book_Within false, [.tmp 66 false, .val (.int .i64 0), .tmp 69 false]⟩,
   ⟨(some 14), none, .move, [.tmp 70 false]⟩])
 (.ghost (.kill [2, 66, 67, 68, 69, 70]) (.seq (.region [⟨(some 71), none, .move, [.tmp 8 false]⟩,
   ⟨(some 72), none, .move, [.tmp 14 false]⟩,
   ⟨(some 73), none, .call n_index_Index_Find false, [.tmp 71 false, .tmp 72 false]⟩,
   ⟨(some 15), none, .move, [.tmp 73 false]⟩])
 (.ghost (.kill [71, 72, 73]) (.seq (.region [⟨(some 16), none, .move, [.val (.bool false)]⟩])
 (.seq (.seq (.region [⟨(some 17), none, .move, [.val (.int .i64 0)]⟩])
 (.block 2 (.loop (.ghost (.kill k_law8_IndexFinds_1) l_law8_IndexFinds_1))))
 (.ghost (.kill [17, 74, 75, 76, 77, 78, 79, 80, 81, 82, 83, 84, 85, 86, 87]) (.seq (.regionS [(false, [⟨(some 88), none, .move, [.tmp 16 false]⟩,
   ⟨(some 89), none, .move, [.tmp 88 false]⟩,
   ⟨(some 90), (some (89, true)), .move, [.tmp 9 true]⟩,
   ⟨(some 91), (some (89, true)), .move, [.tmp 14 false]⟩,
   ⟨(some 92), (some (89, true)), .ixAddr 1, [.tmp 90 true, .tmp 91 false]⟩,
   ⟨(some 93), (some (89, true)), .load false 1 false, [.tmp 92 false]⟩,
   ⟨(some 94), (some (89, true)), .move, [.tmp 15 false]⟩,
   ⟨(some 95), (some (89, true)), .bin .sub .plain, [.tmp 93 false, .tmp 94 false]⟩,
   ⟨(some 96), (some (89, true)), .move, [.tmp 7 false]⟩,
   ⟨(some 97), (some (89, true)), .bin .lss .plain, [.tmp 95 false, .tmp 96 false]⟩,
   ⟨(some 98), none, .pick, [.tmp 89 false, .tmp 97 false, .val (.bool false)]⟩,
   ⟨(some 99), none, .move, [.tmp 98 false]⟩,
   ⟨(some 100), (some (99, true)), .move, [.tmp 8 false]⟩,
   ⟨(some 101), (some (99, true)), .call n_index_Index_Bytes false, [.tmp 100 false]⟩,
   ⟨(some 102), (some (99, true)), .len false, [.tmp 101 true]⟩,
   ⟨(some 103), (some (99, true)), .move, [.tmp 8 false]⟩,
   ⟨(some 104), (some (99, true)), .call n_index_Index_Entries false, [.tmp 103 false]⟩,
   ⟨(some 105), (some (99, true)), .len false, [.tmp 104 true]⟩,
   ⟨(some 106), (some (99, true)), .bin .mul .plain, [.val (.int .i64 16), .tmp 105 false]⟩,
   ⟨(some 107), (some (99, true)), .bin .eql .plain, [.tmp 102 false, .tmp 106 false]⟩,
   ⟨(some 108), none, .pick, [.tmp 99 false, .tmp 107 false, .val (.bool false)]⟩,
   ⟨(some 109), none, .move, [.tmp 108 false]⟩]),
   (true, [⟨(some 110), (some (109, true)), .call n_law8_known false, []⟩]),
   (false, [⟨(some 111), none, .pick, [.tmp 109 false, .tmp 110 false, .val (.bool false)]⟩,
   ⟨(some 6), none, .move, [.tmp 111 false]⟩])])
 (.ghost (.kill [7, 8, 9, 14, 15, 16, 88, 89, 90, 91, 92, 93, 94, 95, 96, 97, 98, 99, 100, 101, 102, 103, 104, 105, 106, 107, 108, 109, 110, 111]) (.ret))))))))))))))))))))))), [.tmp 6]⟩
def l_law8_IndexAgain_0 : ACode := .seq (.seq (.region [⟨(some 22), none, .move, [.tmp 10 false]⟩,
   ⟨(some 23), none, .move, [.tmp 0 false]⟩,
   ⟨(some 24), none, .len false, [.tmp 23 true]⟩,
   ⟨(some 25), none, .bin .lss .plain, [.tmp 22 false, .tmp 24 false]⟩,
   ⟨(some 26), none, .move, [.tmp 25 false]⟩,
   ⟨(some 27), (some (26, true)), .move, [.tmp 10 false]⟩,
   ⟨(some 28), (some (26, true)), .bin .lss .plain, [.tmp 27 false, .val (.int .i64 40)]⟩,
   ⟨(some 29), none, .pick, [.tmp 26 false, .tmp 28 false, .val (.bool false)]⟩])
 (.ghost (.kill [22, 23, 24, 25, 26, 27, 28]) (.cond (.tmp 29 false) (.skip)
  (.ghost (.kill [0, 9, 10, 29]) (.exit 0)))))
 (.ghost (.kill [29]) (.seq (.block 1 (.seq (.region [⟨(some 32), none, .move, [.tmp 0 false]⟩,
    ⟨(some 33), none, .move, [.tmp 10 false]⟩,
    ⟨(some 34), none, .ixAddr 1, [.tmp 32 true, .tmp 33 false]⟩,
    ⟨(some 35), none, .load false 1 false, [.tmp 34 false]⟩,
    ⟨(some 36), none, .call n_book_Within false, [.tmp 35 false, .val (.int .i64 0), .val (.int .i64 50)]⟩,
    ⟨(some 37), none, .bin .add .plain, [.val (.int .i64 1), .tmp 36 false]⟩,
    ⟨(some 11), none, .move, [.tmp 37 false]⟩])
  (.ghost (.kill [32, 33, 34, 35, 36, 37]) (.seq (.seq (.region [⟨(some 38), none, .move, [.tmp 8 false]⟩,
    ⟨(some 39), none, .move, [.tmp 10 false]⟩,
    ⟨(some 40), none, .bin .mul .plain, [.val (.int .i64 2), .tmp 39 false]⟩,
    ⟨(some 41), none, .bin .add .plain, [.val (.int .i64 3), .tmp 40 false]⟩,
    ⟨(some 42), none, .move, [.tmp 9 false]⟩,
    ⟨(some 43), none, .move, [.tmp 11 false]⟩,
    ⟨(some 44), none, .call n_index_Index_Add false, [.tmp 38 false, .tmp 41 false, .tmp 42 false, .tmp 43 false]⟩,
    ⟨(some 45), none, .un .not, [.tmp 44 false]⟩,
    ⟨(some 46), none, .move, [.tmp 45 false]⟩,
    ⟨(some 47), (some (46, false)), .move, [.tmp 8 false]⟩,
    ⟨(some 48), (some (46, false)), .move, [.tmp 10 false]⟩,
    ⟨(some 49), (some (46, false)), .bin .mul .plain, [.val (.int .i64 2), .tmp 48 false]⟩,
    ⟨(some 50), (some (46, false)), .bin .add .plain, [.val (.int .i64 3), .tmp 49 false]⟩,
    ⟨(some 51), (some (46, false)), .move, [.tmp 9 false]⟩,
    ⟨(some 52), (some (46, false)), .move, [.tmp 11 false]⟩,
    ⟨(some 53), (some (46, false)), .bin .add .plain, [.tmp 51 false, .tmp 52 false]⟩,
    ⟨(some 54), (some (46, false)), .call n_index_Index_Add false, [.tmp 47 false, .tmp 50 false, .tmp 53 false, .val (.int .i64 1)]⟩,
    ⟨(some 55), none, .pick, [.tmp 46 false, .val (.bool true), .tmp 54 false]⟩])
  (.ghost (.kill [38, 39, 40, 41, 42, 43, 44, 45, 46, 47, 48, 49, 50, 51, 52, 53, 54]) (.cond (.tmp 55 false) (.seq (.region [⟨(some 6), none, .move, [.val (.bool false)]⟩])
   (.ghost (.kill [0, 2, 7, 8, 9, 10, 11, 55]) (.ret)))
   (.skip))))
  (.ghost (.kill [55]) (.region [⟨(some 56), none, .move, [.tmp 9 false]⟩,
    ⟨(some 57), none, .move, [.tmp 11 false]⟩,
    ⟨(some 58), none, .bin .add .plain, [.tmp 56 false, .tmp 57 false]⟩,
    ⟨(some 9), none, .move, [.tmp 58 false]⟩]))))))
 (.ghost (.kill [11, 56, 57, 58]) (.region [⟨(some 30), none, .move, [.tmp 10 false]⟩,
   ⟨(some 31), none, .bin .add .plain, [.tmp 30 false, .val (.int .i64 1)]⟩,
   ⟨(some 10), none, .move, [.tmp 31 false]⟩]))))
def k_law8_IndexAgain_0 : List Nat := [6, 11, 22, 23, 24, 25, 26, 27, 28, 29, 30, 31, 32, 33, 34, 35, 36, 37, 38, 39, 40, 41, 42, 43, 44, 45, 46, 47, 48, 49, 50, 51, 52, 53, 54, 55, 56, 57, 58]
def l_law8_IndexAgain_1 : ACode := .seq (.seq (.region [⟨(some 72), none, .move, [.tmp 14 false]⟩,
   ⟨(some 73), none, .move, [.tmp 2 false]⟩,
   ⟨(some 74), none, .len false, [.tmp 73 true]⟩,
   ⟨(some 75), none, .bin .lss .plain, [.tmp 72 false, .tmp 74 false]⟩,
   ⟨(some 76), none, .move, [.tmp 75 false]⟩,
   ⟨(some 77), (some (76, true)), .move, [.tmp 14 false]⟩,
   ⟨(some 78), (some (76, true)), .bin .lss .plain, [.tmp 77 false, .val (.int .i64 30)]⟩,
   ⟨(some 79), none, .pick, [.tmp 76 false, .tmp 78 false, .val (.bool false)]⟩])
 (.ghost (.kill [72, 73, 74, 75, 76, 77, 78]) (.cond (.tmp 79 false) (.skip)
  (.ghost (.kill [2, 12, 14, 79]) (.exit 2)))))
 (.ghost (.kill [79]) (.seq (.block 3 (.seq (.draw [(⟨(some 82), none, .move, [.tmp 8 false]⟩, ⟨false, []⟩),
    (⟨(some 83), none, .move, [.tmp 2 false]⟩, ⟨false, []⟩),
    (⟨(some 84), none, .move, [.tmp 14 false]⟩, ⟨false, []⟩),
    (⟨(some 85), none, .ixAddr 1, [.tmp 83 true, .tmp 84 false]⟩, ⟨false, []⟩),
    (⟨(some 86), none, .load false 1 false, [.tmp 85 false]⟩, ⟨false, []⟩),
    (⟨(some 87), none, .call n_index_Index_Find false, [.tmp 82 false, .tmp 86 false]⟩, ⟨true, []⟩),
    (⟨(some 88), none, .move, [.tmp 12 false]⟩, ⟨false, [5]⟩),
    (⟨(some 89), none, .move, [.tmp 2 false]⟩, ⟨false, [5]⟩),
    (⟨(some 90), none, .move, [.tmp 14 false]⟩, ⟨false, [5]⟩),
    (⟨(some 91), none, .ixAddr 1, [.tmp 89 true, .tmp 90 false]⟩, ⟨false, [5]⟩),
    (⟨(some 92), none, .load false 1 false, [.tmp 91 false]⟩, ⟨false, [5]⟩),
    (⟨(some 93), none, .call n_index_Index_Find false, [.tmp 88 false, .tmp 92 false]⟩, ⟨true, []⟩),
    (⟨(some 94), none, .bin .neq .plain, [.tmp 87 false, .tmp 93 false]⟩, ⟨false, []⟩),
    (⟨(some 95), none, .move, [.tmp 94 false]⟩, ⟨false, []⟩),
    (⟨(some 96), (some (95, false)), .move, [.tmp 8 false]⟩, ⟨false, []⟩),
    (⟨(some 97), (some (95, false)), .move, [.tmp 2 false]⟩, ⟨false, []⟩),
    (⟨(some 98), (some (95, false)), .move, [.tmp 14 false]⟩, ⟨false, []⟩),
    (⟨(some 99), (some (95, false)), .ixAddr 1, [.tmp 97 true, .tmp 98 false]⟩, ⟨false, []⟩),
    (⟨(some 100), (some (95, false)), .load false 1 false, [.tmp 99 false]⟩, ⟨false, []⟩),
    (⟨(some 101), (some (95, false)), .bin .and .plain, [.tmp 100 false, .val (.int .i64 127)]⟩, ⟨false, []⟩),
    (⟨(some 102), (some (95, false)), .call n_index_Index_Find false, [.tmp 96 false, .tmp 101 false]⟩, ⟨true, []⟩),
    (⟨(some 103), (some (95, false)), .move, [.tmp 12 false]⟩, ⟨false, [20]⟩),
    (⟨(some 104), (some (95, false)), .move, [.tmp 2 false]⟩, ⟨false, [20]⟩),
    (⟨(some 105), (some (95, false)), .move, [.tmp 14 false]⟩, ⟨false, [20]⟩),
    (⟨(some 106), (some (95, false)), .ixAddr 1, [.tmp 104 true, .tmp 105 false]⟩, ⟨false, [20]⟩),
    (⟨(some 107), (some (95, false)), .load false 1 false, [.tmp 106 false]⟩, ⟨false, [20]⟩),
    (⟨(some 108), (some (95, false)), .bin .and .plain, [.tmp 107 false, .val (.int .i64 127)]⟩, ⟨false, [20]⟩),
    (⟨(some 109), (some (95, false)), .call n_index_Index_Find false, [.tmp 103 false, .tmp 108 false]⟩, ⟨true, []⟩),
    (⟨(some 110), (some (95, false)), .bin .neq .plain, [.tmp 102 false, .tmp 109 false]⟩, ⟨false, []⟩),
    (⟨(some 111), none, .pick, [.tmp 95 false, .val (.bool true), .tmp 110 false]⟩, ⟨false, []⟩)])
  (.ghost (.kill [82, 83, 84, 85, 86, 87, 88, 89, 90, 91, 92, 93, 94, 95, 96, 97, 98, 99, 100, 101, 102, 103, 104, 105, 106, 107, 108, 109, 110]) (.cond (.tmp 111 false) (.seq (.region [⟨(some 6), none, .move, [.val (.bool false)]⟩])
   (.ghost (.kill [2, 8, 12, 14, 111]) (.ret)))
   (.skip)))))
 (.ghost (.kill [111]) (.region [⟨(some 80), none, .move, [.tmp 14 false]⟩,
   ⟨(some 81), none, .bin .add .plain, [.tmp 80 false, .val (.int .i64 1)]⟩,
   ⟨(some 14), none, .move, [.tmp 81 false]⟩]))))
def k_law8_IndexAgain_1 : List Nat := [6, 72, 73, 74, 75, 76, 77, 78, 79, 80, 81, 82, 83, 84, 85, 86, 87, 88, 89, 90, 91, 92, 93, 94, 95, 96, 97, 98, 99, 100, 101, 102, 103, 104, 105, 106, 107, 108, 109, 110, 111]
def c_law8_IndexAgain : AFunc := ⟨118, false, .seq (.region [⟨(some 6), none, .move, [.val (.bool false)]⟩])
 (.ghost (.kill [6]) (.seq (.region [⟨(some 15), none, .move, [.tmp 1 false]⟩,
   ⟨(some 16), none, .call n_book_Within false, [.tmp 15 false, .val (.int .i64 0), .val (.int .i64 90)]⟩,
   ⟨(some 17), none, .bin .add .plain, [.val (.int .i64 1), .tmp 16 false]⟩,
   ⟨(some 7), none, .move, [.tmp 17 false]⟩])
 (.ghost (.kill [1, 15, 16, 17]) (.seq (.region [⟨(some 18), none, .move, [.tmp 7 false]⟩,
   ⟨(some 19), none, .call n_index_New false, [.val (.int .i64 3), .tmp 18 false]⟩,
   ⟨(some 8), none, .move, [.tmp 19 false]⟩])
 (.ghost (.kill [18, 19]) (.seq (.seq (.region [⟨(some 20), none, .move, [.tmp 8 false]⟩,
   ⟨(some 21), none, .bin .eql .ptr, [.tmp 20 false, .val .nilp]⟩])
 (.ghost (.kill [20]) (.cond (.tmp 21 false) (.seq (.region [⟨(some 6), none, .move, [.val (.bool false)]⟩])
  (.ghost (.kill [0, 2, 7, 8, 21]) (.ret)))
  (.skip))))
 (.ghost (.kill [21]) (.seq (.region [⟨(some 9), none, .move, [.val (.int .i64 0)]⟩])
 (.seq (.seq (.region [⟨(some 10), none, .move, [.val (.int .i64 0)]⟩])
 (.block 0 (.loop (.ghost (.kill k_law8_IndexAgain_0) l_law8_IndexAgain_0))))
 (.ghost (.kill [0, 6, 9, 10, 11, 22, 23, 24, 25, 26, 27, 28, 29, 30, 31, 32, 33, 34, 35, 36, 37, 38, 39, 40, 41, 42, 43, 44, 45, 46, 47, 48, 49, 50, 51, 52, 53, 54, 55, 56, 57, 58]) (.seq (.region [⟨(some 60), none, .move, [.tmp 7 false]⟩,
   ⟨(some 61), none, .move, [.tmp 8 false]⟩,
   ⟨(some 62), none, .call n_index_Index_Bytes false, [.tmp 61 false]⟩,
   ⟨(some 63), none, .call n_index_Read false, [.val (.int .i64 3), .tmp 60 false, .tmp 62 true]⟩,
   ⟨(some 59), none, .move, [.tmp 63 false]⟩,
   ⟨(some 64), none, .move, [.proj 59 0 false]⟩,
   ⟨(some 65), none, .move, [.proj 59 1 false]⟩,
   ⟨(some 12), none, .move, [.tmp 64 false]⟩,
   ⟨(some 13), none, .move, [.tmp 65 false]⟩])
 (.ghost (.kill [7, 59, 60, 61, 62, 63, 64, 65]) (.seq (.seq (.region [⟨(some 66), none, .move, [.tmp 13 false]⟩,
   ⟨(some 67), none, .un .not, [.tmp 66 false]⟩,
   ⟨(some 68), none, .move, [.tmp 67 false]⟩,
   ⟨(some 69), (some (68, false)), .move, [.tmp 12 false]⟩,
   ⟨(some 70), (some (68, false)), .bin .eql .ptr, [.tmp 69 false, .val .nilp]⟩,
   ⟨(some 71), none, .pick, [.tmp 68 false, .val (.bool true), .tmp 70 false]⟩])
 (.ghost (.kill [13, 66, 67, 68, 69, 70]) (.cond (.tmp 71 false) (.seq (.region [⟨(some 6), none, .move, [.val (.bool false)]⟩])
  (.ghost (.kill [2, 8, 12, 71]) (.ret)))
  (.skip))))
 (.ghost (.kill [71]) (.seq (.seq (.region [⟨(some 14), none, .move, [.val (.int .i64 0)]⟩])
 (.block 2 (.loop (.ghost (.kill k_law8_IndexAgain_1) l_law8_IndexAgain_1))))
 (.ghost (.kill [2, 6, 12, 14, 72, 73, 74, 75, 76, 77, 78, 79, 80, 81, 82, 83, 84, 85, 86, 87, 88, 89, 90, 91, 92, 93, 94, 95, 96, 97, 98, 99, 100, 101, 102, 103, 104, 105, 106, 107, 108, 109, 110, 111]) (.seq (.regionS [(false, [⟨(some 112), none, .move, [.tmp 8 false]⟩,
   ⟨(some 113), none, .call n_index_Index_Find false, [.tmp 112 false, .val (.int .i64 (-1))]⟩,
   ⟨(some 114), none, .bin .eql .plain, [.tmp 113 false, .val (.int .i64 0)]⟩,
   ⟨(some 115), none, .move, [.tmp 114 false]⟩]),
   (true, [⟨(some 116), (some (115, true)), .call n_law8_known false, []⟩]),
   (false, [⟨(some 117), none, .pick, [.tmp 115 false, .tmp 116 false, .val (.bool false)]⟩,
   ⟨(some 6), none, .move, [.tmp 117 false]⟩])])
 (.ghost (.kill [8, 112, 113, 114, 115, 116, 117]) (.ret))))))))))))))))))), [.tmp 6]⟩
def l_law8_IndexOrder_0 : ACode := .seq (.seq (.region [⟨(some 25), none, .move, [.tmp 12 false]⟩,
   ⟨(some 26), none, .move, [.tmp 0 false]⟩,
   ⟨(some 27), none, .len false, [.tmp 26 true]⟩,
   ⟨(some 28), none, .bin .lss .plain, [.tmp 25 false, .tmp 27 false]⟩,
   ⟨(some 29), none, .move, [.tmp 28 false]⟩,
   ⟨(some 30), (some (29, true)), .move, [.tmp 12 false]⟩,
   ⟨(some 31), (some (29, true)), .bin .lss .plain, [.tmp 30 false, .val (.int .i64 40)]⟩,
   ⟨(some 32), none, .pick, [.tmp 29 false, .tmp 31 false, .val (.bool false)]⟩])
 (.ghost (.kill [25, 26, 27, 28, 29, 30, 31]) (.cond (.tmp 32 false) (.skip)
  (.ghost (.kill [11, 12, 32]) (.exit 0)))))
 (.ghost (.kill [32]) (.seq (.block 1 (.seq (.region [⟨(some 35), none, .move, [.tmp 0 false]⟩,
    ⟨(some 36), none, .move, [.tmp 12 false]⟩,
    ⟨(some 37), none, .ixAddr 1, [.tmp 35 true, .tmp 36 false]⟩,
    ⟨(some 38), none, .load false 1 false, [.tmp 37 false]⟩,
    ⟨(some 39), none, .call n_book_Within false, [.tmp 38 false, .val (.int .i64 0), .val (.int .i64 50)]⟩,
    ⟨(some 40), none, .bin .add .plain, [.val (.int .i64 1), .tmp 39 false]⟩,
    ⟨(some 13), none, .move, [.tmp 40 false]⟩])
  (.ghost (.kill [35, 36, 37, 38, 39, 40]) (.seq (.region [⟨(some 41), none, .move, [.tmp 10 false]⟩,
    ⟨(some 42), none, .move, [.tmp 12 false]⟩,
    ⟨(some 43), none, .move, [.tmp 11 false]⟩,
    ⟨(some 44), none, .move, [.tmp 13 false]⟩,
    ⟨(some 45), none, .call n_index_Index_Add false, [.tmp 41 false, .tmp 42 false, .tmp 43 false, .tmp 44 false]⟩])
  (.ghost (.kill [41, 42, 43, 44, 45]) (.region [⟨(some 46), none, .move, [.tmp 11 false]⟩,
    ⟨(some 47), none, .move, [.tmp 13 false]⟩,
    ⟨(some 48), none, .bin .add .plain, [.tmp 46 false, .tmp 47 false]⟩,
    ⟨(some 11), none, .move, [.tmp 48 false]⟩]))))))
 (.ghost (.kill [13, 46, 47, 48]) (.region [⟨(some 33), none, .move, [.tmp 12 false]⟩,
   ⟨(some 34), none, .bin .add .plain, [.tmp 33 false, .val (.int .i64 1)]⟩,
   ⟨(some 12), none, .move, [.tmp 34 false]⟩]))))
def k_law8_IndexOrder_0 : List Nat := [13, 25, 26, 27, 28, 29, 30, 31, 32, 33, 34, 35, 36, 37, 38, 39, 40, 41, 42, 43, 44, 45, 46, 47, 48]
def l_law8_IndexOrder_1 : ACode := .seq (.region [⟨(some 54), none, .bin .lss .plain, [.tmp 53 false, .tmp 52 false]⟩])
 (.seq (.cond (.tmp 54 false) (.skip)
  (.ghost (.kill [9, 52, 53, 54]) (.exit 2)))
 (.ghost (.kill [54]) (.seq (.block 3 (.seq (.region [⟨(some 55), none, .move, [.tmp 53 false]⟩,
    ⟨(some 15), none, .move, [.tmp 55 false]⟩])
  (.ghost (.kill [55]) (.seq (.draw [(⟨(some 56), none, .move, [.tmp 15 false]⟩, ⟨false, []⟩),
    (⟨(some 57), none, .bin .gtr .plain, [.tmp 56 false, .val (.int .i64 0)]⟩, ⟨false, []⟩),
    (⟨(some 58), none, .move, [.tmp 57 false]⟩, ⟨false, []⟩),
    (⟨(some 59), (some (58, true)), .move, [.tmp 14 false]⟩, ⟨false, []⟩),
    (⟨(some 60), (some (58, true)), .move, [.tmp 15 false]⟩, ⟨false, []⟩),
    (⟨(some 61), (some (58, true)), .ixAddr 2, [.tmp 59 true, .tmp 60 false]⟩, ⟨false, []⟩),
    (⟨(some 62), (some (58, true)), .addOff 0, [.tmp 61 false]⟩, ⟨false, []⟩),
    (⟨(some 63), (some (58, true)), .load false 1 false, [.tmp 62 false]⟩, ⟨false, []⟩),
    (⟨(some 64), (some (58, true)), .move, [.tmp 14 false]⟩, ⟨false, []⟩),
    (⟨(some 65), (some (58, true)), .move, [.tmp 15 false]⟩, ⟨false, []⟩),
    (⟨(some 66), (some (58, true)), .bin .sub .plain, [.tmp 65 false, .val (.int .i64 1)]⟩, ⟨false, []⟩),
    (⟨(some 67), (some (58, true)), .ixAddr 2, [.tmp 64 true, .tmp 66 false]⟩, ⟨false, []⟩),
    (⟨(some 68), (some (58, true)), .addOff 0, [.tmp 67 false]⟩, ⟨false, []⟩),
    (⟨(some 69), (some (58, true)), .load false 1 false, [.tmp 68 false]⟩, ⟨false, []⟩),
    (⟨(some 70), (some (58, true)), .bin .leq .plain, [.tmp 63 false, .tmp 69 false]⟩, ⟨false, []⟩),
    (⟨(some 71), (some (58, true)), .move, [.tmp 70 false]⟩, ⟨false, []⟩),
    (⟨(some 72), (some (71, false)), .move, [.tmp 14 false]⟩, ⟨false, []⟩),
    (⟨(some 73), (some (71, false)), .move, [.tmp 15 false]⟩, ⟨false, []⟩),
    (⟨(some 74), (some (71, false)), .ixAddr 2, [.tmp 72 true, .tmp 73 false]⟩, ⟨false, []⟩),
    (⟨(some 75), (some (71, false)), .addOff 1, [.tmp 74 false]⟩, ⟨false, []⟩),
    (⟨(some 76), (some (71, false)), .load false 1 false, [.tmp 75 false]⟩, ⟨false, []⟩),
    (⟨(some 77), (some (71, false)), .move, [.tmp 14 false]⟩, ⟨false, []⟩),
    (⟨(some 78), (some (71, false)), .move, [.tmp 15 false]⟩, ⟨false, []⟩),
    (⟨(some 79), (some (71, false)), .bin .sub .plain, [.tmp 78 false, .val (.int .i64 1)]⟩, ⟨false, []⟩),
    (⟨(some 80), (some (71, false)), .ixAddr 2, [.tmp 77 true, .tmp 79 false]⟩, ⟨false, []⟩),
    (⟨(some 81), (some (71, false)), .addOff 1, [.tmp 80 false]⟩, ⟨false, []⟩),
    (⟨(some 82), (some (71, false)), .load false 1 false, [.tmp 81 false]⟩, ⟨false, []⟩),
    (⟨(some 83), (some (71, false)), .bin .sub .plain, [.tmp 76 false, .tmp 82 false]⟩, ⟨false, []⟩),
    (⟨(some 84), (some (71, false)), .move, [.tmp 9 false]⟩, ⟨false, []⟩),
    (⟨(some 85), (some (71, false)), .bin .lss .plain, [.tmp 83 false, .tmp 84 false]⟩, ⟨false, []⟩),
    (⟨(some 86), (some (58, true)), .pick, [.tmp 71 false, .val (.bool true), .tmp 85 false]⟩, ⟨false, []⟩),
    (⟨(some 87), none, .pick, [.tmp 58 false, .tmp 86 false, .val (.bool false)]⟩, ⟨false, []⟩)])
  (.ghost (.kill [15, 56, 57, 58, 59, 60, 61, 62, 63, 64, 65, 66, 67, 68, 69, 70, 71, 72, 73, 74, 75, 76, 77, 78, 79, 80, 81, 82, 83, 84, 85, 86]) (.cond (.tmp 87 false) (.seq (.region [⟨(some 8), none, .move, [.val (.bool false)]⟩])
   (.ghost (.kill [0, 2, 3, 9, 10, 14, 52, 53, 87]) (.ret)))
   (.skip)))))))
 (.ghost (.kill [87]) (.region [⟨(some 88), none, .bin .add .plain, [.tmp 53 false, .val (.int .i64 1)]⟩,
   ⟨(some 53), none, .move, [.tmp 88 false]⟩])))))
def k_law8_IndexOrder_1 : List Nat := [8, 15, 54, 55, 56, 57, 58, 59, 60, 61, 62, 63, 64, 65, 66, 67, 68, 69, 70, 71, 72, 73, 74, 75, 76, 77, 78, 79, 80, 81, 82, 83, 84, 85, 86, 87, 88]
def c_law8_IndexOrder : AFunc := ⟨117, false, .seq (.region [⟨(some 8), none, .move, [.val (.bool false)]⟩])
 (.ghost (.kill [8]) (.seq (.region [⟨(some 18), none, .move, [.tmp 1 false]⟩,
   ⟨(some 19), none, .call n_book_Within false, [.tmp 18 false, .val (.int .i64 0), .val (.int .i64 90)]⟩,
   ⟨(some 20), none, .bin .add .plain, [.val (.int .i64 1), .tmp 19 false]⟩,
   ⟨(some 9), none, .move, [.tmp 20 false]⟩])
 (.ghost (.kill [1, 18, 19, 20]) (.seq (.region [⟨(some 21), none, .move, [.tmp 9 false]⟩,
   ⟨(some 22), none, .call n_index_New false, [.val (.int .i64 0), .tmp 21 false]⟩,
   ⟨(some 10), none, .move, [.tmp 22 false]⟩])
 (.ghost (.kill [21, 22]) (.seq (.seq (.region [⟨(some 23), none, .move, [.tmp 10 false]⟩,
   ⟨(some 24), none, .bin .eql .ptr, [.tmp 23 false, .val .nilp]⟩])
 (.ghost (.kill [23]) (.cond (.tmp 24 false) (.seq (.region [⟨(some 8), none, .move, [.val (.bool false)]⟩])
  (.ghost (.kill [0, 2, 3, 9, 10, 24]) (.ret)))
  (.skip))))
 (.ghost (.kill [24]) (.seq (.region [⟨(some 11), none, .move, [.val (.int .i64 0)]⟩])
 (.seq (.seq (.region [⟨(some 12), none, .move, [.val (.int .i64 0)]⟩])
 (.block 0 (.loop (.ghost (.kill k_law8_IndexOrder_0) l_law8_IndexOrder_0))))
 (.ghost (.kill [11, 12, 13, 25, 26, 27, 28, 29, 30, 31, 32, 33, 34, 35, 36, 37, 38, 39, 40, 41, 42, 43, 44, 45, 46, 47, 48]) (.seq (.region [⟨(some 49), none, .move, [.tmp 10 false]⟩,
   ⟨(some 50), none, .call n_index_Index_Entries false, [.tmp 49 false]⟩,
   ⟨(some 14), none, .move, [.tmp 50 true]⟩])
 (.ghost (.kill [49, 50]) (.seq (.seq (.region [⟨(some 51), none, .move, [.tmp 14 false]⟩,
   ⟨(some 52), none, .len false, [.tmp 51 true]⟩,
   ⟨(some 53), none, .move, [.val (.int .i64 0)]⟩])
 (.ghost (.kill [51]) (.block 2 (.loop (.ghost (.kill k_law8_IndexOrder_1) l_law8_IndexOrder_1)))))
 (.ghost (.kill [8, 9, 15, 52, 53, 54, 55, 56, 57, 58, 59, 60, 61, 62, 63, 64, 65, 66, 67, 68, 69, 70, 71, 72, 73, 74, 75, 76, 77, 78, 79, 80, 81, 82, 83, 84, 85, 86, 87, 88]) (.seq (.region [⟨(some 89), none, .move, [.tmp 2 false]⟩,
   ⟨(some 90), none, .bin .and .plain, [.tmp 89 false, .val (.int .i64 63)]⟩,
   ⟨(some 91), none, .move, [.tmp 3 false]⟩,
   ⟨(some 92), none, .bin .and .plain, [.tmp 91 false, .val (.int .i64 63)]⟩,
   ⟨(some 16), none, .move, [.tmp 90 false]⟩,
   ⟨(some 17), none, .move, [.tmp 92 false]⟩])
 (.ghost (.kill [2, 3, 89, 90, 91, 92]) (.seq (.regionS [(false, [⟨(some 93), none, .move, [.tmp 16 false]⟩,
   ⟨(some 94), none, .move, [.tmp 17 false]⟩,
   ⟨(some 95), none, .bin .gtr .plain, [.tmp 93 false, .tmp 94 false]⟩,
   ⟨(some 96), none, .move, [.tmp 95 false]⟩,
   ⟨(some 97), (some (96, false)), .move, [.tmp 10 false]⟩,
   ⟨(some 98), (some (96, false)), .move, [.tmp 16 false]⟩,
   ⟨(some 99), (some (96, false)), .call n_index_Index_Find false, [.tmp 97 false, .tmp 98 false]⟩,
   ⟨(some 100), (some (96, false)), .move, [.tmp 10 false]⟩,
   ⟨(some 101), (some (96, false)), .move, [.tmp 17 false]⟩,
   ⟨(some 102), (some (96, false)), .call n_index_Index_Find false, [.tmp 100 false, .tmp 101 false]⟩,
   ⟨(some 103), (some (96, false)), .bin .leq .plain, [.tmp 99 false, .tmp 102 false]⟩,
   ⟨(some 104), none, .pick, [.tmp 96 false, .val (.bool true), .tmp 103 false]⟩,
   ⟨(some 105), none, .move, [.tmp 104 false]⟩,
   ⟨(some 106), (some (105, true)), .move, [.tmp 0 true]⟩,
   ⟨(some 107), (some (105, true)), .len false, [.tmp 106 true]⟩,
   ⟨(some 108), (some (105, true)), .bin .eql .plain, [.tmp 107 false, .val (.int .i64 0)]⟩,
   ⟨(some 109), (some (105, true)), .move, [.tmp 14 true]⟩,
   ⟨(some 110), (some (105, true)), .len false, [.tmp 109 true]⟩,
   ⟨(some 111), (some (105, true)), .bin .eql .plain, [.tmp 110 false, .val (.int .i64 0)]⟩,
   ⟨(some 112), (some (105, true)), .bin .eql .bool, [.tmp 108 false, .tmp 111 false]⟩,
   ⟨(some 113), none, .pick, [.tmp 105 false, .tmp 112 false, .val (.bool false)]⟩,
   ⟨(some 114), none, .move, [.tmp 113 false]⟩]),
   (true, [⟨(some 115), (some (114, true)), .call n_law8_known false, []⟩]),
   (false, [⟨(some 116), none, .pick, [.tmp 114 false, .tmp 115 false, .val (.bool false)]⟩,
   ⟨(some 8), none, .move, [.tmp 116 false]⟩])])
 (.ghost (.kill [0, 10, 14, 16, 17, 93, 94, 95, 96, 97, 98, 99, 100, 101, 102, 103, 104, 105, 106, 107, 108, 109, 110, 111, 112, 113, 114, 115, 116]) (.ret))))))))))))))))))), [.tmp 8]⟩
def c_book_Within : AFunc := ⟨33, false, .seq (.region [⟨(some 6), none, .move, [.val (.int .i64 0)]⟩])
 (.ghost (.kill [6]) (.seq (.seq (.region [⟨(some 7), none, .move, [.tmp 0 false]⟩,
   ⟨(some 8), none, .move, [.tmp 1 false]⟩,
   ⟨(some 9), none, .bin .geq .plain, [.tmp 7 false, .tmp 8 false]⟩,
   ⟨(some 10), none, .move, [.tmp 9 false]⟩,
   ⟨(some 11), (some (10, true)), .move, [.tmp 0 false]⟩,
   ⟨(some 12), (some (10, true)), .move, [.tmp 2 false]⟩,
   ⟨(some 13), (some (10, true)), .bin .leq .plain, [.tmp 11 false, .tmp 12 false]⟩,
   ⟨(some 14), none, .pick, [.tmp 10 false, .tmp 13 false, .val (.bool false)]⟩])
 (.ghost (.kill [7, 8, 9, 10, 11, 12, 13]) (.cond (.tmp 14 false) (.seq (.region [⟨(some 15), none, .move, [.tmp 0 false]⟩,
    ⟨(some 6), none, .move, [.tmp 15 false]⟩])
  (.ghost (.kill [0, 1, 2, 14, 15]) (.ret)))
  (.skip))))
 (.ghost (.kill [14]) (.seq (.region [⟨(some 16), none, .move, [.tmp 0 false]⟩,
   ⟨(some 17), none, .move, [.tmp 2 false]⟩,
   ⟨(some 18), none, .move, [.tmp 1 false]⟩,
   ⟨(some 19), none, .bin .sub .plain, [.tmp 17 false, .tmp 18 false]⟩,
   ⟨(some 20), none, .bin .add .plain, [.tmp 19 false, .val (.int .i64 1)]⟩,
   ⟨(some 21), none, .bin .rem .plain, [.tmp 16 false, .tmp 20 false]⟩,
   ⟨(some 0), none, .move, [.tmp 21 false]⟩])
 (.ghost (.kill [16, 17, 18, 19, 20, 21]) (.seq (.seq (.region [⟨(some 22), none, .move, [.tmp 0 false]⟩,
   ⟨(some 23), none, .bin .lss .plain, [.tmp 22 false, .val (.int .i64 0)]⟩])
 (.ghost (.kill [22]) (.cond (.tmp 23 false) (.region [⟨(some 24), none, .move, [.tmp 0 false]⟩,
    ⟨(some 25), none, .move, [.tmp 2 false]⟩,
    ⟨(some 26), none, .bin .add .plain, [.tmp 24 false, .tmp 25 false]⟩,
    ⟨(some 27), none, .move, [.tmp 1 false]⟩,
    ⟨(some 28), none, .bin .sub .plain, [.tmp 26 false, .tmp 27 false]⟩,
    ⟨(some 29), none, .bin .add .plain, [.tmp 28 false, .val (.int .i64 1)]⟩,
    ⟨(some 0), none, .move, [.tmp 29 false]⟩])
  (.skip))))
 (.ghost (.kill [2, 23, 24, 25, 26, 27, 28, 29]) (.seq (.region [⟨(some 30), none, .move, [.tmp 1 false]⟩,
   ⟨(some 31), none, .move, [.tmp 0 false]⟩,
   ⟨(some 32), none, .bin .add .plain, [.tmp 30 false, .tmp 31 false]⟩,
   ⟨(some 6), none, .move, [.tmp 32 false]⟩])
 (.ghost (.kill [0, 1, 30, 31, 32]) (.ret)))))))))), [.tmp 6]⟩
def l_law8_play_0 : ACode := .seq (.seq (.region [⟨(some 36), none, .move, [.tmp 9 false]⟩,
   ⟨(some 37), none, .move, [.tmp 2 false]⟩,
   ⟨(some 38), none, .len false, [.tmp 37 true]⟩,
   ⟨(some 39), none, .bin .lss .plain, [.tmp 36 false, .tmp 38 false]⟩,
   ⟨(some 40), none, .move, [.tmp 39 false]⟩,
   ⟨(some 41), (some (40, true)), .move, [.tmp 9 false]⟩,
   ⟨(some 42), (some (40, true)), .bin .lss .plain, [.tmp 41 false, .val (.int .i64 80)]⟩,
   ⟨(some 43), none, .pick, [.tmp 40 false, .tmp 42 false, .val (.bool false)]⟩])
 (.ghost (.kill [36, 37, 38, 39, 40, 41, 42]) (.cond (.tmp 43 false) (.skip)
  (.ghost (.kill [2, 9, 43]) (.exit 0)))))
 (.ghost (.kill [43]) (.seq (.block 1 (.seq (.region [⟨(some 46), none, .move, [.tmp 2 false]⟩,
    ⟨(some 47), none, .move, [.tmp 9 false]⟩,
    ⟨(some 48), none, .ixAddr 4, [.tmp 46 true, .tmp 47 false]⟩,
    ⟨(some 49), none, .load true 4 false, [.tmp 48 false]⟩,
    ⟨(some 10), none, .alloc [.int .i64 0, .int .i64 0, .int .i64 0, .int .i64 0], []⟩,
    ⟨none, none, .store 4, [.tmp 10 false, .tmp 49 false]⟩])
  (.ghost (.kill [46, 47, 48, 49]) (.seq (.seq (.region [⟨(some 50), none, .move, [.tmp 7 false]⟩,
    ⟨(some 51), none, .bin .eql .ptr, [.tmp 50 false, .val .nilp]⟩])
  (.ghost (.kill [50]) (.cond (.tmp 51 false) (.seq (.region [⟨(some 6), none, .move, [.val (.bool false)]⟩])
   (.ghost (.kill [0, 1, 2, 7, 8, 9, 10, 51]) (.ret)))
   (.skip))))
  (.ghost (.kill [51]) (.seq (.seq (.region [⟨(some 52), none, .addOff 0, [.tmp 10 false]⟩,
    ⟨(some 53), none, .load false 1 false, [.tmp 52 false]⟩,
    ⟨(some 54), none, .bin .eql .plain, [.tmp 53 false, .val (.int .i64 4)]⟩])
  (.ghost (.kill [52, 53]) (.cond (.tmp 54 false) (.seq (.draw [(⟨(some 55), none, .move, [.tmp 7 false]⟩, ⟨false, []⟩),
     (⟨(some 56), none, .addOff 3, [.tmp 10 false]⟩, ⟨false, []⟩),
     (⟨(some 57), none, .load false 1 false, [.tmp 56 false]⟩, ⟨false, []⟩),
     (⟨(some 58), none, .call n_index_Index_Find false, [.tmp 55 false, .tmp 57 false]⟩, ⟨true, []⟩),
     (⟨(some 59), none, .move, [.tmp 8 false]⟩, ⟨false, [3]⟩),
     (⟨(some 60), none, .addOff 3, [.tmp 10 false]⟩, ⟨false, [3]⟩),
     (⟨(some 61), none, .load false 1 false, [.tmp 60 false]⟩, ⟨false, [3]⟩),
     (⟨(some 62), none, .call n_law8_plain_find false, [.tmp 59 false, .tmp 61 false]⟩, ⟨true, []⟩),
     (⟨(some 63), none, .bin .neq .plain, [.tmp 58 false, .tmp 62 false]⟩, ⟨false, []⟩)])
   (.ghost (.kill [10, 54, 55, 56, 57, 58, 59, 60, 61, 62]) (.cond (.tmp 63 false) (.seq (.region [⟨(some 6), none, .move, [.val (.bool false)]⟩])
    (.ghost (.kill [0, 1, 2, 7, 8, 9, 63]) (.ret)))
    (.skip))))
   (.seq (.region [⟨(some 64), none, .addOff 0, [.tmp 10 false]⟩,
     ⟨(some 65), none, .load false 1 false, [.tmp 64 false]⟩,
     ⟨(some 66), none, .bin .lss .plain, [.tmp 65 false, .val (.int .i64 4)]⟩,
     ⟨(some 67), none, .move, [.tmp 66 false]⟩,
     ⟨(some 68), (some (67, true)), .addOff 2, [.tmp 10 false]⟩,
     ⟨(some 69), (some (67, true)), .load false 1 false, [.tmp 68 false]⟩,
     ⟨(some 70), (some (67, true)), .bin .lss .plain, [.tmp 69 false, .val (.int .i64 1099511627776)]⟩,
     ⟨(some 71), none, .pick, [.tmp 67 false, .tmp 70 false, .val (.bool false)]⟩,
     ⟨(some 72), none, .move, [.tmp 71 false]⟩,
     ⟨(some 73), (some (72, true)), .addOff 1, [.tmp 10 false]⟩,
     ⟨(some 74), (some (72, true)), .load false 1 false, [.tmp 73 false]⟩,
     ⟨(some 75), (some (72, true)), .bin .lss .plain, [.tmp 74 false, .val (.int .i64 1099511627776)]⟩,
     ⟨(some 76), none, .pick, [.tmp 72 false, .tmp 75 false, .val (.bool false)]⟩])
   (.ghost (.kill [54, 64, 65, 66, 67, 68, 69, 70, 71, 72, 73, 74, 75]) (.cond (.tmp 76 false) (.seq (.draw [(⟨(some 77), none, .move, [.tmp 7 false]⟩, ⟨false, []⟩),
      (⟨(some 78), none, .addOff 3, [.tmp 10 false]⟩, ⟨false, []⟩),
      (⟨(some 79), none, .load false 1 false, [.tmp 78 false]⟩, ⟨false, []⟩),
      (⟨(some 80), none, .addOff 1, [.tmp 10 false]⟩, ⟨false, []⟩),
      (⟨(some 81), none, .load false 1 false, [.tmp 80 false]⟩, ⟨false, []⟩),
      (⟨(some 82), none, .addOff 2, [.tmp 10 false]⟩, ⟨false, []⟩),
      (⟨(some 83), none, .load false 1 false, [.tmp 82 false]⟩, ⟨false, []⟩),
      (⟨(some 84), none, .call n_index_Index_Add false, [.tmp 77 false, .tmp 79 false, .tmp 81 false, .tmp 83 false]⟩, ⟨true, []⟩),
      (⟨(some 85), none, .move, [.tmp 8 false]⟩, ⟨false, [7]⟩),
      (⟨(some 86), none, .addOff 3, [.tmp 10 false]⟩, ⟨false, [7]⟩),
      (⟨(some 87), none, .load false 1 false, [.tmp 86 false]⟩, ⟨false, [7]⟩),
      (⟨(some 88), none, .addOff 1, [.tmp 10 false]⟩, ⟨false, [7]⟩),
      (⟨(some 89), none, .load false 1 false, [.tmp 88 false]⟩, ⟨false, [7]⟩),
      (⟨(some 90), none, .addOff 2, [.tmp 10 false]⟩, ⟨false, [7]⟩),
      (⟨(some 91), none, .load false 1 false, [.tmp 90 false]⟩, ⟨false, [7]⟩),
      (⟨(some 92), none, .call n_law8_plain_add false, [.tmp 85 false, .tmp 87 false, .tmp 89 false, .tmp 91 false]⟩, ⟨true, []⟩),
      (⟨(some 93), none, .bin .neq .bool, [.tmp 84 false, .tmp 92 false]⟩, ⟨false, []⟩)])
    (.ghost (.kill [10, 76, 77, 78, 79, 80, 81, 82, 83, 84, 85, 86, 87, 88, 89, 90, 91, 92]) (.cond (.tmp 93 false) (.seq (.region [⟨(some 6), none, .move, [.val (.bool false)]⟩])
     (.ghost (.kill [0, 1, 2, 7, 8, 9, 93]) (.ret)))
     (.skip))))
    (.skip)))))))
  (.ghost (.kill [10, 63, 76, 93]) (.seq (.region [⟨(some 94), none, .move, [.tmp 7 false]⟩,
    ⟨(some 95), none, .move, [.tmp 8 false]⟩,
    ⟨(some 96), none, .call n_law8_same false, [.tmp 94 false, .tmp 95 false]⟩,
    ⟨(some 97), none, .un .not, [.tmp 96 false]⟩])
  (.ghost (.kill [94, 95, 96]) (.cond (.tmp 97 false) (.seq (.region [⟨(some 6), none, .move, [.val (.bool false)]⟩])
   (.ghost (.kill [0, 1, 2, 7, 8, 9, 97]) (.ret)))
   (.skip)))))))))))
 (.ghost (.kill [97]) (.region [⟨(some 44), none, .move, [.tmp 9 false]⟩,
   ⟨(some 45), none, .bin .add .plain, [.tmp 44 false, .val (.int .i64 1)]⟩,
   ⟨(some 9), none, .move, [.tmp 45 false]⟩]))))
def k_law8_play_0 : List Nat := [6, 10, 36, 37, 38, 39, 40, 41, 42, 43, 44, 45, 46, 47, 48, 49, 50, 51, 52, 53, 54, 55, 56, 57, 58, 59, 60, 61, 62, 63, 64, 65, 66, 67, 68, 69, 70, 71, 72, 73, 74, 75, 76, 77, 78, 79, 80, 81, 82, 83, 84, 85, 86, 87, 88, 89, 90, 91, 92, 93, 94, 95, 96, 97]
def c_law8_play : AFunc := ⟨116, false, .seq (.region [⟨(some 6), none, .move, [.val (.bool false)]⟩])
 (.ghost (.kill [6]) (.seq (.region [⟨(some 13), none, .move, [.tmp 0 false]⟩,
   ⟨(some 14), none, .move, [.tmp 1 false]⟩,
   ⟨(some 15), none, .call n_index_New false, [.tmp 13 false, .tmp 14 false]⟩,
   ⟨(some 7), none, .move, [.tmp 15 false]⟩])
 (.ghost (.kill [13, 14, 15]) (.seq (.seq (.region [⟨(some 16), none, .move, [.tmp 0 false]⟩,
   ⟨(some 17), none, .bin .lss .plain, [.tmp 16 false, .val (.int .i64 0)]⟩,
   ⟨(some 18), none, .move, [.tmp 17 false]⟩,
   ⟨(some 19), (some (18, false)), .move, [.tmp 0 false]⟩,
   ⟨(some 20), (some (18, false)), .bin .gtr .plain, [.tmp 19 false, .val (.int .i64 1099511627776)]⟩,
   ⟨(some 21), none, .pick, [.tmp 18 false, .val (.bool true), .tmp 20 false]⟩,
   ⟨(some 22), none, .move, [.tmp 21 false]⟩,
   ⟨(some 23), (some (22, false)), .move, [.tmp 1 false]⟩,
   ⟨(some 24), (some (22, false)), .bin .lss .plain, [.tmp 23 false, .val (.int .i64 1)]⟩,
   ⟨(some 25), none, .pick, [.tmp 22 false, .val (.bool true), .tmp 24 false]⟩,
   ⟨(some 26), none, .move, [.tmp 25 false]⟩,
   ⟨(some 27), (some (26, false)), .move, [.tmp 1 false]⟩,
   ⟨(some 28), (some (26, false)), .bin .gtr .plain, [.tmp 27 false, .val (.int .i64 1073741824)]⟩,
   ⟨(some 29), none, .pick, [.tmp 26 false, .val (.bool true), .tmp 28 false]⟩])
 (.ghost (.kill [16, 17, 18, 19, 20, 21, 22, 23, 24, 25, 26, 27, 28]) (.cond (.tmp 29 false) (.seq (.region [⟨(some 30), none, .move, [.tmp 7 false]⟩,
    ⟨(some 31), none, .bin .eql .ptr, [.tmp 30 false, .val .nilp]⟩,
    ⟨(some 6), none, .move, [.tmp 31 false]⟩])
  (.ghost (.kill [0, 1, 2, 7, 29, 30, 31]) (.ret)))
  (.skip))))
 (.ghost (.kill [29]) (.seq (.region [⟨(some 32), none, .move, [.tmp 0 false]⟩,
   ⟨(some 33), none, .move, [.tmp 1 false]⟩,
   ⟨(some 34), none, .build [.int .i64 0, .int .i64 0, .int .i64 0, .int .i64 0, .list 2 [] .full] [(0, 1), (1, 1), (2, 1)], [.tmp 32 false, .val (.int .i64 (-1)), .tmp 33 false]⟩,
   ⟨(some 35), none, .box, [.tmp 34 false]⟩,
   ⟨(some 8), none, .move, [.tmp 35 false]⟩])
 (.ghost (.kill [32, 33, 34, 35]) (.seq (.seq (.region [⟨(some 9), none, .move, [.val (.int .i64 0)]⟩])
 (.block 0 (.loop (.ghost (.kill k_law8_play_0) l_law8_play_0))))
 (.ghost (.kill [2, 6, 9, 10, 36, 37, 38, 39, 40, 41, 42, 43, 44, 45, 46, 47, 48, 49, 50, 51, 52, 53, 54, 55, 56, 57, 58, 59, 60, 61, 62, 63, 64, 65, 66, 67, 68, 69, 70, 71, 72, 73, 74, 75, 76, 77, 78, 79, 80, 81, 82, 83, 84, 85, 86, 87, 88, 89, 90, 91, 92, 93, 94, 95, 96, 97]) (.seq (.region [⟨(some 99), none, .move, [.tmp 0 false]⟩,
   ⟨(some 100), none, .move, [.tmp 1 false]⟩,
   ⟨(some 101), none, .move, [.tmp 7 false]⟩,
   ⟨(some 102), none, .call n_index_Index_Bytes false, [.tmp 101 false]⟩,
   ⟨(some 103), none, .call n_index_Read false, [.tmp 99 false, .tmp 100 false, .tmp 102 true]⟩,
   ⟨(some 98), none, .move, [.tmp 103 false]⟩,
   ⟨(some 104), none, .move, [.proj 98 0 false]⟩,
   ⟨(some 105), none, .move, [.proj 98 1 false]⟩,
   ⟨(some 11), none, .move, [.tmp 104 false]⟩,
   ⟨(some 12), none, .move, [.tmp 105 false]⟩])
 (.ghost (.kill [0, 1, 7, 98, 99, 100, 101, 102, 103, 104, 105]) (.seq (.region [⟨(some 106), none, .move, [.tmp 12 false]⟩,
   ⟨(some 107), none, .move, [.tmp 106 false]⟩,
   ⟨(some 108), (some (107, true)), .move, [.tmp 11 false]⟩,
   ⟨(some 109), (some (107, true)), .bin .neq .ptr, [.tmp 108 false, .val .nilp]⟩,
   ⟨(some 110), none, .pick, [.tmp 107 false, .tmp 109 false, .val (.bool false)]⟩,
   ⟨(some 111), none, .move, [.tmp 110 false]⟩,
   ⟨(some 112), (some (111, true)), .move, [.tmp 11 false]⟩,
   ⟨(some 113), (some (111, true)), .move, [.tmp 8 false]⟩,
   ⟨(some 114), (some (111, true)), .call n_law8_same false, [.tmp 112 false, .tmp 113 false]⟩,
   ⟨(some 115), none, .pick, [.tmp 111 false, .tmp 114 false, .val (.bool false)]⟩,
   ⟨(some 6), none, .move, [.tmp 115 false]⟩])
 (.ghost (.kill [8, 11, 12, 106, 107, 108, 109, 110, 111, 112, 113, 114, 115]) (.ret)))))))))))))), [.tmp 6]⟩
def c_law8_known : AFunc := ⟨105, false, .seq (.region [⟨(some 0), none, .move, [.val (.bool false)]⟩])
 (.ghost (.kill [0]) (.seq (.region [⟨(some 13), none, .call n_index_New false, [.val (.int .i64 10), .val (.int .i64 20)]⟩,
   ⟨(some 1), none, .move, [.tmp 13 false]⟩])
 (.ghost (.kill [13]) (.seq (.seq (.region [⟨(some 14), none, .move, [.tmp 1 false]⟩,
   ⟨(some 15), none, .bin .eql .ptr, [.tmp 14 false, .val .nilp]⟩,
   ⟨(some 16), none, .move, [.tmp 15 false]⟩,
   ⟨(some 17), (some (16, false)), .call n_index_New false, [.val (.int .i64 (-1)), .val (.int .i64 1)]⟩,
   ⟨(some 18), (some (16, false)), .bin .neq .ptr, [.tmp 17 false, .val .nilp]⟩,
   ⟨(some 19), none, .pick, [.tmp 16 false, .val (.bool true), .tmp 18 false]⟩,
   ⟨(some 20), none, .move, [.tmp 19 false]⟩,
   ⟨(some 21), (some (20, false)), .call n_index_New false, [.val (.int .i64 0), .val (.int .i64 0)]⟩,
   ⟨(some 22), (some (20, false)), .bin .neq .ptr, [.tmp 21 false, .val .nilp]⟩,
   ⟨(some 23), none, .pick, [.tmp 20 false, .val (.bool true), .tmp 22 false]⟩])
 (.ghost (.kill [14, 15, 16, 17, 18, 19, 20, 21, 22]) (.cond (.tmp 23 false) (.seq (.region [⟨(some 0), none, .move, [.val (.bool false)]⟩])
  (.ghost (.kill [1, 23]) (.ret)))
  (.skip))))
 (.ghost (.kill [23]) (.seq (.region [⟨(some 24), none, .move, [.tmp 1 false]⟩,
   ⟨(some 25), none, .call n_index_Index_Add false, [.tmp 24 false, .val (.int .i64 10), .val (.int .i64 0), .val (.int .i64 15)]⟩,
   ⟨(some 26), none, .move, [.tmp 1 false]⟩,
   ⟨(some 27), none, .call n_index_Index_Add false, [.tmp 26 false, .val (.int .i64 12), .val (.int .i64 15), .val (.int .i64 15)]⟩,
   ⟨(some 28), none, .move, [.tmp 1 false]⟩,
   ⟨(some 29), none, .call n_index_Index_Add false, [.tmp 28 false, .val (.int .i64 13), .val (.int .i64 30), .val (.int .i64 5)]⟩,
   ⟨(some 30), none, .move, [.tmp 1 false]⟩,
   ⟨(some 31), none, .call n_index_Index_Add false, [.tmp 30 false, .val (.int .i64 13), .val (.int .i64 40), .val (.int .i64 5)]⟩,
   ⟨(some 2), none, .move, [.tmp 25 false]⟩,
   ⟨(some 3), none, .move, [.tmp 27 false]⟩,
   ⟨(some 4), none, .move, [.tmp 29 false]⟩,
   ⟨(some 5), none, .move, [.tmp 31 false]⟩])
 (.ghost (.kill [24, 25, 26, 27, 28, 29, 30, 31]) (.seq (.region [⟨(some 33), none, .move, [.tmp 1 false]⟩,
   ⟨(some 34), none, .call n_index_Index_Bytes false, [.tmp 33 false]⟩,
   ⟨(some 35), none, .call n_index_Read false, [.val (.int .i64 10), .val (.int .i64 20), .tmp 34 true]⟩,
   ⟨(some 32), none, .move, [.tmp 35 false]⟩,
   ⟨(some 36), none, .move, [.proj 32 0 false]⟩,
   ⟨(some 37), none, .move, [.proj 32 1 false]⟩,
   ⟨(some 6), none, .move, [.tmp 36 false]⟩,
   ⟨(some 7), none, .move, [.tmp 37 false]⟩])
 (.ghost (.kill [32, 33, 34, 35, 36, 37]) (.seq (.region [⟨(some 39), none, .call n_index_Read false, [.val (.int .i64 0), .val (.int .i64 1), .val (.list 1 [] .full)]⟩,
   ⟨(some 38), none, .move, [.tmp 39 false]⟩,
   ⟨(some 40), none, .move, [.proj 38 0 false]⟩,
   ⟨(some 41), none, .move, [.proj 38 1 false]⟩,
   ⟨(some 8), none, .move, [.tmp 40 false]⟩,
   ⟨(some 9), none, .move, [.tmp 41 false]⟩])
 (.ghost (.kill [38, 39, 40, 41]) (.seq (.region [⟨(some 43), none, .buildSlice 1 (.int .u8 0) 1 [0], [.val (.int .u8 1)]⟩,
   ⟨(some 44), none, .call n_index_Read false, [.val (.int .i64 0), .val (.int .i64 1), .tmp 43 true]⟩,
   ⟨(some 42), none, .move, [.tmp 44 false]⟩,
   ⟨(some 45), none, .move, [.proj 42 0 false]⟩,
   ⟨(some 46), none, .move, [.proj 42 1 false]⟩,
   ⟨(some 10), none, .move, [.tmp 45 false]⟩,
   ⟨(some 11), none, .move, [.tmp 46 false]⟩])
 (.ghost (.kill [10, 42, 43, 44, 45, 46]) (.seq (.region [⟨(some 47), none, .move, [.tmp 1 false]⟩,
   ⟨(some 48), none, .call n_index_Index_Entries false, [.tmp 47 false]⟩,
   ⟨(some 12), none, .move, [.tmp 48 true]⟩])
 (.ghost (.kill [47, 48]) (.seq (.region [⟨(some 49), none, .move, [.tmp 2 false]⟩,
   ⟨(some 50), none, .move, [.tmp 49 false]⟩,
   ⟨(some 51), (some (50, true)), .move, [.tmp 3 false]⟩,
   ⟨(some 52), none, .pick, [.tmp 50 false, .tmp 51 false, .val (.bool false)]⟩,
   ⟨(some 53), none, .move, [.tmp 52 false]⟩,
   ⟨(some 54), (some (53, true)), .move, [.tmp 4 false]⟩,
   ⟨(some 55), none, .pick, [.tmp 53 false, .tmp 54 false, .val (.bool false)]⟩,
   ⟨(some 56), none, .move, [.tmp 55 false]⟩,
   ⟨(some 57), (some (56, true)), .move, [.tmp 5 false]⟩,
   ⟨(some 58), (some (56, true)), .un .not, [.tmp 57 false]⟩,
   ⟨(some 59), none, .pick, [.tmp 56 false, .tmp 58 false, .val (.bool false)]⟩,
   ⟨(some 60), none, .move, [.tmp 59 false]⟩,
   ⟨(some 61), (some (60, true)), .move, [.tmp 12 false]⟩,
   ⟨(some 62), (some (60, true)), .len false, [.tmp 61 true]⟩,
   ⟨(some 63), (some (60, true)), .bin .eql .plain, [.tmp 62 false, .val (.int .i64 2)]⟩,
   ⟨(some 64), none, .pick, [.tmp 60 false, .tmp 63 false, .val (.bool false)]⟩,
   ⟨(some 65), none, .move, [.tmp 64 false]⟩,
   ⟨(some 66), (some (65, true)), .move, [.tmp 12 true]⟩,
   ⟨(some 67), (some (65, true)), .ixAddr 2, [.tmp 66 true, .val (.int .i64 1)]⟩,
   ⟨(some 68), (some (65, true)), .load true 2 false, [.tmp 67 false]⟩,
   ⟨(some 69), (some (65, true)), .build [.int .i64 0, .int .i64 0] [(0, 1), (1, 1)], [.val (.int .i64 13), .val (.int .i64 30)]⟩,
   ⟨(some 70), (some (65, true)), .bin .eql (.agg [.int .i64, .int .i64]), [.tmp 68 false, .tmp 69 false]⟩,
   ⟨(some 71), none, .pick, [.tmp 65 false, .tmp 70 false, .val (.bool false)]⟩,
   ⟨(some 72), none, .move, [.tmp 71 false]⟩,
   ⟨(some 73), (some (72, true)), .move, [.tmp 1 false]⟩,
   ⟨(some 74), (some (72, true)), .call n_index_Index_Find false, [.tmp 73 false, .val (.int .i64 12)]⟩,
   ⟨(some 75), (some (72, true)), .bin .eql .plain, [.tmp 74 false, .val (.int .i64 0)]⟩,
   ⟨(some 76), none, .pick, [.tmp 72 false, .tmp 75 false, .val (.bool false)]⟩,
   ⟨(some 77), none, .move, [.tmp 76 false]⟩,
   ⟨(some 78), (some (77, true)), .move, [.tmp 1 false]⟩,
   ⟨(some 79), (some (77, true)), .call n_index_Index_Find false, [.tmp 78 false, .val (.int .i64 99)]⟩,
   ⟨(some 80), (some (77, true)), .bin .eql .plain, [.tmp 79 false, .val (.int .i64 30)]⟩,
   ⟨(some 81), none, .pick, [.tmp 77 false, .tmp 80 false, .val (.bool false)]⟩,
   ⟨(some 82), none, .move, [.tmp 81 false]⟩,
   ⟨(some 83), (some (82, true)), .move, [.tmp 7 false]⟩,
   ⟨(some 84), none, .pick, [.tmp 82 false, .tmp 83 false, .val (.bool false)]⟩,
   ⟨(some 85), none, .move, [.tmp 84 false]⟩,
   ⟨(some 86), (some (85, true)), .move, [.tmp 6 false]⟩,
   ⟨(some 87), (some (85, true)), .bin .neq .ptr, [.tmp 86 false, .val .nilp]⟩,
   ⟨(some 88), none, .pick, [.tmp 85 false, .tmp 87 false, .val (.bool false)]⟩,
   ⟨(some 89), none, .move, [.tmp 88 false]⟩,
   ⟨(some 90), (some (89, true)), .move, [.tmp 6 false]⟩,
   ⟨(some 91), (some (89, true)), .call n_index_Index_Find false, [.tmp 90 false, .val (.int .i64 13)]⟩,
   ⟨(some 92), (some (89, true)), .bin .eql .plain, [.tmp 91 false, .val (.int .i64 30)]⟩,
   ⟨(some 93), none, .pick, [.tmp 89 false, .tmp 92 false, .val (.bool false)]⟩,
   ⟨(some 94), none, .move, [.tmp 93 false]⟩,
   ⟨(some 95), (some (94, true)), .move, [.tmp 9 false]⟩,
   ⟨(some 96), none, .pick, [.tmp 94 false, .tmp 95 false, .val (.bool false)]⟩,
   ⟨(some 97), none, .move, [.tmp 96 false]⟩,
   ⟨(some 98), (some (97, true)), .move, [.tmp 8 false]⟩,
   ⟨(some 99), (some (97, true)), .bin .neq .ptr, [.tmp 98 false, .val .nilp]⟩,
   ⟨(some 100), none, .pick, [.tmp 97 false, .tmp 99 false, .val (.bool false)]⟩,
   ⟨(some 101), none, .move, [.tmp 100 false]⟩,
   ⟨(some 102), (some (101, true)), .move, [.tmp 11 false]⟩,
   ⟨(some 103), (some (101, true)), .un .not, [.tmp 102 false]⟩,
   ⟨(some 104), none, .pick, [.tmp 101 false, .tmp 103 false, .val (.bool false)]⟩,
   ⟨(some 0), none, .move, [.tmp 104 false]⟩])
 (.ghost (.kill [1, 2, 3, 4, 5, 6, 7, 8, 9, 11, 12, 49, 50, 51, 52, 53, 54, 55, 56, 57, 58, 59, 60, 61, 62, 63, 64, 65, 66, 67, 68, 69, 70, 71, 72, 73, 74, 75, 76, 77, 78, 79, 80, 81, 82, 83, 84, 85, 86, 87, 88, 89, 90, 91, 92, 93, 94, 95, 96, 97, 98, 99, 100, 101, 102, 103, 104]) (.ret)))))))))))))))))), [.tmp 0]⟩
def c_index_New : AFunc := ⟨23, true, .seq (.region [⟨(some 4), none, .move, [.val .nilp]⟩])
 (.ghost (.kill [4]) (.seq (.seq (.region [⟨(some 5), none, .move, [.tmp 0 false]⟩,
   ⟨(some 6), none, .bin .lss .plain, [.tmp 5 false, .val (.int .i64 0)]⟩,
   ⟨(some 7), none, .move, [.tmp 6 false]⟩,
   ⟨(some 8), (some (7, false)), .move, [.tmp 0 false]⟩,
   ⟨(some 9), (some (7, false)), .bin .gtr .plain, [.tmp 8 false, .val (.int .i64 1099511627776)]⟩,
   ⟨(some 10), none, .pick, [.tmp 7 false, .val (.bool true), .tmp 9 false]⟩,
   ⟨(some 11), none, .move, [.tmp 10 false]⟩,
   ⟨(some 12), (some (11, false)), .move, [.tmp 1 false]⟩,
   ⟨(some 13), (some (11, false)), .bin .lss .plain, [.tmp 12 false, .val (.int .i64 1)]⟩,
   ⟨(some 14), none, .pick, [.tmp 11 false, .val (.bool true), .tmp 13 false]⟩,
   ⟨(some 15), none, .move, [.tmp 14 false]⟩,
   ⟨(some 16), (some (15, false)), .move, [.tmp 1 false]⟩,
   ⟨(some 17), (some (15, false)), .bin .gtr .plain, [.tmp 16 false, .val (.int .i64 1073741824)]⟩,
   ⟨(some 18), none, .pick, [.tmp 15 false, .val (.bool true), .tmp 17 false]⟩])
 (.ghost (.kill [5, 6, 7, 8, 9, 10, 11, 12, 13, 14, 15, 16, 17]) (.cond (.tmp 18 false) (.seq (.region [⟨(some 4), none, .move, [.val .nilp]⟩])
  (.ghost (.kill [0, 1, 18]) (.ret)))
  (.skip))))
 (.ghost (.kill [18]) (.seq (.region [⟨(some 19), none, .move, [.tmp 0 false]⟩,
   ⟨(some 20), none, .move, [.tmp 1 false]⟩,
   ⟨(some 21), none, .build [.int .i64 0, .int .i64 0, .list 4 [] .full] [(0, 1), (1, 1)], [.tmp 19 false, .tmp 20 false]⟩,
   ⟨(some 22), none, .box, [.tmp 21 false]⟩,
   ⟨(some 4), none, .move, [.tmp 22 false]⟩])
 (.ghost (.kill [0, 1, 19, 20, 21, 22]) (.ret)))))), [.tmp 4]⟩
def c_index_Index_Add : AFunc := ⟨92, false, .seq (.region [⟨(some 8), none, .move, [.val (.bool false)]⟩])
 (.ghost (.kill [8]) (.seq (.seq (.region [⟨(some 12), none, .move, [.tmp 1 false]⟩,
   ⟨(some 13), none, .move, [.tmp 0 false]⟩,
   ⟨(some 14), none, .nilCheck, [.tmp 13 false]⟩,
   ⟨(some 15), none, .addOff 0, [.tmp 14 false]⟩,
   ⟨(some 16), none, .load false 1 false, [.tmp 15 false]⟩,
   ⟨(some 17), none, .bin .lss .plain, [.tmp 12 false, .tmp 16 false]⟩,
   ⟨(some 18), none, .move, [.tmp 17 false]⟩,
   ⟨(some 19), (some (18, false)), .move, [.tmp 2 false]⟩,
   ⟨(some 20), (some (18, false)), .bin .lss .plain, [.tmp 19 false, .val (.int .i64 0)]⟩,
   ⟨(some 21), none, .pick, [.tmp 18 false, .val (.bool true), .tmp 20 false]⟩,
   ⟨(some 22), none, .move, [.tmp 21 false]⟩,
   ⟨(some 23), (some (22, false)), .move, [.tmp 3 false]⟩,
   ⟨(some 24), (some (22, false)), .bin .lss .plain, [.tmp 23 false, .val (.int .i64 1)]⟩,
   ⟨(some 25), none, .pick, [.tmp 22 false, .val (.bool true), .tmp 24 false]⟩])
 (.ghost (.kill [12, 13, 14, 15, 16, 17, 18, 19, 20, 21, 22, 23, 24]) (.cond (.tmp 25 false) (.seq (.region [⟨(some 8), none, .move, [.val (.bool false)]⟩])
  (.ghost (.kill [0, 1, 2, 3, 25]) (.ret)))
  (.skip))))
 (.ghost (.kill [25]) (.seq (.seq (.region [⟨(some 26), none, .move, [.tmp 0 false]⟩,
   ⟨(some 27), none, .nilCheck, [.tmp 26 false]⟩,
   ⟨(some 28), none, .addOff 2, [.tmp 27 false]⟩,
   ⟨(some 29), none, .load false 1 false, [.tmp 28 false]⟩,
   ⟨(some 30), none, .len false, [.tmp 29 true]⟩,
   ⟨(some 9), none, .move, [.tmp 30 false]⟩])
 (.ghost (.kill [26, 27, 28, 29, 30]) (.seq (.region [⟨(some 31), none, .move, [.tmp 9 false]⟩,
   ⟨(some 32), none, .bin .gtr .plain, [.tmp 31 false, .val (.int .i64 0)]⟩,
   ⟨(some 33), none, .move, [.tmp 32 false]⟩,
   ⟨(some 34), (some (33, true)), .move, [.tmp 1 false]⟩,
   ⟨(some 35), (some (33, true)), .move, [.tmp 0 false]⟩,
   ⟨(some 36), (some (33, true)), .nilCheck, [.tmp 35 false]⟩,
   ⟨(some 37), (some (33, true)), .addOff 2, [.tmp 36 false]⟩,
   ⟨(some 38), (some (33, true)), .load false 1 false, [.tmp 37 false]⟩,
   ⟨(some 39), (some (33, true)), .move, [.tmp 9 false]⟩,
   ⟨(some 40), (some (33, true)), .bin .sub .plain, [.tmp 39 false, .val (.int .i64 1)]⟩,
   ⟨(some 41), (some (33, true)), .ixAddr 4, [.tmp 38 true, .tmp 40 false]⟩,
   ⟨(some 42), (some (33, true)), .addOff 0, [.tmp 41 false]⟩,
   ⟨(some 43), (some (33, true)), .load false 1 false, [.tmp 42 false]⟩,
   ⟨(some 44), (some (33, true)), .bin .leq .plain, [.tmp 34 false, .tmp 43 false]⟩,
   ⟨(some 45), (some (33, true)), .move, [.tmp 44 false]⟩,
   ⟨(some 46), (some (45, false)), .move, [.tmp 2 false]⟩,
   ⟨(some 47), (some (45, false)), .move, [.tmp 0 false]⟩,
   ⟨(some 48), (some (45, false)), .nilCheck, [.tmp 47 false]⟩,
   ⟨(some 49), (some (45, false)), .addOff 2, [.tmp 48 false]⟩,
   ⟨(some 50), (some (45, false)), .load false 1 false, [.tmp 49 false]⟩,
   ⟨(some 51), (some (45, false)), .move, [.tmp 9 false]⟩,
   ⟨(some 52), (some (45, false)), .bin .sub .plain, [.tmp 51 false, .val (.int .i64 1)]⟩,
   ⟨(some 53), (some (45, false)), .ixAddr 4, [.tmp 50 true, .tmp 52 false]⟩,
   ⟨(some 54), (some (45, false)), .addOff 2, [.tmp 53 false]⟩,
   ⟨(some 55), (some (45, false)), .load false 1 false, [.tmp 54 false]⟩,
   ⟨(some 56), (some (45, false)), .bin .lss .plain, [.tmp 46 false, .tmp 55 false]⟩,
   ⟨(some 57), (some (33, true)), .pick, [.tmp 45 false, .val (.bool true), .tmp 56 false]⟩,
   ⟨(some 58), none, .pick, [.tmp 33 false, .tmp 57 false, .val (.bool false)]⟩])
 (.ghost (.kill [9, 31, 32, 33, 34, 35, 36, 37, 38, 39, 40, 41, 42, 43, 44, 45, 46, 47, 48, 49, 50, 51, 52, 53, 54, 55, 56, 57]) (.cond (.tmp 58 false) (.seq (.region [⟨(some 8), none, .move, [.val (.bool false)]⟩])
  (.ghost (.kill [0, 1, 2, 3, 58]) (.ret)))
  (.skip))))))
 (.ghost (.kill [58]) (.seq (.region [⟨(some 60), none, .move, [.tmp 0 false]⟩,
   ⟨(some 61), none, .call n_index_Index_last false, [.tmp 60 false]⟩,
   ⟨(some 59), none, .move, [.tmp 61 false]⟩,
   ⟨(some 62), none, .move, [.proj 59 0 false]⟩,
   ⟨(some 63), none, .move, [.proj 59 1 false]⟩,
   ⟨(some 10), none, .alloc [.int .i64 0, .int .i64 0, .int .i64 0, .bool false], []⟩,
   ⟨none, none, .store 4, [.tmp 10 false, .tmp 62 false]⟩,
   ⟨(some 11), none, .move, [.tmp 63 false]⟩])
 (.ghost (.kill [59, 60, 61, 62, 63]) (.seq (.draw [(⟨(some 64), none, .move, [.tmp 0 false]⟩, ⟨false, []⟩),
   (⟨(some 65), none, .move, [.tmp 0 false]⟩, ⟨false, []⟩),
   (⟨(some 66), none, .nilCheck, [.tmp 65 false]⟩, ⟨false, []⟩),
   (⟨(some 67), none, .addOff 2, [.tmp 66 false]⟩, ⟨false, []⟩),
   (⟨(some 68), none, .load false 1 true, [.tmp 67 false]⟩, ⟨true, [0]⟩),
   (⟨(some 69), none, .move, [.tmp 1 false]⟩, ⟨false, [4]⟩),
   (⟨(some 70), none, .move, [.tmp 2 false]⟩, ⟨false, [4]⟩),
   (⟨(some 71), none, .move, [.tmp 2 false]⟩, ⟨false, [4]⟩),
   (⟨(some 72), none, .move, [.tmp 3 false]⟩, ⟨false, [4]⟩),
   (⟨(some 73), none, .bin .add .plain, [.tmp 71 false, .tmp 72 false]⟩, ⟨false, [4]⟩),
   (⟨(some 74), none, .move, [.tmp 11 false]⟩, ⟨false, [4]⟩),
   (⟨(some 75), none, .un .not, [.tmp 74 false]⟩, ⟨false, [4]⟩),
   (⟨(some 76), none, .move, [.tmp 75 false]⟩, ⟨false, [4]⟩),
   (⟨(some 77), (some (76, false)), .move, [.tmp 2 false]⟩, ⟨false, [4]⟩),
   (⟨(some 78), (some (76, false)), .addOff 1, [.tmp 10 false]⟩, ⟨false, [4]⟩),
   (⟨(some 79), (some (76, false)), .load false 1 false, [.tmp 78 false]⟩, ⟨false, [4]⟩),
   (⟨(some 80), (some (76, false)), .bin .sub .plain, [.tmp 77 false, .tmp 79 false]⟩, ⟨false, [4]⟩),
   (⟨(some 81), (some (76, false)), .move, [.tmp 0 false]⟩, ⟨false, [4]⟩),
   (⟨(some 82), (some (76, false)), .nilCheck, [.tmp 81 false]⟩, ⟨false, [4]⟩),
   (⟨(some 83), (some (76, false)), .addOff 1, [.tmp 82 false]⟩, ⟨false, [4]⟩),
   (⟨(some 84), (some (76, false)), .load false 1 false, [.tmp 83 false]⟩, ⟨false, [4]⟩),
   (⟨(some 85), (some (76, false)), .bin .geq .plain, [.tmp 80 false, .tmp 84 false]⟩, ⟨false, [4]⟩),
   (⟨(some 86), none, .pick, [.tmp 76 false, .val (.bool true), .tmp 85 false]⟩, ⟨false, [4]⟩),
   (⟨(some 87), none, .build [.int .i64 0, .int .i64 0, .int .i64 0, .bool false] [(0, 1), (1, 1), (2, 1), (3, 1)], [.tmp 69 false, .tmp 70 false, .tmp 73 false, .tmp 86 false]⟩, ⟨false, [4]⟩),
   (⟨(some 88), none, .buildSlice 4 (.agg [.int .i64 0, .int .i64 0, .int .i64 0, .bool false]) 1 [0], [.tmp 87 false]⟩, ⟨false, [4]⟩),
   (⟨(some 89), none, .append 4 32 false, [.tmp 68 true, .tmp 88 true]⟩, ⟨true, [0]⟩),
   (⟨(some 90), none, .nilCheck, [.tmp 64 false]⟩, ⟨false, []⟩),
   (⟨(some 91), none, .addOff 2, [.tmp 90 false]⟩, ⟨false, []⟩),
   (⟨none, none, .store 1, [.tmp 91 false, .tmp 89 true]⟩, ⟨true, []⟩)])
 (.ghost (.kill [0, 1, 2, 3, 10, 11, 64, 65, 66, 67, 68, 69, 70, 71, 72, 73, 74, 75, 76, 77, 78, 79, 80, 81, 82, 83, 84, 85, 86, 87, 88, 89, 90, 91]) (.seq (.region [⟨(some 8), none, .move, [.val (.bool true)]⟩])
 (.ret))))))))))), [.tmp 8]⟩
def c_index_Index_Find : AFunc := ⟨21, false, .seq (.region [⟨(some 3), none, .box, [.tmp 1 false]⟩,
   ⟨(some 4), none, .move, [.val (.int .i64 0)]⟩])
 (.ghost (.kill [1, 4]) (.seq (.region [⟨(some 7), none, .move, [.tmp 0 false]⟩,
   ⟨(some 8), none, .call n_index_Index_Entries false, [.tmp 7 false]⟩,
   ⟨(some 5), none, .alloc [.list 2 [] .full], []⟩,
   ⟨none, none, .store 1, [.tmp 5 false, .tmp 8 true]⟩])
 (.ghost (.kill [0, 7, 8]) (.seq (.region [⟨(some 9), none, .load false 1 false, [.tmp 5 false]⟩,
   ⟨(some 10), none, .len false, [.tmp 9 true]⟩,
   ⟨(some 11), none, .mkfn n_index_Index_Find_1 0, [.tmp 5 false, .tmp 3 false]⟩,
   ⟨(some 12), none, .call n_sort_Search false, [.tmp 10 false, .tmp 11 false]⟩,
   ⟨(some 6), none, .move, [.tmp 12 false]⟩])
 (.ghost (.kill [3, 9, 10, 11, 12]) (.seq (.seq (.region [⟨(some 13), none, .move, [.tmp 6 false]⟩,
   ⟨(some 14), none, .bin .eql .plain, [.tmp 13 false, .val (.int .i64 0)]⟩])
 (.ghost (.kill [13]) (.cond (.tmp 14 false) (.seq (.region [⟨(some 4), none, .move, [.val (.int .i64 0)]⟩])
  (.ghost (.kill [5, 6, 14]) (.ret)))
  (.skip))))
 (.ghost (.kill [14]) (.seq (.region [⟨(some 15), none, .load false 1 false, [.tmp 5 false]⟩,
   ⟨(some 16), none, .move, [.tmp 6 false]⟩,
   ⟨(some 17), none, .bin .sub .plain, [.tmp 16 false, .val (.int .i64 1)]⟩,
   ⟨(some 18), none, .ixAddr 2, [.tmp 15 true, .tmp 17 false]⟩,
   ⟨(some 19), none, .addOff 1, [.tmp 18 false]⟩,
   ⟨(some 20), none, .load false 1 false, [.tmp 19 false]⟩,
   ⟨(some 4), none, .move, [.tmp 20 false]⟩])
 (.ghost (.kill [5, 6, 15, 16, 17, 18, 19, 20]) (.ret)))))))))), [.tmp 4]⟩
def l_index_Index_Bytes_0 : ACode := .seq (.region [⟨(some 10), none, .bin .lss .plain, [.tmp 9 false, .tmp 8 false]⟩])
 (.seq (.cond (.tmp 10 false) (.skip)
  (.ghost (.kill [0, 7, 8, 9, 10]) (.exit 0)))
 (.ghost (.kill [10]) (.seq (.block 1 (.seq (.region [⟨(some 11), none, .ixAddr 2, [.tmp 7 false, .tmp 9 false]⟩,
    ⟨(some 12), none, .load true 2 false, [.tmp 11 false]⟩,
    ⟨(some 5), none, .alloc [.int .i64 0, .int .i64 0], []⟩,
    ⟨none, none, .store 2, [.tmp 5 false, .tmp 12 false]⟩])
  (.ghost (.kill [11, 12]) (.draw [(⟨(some 13), none, .move, [.tmp 3 true]⟩, ⟨false, []⟩),
    (⟨(some 14), none, .addOff 0, [.tmp 5 false]⟩, ⟨false, []⟩),
    (⟨(some 15), none, .load false 1 false, [.tmp 14 false]⟩, ⟨false, []⟩),
    (⟨(some 16), none, .move, [.tmp 0 false]⟩, ⟨false, []⟩),
    (⟨(some 17), none, .nilCheck, [.tmp 16 false]⟩, ⟨false, []⟩),
    (⟨(some 18), none, .addOff 0, [.tmp 17 false]⟩, ⟨false, []⟩),
    (⟨(some 19), none, .load false 1 false, [.tmp 18 false]⟩, ⟨false, []⟩),
    (⟨(some 20), none, .bin .sub .plain, [.tmp 15 false, .tmp 19 false]⟩, ⟨false, []⟩),
    (⟨(some 21), none, .call n_varint_Long false, [.tmp 13 true, .tmp 20 false]⟩, ⟨true, []⟩),
    (⟨(some 22), none, .addOff 1, [.tmp 5 false]⟩, ⟨false, [8]⟩),
    (⟨(some 23), none, .load false 1 false, [.tmp 22 false]⟩, ⟨false, [8]⟩),
    (⟨(some 24), none, .call n_varint_Long false, [.tmp 21 true, .tmp 23 false]⟩, ⟨true, []⟩),
    (⟨(some 3), none, .move, [.tmp 24 true]⟩, ⟨false, []⟩)]))))
 (.ghost (.kill [5, 13, 14, 15, 16, 17, 18, 19, 20, 21, 22, 23, 24]) (.region [⟨(some 25), none, .bin .add .plain, [.tmp 9 false, .val (.int .i64 1)]⟩,
   ⟨(some 9), none, .move, [.tmp 25 false]⟩])))))
def k_index_Index_Bytes_0 : List Nat := [5, 10, 11, 12, 13, 14, 15, 16, 17, 18, 19, 20, 21, 22, 23, 24, 25]
def c_index_Index_Bytes : AFunc := ⟨27, false, .seq (.region [⟨(some 2), none, .move, [.val (.list 1 [] .full)]⟩])
 (.ghost (.kill [2]) (.seq (.region [⟨(some 3), none, .move, [.val (.list 1 [] .full)]⟩])
 (.seq (.seq (.region [⟨(some 6), none, .move, [.tmp 0 false]⟩,
   ⟨(some 7), none, .call n_index_Index_Entries false, [.tmp 6 false]⟩,
   ⟨(some 8), none, .len false, [.tmp 7 false]⟩,
   ⟨(some 9), none, .move, [.val (.int .i64 0)]⟩])
 (.ghost (.kill [6]) (.block 0 (.loop (.ghost (.kill k_index_Index_Bytes_0) l_index_Index_Bytes_0)))))
 (.ghost (.kill [0, 5, 7, 8, 9, 10, 11, 12, 13, 14, 15, 16, 17, 18, 19, 20, 21, 22, 23, 24, 25]) (.seq (.region [⟨(some 26), none, .move, [.tmp 3 true]⟩,
   ⟨(some 2), none, .move, [.tmp 26 true]⟩])
 (.ghost (.kill [3, 26]) (.ret))))))), [.tmp 2]⟩
def l_index_Index_Entries_0 : ACode := .seq (.region [⟨(some 12), none, .bin .lss .plain, [.tmp 11 false, .tmp 10 false]⟩])
 (.seq (.cond (.tmp 12 false) (.skip)
  (.ghost (.kill [9, 10, 11, 12]) (.exit 0)))
 (.ghost (.kill [12]) (.seq (.block 1 (.seq (.region [⟨(some 13), none, .ixAddr 4, [.tmp 9 false, .tmp 11 false]⟩,
    ⟨(some 14), none, .load true 4 false, [.tmp 13 false]⟩,
    ⟨(some 5), none, .alloc [.int .i64 0, .int .i64 0, .int .i64 0, .bool false], []⟩,
    ⟨none, none, .store 4, [.tmp 5 false, .tmp 14 false]⟩])
  (.ghost (.kill [13, 14]) (.seq (.region [⟨(some 15), none, .addOff 3, [.tmp 5 false]⟩,
    ⟨(some 16), none, .load false 1 false, [.tmp 15 false]⟩])
  (.ghost (.kill [15]) (.cond (.tmp 16 false) (.region [⟨(some 17), none, .move, [.tmp 3 true]⟩,
     ⟨(some 18), none, .addOff 0, [.tmp 5 false]⟩,
     ⟨(some 19), none, .load false 1 false, [.tmp 18 false]⟩,
     ⟨(some 20), none, .addOff 1, [.tmp 5 false]⟩,
     ⟨(some 21), none, .load false 1 false, [.tmp 20 false]⟩,
     ⟨(some 22), none, .build [.int .i64 0, .int .i64 0] [(0, 1), (1, 1)], [.tmp 19 false, .tmp 21 false]⟩,
     ⟨(some 23), none, .buildSlice 2 (.agg [.int .i64 0, .int .i64 0]) 1 [0], [.tmp 22 false]⟩,
     ⟨(some 24), none, .append 2 16 false, [.tmp 17 true, .tmp 23 true]⟩,
     ⟨(some 3), none, .move, [.tmp 24 true]⟩])
   (.skip)))))))
 (.ghost (.kill [5, 16, 17, 18, 19, 20, 21, 22, 23, 24]) (.region [⟨(some 25), none, .bin .add .plain, [.tmp 11 false, .val (.int .i64 1)]⟩,
   ⟨(some 11), none, .move, [.tmp 25 false]⟩])))))
def k_index_Index_Entries_0 : List Nat := [5, 12, 13, 14, 15, 16, 17, 18, 19, 20, 21, 22, 23, 24, 25]
def c_index_Index_Entries : AFunc := ⟨28, false, .seq (.region [⟨(some 2), none, .move, [.val (.list 2 [] .full)]⟩])
 (.ghost (.kill [2]) (.seq (.region [⟨(some 3), none, .move, [.val (.list 2 [] .full)]⟩])
 (.seq (.seq (.region [⟨(some 6), none, .move, [.tmp 0 false]⟩,
   ⟨(some 7), none, .nilCheck, [.tmp 6 false]⟩,
   ⟨(some 8), none, .addOff 2, [.tmp 7 false]⟩,
   ⟨(some 9), none, .load false 1 false, [.tmp 8 false]⟩,
   ⟨(some 10), none, .len false, [.tmp 9 false]⟩,
   ⟨(some 11), none, .move, [.val (.int .i64 0)]⟩])
 (.ghost (.kill [0, 6, 7, 8]) (.block 0 (.loop (.ghost (.kill k_index_Index_Entries_0) l_index_Index_Entries_0)))))
 (.ghost (.kill [5, 9, 10, 11, 12, 13, 14, 15, 16, 17, 18, 19, 20, 21, 22, 23, 24, 25]) (.seq (.region [⟨(some 26), none, .move, [.tmp 3 true]⟩,
   ⟨(some 27), none, .call n_slices_Clip_index_Entry_index_Entry_ false, [.tmp 26 true]⟩,
   ⟨(some 2), none, .move, [.tmp 27 true]⟩])
 (.ghost (.kill [3, 26, 27]) (.ret))))))), [.tmp 2]⟩
def l_index_Read_0 : ACode := .seq (.seq (.region [⟨(some 25), none, .move, [.tmp 2 false]⟩,
   ⟨(some 26), none, .len false, [.tmp 25 true]⟩,
   ⟨(some 27), none, .bin .gtr .plain, [.tmp 26 false, .val (.int .i64 0)]⟩])
 (.ghost (.kill [25, 26]) (.cond (.tmp 27 false) (.skip)
  (.ghost (.kill [0, 2, 27]) (.exit 0)))))
 (.ghost (.kill [27]) (.seq (.block 1 (.seq (.region [⟨(some 31), none, .move, [.tmp 2 false]⟩,
    ⟨(some 32), none, .call n_varint_Back false, [.tmp 31 true]⟩,
    ⟨(some 30), none, .move, [.tmp 32 false]⟩,
    ⟨(some 33), none, .move, [.proj 30 0 false]⟩,
    ⟨(some 34), none, .move, [.proj 30 1 false]⟩,
    ⟨(some 9), none, .move, [.tmp 33 false]⟩,
    ⟨(some 10), none, .move, [.tmp 34 false]⟩])
  (.ghost (.kill [10, 30, 31, 32, 33, 34]) (.seq (.region [⟨(some 36), none, .move, [.tmp 2 false]⟩,
    ⟨(some 37), none, .slice 1 true false false, [.tmp 36 true, .val (.int .i64 8)]⟩,
    ⟨(some 38), none, .call n_varint_Back false, [.tmp 37 true]⟩,
    ⟨(some 35), none, .move, [.tmp 38 false]⟩,
    ⟨(some 39), none, .move, [.proj 35 0 false]⟩,
    ⟨(some 40), none, .move, [.proj 35 1 false]⟩,
    ⟨(some 11), none, .move, [.tmp 39 false]⟩,
    ⟨(some 12), none, .move, [.tmp 40 false]⟩])
  (.ghost (.kill [12, 35, 36, 37, 38, 39, 40]) (.seq (.seq (.region [⟨(some 41), none, .move, [.tmp 9 false]⟩,
    ⟨(some 42), none, .bin .lss .plain, [.tmp 41 false, .val (.int .i64 0)]⟩,
    ⟨(some 43), none, .move, [.tmp 42 false]⟩,
    ⟨(some 44), (some (43, false)), .move, [.tmp 0 false]⟩,
    ⟨(some 45), (some (43, false)), .move, [.tmp 9 false]⟩,
    ⟨(some 46), (some (43, false)), .bin .add .plain, [.tmp 44 false, .tmp 45 false]⟩,
    ⟨(some 47), (some (43, false)), .move, [.tmp 0 false]⟩,
    ⟨(some 48), (some (43, false)), .bin .lss .plain, [.tmp 46 false, .tmp 47 false]⟩,
    ⟨(some 49), none, .pick, [.tmp 43 false, .val (.bool true), .tmp 48 false]⟩,
    ⟨(some 50), none, .move, [.tmp 49 false]⟩,
    ⟨(some 51), (some (50, false)), .move, [.tmp 11 false]⟩,
    ⟨(some 52), (some (50, false)), .bin .lss .plain, [.tmp 51 false, .val (.int .i64 0)]⟩,
    ⟨(some 53), none, .pick, [.tmp 50 false, .val (.bool true), .tmp 52 false]⟩])
  (.ghost (.kill [41, 42, 43, 44, 45, 46, 47, 48, 49, 50, 51, 52]) (.cond (.tmp 53 false) (.seq (.region [⟨(some 6), none, .move, [.val .nilp]⟩,
     ⟨(some 7), none, .move, [.val (.bool false)]⟩])
   (.ghost (.kill [0, 2, 8, 9, 11, 53]) (.ret)))
   (.skip))))
  (.ghost (.kill [53]) (.seq (.region [⟨(some 54), none, .move, [.tmp 8 false]⟩,
    ⟨(some 55), none, .move, [.tmp 8 false]⟩,
    ⟨(some 56), none, .nilCheck, [.tmp 55 false]⟩,
    ⟨(some 57), none, .addOff 2, [.tmp 56 false]⟩,
    ⟨(some 58), none, .load false 1 true, [.tmp 57 false]⟩,
    ⟨(some 59), none, .move, [.tmp 0 false]⟩,
    ⟨(some 60), none, .move, [.tmp 9 false]⟩,
    ⟨(some 61), none, .bin .add .plain, [.tmp 59 false, .tmp 60 false]⟩,
    ⟨(some 62), none, .move, [.tmp 11 false]⟩,
    ⟨(some 63), none, .move, [.tmp 11 false]⟩,
    ⟨(some 64), none, .bin .add .plain, [.tmp 63 false, .val (.int .i64 1)]⟩,
    ⟨(some 65), none, .build [.int .i64 0, .int .i64 0, .int .i64 0, .bool false] [(0, 1), (1, 1), (2, 1), (3, 1)], [.tmp 61 false, .tmp 62 false, .tmp 64 false, .val (.bool true)]⟩,
    ⟨(some 66), none, .buildSlice 4 (.agg [.int .i64 0, .int .i64 0, .int .i64 0, .bool false]) 1 [0], [.tmp 65 false]⟩,
    ⟨(some 67), none, .append 4 32 false, [.tmp 58 true, .tmp 66 true]⟩,
    ⟨(some 68), none, .nilCheck, [.tmp 54 false]⟩,
    ⟨(some 69), none, .addOff 2, [.tmp 68 false]⟩,
    ⟨none, none, .store 1, [.tmp 69 false, .tmp 67 true]⟩])
  (.ghost (.kill [9, 11, 54, 55, 56, 57, 58, 59, 60, 61, 62, 63, 64, 65, 66, 67, 68, 69]) (.seq (.region [⟨(some 70), none, .move, [.tmp 8 false]⟩,
    ⟨(some 71), none, .nilCheck, [.tmp 70 false]⟩,
    ⟨(some 72), none, .addOff 2, [.tmp 71 false]⟩,
    ⟨(some 73), none, .load false 1 false, [.tmp 72 false]⟩,
    ⟨(some 74), none, .len false, [.tmp 73 true]⟩,
    ⟨(some 13), none, .move, [.tmp 74 false]⟩])
  (.ghost (.kill [70, 71, 72, 73, 74]) (.seq (.draw [(⟨(some 75), none, .move, [.tmp 13 false]⟩, ⟨false, []⟩),
    (⟨(some 76), none, .bin .gtr .plain, [.tmp 75 false, .val (.int .i64 1)]⟩, ⟨false, []⟩),
    (⟨(some 77), none, .move, [.tmp 76 false]⟩, ⟨false, []⟩),
    (⟨(some 78), (some (77, true)), .move, [.tmp 8 false]⟩, ⟨false, []⟩),
    (⟨(some 79), (some (77, true)), .nilCheck, [.tmp 78 false]⟩, ⟨false, []⟩),
    (⟨(some 80), (some (77, true)), .addOff 2, [.tmp 79 false]⟩, ⟨false, []⟩),
    (⟨(some 81), (some (77, true)), .load false 1 false, [.tmp 80 false]⟩, ⟨false, []⟩),
    (⟨(some 82), (some (77, true)), .move, [.tmp 13 false]⟩, ⟨false, []⟩),
    (⟨(some 83), (some (77, true)), .bin .sub .plain, [.tmp 82 false, .val (.int .i64 1)]⟩, ⟨false, []⟩),
    (⟨(some 84), (some (77, true)), .ixAddr 4, [.tmp 81 true, .tmp 83 false]⟩, ⟨false, []⟩),
    (⟨(some 85), (some (77, true)), .addOff 0, [.tmp 84 false]⟩, ⟨false, []⟩),
    (⟨(some 86), (some (77, true)), .load false 1 false, [.tmp 85 false]⟩, ⟨false, []⟩),
    (⟨(some 87), (some (77, true)), .move, [.tmp 8 false]⟩, ⟨false, []⟩),
    (⟨(some 88), (some (77, true)), .nilCheck, [.tmp 87 false]⟩, ⟨false, []⟩),
    (⟨(some 89), (some (77, true)), .addOff 2, [.tmp 88 false]⟩, ⟨false, []⟩),
    (⟨(some 90), (some (77, true)), .load false 1 false, [.tmp 89 false]⟩, ⟨false, []⟩),
    (⟨(some 91), (some (77, true)), .move, [.tmp 13 false]⟩, ⟨false, []⟩),
    (⟨(some 92), (some (77, true)), .bin .sub .plain, [.tmp 91 false, .val (.int .i64 2)]⟩, ⟨false, []⟩),
    (⟨(some 93), (some (77, true)), .ixAddr 4, [.tmp 90 true, .tmp 92 false]⟩, ⟨false, []⟩),
    (⟨(some 94), (some (77, true)), .addOff 0, [.tmp 93 false]⟩, ⟨false, []⟩),
    (⟨(some 95), (some (77, true)), .load false 1 false, [.tmp 94 false]⟩, ⟨false, []⟩),
    (⟨(some 96), (some (77, true)), .bin .leq .plain, [.tmp 86 false, .tmp 95 false]⟩, ⟨false, []⟩),
    (⟨(some 97), (some (77, true)), .move, [.tmp 96 false]⟩, ⟨false, []⟩),
    (⟨(some 98), (some (97, false)), .move, [.tmp 8 false]⟩, ⟨false, []⟩),
    (⟨(some 99), (some (97, false)), .nilCheck, [.tmp 98 false]⟩, ⟨false, []⟩),
    (⟨(some 100), (some (97, false)), .addOff 2, [.tmp 99 false]⟩, ⟨false, []⟩),
    (⟨(some 101), (some (97, false)), .load false 1 false, [.tmp 100 false]⟩, ⟨false, []⟩),
    (⟨(some 102), (some (97, false)), .move, [.tmp 13 false]⟩, ⟨false, []⟩),
    (⟨(some 103), (some (97, false)), .bin .sub .plain, [.tmp 102 false, .val (.int .i64 1)]⟩, ⟨false, []⟩),
    (⟨(some 104), (some (97, false)), .ixAddr 4, [.tmp 101 true, .tmp 103 false]⟩, ⟨false, []⟩),
    (⟨(some 105), (some (97, false)), .addOff 1, [.tmp 104 false]⟩, ⟨false, []⟩),
    (⟨(some 106), (some (97, false)), .load false 1 false, [.tmp 105 false]⟩, ⟨false, []⟩),
    (⟨(some 107), (some (97, false)), .move, [.tmp 8 false]⟩, ⟨false, []⟩),
    (⟨(some 108), (some (97, false)), .nilCheck, [.tmp 107 false]⟩, ⟨false, []⟩),
    (⟨(some 109), (some (97, false)), .addOff 2, [.tmp 108 false]⟩, ⟨false, []⟩),
    (⟨(some 110), (some (97, false)), .load false 1 false, [.tmp 109 false]⟩, ⟨false, []⟩),
    (⟨(some 111), (some (97, false)), .move, [.tmp 13 false]⟩, ⟨false, []⟩),
    (⟨(some 112), (some (97, false)), .bin .sub .plain, [.tmp 111 false, .val (.int .i64 2)]⟩, ⟨false, []⟩),
    (⟨(some 113), (some (97, false)), .ixAddr 4, [.tmp 110 true, .tmp 112 false]⟩, ⟨false, []⟩),
    (⟨(some 114), (some (97, false)), .addOff 1, [.tmp 113 false]⟩, ⟨false, []⟩),
    (⟨(some 115), (some (97, false)), .load false 1 false, [.tmp 114 false]⟩, ⟨false, []⟩),
    (⟨(some 116), (some (97, false)), .bin .leq .plain, [.tmp 106 false, .tmp 115 false]⟩, ⟨false, []⟩),
    (⟨(some 117), (some (77, true)), .pick, [.tmp 97 false, .val (.bool true), .tmp 116 false]⟩, ⟨false, []⟩),
    (⟨(some 118), none, .pick, [.tmp 77 false, .tmp 117 false, .val (.bool false)]⟩, ⟨false, []⟩)])
  (.ghost (.kill [13, 75, 76, 77, 78, 79, 80, 81, 82, 83, 84, 85, 86, 87, 88, 89, 90, 91, 92, 93, 94, 95, 96, 97, 98, 99, 100, 101, 102, 103, 104, 105, 106, 107, 108, 109, 110, 111, 112, 113, 114, 115, 116, 117]) (.cond (.tmp 118 false) (.seq (.region [⟨(some 6), none, .move, [.val .nilp]⟩,
     ⟨(some 7), none, .move, [.val (.bool false)]⟩])
   (.ghost (.kill [0, 2, 8, 118]) (.ret)))
   (.skip)))))))))))))))
 (.ghost (.kill [118]) (.region [⟨(some 28), none, .move, [.tmp 2 true]⟩,
   ⟨(some 29), none, .slice 1 true false false, [.tmp 28 true, .val (.int .i64 16)]⟩,
   ⟨(some 2), none, .move, [.tmp 29 true]⟩]))))
def k_index_Read_0 : List Nat := [6, 7, 9, 10, 11, 12, 13, 25, 26, 27, 28, 29, 30, 31, 32, 33, 34, 35, 36, 37, 38, 39, 40, 41, 42, 43, 44, 45, 46, 47, 48, 49, 50, 51, 52, 53, 54, 55, 56, 57, 58, 59, 60, 61, 62, 63, 64, 65, 66, 67, 68, 69, 70, 71, 72, 73, 74, 75, 76, 77, 78, 79, 80, 81, 82, 83, 84, 85, 86, 87, 88, 89, 90, 91, 92, 93, 94, 95, 96, 97, 98, 99, 100, 101, 102, 103, 104, 105, 106, 107, 108, 109, 110, 111, 112, 113, 114, 115, 116, 117, 118]
def c_index_Read : AFunc := ⟨120, true, .seq (.region [⟨(some 6), none, .move, [.val .nilp]⟩,
   ⟨(some 7), none, .move, [.val (.bool false)]⟩])
 (.ghost (.kill [6, 7]) (.seq (.region [⟨(some 14), none, .move, [.tmp 0 false]⟩,
   ⟨(some 15), none, .move, [.tmp 1 false]⟩,
   ⟨(some 16), none, .call n_index_New false, [.tmp 14 false, .tmp 15 false]⟩,
   ⟨(some 8), none, .move, [.tmp 16 false]⟩])
 (.ghost (.kill [1, 14, 15, 16]) (.seq (.seq (.region [⟨(some 17), none, .move, [.tmp 8 false]⟩,
   ⟨(some 18), none, .bin .eql .ptr, [.tmp 17 false, .val .nilp]⟩,
   ⟨(some 19), none, .move, [.tmp 18 false]⟩,
   ⟨(some 20), (some (19, false)), .move, [.tmp 2 false]⟩,
   ⟨(some 21), (some (19, false)), .len false, [.tmp 20 true]⟩,
   ⟨(some 22), (some (19, false)), .bin .rem .plain, [.tmp 21 false, .val (.int .i64 16)]⟩,
   ⟨(some 23), (some (19, false)), .bin .gtr .plain, [.tmp 22 false, .val (.int .i64 0)]⟩,
   ⟨(some 24), none, .pick, [.tmp 19 false, .val (.bool true), .tmp 23 false]⟩])
 (.ghost (.kill [17, 18, 19, 20, 21, 22, 23]) (.cond (.tmp 24 false) (.seq (.region [⟨(some 6), none, .move, [.val .nilp]⟩,
    ⟨(some 7), none, .move, [.val (.bool false)]⟩])
  (.ghost (.kill [0, 2, 8, 24]) (.ret)))
  (.skip))))
 (.ghost (.kill [24]) (.seq (.block 0 (.loop (.ghost (.kill k_index_Read_0) l_index_Read_0)))
 (.ghost (.kill [0, 2, 6, 7, 9, 10, 11, 12, 13, 25, 26, 27, 28, 29, 30, 31, 32, 33, 34, 35, 36, 37, 38, 39, 40, 41, 42, 43, 44, 45, 46, 47, 48, 49, 50, 51, 52, 53, 54, 55, 56, 57, 58, 59, 60, 61, 62, 63, 64, 65, 66, 67, 68, 69, 70, 71, 72, 73, 74, 75, 76, 77, 78, 79, 80, 81, 82, 83, 84, 85, 86, 87, 88, 89, 90, 91, 92, 93, 94, 95, 96, 97, 98, 99, 100, 101, 102, 103, 104, 105, 106, 107, 108, 109, 110, 111, 112, 113, 114, 115, 116, 117, 118]) (.seq (.region [⟨(some 119), none, .move, [.tmp 8 false]⟩,
   ⟨(some 6), none, .move, [.tmp 119 false]⟩,
   ⟨(some 7), none, .move, [.val (.bool true)]⟩])
 (.ghost (.kill [8, 119]) (.ret)))))))))), [.tmp 6, .tmp 7]⟩
def l_law8_plain_find_0 : ACode := .seq (.region [⟨(some 14), none, .bin .lss .plain, [.tmp 13 false, .tmp 12 false]⟩])
 (.seq (.cond (.tmp 14 false) (.skip)
  (.ghost (.kill [1, 11, 12, 13, 14]) (.exit 0)))
 (.ghost (.kill [14]) (.seq (.block 1 (.seq (.region [⟨(some 15), none, .ixAddr 2, [.tmp 11 false, .tmp 13 false]⟩,
    ⟨(some 16), none, .load true 2 false, [.tmp 15 false]⟩,
    ⟨(some 7), none, .alloc [.int .i64 0, .int .i64 0], []⟩,
    ⟨none, none, .store 2, [.tmp 7 false, .tmp 16 false]⟩])
  (.ghost (.kill [15, 16]) (.seq (.region [⟨(some 17), none, .addOff 0, [.tmp 7 false]⟩,
    ⟨(some 18), none, .load false 1 false, [.tmp 17 false]⟩,
    ⟨(some 19), none, .move, [.tmp 1 false]⟩,
    ⟨(some 20), none, .bin .leq .plain, [.tmp 18 false, .tmp 19 false]⟩])
  (.ghost (.kill [17, 18, 19]) (.cond (.tmp 20 false) (.region [⟨(some 21), none, .addOff 1, [.tmp 7 false]⟩,
     ⟨(some 22), none, .load false 1 false, [.tmp 21 false]⟩,
     ⟨(some 5), none, .move, [.tmp 22 false]⟩])
   (.skip)))))))
 (.ghost (.kill [7, 20, 21, 22]) (.region [⟨(some 23), none, .bin .add .plain, [.tmp 13 false, .val (.int .i64 1)]⟩,
   ⟨(some 13), none, .move, [.tmp 23 false]⟩])))))
def k_law8_plain_find_0 : List Nat := [7, 14, 15, 16, 17, 18, 19, 20, 21, 22, 23]
def c_law8_plain_find : AFunc := ⟨25, false, .seq (.region [⟨(some 4), none, .move, [.val (.int .i64 0)]⟩])
 (.ghost (.kill [4]) (.seq (.region [⟨(some 5), none, .move, [.val (.int .i64 0)]⟩])
 (.seq (.seq (.region [⟨(some 8), none, .move, [.tmp 0 false]⟩,
   ⟨(some 9), none, .nilCheck, [.tmp 8 false]⟩,
   ⟨(some 10), none, .addOff 4, [.tmp 9 false]⟩,
   ⟨(some 11), none, .load false 1 false, [.tmp 10 false]⟩,
   ⟨(some 12), none, .len false, [.tmp 11 false]⟩,
   ⟨(some 13), none, .move, [.val (.int .i64 0)]⟩])
 (.ghost (.kill [0, 8, 9, 10]) (.block 0 (.loop (.ghost (.kill k_law8_plain_find_0) l_law8_plain_find_0)))))
 (.ghost (.kill [1, 7, 11, 12, 13, 14, 15, 16, 17, 18, 19, 20, 21, 22, 23]) (.seq (.region [⟨(some 24), none, .move, [.tmp 5 false]⟩,
   ⟨(some 4), none, .move, [.tmp 24 false]⟩])
 (.ghost (.kill [5, 24]) (.ret))))))), [.tmp 4]⟩
def c_law8_plain_add : AFunc := ⟨89, false, .seq (.region [⟨(some 8), none, .move, [.val (.bool false)]⟩])
 (.ghost (.kill [8]) (.seq (.seq (.region [⟨(some 10), none, .move, [.tmp 1 false]⟩,
   ⟨(some 11), none, .move, [.tmp 0 false]⟩,
   ⟨(some 12), none, .nilCheck, [.tmp 11 false]⟩,
   ⟨(some 13), none, .addOff 0, [.tmp 12 false]⟩,
   ⟨(some 14), none, .load false 1 false, [.tmp 13 false]⟩,
   ⟨(some 15), none, .bin .lss .plain, [.tmp 10 false, .tmp 14 false]⟩,
   ⟨(some 16), none, .move, [.tmp 15 false]⟩,
   ⟨(some 17), (some (16, false)), .move, [.tmp 1 false]⟩,
   ⟨(some 18), (some (16, false)), .move, [.tmp 0 false]⟩,
   ⟨(some 19), (some (16, false)), .nilCheck, [.tmp 18 false]⟩,
   ⟨(some 20), (some (16, false)), .addOff 1, [.tmp 19 false]⟩,
   ⟨(some 21), (some (16, false)), .load false 1 false, [.tmp 20 false]⟩,
   ⟨(some 22), (some (16, false)), .bin .leq .plain, [.tmp 17 false, .tmp 21 false]⟩,
   ⟨(some 23), none, .pick, [.tmp 16 false, .val (.bool true), .tmp 22 false]⟩,
   ⟨(some 24), none, .move, [.tmp 23 false]⟩,
   ⟨(some 25), (some (24, false)), .move, [.tmp 2 false]⟩,
   ⟨(some 26), (some (24, false)), .bin .lss .plain, [.tmp 25 false, .val (.int .i64 0)]⟩,
   ⟨(some 27), none, .pick, [.tmp 24 false, .val (.bool true), .tmp 26 false]⟩,
   ⟨(some 28), none, .move, [.tmp 27 false]⟩,
   ⟨(some 29), (some (28, false)), .move, [.tmp 2 false]⟩,
   ⟨(some 30), (some (28, false)), .move, [.tmp 0 false]⟩,
   ⟨(some 31), (some (28, false)), .nilCheck, [.tmp 30 false]⟩,
   ⟨(some 32), (some (28, false)), .addOff 3, [.tmp 31 false]⟩,
   ⟨(some 33), (some (28, false)), .load false 1 false, [.tmp 32 false]⟩,
   ⟨(some 34), (some (28, false)), .bin .lss .plain, [.tmp 29 false, .tmp 33 false]⟩,
   ⟨(some 35), none, .pick, [.tmp 28 false, .val (.bool true), .tmp 34 false]⟩,
   ⟨(some 36), none, .move, [.tmp 35 false]⟩,
   ⟨(some 37), (some (36, false)), .move, [.tmp 3 false]⟩,
   ⟨(some 38), (some (36, false)), .bin .lss .plain, [.tmp 37 false, .val (.int .i64 1)]⟩,
   ⟨(some 39), none, .pick, [.tmp 36 false, .val (.bool true), .tmp 38 false]⟩])
 (.ghost (.kill [10, 11, 12, 13, 14, 15, 16, 17, 18, 19, 20, 21, 22, 23, 24, 25, 26, 27, 28, 29, 30, 31, 32, 33, 34, 35, 36, 37, 38]) (.cond (.tmp 39 false) (.seq (.region [⟨(some 8), none, .move, [.val (.bool false)]⟩])
  (.ghost (.kill [0, 1, 2, 3, 39]) (.ret)))
  (.skip))))
 (.ghost (.kill [39]) (.seq (.seq (.region [⟨(some 40), none, .move, [.tmp 0 false]⟩,
   ⟨(some 41), none, .nilCheck, [.tmp 40 false]⟩,
   ⟨(some 42), none, .addOff 4, [.tmp 41 false]⟩,
   ⟨(some 43), none, .load false 1 false, [.tmp 42 false]⟩,
   ⟨(some 44), none, .len false, [.tmp 43 true]⟩,
   ⟨(some 9), none, .move, [.tmp 44 false]⟩])
 (.ghost (.kill [40, 41, 42, 43, 44]) (.seq (.draw [(⟨(some 45), none, .move, [.tmp 9 false]⟩, ⟨false, []⟩),
   (⟨(some 46), none, .bin .eql .plain, [.tmp 45 false, .val (.int .i64 0)]⟩, ⟨false, []⟩),
   (⟨(some 47), none, .move, [.tmp 46 false]⟩, ⟨false, []⟩),
   (⟨(some 48), (some (47, false)), .move, [.tmp 2 false]⟩, ⟨false, []⟩),
   (⟨(some 49), (some (47, false)), .move, [.tmp 0 false]⟩, ⟨false, []⟩),
   (⟨(some 50), (some (47, false)), .nilCheck, [.tmp 49 false]⟩, ⟨false, []⟩),
   (⟨(some 51), (some (47, false)), .addOff 4, [.tmp 50 false]⟩, ⟨false, []⟩),
   (⟨(some 52), (some (47, false)), .load false 1 false, [.tmp 51 false]⟩, ⟨false, []⟩),
   (⟨(some 53), (some (47, false)), .move, [.tmp 9 false]⟩, ⟨false, []⟩),
   (⟨(some 54), (some (47, false)), .bin .sub .plain, [.tmp 53 false, .val (.int .i64 1)]⟩, ⟨false, []⟩),
   (⟨(some 55), (some (47, false)), .ixAddr 2, [.tmp 52 true, .tmp 54 false]⟩, ⟨false, []⟩),
   (⟨(some 56), (some (47, false)), .addOff 1, [.tmp 55 false]⟩, ⟨false, []⟩),
   (⟨(some 57), (some (47, false)), .load false 1 false, [.tmp 56 false]⟩, ⟨false, []⟩),
   (⟨(some 58), (some (47, false)), .bin .sub .plain, [.tmp 48 false, .tmp 57 false]⟩, ⟨false, []⟩),
   (⟨(some 59), (some (47, false)), .move, [.tmp 0 false]⟩, ⟨false, []⟩),
   (⟨(some 60), (some (47, false)), .nilCheck, [.tmp 59 false]⟩, ⟨false, []⟩),
   (⟨(some 61), (some (47, false)), .addOff 2, [.tmp 60 false]⟩, ⟨false, []⟩),
   (⟨(some 62), (some (47, false)), .load false 1 false, [.tmp 61 false]⟩, ⟨false, []⟩),
   (⟨(some 63), (some (47, false)), .bin .geq .plain, [.tmp 58 false, .tmp 62 false]⟩, ⟨false, []⟩),
   (⟨(some 64), none, .pick, [.tmp 47 false, .val (.bool true), .tmp 63 false]⟩, ⟨false, []⟩)])
 (.ghost (.kill [9, 45, 46, 47, 48, 49, 50, 51, 52, 53, 54, 55, 56, 57, 58, 59, 60, 61, 62, 63]) (.cond (.tmp 64 false) (.region [⟨(some 65), none, .move, [.tmp 0 false]⟩,
    ⟨(some 66), none, .buildSlice 2 (.agg [.int .i64 0, .int .i64 0]) 0 [], []⟩,
    ⟨(some 67), none, .move, [.tmp 0 false]⟩,
    ⟨(some 68), none, .nilCheck, [.tmp 67 false]⟩,
    ⟨(some 69), none, .addOff 4, [.tmp 68 false]⟩,
    ⟨(some 70), none, .load false 1 false, [.tmp 69 false]⟩,
    ⟨(some 71), none, .append 2 16 false, [.tmp 66 true, .tmp 70 true]⟩,
    ⟨(some 72), none, .move, [.tmp 1 false]⟩,
    ⟨(some 73), none, .move, [.tmp 2 false]⟩,
    ⟨(some 74), none, .build [.int .i64 0, .int .i64 0] [(0, 1), (1, 1)], [.tmp 72 false, .tmp 73 false]⟩,
    ⟨(some 75), none, .buildSlice 2 (.agg [.int .i64 0, .int .i64 0]) 1 [0], [.tmp 74 false]⟩,
    ⟨(some 76), none, .append 2 16 false, [.tmp 71 true, .tmp 75 true]⟩,
    ⟨(some 77), none, .nilCheck, [.tmp 65 false]⟩,
    ⟨(some 78), none, .addOff 4, [.tmp 77 false]⟩,
    ⟨none, none, .store 1, [.tmp 78 false, .tmp 76 true]⟩])
  (.skip))))))
 (.ghost (.kill [64, 65, 66, 67, 68, 69, 70, 71, 72, 73, 74, 75, 76, 77, 78]) (.seq (.region [⟨(some 79), none, .move, [.tmp 0 false]⟩,
   ⟨(some 80), none, .move, [.tmp 0 false]⟩,
   ⟨(some 81), none, .move, [.tmp 1 false]⟩,
   ⟨(some 82), none, .move, [.tmp 2 false]⟩,
   ⟨(some 83), none, .move, [.tmp 3 false]⟩,
   ⟨(some 84), none, .bin .add .plain, [.tmp 82 false, .tmp 83 false]⟩,
   ⟨(some 85), none, .nilCheck, [.tmp 79 false]⟩,
   ⟨(some 86), none, .addOff 1, [.tmp 85 false]⟩,
   ⟨none, none, .store 1, [.tmp 86 false, .tmp 81 false]⟩,
   ⟨(some 87), none, .nilCheck, [.tmp 80 false]⟩,
   ⟨(some 88), none, .addOff 3, [.tmp 87 false]⟩,
   ⟨none, none, .store 1, [.tmp 88 false, .tmp 84 false]⟩])
 (.ghost (.kill [0, 1, 2, 3, 79, 80, 81, 82, 83, 84, 85, 86, 87, 88]) (.seq (.region [⟨(some 8), none, .move, [.val (.bool true)]⟩])
 (.ret))))))))), [.tmp 8]⟩
def l_law8_same_0 : ACode := .seq (.region [⟨(some 21), none, .bin .lss .plain, [.tmp 20 false, .tmp 19 false]⟩])
 (.seq (.cond (.tmp 21 false) (.skip)
  (.ghost (.kill [1, 5, 19, 20, 21]) (.exit 0)))
 (.ghost (.kill [21]) (.seq (.block 1 (.seq (.region [⟨(some 22), none, .move, [.tmp 20 false]⟩,
    ⟨(some 7), none, .move, [.tmp 22 false]⟩])
  (.ghost (.kill [22]) (.seq (.seq (.draw [(⟨(some 23), none, .move, [.tmp 5 false]⟩, ⟨false, []⟩),
    (⟨(some 24), none, .move, [.tmp 7 false]⟩, ⟨false, []⟩),
    (⟨(some 25), none, .ixAddr 2, [.tmp 23 true, .tmp 24 false]⟩, ⟨false, []⟩),
    (⟨(some 26), none, .load true 2 false, [.tmp 25 false]⟩, ⟨false, []⟩),
    (⟨(some 27), none, .move, [.tmp 1 false]⟩, ⟨false, []⟩),
    (⟨(some 28), none, .nilCheck, [.tmp 27 false]⟩, ⟨false, []⟩),
    (⟨(some 29), none, .addOff 4, [.tmp 28 false]⟩, ⟨false, []⟩),
    (⟨(some 30), none, .load false 1 false, [.tmp 29 false]⟩, ⟨false, []⟩),
    (⟨(some 31), none, .move, [.tmp 7 false]⟩, ⟨false, []⟩),
    (⟨(some 32), none, .ixAddr 2, [.tmp 30 true, .tmp 31 false]⟩, ⟨false, []⟩),
    (⟨(some 33), none, .load true 2 false, [.tmp 32 false]⟩, ⟨false, []⟩),
    (⟨(some 34), none, .bin .neq (.agg [.int .i64, .int .i64]), [.tmp 26 false, .tmp 33 false]⟩, ⟨false, []⟩)])
  (.ghost (.kill [23, 24, 25, 26, 27, 28, 29, 30, 31, 32, 33]) (.cond (.tmp 34 false) (.seq (.region [⟨(some 4), none, .move, [.val (.bool false)]⟩])
   (.ghost (.kill [0, 1, 5, 6, 7, 19, 20, 34]) (.ret)))
   (.skip))))
  (.ghost (.kill [34]) (.draw [(⟨(some 35), none, .move, [.tmp 6 true]⟩, ⟨false, []⟩),
    (⟨(some 36), none, .move, [.tmp 5 false]⟩, ⟨false, []⟩),
    (⟨(some 37), none, .move, [.tmp 7 false]⟩, ⟨false, []⟩),
    (⟨(some 38), none, .ixAddr 2, [.tmp 36 true, .tmp 37 false]⟩, ⟨false, []⟩),
    (⟨(some 39), none, .addOff 0, [.tmp 38 false]⟩, ⟨false, []⟩),
    (⟨(some 40), none, .load false 1 false, [.tmp 39 false]⟩, ⟨false, []⟩),
    (⟨(some 41), none, .move, [.tmp 1 false]⟩, ⟨false, []⟩),
    (⟨(some 42), none, .nilCheck, [.tmp 41 false]⟩, ⟨false, []⟩),
    (⟨(some 43), none, .addOff 0, [.tmp 42 false]⟩, ⟨false, []⟩),
    (⟨(some 44), none, .load false 1 false, [.tmp 43 false]⟩, ⟨false, []⟩),
    (⟨(some 45), none, .bin .sub .plain, [.tmp 40 false, .tmp 44 false]⟩, ⟨false, []⟩),
    (⟨(some 46), none, .call n_ref1_Long false, [.tmp 35 true, .tmp 45 false]⟩, ⟨true, []⟩),
    (⟨(some 47), none, .move, [.tmp 5 false]⟩, ⟨false, [11]⟩),
    (⟨(some 48), none, .move, [.tmp 7 false]⟩, ⟨false, [11]⟩),
    (⟨(some 49), none, .ixAddr 2, [.tmp 47 true, .tmp 48 false]⟩, ⟨false, [11]⟩),
    (⟨(some 50), none, .addOff 1, [.tmp 49 false]⟩, ⟨false, [11]⟩),
    (⟨(some 51), none, .load false 1 false, [.tmp 50 false]⟩, ⟨false, [11]⟩),
    (⟨(some 52), none, .call n_ref1_Long false, [.tmp 46 true, .tmp 51 false]⟩, ⟨true, []⟩),
    (⟨(some 6), none, .move, [.tmp 52 true]⟩, ⟨false, []⟩)]))))))
 (.ghost (.kill [7, 35, 36, 37, 38, 39, 40, 41, 42, 43, 44, 45, 46, 47, 48, 49, 50, 51, 52]) (.region [⟨(some 53), none, .bin .add .plain, [.tmp 20 false, .val (.int .i64 1)]⟩,
   ⟨(some 20), none, .move, [.tmp 53 false]⟩])))))
def k_law8_same_0 : List Nat := [4, 7, 21, 22, 23, 24, 25, 26, 27, 28, 29, 30, 31, 32, 33, 34, 35, 36, 37, 38, 39, 40, 41, 42, 43, 44, 45, 46, 47, 48, 49, 50, 51, 52, 53]
def c_law8_same : AFunc := ⟨60, false, .seq (.region [⟨(some 4), none, .move, [.val (.bool false)]⟩])
 (.ghost (.kill [4]) (.seq (.region [⟨(some 8), none, .move, [.tmp 0 false]⟩,
   ⟨(some 9), none, .call n_index_Index_Entries false, [.tmp 8 false]⟩,
   ⟨(some 5), none, .move, [.tmp 9 true]⟩])
 (.ghost (.kill [8, 9]) (.seq (.seq (.region [⟨(some 10), none, .move, [.tmp 5 false]⟩,
   ⟨(some 11), none, .len false, [.tmp 10 true]⟩,
   ⟨(some 12), none, .move, [.tmp 1 false]⟩,
   ⟨(some 13), none, .nilCheck, [.tmp 12 false]⟩,
   ⟨(some 14), none, .addOff 4, [.tmp 13 false]⟩,
   ⟨(some 15), none, .load false 1 false, [.tmp 14 false]⟩,
   ⟨(some 16), none, .len false, [.tmp 15 true]⟩,
   ⟨(some 17), none, .bin .neq .plain, [.tmp 11 false, .tmp 16 false]⟩])
 (.ghost (.kill [10, 11, 12, 13, 14, 15, 16]) (.cond (.tmp 17 false) (.seq (.region [⟨(some 4), none, .move, [.val (.bool false)]⟩])
  (.ghost (.kill [0, 1, 5, 17]) (.ret)))
  (.skip))))
 (.ghost (.kill [17]) (.seq (.region [⟨(some 6), none, .move, [.val (.list 1 [] .full)]⟩])
 (.seq (.seq (.region [⟨(some 18), none, .move, [.tmp 5 false]⟩,
   ⟨(some 19), none, .len false, [.tmp 18 true]⟩,
   ⟨(some 20), none, .move, [.val (.int .i64 0)]⟩])
 (.ghost (.kill [18]) (.block 0 (.loop (.ghost (.kill k_law8_same_0) l_law8_same_0)))))
 (.ghost (.kill [1, 4, 5, 7, 19, 20, 21, 22, 23, 24, 25, 26, 27, 28, 29, 30, 31, 32, 33, 34, 35, 36, 37, 38, 39, 40, 41, 42, 43, 44, 45, 46, 47, 48, 49, 50, 51, 52, 53]) (.seq (.draw [(⟨(some 54), none, .move, [.tmp 0 false]⟩, ⟨false, []⟩),
   (⟨(some 55), none, .call n_index_Index_Bytes false, [.tmp 54 false]⟩, ⟨true, []⟩),
   (⟨(some 56), none, .toStr, [.tmp 55 true]⟩, ⟨false, []⟩),
   (⟨(some 57), none, .move, [.tmp 6 true]⟩, ⟨false, [1]⟩),
   (⟨(some 58), none, .toStr, [.tmp 57 true]⟩, ⟨false, [1]⟩),
   (⟨(some 59), none, .bin .eql .plain, [.tmp 56 false, .tmp 58 false]⟩, ⟨false, []⟩),
   (⟨(some 4), none, .move, [.tmp 59 false]⟩, ⟨false, []⟩)])
 (.ghost (.kill [0, 6, 54, 55, 56, 57, 58, 59]) (.ret))))))))))), [.tmp 4]⟩
def l_index_Index_last_0 : ACode := .seq (.seq (.region [⟨(some 11), none, .move, [.tmp 4 false]⟩,
   ⟨(some 12), none, .bin .geq .plain, [.tmp 11 false, .val (.int .i64 0)]⟩])
 (.ghost (.kill [11]) (.cond (.tmp 12 false) (.skip)
  (.ghost (.kill [0, 4, 12]) (.exit 0)))))
 (.ghost (.kill [12]) (.seq (.block 1 (.seq (.region [⟨(some 15), none, .move, [.tmp 0 false]⟩,
    ⟨(some 16), none, .nilCheck, [.tmp 15 false]⟩,
    ⟨(some 17), none, .addOff 2, [.tmp 16 false]⟩,
    ⟨(some 18), none, .load false 1 false, [.tmp 17 false]⟩,
    ⟨(some 19), none, .move, [.tmp 4 false]⟩,
    ⟨(some 20), none, .ixAddr 4, [.tmp 18 true, .tmp 19 false]⟩,
    ⟨(some 21), none, .addOff 3, [.tmp 20 false]⟩,
    ⟨(some 22), none, .load false 1 false, [.tmp 21 false]⟩])
  (.ghost (.kill [15, 16, 17, 18, 19, 20, 21]) (.cond (.tmp 22 false) (.seq (.region [⟨(some 23), none, .move, [.tmp 0 false]⟩,
     ⟨(some 24), none, .nilCheck, [.tmp 23 false]⟩,
     ⟨(some 25), none, .addOff 2, [.tmp 24 false]⟩,
     ⟨(some 26), none, .load false 1 false, [.tmp 25 false]⟩,
     ⟨(some 27), none, .move, [.tmp 4 false]⟩,
     ⟨(some 28), none, .ixAddr 4, [.tmp 26 true, .tmp 27 false]⟩,
     ⟨(some 29), none, .load true 4 false, [.tmp 28 false]⟩,
     ⟨none, none, .store 4, [.tmp 2 false, .tmp 29 false]⟩,
     ⟨(some 3), none, .move, [.val (.bool true)]⟩])
   (.ghost (.kill [0, 4, 22, 23, 24, 25, 26, 27, 28, 29]) (.ret)))
   (.skip)))))
 (.ghost (.kill [22]) (.region [⟨(some 13), none, .move, [.tmp 4 false]⟩,
   ⟨(some 14), none, .bin .sub .plain, [.tmp 13 false, .val (.int .i64 1)]⟩,
   ⟨(some 4), none, .move, [.tmp 14 false]⟩]))))
def k_index_Index_last_0 : List Nat := [3, 11, 12, 13, 14, 15, 16, 17, 18, 19, 20, 21, 22, 23, 24, 25, 26, 27, 28, 29]
def c_index_Index_last : AFunc := ⟨31, false, .seq (.region [⟨(some 2), none, .alloc [.int .i64 0, .int .i64 0, .int .i64 0, .bool false], []⟩,
   ⟨(some 3), none, .move, [.val (.bool false)]⟩])
 (.ghost (.kill [3]) (.seq (.seq (.region [⟨(some 5), none, .move, [.tmp 0 false]⟩,
   ⟨(some 6), none, .nilCheck, [.tmp 5 false]⟩,
   ⟨(some 7), none, .addOff 2, [.tmp 6 false]⟩,
   ⟨(some 8), none, .load false 1 false, [.tmp 7 false]⟩,
   ⟨(some 9), none, .len false, [.tmp 8 true]⟩,
   ⟨(some 10), none, .bin .sub .plain, [.tmp 9 false, .val (.int .i64 1)]⟩,
   ⟨(some 4), none, .move, [.tmp 10 false]⟩])
 (.ghost (.kill [5, 6, 7, 8, 9, 10]) (.block 0 (.loop (.ghost (.kill k_index_Index_last_0) l_index_Index_last_0)))))
 (.ghost (.kill [0, 3, 4, 11, 12, 13, 14, 15, 16, 17, 18, 19, 20, 21, 22, 23, 24, 25, 26, 27, 28, 29]) (.seq (.region [⟨(some 30), none, .build [.int .i64 0, .int .i64 0, .int .i64 0, .bool false] [], []⟩,
   ⟨none, none, .store 4, [.tmp 2 false, .tmp 30 false]⟩,
   ⟨(some 3), none, .move, [.val (.bool false)]⟩])
 (.ghost (.kill [30]) (.ret)))))), [.cell 2 true 4, .tmp 3]⟩
def l_sort_Search_0 : ACode := .seq (.seq (.region [⟨(some 9), none, .move, [.tmp 5 false]⟩,
   ⟨(some 10), none, .move, [.tmp 6 false]⟩,
   ⟨(some 11), none, .bin .lss .plain, [.tmp 9 false, .tmp 10 false]⟩])
 (.ghost (.kill [9, 10]) (.cond (.tmp 11 false) (.skip)
  (.ghost (.kill [1, 6, 11]) (.exit 0)))))
 (.ghost (.kill [11]) (.block 1 (.seq (.region [⟨(some 12), none, .move, [.tmp 5 false]⟩,
    ⟨(some 13), none, .move, [.tmp 6 false]⟩,
    ⟨(some 14), none, .bin .add .plain, [.tmp 12 false, .tmp 13 false]⟩,
    ⟨(some 15), none, .toInt .u64, [.tmp 14 false]⟩,
    ⟨(some 16), none, .bin .shr .plain, [.tmp 15 false, .val (.int .u64 1)]⟩,
    ⟨(some 17), none, .toInt .i64, [.tmp 16 false]⟩,
    ⟨(some 7), none, .move, [.tmp 17 false]⟩])
  (.ghost (.kill [12, 13, 14, 15, 16, 17]) (.seq (.region [⟨(some 18), none, .move, [.tmp 1 false]⟩,
    ⟨(some 19), none, .move, [.tmp 7 false]⟩,
    ⟨(some 20), none, .callv, [.tmp 18 false, .tmp 19 false]⟩,
    ⟨(some 21), none, .un .not, [.tmp 20 false]⟩])
  (.ghost (.kill [18, 19, 20]) (.cond (.tmp 21 false) (.region [⟨(some 22), none, .move, [.tmp 7 false]⟩,
     ⟨(some 23), none, .bin .add .plain, [.tmp 22 false, .val (.int .i64 1)]⟩,
     ⟨(some 5), none, .move, [.tmp 23 false]⟩])
   (.region [⟨(some 24), none, .move, [.tmp 7 false]⟩,
     ⟨(some 6), none, .move, [.tmp 24 false]⟩]))))))))
def k_sort_Search_0 : List Nat := [7, 9, 10, 11, 12, 13, 14, 15, 16, 17, 18, 19, 20, 21, 22, 23, 24]
def c_sort_Search : AFunc := ⟨26, false, .seq (.region [⟨(some 4), none, .move, [.val (.int .i64 0)]⟩])
 (.ghost (.kill [4]) (.seq (.region [⟨(some 8), none, .move, [.tmp 0 false]⟩,
   ⟨(some 5), none, .move, [.val (.int .i64 0)]⟩,
   ⟨(some 6), none, .move, [.tmp 8 false]⟩])
 (.ghost (.kill [0, 8]) (.seq (.block 0 (.loop (.ghost (.kill k_sort_Search_0) l_sort_Search_0)))
 (.ghost (.kill [1, 6, 7, 9, 10, 11, 12, 13, 14, 15, 16, 17, 18, 19, 20, 21, 22, 23, 24]) (.seq (.region [⟨(some 25), none, .move, [.tmp 5 false]⟩,
   ⟨(some 4), none, .move, [.tmp 25 false]⟩])
 (.ghost (.kill [5, 25]) (.ret)))))))), [.tmp 4]⟩
def c_index_Index_Find_1 : AFunc := ⟨12, false, .seq (.region [⟨(some 4), none, .move, [.val (.bool false)]⟩])
 (.ghost (.kill [4]) (.seq (.draw [(⟨(some 5), none, .load false 1 false, [.tmp 1 false]⟩, ⟨false, []⟩),
   (⟨(some 6), none, .move, [.tmp 0 false]⟩, ⟨false, []⟩),
   (⟨(some 7), none, .ixAddr 2, [.tmp 5 true, .tmp 6 false]⟩, ⟨false, []⟩),
   (⟨(some 8), none, .addOff 0, [.tmp 7 false]⟩, ⟨false, []⟩),
   (⟨(some 9), none, .load false 1 false, [.tmp 8 false]⟩, ⟨false, []⟩),
   (⟨(some 10), none, .load false 1 false, [.tmp 2 false]⟩, ⟨false, []⟩),
   (⟨(some 11), none, .bin .gtr .plain, [.tmp 9 false, .tmp 10 false]⟩, ⟨false, []⟩),
   (⟨(some 4), none, .move, [.tmp 11 false]⟩, ⟨false, []⟩)])
 (.ghost (.kill [0, 1, 2, 5, 6, 7, 8, 9, 10, 11]) (.ret)))), [.tmp 4]⟩
def l_varint_Long_0 : ACode := .seq (.region [⟨(some 10), none, .bin .lss .plain, [.tmp 9 false, .val (.int .i64 8)]⟩])
 (.seq (.cond (.tmp 10 false) (.skip)
  (.ghost (.kill [1, 9, 10]) (.exit 0)))
 (.ghost (.kill [10]) (.seq (.block 1 (.seq (.region [⟨(some 11), none, .move, [.tmp 9 false]⟩,
    ⟨(some 6), none, .move, [.tmp 11 false]⟩])
  (.ghost (.kill [11]) (.region [⟨(some 12), none, .move, [.tmp 5 true]⟩,
    ⟨(some 13), none, .move, [.tmp 1 false]⟩,
    ⟨(some 14), none, .toInt .u64, [.tmp 13 false]⟩,
    ⟨(some 15), none, .move, [.tmp 6 false]⟩,
    ⟨(some 16), none, .bin .sub .plain, [.val (.int .i64 7), .tmp 15 false]⟩,
    ⟨(some 17), none, .call n_varint_bitsOf false, [.tmp 16 false]⟩,
    ⟨(some 18), none, .bin .shr .plain, [.tmp 14 false, .tmp 17 false]⟩,
    ⟨(some 19), none, .toInt .u8, [.tmp 18 false]⟩,
    ⟨(some 20), none, .buildSlice 1 (.int .u8 0) 1 [0], [.tmp 19 false]⟩,
    ⟨(some 21), none, .append 1 1 false, [.tmp 12 true, .tmp 20 true]⟩,
    ⟨(some 5), none, .move, [.tmp 21 true]⟩]))))
 (.ghost (.kill [6, 12, 13, 14, 15, 16, 17, 18, 19, 20, 21]) (.region [⟨(some 22), none, .bin .add .plain, [.tmp 9 false, .val (.int .i64 1)]⟩,
   ⟨(some 9), none, .move, [.tmp 22 false]⟩])))))
def k_varint_Long_0 : List Nat := [6, 10, 11, 12, 13, 14, 15, 16, 17, 18, 19, 20, 21, 22]
def c_varint_Long : AFunc := ⟨25, false, .seq (.region [⟨(some 4), none, .move, [.val (.list 1 [] .full)]⟩])
 (.ghost (.kill [4]) (.seq (.region [⟨(some 7), none, .move, [.tmp 0 true]⟩,
   ⟨(some 8), none, .call n_slices_Clone_byte_byte_ false, [.tmp 7 true]⟩,
   ⟨(some 5), none, .move, [.tmp 8 true]⟩])
 (.ghost (.kill [0, 7, 8]) (.seq (.seq (.region [⟨(some 9), none, .move, [.val (.int .i64 0)]⟩])
 (.block 0 (.loop (.ghost (.kill k_varint_Long_0) l_varint_Long_0))))
 (.ghost (.kill [1, 6, 9, 10, 11, 12, 13, 14, 15, 16, 17, 18, 19, 20, 21, 22]) (.seq (.region [⟨(some 23), none, .move, [.tmp 5 true]⟩,
   ⟨(some 24), none, .call n_slices_Clip_byte_byte_ false, [.tmp 23 true]⟩,
   ⟨(some 4), none, .move, [.tmp 24 true]⟩])
 (.ghost (.kill [5, 23, 24]) (.ret)))))))), [.tmp 4]⟩
def c_slices_Clip_index_Entry_index_Entry_ : AFunc := ⟨9, false, .seq (.region [⟨(some 2), none, .move, [.val (.list 2 [] .full)]⟩])
 (.ghost (.kill [2]) (.seq (.region [⟨(some 3), none, .move, [.tmp 0 false]⟩,
   ⟨(some 4), none, .move, [.tmp 0 false]⟩,
   ⟨(some 5), none, .len false, [.tmp 4 true]⟩,
   ⟨(some 6), none, .move, [.tmp 0 true]⟩,
   ⟨(some 7), none, .len false, [.tmp 6 true]⟩,
   ⟨(some 8), none, .slice 2 false true true, [.tmp 3 true, .tmp 5 false, .tmp 7 false]⟩,
   ⟨(some 2), none, .move, [.tmp 8 true]⟩])
 (.ghost (.kill [0, 3, 4, 5, 6, 7, 8]) (.ret)))), [.tmp 2]⟩
def l_varint_Back_0 : ACode := .seq (.region [⟨(some 14), none, .bin .lss .plain, [.tmp 13 false, .tmp 12 false]⟩])
 (.seq (.cond (.tmp 14 false) (.skip)
  (.ghost (.kill [11, 12, 13, 14]) (.exit 0)))
 (.ghost (.kill [14]) (.seq (.block 1 (.seq (.region [⟨(some 15), none, .ixAddr 1, [.tmp 11 false, .tmp 13 false]⟩,
    ⟨(some 16), none, .load false 1 false, [.tmp 15 false]⟩,
    ⟨(some 6), none, .move, [.tmp 16 false]⟩])
  (.ghost (.kill [15, 16]) (.region [⟨(some 17), none, .move, [.tmp 4 false]⟩,
    ⟨(some 18), none, .bin .shl .plain, [.tmp 17 false, .val (.int .u64 8)]⟩,
    ⟨(some 19), none, .move, [.tmp 6 false]⟩,
    ⟨(some 20), none, .toInt .u64, [.tmp 19 false]⟩,
    ⟨(some 21), none, .bin .or .plain, [.tmp 18 false, .tmp 20 false]⟩,
    ⟨(some 4), none, .move, [.tmp 21 false]⟩]))))
 (.ghost (.kill [6, 17, 18, 19, 20, 21]) (.region [⟨(some 22), none, .bin .add .plain, [.tmp 13 false, .val (.int .i64 1)]⟩,
   ⟨(some 13), none, .move, [.tmp 22 false]⟩])))))
def k_varint_Back_0 : List Nat := [6, 14, 15, 16, 17, 18, 19, 20, 21, 22]
def c_varint_Back : AFunc := ⟨25, false, .seq (.region [⟨(some 2), none, .move, [.val (.int .i64 0)]⟩,
   ⟨(some 3), none, .move, [.val (.bool false)]⟩])
 (.ghost (.kill [2, 3]) (.seq (.seq (.region [⟨(some 7), none, .move, [.tmp 0 false]⟩,
   ⟨(some 8), none, .len false, [.tmp 7 true]⟩,
   ⟨(some 9), none, .bin .lss .plain, [.tmp 8 false, .val (.int .i64 8)]⟩])
 (.ghost (.kill [7, 8]) (.cond (.tmp 9 false) (.seq (.region [⟨(some 2), none, .move, [.val (.int .i64 0)]⟩,
    ⟨(some 3), none, .move, [.val (.bool false)]⟩])
  (.ghost (.kill [0, 9]) (.ret)))
  (.skip))))
 (.ghost (.kill [9]) (.seq (.region [⟨(some 4), none, .move, [.val (.int .u64 0)]⟩])
 (.seq (.seq (.region [⟨(some 10), none, .move, [.tmp 0 true]⟩,
   ⟨(some 11), none, .slice 1 false true false, [.tmp 10 true, .val (.int .i64 8)]⟩,
   ⟨(some 12), none, .len false, [.tmp 11 false]⟩,
   ⟨(some 13), none, .move, [.val (.int .i64 0)]⟩])
 (.ghost (.kill [0, 10]) (.block 0 (.loop (.ghost (.kill k_varint_Back_0) l_varint_Back_0)))))
 (.ghost (.kill [6, 11, 12, 13, 14, 15, 16, 17, 18, 19, 20, 21, 22]) (.seq (.region [⟨(some 23), none, .move, [.tmp 4 false]⟩,
   ⟨(some 24), none, .toInt .i64, [.tmp 23 false]⟩,
   ⟨(some 2), none, .move, [.tmp 24 false]⟩,
   ⟨(some 3), none, .move, [.val (.bool true)]⟩])
 (.ghost (.kill [4, 23, 24]) (.ret))))))))), [.tmp 2, .tmp 3]⟩
def l_ref1_Long_0 : ACode := .seq (.seq (.region [⟨(some 10), none, .move, [.tmp 6 false]⟩,
   ⟨(some 11), none, .bin .geq .plain, [.tmp 10 false, .val (.int .i64 0)]⟩])
 (.ghost (.kill [10]) (.cond (.tmp 11 false) (.skip)
  (.ghost (.kill [1, 6, 11]) (.exit 0)))))
 (.ghost (.kill [11]) (.seq (.block 1 (.region [⟨(some 14), none, .move, [.tmp 5 true]⟩,
    ⟨(some 15), none, .move, [.tmp 1 false]⟩,
    ⟨(some 16), none, .move, [.tmp 6 false]⟩,
    ⟨(some 17), none, .toInt .u64, [.tmp 16 false]⟩,
    ⟨(some 18), none, .bin .shr .plain, [.tmp 15 false, .tmp 17 false]⟩,
    ⟨(some 19), none, .toInt .u8, [.tmp 18 false]⟩,
    ⟨(some 20), none, .buildSlice 1 (.int .u8 0) 1 [0], [.tmp 19 false]⟩,
    ⟨(some 21), none, .append 1 1 false, [.tmp 14 true, .tmp 20 true]⟩,
    ⟨(some 5), none, .move, [.tmp 21 true]⟩]))
 (.ghost (.kill [14, 15, 16, 17, 18, 19, 20, 21]) (.region [⟨(some 12), none, .move, [.tmp 6 false]⟩,
   ⟨(some 13), none, .bin .sub .plain, [.tmp 12 false, .val (.int .i64 8)]⟩,
   ⟨(some 6), none, .move, [.tmp 13 false]⟩]))))
def k_ref1_Long_0 : List Nat := [10, 11, 12, 13, 14, 15, 16, 17, 18, 19, 20, 21]
def c_ref1_Long : AFunc := ⟨23, false, .seq (.region [⟨(some 4), none, .move, [.val (.list 1 [] .full)]⟩])
 (.ghost (.kill [4]) (.seq (.region [⟨(some 7), none, .buildSlice 1 (.int .u8 0) 0 [], []⟩,
   ⟨(some 8), none, .move, [.tmp 0 true]⟩,
   ⟨(some 9), none, .append 1 1 false, [.tmp 7 true, .tmp 8 true]⟩,
   ⟨(some 5), none, .move, [.tmp 9 true]⟩])
 (.ghost (.kill [0, 7, 8, 9]) (.seq (.seq (.region [⟨(some 6), none, .move, [.val (.int .i64 56)]⟩])
 (.block 0 (.loop (.ghost (.kill k_ref1_Long_0) l_ref1_Long_0))))
 (.ghost (.kill [1, 6, 10, 11, 12, 13, 14, 15, 16, 17, 18, 19, 20, 21]) (.seq (.region [⟨(some 22), none, .move, [.tmp 5 true]⟩,
   ⟨(some 4), none, .move, [.tmp 22 true]⟩])
 (.ghost (.kill [5, 22]) (.ret)))))))), [.tmp 4]⟩
def c_varint_bitsOf : AFunc := ⟨5, false, .seq (.region [⟨(some 2), none, .move, [.val (.int .i64 0)]⟩])
 (.ghost (.kill [2]) (.seq (.region [⟨(some 3), none, .move, [.tmp 0 false]⟩,
   ⟨(some 4), none, .bin .mul .plain, [.tmp 3 false, .val (.int .i64 8)]⟩,
   ⟨(some 2), none, .move, [.tmp 4 false]⟩])
 (.ghost (.kill [0, 3, 4]) (.ret)))), [.tmp 2]⟩
def c_slices_Clip_byte_byte_ : AFunc := ⟨9, false, .seq (.region [⟨(some 2), none, .move, [.val (.list 1 [] .full)]⟩])
 (.ghost (.kill [2]) (.seq (.region [⟨(some 3), none, .move, [.tmp 0 false]⟩,
   ⟨(some 4), none, .move, [.tmp 0 false]⟩,
   ⟨(some 5), none, .len false, [.tmp 4 true]⟩,
   ⟨(some 6), none, .move, [.tmp 0 true]⟩,
   ⟨(some 7), none, .len false, [.tmp 6 true]⟩,
   ⟨(some 8), none, .slice 1 false true true, [.tmp 3 true, .tmp 5 false, .tmp 7 false]⟩,
   ⟨(some 2), none, .move, [.tmp 8 true]⟩])
 (.ghost (.kill [0, 3, 4, 5, 6, 7, 8]) (.ret)))), [.tmp 2]⟩
def codes : List (Nat × AFunc) := [(n_law8_IndexPlays, c_law8_IndexPlays), (n_law8_IndexFinds, c_law8_IndexFinds), (n_law8_IndexAgain, c_law8_IndexAgain), (n_law8_IndexOrder, c_law8_IndexOrder), (n_book_Within, c_book_Within), (n_law8_play, c_law8_play), (n_law8_known, c_law8_known), (n_index_New, c_index_New), (n_index_Index_Add, c_index_Index_Add), (n_index_Index_Find, c_index_Index_Find), (n_index_Index_Bytes, c_index_Index_Bytes), (n_index_Index_Entries, c_index_Index_Entries), (n_index_Read, c_index_Read), (n_law8_plain_find, c_law8_plain_find), (n_law8_plain_add, c_law8_plain_add), (n_law8_same, c_law8_same), (n_index_Index_last, c_index_Index_last), (n_sort_Search, c_sort_Search), (n_index_Index_Find_1, c_index_Index_Find_1), (n_varint_Long, c_varint_Long), (n_slices_Clip_index_Entry_index_Entry_, c_slices_Clip_index_Entry_index_Entry_), (n_varint_Back, c_varint_Back), (n_ref1_Long, c_ref1_Long), (n_varint_bitsOf, c_varint_bitsOf), (n_slices_Clip_byte_byte_, c_slices_Clip_byte_byte_)]
def ext : Sems := fun f => if f = n_slices_Clone_byte_byte_ then some (cloneSem 1 1) else none
def tbl (f : Nat) : Option AFunc := (codes.find? (·.1 == f)).map (·.2)
noncomputable def W : CallF := callW tbl ext
theorem W_fn {f : Nat} {fn : AFunc} (hx' : ext f = none) (ht : tbl f = some fn) {args v} {H : Heap} (h : runFn W loopW fn args (hx H []) = some (v, hx H [])) : W f args H = some (v, H) := W_fnH hx' ht h
theorem W_fnS {f : Nat} {fn : AFunc} (hx' : ext f = none) (ht : tbl f = some fn) {args r} {H : Heap} (h : runFn W loopW fn args (hx H []) = some r) : W f args H = some r := W_fnG hx' ht h
theorem W_fn0 {f : Nat} {fn : AFunc} (hx' : ext f = none) (ht : tbl f = some fn) {args r} {H : Heap} (h : runFn W loopW fn args H = some r) : W f args H = some r := callW_fn hx' ht h
theorem W_slices_Clone_byte_byte_ (xs H) (h : xs.length * 1 ≤ maxBytes) : W n_slices_Clone_byte_byte_ [.list 1 xs .ro] H = some (.list 1 xs .own, H) := callW_ext (s := cloneSem 1 1) rfl (by unfold cloneSem; exact if_pos ⟨rfl, h⟩)
end Go.Abs
