import Derived.Test.YtddgichochdgcaaK33
import Derived.KernelRfl
namespace Go.Abs
open Go Go.RowKit
abbrev n_law2_VarintNumbers : Nat := 11
abbrev n_varint_Put : Nat := 28
abbrev n_varint_Get : Nat := 29
abbrev n_law2_known : Nat := 30
abbrev n_varint_Long : Nat := 31
abbrev n_varint_Back : Nat := 32
abbrev n_ref1_Put : Nat := 33
abbrev n_law2_puts : Nat := 34
abbrev n_law2_reads : Nat := 35
abbrev n_ref1_Text : Nat := 36
abbrev n_varint_Cut : Nat := 37
abbrev n_varint_Text : Nat := 38
abbrev n_slices_Clone_byte_byte_ : Nat := 43
abbrev n_slices_Clip_byte_byte_ : Nat := 44
abbrev n_varint_bitsOf : Nat := 45
abbrev n_ref1_Long : Nat := 46
abbrev n_ref1_Get : Nat := 47
abbrev n_ref1_Cut : Nat := 48
abbrev n_ref1_Back : Nat := 49
def l_law2_VarintNumbers_0 : ACode := .seq (.seq (.region [⟨(some 12), none, .move, [.tmp 2 false]⟩,
   ⟨(some 13), none, .bin .lss .plain, [.tmp 12 false, .val (.int .i64 2)]⟩])
 (.ghost (.kill [12]) (.cond (.tmp 13 false) (.skip)
  (.ghost (.kill [2, 13]) (.exit 2)))))
 (.ghost (.kill [13]) (.seq (.block 3 (.seq (.region [⟨(some 16), none, .move, [.tmp 1 false]⟩,
    ⟨(some 17), none, .bin .shl .plain, [.val (.int .i64 1), .tmp 16 false]⟩,
    ⟨(some 18), none, .move, [.tmp 2 false]⟩,
    ⟨(some 19), none, .bin .add .plain, [.tmp 17 false, .tmp 18 false]⟩,
    ⟨(some 3), none, .move, [.tmp 19 false]⟩])
  (.ghost (.kill [16, 17, 18, 19]) (.seq (.region [⟨(some 20), none, .move, [.tmp 3 false]⟩,
    ⟨(some 21), none, .call n_ref1_Put false, [.val (.list 1 [] .full), .tmp 20 false]⟩,
    ⟨(some 4), none, .move, [.tmp 21 true]⟩])
  (.ghost (.kill [20, 21]) (.seq (.draw [(⟨(some 22), none, .buildSlice 1 (.int .u8 0) 1 [0], [.val (.int .u8 7)]⟩, ⟨false, []⟩),
    (⟨(some 23), none, .move, [.tmp 3 false]⟩, ⟨false, []⟩),
    (⟨(some 24), none, .move, [.tmp 1 false]⟩, ⟨false, []⟩),
    (⟨(some 25), none, .bin .rem .plain, [.tmp 24 false, .val (.int .u64 5)]⟩, ⟨false, []⟩),
    (⟨(some 26), none, .sslice false true, [.val (.str [116, 101, 120, 116]), .tmp 25 false]⟩, ⟨false, []⟩),
    (⟨(some 27), none, .call n_law2_puts false, [.tmp 22 true, .tmp 23 false, .tmp 26 false]⟩, ⟨true, []⟩),
    (⟨(some 28), none, .un .not, [.tmp 27 false]⟩, ⟨false, []⟩),
    (⟨(some 29), none, .move, [.tmp 28 false]⟩, ⟨false, []⟩),
    (⟨(some 30), (some (29, false)), .move, [.tmp 3 false]⟩, ⟨false, []⟩),
    (⟨(some 31), (some (29, false)), .un .neg, [.tmp 30 false]⟩, ⟨false, []⟩),
    (⟨(some 32), (some (29, false)), .call n_law2_puts false, [.val (.list 1 [] .full), .tmp 31 false, .val (.str [])]⟩, ⟨true, []⟩),
    (⟨(some 33), (some (29, false)), .un .not, [.tmp 32 false]⟩, ⟨false, []⟩),
    (⟨(some 34), none, .pick, [.tmp 29 false, .val (.bool true), .tmp 33 false]⟩, ⟨false, []⟩),
    (⟨(some 35), none, .move, [.tmp 34 false]⟩, ⟨false, []⟩),
    (⟨(some 36), (some (35, false)), .move, [.tmp 4 false]⟩, ⟨false, []⟩),
    (⟨(some 37), (some (35, false)), .call n_law2_reads false, [.tmp 36 true, .val (.int .i64 9)]⟩, ⟨true, []⟩),
    (⟨(some 38), (some (35, false)), .un .not, [.tmp 37 false]⟩, ⟨false, []⟩),
    (⟨(some 39), none, .pick, [.tmp 35 false, .val (.bool true), .tmp 38 false]⟩, ⟨false, []⟩),
    (⟨(some 40), none, .move, [.tmp 39 false]⟩, ⟨false, []⟩),
    (⟨(some 41), (some (40, false)), .move, [.tmp 4 true]⟩, ⟨false, []⟩),
    (⟨(some 42), (some (40, false)), .buildSlice 1 (.int .u8 0) 1 [0], [.val (.int .u8 0)]⟩, ⟨false, []⟩),
    (⟨(some 43), (some (40, false)), .append 1 1 false, [.tmp 41 true, .tmp 42 true]⟩, ⟨true, []⟩),
    (⟨(some 44), (some (40, false)), .call n_law2_reads false, [.tmp 43 true, .val (.int .i64 1)]⟩, ⟨true, []⟩),
    (⟨(some 45), (some (40, false)), .un .not, [.tmp 44 false]⟩, ⟨false, []⟩),
    (⟨(some 46), none, .pick, [.tmp 40 false, .val (.bool true), .tmp 45 false]⟩, ⟨false, []⟩),
    (⟨(some 47), none, .move, [.tmp 46 false]⟩, ⟨false, []⟩),
    (⟨(some 48), (some (47, false)), .move, [.tmp 4 false]⟩, ⟨false, []⟩),
    (⟨(some 49), (some (47, false)), .move, [.tmp 4 false]⟩, ⟨false, []⟩),
    (⟨(some 50), (some (47, false)), .len false, [.tmp 49 true]⟩, ⟨false, []⟩),
    (⟨(some 51), (some (47, false)), .bin .sub .plain, [.tmp 50 false, .val (.int .i64 1)]⟩, ⟨false, []⟩),
    (⟨(some 52), (some (47, false)), .slice 1 false true false, [.tmp 48 true, .tmp 51 false]⟩, ⟨false, []⟩),
    (⟨(some 53), (some (47, false)), .call n_law2_reads false, [.tmp 52 true, .val (.int .i64 0)]⟩, ⟨true, []⟩),
    (⟨(some 54), (some (47, false)), .un .not, [.tmp 53 false]⟩, ⟨false, []⟩),
    (⟨(some 55), none, .pick, [.tmp 47 false, .val (.bool true), .tmp 54 false]⟩, ⟨false, []⟩),
    (⟨(some 56), none, .move, [.tmp 55 false]⟩, ⟨false, []⟩),
    (⟨(some 57), (some (56, false)), .move, [.tmp 4 false]⟩, ⟨false, []⟩),
    (⟨(some 58), (some (56, false)), .move, [.tmp 4 false]⟩, ⟨false, []⟩),
    (⟨(some 59), (some (56, false)), .len false, [.tmp 58 true]⟩, ⟨false, []⟩),
    (⟨(some 60), (some (56, false)), .bin .sub .plain, [.tmp 59 false, .val (.int .i64 1)]⟩, ⟨false, []⟩),
    (⟨(some 61), (some (56, false)), .move, [.tmp 4 false]⟩, ⟨false, []⟩),
    (⟨(some 62), (some (56, false)), .len false, [.tmp 61 true]⟩, ⟨false, []⟩),
    (⟨(some 63), (some (56, false)), .bin .sub .plain, [.tmp 62 false, .val (.int .i64 1)]⟩, ⟨false, []⟩),
    (⟨(some 64), (some (56, false)), .slice 1 false true true, [.tmp 57 true, .tmp 60 false, .tmp 63 false]⟩, ⟨false, []⟩),
    (⟨(some 65), (some (56, false)), .move, [.tmp 4 false]⟩, ⟨false, []⟩),
    (⟨(some 66), (some (56, false)), .move, [.tmp 4 false]⟩, ⟨false, []⟩),
    (⟨(some 67), (some (56, false)), .len false, [.tmp 66 true]⟩, ⟨false, []⟩),
    (⟨(some 68), (some (56, false)), .bin .sub .plain, [.tmp 67 false, .val (.int .i64 1)]⟩, ⟨false, []⟩),
    (⟨(some 69), (some (56, false)), .ixAddr 1, [.tmp 65 true, .tmp 68 false]⟩, ⟨false, []⟩),
    (⟨(some 70), (some (56, false)), .load false 1 false, [.tmp 69 false]⟩, ⟨false, []⟩),
    (⟨(some 71), (some (56, false)), .bin .or .plain, [.tmp 70 false, .val (.int .u8 128)]⟩, ⟨false, []⟩),
    (⟨(some 72), (some (56, false)), .buildSlice 1 (.int .u8 0) 2 [0, 1], [.tmp 71 false, .val (.int .u8 0)]⟩, ⟨false, []⟩),
    (⟨(some 73), (some (56, false)), .append 1 1 false, [.tmp 64 true, .tmp 72 true]⟩, ⟨true, []⟩),
    (⟨(some 74), (some (56, false)), .call n_law2_reads false, [.tmp 73 true, .val (.int .i64 5)]⟩, ⟨true, []⟩),
    (⟨(some 75), (some (56, false)), .un .not, [.tmp 74 false]⟩, ⟨false, []⟩),
    (⟨(some 76), none, .pick, [.tmp 56 false, .val (.bool true), .tmp 75 false]⟩, ⟨false, []⟩)])
  (.ghost (.kill [3, 4, 22, 23, 24, 25, 26, 27, 28, 29, 30, 31, 32, 33, 34, 35, 36, 37, 38, 39, 40, 41, 42, 43, 44, 45, 46, 47, 48, 49, 50, 51, 52, 53, 54, 55, 56, 57, 58, 59, 60, 61, 62, 63, 64, 65, 66, 67, 68, 69, 70, 71, 72, 73, 74, 75]) (.cond (.tmp 76 false) (.seq (.region [⟨(some 0), none, .move, [.val (.bool false)]⟩])
   (.ghost (.kill [1, 2, 76]) (.ret)))
   (.skip)))))))))
 (.ghost (.kill [76]) (.region [⟨(some 14), none, .move, [.tmp 2 false]⟩,
   ⟨(some 15), none, .bin .add .plain, [.tmp 14 false, .val (.int .i64 1)]⟩,
   ⟨(some 2), none, .move, [.tmp 15 false]⟩]))))
def k_law2_VarintNumbers_0 : List Nat := [0, 3, 4, 12, 13, 14, 15, 16, 17, 18, 19, 20, 21, 22, 23, 24, 25, 26, 27, 28, 29, 30, 31, 32, 33, 34, 35, 36, 37, 38, 39, 40, 41, 42, 43, 44, 45, 46, 47, 48, 49, 50, 51, 52, 53, 54, 55, 56, 57, 58, 59, 60, 61, 62, 63, 64, 65, 66, 67, 68, 69, 70, 71, 72, 73, 74, 75, 76]
def l_law2_VarintNumbers_1 : ACode := .seq (.seq (.region [⟨(some 8), none, .move, [.tmp 1 false]⟩,
   ⟨(some 9), none, .bin .lss .plain, [.tmp 8 false, .val (.int .u64 64)]⟩])
 (.ghost (.kill [8]) (.cond (.tmp 9 false) (.skip)
  (.ghost (.kill [1, 9]) (.exit 0)))))
 (.ghost (.kill [9]) (.seq (.block 1 (.seq (.region [⟨(some 2), none, .move, [.val (.int .i64 (-1))]⟩])
  (.block 2 (.loop (.ghost (.kill k_law2_VarintNumbers_0) l_law2_VarintNumbers_0)))))
 (.ghost (.kill [0, 2, 3, 4, 12, 13, 14, 15, 16, 17, 18, 19, 20, 21, 22, 23, 24, 25, 26, 27, 28, 29, 30, 31, 32, 33, 34, 35, 36, 37, 38, 39, 40, 41, 42, 43, 44, 45, 46, 47, 48, 49, 50, 51, 52, 53, 54, 55, 56, 57, 58, 59, 60, 61, 62, 63, 64, 65, 66, 67, 68, 69, 70, 71, 72, 73, 74, 75, 76]) (.region [⟨(some 10), none, .move, [.tmp 1 false]⟩,
   ⟨(some 11), none, .bin .add .plain, [.tmp 10 false, .val (.int .u64 1)]⟩,
   ⟨(some 1), none, .move, [.tmp 11 false]⟩]))))
def k_law2_VarintNumbers_1 : List Nat := [0, 2, 3, 4, 8, 9, 10, 11, 12, 13, 14, 15, 16, 17, 18, 19, 20, 21, 22, 23, 24, 25, 26, 27, 28, 29, 30, 31, 32, 33, 34, 35, 36, 37, 38, 39, 40, 41, 42, 43, 44, 45, 46, 47, 48, 49, 50, 51, 52, 53, 54, 55, 56, 57, 58, 59, 60, 61, 62, 63, 64, 65, 66, 67, 68, 69, 70, 71, 72, 73, 74, 75, 76]
def l_law2_VarintNumbers_2 : ACode := .seq (.seq (.region [⟨(some 81), none, .move, [.tmp 7 false]⟩,
   ⟨(some 82), none, .move, [.tmp 5 false]⟩,
   ⟨(some 83), none, .bin .lss .plain, [.tmp 81 false, .tmp 82 false]⟩])
 (.ghost (.kill [81, 82]) (.cond (.tmp 83 false) (.skip)
  (.ghost (.kill [7, 83]) (.exit 6)))))
 (.ghost (.kill [83]) (.seq (.block 7 (.region [⟨(some 86), none, .move, [.tmp 6 true]⟩,
    ⟨(some 87), none, .buildSlice 1 (.int .u8 0) 1 [0], [.val (.int .u8 255)]⟩,
    ⟨(some 88), none, .append 1 1 false, [.tmp 86 true, .tmp 87 true]⟩,
    ⟨(some 6), none, .move, [.tmp 88 true]⟩]))
 (.ghost (.kill [86, 87, 88]) (.region [⟨(some 84), none, .move, [.tmp 7 false]⟩,
   ⟨(some 85), none, .bin .add .plain, [.tmp 84 false, .val (.int .i64 1)]⟩,
   ⟨(some 7), none, .move, [.tmp 85 false]⟩]))))
def k_law2_VarintNumbers_2 : List Nat := [81, 82, 83, 84, 85, 86, 87, 88]
def l_law2_VarintNumbers_3 : ACode := .seq (.seq (.region [⟨(some 77), none, .move, [.tmp 5 false]⟩,
   ⟨(some 78), none, .bin .lss .plain, [.tmp 77 false, .val (.int .i64 13)]⟩])
 (.ghost (.kill [77]) (.cond (.tmp 78 false) (.skip)
  (.ghost (.kill [5, 78]) (.exit 4)))))
 (.ghost (.kill [78]) (.seq (.block 5 (.seq (.region [⟨(some 6), none, .move, [.val (.list 1 [] .full)]⟩])
  (.seq (.seq (.region [⟨(some 7), none, .move, [.val (.int .i64 0)]⟩])
  (.block 6 (.loop (.ghost (.kill k_law2_VarintNumbers_2) l_law2_VarintNumbers_2))))
  (.ghost (.kill [7, 81, 82, 83, 84, 85, 86, 87, 88]) (.seq (.regionS [(false, [⟨(some 89), none, .move, [.tmp 6 false]⟩, ⟨(some 90), none, .call n_law2_reads false, [.tmp 89 true, .val (.int .i64 9)]⟩, ⟨(some 91), none, .un .not, [.tmp 90 false]⟩, ⟨(some 92), none, .move, [.tmp 91 false]⟩]),
  (true, [⟨(some 93), (some (92, false)), .move, [.tmp 6 true]⟩, ⟨(some 94), (some (92, false)), .buildSlice 1 (.int .u8 0) 1 [0], [.val (.int .u8 1)]⟩, ⟨(some 95), (some (92, false)), .append 1 1 false, [.tmp 93 true, .tmp 94 true]⟩, ⟨(some 96), (some (92, false)), .call n_law2_reads false, [.tmp 95 true, .val (.int .i64 9)]⟩]),
  (false, [⟨(some 97), (some (92, false)), .un .not, [.tmp 96 false]⟩, ⟨(some 98), none, .pick, [.tmp 92 false, .val (.bool true), .tmp 97 false]⟩, ⟨(some 99), none, .move, [.tmp 98 false]⟩]),
  (true, [⟨(some 100), (some (99, false)), .move, [.tmp 6 true]⟩, ⟨(some 101), (some (99, false)), .buildSlice 1 (.int .u8 0) 1 [0], [.val (.int .u8 2)]⟩, ⟨(some 102), (some (99, false)), .append 1 1 false, [.tmp 100 true, .tmp 101 true]⟩, ⟨(some 103), (some (99, false)), .call n_law2_reads false, [.tmp 102 true, .val (.int .i64 9)]⟩]),
  (false, [⟨(some 104), (some (99, false)), .un .not, [.tmp 103 false]⟩, ⟨(some 105), none, .pick, [.tmp 99 false, .val (.bool true), .tmp 104 false]⟩, ⟨(some 106), none, .move, [.tmp 105 false]⟩]),
  (true, [⟨(some 107), (some (106, false)), .move, [.tmp 6 true]⟩, ⟨(some 108), (some (106, false)), .buildSlice 1 (.int .u8 0) 1 [0], [.val (.int .u8 127)]⟩, ⟨(some 109), (some (106, false)), .append 1 1 false, [.tmp 107 true, .tmp 108 true]⟩, ⟨(some 110), (some (106, false)), .call n_law2_reads false, [.tmp 109 true, .val (.int .i64 (-1))]⟩]),
  (false, [⟨(some 111), (some (106, false)), .un .not, [.tmp 110 false]⟩, ⟨(some 112), none, .pick, [.tmp 106 false, .val (.bool true), .tmp 111 false]⟩, ⟨(some 113), none, .move, [.tmp 112 false]⟩]),
  (true, [⟨(some 114), (some (113, false)), .move, [.tmp 6 true]⟩, ⟨(some 115), (some (113, false)), .buildSlice 1 (.int .u8 0) 1 [0], [.val (.int .u8 0)]⟩, ⟨(some 116), (some (113, false)), .append 1 1 false, [.tmp 114 true, .tmp 115 true]⟩, ⟨(some 117), (some (113, false)), .call n_law2_reads false, [.tmp 116 true, .val (.int .i64 4611686018427387904)]⟩]),
  (false, [⟨(some 118), (some (113, false)), .un .not, [.tmp 117 false]⟩, ⟨(some 119), none, .pick, [.tmp 113 false, .val (.bool true), .tmp 118 false]⟩])])
  (.ghost (.kill [6, 89, 90, 91, 92, 93, 94, 95, 96, 97, 98, 99, 100, 101, 102, 103, 104, 105, 106, 107, 108, 109, 110, 111, 112, 113, 114, 115, 116, 117, 118]) (.cond (.tmp 119 false) (.seq (.region [⟨(some 0), none, .move, [.val (.bool false)]⟩])
   (.ghost (.kill [5, 119]) (.ret)))
   (.skip))))))))
 (.ghost (.kill [119]) (.region [⟨(some 79), none, .move, [.tmp 5 false]⟩,
   ⟨(some 80), none, .bin .add .plain, [.tmp 79 false, .val (.int .i64 1)]⟩,
   ⟨(some 5), none, .move, [.tmp 80 false]⟩]))))
def k_law2_VarintNumbers_3 : List Nat := [0, 6, 7, 77, 78, 79, 80, 81, 82, 83, 84, 85, 86, 87, 88, 89, 90, 91, 92, 93, 94, 95, 96, 97, 98, 99, 100, 101, 102, 103, 104, 105, 106, 107, 108, 109, 110, 111, 112, 113, 114, 115, 116, 117, 118, 119]
def c_law2_VarintNumbers : AFunc := ⟨134, false, .seq (.region [⟨(some 0), none, .move, [.val (.bool false)]⟩])
 (.ghost (.kill [0]) (.seq (.seq (.region [⟨(some 1), none, .move, [.val (.int .u64 0)]⟩])
 (.block 0 (.loop (.ghost (.kill k_law2_VarintNumbers_1) l_law2_VarintNumbers_1))))
 (.ghost (.kill [0, 1, 2, 3, 4, 8, 9, 10, 11, 12, 13, 14, 15, 16, 17, 18, 19, 20, 21, 22, 23, 24, 25, 26, 27, 28, 29, 30, 31, 32, 33, 34, 35, 36, 37, 38, 39, 40, 41, 42, 43, 44, 45, 46, 47, 48, 49, 50, 51, 52, 53, 54, 55, 56, 57, 58, 59, 60, 61, 62, 63, 64, 65, 66, 67, 68, 69, 70, 71, 72, 73, 74, 75, 76]) (.seq (.seq (.region [⟨(some 5), none, .move, [.val (.int .i64 0)]⟩])
 (.block 4 (.loop (.ghost (.kill k_law2_VarintNumbers_3) l_law2_VarintNumbers_3))))
 (.ghost (.kill [0, 5, 6, 7, 77, 78, 79, 80, 81, 82, 83, 84, 85, 86, 87, 88, 89, 90, 91, 92, 93, 94, 95, 96, 97, 98, 99, 100, 101, 102, 103, 104, 105, 106, 107, 108, 109, 110, 111, 112, 113, 114, 115, 116, 117, 118, 119]) (.seq (.region [⟨(some 120), none, .call n_ref1_Text false, [.val (.list 1 [] .full), .val (.str [119, 104, 111, 108, 101])]⟩,
   ⟨(some 121), none, .call n_law2_reads false, [.tmp 120 true, .val (.int .i64 5)]⟩,
   ⟨(some 122), none, .move, [.tmp 121 false]⟩,
   ⟨(some 123), (some (122, true)), .call n_ref1_Text false, [.val (.list 1 [] .full), .val (.str [119, 104, 111, 108, 101])]⟩,
   ⟨(some 124), (some (122, true)), .call n_law2_reads false, [.tmp 123 true, .val (.int .i64 4)]⟩,
   ⟨(some 125), none, .pick, [.tmp 122 false, .tmp 124 false, .val (.bool false)]⟩,
   ⟨(some 126), none, .move, [.tmp 125 false]⟩,
   ⟨(some 127), (some (126, true)), .call n_ref1_Text false, [.val (.list 1 [] .full), .val (.str [119, 104, 111, 108, 101])]⟩,
   ⟨(some 128), (some (126, true)), .slice 1 false true false, [.tmp 127 true, .val (.int .i64 3)]⟩,
   ⟨(some 129), (some (126, true)), .call n_law2_reads false, [.tmp 128 true, .val (.int .i64 9)]⟩,
   ⟨(some 130), none, .pick, [.tmp 126 false, .tmp 129 false, .val (.bool false)]⟩,
   ⟨(some 131), none, .move, [.tmp 130 false]⟩,
   ⟨(some 132), (some (131, true)), .call n_law2_known false, []⟩,
   ⟨(some 133), none, .pick, [.tmp 131 false, .tmp 132 false, .val (.bool false)]⟩,
   ⟨(some 0), none, .move, [.tmp 133 false]⟩])
 (.ghost (.kill [120, 121, 122, 123, 124, 125, 126, 127, 128, 129, 130, 131, 132, 133]) (.ret)))))))), [.tmp 0]⟩
def l_varint_Put_0 : ACode := .seq (.seq (.region [⟨(some 16), none, .move, [.tmp 6 false]⟩,
   ⟨(some 17), none, .bin .geq .plain, [.tmp 16 false, .val (.int .u64 128)]⟩])
 (.ghost (.kill [16]) (.cond (.tmp 17 false) (.skip)
  (.ghost (.kill [17]) (.exit 0)))))
 (.ghost (.kill [17]) (.block 1 (.seq (.region [⟨(some 18), none, .move, [.tmp 5 true]⟩,
    ⟨(some 19), none, .move, [.tmp 6 false]⟩,
    ⟨(some 20), none, .toInt .u8, [.tmp 19 false]⟩,
    ⟨(some 21), none, .bin .or .plain, [.tmp 20 false, .val (.int .u8 128)]⟩,
    ⟨(some 22), none, .buildSlice 1 (.int .u8 0) 1 [0], [.tmp 21 false]⟩,
    ⟨(some 23), none, .append 1 1 false, [.tmp 18 true, .tmp 22 true]⟩,
    ⟨(some 5), none, .move, [.tmp 23 true]⟩])
  (.ghost (.kill [18, 19, 20, 21, 22, 23]) (.region [⟨(some 24), none, .move, [.tmp 6 false]⟩,
    ⟨(some 25), none, .bin .shr .plain, [.tmp 24 false, .val (.int .u64 7)]⟩,
    ⟨(some 6), none, .move, [.tmp 25 false]⟩])))))
def k_varint_Put_0 : List Nat := [16, 17, 18, 19, 20, 21, 22, 23, 24, 25]
def c_varint_Put : AFunc := ⟨32, false, .seq (.region [⟨(some 4), none, .move, [.val (.list 1 [] .full)]⟩])
 (.ghost (.kill [4]) (.seq (.region [⟨(some 7), none, .move, [.tmp 0 true]⟩,
   ⟨(some 8), none, .call n_slices_Clone_byte_byte_ false, [.tmp 7 true]⟩,
   ⟨(some 5), none, .move, [.tmp 8 true]⟩])
 (.ghost (.kill [0, 7, 8]) (.seq (.region [⟨(some 9), none, .move, [.tmp 1 false]⟩,
   ⟨(some 10), none, .toInt .u64, [.tmp 9 false]⟩,
   ⟨(some 11), none, .bin .shl .plain, [.tmp 10 false, .val (.int .u64 1)]⟩,
   ⟨(some 12), none, .move, [.tmp 1 false]⟩,
   ⟨(some 13), none, .bin .shr .plain, [.tmp 12 false, .val (.int .u64 63)]⟩,
   ⟨(some 14), none, .toInt .u64, [.tmp 13 false]⟩,
   ⟨(some 15), none, .bin .xor .plain, [.tmp 11 false, .tmp 14 false]⟩,
   ⟨(some 6), none, .move, [.tmp 15 false]⟩])
 (.ghost (.kill [1, 9, 10, 11, 12, 13, 14, 15]) (.seq (.block 0 (.loop (.ghost (.kill k_varint_Put_0) l_varint_Put_0)))
 (.ghost (.kill [16, 17, 18, 19, 20, 21, 22, 23, 24, 25]) (.seq (.region [⟨(some 26), none, .move, [.tmp 5 true]⟩,
   ⟨(some 27), none, .move, [.tmp 6 false]⟩,
   ⟨(some 28), none, .toInt .u8, [.tmp 27 false]⟩,
   ⟨(some 29), none, .buildSlice 1 (.int .u8 0) 1 [0], [.tmp 28 false]⟩,
   ⟨(some 30), none, .append 1 1 false, [.tmp 26 true, .tmp 29 true]⟩,
   ⟨(some 31), none, .call n_slices_Clip_byte_byte_ false, [.tmp 30 true]⟩,
   ⟨(some 4), none, .move, [.tmp 31 true]⟩])
 (.ghost (.kill [5, 6, 26, 27, 28, 29, 30, 31]) (.ret)))))))))), [.tmp 4]⟩
def l_varint_Get_0 : ACode := .seq (.region [⟨(some 12), none, .bin .lss .plain, [.tmp 11 false, .tmp 10 false]⟩])
 (.seq (.cond (.tmp 12 false) (.skip)
  (.ghost (.kill [0, 4, 10, 11, 12]) (.exit 0)))
 (.ghost (.kill [12]) (.seq (.block 1 (.seq (.region [⟨(some 13), none, .move, [.tmp 11 false]⟩,
    ⟨(some 5), none, .move, [.tmp 13 false]⟩])
  (.ghost (.kill [13]) (.seq (.region [⟨(some 14), none, .move, [.tmp 0 false]⟩,
    ⟨(some 15), none, .move, [.tmp 5 false]⟩,
    ⟨(some 16), none, .ixAddr 1, [.tmp 14 true, .tmp 15 false]⟩,
    ⟨(some 17), none, .load false 1 false, [.tmp 16 false]⟩,
    ⟨(some 18), none, .toInt .u64, [.tmp 17 false]⟩,
    ⟨(some 6), none, .move, [.tmp 18 false]⟩])
  (.ghost (.kill [14, 15, 16, 17, 18]) (.seq (.region [⟨(some 19), none, .move, [.tmp 6 false]⟩,
    ⟨(some 20), none, .bin .andNot .plain, [.tmp 19 false, .val (.int .u64 128)]⟩,
    ⟨(some 7), none, .move, [.tmp 20 false]⟩])
  (.ghost (.kill [19, 20]) (.seq (.seq (.region [⟨(some 21), none, .move, [.tmp 7 false]⟩,
    ⟨(some 22), none, .move, [.tmp 5 false]⟩,
    ⟨(some 23), none, .bin .mul .plain, [.tmp 22 false, .val (.int .i64 7)]⟩,
    ⟨(some 24), none, .bin .shl .plain, [.tmp 21 false, .tmp 23 false]⟩,
    ⟨(some 25), none, .move, [.tmp 5 false]⟩,
    ⟨(some 26), none, .bin .mul .plain, [.tmp 25 false, .val (.int .i64 7)]⟩,
    ⟨(some 27), none, .bin .shr .plain, [.tmp 24 false, .tmp 26 false]⟩,
    ⟨(some 28), none, .move, [.tmp 7 false]⟩,
    ⟨(some 29), none, .bin .neq .plain, [.tmp 27 false, .tmp 28 false]⟩])
  (.ghost (.kill [21, 22, 23, 24, 25, 26, 27, 28]) (.cond (.tmp 29 false) (.seq (.region [⟨(some 2), none, .move, [.val (.int .i64 0)]⟩,
     ⟨(some 3), none, .move, [.val (.int .i64 0)]⟩])
   (.ghost (.kill [0, 4, 5, 6, 7, 10, 11, 29]) (.ret)))
   (.skip))))
  (.ghost (.kill [29]) (.seq (.region [⟨(some 30), none, .move, [.tmp 4 false]⟩,
    ⟨(some 31), none, .move, [.tmp 7 false]⟩,
    ⟨(some 32), none, .move, [.tmp 5 false]⟩,
    ⟨(some 33), none, .bin .mul .plain, [.tmp 32 false, .val (.int .i64 7)]⟩,
    ⟨(some 34), none, .bin .shl .plain, [.tmp 31 false, .tmp 33 false]⟩,
    ⟨(some 35), none, .bin .or .plain, [.tmp 30 false, .tmp 34 false]⟩,
    ⟨(some 4), none, .move, [.tmp 35 false]⟩])
  (.ghost (.kill [7, 30, 31, 32, 33, 34, 35]) (.block 2 (.seq (.region [⟨(some 47), none, .move, [.tmp 6 false]⟩,
     ⟨(some 48), none, .bin .geq .plain, [.tmp 47 false, .val (.int .u64 128)]⟩,
     ⟨(some 46), none, .move, [.tmp 48 false]⟩])
   (.ghost (.kill [47, 48]) (.cond (.tmp 46 false) (.skip)
    (.seq (.region [⟨(some 50), none, .move, [.tmp 6 false]⟩,
      ⟨(some 51), none, .bin .eql .plain, [.tmp 50 false, .val (.int .u64 0)]⟩,
      ⟨(some 52), none, .move, [.tmp 51 false]⟩,
      ⟨(some 53), (some (52, true)), .move, [.tmp 5 false]⟩,
      ⟨(some 54), (some (52, true)), .bin .gtr .plain, [.tmp 53 false, .val (.int .i64 0)]⟩,
      ⟨(some 55), none, .pick, [.tmp 52 false, .tmp 54 false, .val (.bool false)]⟩,
      ⟨(some 49), none, .move, [.tmp 55 false]⟩])
    (.ghost (.kill [0, 6, 10, 11, 46, 50, 51, 52, 53, 54, 55]) (.cond (.tmp 49 false) (.seq (.region [⟨(some 2), none, .move, [.val (.int .i64 0)]⟩,
       ⟨(some 3), none, .move, [.val (.int .i64 0)]⟩])
     (.ghost (.kill [4, 5, 49]) (.ret)))
     (.seq (.region [⟨(some 36), none, .move, [.tmp 4 false]⟩,
       ⟨(some 37), none, .bin .shr .plain, [.tmp 36 false, .val (.int .u64 1)]⟩,
       ⟨(some 38), none, .toInt .i64, [.tmp 37 false]⟩,
       ⟨(some 39), none, .move, [.tmp 4 false]⟩,
       ⟨(some 40), none, .bin .and .plain, [.tmp 39 false, .val (.int .u64 1)]⟩,
       ⟨(some 41), none, .toInt .i64, [.tmp 40 false]⟩,
       ⟨(some 42), none, .un .neg, [.tmp 41 false]⟩,
       ⟨(some 43), none, .bin .xor .plain, [.tmp 38 false, .tmp 42 false]⟩,
       ⟨(some 44), none, .move, [.tmp 5 false]⟩,
       ⟨(some 45), none, .bin .add .plain, [.tmp 44 false, .val (.int .i64 1)]⟩,
       ⟨(some 2), none, .move, [.tmp 43 false]⟩,
       ⟨(some 3), none, .move, [.tmp 45 false]⟩])
     (.ghost (.kill [4, 5, 36, 37, 38, 39, 40, 41, 42, 43, 44, 45, 49]) (.ret)))))))))))))))))))))
 (.ghost (.kill [5, 6, 46]) (.region [⟨(some 56), none, .bin .add .plain, [.tmp 11 false, .val (.int .i64 1)]⟩,
   ⟨(some 11), none, .move, [.tmp 56 false]⟩])))))
def k_varint_Get_0 : List Nat := [2, 3, 5, 6, 7, 12, 13, 14, 15, 16, 17, 18, 19, 20, 21, 22, 23, 24, 25, 26, 27, 28, 29, 30, 31, 32, 33, 34, 35, 36, 37, 38, 39, 40, 41, 42, 43, 44, 45, 46, 47, 48, 49, 50, 51, 52, 53, 54, 55, 56]
def c_varint_Get : AFunc := ⟨57, false, .seq (.region [⟨(some 2), none, .move, [.val (.int .i64 0)]⟩,
   ⟨(some 3), none, .move, [.val (.int .i64 0)]⟩])
 (.ghost (.kill [2, 3]) (.seq (.region [⟨(some 4), none, .move, [.val (.int .u64 0)]⟩])
 (.seq (.seq (.region [⟨(some 8), none, .move, [.tmp 0 false]⟩,
   ⟨(some 9), none, .len false, [.tmp 8 true]⟩,
   ⟨(some 10), none, .mm false, [.tmp 9 false, .val (.int .i64 10)]⟩,
   ⟨(some 11), none, .move, [.val (.int .i64 0)]⟩])
 (.ghost (.kill [8, 9]) (.block 0 (.loop (.ghost (.kill k_varint_Get_0) l_varint_Get_0)))))
 (.ghost (.kill [0, 2, 3, 4, 5, 6, 7, 10, 11, 12, 13, 14, 15, 16, 17, 18, 19, 20, 21, 22, 23, 24, 25, 26, 27, 28, 29, 30, 31, 32, 33, 34, 35, 36, 37, 38, 39, 40, 41, 42, 43, 44, 45, 46, 47, 48, 49, 50, 51, 52, 53, 54, 55, 56]) (.seq (.region [⟨(some 2), none, .move, [.val (.int .i64 0)]⟩,
   ⟨(some 3), none, .move, [.val (.int .i64 0)]⟩])
 (.ret)))))), [.tmp 2, .tmp 3]⟩
def c_law2_known : AFunc := ⟨85, false, .seq (.region [⟨(some 0), none, .move, [.val (.bool false)]⟩])
 (.ghost (.kill [0]) (.seq (.region [⟨(some 14), none, .buildSlice 1 (.int .u8 0) 2 [0, 1], [.val (.int .u8 128), .val (.int .u8 0)]⟩,
   ⟨(some 15), none, .call n_varint_Get false, [.tmp 14 true]⟩,
   ⟨(some 13), none, .move, [.tmp 15 false]⟩,
   ⟨(some 16), none, .move, [.proj 13 0 false]⟩,
   ⟨(some 17), none, .move, [.proj 13 1 false]⟩,
   ⟨(some 1), none, .move, [.tmp 16 false]⟩,
   ⟨(some 2), none, .move, [.tmp 17 false]⟩])
 (.ghost (.kill [13, 14, 15, 16, 17]) (.seq (.region [⟨(some 19), none, .buildSlice 1 (.int .u8 0) 2 [0, 1], [.val (.int .u8 1), .val (.int .u8 9)]⟩,
   ⟨(some 20), none, .call n_varint_Get false, [.tmp 19 true]⟩,
   ⟨(some 18), none, .move, [.tmp 20 false]⟩,
   ⟨(some 21), none, .move, [.proj 18 0 false]⟩,
   ⟨(some 22), none, .move, [.proj 18 1 false]⟩,
   ⟨(some 3), none, .move, [.tmp 21 false]⟩,
   ⟨(some 4), none, .move, [.tmp 22 false]⟩])
 (.ghost (.kill [18, 19, 20, 21, 22]) (.seq (.region [⟨(some 24), none, .buildSlice 1 (.int .u8 0) 4 [0, 1, 2, 3], [.val (.int .u8 4), .val (.int .u8 97), .val (.int .u8 98), .val (.int .u8 99)]⟩,
   ⟨(some 25), none, .call n_varint_Cut false, [.tmp 24 true, .val (.int .i64 2)]⟩,
   ⟨(some 23), none, .move, [.tmp 25 false]⟩,
   ⟨(some 26), none, .move, [.proj 23 0 false]⟩,
   ⟨(some 27), none, .move, [.proj 23 1 false]⟩,
   ⟨(some 5), none, .move, [.tmp 26 false]⟩,
   ⟨(some 6), none, .move, [.tmp 27 false]⟩])
 (.ghost (.kill [23, 24, 25, 26, 27]) (.seq (.region [⟨(some 29), none, .buildSlice 1 (.int .u8 0) 4 [0, 1, 2, 3], [.val (.int .u8 4), .val (.int .u8 97), .val (.int .u8 98), .val (.int .u8 99)]⟩,
   ⟨(some 30), none, .call n_varint_Cut false, [.tmp 29 true, .val (.int .i64 1)]⟩,
   ⟨(some 28), none, .move, [.tmp 30 false]⟩,
   ⟨(some 31), none, .move, [.proj 28 0 false]⟩,
   ⟨(some 32), none, .move, [.proj 28 1 false]⟩,
   ⟨(some 7), none, .move, [.tmp 31 false]⟩,
   ⟨(some 8), none, .move, [.tmp 32 false]⟩])
 (.ghost (.kill [7, 28, 29, 30, 31, 32]) (.seq (.region [⟨(some 34), none, .mkslice 1 (.int .u8 0) 1, [.val (.int .i64 7), .val (.int .i64 7)]⟩,
   ⟨(some 35), none, .call n_varint_Back false, [.tmp 34 true]⟩,
   ⟨(some 33), none, .move, [.tmp 35 false]⟩,
   ⟨(some 36), none, .move, [.proj 33 0 false]⟩,
   ⟨(some 37), none, .move, [.proj 33 1 false]⟩,
   ⟨(some 9), none, .move, [.tmp 36 false]⟩,
   ⟨(some 10), none, .move, [.tmp 37 false]⟩])
 (.ghost (.kill [9, 33, 34, 35, 36, 37]) (.seq (.region [⟨(some 39), none, .call n_varint_Long false, [.val (.list 1 [] .full), .val (.int .i64 (-5))]⟩,
   ⟨(some 40), none, .call n_varint_Back false, [.tmp 39 true]⟩,
   ⟨(some 38), none, .move, [.tmp 40 false]⟩,
   ⟨(some 41), none, .move, [.proj 38 0 false]⟩,
   ⟨(some 42), none, .move, [.proj 38 1 false]⟩,
   ⟨(some 11), none, .move, [.tmp 41 false]⟩,
   ⟨(some 12), none, .move, [.tmp 42 false]⟩])
 (.ghost (.kill [38, 39, 40, 41, 42]) (.seq (.region [⟨(some 43), none, .call n_varint_Put false, [.val (.list 1 [] .full), .val (.int .i64 (-1))]⟩,
   ⟨(some 44), none, .toStr, [.tmp 43 true]⟩,
   ⟨(some 45), none, .bin .eql .plain, [.tmp 44 false, .val (.str [1])]⟩,
   ⟨(some 46), none, .move, [.tmp 45 false]⟩,
   ⟨(some 47), (some (46, true)), .move, [.tmp 1 false]⟩,
   ⟨(some 48), (some (46, true)), .bin .eql .plain, [.tmp 47 false, .val (.int .i64 0)]⟩,
   ⟨(some 49), none, .pick, [.tmp 46 false, .tmp 48 false, .val (.bool false)]⟩,
   ⟨(some 50), none, .move, [.tmp 49 false]⟩,
   ⟨(some 51), (some (50, true)), .move, [.tmp 2 false]⟩,
   ⟨(some 52), (some (50, true)), .bin .eql .plain, [.tmp 51 false, .val (.int .i64 0)]⟩,
   ⟨(some 53), none, .pick, [.tmp 50 false, .tmp 52 false, .val (.bool false)]⟩,
   ⟨(some 54), none, .move, [.tmp 53 false]⟩,
   ⟨(some 55), (some (54, true)), .move, [.tmp 3 false]⟩,
   ⟨(some 56), (some (54, true)), .bin .eql .plain, [.tmp 55 false, .val (.int .i64 (-1))]⟩,
   ⟨(some 57), none, .pick, [.tmp 54 false, .tmp 56 false, .val (.bool false)]⟩,
   ⟨(some 58), none, .move, [.tmp 57 false]⟩,
   ⟨(some 59), (some (58, true)), .move, [.tmp 4 false]⟩,
   ⟨(some 60), (some (58, true)), .bin .eql .plain, [.tmp 59 false, .val (.int .i64 1)]⟩,
   ⟨(some 61), none, .pick, [.tmp 58 false, .tmp 60 false, .val (.bool false)]⟩,
   ⟨(some 62), none, .move, [.tmp 61 false]⟩,
   ⟨(some 63), (some (62, true)), .move, [.tmp 5 false]⟩,
   ⟨(some 64), (some (62, true)), .bin .eql .plain, [.tmp 63 false, .val (.str [97, 98])]⟩,
   ⟨(some 65), none, .pick, [.tmp 62 false, .tmp 64 false, .val (.bool false)]⟩,
   ⟨(some 66), none, .move, [.tmp 65 false]⟩,
   ⟨(some 67), (some (66, true)), .move, [.tmp 6 false]⟩,
   ⟨(some 68), (some (66, true)), .bin .eql .plain, [.tmp 67 false, .val (.int .i64 3)]⟩,
   ⟨(some 69), none, .pick, [.tmp 66 false, .tmp 68 false, .val (.bool false)]⟩,
   ⟨(some 70), none, .move, [.tmp 69 false]⟩,
   ⟨(some 71), (some (70, true)), .move, [.tmp 8 false]⟩,
   ⟨(some 72), (some (70, true)), .bin .eql .plain, [.tmp 71 false, .val (.int .i64 0)]⟩,
   ⟨(some 73), none, .pick, [.tmp 70 false, .tmp 72 false, .val (.bool false)]⟩,
   ⟨(some 74), none, .move, [.tmp 73 false]⟩,
   ⟨(some 75), (some (74, true)), .move, [.tmp 10 false]⟩,
   ⟨(some 76), (some (74, true)), .un .not, [.tmp 75 false]⟩,
   ⟨(some 77), none, .pick, [.tmp 74 false, .tmp 76 false, .val (.bool false)]⟩,
   ⟨(some 78), none, .move, [.tmp 77 false]⟩,
   ⟨(some 79), (some (78, true)), .move, [.tmp 11 false]⟩,
   ⟨(some 80), (some (78, true)), .bin .eql .plain, [.tmp 79 false, .val (.int .i64 (-5))]⟩,
   ⟨(some 81), none, .pick, [.tmp 78 false, .tmp 80 false, .val (.bool false)]⟩,
   ⟨(some 82), none, .move, [.tmp 81 false]⟩,
   ⟨(some 83), (some (82, true)), .move, [.tmp 12 false]⟩,
   ⟨(some 84), none, .pick, [.tmp 82 false, .tmp 83 false, .val (.bool false)]⟩,
   ⟨(some 0), none, .move, [.tmp 84 false]⟩])
 (.ghost (.kill [1, 2, 3, 4, 5, 6, 8, 10, 11, 12, 43, 44, 45, 46, 47, 48, 49, 50, 51, 52, 53, 54, 55, 56, 57, 58, 59, 60, 61, 62, 63, 64, 65, 66, 67, 68, 69, 70, 71, 72, 73, 74, 75, 76, 77, 78, 79, 80, 81, 82, 83, 84]) (.ret)))))))))))))))), [.tmp 0]⟩
def l_varint_Long_0 : ACode := .seq (.region [⟨(some 10), none, .bin .lss .plain, [.tmp 9 false, .val (.int .i64 8)]⟩])
 (.seq (.cond (.tmp 10 false) (.skip)
  (.ghost (.kill [1, 9, 10]) (.exit 0)))
 (.ghost (.kill [10]) (.seq (.block 1 (.seq (.region [⟨(some 11), none, .move, [.tmp 9 false]⟩,
    ⟨(some 6), none, .move, [.tmp 11 false]⟩])
  (.ghost (.kill [11]) (.region [⟨(some 12), none, .move, [.tmp 5 true]⟩,
    ⟨(some 13), none, .move, [.tmp 1 false]⟩,
    ⟨(some 14), none, .toInt .u64, [.tmp 13 false]⟩,
    ⟨(some 15), none, .move, [.tmp 6 false]⟩,
    ⟨(some 16), none, .bin .sub .plain, [.val (.int .i64 7), .tmp 15 false]⟩,
    ⟨(some 17), none, .call n_varint_bitsOf false, [.tmp 16 false]⟩,
    ⟨(some 18), none, .bin .shr .plain, [.tmp 14 false, .tmp 17 false]⟩,
    ⟨(some 19), none, .toInt .u8, [.tmp 18 false]⟩,
    ⟨(some 20), none, .buildSlice 1 (.int .u8 0) 1 [0], [.tmp 19 false]⟩,
    ⟨(some 21), none, .append 1 1 false, [.tmp 12 true, .tmp 20 true]⟩,
    ⟨(some 5), none, .move, [.tmp 21 true]⟩]))))
 (.ghost (.kill [6, 12, 13, 14, 15, 16, 17, 18, 19, 20, 21]) (.region [⟨(some 22), none, .bin .add .plain, [.tmp 9 false, .val (.int .i64 1)]⟩,
   ⟨(some 9), none, .move, [.tmp 22 false]⟩])))))
def k_varint_Long_0 : List Nat := [6, 10, 11, 12, 13, 14, 15, 16, 17, 18, 19, 20, 21, 22]
def c_varint_Long : AFunc := ⟨25, false, .seq (.region [⟨(some 4), none, .move, [.val (.list 1 [] .full)]⟩])
 (.ghost (.kill [4]) (.seq (.region [⟨(some 7), none, .move, [.tmp 0 true]⟩,
   ⟨(some 8), none, .call n_slices_Clone_byte_byte_ false, [.tmp 7 true]⟩,
   ⟨(some 5), none, .move, [.tmp 8 true]⟩])
 (.ghost (.kill [0, 7, 8]) (.seq (.seq (.region [⟨(some 9), none, .move, [.val (.int .i64 0)]⟩])
 (.block 0 (.loop (.ghost (.kill k_varint_Long_0) l_varint_Long_0))))
 (.ghost (.kill [1, 6, 9, 10, 11, 12, 13, 14, 15, 16, 17, 18, 19, 20, 21, 22]) (.seq (.region [⟨(some 23), none, .move, [.tmp 5 true]⟩,
   ⟨(some 24), none, .call n_slices_Clip_byte_byte_ false, [.tmp 23 true]⟩,
   ⟨(some 4), none, .move, [.tmp 24 true]⟩])
 (.ghost (.kill [5, 23, 24]) (.ret)))))))), [.tmp 4]⟩
def l_varint_Back_0 : ACode := .seq (.region [⟨(some 14), none, .bin .lss .plain, [.tmp 13 false, .tmp 12 false]⟩])
 (.seq (.cond (.tmp 14 false) (.skip)
  (.ghost (.kill [11, 12, 13, 14]) (.exit 0)))
 (.ghost (.kill [14]) (.seq (.block 1 (.seq (.region [⟨(some 15), none, .ixAddr 1, [.tmp 11 false, .tmp 13 false]⟩,
    ⟨(some 16), none, .load false 1 false, [.tmp 15 false]⟩,
    ⟨(some 6), none, .move, [.tmp 16 false]⟩])
  (.ghost (.kill [15, 16]) (.region [⟨(some 17), none, .move, [.tmp 4 false]⟩,
    ⟨(some 18), none, .bin .shl .plain, [.tmp 17 false, .val (.int .u64 8)]⟩,
    ⟨(some 19), none, .move, [.tmp 6 false]⟩,
    ⟨(some 20), none, .toInt .u64, [.tmp 19 false]⟩,
    ⟨(some 21), none, .bin .or .plain, [.tmp 18 false, .tmp 20 false]⟩,
    ⟨(some 4), none, .move, [.tmp 21 false]⟩]))))
 (.ghost (.kill [6, 17, 18, 19, 20, 21]) (.region [⟨(some 22), none, .bin .add .plain, [.tmp 13 false, .val (.int .i64 1)]⟩,
   ⟨(some 13), none, .move, [.tmp 22 false]⟩])))))
def k_varint_Back_0 : List Nat := [6, 14, 15, 16, 17, 18, 19, 20, 21, 22]
def c_varint_Back : AFunc := ⟨25, false, .seq (.region [⟨(some 2), none, .move, [.val (.int .i64 0)]⟩,
   ⟨(some 3), none, .move, [.val (.bool false)]⟩])
 (.ghost (.kill [2, 3]) (.seq (.seq (.region [⟨(some 7), none, .move, [.tmp 0 false]⟩,
   ⟨(some 8), none, .len false, [.tmp 7 true]⟩,
   ⟨(some 9), none, .bin .lss .plain, [.tmp 8 false, .val (.int .i64 8)]⟩])
 (.ghost (.kill [7, 8]) (.cond (.tmp 9 false) (.seq (.region [⟨(some 2), none, .move, [.val (.int .i64 0)]⟩,
    ⟨(some 3), none, .move, [.val (.bool false)]⟩])
  (.ghost (.kill [0, 9]) (.ret)))
  (.skip))))
 (.ghost (.kill [9]) (.seq (.region [⟨(some 4), none, .move, [.val (.int .u64 0)]⟩])
 (.seq (.seq (.region [⟨(some 10), none, .move, [.tmp 0 true]⟩,
   ⟨(some 11), none, .slice 1 false true false, [.tmp 10 true, .val (.int .i64 8)]⟩,
   ⟨(some 12), none, .len false, [.tmp 11 false]⟩,
   ⟨(some 13), none, .move, [.val (.int .i64 0)]⟩])
 (.ghost (.kill [0, 10]) (.block 0 (.loop (.ghost (.kill k_varint_Back_0) l_varint_Back_0)))))
 (.ghost (.kill [6, 11, 12, 13, 14, 15, 16, 17, 18, 19, 20, 21, 22]) (.seq (.region [⟨(some 23), none, .move, [.tmp 4 false]⟩,
   ⟨(some 24), none, .toInt .i64, [.tmp 23 false]⟩,
   ⟨(some 2), none, .move, [.tmp 24 false]⟩,
   ⟨(some 3), none, .move, [.val (.bool true)]⟩])
 (.ghost (.kill [4, 23, 24]) (.ret))))))))), [.tmp 2, .tmp 3]⟩
def l_ref1_Put_0 : ACode := .seq (.seq (.region [⟨(some 17), none, .move, [.tmp 6 false]⟩,
   ⟨(some 18), none, .bin .geq .plain, [.tmp 17 false, .val (.int .u64 128)]⟩])
 (.ghost (.kill [17]) (.cond (.tmp 18 false) (.skip)
  (.ghost (.kill [18]) (.exit 0)))))
 (.ghost (.kill [18]) (.block 1 (.seq (.region [⟨(some 19), none, .move, [.tmp 5 true]⟩,
    ⟨(some 20), none, .move, [.tmp 6 false]⟩,
    ⟨(some 21), none, .toInt .u8, [.tmp 20 false]⟩,
    ⟨(some 22), none, .bin .or .plain, [.tmp 21 false, .val (.int .u8 128)]⟩,
    ⟨(some 23), none, .buildSlice 1 (.int .u8 0) 1 [0], [.tmp 22 false]⟩,
    ⟨(some 24), none, .append 1 1 false, [.tmp 19 true, .tmp 23 true]⟩,
    ⟨(some 5), none, .move, [.tmp 24 true]⟩])
  (.ghost (.kill [19, 20, 21, 22, 23, 24]) (.region [⟨(some 25), none, .move, [.tmp 6 false]⟩,
    ⟨(some 26), none, .bin .shr .plain, [.tmp 25 false, .val (.int .u64 7)]⟩,
    ⟨(some 6), none, .move, [.tmp 26 false]⟩])))))
def k_ref1_Put_0 : List Nat := [17, 18, 19, 20, 21, 22, 23, 24, 25, 26]
def c_ref1_Put : AFunc := ⟨32, false, .seq (.region [⟨(some 4), none, .move, [.val (.list 1 [] .full)]⟩])
 (.ghost (.kill [4]) (.seq (.region [⟨(some 7), none, .buildSlice 1 (.int .u8 0) 0 [], []⟩,
   ⟨(some 8), none, .move, [.tmp 0 true]⟩,
   ⟨(some 9), none, .append 1 1 false, [.tmp 7 true, .tmp 8 true]⟩,
   ⟨(some 5), none, .move, [.tmp 9 true]⟩])
 (.ghost (.kill [0, 7, 8, 9]) (.seq (.region [⟨(some 10), none, .move, [.tmp 1 false]⟩,
   ⟨(some 11), none, .bin .shl .plain, [.tmp 10 false, .val (.int .u64 1)]⟩,
   ⟨(some 12), none, .toInt .u64, [.tmp 11 false]⟩,
   ⟨(some 13), none, .move, [.tmp 1 false]⟩,
   ⟨(some 14), none, .bin .shr .plain, [.tmp 13 false, .val (.int .u64 63)]⟩,
   ⟨(some 15), none, .toInt .u64, [.tmp 14 false]⟩,
   ⟨(some 16), none, .bin .xor .plain, [.tmp 12 false, .tmp 15 false]⟩,
   ⟨(some 6), none, .move, [.tmp 16 false]⟩])
 (.ghost (.kill [1, 10, 11, 12, 13, 14, 15, 16]) (.seq (.block 0 (.loop (.ghost (.kill k_ref1_Put_0) l_ref1_Put_0)))
 (.ghost (.kill [17, 18, 19, 20, 21, 22, 23, 24, 25, 26]) (.seq (.region [⟨(some 27), none, .move, [.tmp 5 true]⟩,
   ⟨(some 28), none, .move, [.tmp 6 false]⟩,
   ⟨(some 29), none, .toInt .u8, [.tmp 28 false]⟩,
   ⟨(some 30), none, .buildSlice 1 (.int .u8 0) 1 [0], [.tmp 29 false]⟩,
   ⟨(some 31), none, .append 1 1 false, [.tmp 27 true, .tmp 30 true]⟩,
   ⟨(some 4), none, .move, [.tmp 31 true]⟩])
 (.ghost (.kill [5, 6, 27, 28, 29, 30, 31]) (.ret)))))))))), [.tmp 4]⟩
def c_law2_puts : AFunc := ⟨38, false, .seq (.region [⟨(some 6), none, .move, [.val (.bool false)]⟩])
 (.ghost (.kill [6]) (.seq (.draw [(⟨(some 7), none, .move, [.tmp 0 false]⟩, ⟨false, []⟩),
   (⟨(some 8), none, .move, [.tmp 1 false]⟩, ⟨false, []⟩),
   (⟨(some 9), none, .call n_varint_Put false, [.tmp 7 true, .tmp 8 false]⟩, ⟨true, []⟩),
   (⟨(some 10), none, .toStr, [.tmp 9 true]⟩, ⟨false, []⟩),
   (⟨(some 11), none, .move, [.tmp 0 false]⟩, ⟨false, [2]⟩),
   (⟨(some 12), none, .move, [.tmp 1 false]⟩, ⟨false, [2]⟩),
   (⟨(some 13), none, .call n_ref1_Put false, [.tmp 11 true, .tmp 12 false]⟩, ⟨true, [3]⟩),
   (⟨(some 14), none, .toStr, [.tmp 13 true]⟩, ⟨false, []⟩),
   (⟨(some 15), none, .bin .eql .plain, [.tmp 10 false, .tmp 14 false]⟩, ⟨false, []⟩),
   (⟨(some 16), none, .move, [.tmp 15 false]⟩, ⟨false, []⟩),
   (⟨(some 17), (some (16, true)), .move, [.tmp 0 false]⟩, ⟨false, []⟩),
   (⟨(some 18), (some (16, true)), .move, [.tmp 2 false]⟩, ⟨false, []⟩),
   (⟨(some 19), (some (16, true)), .call n_varint_Text false, [.tmp 17 true, .tmp 18 false]⟩, ⟨true, []⟩),
   (⟨(some 20), (some (16, true)), .toStr, [.tmp 19 true]⟩, ⟨false, []⟩),
   (⟨(some 21), (some (16, true)), .move, [.tmp 0 false]⟩, ⟨false, [12]⟩),
   (⟨(some 22), (some (16, true)), .move, [.tmp 2 false]⟩, ⟨false, [12]⟩),
   (⟨(some 23), (some (16, true)), .call n_ref1_Text false, [.tmp 21 true, .tmp 22 false]⟩, ⟨true, [13]⟩),
   (⟨(some 24), (some (16, true)), .toStr, [.tmp 23 true]⟩, ⟨false, []⟩),
   (⟨(some 25), (some (16, true)), .bin .eql .plain, [.tmp 20 false, .tmp 24 false]⟩, ⟨false, []⟩),
   (⟨(some 26), none, .pick, [.tmp 16 false, .tmp 25 false, .val (.bool false)]⟩, ⟨false, []⟩),
   (⟨(some 27), none, .move, [.tmp 26 false]⟩, ⟨false, []⟩),
   (⟨(some 28), (some (27, true)), .move, [.tmp 0 false]⟩, ⟨false, []⟩),
   (⟨(some 29), (some (27, true)), .move, [.tmp 1 false]⟩, ⟨false, []⟩),
   (⟨(some 30), (some (27, true)), .call n_varint_Long false, [.tmp 28 true, .tmp 29 false]⟩, ⟨true, []⟩),
   (⟨(some 31), (some (27, true)), .toStr, [.tmp 30 true]⟩, ⟨false, []⟩),
   (⟨(some 32), (some (27, true)), .move, [.tmp 0 false]⟩, ⟨false, [23]⟩),
   (⟨(some 33), (some (27, true)), .move, [.tmp 1 false]⟩, ⟨false, [23]⟩),
   (⟨(some 34), (some (27, true)), .call n_ref1_Long false, [.tmp 32 true, .tmp 33 false]⟩, ⟨true, [24]⟩),
   (⟨(some 35), (some (27, true)), .toStr, [.tmp 34 true]⟩, ⟨false, []⟩),
   (⟨(some 36), (some (27, true)), .bin .eql .plain, [.tmp 31 false, .tmp 35 false]⟩, ⟨false, []⟩),
   (⟨(some 37), none, .pick, [.tmp 27 false, .tmp 36 false, .val (.bool false)]⟩, ⟨false, []⟩),
   (⟨(some 6), none, .move, [.tmp 37 false]⟩, ⟨false, []⟩)])
 (.ghost (.kill [0, 1, 2, 7, 8, 9, 10, 11, 12, 13, 14, 15, 16, 17, 18, 19, 20, 21, 22, 23, 24, 25, 26, 27, 28, 29, 30, 31, 32, 33, 34, 35, 36, 37]) (.ret)))), [.tmp 6]⟩
def c_law2_reads : AFunc := ⟨77, false, .seq (.region [⟨(some 4), none, .move, [.val (.bool false)]⟩])
 (.ghost (.kill [4]) (.seq (.region [⟨(some 18), none, .move, [.tmp 0 false]⟩,
   ⟨(some 19), none, .call n_varint_Get false, [.tmp 18 true]⟩,
   ⟨(some 17), none, .move, [.tmp 19 false]⟩,
   ⟨(some 20), none, .move, [.proj 17 0 false]⟩,
   ⟨(some 21), none, .move, [.proj 17 1 false]⟩,
   ⟨(some 5), none, .move, [.tmp 20 false]⟩,
   ⟨(some 6), none, .move, [.tmp 21 false]⟩])
 (.ghost (.kill [17, 18, 19, 20, 21]) (.seq (.region [⟨(some 23), none, .move, [.tmp 0 false]⟩,
   ⟨(some 24), none, .call n_ref1_Get false, [.tmp 23 true]⟩,
   ⟨(some 22), none, .move, [.tmp 24 false]⟩,
   ⟨(some 25), none, .move, [.proj 22 0 false]⟩,
   ⟨(some 26), none, .move, [.proj 22 1 false]⟩,
   ⟨(some 7), none, .move, [.tmp 25 false]⟩,
   ⟨(some 8), none, .move, [.tmp 26 false]⟩])
 (.ghost (.kill [22, 23, 24, 25, 26]) (.seq (.region [⟨(some 28), none, .move, [.tmp 0 false]⟩,
   ⟨(some 29), none, .move, [.tmp 1 false]⟩,
   ⟨(some 30), none, .call n_varint_Cut false, [.tmp 28 true, .tmp 29 false]⟩,
   ⟨(some 27), none, .move, [.tmp 30 false]⟩,
   ⟨(some 31), none, .move, [.proj 27 0 false]⟩,
   ⟨(some 32), none, .move, [.proj 27 1 false]⟩,
   ⟨(some 9), none, .move, [.tmp 31 false]⟩,
   ⟨(some 10), none, .move, [.tmp 32 false]⟩])
 (.ghost (.kill [27, 28, 29, 30, 31, 32]) (.seq (.region [⟨(some 34), none, .move, [.tmp 0 false]⟩,
   ⟨(some 35), none, .move, [.tmp 1 false]⟩,
   ⟨(some 36), none, .call n_ref1_Cut false, [.tmp 34 true, .tmp 35 false]⟩,
   ⟨(some 33), none, .move, [.tmp 36 false]⟩,
   ⟨(some 37), none, .move, [.proj 33 0 false]⟩,
   ⟨(some 38), none, .move, [.proj 33 1 false]⟩,
   ⟨(some 11), none, .move, [.tmp 37 false]⟩,
   ⟨(some 12), none, .move, [.tmp 38 false]⟩])
 (.ghost (.kill [1, 33, 34, 35, 36, 37, 38]) (.seq (.region [⟨(some 40), none, .move, [.tmp 0 false]⟩,
   ⟨(some 41), none, .call n_varint_Back false, [.tmp 40 true]⟩,
   ⟨(some 39), none, .move, [.tmp 41 false]⟩,
   ⟨(some 42), none, .move, [.proj 39 0 false]⟩,
   ⟨(some 43), none, .move, [.proj 39 1 false]⟩,
   ⟨(some 13), none, .move, [.tmp 42 false]⟩,
   ⟨(some 14), none, .move, [.tmp 43 false]⟩])
 (.ghost (.kill [39, 40, 41, 42, 43]) (.seq (.region [⟨(some 45), none, .move, [.tmp 0 true]⟩,
   ⟨(some 46), none, .call n_ref1_Back false, [.tmp 45 true]⟩,
   ⟨(some 44), none, .move, [.tmp 46 false]⟩,
   ⟨(some 47), none, .move, [.proj 44 0 false]⟩,
   ⟨(some 48), none, .move, [.proj 44 1 false]⟩,
   ⟨(some 15), none, .move, [.tmp 47 false]⟩,
   ⟨(some 16), none, .move, [.tmp 48 false]⟩])
 (.ghost (.kill [0, 44, 45, 46, 47, 48]) (.seq (.region [⟨(some 49), none, .move, [.tmp 5 false]⟩,
   ⟨(some 50), none, .move, [.tmp 7 false]⟩,
   ⟨(some 51), none, .bin .eql .plain, [.tmp 49 false, .tmp 50 false]⟩,
   ⟨(some 52), none, .move, [.tmp 51 false]⟩,
   ⟨(some 53), (some (52, true)), .move, [.tmp 6 false]⟩,
   ⟨(some 54), (some (52, true)), .move, [.tmp 8 false]⟩,
   ⟨(some 55), (some (52, true)), .bin .eql .plain, [.tmp 53 false, .tmp 54 false]⟩,
   ⟨(some 56), none, .pick, [.tmp 52 false, .tmp 55 false, .val (.bool false)]⟩,
   ⟨(some 57), none, .move, [.tmp 56 false]⟩,
   ⟨(some 58), (some (57, true)), .move, [.tmp 9 false]⟩,
   ⟨(some 59), (some (57, true)), .move, [.tmp 11 false]⟩,
   ⟨(some 60), (some (57, true)), .bin .eql .plain, [.tmp 58 false, .tmp 59 false]⟩,
   ⟨(some 61), none, .pick, [.tmp 57 false, .tmp 60 false, .val (.bool false)]⟩,
   ⟨(some 62), none, .move, [.tmp 61 false]⟩,
   ⟨(some 63), (some (62, true)), .move, [.tmp 10 false]⟩,
   ⟨(some 64), (some (62, true)), .move, [.tmp 12 false]⟩,
   ⟨(some 65), (some (62, true)), .bin .eql .plain, [.tmp 63 false, .tmp 64 false]⟩,
   ⟨(some 66), none, .pick, [.tmp 62 false, .tmp 65 false, .val (.bool false)]⟩,
   ⟨(some 67), none, .move, [.tmp 66 false]⟩,
   ⟨(some 68), (some (67, true)), .move, [.tmp 13 false]⟩,
   ⟨(some 69), (some (67, true)), .move, [.tmp 15 false]⟩,
   ⟨(some 70), (some (67, true)), .bin .eql .plain, [.tmp 68 false, .tmp 69 false]⟩,
   ⟨(some 71), none, .pick, [.tmp 67 false, .tmp 70 false, .val (.bool false)]⟩,
   ⟨(some 72), none, .move, [.tmp 71 false]⟩,
   ⟨(some 73), (some (72, true)), .move, [.tmp 14 false]⟩,
   ⟨(some 74), (some (72, true)), .move, [.tmp 16 false]⟩,
   ⟨(some 75), (some (72, true)), .bin .eql .bool, [.tmp 73 false, .tmp 74 false]⟩,
   ⟨(some 76), none, .pick, [.tmp 72 false, .tmp 75 false, .val (.bool false)]⟩,
   ⟨(some 4), none, .move, [.tmp 76 false]⟩])
 (.ghost (.kill [5, 6, 7, 8, 9, 10, 11, 12, 13, 14, 15, 16, 49, 50, 51, 52, 53, 54, 55, 56, 57, 58, 59, 60, 61, 62, 63, 64, 65, 66, 67, 68, 69, 70, 71, 72, 73, 74, 75, 76]) (.ret)))))))))))))))), [.tmp 4]⟩
def c_ref1_Text : AFunc := ⟨11, false, .seq (.region [⟨(some 4), none, .move, [.val (.list 1 [] .full)]⟩])
 (.ghost (.kill [4]) (.seq (.region [⟨(some 5), none, .move, [.tmp 0 true]⟩,
   ⟨(some 6), none, .move, [.tmp 1 false]⟩,
   ⟨(some 7), none, .len true, [.tmp 6 false]⟩,
   ⟨(some 8), none, .call n_ref1_Put false, [.tmp 5 true, .tmp 7 false]⟩,
   ⟨(some 9), none, .move, [.tmp 1 false]⟩,
   ⟨(some 10), none, .appendStr 1 false, [.tmp 8 true, .tmp 9 false]⟩,
   ⟨(some 4), none, .move, [.tmp 10 true]⟩])
 (.ghost (.kill [0, 1, 5, 6, 7, 8, 9, 10]) (.ret)))), [.tmp 4]⟩
def c_varint_Cut : AFunc := ⟨39, false, .seq (.region [⟨(some 4), none, .move, [.val (.str [])]⟩,
   ⟨(some 5), none, .move, [.val (.int .i64 0)]⟩])
 (.ghost (.kill [4, 5]) (.seq (.region [⟨(some 9), none, .move, [.tmp 0 false]⟩,
   ⟨(some 10), none, .call n_varint_Get false, [.tmp 9 true]⟩,
   ⟨(some 8), none, .move, [.tmp 10 false]⟩,
   ⟨(some 11), none, .move, [.proj 8 0 false]⟩,
   ⟨(some 12), none, .move, [.proj 8 1 false]⟩,
   ⟨(some 6), none, .move, [.tmp 11 false]⟩,
   ⟨(some 7), none, .move, [.tmp 12 false]⟩])
 (.ghost (.kill [8, 9, 10, 11, 12]) (.seq (.seq (.region [⟨(some 13), none, .move, [.tmp 7 false]⟩,
   ⟨(some 14), none, .bin .eql .plain, [.tmp 13 false, .val (.int .i64 0)]⟩,
   ⟨(some 15), none, .move, [.tmp 14 false]⟩,
   ⟨(some 16), (some (15, false)), .move, [.tmp 6 false]⟩,
   ⟨(some 17), (some (15, false)), .bin .lss .plain, [.tmp 16 false, .val (.int .i64 0)]⟩,
   ⟨(some 18), none, .pick, [.tmp 15 false, .val (.bool true), .tmp 17 false]⟩,
   ⟨(some 19), none, .move, [.tmp 18 false]⟩,
   ⟨(some 20), (some (19, false)), .move, [.tmp 6 false]⟩,
   ⟨(some 21), (some (19, false)), .move, [.tmp 1 false]⟩,
   ⟨(some 22), (some (19, false)), .move, [.tmp 0 false]⟩,
   ⟨(some 23), (some (19, false)), .len false, [.tmp 22 true]⟩,
   ⟨(some 24), (some (19, false)), .move, [.tmp 7 false]⟩,
   ⟨(some 25), (some (19, false)), .bin .sub .plain, [.tmp 23 false, .tmp 24 false]⟩,
   ⟨(some 26), (some (19, false)), .mm false, [.tmp 21 false, .tmp 25 false]⟩,
   ⟨(some 27), (some (19, false)), .bin .gtr .plain, [.tmp 20 false, .tmp 26 false]⟩,
   ⟨(some 28), none, .pick, [.tmp 19 false, .val (.bool true), .tmp 27 false]⟩])
 (.ghost (.kill [1, 13, 14, 15, 16, 17, 18, 19, 20, 21, 22, 23, 24, 25, 26, 27]) (.cond (.tmp 28 false) (.seq (.region [⟨(some 4), none, .move, [.val (.str [])]⟩,
    ⟨(some 5), none, .move, [.val (.int .i64 0)]⟩])
  (.ghost (.kill [0, 6, 7, 28]) (.ret)))
  (.skip))))
 (.ghost (.kill [28]) (.seq (.region [⟨(some 29), none, .move, [.tmp 0 true]⟩,
   ⟨(some 30), none, .move, [.tmp 7 false]⟩,
   ⟨(some 31), none, .move, [.tmp 7 false]⟩,
   ⟨(some 32), none, .move, [.tmp 6 false]⟩,
   ⟨(some 33), none, .bin .add .plain, [.tmp 31 false, .tmp 32 false]⟩,
   ⟨(some 34), none, .slice 1 true true false, [.tmp 29 true, .tmp 30 false, .tmp 33 false]⟩,
   ⟨(some 35), none, .toStr, [.tmp 34 true]⟩,
   ⟨(some 36), none, .move, [.tmp 7 false]⟩,
   ⟨(some 37), none, .move, [.tmp 6 false]⟩,
   ⟨(some 38), none, .bin .add .plain, [.tmp 36 false, .tmp 37 false]⟩,
   ⟨(some 4), none, .move, [.tmp 35 false]⟩,
   ⟨(some 5), none, .move, [.tmp 38 false]⟩])
 (.ghost (.kill [0, 6, 7, 29, 30, 31, 32, 33, 34, 35, 36, 37, 38]) (.ret)))))))), [.tmp 4, .tmp 5]⟩
def c_varint_Text : AFunc := ⟨12, false, .seq (.region [⟨(some 4), none, .move, [.val (.list 1 [] .full)]⟩])
 (.ghost (.kill [4]) (.seq (.region [⟨(some 5), none, .move, [.tmp 0 true]⟩,
   ⟨(some 6), none, .move, [.tmp 1 false]⟩,
   ⟨(some 7), none, .len true, [.tmp 6 false]⟩,
   ⟨(some 8), none, .call n_varint_Put false, [.tmp 5 true, .tmp 7 false]⟩,
   ⟨(some 9), none, .move, [.tmp 1 false]⟩,
   ⟨(some 10), none, .appendStr 1 false, [.tmp 8 true, .tmp 9 false]⟩,
   ⟨(some 11), none, .call n_slices_Clip_byte_byte_ false, [.tmp 10 true]⟩,
   ⟨(some 4), none, .move, [.tmp 11 true]⟩])
 (.ghost (.kill [0, 1, 5, 6, 7, 8, 9, 10, 11]) (.ret)))), [.tmp 4]⟩
def c_slices_Clip_byte_byte_ : AFunc := ⟨9, false, .seq (.region [⟨(some 2), none, .move, [.val (.list 1 [] .full)]⟩])
 (.ghost (.kill [2]) (.seq (.region [⟨(some 3), none, .move, [.tmp 0 false]⟩,
   ⟨(some 4), none, .move, [.tmp 0 false]⟩,
   ⟨(some 5), none, .len false, [.tmp 4 true]⟩,
   ⟨(some 6), none, .move, [.tmp 0 true]⟩,
   ⟨(some 7), none, .len false, [.tmp 6 true]⟩,
   ⟨(some 8), none, .slice 1 false true true, [.tmp 3 true, .tmp 5 false, .tmp 7 false]⟩,
   ⟨(some 2), none, .move, [.tmp 8 true]⟩])
 (.ghost (.kill [0, 3, 4, 5, 6, 7, 8]) (.ret)))), [.tmp 2]⟩
def c_varint_bitsOf : AFunc := ⟨5, false, .seq (.region [⟨(some 2), none, .move, [.val (.int .i64 0)]⟩])
 (.ghost (.kill [2]) (.seq (.region [⟨(some 3), none, .move, [.tmp 0 false]⟩,
   ⟨(some 4), none, .bin .mul .plain, [.tmp 3 false, .val (.int .i64 8)]⟩,
   ⟨(some 2), none, .move, [.tmp 4 false]⟩])
 (.ghost (.kill [0, 3, 4]) (.ret)))), [.tmp 2]⟩
def l_ref1_Long_0 : ACode := .seq (.seq (.region [⟨(some 10), none, .move, [.tmp 6 false]⟩,
   ⟨(some 11), none, .bin .geq .plain, [.tmp 10 false, .val (.int .i64 0)]⟩])
 (.ghost (.kill [10]) (.cond (.tmp 11 false) (.skip)
  (.ghost (.kill [1, 6, 11]) (.exit 0)))))
 (.ghost (.kill [11]) (.seq (.block 1 (.region [⟨(some 14), none, .move, [.tmp 5 true]⟩,
    ⟨(some 15), none, .move, [.tmp 1 false]⟩,
    ⟨(some 16), none, .move, [.tmp 6 false]⟩,
    ⟨(some 17), none, .toInt .u64, [.tmp 16 false]⟩,
    ⟨(some 18), none, .bin .shr .plain, [.tmp 15 false, .tmp 17 false]⟩,
    ⟨(some 19), none, .toInt .u8, [.tmp 18 false]⟩,
    ⟨(some 20), none, .buildSlice 1 (.int .u8 0) 1 [0], [.tmp 19 false]⟩,
    ⟨(some 21), none, .append 1 1 false, [.tmp 14 true, .tmp 20 true]⟩,
    ⟨(some 5), none, .move, [.tmp 21 true]⟩]))
 (.ghost (.kill [14, 15, 16, 17, 18, 19, 20, 21]) (.region [⟨(some 12), none, .move, [.tmp 6 false]⟩,
   ⟨(some 13), none, .bin .sub .plain, [.tmp 12 false, .val (.int .i64 8)]⟩,
   ⟨(some 6), none, .move, [.tmp 13 false]⟩]))))
def k_ref1_Long_0 : List Nat := [10, 11, 12, 13, 14, 15, 16, 17, 18, 19, 20, 21]
def c_ref1_Long : AFunc := ⟨23, false, .seq (.region [⟨(some 4), none, .move, [.val (.list 1 [] .full)]⟩])
 (.ghost (.kill [4]) (.seq (.region [⟨(some 7), none, .buildSlice 1 (.int .u8 0) 0 [], []⟩,
   ⟨(some 8), none, .move, [.tmp 0 true]⟩,
   ⟨(some 9), none, .append 1 1 false, [.tmp 7 true, .tmp 8 true]⟩,
   ⟨(some 5), none, .move, [.tmp 9 true]⟩])
 (.ghost (.kill [0, 7, 8, 9]) (.seq (.seq (.region [⟨(some 6), none, .move, [.val (.int .i64 56)]⟩])
 (.block 0 (.loop (.ghost (.kill k_ref1_Long_0) l_ref1_Long_0))))
 (.ghost (.kill [1, 6, 10, 11, 12, 13, 14, 15, 16, 17, 18, 19, 20, 21]) (.seq (.region [⟨(some 22), none, .move, [.tmp 5 true]⟩,
   ⟨(some 4), none, .move, [.tmp 22 true]⟩])
 (.ghost (.kill [5, 22]) (.ret)))))))), [.tmp 4]⟩
def l_ref1_Get_0 : ACode := .seq (.seq (.region [⟨(some 7), none, .move, [.tmp 5 false]⟩,
   ⟨(some 8), none, .move, [.tmp 0 false]⟩,
   ⟨(some 9), none, .len false, [.tmp 8 true]⟩,
   ⟨(some 10), none, .bin .lss .plain, [.tmp 7 false, .tmp 9 false]⟩,
   ⟨(some 11), none, .move, [.tmp 10 false]⟩,
   ⟨(some 12), (some (11, true)), .move, [.tmp 5 false]⟩,
   ⟨(some 13), (some (11, true)), .bin .lss .plain, [.tmp 12 false, .val (.int .i64 10)]⟩,
   ⟨(some 14), none, .pick, [.tmp 11 false, .tmp 13 false, .val (.bool false)]⟩])
 (.ghost (.kill [7, 8, 9, 10, 11, 12, 13]) (.cond (.tmp 14 false) (.skip)
  (.ghost (.kill [0, 4, 5, 14]) (.exit 0)))))
 (.ghost (.kill [14]) (.seq (.block 1 (.seq (.region [⟨(some 17), none, .move, [.tmp 4 false]⟩,
    ⟨(some 18), none, .move, [.tmp 0 false]⟩,
    ⟨(some 19), none, .move, [.tmp 5 false]⟩,
    ⟨(some 20), none, .ixAddr 1, [.tmp 18 true, .tmp 19 false]⟩,
    ⟨(some 21), none, .load false 1 false, [.tmp 20 false]⟩,
    ⟨(some 22), none, .bin .and .plain, [.tmp 21 false, .val (.int .u8 127)]⟩,
    ⟨(some 23), none, .toInt .u64, [.tmp 22 false]⟩,
    ⟨(some 24), none, .move, [.tmp 5 false]⟩,
    ⟨(some 25), none, .bin .mul .plain, [.val (.int .i64 7), .tmp 24 false]⟩,
    ⟨(some 26), none, .toInt .u64, [.tmp 25 false]⟩,
    ⟨(some 27), none, .bin .shl .plain, [.tmp 23 false, .tmp 26 false]⟩,
    ⟨(some 28), none, .bin .or .plain, [.tmp 17 false, .tmp 27 false]⟩,
    ⟨(some 4), none, .move, [.tmp 28 false]⟩])
  (.ghost (.kill [17, 18, 19, 20, 21, 22, 23, 24, 25, 26, 27, 28]) (.seq (.region [⟨(some 29), none, .move, [.tmp 0 false]⟩,
    ⟨(some 30), none, .move, [.tmp 5 false]⟩,
    ⟨(some 31), none, .ixAddr 1, [.tmp 29 true, .tmp 30 false]⟩,
    ⟨(some 32), none, .load false 1 false, [.tmp 31 false]⟩,
    ⟨(some 33), none, .bin .lss .plain, [.tmp 32 false, .val (.int .u8 128)]⟩])
  (.ghost (.kill [29, 30, 31, 32]) (.cond (.tmp 33 false) (.seq (.region [⟨(some 34), none, .move, [.tmp 4 false]⟩,
     ⟨(some 35), none, .bin .shr .plain, [.tmp 34 false, .val (.int .u64 1)]⟩,
     ⟨(some 36), none, .toInt .i64, [.tmp 35 false]⟩,
     ⟨(some 37), none, .move, [.tmp 4 false]⟩,
     ⟨(some 38), none, .bin .and .plain, [.tmp 37 false, .val (.int .u64 1)]⟩,
     ⟨(some 39), none, .toInt .i64, [.tmp 38 false]⟩,
     ⟨(some 40), none, .un .neg, [.tmp 39 false]⟩,
     ⟨(some 41), none, .bin .xor .plain, [.tmp 36 false, .tmp 40 false]⟩,
     ⟨(some 6), none, .move, [.tmp 41 false]⟩])
   (.ghost (.kill [4, 33, 34, 35, 36, 37, 38, 39, 40, 41]) (.seq (.seq (.draw [(⟨(some 42), none, .move, [.tmp 6 false]⟩, ⟨false, []⟩),
     (⟨(some 43), none, .call n_ref1_Put false, [.val (.list 1 [] .full), .tmp 42 false]⟩, ⟨true, []⟩),
     (⟨(some 44), none, .toStr, [.tmp 43 true]⟩, ⟨false, []⟩),
     (⟨(some 45), none, .move, [.tmp 0 true]⟩, ⟨false, [1]⟩),
     (⟨(some 46), none, .move, [.tmp 5 false]⟩, ⟨false, [1]⟩),
     (⟨(some 47), none, .bin .add .plain, [.tmp 46 false, .val (.int .i64 1)]⟩, ⟨false, [1]⟩),
     (⟨(some 48), none, .slice 1 false true false, [.tmp 45 true, .tmp 47 false]⟩, ⟨false, [1]⟩),
     (⟨(some 49), none, .toStr, [.tmp 48 true]⟩, ⟨false, [1]⟩),
     (⟨(some 50), none, .bin .neq .plain, [.tmp 44 false, .tmp 49 false]⟩, ⟨false, []⟩)])
   (.ghost (.kill [0, 42, 43, 44, 45, 46, 47, 48, 49]) (.cond (.tmp 50 false) (.seq (.region [⟨(some 2), none, .move, [.val (.int .i64 0)]⟩,
      ⟨(some 3), none, .move, [.val (.int .i64 0)]⟩])
    (.ghost (.kill [5, 6, 50]) (.ret)))
    (.skip))))
   (.ghost (.kill [50]) (.seq (.region [⟨(some 51), none, .move, [.tmp 6 false]⟩,
     ⟨(some 52), none, .move, [.tmp 5 false]⟩,
     ⟨(some 53), none, .bin .add .plain, [.tmp 52 false, .val (.int .i64 1)]⟩,
     ⟨(some 2), none, .move, [.tmp 51 false]⟩,
     ⟨(some 3), none, .move, [.tmp 53 false]⟩])
   (.ghost (.kill [5, 6, 51, 52, 53]) (.ret)))))))
   (.skip)))))))
 (.ghost (.kill [33]) (.region [⟨(some 15), none, .move, [.tmp 5 false]⟩,
   ⟨(some 16), none, .bin .add .plain, [.tmp 15 false, .val (.int .i64 1)]⟩,
   ⟨(some 5), none, .move, [.tmp 16 false]⟩]))))
def k_ref1_Get_0 : List Nat := [2, 3, 6, 7, 8, 9, 10, 11, 12, 13, 14, 15, 16, 17, 18, 19, 20, 21, 22, 23, 24, 25, 26, 27, 28, 29, 30, 31, 32, 33, 34, 35, 36, 37, 38, 39, 40, 41, 42, 43, 44, 45, 46, 47, 48, 49, 50, 51, 52, 53]
def c_ref1_Get : AFunc := ⟨54, false, .seq (.region [⟨(some 2), none, .move, [.val (.int .i64 0)]⟩,
   ⟨(some 3), none, .move, [.val (.int .i64 0)]⟩])
 (.ghost (.kill [2, 3]) (.seq (.region [⟨(some 4), none, .move, [.val (.int .u64 0)]⟩])
 (.seq (.seq (.region [⟨(some 5), none, .move, [.val (.int .i64 0)]⟩])
 (.block 0 (.loop (.ghost (.kill k_ref1_Get_0) l_ref1_Get_0))))
 (.ghost (.kill [0, 2, 3, 4, 5, 6, 7, 8, 9, 10, 11, 12, 13, 14, 15, 16, 17, 18, 19, 20, 21, 22, 23, 24, 25, 26, 27, 28, 29, 30, 31, 32, 33, 34, 35, 36, 37, 38, 39, 40, 41, 42, 43, 44, 45, 46, 47, 48, 49, 50, 51, 52, 53]) (.seq (.region [⟨(some 2), none, .move, [.val (.int .i64 0)]⟩,
   ⟨(some 3), none, .move, [.val (.int .i64 0)]⟩])
 (.ret)))))), [.tmp 2, .tmp 3]⟩
def c_ref1_Cut : AFunc := ⟨42, false, .seq (.region [⟨(some 4), none, .move, [.val (.str [])]⟩,
   ⟨(some 5), none, .move, [.val (.int .i64 0)]⟩])
 (.ghost (.kill [4, 5]) (.seq (.region [⟨(some 9), none, .move, [.tmp 0 false]⟩,
   ⟨(some 10), none, .call n_ref1_Get false, [.tmp 9 true]⟩,
   ⟨(some 8), none, .move, [.tmp 10 false]⟩,
   ⟨(some 11), none, .move, [.proj 8 0 false]⟩,
   ⟨(some 12), none, .move, [.proj 8 1 false]⟩,
   ⟨(some 6), none, .move, [.tmp 11 false]⟩,
   ⟨(some 7), none, .move, [.tmp 12 false]⟩])
 (.ghost (.kill [8, 9, 10, 11, 12]) (.seq (.seq (.region [⟨(some 13), none, .move, [.tmp 7 false]⟩,
   ⟨(some 14), none, .bin .eql .plain, [.tmp 13 false, .val (.int .i64 0)]⟩,
   ⟨(some 15), none, .move, [.tmp 14 false]⟩,
   ⟨(some 16), (some (15, false)), .move, [.tmp 6 false]⟩,
   ⟨(some 17), (some (15, false)), .bin .lss .plain, [.tmp 16 false, .val (.int .i64 0)]⟩,
   ⟨(some 18), none, .pick, [.tmp 15 false, .val (.bool true), .tmp 17 false]⟩,
   ⟨(some 19), none, .move, [.tmp 18 false]⟩,
   ⟨(some 20), (some (19, false)), .move, [.tmp 6 false]⟩,
   ⟨(some 21), (some (19, false)), .move, [.tmp 1 false]⟩,
   ⟨(some 22), (some (19, false)), .bin .gtr .plain, [.tmp 20 false, .tmp 21 false]⟩,
   ⟨(some 23), none, .pick, [.tmp 19 false, .val (.bool true), .tmp 22 false]⟩,
   ⟨(some 24), none, .move, [.tmp 23 false]⟩,
   ⟨(some 25), (some (24, false)), .move, [.tmp 6 false]⟩,
   ⟨(some 26), (some (24, false)), .move, [.tmp 0 false]⟩,
   ⟨(some 27), (some (24, false)), .len false, [.tmp 26 true]⟩,
   ⟨(some 28), (some (24, false)), .move, [.tmp 7 false]⟩,
   ⟨(some 29), (some (24, false)), .bin .sub .plain, [.tmp 27 false, .tmp 28 false]⟩,
   ⟨(some 30), (some (24, false)), .bin .gtr .plain, [.tmp 25 false, .tmp 29 false]⟩,
   ⟨(some 31), none, .pick, [.tmp 24 false, .val (.bool true), .tmp 30 false]⟩])
 (.ghost (.kill [1, 13, 14, 15, 16, 17, 18, 19, 20, 21, 22, 23, 24, 25, 26, 27, 28, 29, 30]) (.cond (.tmp 31 false) (.seq (.region [⟨(some 4), none, .move, [.val (.str [])]⟩,
    ⟨(some 5), none, .move, [.val (.int .i64 0)]⟩])
  (.ghost (.kill [0, 6, 7, 31]) (.ret)))
  (.skip))))
 (.ghost (.kill [31]) (.seq (.region [⟨(some 32), none, .move, [.tmp 0 true]⟩,
   ⟨(some 33), none, .move, [.tmp 7 false]⟩,
   ⟨(some 34), none, .move, [.tmp 7 false]⟩,
   ⟨(some 35), none, .move, [.tmp 6 false]⟩,
   ⟨(some 36), none, .bin .add .plain, [.tmp 34 false, .tmp 35 false]⟩,
   ⟨(some 37), none, .slice 1 true true false, [.tmp 32 true, .tmp 33 false, .tmp 36 false]⟩,
   ⟨(some 38), none, .toStr, [.tmp 37 true]⟩,
   ⟨(some 39), none, .move, [.tmp 7 false]⟩,
   ⟨(some 40), none, .move, [.tmp 6 false]⟩,
   ⟨(some 41), none, .bin .add .plain, [.tmp 39 false, .tmp 40 false]⟩,
   ⟨(some 4), none, .move, [.tmp 38 false]⟩,
   ⟨(some 5), none, .move, [.tmp 41 false]⟩])
 (.ghost (.kill [0, 6, 7, 32, 33, 34, 35, 36, 37, 38, 39, 40, 41]) (.ret)))))))), [.tmp 4, .tmp 5]⟩
def l_ref1_Back_0 : ACode := .seq (.seq (.region [⟨(some 9), none, .move, [.tmp 5 false]⟩,
   ⟨(some 10), none, .bin .lss .plain, [.tmp 9 false, .val (.int .i64 8)]⟩])
 (.ghost (.kill [9]) (.cond (.tmp 10 false) (.skip)
  (.ghost (.kill [0, 5, 10]) (.exit 0)))))
 (.ghost (.kill [10]) (.seq (.block 1 (.region [⟨(some 13), none, .move, [.tmp 4 false]⟩,
    ⟨(some 14), none, .bin .shl .plain, [.tmp 13 false, .val (.int .u64 8)]⟩,
    ⟨(some 15), none, .move, [.tmp 0 false]⟩,
    ⟨(some 16), none, .move, [.tmp 5 false]⟩,
    ⟨(some 17), none, .ixAddr 1, [.tmp 15 true, .tmp 16 false]⟩,
    ⟨(some 18), none, .load false 1 false, [.tmp 17 false]⟩,
    ⟨(some 19), none, .toInt .u64, [.tmp 18 false]⟩,
    ⟨(some 20), none, .bin .or .plain, [.tmp 14 false, .tmp 19 false]⟩,
    ⟨(some 4), none, .move, [.tmp 20 false]⟩]))
 (.ghost (.kill [13, 14, 15, 16, 17, 18, 19, 20]) (.region [⟨(some 11), none, .move, [.tmp 5 false]⟩,
   ⟨(some 12), none, .bin .add .plain, [.tmp 11 false, .val (.int .i64 1)]⟩,
   ⟨(some 5), none, .move, [.tmp 12 false]⟩]))))
def k_ref1_Back_0 : List Nat := [9, 10, 11, 12, 13, 14, 15, 16, 17, 18, 19, 20]
def c_ref1_Back : AFunc := ⟨23, false, .seq (.region [⟨(some 2), none, .move, [.val (.int .i64 0)]⟩,
   ⟨(some 3), none, .move, [.val (.bool false)]⟩])
 (.ghost (.kill [2, 3]) (.seq (.seq (.region [⟨(some 6), none, .move, [.tmp 0 false]⟩,
   ⟨(some 7), none, .len false, [.tmp 6 true]⟩,
   ⟨(some 8), none, .bin .lss .plain, [.tmp 7 false, .val (.int .i64 8)]⟩])
 (.ghost (.kill [6, 7]) (.cond (.tmp 8 false) (.seq (.region [⟨(some 2), none, .move, [.val (.int .i64 0)]⟩,
    ⟨(some 3), none, .move, [.val (.bool false)]⟩])
  (.ghost (.kill [0, 8]) (.ret)))
  (.skip))))
 (.ghost (.kill [8]) (.seq (.region [⟨(some 4), none, .move, [.val (.int .u64 0)]⟩])
 (.seq (.seq (.region [⟨(some 5), none, .move, [.val (.int .i64 0)]⟩])
 (.block 0 (.loop (.ghost (.kill k_ref1_Back_0) l_ref1_Back_0))))
 (.ghost (.kill [0, 5, 9, 10, 11, 12, 13, 14, 15, 16, 17, 18, 19, 20]) (.seq (.region [⟨(some 21), none, .move, [.tmp 4 false]⟩,
   ⟨(some 22), none, .toInt .i64, [.tmp 21 false]⟩,
   ⟨(some 2), none, .move, [.tmp 22 false]⟩,
   ⟨(some 3), none, .move, [.val (.bool true)]⟩])
 (.ghost (.kill [4, 21, 22]) (.ret))))))))), [.tmp 2, .tmp 3]⟩
def codes : List (Nat × AFunc) := [(n_law2_VarintNumbers, c_law2_VarintNumbers), (n_varint_Put, c_varint_Put), (n_varint_Get, c_varint_Get), (n_law2_known, c_law2_known), (n_varint_Long, c_varint_Long), (n_varint_Back, c_varint_Back), (n_ref1_Put, c_ref1_Put), (n_law2_puts, c_law2_puts), (n_law2_reads, c_law2_reads), (n_ref1_Text, c_ref1_Text), (n_varint_Cut, c_varint_Cut), (n_varint_Text, c_varint_Text), (n_slices_Clip_byte_byte_, c_slices_Clip_byte_byte_), (n_varint_bitsOf, c_varint_bitsOf), (n_ref1_Long, c_ref1_Long), (n_ref1_Get, c_ref1_Get), (n_ref1_Cut, c_ref1_Cut), (n_ref1_Back, c_ref1_Back)]
def ext : Sems := fun f => if f = n_slices_Clone_byte_byte_ then some (cloneSem 1 1) else none
def tbl (f : Nat) : Option AFunc := (codes.find? (·.1 == f)).map (·.2)
noncomputable def W : CallF := callW tbl ext
theorem W_fn {f : Nat} {fn : AFunc} (hx : ext f = none) (ht : tbl f = some fn) {args H r} (h : runFn W loopW fn args H = some r) : W f args H = some r := callW_fn hx ht h
theorem W_clone (xs H) (h : xs.length * 1 ≤ maxBytes) : W n_slices_Clone_byte_byte_ [.list 1 xs .ro] H = some (.list 1 xs .own, H) := callW_ext (s := cloneSem 1 1) rfl (by unfold cloneSem; exact if_pos ⟨rfl, h⟩)
end Go.Abs
