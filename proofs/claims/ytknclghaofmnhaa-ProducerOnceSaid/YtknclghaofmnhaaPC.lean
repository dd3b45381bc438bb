import Derived.Test.YtknclghaofmnhaaK36
import Derived.KernelRfl
namespace Go.Abs
open Go Go.RowKit
abbrev n_law10_ProducerOnce : Nat := 8
abbrev n_law10_ProducerMarkers : Nat := 9
abbrev n_law10_ProducerEpochs : Nat := 10
abbrev n_book_Within : Nat := 17
abbrev n_law10_known : Nat := 34
abbrev n_producer_Check : Nat := 35
abbrev n_producer_Apply : Nat := 36
abbrev n_producer_Right : Nat := 37
abbrev n_producer_Dup : Nat := 68
abbrev n_producer_Same : Nat := 75
abbrev n_producer_marker : Nat := 76
abbrev n_producer_later : Nat := 77
abbrev n_seq_Follows : Nat := 78
abbrev n_slices_Clone_3_int64_3_int64_ : Nat := 79
abbrev n_seq_Last : Nat := 80
abbrev n_producer_batches : Nat := 81
abbrev n_slices_Equal_3_int64_3_int64_ : Nat := 109
abbrev n_seq_Right : Nat := 110
abbrev n_seq_Add : Nat := 111
abbrev n_seq_Gap : Nat := 112
def l_law10_ProducerOnce_0 : ACode := .seq (.seq (.region [⟨(some 23), none, .move, [.tmp 10 false]⟩,
   ⟨(some 24), none, .move, [.tmp 1 false]⟩,
   ⟨(some 25), none, .len false, [.tmp 24 true]⟩,
   ⟨(some 26), none, .bin .lss .plain, [.tmp 23 false, .tmp 25 false]⟩,
   ⟨(some 27), none, .move, [.tmp 26 false]⟩,
   ⟨(some 28), (some (27, true)), .move, [.tmp 10 false]⟩,
   ⟨(some 29), (some (27, true)), .bin .lss .plain, [.tmp 28 false, .val (.int .i64 14)]⟩,
   ⟨(some 30), none, .pick, [.tmp 27 false, .tmp 29 false, .val (.bool false)]⟩])
 (.ghost (.kill [23, 24, 25, 26, 27, 28, 29]) (.cond (.tmp 30 false) (.skip)
  (.ghost (.kill [1, 6, 8, 10, 30]) (.exit 0)))))
 (.ghost (.kill [30]) (.seq (.block 1 (.seq (.region [⟨(some 33), none, .move, [.tmp 9 false]⟩,
    ⟨(some 34), none, .move, [.tmp 8 false]⟩,
    ⟨(some 35), none, .move, [.tmp 1 false]⟩,
    ⟨(some 36), none, .move, [.tmp 10 false]⟩,
    ⟨(some 37), none, .ixAddr 1, [.tmp 35 true, .tmp 36 false]⟩,
    ⟨(some 38), none, .load false 1 false, [.tmp 37 false]⟩,
    ⟨(some 39), none, .call n_book_Within false, [.tmp 38 false, .val (.int .i64 0), .val (.int .i64 5)]⟩,
    ⟨(some 40), none, .bin .add .plain, [.val (.int .i64 1), .tmp 39 false]⟩,
    ⟨(some 41), none, .mkslice 2 (.agg [.str [], .str []]) 32, [.tmp 40 false, .tmp 40 false]⟩,
    ⟨(some 42), none, .build [.int .i64 0, .int .i64 0, .int .i64 0, .int .i64 0, .bool false, .int .i64 0, .list 2 [] .full] [(0, 1), (1, 1), (2, 1), (3, 1), (6, 1)], [.tmp 33 false, .val (.int .i64 3), .val (.int .i64 1), .tmp 34 false, .tmp 41 true]⟩,
    ⟨(some 11), none, .alloc [.int .i64 0, .int .i64 0, .int .i64 0, .int .i64 0, .bool false, .int .i64 0, .list 2 [] .full], []⟩,
    ⟨none, none, .store 7, [.tmp 11 false, .tmp 42 false]⟩])
  (.ghost (.kill [33, 34, 35, 36, 37, 38, 39, 40, 41, 42]) (.seq (.seq (.region [⟨(some 44), none, .load true 4 false, [.tmp 5 false]⟩,
    ⟨(some 45), none, .move, [.tmp 6 false]⟩,
    ⟨(some 46), none, .load true 7 false, [.tmp 11 false]⟩,
    ⟨(some 47), none, .call n_producer_Check false, [.tmp 44 false, .tmp 45 false, .tmp 46 false]⟩,
    ⟨(some 43), none, .move, [.tmp 47 false]⟩,
    ⟨(some 48), none, .move, [.proj 43 0 false]⟩,
    ⟨(some 49), none, .move, [.proj 43 1 false]⟩,
    ⟨(some 12), none, .move, [.tmp 48 false]⟩,
    ⟨(some 13), none, .move, [.tmp 49 false]⟩])
  (.ghost (.kill [43, 44, 45, 46, 47, 48, 49]) (.seq (.region [⟨(some 50), none, .move, [.tmp 12 false]⟩,
    ⟨(some 51), none, .bin .neq .plain, [.tmp 50 false, .val (.int .i64 (-1))]⟩,
    ⟨(some 52), none, .move, [.tmp 51 false]⟩,
    ⟨(some 53), (some (52, false)), .move, [.tmp 13 false]⟩,
    ⟨(some 54), (some (52, false)), .bin .neq .plain, [.tmp 53 false, .val (.int .i64 0)]⟩,
    ⟨(some 55), none, .pick, [.tmp 52 false, .val (.bool true), .tmp 54 false]⟩])
  (.ghost (.kill [12, 13, 50, 51, 52, 53, 54]) (.cond (.tmp 55 false) (.seq (.region [⟨(some 4), none, .move, [.val (.bool false)]⟩])
   (.ghost (.kill [1, 5, 6, 7, 8, 9, 10, 11, 55]) (.ret)))
   (.skip))))))
  (.ghost (.kill [55]) (.seq (.region [⟨(some 56), none, .load true 4 false, [.tmp 5 false]⟩,
    ⟨(some 57), none, .move, [.tmp 6 false]⟩,
    ⟨(some 58), none, .load true 7 false, [.tmp 11 false]⟩,
    ⟨(some 59), none, .call n_producer_Apply false, [.tmp 56 false, .tmp 57 false, .tmp 58 false]⟩,
    ⟨none, none, .store 4, [.tmp 5 false, .tmp 59 false]⟩,
    ⟨(some 6), none, .move, [.val (.bool true)]⟩])
  (.ghost (.kill [56, 57, 58, 59]) (.seq (.region [⟨(some 60), none, .move, [.tmp 7 true]⟩,
    ⟨(some 61), none, .load true 7 false, [.tmp 11 false]⟩,
    ⟨(some 62), none, .buildSlice 7 (.agg [.int .i64 0, .int .i64 0, .int .i64 0, .int .i64 0, .bool false, .int .i64 0, .list 2 [] .full]) 1 [0], [.tmp 61 false]⟩,
    ⟨(some 63), none, .append 7 72 false, [.tmp 60 true, .tmp 62 true]⟩,
    ⟨(some 7), none, .move, [.tmp 63 true]⟩])
  (.ghost (.kill [60, 61, 62, 63]) (.draw [(⟨(some 64), none, .move, [.tmp 8 false]⟩, ⟨false, []⟩),
    (⟨(some 65), none, .addOff 6, [.tmp 11 false]⟩, ⟨false, []⟩),
    (⟨(some 66), none, .load false 1 false, [.tmp 65 false]⟩, ⟨false, []⟩),
    (⟨(some 67), none, .len false, [.tmp 66 true]⟩, ⟨false, []⟩),
    (⟨(some 68), none, .bin .add .plain, [.tmp 64 false, .tmp 67 false]⟩, ⟨false, []⟩),
    (⟨(some 69), none, .bin .and .plain, [.tmp 68 false, .val (.int .i64 2147483647)]⟩, ⟨false, []⟩),
    (⟨(some 70), none, .move, [.tmp 9 false]⟩, ⟨false, []⟩),
    (⟨(some 71), none, .addOff 6, [.tmp 11 false]⟩, ⟨false, []⟩),
    (⟨(some 72), none, .load false 1 false, [.tmp 71 false]⟩, ⟨false, []⟩),
    (⟨(some 73), none, .len false, [.tmp 72 true]⟩, ⟨false, []⟩),
    (⟨(some 74), none, .bin .add .plain, [.tmp 70 false, .tmp 73 false]⟩, ⟨false, []⟩),
    (⟨(some 8), none, .move, [.tmp 69 false]⟩, ⟨false, []⟩),
    (⟨(some 9), none, .move, [.tmp 74 false]⟩, ⟨false, []⟩)]))))))))))
 (.ghost (.kill [11, 64, 65, 66, 67, 68, 69, 70, 71, 72, 73, 74]) (.region [⟨(some 31), none, .move, [.tmp 10 false]⟩,
   ⟨(some 32), none, .bin .add .plain, [.tmp 31 false, .val (.int .i64 1)]⟩,
   ⟨(some 10), none, .move, [.tmp 32 false]⟩]))))
def k_law10_ProducerOnce_0 : List Nat := [4, 11, 12, 13, 23, 24, 25, 26, 27, 28, 29, 30, 31, 32, 33, 34, 35, 36, 37, 38, 39, 40, 41, 42, 43, 44, 45, 46, 47, 48, 49, 50, 51, 52, 53, 54, 55, 56, 57, 58, 59, 60, 61, 62, 63, 64, 65, 66, 67, 68, 69, 70, 71, 72, 73, 74]
def l_law10_ProducerOnce_1 : ACode := .seq (.region [⟨(some 78), none, .bin .lss .plain, [.tmp 77 false, .tmp 76 false]⟩])
 (.seq (.cond (.tmp 78 false) (.skip)
  (.ghost (.kill [9, 75, 76, 77, 78]) (.exit 2)))
 (.ghost (.kill [78]) (.seq (.block 3 (.seq (.region [⟨(some 79), none, .move, [.tmp 77 false]⟩,
    ⟨(some 80), none, .ixAddr 7, [.tmp 75 false, .tmp 77 false]⟩,
    ⟨(some 81), none, .load true 7 false, [.tmp 80 false]⟩,
    ⟨(some 15), none, .alloc [.int .i64 0, .int .i64 0, .int .i64 0, .int .i64 0, .bool false, .int .i64 0, .list 2 [] .full], []⟩,
    ⟨(some 14), none, .move, [.tmp 79 false]⟩,
    ⟨none, none, .store 7, [.tmp 15 false, .tmp 81 false]⟩])
  (.ghost (.kill [79, 80, 81]) (.seq (.region [⟨(some 82), none, .load true 7 false, [.tmp 15 false]⟩,
    ⟨(some 16), none, .alloc [.int .i64 0, .int .i64 0, .int .i64 0, .int .i64 0, .bool false, .int .i64 0, .list 2 [] .full], []⟩,
    ⟨none, none, .store 7, [.tmp 16 false, .tmp 82 false]⟩])
  (.ghost (.kill [82]) (.seq (.region [⟨(some 83), none, .move, [.tmp 9 false]⟩,
    ⟨(some 84), none, .addOff 0, [.tmp 16 false]⟩,
    ⟨none, none, .store 1, [.tmp 84 false, .tmp 83 false]⟩])
  (.ghost (.kill [83, 84]) (.seq (.region [⟨(some 86), none, .load true 4 false, [.tmp 5 false]⟩,
    ⟨(some 87), none, .load true 7 false, [.tmp 16 false]⟩,
    ⟨(some 88), none, .call n_producer_Check false, [.tmp 86 false, .val (.bool true), .tmp 87 false]⟩,
    ⟨(some 85), none, .move, [.tmp 88 false]⟩,
    ⟨(some 89), none, .move, [.proj 85 0 false]⟩,
    ⟨(some 90), none, .move, [.proj 85 1 false]⟩,
    ⟨(some 17), none, .move, [.tmp 89 false]⟩,
    ⟨(some 18), none, .move, [.tmp 90 false]⟩])
  (.ghost (.kill [16, 85, 86, 87, 88, 89, 90]) (.seq (.region [⟨(some 91), none, .move, [.tmp 14 false]⟩,
    ⟨(some 92), none, .move, [.tmp 7 false]⟩,
    ⟨(some 93), none, .len false, [.tmp 92 true]⟩,
    ⟨(some 94), none, .bin .sub .plain, [.tmp 93 false, .val (.int .i64 5)]⟩,
    ⟨(some 95), none, .bin .geq .plain, [.tmp 91 false, .tmp 94 false]⟩,
    ⟨(some 19), none, .move, [.tmp 95 false]⟩])
  (.ghost (.kill [14, 91, 92, 93, 94, 95]) (.seq (.region [⟨(some 96), none, .move, [.tmp 19 false]⟩,
    ⟨(some 97), none, .move, [.tmp 96 false]⟩,
    ⟨(some 98), (some (97, true)), .move, [.tmp 17 false]⟩,
    ⟨(some 99), (some (97, true)), .addOff 0, [.tmp 15 false]⟩,
    ⟨(some 100), (some (97, true)), .load false 1 false, [.tmp 99 false]⟩,
    ⟨(some 101), (some (97, true)), .bin .neq .plain, [.tmp 98 false, .tmp 100 false]⟩,
    ⟨(some 102), (some (97, true)), .move, [.tmp 101 false]⟩,
    ⟨(some 103), (some (102, false)), .move, [.tmp 18 false]⟩,
    ⟨(some 104), (some (102, false)), .bin .neq .plain, [.tmp 103 false, .val (.int .i64 0)]⟩,
    ⟨(some 105), (some (97, true)), .pick, [.tmp 102 false, .val (.bool true), .tmp 104 false]⟩,
    ⟨(some 106), none, .pick, [.tmp 97 false, .tmp 105 false, .val (.bool false)]⟩,
    ⟨(some 107), none, .move, [.tmp 106 false]⟩,
    ⟨(some 108), (some (107, false)), .move, [.tmp 19 false]⟩,
    ⟨(some 109), (some (107, false)), .un .not, [.tmp 108 false]⟩,
    ⟨(some 110), (some (107, false)), .move, [.tmp 109 false]⟩,
    ⟨(some 111), (some (110, true)), .move, [.tmp 17 false]⟩,
    ⟨(some 112), (some (110, true)), .bin .neq .plain, [.tmp 111 false, .val (.int .i64 (-1))]⟩,
    ⟨(some 113), (some (110, true)), .move, [.tmp 112 false]⟩,
    ⟨(some 114), (some (113, false)), .move, [.tmp 18 false]⟩,
    ⟨(some 115), (some (113, false)), .bin .neq .plain, [.tmp 114 false, .val (.int .i64 15)]⟩,
    ⟨(some 116), (some (110, true)), .pick, [.tmp 113 false, .val (.bool true), .tmp 115 false]⟩,
    ⟨(some 117), (some (107, false)), .pick, [.tmp 110 false, .tmp 116 false, .val (.bool false)]⟩,
    ⟨(some 118), none, .pick, [.tmp 107 false, .val (.bool true), .tmp 117 false]⟩])
  (.ghost (.kill [15, 17, 18, 19, 96, 97, 98, 99, 100, 101, 102, 103, 104, 105, 106, 107, 108, 109, 110, 111, 112, 113, 114, 115, 116, 117]) (.cond (.tmp 118 false) (.seq (.region [⟨(some 4), none, .move, [.val (.bool false)]⟩])
   (.ghost (.kill [5, 7, 9, 75, 76, 77, 118]) (.ret)))
   (.skip)))))))))))))))
 (.ghost (.kill [118]) (.region [⟨(some 119), none, .bin .add .plain, [.tmp 77 false, .val (.int .i64 1)]⟩,
   ⟨(some 77), none, .move, [.tmp 119 false]⟩])))))
def k_law10_ProducerOnce_1 : List Nat := [4, 14, 15, 16, 17, 18, 19, 78, 79, 80, 81, 82, 83, 84, 85, 86, 87, 88, 89, 90, 91, 92, 93, 94, 95, 96, 97, 98, 99, 100, 101, 102, 103, 104, 105, 106, 107, 108, 109, 110, 111, 112, 113, 114, 115, 116, 117, 118, 119]
def c_law10_ProducerOnce : AFunc := ⟨139, false, .seq (.region [⟨(some 4), none, .move, [.val (.bool false)]⟩])
 (.ghost (.kill [4]) (.seq (.region [⟨(some 20), none, .build [.int .i64 0, .int .i64 0, .list 3 [] .full, .int .i64 0] [], []⟩,
   ⟨(some 5), none, .alloc [.int .i64 0, .int .i64 0, .list 3 [] .full, .int .i64 0], []⟩,
   ⟨none, none, .store 4, [.tmp 5 false, .tmp 20 false]⟩,
   ⟨(some 6), none, .move, [.val (.bool false)]⟩])
 (.ghost (.kill [20]) (.seq (.region [⟨(some 7), none, .move, [.val (.list 7 [] .full)]⟩])
 (.seq (.region [⟨(some 21), none, .move, [.tmp 0 false]⟩,
   ⟨(some 22), none, .bin .and .plain, [.tmp 21 false, .val (.int .i64 2147483647)]⟩,
   ⟨(some 8), none, .move, [.tmp 22 false]⟩,
   ⟨(some 9), none, .move, [.val (.int .i64 0)]⟩])
 (.ghost (.kill [0, 21, 22]) (.seq (.seq (.region [⟨(some 10), none, .move, [.val (.int .i64 0)]⟩])
 (.block 0 (.loop (.ghost (.kill k_law10_ProducerOnce_0) l_law10_ProducerOnce_0))))
 (.ghost (.kill [1, 4, 6, 8, 10, 11, 12, 13, 23, 24, 25, 26, 27, 28, 29, 30, 31, 32, 33, 34, 35, 36, 37, 38, 39, 40, 41, 42, 43, 44, 45, 46, 47, 48, 49, 50, 51, 52, 53, 54, 55, 56, 57, 58, 59, 60, 61, 62, 63, 64, 65, 66, 67, 68, 69, 70, 71, 72, 73, 74]) (.seq (.seq (.region [⟨(some 75), none, .move, [.tmp 7 false]⟩,
   ⟨(some 76), none, .len false, [.tmp 75 false]⟩,
   ⟨(some 77), none, .move, [.val (.int .i64 0)]⟩])
 (.block 2 (.loop (.ghost (.kill k_law10_ProducerOnce_1) l_law10_ProducerOnce_1))))
 (.ghost (.kill [4, 9, 14, 15, 16, 17, 18, 19, 75, 76, 77, 78, 79, 80, 81, 82, 83, 84, 85, 86, 87, 88, 89, 90, 91, 92, 93, 94, 95, 96, 97, 98, 99, 100, 101, 102, 103, 104, 105, 106, 107, 108, 109, 110, 111, 112, 113, 114, 115, 116, 117, 118, 119]) (.seq (.regionS [(false, [⟨(some 120), none, .move, [.tmp 7 false]⟩,
   ⟨(some 121), none, .len false, [.tmp 120 true]⟩,
   ⟨(some 122), none, .bin .eql .plain, [.tmp 121 false, .val (.int .i64 0)]⟩,
   ⟨(some 123), none, .move, [.tmp 122 false]⟩,
   ⟨(some 124), (some (123, false)), .load true 4 false, [.tmp 5 false]⟩,
   ⟨(some 125), (some (123, false)), .call n_producer_Right false, [.tmp 124 false]⟩,
   ⟨(some 126), (some (123, false)), .move, [.tmp 125 false]⟩,
   ⟨(some 127), (some (126, true)), .addOff 2, [.tmp 5 false]⟩,
   ⟨(some 128), (some (126, true)), .load false 1 false, [.tmp 127 false]⟩,
   ⟨(some 129), (some (126, true)), .len false, [.tmp 128 true]⟩,
   ⟨(some 130), (some (126, true)), .move, [.tmp 7 true]⟩,
   ⟨(some 131), (some (126, true)), .len false, [.tmp 130 true]⟩,
   ⟨(some 132), (some (126, true)), .mm false, [.tmp 131 false, .val (.int .i64 5)]⟩,
   ⟨(some 133), (some (126, true)), .bin .eql .plain, [.tmp 129 false, .tmp 132 false]⟩,
   ⟨(some 134), (some (123, false)), .pick, [.tmp 126 false, .tmp 133 false, .val (.bool false)]⟩,
   ⟨(some 135), none, .pick, [.tmp 123 false, .val (.bool true), .tmp 134 false]⟩,
   ⟨(some 136), none, .move, [.tmp 135 false]⟩]),
   (true, [⟨(some 137), (some (136, true)), .call n_law10_known false, []⟩]),
   (false, [⟨(some 138), none, .pick, [.tmp 136 false, .tmp 137 false, .val (.bool false)]⟩,
   ⟨(some 4), none, .move, [.tmp 138 false]⟩])])
 (.ghost (.kill [5, 7, 120, 121, 122, 123, 124, 125, 126, 127, 128, 129, 130, 131, 132, 133, 134, 135, 136, 137, 138]) (.ret))))))))))))), [.tmp 4]⟩
def l_law10_ProducerMarkers_0 : ACode := .seq (.seq (.region [⟨(some 24), none, .move, [.tmp 10 false]⟩,
   ⟨(some 25), none, .move, [.tmp 1 false]⟩,
   ⟨(some 26), none, .call n_book_Within false, [.tmp 25 false, .val (.int .i64 0), .val (.int .i64 6)]⟩,
   ⟨(some 27), none, .bin .leq .plain, [.tmp 24 false, .tmp 26 false]⟩])
 (.ghost (.kill [24, 25, 26]) (.cond (.tmp 27 false) (.skip)
  (.ghost (.kill [1, 8, 9, 10, 27]) (.exit 0)))))
 (.ghost (.kill [27]) (.seq (.block 1 (.seq (.region [⟨(some 30), none, .move, [.tmp 10 false]⟩,
    ⟨(some 31), none, .bin .add .plain, [.val (.int .i64 10), .tmp 30 false]⟩,
    ⟨(some 32), none, .move, [.tmp 9 false]⟩,
    ⟨(some 33), none, .build [.str [], .str []] [], []⟩,
    ⟨(some 34), none, .buildSlice 2 (.agg [.str [], .str []]) 1 [0], [.tmp 33 false]⟩,
    ⟨(some 35), none, .build [.int .i64 0, .int .i64 0, .int .i64 0, .int .i64 0, .bool false, .int .i64 0, .list 2 [] .full] [(0, 1), (1, 1), (2, 1), (3, 1), (4, 1), (6, 1)], [.tmp 31 false, .val (.int .i64 2), .val (.int .i64 1), .tmp 32 false, .val (.bool true), .tmp 34 true]⟩,
    ⟨(some 11), none, .alloc [.int .i64 0, .int .i64 0, .int .i64 0, .int .i64 0, .bool false, .int .i64 0, .list 2 [] .full], []⟩,
    ⟨none, none, .store 7, [.tmp 11 false, .tmp 35 false]⟩])
  (.ghost (.kill [30, 31, 32, 33, 34, 35]) (.seq (.seq (.region [⟨(some 37), none, .load true 4 false, [.tmp 7 false]⟩,
    ⟨(some 38), none, .move, [.tmp 8 false]⟩,
    ⟨(some 39), none, .load true 7 false, [.tmp 11 false]⟩,
    ⟨(some 40), none, .call n_producer_Check false, [.tmp 37 false, .tmp 38 false, .tmp 39 false]⟩,
    ⟨(some 36), none, .move, [.tmp 40 false]⟩,
    ⟨(some 41), none, .move, [.proj 36 0 false]⟩,
    ⟨(some 42), none, .move, [.proj 36 1 false]⟩,
    ⟨(some 12), none, .move, [.tmp 41 false]⟩,
    ⟨(some 13), none, .move, [.tmp 42 false]⟩])
  (.ghost (.kill [36, 37, 38, 39, 40, 41, 42]) (.seq (.region [⟨(some 43), none, .move, [.tmp 12 false]⟩,
    ⟨(some 44), none, .bin .neq .plain, [.tmp 43 false, .val (.int .i64 (-1))]⟩,
    ⟨(some 45), none, .move, [.tmp 44 false]⟩,
    ⟨(some 46), (some (45, false)), .move, [.tmp 13 false]⟩,
    ⟨(some 47), (some (45, false)), .bin .neq .plain, [.tmp 46 false, .val (.int .i64 0)]⟩,
    ⟨(some 48), none, .pick, [.tmp 45 false, .val (.bool true), .tmp 47 false]⟩])
  (.ghost (.kill [12, 13, 43, 44, 45, 46, 47]) (.cond (.tmp 48 false) (.seq (.region [⟨(some 6), none, .move, [.val (.bool false)]⟩])
   (.ghost (.kill [1, 2, 7, 8, 9, 10, 11, 48]) (.ret)))
   (.skip))))))
  (.ghost (.kill [48]) (.seq (.region [⟨(some 49), none, .load true 4 false, [.tmp 7 false]⟩,
    ⟨(some 50), none, .move, [.tmp 8 false]⟩,
    ⟨(some 51), none, .load true 7 false, [.tmp 11 false]⟩,
    ⟨(some 52), none, .call n_producer_Apply false, [.tmp 49 false, .tmp 50 false, .tmp 51 false]⟩,
    ⟨none, none, .store 4, [.tmp 7 false, .tmp 52 false]⟩,
    ⟨(some 8), none, .move, [.val (.bool true)]⟩])
  (.ghost (.kill [49, 50, 51, 52]) (.seq (.region [⟨(some 53), none, .move, [.tmp 9 false]⟩,
    ⟨(some 54), none, .bin .add .plain, [.tmp 53 false, .val (.int .i64 1)]⟩,
    ⟨(some 55), none, .bin .and .plain, [.tmp 54 false, .val (.int .i64 2147483647)]⟩,
    ⟨(some 9), none, .move, [.tmp 55 false]⟩])
  (.ghost (.kill [53, 54, 55]) (.seq (.seq (.region [⟨(some 56), none, .addOff 3, [.tmp 7 false]⟩,
    ⟨(some 57), none, .load false 1 false, [.tmp 56 false]⟩,
    ⟨(some 58), none, .bin .neq .plain, [.tmp 57 false, .val (.int .i64 10)]⟩])
  (.ghost (.kill [56, 57]) (.cond (.tmp 58 false) (.seq (.region [⟨(some 6), none, .move, [.val (.bool false)]⟩])
   (.ghost (.kill [1, 2, 7, 8, 9, 10, 11, 58]) (.ret)))
   (.skip))))
  (.ghost (.kill [58]) (.seq (.region [⟨(some 59), none, .move, [.tmp 9 false]⟩,
    ⟨(some 60), none, .addOff 4, [.tmp 11 false]⟩,
    ⟨none, none, .store 1, [.tmp 60 false, .val (.bool false)]⟩,
    ⟨(some 61), none, .addOff 3, [.tmp 11 false]⟩,
    ⟨none, none, .store 1, [.tmp 61 false, .tmp 59 false]⟩])
  (.ghost (.kill [59, 60, 61]) (.seq (.region [⟨(some 63), none, .load true 4 false, [.tmp 7 false]⟩,
    ⟨(some 64), none, .load true 7 false, [.tmp 11 false]⟩,
    ⟨(some 65), none, .call n_producer_Check false, [.tmp 63 false, .val (.bool true), .tmp 64 false]⟩,
    ⟨(some 62), none, .move, [.tmp 65 false]⟩,
    ⟨(some 66), none, .move, [.proj 62 0 false]⟩,
    ⟨(some 67), none, .move, [.proj 62 1 false]⟩,
    ⟨(some 14), none, .move, [.tmp 66 false]⟩,
    ⟨(some 15), none, .move, [.tmp 67 false]⟩])
  (.ghost (.kill [11, 14, 62, 63, 64, 65, 66, 67]) (.seq (.region [⟨(some 68), none, .move, [.tmp 15 false]⟩,
    ⟨(some 69), none, .bin .neq .plain, [.tmp 68 false, .val (.int .i64 16)]⟩])
  (.ghost (.kill [15, 68]) (.cond (.tmp 69 false) (.seq (.region [⟨(some 6), none, .move, [.val (.bool false)]⟩])
   (.ghost (.kill [1, 2, 7, 8, 9, 10, 69]) (.ret)))
   (.skip)))))))))))))))))))
 (.ghost (.kill [69]) (.region [⟨(some 28), none, .move, [.tmp 10 false]⟩,
   ⟨(some 29), none, .bin .add .plain, [.tmp 28 false, .val (.int .i64 1)]⟩,
   ⟨(some 10), none, .move, [.tmp 29 false]⟩]))))
def k_law10_ProducerMarkers_0 : List Nat := [6, 11, 12, 13, 14, 15, 24, 25, 26, 27, 28, 29, 30, 31, 32, 33, 34, 35, 36, 37, 38, 39, 40, 41, 42, 43, 44, 45, 46, 47, 48, 49, 50, 51, 52, 53, 54, 55, 56, 57, 58, 59, 60, 61, 62, 63, 64, 65, 66, 67, 68, 69]
def c_law10_ProducerMarkers : AFunc := ⟨109, false, .seq (.region [⟨(some 6), none, .move, [.val (.bool false)]⟩])
 (.ghost (.kill [6]) (.seq (.region [⟨(some 21), none, .build [.int .i64 0, .int .i64 0, .list 3 [] .full, .int .i64 0] [], []⟩,
   ⟨(some 7), none, .alloc [.int .i64 0, .int .i64 0, .list 3 [] .full, .int .i64 0], []⟩,
   ⟨none, none, .store 4, [.tmp 7 false, .tmp 21 false]⟩,
   ⟨(some 8), none, .move, [.val (.bool false)]⟩])
 (.ghost (.kill [21]) (.seq (.region [⟨(some 22), none, .move, [.tmp 0 false]⟩,
   ⟨(some 23), none, .bin .and .plain, [.tmp 22 false, .val (.int .i64 2147483647)]⟩,
   ⟨(some 9), none, .move, [.tmp 23 false]⟩])
 (.ghost (.kill [0, 22, 23]) (.seq (.seq (.region [⟨(some 10), none, .move, [.val (.int .i64 0)]⟩])
 (.block 0 (.loop (.ghost (.kill k_law10_ProducerMarkers_0) l_law10_ProducerMarkers_0))))
 (.ghost (.kill [1, 6, 8, 9, 10, 11, 12, 13, 14, 15, 24, 25, 26, 27, 28, 29, 30, 31, 32, 33, 34, 35, 36, 37, 38, 39, 40, 41, 42, 43, 44, 45, 46, 47, 48, 49, 50, 51, 52, 53, 54, 55, 56, 57, 58, 59, 60, 61, 62, 63, 64, 65, 66, 67, 68, 69]) (.seq (.region [⟨(some 70), none, .move, [.tmp 2 false]⟩,
   ⟨(some 71), none, .call n_book_Within false, [.tmp 70 false, .val (.int .i64 0), .val (.int .i64 1)]⟩,
   ⟨(some 72), none, .bin .add .plain, [.val (.int .i64 1), .tmp 71 false]⟩,
   ⟨(some 73), none, .build [.int .i64 0, .int .i64 0, .int .i64 0, .int .i64 0, .bool false, .int .i64 0, .list 2 [] .full] [(0, 1), (1, 1), (2, 1), (3, 1), (4, 1), (5, 1)], [.val (.int .i64 40), .val (.int .i64 2), .val (.int .i64 1), .val (.int .i64 (-1)), .val (.bool true), .tmp 72 false]⟩,
   ⟨(some 16), none, .alloc [.int .i64 0, .int .i64 0, .int .i64 0, .int .i64 0, .bool false, .int .i64 0, .list 2 [] .full], []⟩,
   ⟨none, none, .store 7, [.tmp 16 false, .tmp 73 false]⟩])
 (.ghost (.kill [2, 70, 71, 72, 73]) (.seq (.region [⟨(some 75), none, .load true 4 false, [.tmp 7 false]⟩,
   ⟨(some 76), none, .load true 7 false, [.tmp 16 false]⟩,
   ⟨(some 77), none, .call n_producer_Check false, [.tmp 75 false, .val (.bool true), .tmp 76 false]⟩,
   ⟨(some 74), none, .move, [.tmp 77 false]⟩,
   ⟨(some 78), none, .move, [.proj 74 0 false]⟩,
   ⟨(some 79), none, .move, [.proj 74 1 false]⟩,
   ⟨(some 17), none, .move, [.tmp 78 false]⟩,
   ⟨(some 18), none, .move, [.tmp 79 false]⟩])
 (.ghost (.kill [17, 74, 75, 76, 77, 78, 79]) (.seq (.region [⟨(some 80), none, .load true 4 false, [.tmp 7 false]⟩,
   ⟨(some 81), none, .load true 7 false, [.tmp 16 false]⟩,
   ⟨(some 82), none, .call n_producer_Apply false, [.tmp 80 false, .val (.bool true), .tmp 81 false]⟩,
   ⟨none, none, .store 4, [.tmp 7 false, .tmp 82 false]⟩])
 (.ghost (.kill [80, 81, 82]) (.seq (.region [⟨(some 84), none, .load true 4 false, [.tmp 7 false]⟩,
   ⟨(some 85), none, .load true 7 false, [.tmp 16 false]⟩,
   ⟨(some 86), none, .call n_producer_Check false, [.tmp 84 false, .val (.bool true), .tmp 85 false]⟩,
   ⟨(some 83), none, .move, [.tmp 86 false]⟩,
   ⟨(some 87), none, .move, [.proj 83 0 false]⟩,
   ⟨(some 88), none, .move, [.proj 83 1 false]⟩,
   ⟨(some 19), none, .move, [.tmp 87 false]⟩,
   ⟨(some 20), none, .move, [.tmp 88 false]⟩])
 (.ghost (.kill [16, 19, 83, 84, 85, 86, 87, 88]) (.seq (.regionS [(false, [⟨(some 89), none, .move, [.tmp 18 false]⟩,
   ⟨(some 90), none, .bin .eql .plain, [.tmp 89 false, .val (.int .i64 0)]⟩,
   ⟨(some 91), none, .move, [.tmp 90 false]⟩,
   ⟨(some 92), (some (91, true)), .move, [.tmp 20 false]⟩,
   ⟨(some 93), (some (91, true)), .bin .eql .plain, [.tmp 92 false, .val (.int .i64 16)]⟩,
   ⟨(some 94), none, .pick, [.tmp 91 false, .tmp 93 false, .val (.bool false)]⟩,
   ⟨(some 95), none, .move, [.tmp 94 false]⟩,
   ⟨(some 96), (some (95, true)), .addOff 3, [.tmp 7 false]⟩,
   ⟨(some 97), (some (95, true)), .load false 1 false, [.tmp 96 false]⟩,
   ⟨(some 98), (some (95, true)), .bin .eql .plain, [.tmp 97 false, .val (.int .i64 (-1))]⟩,
   ⟨(some 99), none, .pick, [.tmp 95 false, .tmp 98 false, .val (.bool false)]⟩,
   ⟨(some 100), none, .move, [.tmp 99 false]⟩,
   ⟨(some 101), (some (100, true)), .addOff 2, [.tmp 7 false]⟩,
   ⟨(some 102), (some (100, true)), .load false 1 false, [.tmp 101 false]⟩,
   ⟨(some 103), (some (100, true)), .len false, [.tmp 102 true]⟩,
   ⟨(some 104), (some (100, true)), .bin .gtr .plain, [.tmp 103 false, .val (.int .i64 0)]⟩,
   ⟨(some 105), none, .pick, [.tmp 100 false, .tmp 104 false, .val (.bool false)]⟩,
   ⟨(some 106), none, .move, [.tmp 105 false]⟩]),
   (true, [⟨(some 107), (some (106, true)), .call n_law10_known false, []⟩]),
   (false, [⟨(some 108), none, .pick, [.tmp 106 false, .tmp 107 false, .val (.bool false)]⟩,
   ⟨(some 6), none, .move, [.tmp 108 false]⟩])])
 (.ghost (.kill [7, 18, 20, 89, 90, 91, 92, 93, 94, 95, 96, 97, 98, 99, 100, 101, 102, 103, 104, 105, 106, 107, 108]) (.ret)))))))))))))))))), [.tmp 6]⟩
def c_law10_ProducerEpochs : AFunc := ⟨98, false, .seq (.region [⟨(some 6), none, .move, [.val (.bool false)]⟩])
 (.ghost (.kill [6]) (.seq (.region [⟨(some 19), none, .move, [.tmp 0 false]⟩,
   ⟨(some 20), none, .call n_book_Within false, [.tmp 19 false, .val (.int .i64 0), .val (.int .i64 900)]⟩,
   ⟨(some 7), none, .move, [.tmp 20 false]⟩])
 (.ghost (.kill [0, 19, 20]) (.seq (.region [⟨(some 21), none, .move, [.tmp 7 false]⟩,
   ⟨(some 22), none, .bin .add .plain, [.tmp 21 false, .val (.int .i64 1)]⟩,
   ⟨(some 23), none, .move, [.tmp 1 false]⟩,
   ⟨(some 24), none, .call n_book_Within false, [.tmp 23 false, .val (.int .i64 0), .val (.int .i64 900)]⟩,
   ⟨(some 25), none, .bin .add .plain, [.tmp 22 false, .tmp 24 false]⟩,
   ⟨(some 8), none, .move, [.tmp 25 false]⟩])
 (.ghost (.kill [1, 21, 22, 23, 24, 25]) (.seq (.region [⟨(some 26), none, .build [.int .i64 0, .int .i64 0, .list 3 [] .full, .int .i64 0] [], []⟩,
   ⟨(some 27), none, .move, [.tmp 7 false]⟩,
   ⟨(some 28), none, .move, [.tmp 2 false]⟩,
   ⟨(some 29), none, .bin .and .plain, [.tmp 28 false, .val (.int .i64 2147483647)]⟩,
   ⟨(some 30), none, .build [.str [], .str []] [], []⟩,
   ⟨(some 31), none, .buildSlice 2 (.agg [.str [], .str []]) 1 [0], [.tmp 30 false]⟩,
   ⟨(some 32), none, .build [.int .i64 0, .int .i64 0, .int .i64 0, .int .i64 0, .bool false, .int .i64 0, .list 2 [] .full] [(0, 1), (1, 1), (2, 1), (3, 1), (6, 1)], [.val (.int .i64 1), .val (.int .i64 2), .tmp 27 false, .tmp 29 false, .tmp 31 true]⟩,
   ⟨(some 33), none, .call n_producer_Apply false, [.tmp 26 false, .val (.bool false), .tmp 32 false]⟩,
   ⟨(some 9), none, .alloc [.int .i64 0, .int .i64 0, .list 3 [] .full, .int .i64 0], []⟩,
   ⟨none, none, .store 4, [.tmp 9 false, .tmp 33 false]⟩])
 (.ghost (.kill [26, 27, 28, 29, 30, 31, 32, 33]) (.seq (.region [⟨(some 34), none, .move, [.tmp 8 false]⟩,
   ⟨(some 35), none, .move, [.tmp 2 false]⟩,
   ⟨(some 36), none, .bin .and .plain, [.tmp 35 false, .val (.int .i64 65535)]⟩,
   ⟨(some 37), none, .bin .add .plain, [.val (.int .i64 1), .tmp 36 false]⟩,
   ⟨(some 38), none, .build [.str [], .str []] [], []⟩,
   ⟨(some 39), none, .buildSlice 2 (.agg [.str [], .str []]) 1 [0], [.tmp 38 false]⟩,
   ⟨(some 40), none, .build [.int .i64 0, .int .i64 0, .int .i64 0, .int .i64 0, .bool false, .int .i64 0, .list 2 [] .full] [(0, 1), (1, 1), (2, 1), (3, 1), (6, 1)], [.val (.int .i64 2), .val (.int .i64 2), .tmp 34 false, .tmp 37 false, .tmp 39 true]⟩,
   ⟨(some 10), none, .alloc [.int .i64 0, .int .i64 0, .int .i64 0, .int .i64 0, .bool false, .int .i64 0, .list 2 [] .full], []⟩,
   ⟨none, none, .store 7, [.tmp 10 false, .tmp 40 false]⟩])
 (.ghost (.kill [34, 35, 36, 37, 38, 39, 40]) (.seq (.region [⟨(some 42), none, .load true 4 false, [.tmp 9 false]⟩,
   ⟨(some 43), none, .load true 7 false, [.tmp 10 false]⟩,
   ⟨(some 44), none, .call n_producer_Check false, [.tmp 42 false, .val (.bool true), .tmp 43 false]⟩,
   ⟨(some 41), none, .move, [.tmp 44 false]⟩,
   ⟨(some 45), none, .move, [.proj 41 0 false]⟩,
   ⟨(some 46), none, .move, [.proj 41 1 false]⟩,
   ⟨(some 11), none, .move, [.tmp 45 false]⟩,
   ⟨(some 12), none, .move, [.tmp 46 false]⟩])
 (.ghost (.kill [11, 41, 42, 43, 44, 45, 46]) (.seq (.region [⟨(some 47), none, .addOff 3, [.tmp 10 false]⟩,
   ⟨none, none, .store 1, [.tmp 47 false, .val (.int .i64 0)]⟩])
 (.ghost (.kill [47]) (.seq (.region [⟨(some 49), none, .load true 4 false, [.tmp 9 false]⟩,
   ⟨(some 50), none, .load true 7 false, [.tmp 10 false]⟩,
   ⟨(some 51), none, .call n_producer_Check false, [.tmp 49 false, .val (.bool true), .tmp 50 false]⟩,
   ⟨(some 48), none, .move, [.tmp 51 false]⟩,
   ⟨(some 52), none, .move, [.proj 48 0 false]⟩,
   ⟨(some 53), none, .move, [.proj 48 1 false]⟩,
   ⟨(some 13), none, .move, [.tmp 52 false]⟩,
   ⟨(some 14), none, .move, [.tmp 53 false]⟩])
 (.ghost (.kill [48, 49, 50, 51, 52, 53]) (.seq (.region [⟨(some 54), none, .load true 4 false, [.tmp 9 false]⟩,
   ⟨(some 55), none, .load true 7 false, [.tmp 10 false]⟩,
   ⟨(some 56), none, .call n_producer_Apply false, [.tmp 54 false, .val (.bool true), .tmp 55 false]⟩,
   ⟨(some 15), none, .alloc [.int .i64 0, .int .i64 0, .list 3 [] .full, .int .i64 0], []⟩,
   ⟨none, none, .store 4, [.tmp 15 false, .tmp 56 false]⟩])
 (.ghost (.kill [9, 10, 54, 55, 56]) (.seq (.region [⟨(some 57), none, .move, [.tmp 7 false]⟩,
   ⟨(some 58), none, .move, [.tmp 2 false]⟩,
   ⟨(some 59), none, .bin .and .plain, [.tmp 58 false, .val (.int .i64 2147483647)]⟩,
   ⟨(some 60), none, .build [.str [], .str []] [], []⟩,
   ⟨(some 61), none, .buildSlice 2 (.agg [.str [], .str []]) 1 [0], [.tmp 60 false]⟩,
   ⟨(some 62), none, .build [.int .i64 0, .int .i64 0, .int .i64 0, .int .i64 0, .bool false, .int .i64 0, .list 2 [] .full] [(0, 1), (1, 1), (2, 1), (3, 1), (6, 1)], [.val (.int .i64 3), .val (.int .i64 2), .tmp 57 false, .tmp 59 false, .tmp 61 true]⟩,
   ⟨(some 16), none, .alloc [.int .i64 0, .int .i64 0, .int .i64 0, .int .i64 0, .bool false, .int .i64 0, .list 2 [] .full], []⟩,
   ⟨none, none, .store 7, [.tmp 16 false, .tmp 62 false]⟩])
 (.ghost (.kill [2, 7, 57, 58, 59, 60, 61, 62]) (.seq (.region [⟨(some 64), none, .load true 4 false, [.tmp 15 false]⟩,
   ⟨(some 65), none, .load true 7 false, [.tmp 16 false]⟩,
   ⟨(some 66), none, .call n_producer_Check false, [.tmp 64 false, .val (.bool true), .tmp 65 false]⟩,
   ⟨(some 63), none, .move, [.tmp 66 false]⟩,
   ⟨(some 67), none, .move, [.proj 63 0 false]⟩,
   ⟨(some 68), none, .move, [.proj 63 1 false]⟩,
   ⟨(some 17), none, .move, [.tmp 67 false]⟩,
   ⟨(some 18), none, .move, [.tmp 68 false]⟩])
 (.ghost (.kill [16, 17, 63, 64, 65, 66, 67, 68]) (.seq (.regionS [(false, [⟨(some 69), none, .move, [.tmp 12 false]⟩,
   ⟨(some 70), none, .bin .eql .plain, [.tmp 69 false, .val (.int .i64 15)]⟩,
   ⟨(some 71), none, .move, [.tmp 70 false]⟩,
   ⟨(some 72), (some (71, true)), .move, [.tmp 13 false]⟩,
   ⟨(some 73), (some (71, true)), .bin .eql .plain, [.tmp 72 false, .val (.int .i64 (-1))]⟩,
   ⟨(some 74), none, .pick, [.tmp 71 false, .tmp 73 false, .val (.bool false)]⟩,
   ⟨(some 75), none, .move, [.tmp 74 false]⟩,
   ⟨(some 76), (some (75, true)), .move, [.tmp 14 false]⟩,
   ⟨(some 77), (some (75, true)), .bin .eql .plain, [.tmp 76 false, .val (.int .i64 0)]⟩,
   ⟨(some 78), none, .pick, [.tmp 75 false, .tmp 77 false, .val (.bool false)]⟩,
   ⟨(some 79), none, .move, [.tmp 78 false]⟩,
   ⟨(some 80), (some (79, true)), .addOff 1, [.tmp 15 false]⟩,
   ⟨(some 81), (some (79, true)), .load false 1 false, [.tmp 80 false]⟩,
   ⟨(some 82), (some (79, true)), .move, [.tmp 8 false]⟩,
   ⟨(some 83), (some (79, true)), .bin .eql .plain, [.tmp 81 false, .tmp 82 false]⟩,
   ⟨(some 84), none, .pick, [.tmp 79 false, .tmp 83 false, .val (.bool false)]⟩,
   ⟨(some 85), none, .move, [.tmp 84 false]⟩,
   ⟨(some 86), (some (85, true)), .addOff 2, [.tmp 15 false]⟩,
   ⟨(some 87), (some (85, true)), .load false 1 false, [.tmp 86 false]⟩,
   ⟨(some 88), (some (85, true)), .len false, [.tmp 87 true]⟩,
   ⟨(some 89), (some (85, true)), .bin .eql .plain, [.tmp 88 false, .val (.int .i64 1)]⟩,
   ⟨(some 90), none, .pick, [.tmp 85 false, .tmp 89 false, .val (.bool false)]⟩,
   ⟨(some 91), none, .move, [.tmp 90 false]⟩,
   ⟨(some 92), (some (91, true)), .move, [.tmp 18 false]⟩,
   ⟨(some 93), (some (91, true)), .bin .eql .plain, [.tmp 92 false, .val (.int .i64 14)]⟩,
   ⟨(some 94), none, .pick, [.tmp 91 false, .tmp 93 false, .val (.bool false)]⟩,
   ⟨(some 95), none, .move, [.tmp 94 false]⟩]),
   (true, [⟨(some 96), (some (95, true)), .call n_law10_known false, []⟩]),
   (false, [⟨(some 97), none, .pick, [.tmp 95 false, .tmp 96 false, .val (.bool false)]⟩,
   ⟨(some 6), none, .move, [.tmp 97 false]⟩])])
 (.ghost (.kill [8, 12, 13, 14, 15, 18, 69, 70, 71, 72, 73, 74, 75, 76, 77, 78, 79, 80, 81, 82, 83, 84, 85, 86, 87, 88, 89, 90, 91, 92, 93, 94, 95, 96, 97]) (.ret)))))))))))))))))))))))), [.tmp 6]⟩
def c_book_Within : AFunc := ⟨33, false, .seq (.region [⟨(some 6), none, .move, [.val (.int .i64 0)]⟩])
 (.ghost (.kill [6]) (.seq (.seq (.region [⟨(some 7), none, .move, [.tmp 0 false]⟩,
   ⟨(some 8), none, .move, [.tmp 1 false]⟩,
   ⟨(some 9), none, .bin .geq .plain, [.tmp 7 false, .tmp 8 false]⟩,
   ⟨(some 10), none, .move, [.tmp 9 false]⟩,
   ⟨(some 11), (some (10, true)), .move, [.tmp 0 false]⟩,
   ⟨(some 12), (some (10, true)), .move, [.tmp 2 false]⟩,
   ⟨(some 13), (some (10, true)), .bin .leq .plain, [.tmp 11 false, .tmp 12 false]⟩,
   ⟨(some 14), none, .pick, [.tmp 10 false, .tmp 13 false, .val (.bool false)]⟩])
 (.ghost (.kill [7, 8, 9, 10, 11, 12, 13]) (.cond (.tmp 14 false) (.seq (.region [⟨(some 15), none, .move, [.tmp 0 false]⟩,
    ⟨(some 6), none, .move, [.tmp 15 false]⟩])
  (.ghost (.kill [0, 1, 2, 14, 15]) (.ret)))
  (.skip))))
 (.ghost (.kill [14]) (.seq (.region [⟨(some 16), none, .move, [.tmp 0 false]⟩,
   ⟨(some 17), none, .move, [.tmp 2 false]⟩,
   ⟨(some 18), none, .move, [.tmp 1 false]⟩,
   ⟨(some 19), none, .bin .sub .plain, [.tmp 17 false, .tmp 18 false]⟩,
   ⟨(some 20), none, .bin .add .plain, [.tmp 19 false, .val (.int .i64 1)]⟩,
   ⟨(some 21), none, .bin .rem .plain, [.tmp 16 false, .tmp 20 false]⟩,
   ⟨(some 0), none, .move, [.tmp 21 false]⟩])
 (.ghost (.kill [16, 17, 18, 19, 20, 21]) (.seq (.seq (.region [⟨(some 22), none, .move, [.tmp 0 false]⟩,
   ⟨(some 23), none, .bin .lss .plain, [.tmp 22 false, .val (.int .i64 0)]⟩])
 (.ghost (.kill [22]) (.cond (.tmp 23 false) (.region [⟨(some 24), none, .move, [.tmp 0 false]⟩,
    ⟨(some 25), none, .move, [.tmp 2 false]⟩,
    ⟨(some 26), none, .bin .add .plain, [.tmp 24 false, .tmp 25 false]⟩,
    ⟨(some 27), none, .move, [.tmp 1 false]⟩,
    ⟨(some 28), none, .bin .sub .plain, [.tmp 26 false, .tmp 27 false]⟩,
    ⟨(some 29), none, .bin .add .plain, [.tmp 28 false, .val (.int .i64 1)]⟩,
    ⟨(some 0), none, .move, [.tmp 29 false]⟩])
  (.skip))))
 (.ghost (.kill [2, 23, 24, 25, 26, 27, 28, 29]) (.seq (.region [⟨(some 30), none, .move, [.tmp 1 false]⟩,
   ⟨(some 31), none, .move, [.tmp 0 false]⟩,
   ⟨(some 32), none, .bin .add .plain, [.tmp 30 false, .tmp 31 false]⟩,
   ⟨(some 6), none, .move, [.tmp 32 false]⟩])
 (.ghost (.kill [0, 1, 30, 31, 32]) (.ret)))))))))), [.tmp 6]⟩
def c_law10_known : AFunc := ⟨99, false, .seq (.region [⟨(some 0), none, .move, [.val (.bool false)]⟩])
 (.ghost (.kill [0]) (.seq (.region [⟨(some 12), none, .build [.str [], .str []] [], []⟩,
   ⟨(some 13), none, .build [.str [], .str []] [], []⟩,
   ⟨(some 14), none, .buildSlice 2 (.agg [.str [], .str []]) 2 [0, 1], [.tmp 12 false, .tmp 13 false]⟩,
   ⟨(some 15), none, .build [.int .i64 0, .int .i64 0, .int .i64 0, .int .i64 0, .bool false, .int .i64 0, .list 2 [] .full] [(0, 1), (1, 1), (2, 1), (3, 1), (6, 1)], [.val (.int .i64 4), .val (.int .i64 1), .val (.int .i64 2), .val (.int .i64 7), .tmp 14 true]⟩,
   ⟨(some 1), none, .alloc [.int .i64 0, .int .i64 0, .int .i64 0, .int .i64 0, .bool false, .int .i64 0, .list 2 [] .full], []⟩,
   ⟨none, none, .store 7, [.tmp 1 false, .tmp 15 false]⟩])
 (.ghost (.kill [12, 13, 14, 15]) (.seq (.region [⟨(some 16), none, .build [.int .i64 0, .int .i64 0, .list 3 [] .full, .int .i64 0] [], []⟩,
   ⟨(some 17), none, .load true 7 false, [.tmp 1 false]⟩,
   ⟨(some 18), none, .call n_producer_Apply false, [.tmp 16 false, .val (.bool false), .tmp 17 false]⟩,
   ⟨(some 2), none, .alloc [.int .i64 0, .int .i64 0, .list 3 [] .full, .int .i64 0], []⟩,
   ⟨none, none, .store 4, [.tmp 2 false, .tmp 18 false]⟩])
 (.ghost (.kill [16, 17, 18]) (.seq (.region [⟨(some 20), none, .load true 4 false, [.tmp 2 false]⟩,
   ⟨(some 21), none, .load true 7 false, [.tmp 1 false]⟩,
   ⟨(some 22), none, .call n_producer_Check false, [.tmp 20 false, .val (.bool true), .tmp 21 false]⟩,
   ⟨(some 19), none, .move, [.tmp 22 false]⟩,
   ⟨(some 23), none, .move, [.proj 19 0 false]⟩,
   ⟨(some 24), none, .move, [.proj 19 1 false]⟩,
   ⟨(some 3), none, .move, [.tmp 23 false]⟩,
   ⟨(some 4), none, .move, [.tmp 24 false]⟩])
 (.ghost (.kill [19, 20, 21, 22, 23, 24]) (.seq (.region [⟨(some 25), none, .load true 7 false, [.tmp 1 false]⟩,
   ⟨(some 5), none, .alloc [.int .i64 0, .int .i64 0, .int .i64 0, .int .i64 0, .bool false, .int .i64 0, .list 2 [] .full], []⟩,
   ⟨none, none, .store 7, [.tmp 5 false, .tmp 25 false]⟩])
 (.ghost (.kill [25]) (.seq (.region [⟨(some 26), none, .addOff 2, [.tmp 5 false]⟩,
   ⟨none, none, .store 1, [.tmp 26 false, .val (.int .i64 1)]⟩])
 (.ghost (.kill [26]) (.seq (.region [⟨(some 28), none, .load true 4 false, [.tmp 2 false]⟩,
   ⟨(some 29), none, .load true 7 false, [.tmp 5 false]⟩,
   ⟨(some 30), none, .call n_producer_Check false, [.tmp 28 false, .val (.bool true), .tmp 29 false]⟩,
   ⟨(some 27), none, .move, [.tmp 30 false]⟩,
   ⟨(some 31), none, .move, [.proj 27 0 false]⟩,
   ⟨(some 32), none, .move, [.proj 27 1 false]⟩,
   ⟨(some 6), none, .move, [.tmp 31 false]⟩,
   ⟨(some 7), none, .move, [.tmp 32 false]⟩])
 (.ghost (.kill [5, 6, 27, 28, 29, 30, 31, 32]) (.seq (.region [⟨(some 34), none, .load true 4 false, [.tmp 2 false]⟩,
   ⟨(some 35), none, .build [.int .i64 0, .int .i64 0, .int .i64 0, .int .i64 0, .bool false, .int .i64 0, .list 2 [] .full] [(1, 1), (2, 1), (3, 1), (4, 1), (5, 1)], [.val (.int .i64 1), .val (.int .i64 2), .val (.int .i64 (-1)), .val (.bool true), .val (.int .i64 1)]⟩,
   ⟨(some 36), none, .call n_producer_Check false, [.tmp 34 false, .val (.bool true), .tmp 35 false]⟩,
   ⟨(some 33), none, .move, [.tmp 36 false]⟩,
   ⟨(some 37), none, .move, [.proj 33 0 false]⟩,
   ⟨(some 38), none, .move, [.proj 33 1 false]⟩,
   ⟨(some 8), none, .move, [.tmp 37 false]⟩,
   ⟨(some 9), none, .move, [.tmp 38 false]⟩])
 (.ghost (.kill [8, 33, 34, 35, 36, 37, 38]) (.seq (.region [⟨(some 40), none, .load true 4 false, [.tmp 2 false]⟩,
   ⟨(some 41), none, .load true 7 false, [.tmp 1 false]⟩,
   ⟨(some 42), none, .call n_producer_Dup false, [.tmp 40 false, .tmp 41 false]⟩,
   ⟨(some 39), none, .move, [.tmp 42 false]⟩,
   ⟨(some 43), none, .move, [.proj 39 0 false]⟩,
   ⟨(some 44), none, .move, [.proj 39 1 false]⟩,
   ⟨(some 10), none, .move, [.tmp 43 false]⟩,
   ⟨(some 11), none, .move, [.tmp 44 false]⟩])
 (.ghost (.kill [1, 39, 40, 41, 42, 43, 44]) (.seq (.region [⟨(some 45), none, .addOff 0, [.tmp 2 false]⟩,
   ⟨(some 46), none, .load false 1 false, [.tmp 45 false]⟩,
   ⟨(some 47), none, .bin .eql .plain, [.tmp 46 false, .val (.int .i64 1)]⟩,
   ⟨(some 48), none, .move, [.tmp 47 false]⟩,
   ⟨(some 49), (some (48, true)), .addOff 2, [.tmp 2 false]⟩,
   ⟨(some 50), (some (48, true)), .load false 1 false, [.tmp 49 false]⟩,
   ⟨(some 51), (some (48, true)), .len false, [.tmp 50 true]⟩,
   ⟨(some 52), (some (48, true)), .bin .eql .plain, [.tmp 51 false, .val (.int .i64 1)]⟩,
   ⟨(some 53), none, .pick, [.tmp 48 false, .tmp 52 false, .val (.bool false)]⟩,
   ⟨(some 54), none, .move, [.tmp 53 false]⟩,
   ⟨(some 55), (some (54, true)), .addOff 2, [.tmp 2 false]⟩,
   ⟨(some 56), (some (54, true)), .load false 1 false, [.tmp 55 false]⟩,
   ⟨(some 57), (some (54, true)), .ixAddr 3, [.tmp 56 true, .val (.int .i64 0)]⟩,
   ⟨(some 58), (some (54, true)), .load true 3 false, [.tmp 57 false]⟩,
   ⟨(some 59), (some (54, true)), .build [.int .i64 0, .int .i64 0, .int .i64 0] [(0, 1), (1, 1), (2, 1)], [.val (.int .i64 7), .val (.int .i64 8), .val (.int .i64 4)]⟩,
   ⟨(some 60), (some (54, true)), .bin .eql (.agg [.int .i64, .int .i64, .int .i64]), [.tmp 58 false, .tmp 59 false]⟩,
   ⟨(some 61), none, .pick, [.tmp 54 false, .tmp 60 false, .val (.bool false)]⟩,
   ⟨(some 62), none, .move, [.tmp 61 false]⟩,
   ⟨(some 63), (some (62, true)), .addOff 3, [.tmp 2 false]⟩,
   ⟨(some 64), (some (62, true)), .load false 1 false, [.tmp 63 false]⟩,
   ⟨(some 65), (some (62, true)), .bin .eql .plain, [.tmp 64 false, .val (.int .i64 (-1))]⟩,
   ⟨(some 66), none, .pick, [.tmp 62 false, .tmp 65 false, .val (.bool false)]⟩,
   ⟨(some 67), none, .move, [.tmp 66 false]⟩,
   ⟨(some 68), (some (67, true)), .move, [.tmp 3 false]⟩,
   ⟨(some 69), (some (67, true)), .bin .eql .plain, [.tmp 68 false, .val (.int .i64 4)]⟩,
   ⟨(some 70), none, .pick, [.tmp 67 false, .tmp 69 false, .val (.bool false)]⟩,
   ⟨(some 71), none, .move, [.tmp 70 false]⟩,
   ⟨(some 72), (some (71, true)), .move, [.tmp 4 false]⟩,
   ⟨(some 73), (some (71, true)), .bin .eql .plain, [.tmp 72 false, .val (.int .i64 0)]⟩,
   ⟨(some 74), none, .pick, [.tmp 71 false, .tmp 73 false, .val (.bool false)]⟩,
   ⟨(some 75), none, .move, [.tmp 74 false]⟩,
   ⟨(some 76), (some (75, true)), .move, [.tmp 7 false]⟩,
   ⟨(some 77), (some (75, true)), .bin .eql .plain, [.tmp 76 false, .val (.int .i64 14)]⟩,
   ⟨(some 78), none, .pick, [.tmp 75 false, .tmp 77 false, .val (.bool false)]⟩,
   ⟨(some 79), none, .move, [.tmp 78 false]⟩,
   ⟨(some 80), (some (79, true)), .move, [.tmp 9 false]⟩,
   ⟨(some 81), (some (79, true)), .bin .eql .plain, [.tmp 80 false, .val (.int .i64 16)]⟩,
   ⟨(some 82), none, .pick, [.tmp 79 false, .tmp 81 false, .val (.bool false)]⟩,
   ⟨(some 83), none, .move, [.tmp 82 false]⟩,
   ⟨(some 84), (some (83, true)), .move, [.tmp 10 false]⟩,
   ⟨(some 85), (some (83, true)), .bin .eql .plain, [.tmp 84 false, .val (.int .i64 4)]⟩,
   ⟨(some 86), none, .pick, [.tmp 83 false, .tmp 85 false, .val (.bool false)]⟩,
   ⟨(some 87), none, .move, [.tmp 86 false]⟩,
   ⟨(some 88), (some (87, true)), .move, [.tmp 11 false]⟩,
   ⟨(some 89), none, .pick, [.tmp 87 false, .tmp 88 false, .val (.bool false)]⟩,
   ⟨(some 90), none, .move, [.tmp 89 false]⟩,
   ⟨(some 91), (some (90, true)), .load true 4 false, [.tmp 2 false]⟩,
   ⟨(some 92), (some (90, true)), .call n_producer_Right false, [.tmp 91 false]⟩,
   ⟨(some 93), none, .pick, [.tmp 90 false, .tmp 92 false, .val (.bool false)]⟩,
   ⟨(some 94), none, .move, [.tmp 93 false]⟩,
   ⟨(some 95), (some (94, true)), .load true 4 false, [.tmp 2 false]⟩,
   ⟨(some 96), (some (94, true)), .load true 4 false, [.tmp 2 false]⟩,
   ⟨(some 97), (some (94, true)), .call n_producer_Same false, [.tmp 95 false, .tmp 96 false]⟩,
   ⟨(some 98), none, .pick, [.tmp 94 false, .tmp 97 false, .val (.bool false)]⟩,
   ⟨(some 0), none, .move, [.tmp 98 false]⟩])
 (.ghost (.kill [2, 3, 4, 7, 9, 10, 11, 45, 46, 47, 48, 49, 50, 51, 52, 53, 54, 55, 56, 57, 58, 59, 60, 61, 62, 63, 64, 65, 66, 67, 68, 69, 70, 71, 72, 73, 74, 75, 76, 77, 78, 79, 80, 81, 82, 83, 84, 85, 86, 87, 88, 89, 90, 91, 92, 93, 94, 95, 96, 97, 98]) (.ret)))))))))))))))))))), [.tmp 0]⟩
def c_producer_Check : AFunc := ⟨73, false, .seq (.region [⟨(some 3), none, .box, [.tmp 0 false]⟩,
   ⟨(some 5), none, .box, [.tmp 2 false]⟩,
   ⟨(some 6), none, .move, [.val (.int .i64 0)]⟩,
   ⟨(some 7), none, .move, [.val (.int .i64 0)]⟩])
 (.ghost (.kill [0, 2, 6, 7]) (.seq (.block 0 (.seq (.region [⟨(some 12), none, .addOff 5, [.tmp 5 false]⟩,
    ⟨(some 13), none, .load false 1 false, [.tmp 12 false]⟩,
    ⟨(some 14), none, .bin .neq .plain, [.tmp 13 false, .val (.int .i64 0)]⟩,
    ⟨(some 11), none, .move, [.tmp 14 false]⟩])
  (.ghost (.kill [12, 13, 14]) (.cond (.tmp 11 false) (.seq (.region [⟨(some 15), none, .load true 4 false, [.tmp 3 false]⟩,
     ⟨(some 16), none, .move, [.tmp 1 false]⟩,
     ⟨(some 17), none, .load true 7 false, [.tmp 5 false]⟩,
     ⟨(some 18), none, .call n_producer_marker false, [.tmp 15 false, .tmp 16 false, .tmp 17 false]⟩,
     ⟨(some 6), none, .move, [.val (.int .i64 (-1))]⟩,
     ⟨(some 7), none, .move, [.tmp 18 false]⟩])
   (.ghost (.kill [1, 3, 5, 11, 15, 16, 17, 18]) (.ret)))
   (.seq (.region [⟨(some 20), none, .move, [.tmp 1 false]⟩,
     ⟨(some 21), none, .un .not, [.tmp 20 false]⟩,
     ⟨(some 19), none, .move, [.tmp 21 false]⟩])
   (.ghost (.kill [1, 11, 20, 21]) (.cond (.tmp 19 false) (.seq (.region [⟨(some 6), none, .move, [.val (.int .i64 (-1))]⟩,
      ⟨(some 7), none, .move, [.val (.int .i64 0)]⟩])
    (.ghost (.kill [3, 5, 19]) (.ret)))
    (.seq (.region [⟨(some 23), none, .addOff 2, [.tmp 5 false]⟩,
      ⟨(some 24), none, .load false 1 false, [.tmp 23 false]⟩,
      ⟨(some 25), none, .addOff 1, [.tmp 3 false]⟩,
      ⟨(some 26), none, .load false 1 false, [.tmp 25 false]⟩,
      ⟨(some 27), none, .bin .lss .plain, [.tmp 24 false, .tmp 26 false]⟩,
      ⟨(some 22), none, .move, [.tmp 27 false]⟩])
    (.ghost (.kill [19, 23, 24, 25, 26, 27]) (.cond (.tmp 22 false) (.seq (.region [⟨(some 6), none, .move, [.val (.int .i64 (-1))]⟩,
       ⟨(some 7), none, .move, [.val (.int .i64 14)]⟩])
     (.ghost (.kill [3, 5, 22]) (.ret)))
     (.seq (.region [⟨(some 29), none, .addOff 2, [.tmp 5 false]⟩,
       ⟨(some 30), none, .load false 1 false, [.tmp 29 false]⟩,
       ⟨(some 31), none, .addOff 1, [.tmp 3 false]⟩,
       ⟨(some 32), none, .load false 1 false, [.tmp 31 false]⟩,
       ⟨(some 33), none, .bin .gtr .plain, [.tmp 30 false, .tmp 32 false]⟩,
       ⟨(some 28), none, .move, [.tmp 33 false]⟩])
     (.ghost (.kill [22, 29, 30, 31, 32, 33]) (.cond (.tmp 28 false) (.seq (.region [⟨(some 34), none, .load true 4 false, [.tmp 3 false]⟩,
        ⟨(some 35), none, .load true 7 false, [.tmp 5 false]⟩,
        ⟨(some 36), none, .call n_producer_later false, [.tmp 34 false, .tmp 35 false]⟩,
        ⟨(some 6), none, .move, [.val (.int .i64 (-1))]⟩,
        ⟨(some 7), none, .move, [.tmp 36 false]⟩])
      (.ghost (.kill [3, 5, 28, 34, 35, 36]) (.ret)))
      (.skip))))))))))))))
 (.ghost (.kill [28]) (.seq (.seq (.region [⟨(some 38), none, .load true 4 false, [.tmp 3 false]⟩,
   ⟨(some 39), none, .load true 7 false, [.tmp 5 false]⟩,
   ⟨(some 40), none, .call n_producer_Dup false, [.tmp 38 false, .tmp 39 false]⟩,
   ⟨(some 37), none, .move, [.tmp 40 false]⟩,
   ⟨(some 41), none, .move, [.proj 37 0 false]⟩,
   ⟨(some 42), none, .move, [.proj 37 1 false]⟩,
   ⟨(some 8), none, .move, [.tmp 41 false]⟩,
   ⟨(some 9), none, .move, [.tmp 42 false]⟩])
 (.ghost (.kill [37, 38, 39, 40, 41, 42]) (.seq (.region [⟨(some 43), none, .move, [.tmp 9 false]⟩])
 (.ghost (.kill [9]) (.cond (.tmp 43 false) (.seq (.region [⟨(some 44), none, .move, [.tmp 8 false]⟩,
    ⟨(some 6), none, .move, [.tmp 44 false]⟩,
    ⟨(some 7), none, .move, [.val (.int .i64 0)]⟩])
  (.ghost (.kill [3, 5, 8, 43, 44]) (.ret)))
  (.skip))))))
 (.ghost (.kill [8, 43]) (.seq (.region [⟨(some 45), none, .addOff 2, [.tmp 3 false]⟩,
   ⟨(some 46), none, .load false 1 false, [.tmp 45 false]⟩,
   ⟨(some 47), none, .len false, [.tmp 46 true]⟩,
   ⟨(some 10), none, .move, [.tmp 47 false]⟩])
 (.ghost (.kill [45, 46, 47]) (.seq (.block 1 (.seq (.draw [(⟨(some 49), none, .move, [.tmp 10 false]⟩, ⟨false, []⟩),
    (⟨(some 50), none, .bin .gtr .plain, [.tmp 49 false, .val (.int .i64 0)]⟩, ⟨false, []⟩),
    (⟨(some 51), none, .move, [.tmp 50 false]⟩, ⟨false, []⟩),
    (⟨(some 52), (some (51, true)), .addOff 2, [.tmp 3 false]⟩, ⟨false, []⟩),
    (⟨(some 53), (some (51, true)), .load false 1 false, [.tmp 52 false]⟩, ⟨false, []⟩),
    (⟨(some 54), (some (51, true)), .move, [.tmp 10 false]⟩, ⟨false, []⟩),
    (⟨(some 55), (some (51, true)), .bin .sub .plain, [.tmp 54 false, .val (.int .i64 1)]⟩, ⟨false, []⟩),
    (⟨(some 56), (some (51, true)), .ixAddr 3, [.tmp 53 true, .tmp 55 false]⟩, ⟨false, []⟩),
    (⟨(some 57), (some (51, true)), .ixArr 3 1, [.tmp 56 false, .val (.int .i64 1)]⟩, ⟨false, []⟩),
    (⟨(some 58), (some (51, true)), .load false 1 false, [.tmp 57 false]⟩, ⟨false, []⟩),
    (⟨(some 59), (some (51, true)), .addOff 3, [.tmp 5 false]⟩, ⟨false, []⟩),
    (⟨(some 60), (some (51, true)), .load false 1 false, [.tmp 59 false]⟩, ⟨false, []⟩),
    (⟨(some 61), (some (51, true)), .call n_seq_Follows false, [.tmp 58 false, .tmp 60 false]⟩, ⟨true, []⟩),
    (⟨(some 62), (some (51, true)), .un .not, [.tmp 61 false]⟩, ⟨false, []⟩),
    (⟨(some 63), none, .pick, [.tmp 51 false, .tmp 62 false, .val (.bool false)]⟩, ⟨false, []⟩),
    (⟨(some 48), none, .move, [.tmp 63 false]⟩, ⟨false, []⟩)])
  (.ghost (.kill [10, 49, 50, 51, 52, 53, 54, 55, 56, 57, 58, 59, 60, 61, 62, 63]) (.cond (.tmp 48 false) (.seq (.region [⟨(some 6), none, .move, [.val (.int .i64 (-1))]⟩,
     ⟨(some 7), none, .move, [.val (.int .i64 15)]⟩])
   (.ghost (.kill [3, 5, 48]) (.ret)))
   (.seq (.region [⟨(some 65), none, .addOff 3, [.tmp 3 false]⟩,
     ⟨(some 66), none, .load false 1 false, [.tmp 65 false]⟩,
     ⟨(some 67), none, .bin .geq .plain, [.tmp 66 false, .val (.int .i64 0)]⟩,
     ⟨(some 68), none, .move, [.tmp 67 false]⟩,
     ⟨(some 69), (some (68, true)), .addOff 4, [.tmp 5 false]⟩,
     ⟨(some 70), (some (68, true)), .load false 1 false, [.tmp 69 false]⟩,
     ⟨(some 71), (some (68, true)), .un .not, [.tmp 70 false]⟩,
     ⟨(some 72), none, .pick, [.tmp 68 false, .tmp 71 false, .val (.bool false)]⟩,
     ⟨(some 64), none, .move, [.tmp 72 false]⟩])
   (.ghost (.kill [3, 5, 48, 65, 66, 67, 68, 69, 70, 71, 72]) (.cond (.tmp 64 false) (.seq (.region [⟨(some 6), none, .move, [.val (.int .i64 (-1))]⟩,
      ⟨(some 7), none, .move, [.val (.int .i64 16)]⟩])
    (.ghost (.kill [64]) (.ret)))
    (.skip))))))))
 (.ghost (.kill [64]) (.seq (.region [⟨(some 6), none, .move, [.val (.int .i64 (-1))]⟩,
   ⟨(some 7), none, .move, [.val (.int .i64 0)]⟩])
 (.ret))))))))))), [.tmp 6, .tmp 7]⟩
def c_producer_Apply : AFunc := ⟨68, false, .seq (.region [⟨(some 3), none, .box, [.tmp 0 false]⟩,
   ⟨(some 5), none, .box, [.tmp 2 false]⟩,
   ⟨(some 6), none, .alloc [.int .i64 0, .int .i64 0, .list 3 [] .full, .int .i64 0], []⟩])
 (.ghost (.kill [0, 2]) (.seq (.region [⟨(some 8), none, .addOff 1, [.tmp 5 false]⟩,
   ⟨(some 9), none, .load false 1 false, [.tmp 8 false]⟩,
   ⟨(some 10), none, .addOff 2, [.tmp 5 false]⟩,
   ⟨(some 11), none, .load false 1 false, [.tmp 10 false]⟩,
   ⟨(some 12), none, .build [.int .i64 0, .int .i64 0, .list 3 [] .full, .int .i64 0] [(0, 1), (1, 1), (3, 1)], [.tmp 9 false, .tmp 11 false, .val (.int .i64 (-1))]⟩,
   ⟨(some 7), none, .alloc [.int .i64 0, .int .i64 0, .list 3 [] .full, .int .i64 0], []⟩,
   ⟨none, none, .store 4, [.tmp 7 false, .tmp 12 false]⟩])
 (.ghost (.kill [8, 9, 10, 11, 12]) (.seq (.seq (.region [⟨(some 13), none, .move, [.tmp 1 false]⟩])
 (.ghost (.kill [1]) (.cond (.tmp 13 false) (.seq (.region [⟨(some 14), none, .addOff 3, [.tmp 3 false]⟩,
    ⟨(some 15), none, .load false 1 false, [.tmp 14 false]⟩,
    ⟨(some 16), none, .addOff 3, [.tmp 7 false]⟩,
    ⟨none, none, .store 1, [.tmp 16 false, .tmp 15 false]⟩])
  (.ghost (.kill [13, 14, 15, 16]) (.seq (.region [⟨(some 17), none, .addOff 2, [.tmp 5 false]⟩,
    ⟨(some 18), none, .load false 1 false, [.tmp 17 false]⟩,
    ⟨(some 19), none, .addOff 1, [.tmp 3 false]⟩,
    ⟨(some 20), none, .load false 1 false, [.tmp 19 false]⟩,
    ⟨(some 21), none, .bin .eql .plain, [.tmp 18 false, .tmp 20 false]⟩])
  (.ghost (.kill [17, 18, 19, 20]) (.cond (.tmp 21 false) (.region [⟨(some 22), none, .addOff 2, [.tmp 3 false]⟩,
     ⟨(some 23), none, .load false 1 false, [.tmp 22 false]⟩,
     ⟨(some 24), none, .call n_slices_Clone_3_int64_3_int64_ false, [.tmp 23 true]⟩,
     ⟨(some 25), none, .addOff 2, [.tmp 7 false]⟩,
     ⟨none, none, .store 1, [.tmp 25 false, .tmp 24 true]⟩])
   (.skip))))))
  (.skip))))
 (.ghost (.kill [3, 13, 21, 22, 23, 24, 25]) (.seq (.seq (.region [⟨(some 26), none, .addOff 5, [.tmp 5 false]⟩,
   ⟨(some 27), none, .load false 1 false, [.tmp 26 false]⟩,
   ⟨(some 28), none, .bin .neq .plain, [.tmp 27 false, .val (.int .i64 0)]⟩])
 (.ghost (.kill [26, 27]) (.cond (.tmp 28 false) (.seq (.region [⟨(some 29), none, .addOff 3, [.tmp 7 false]⟩,
    ⟨none, none, .store 1, [.tmp 29 false, .val (.int .i64 (-1))]⟩])
  (.ghost (.kill [5, 28, 29]) (.seq (.region [⟨(some 30), none, .load true 4 false, [.tmp 7 false]⟩,
    ⟨none, none, .store 4, [.tmp 6 false, .tmp 30 false]⟩])
  (.ghost (.kill [7, 30]) (.ret)))))
  (.skip))))
 (.ghost (.kill [28]) (.seq (.draw [(⟨(some 31), none, .addOff 2, [.tmp 7 false]⟩, ⟨false, []⟩),
   (⟨(some 32), none, .load false 1 true, [.tmp 31 false]⟩, ⟨true, []⟩),
   (⟨(some 33), none, .addOff 3, [.tmp 5 false]⟩, ⟨false, [1]⟩),
   (⟨(some 34), none, .load false 1 false, [.tmp 33 false]⟩, ⟨false, [1]⟩),
   (⟨(some 35), none, .addOff 3, [.tmp 5 false]⟩, ⟨false, [1]⟩),
   (⟨(some 36), none, .load false 1 false, [.tmp 35 false]⟩, ⟨false, [1]⟩),
   (⟨(some 37), none, .addOff 6, [.tmp 5 false]⟩, ⟨false, [1]⟩),
   (⟨(some 38), none, .load false 1 false, [.tmp 37 false]⟩, ⟨false, [1]⟩),
   (⟨(some 39), none, .len false, [.tmp 38 true]⟩, ⟨false, [1]⟩),
   (⟨(some 40), none, .call n_seq_Last false, [.tmp 36 false, .tmp 39 false]⟩, ⟨false, [1]⟩),
   (⟨(some 41), none, .addOff 0, [.tmp 5 false]⟩, ⟨false, [1]⟩),
   (⟨(some 42), none, .load false 1 false, [.tmp 41 false]⟩, ⟨false, [1]⟩),
   (⟨(some 43), none, .build [.int .i64 0, .int .i64 0, .int .i64 0] [(0, 1), (1, 1), (2, 1)], [.tmp 34 false, .tmp 40 false, .tmp 42 false]⟩, ⟨false, [1]⟩),
   (⟨(some 44), none, .buildSlice 3 (.agg [.int .i64 0, .int .i64 0, .int .i64 0]) 1 [0], [.tmp 43 false]⟩, ⟨false, [1]⟩),
   (⟨(some 45), none, .append 3 24 false, [.tmp 32 true, .tmp 44 true]⟩, ⟨true, []⟩),
   (⟨(some 46), none, .addOff 2, [.tmp 7 false]⟩, ⟨false, []⟩),
   (⟨none, none, .store 1, [.tmp 46 false, .tmp 45 true]⟩, ⟨true, []⟩)])
 (.ghost (.kill [31, 32, 33, 34, 35, 36, 37, 38, 39, 40, 41, 42, 43, 44, 45, 46]) (.seq (.region [⟨(some 47), none, .addOff 2, [.tmp 7 false]⟩,
   ⟨(some 48), none, .load false 1 false, [.tmp 47 false]⟩,
   ⟨(some 49), none, .addOff 2, [.tmp 7 false]⟩,
   ⟨(some 50), none, .load false 1 false, [.tmp 49 false]⟩,
   ⟨(some 51), none, .len false, [.tmp 50 true]⟩,
   ⟨(some 52), none, .bin .sub .plain, [.tmp 51 false, .val (.int .i64 5)]⟩,
   ⟨(some 53), none, .mm true, [.val (.int .i64 0), .tmp 52 false]⟩,
   ⟨(some 54), none, .slice 3 true false false, [.tmp 48 true, .tmp 53 false]⟩,
   ⟨(some 55), none, .call n_slices_Clone_3_int64_3_int64_ false, [.tmp 54 true]⟩,
   ⟨(some 56), none, .addOff 2, [.tmp 7 false]⟩,
   ⟨none, none, .store 1, [.tmp 56 false, .tmp 55 true]⟩])
 (.ghost (.kill [47, 48, 49, 50, 51, 52, 53, 54, 55, 56]) (.seq (.seq (.region [⟨(some 57), none, .addOff 4, [.tmp 5 false]⟩,
   ⟨(some 58), none, .load false 1 false, [.tmp 57 false]⟩,
   ⟨(some 59), none, .move, [.tmp 58 false]⟩,
   ⟨(some 60), (some (59, true)), .addOff 3, [.tmp 7 false]⟩,
   ⟨(some 61), (some (59, true)), .load false 1 false, [.tmp 60 false]⟩,
   ⟨(some 62), (some (59, true)), .bin .lss .plain, [.tmp 61 false, .val (.int .i64 0)]⟩,
   ⟨(some 63), none, .pick, [.tmp 59 false, .tmp 62 false, .val (.bool false)]⟩])
 (.ghost (.kill [57, 58, 59, 60, 61, 62]) (.cond (.tmp 63 false) (.region [⟨(some 64), none, .addOff 0, [.tmp 5 false]⟩,
    ⟨(some 65), none, .load false 1 false, [.tmp 64 false]⟩,
    ⟨(some 66), none, .addOff 3, [.tmp 7 false]⟩,
    ⟨none, none, .store 1, [.tmp 66 false, .tmp 65 false]⟩])
  (.skip))))
 (.ghost (.kill [5, 63, 64, 65, 66]) (.seq (.region [⟨(some 67), none, .load true 4 false, [.tmp 7 false]⟩,
   ⟨none, none, .store 4, [.tmp 6 false, .tmp 67 false]⟩])
 (.ghost (.kill [7, 67]) (.ret)))))))))))))))), [.cell 6 true 4]⟩
def c_producer_Right : AFunc := ⟨31, false, .seq (.region [⟨(some 1), none, .box, [.tmp 0 false]⟩,
   ⟨(some 2), none, .move, [.val (.bool false)]⟩])
 (.ghost (.kill [0, 2]) (.seq (.region [⟨(some 3), none, .addOff 0, [.tmp 1 false]⟩,
   ⟨(some 4), none, .load false 1 false, [.tmp 3 false]⟩,
   ⟨(some 5), none, .bin .geq .plain, [.tmp 4 false, .val (.int .i64 0)]⟩,
   ⟨(some 6), none, .move, [.tmp 5 false]⟩,
   ⟨(some 7), (some (6, true)), .addOff 1, [.tmp 1 false]⟩,
   ⟨(some 8), (some (6, true)), .load false 1 false, [.tmp 7 false]⟩,
   ⟨(some 9), (some (6, true)), .bin .geq .plain, [.tmp 8 false, .val (.int .i64 0)]⟩,
   ⟨(some 10), none, .pick, [.tmp 6 false, .tmp 9 false, .val (.bool false)]⟩,
   ⟨(some 11), none, .move, [.tmp 10 false]⟩,
   ⟨(some 12), (some (11, true)), .addOff 1, [.tmp 1 false]⟩,
   ⟨(some 13), (some (11, true)), .load false 1 false, [.tmp 12 false]⟩,
   ⟨(some 14), (some (11, true)), .bin .leq .plain, [.tmp 13 false, .val (.int .i64 32767)]⟩,
   ⟨(some 15), none, .pick, [.tmp 11 false, .tmp 14 false, .val (.bool false)]⟩,
   ⟨(some 16), none, .move, [.tmp 15 false]⟩,
   ⟨(some 17), (some (16, true)), .addOff 2, [.tmp 1 false]⟩,
   ⟨(some 18), (some (16, true)), .load false 1 false, [.tmp 17 false]⟩,
   ⟨(some 19), (some (16, true)), .call n_producer_batches false, [.tmp 18 true]⟩,
   ⟨(some 20), none, .pick, [.tmp 16 false, .tmp 19 false, .val (.bool false)]⟩,
   ⟨(some 21), none, .move, [.tmp 20 false]⟩,
   ⟨(some 22), (some (21, true)), .addOff 3, [.tmp 1 false]⟩,
   ⟨(some 23), (some (21, true)), .load false 1 false, [.tmp 22 false]⟩,
   ⟨(some 24), (some (21, true)), .bin .geq .plain, [.tmp 23 false, .val (.int .i64 (-1))]⟩,
   ⟨(some 25), none, .pick, [.tmp 21 false, .tmp 24 false, .val (.bool false)]⟩,
   ⟨(some 26), none, .move, [.tmp 25 false]⟩,
   ⟨(some 27), (some (26, true)), .addOff 3, [.tmp 1 false]⟩,
   ⟨(some 28), (some (26, true)), .load false 1 false, [.tmp 27 false]⟩,
   ⟨(some 29), (some (26, true)), .bin .leq .plain, [.tmp 28 false, .val (.int .i64 1099511627776)]⟩,
   ⟨(some 30), none, .pick, [.tmp 26 false, .tmp 29 false, .val (.bool false)]⟩,
   ⟨(some 2), none, .move, [.tmp 30 false]⟩])
 (.ghost (.kill [1, 3, 4, 5, 6, 7, 8, 9, 10, 11, 12, 13, 14, 15, 16, 17, 18, 19, 20, 21, 22, 23, 24, 25, 26, 27, 28, 29, 30]) (.ret)))), [.tmp 2]⟩
def l_producer_Dup_0 : ACode := .seq (.region [⟨(some 19), none, .bin .lss .plain, [.tmp 18 false, .tmp 17 false]⟩])
 (.seq (.cond (.tmp 19 false) (.skip)
  (.ghost (.kill [2, 3, 6, 16, 17, 18, 19]) (.exit 0)))
 (.ghost (.kill [19]) (.seq (.block 1 (.seq (.region [⟨(some 20), none, .ixAddr 3, [.tmp 16 false, .tmp 18 false]⟩,
    ⟨(some 21), none, .load true 3 false, [.tmp 20 false]⟩,
    ⟨(some 8), none, .alloc [.int .i64 0, .int .i64 0, .int .i64 0], []⟩,
    ⟨none, none, .store 3, [.tmp 8 false, .tmp 21 false]⟩])
  (.ghost (.kill [20, 21]) (.seq (.region [⟨(some 22), none, .addOff 5, [.tmp 3 false]⟩,
    ⟨(some 23), none, .load false 1 false, [.tmp 22 false]⟩,
    ⟨(some 24), none, .bin .eql .plain, [.tmp 23 false, .val (.int .i64 0)]⟩,
    ⟨(some 25), none, .move, [.tmp 24 false]⟩,
    ⟨(some 26), (some (25, true)), .addOff 2, [.tmp 3 false]⟩,
    ⟨(some 27), (some (25, true)), .load false 1 false, [.tmp 26 false]⟩,
    ⟨(some 28), (some (25, true)), .addOff 1, [.tmp 2 false]⟩,
    ⟨(some 29), (some (25, true)), .load false 1 false, [.tmp 28 false]⟩,
    ⟨(some 30), (some (25, true)), .bin .eql .plain, [.tmp 27 false, .tmp 29 false]⟩,
    ⟨(some 31), none, .pick, [.tmp 25 false, .tmp 30 false, .val (.bool false)]⟩,
    ⟨(some 32), none, .move, [.tmp 31 false]⟩,
    ⟨(some 33), (some (32, true)), .ixArr 3 1, [.tmp 8 false, .val (.int .i64 0)]⟩,
    ⟨(some 34), (some (32, true)), .load false 1 false, [.tmp 33 false]⟩,
    ⟨(some 35), (some (32, true)), .addOff 3, [.tmp 3 false]⟩,
    ⟨(some 36), (some (32, true)), .load false 1 false, [.tmp 35 false]⟩,
    ⟨(some 37), (some (32, true)), .bin .eql .plain, [.tmp 34 false, .tmp 36 false]⟩,
    ⟨(some 38), none, .pick, [.tmp 32 false, .tmp 37 false, .val (.bool false)]⟩,
    ⟨(some 39), none, .move, [.tmp 38 false]⟩,
    ⟨(some 40), (some (39, true)), .ixArr 3 1, [.tmp 8 false, .val (.int .i64 1)]⟩,
    ⟨(some 41), (some (39, true)), .load false 1 false, [.tmp 40 false]⟩,
    ⟨(some 42), (some (39, true)), .move, [.tmp 6 false]⟩,
    ⟨(some 43), (some (39, true)), .bin .eql .plain, [.tmp 41 false, .tmp 42 false]⟩,
    ⟨(some 44), none, .pick, [.tmp 39 false, .tmp 43 false, .val (.bool false)]⟩])
  (.ghost (.kill [22, 23, 24, 25, 26, 27, 28, 29, 30, 31, 32, 33, 34, 35, 36, 37, 38, 39, 40, 41, 42, 43]) (.cond (.tmp 44 false) (.seq (.region [⟨(some 45), none, .ixArr 3 1, [.tmp 8 false, .val (.int .i64 2)]⟩,
     ⟨(some 46), none, .load false 1 false, [.tmp 45 false]⟩,
     ⟨(some 4), none, .move, [.tmp 46 false]⟩,
     ⟨(some 5), none, .move, [.val (.bool true)]⟩])
   (.ghost (.kill [2, 3, 6, 8, 16, 17, 18, 44, 45, 46]) (.ret)))
   (.skip)))))))
 (.ghost (.kill [8, 44]) (.region [⟨(some 47), none, .bin .add .plain, [.tmp 18 false, .val (.int .i64 1)]⟩,
   ⟨(some 18), none, .move, [.tmp 47 false]⟩])))))
def k_producer_Dup_0 : List Nat := [4, 5, 8, 19, 20, 21, 22, 23, 24, 25, 26, 27, 28, 29, 30, 31, 32, 33, 34, 35, 36, 37, 38, 39, 40, 41, 42, 43, 44, 45, 46, 47]
def c_producer_Dup : AFunc := ⟨48, false, .seq (.region [⟨(some 2), none, .box, [.tmp 0 false]⟩,
   ⟨(some 3), none, .box, [.tmp 1 false]⟩,
   ⟨(some 4), none, .move, [.val (.int .i64 0)]⟩,
   ⟨(some 5), none, .move, [.val (.bool false)]⟩])
 (.ghost (.kill [0, 1, 4, 5]) (.seq (.region [⟨(some 9), none, .addOff 3, [.tmp 3 false]⟩,
   ⟨(some 10), none, .load false 1 false, [.tmp 9 false]⟩,
   ⟨(some 11), none, .addOff 6, [.tmp 3 false]⟩,
   ⟨(some 12), none, .load false 1 false, [.tmp 11 false]⟩,
   ⟨(some 13), none, .len false, [.tmp 12 true]⟩,
   ⟨(some 14), none, .call n_seq_Last false, [.tmp 10 false, .tmp 13 false]⟩,
   ⟨(some 6), none, .move, [.tmp 14 false]⟩])
 (.ghost (.kill [9, 10, 11, 12, 13, 14]) (.seq (.seq (.region [⟨(some 15), none, .addOff 2, [.tmp 2 false]⟩,
   ⟨(some 16), none, .load false 1 false, [.tmp 15 false]⟩,
   ⟨(some 17), none, .len false, [.tmp 16 false]⟩,
   ⟨(some 18), none, .move, [.val (.int .i64 0)]⟩])
 (.ghost (.kill [15]) (.block 0 (.loop (.ghost (.kill k_producer_Dup_0) l_producer_Dup_0)))))
 (.ghost (.kill [2, 3, 4, 5, 6, 8, 16, 17, 18, 19, 20, 21, 22, 23, 24, 25, 26, 27, 28, 29, 30, 31, 32, 33, 34, 35, 36, 37, 38, 39, 40, 41, 42, 43, 44, 45, 46, 47]) (.seq (.region [⟨(some 4), none, .move, [.val (.int .i64 (-1))]⟩,
   ⟨(some 5), none, .move, [.val (.bool false)]⟩])
 (.ret))))))), [.tmp 4, .tmp 5]⟩
def c_producer_Same : AFunc := ⟨31, false, .seq (.region [⟨(some 2), none, .box, [.tmp 0 false]⟩,
   ⟨(some 3), none, .box, [.tmp 1 false]⟩,
   ⟨(some 4), none, .move, [.val (.bool false)]⟩])
 (.ghost (.kill [0, 1, 4]) (.seq (.region [⟨(some 5), none, .addOff 0, [.tmp 2 false]⟩,
   ⟨(some 6), none, .load false 1 false, [.tmp 5 false]⟩,
   ⟨(some 7), none, .addOff 0, [.tmp 3 false]⟩,
   ⟨(some 8), none, .load false 1 false, [.tmp 7 false]⟩,
   ⟨(some 9), none, .bin .eql .plain, [.tmp 6 false, .tmp 8 false]⟩,
   ⟨(some 10), none, .move, [.tmp 9 false]⟩,
   ⟨(some 11), (some (10, true)), .addOff 1, [.tmp 2 false]⟩,
   ⟨(some 12), (some (10, true)), .load false 1 false, [.tmp 11 false]⟩,
   ⟨(some 13), (some (10, true)), .addOff 1, [.tmp 3 false]⟩,
   ⟨(some 14), (some (10, true)), .load false 1 false, [.tmp 13 false]⟩,
   ⟨(some 15), (some (10, true)), .bin .eql .plain, [.tmp 12 false, .tmp 14 false]⟩,
   ⟨(some 16), none, .pick, [.tmp 10 false, .tmp 15 false, .val (.bool false)]⟩,
   ⟨(some 17), none, .move, [.tmp 16 false]⟩,
   ⟨(some 18), (some (17, true)), .addOff 2, [.tmp 2 false]⟩,
   ⟨(some 19), (some (17, true)), .load false 1 false, [.tmp 18 false]⟩,
   ⟨(some 20), (some (17, true)), .addOff 2, [.tmp 3 false]⟩,
   ⟨(some 21), (some (17, true)), .load false 1 false, [.tmp 20 false]⟩,
   ⟨(some 22), (some (17, true)), .call n_slices_Equal_3_int64_3_int64_ false, [.tmp 19 true, .tmp 21 true]⟩,
   ⟨(some 23), none, .pick, [.tmp 17 false, .tmp 22 false, .val (.bool false)]⟩,
   ⟨(some 24), none, .move, [.tmp 23 false]⟩,
   ⟨(some 25), (some (24, true)), .addOff 3, [.tmp 2 false]⟩,
   ⟨(some 26), (some (24, true)), .load false 1 false, [.tmp 25 false]⟩,
   ⟨(some 27), (some (24, true)), .addOff 3, [.tmp 3 false]⟩,
   ⟨(some 28), (some (24, true)), .load false 1 false, [.tmp 27 false]⟩,
   ⟨(some 29), (some (24, true)), .bin .eql .plain, [.tmp 26 false, .tmp 28 false]⟩,
   ⟨(some 30), none, .pick, [.tmp 24 false, .tmp 29 false, .val (.bool false)]⟩,
   ⟨(some 4), none, .move, [.tmp 30 false]⟩])
 (.ghost (.kill [2, 3, 5, 6, 7, 8, 9, 10, 11, 12, 13, 14, 15, 16, 17, 18, 19, 20, 21, 22, 23, 24, 25, 26, 27, 28, 29, 30]) (.ret)))), [.tmp 4]⟩
def c_producer_marker : AFunc := ⟨20, false, .seq (.region [⟨(some 3), none, .box, [.tmp 0 false]⟩,
   ⟨(some 5), none, .box, [.tmp 2 false]⟩,
   ⟨(some 6), none, .move, [.val (.int .i64 0)]⟩])
 (.ghost (.kill [0, 2, 6]) (.seq (.block 0 (.seq (.region [⟨(some 8), none, .move, [.tmp 1 false]⟩,
    ⟨(some 9), none, .un .not, [.tmp 8 false]⟩,
    ⟨(some 7), none, .move, [.tmp 9 false]⟩])
  (.ghost (.kill [1, 8, 9]) (.cond (.tmp 7 false) (.seq (.region [⟨(some 6), none, .move, [.val (.int .i64 16)]⟩])
   (.ghost (.kill [3, 5, 7]) (.ret)))
   (.seq (.region [⟨(some 11), none, .addOff 2, [.tmp 5 false]⟩,
     ⟨(some 12), none, .load false 1 false, [.tmp 11 false]⟩,
     ⟨(some 13), none, .addOff 1, [.tmp 3 false]⟩,
     ⟨(some 14), none, .load false 1 false, [.tmp 13 false]⟩,
     ⟨(some 15), none, .bin .lss .plain, [.tmp 12 false, .tmp 14 false]⟩,
     ⟨(some 10), none, .move, [.tmp 15 false]⟩])
   (.ghost (.kill [5, 7, 11, 12, 13, 14, 15]) (.cond (.tmp 10 false) (.seq (.region [⟨(some 6), none, .move, [.val (.int .i64 14)]⟩])
    (.ghost (.kill [3, 10]) (.ret)))
    (.seq (.region [⟨(some 17), none, .addOff 3, [.tmp 3 false]⟩,
      ⟨(some 18), none, .load false 1 false, [.tmp 17 false]⟩,
      ⟨(some 19), none, .bin .lss .plain, [.tmp 18 false, .val (.int .i64 0)]⟩,
      ⟨(some 16), none, .move, [.tmp 19 false]⟩])
    (.ghost (.kill [3, 10, 17, 18, 19]) (.cond (.tmp 16 false) (.seq (.region [⟨(some 6), none, .move, [.val (.int .i64 16)]⟩])
     (.ghost (.kill [16]) (.ret)))
     (.skip)))))))))))
 (.ghost (.kill [16]) (.seq (.region [⟨(some 6), none, .move, [.val (.int .i64 0)]⟩])
 (.ret))))), [.tmp 6]⟩
def c_producer_later : AFunc := ⟨13, false, .seq (.region [⟨(some 2), none, .box, [.tmp 0 false]⟩,
   ⟨(some 3), none, .box, [.tmp 1 false]⟩,
   ⟨(some 4), none, .move, [.val (.int .i64 0)]⟩])
 (.ghost (.kill [0, 1, 4]) (.seq (.block 0 (.seq (.region [⟨(some 6), none, .addOff 3, [.tmp 2 false]⟩,
    ⟨(some 7), none, .load false 1 false, [.tmp 6 false]⟩,
    ⟨(some 8), none, .bin .geq .plain, [.tmp 7 false, .val (.int .i64 0)]⟩,
    ⟨(some 5), none, .move, [.tmp 8 false]⟩])
  (.ghost (.kill [2, 6, 7, 8]) (.cond (.tmp 5 false) (.seq (.region [⟨(some 4), none, .move, [.val (.int .i64 16)]⟩])
   (.ghost (.kill [3, 5]) (.ret)))
   (.seq (.region [⟨(some 10), none, .addOff 3, [.tmp 3 false]⟩,
     ⟨(some 11), none, .load false 1 false, [.tmp 10 false]⟩,
     ⟨(some 12), none, .bin .neq .plain, [.tmp 11 false, .val (.int .i64 0)]⟩,
     ⟨(some 9), none, .move, [.tmp 12 false]⟩])
   (.ghost (.kill [3, 5, 10, 11, 12]) (.cond (.tmp 9 false) (.seq (.region [⟨(some 4), none, .move, [.val (.int .i64 15)]⟩])
    (.ghost (.kill [9]) (.ret)))
    (.skip))))))))
 (.ghost (.kill [9]) (.seq (.region [⟨(some 4), none, .move, [.val (.int .i64 0)]⟩])
 (.ret))))), [.tmp 4]⟩
def c_seq_Follows : AFunc := ⟨17, false, .seq (.region [⟨(some 4), none, .move, [.val (.bool false)]⟩])
 (.ghost (.kill [4]) (.seq (.seq (.region [⟨(some 5), none, .move, [.tmp 0 false]⟩,
   ⟨(some 6), none, .bin .eql .plain, [.tmp 5 false, .val (.int .i64 (-1))]⟩])
 (.ghost (.kill [5]) (.cond (.tmp 6 false) (.seq (.region [⟨(some 7), none, .move, [.tmp 1 false]⟩,
    ⟨(some 8), none, .bin .eql .plain, [.tmp 7 false, .val (.int .i64 0)]⟩,
    ⟨(some 4), none, .move, [.tmp 8 false]⟩])
  (.ghost (.kill [0, 1, 6, 7, 8]) (.ret)))
  (.skip))))
 (.ghost (.kill [6]) (.seq (.region [⟨(some 9), none, .move, [.tmp 0 false]⟩,
   ⟨(some 10), none, .call n_seq_Right false, [.tmp 9 false]⟩,
   ⟨(some 11), none, .move, [.tmp 10 false]⟩,
   ⟨(some 12), (some (11, true)), .move, [.tmp 1 false]⟩,
   ⟨(some 13), (some (11, true)), .move, [.tmp 0 false]⟩,
   ⟨(some 14), (some (11, true)), .call n_seq_Add false, [.tmp 13 false, .val (.int .i64 1)]⟩,
   ⟨(some 15), (some (11, true)), .bin .eql .plain, [.tmp 12 false, .tmp 14 false]⟩,
   ⟨(some 16), none, .pick, [.tmp 11 false, .tmp 15 false, .val (.bool false)]⟩,
   ⟨(some 4), none, .move, [.tmp 16 false]⟩])
 (.ghost (.kill [0, 1, 9, 10, 11, 12, 13, 14, 15, 16]) (.ret)))))), [.tmp 4]⟩
def c_seq_Last : AFunc := ⟨15, false, .seq (.region [⟨(some 4), none, .move, [.val (.int .i64 0)]⟩])
 (.ghost (.kill [4]) (.seq (.seq (.region [⟨(some 5), none, .move, [.tmp 1 false]⟩,
   ⟨(some 6), none, .bin .lss .plain, [.tmp 5 false, .val (.int .i64 1)]⟩,
   ⟨(some 7), none, .move, [.tmp 6 false]⟩,
   ⟨(some 8), (some (7, false)), .move, [.tmp 1 false]⟩,
   ⟨(some 9), (some (7, false)), .bin .gtr .plain, [.tmp 8 false, .val (.int .i64 16)]⟩,
   ⟨(some 10), none, .pick, [.tmp 7 false, .val (.bool true), .tmp 9 false]⟩])
 (.ghost (.kill [5, 6, 7, 8, 9]) (.cond (.tmp 10 false) (.seq (.region [⟨(some 4), none, .move, [.val (.int .i64 (-1))]⟩])
  (.ghost (.kill [0, 1, 10]) (.ret)))
  (.skip))))
 (.ghost (.kill [10]) (.seq (.region [⟨(some 11), none, .move, [.tmp 0 false]⟩,
   ⟨(some 12), none, .move, [.tmp 1 false]⟩,
   ⟨(some 13), none, .bin .sub .plain, [.tmp 12 false, .val (.int .i64 1)]⟩,
   ⟨(some 14), none, .call n_seq_Add false, [.tmp 11 false, .tmp 13 false]⟩,
   ⟨(some 4), none, .move, [.tmp 14 false]⟩])
 (.ghost (.kill [0, 1, 11, 12, 13, 14]) (.ret)))))), [.tmp 4]⟩
def l_producer_batches_0 : ACode := .seq (.region [⟨(some 8), none, .bin .lss .plain, [.tmp 7 false, .tmp 6 false]⟩])
 (.seq (.cond (.tmp 8 false) (.skip)
  (.ghost (.kill [5, 6, 7, 8]) (.exit 0)))
 (.ghost (.kill [8]) (.seq (.block 1 (.seq (.region [⟨(some 9), none, .move, [.tmp 7 false]⟩,
    ⟨(some 10), none, .ixAddr 3, [.tmp 5 false, .tmp 7 false]⟩,
    ⟨(some 11), none, .load true 3 false, [.tmp 10 false]⟩,
    ⟨(some 4), none, .alloc [.int .i64 0, .int .i64 0, .int .i64 0], []⟩,
    ⟨(some 3), none, .move, [.tmp 9 false]⟩,
    ⟨none, none, .store 3, [.tmp 4 false, .tmp 11 false]⟩])
  (.ghost (.kill [9, 10, 11]) (.seq (.seq (.region [⟨(some 12), none, .ixArr 3 1, [.tmp 4 false, .val (.int .i64 0)]⟩,
    ⟨(some 13), none, .load false 1 false, [.tmp 12 false]⟩,
    ⟨(some 14), none, .call n_seq_Right false, [.tmp 13 false]⟩,
    ⟨(some 15), none, .un .not, [.tmp 14 false]⟩,
    ⟨(some 16), none, .move, [.tmp 15 false]⟩,
    ⟨(some 17), (some (16, false)), .ixArr 3 1, [.tmp 4 false, .val (.int .i64 1)]⟩,
    ⟨(some 18), (some (16, false)), .load false 1 false, [.tmp 17 false]⟩,
    ⟨(some 19), (some (16, false)), .call n_seq_Right false, [.tmp 18 false]⟩,
    ⟨(some 20), (some (16, false)), .un .not, [.tmp 19 false]⟩,
    ⟨(some 21), none, .pick, [.tmp 16 false, .val (.bool true), .tmp 20 false]⟩,
    ⟨(some 22), none, .move, [.tmp 21 false]⟩,
    ⟨(some 23), (some (22, false)), .ixArr 3 1, [.tmp 4 false, .val (.int .i64 0)]⟩,
    ⟨(some 24), (some (22, false)), .load false 1 false, [.tmp 23 false]⟩,
    ⟨(some 25), (some (22, false)), .ixArr 3 1, [.tmp 4 false, .val (.int .i64 1)]⟩,
    ⟨(some 26), (some (22, false)), .load false 1 false, [.tmp 25 false]⟩,
    ⟨(some 27), (some (22, false)), .call n_seq_Gap false, [.tmp 24 false, .tmp 26 false]⟩,
    ⟨(some 28), (some (22, false)), .bin .geq .plain, [.tmp 27 false, .val (.int .i64 16)]⟩,
    ⟨(some 29), none, .pick, [.tmp 22 false, .val (.bool true), .tmp 28 false]⟩,
    ⟨(some 30), none, .move, [.tmp 29 false]⟩,
    ⟨(some 31), (some (30, false)), .ixArr 3 1, [.tmp 4 false, .val (.int .i64 2)]⟩,
    ⟨(some 32), (some (30, false)), .load false 1 false, [.tmp 31 false]⟩,
    ⟨(some 33), (some (30, false)), .bin .lss .plain, [.tmp 32 false, .val (.int .i64 0)]⟩,
    ⟨(some 34), none, .pick, [.tmp 30 false, .val (.bool true), .tmp 33 false]⟩,
    ⟨(some 35), none, .move, [.tmp 34 false]⟩,
    ⟨(some 36), (some (35, false)), .ixArr 3 1, [.tmp 4 false, .val (.int .i64 2)]⟩,
    ⟨(some 37), (some (35, false)), .load false 1 false, [.tmp 36 false]⟩,
    ⟨(some 38), (some (35, false)), .bin .gtr .plain, [.tmp 37 false, .val (.int .i64 1099511627776)]⟩,
    ⟨(some 39), none, .pick, [.tmp 35 false, .val (.bool true), .tmp 38 false]⟩])
  (.ghost (.kill [12, 13, 14, 15, 16, 17, 18, 19, 20, 21, 22, 23, 24, 25, 26, 27, 28, 29, 30, 31, 32, 33, 34, 35, 36, 37, 38]) (.cond (.tmp 39 false) (.seq (.region [⟨(some 2), none, .move, [.val (.bool false)]⟩])
   (.ghost (.kill [0, 3, 4, 5, 6, 7, 39]) (.ret)))
   (.skip))))
  (.ghost (.kill [39]) (.seq (.draw [(⟨(some 40), none, .move, [.tmp 3 false]⟩, ⟨false, []⟩),
    (⟨(some 41), none, .bin .gtr .plain, [.tmp 40 false, .val (.int .i64 0)]⟩, ⟨false, []⟩),
    (⟨(some 42), none, .move, [.tmp 41 false]⟩, ⟨false, []⟩),
    (⟨(some 43), (some (42, true)), .ixArr 3 1, [.tmp 4 false, .val (.int .i64 2)]⟩, ⟨false, []⟩),
    (⟨(some 44), (some (42, true)), .load false 1 false, [.tmp 43 false]⟩, ⟨false, []⟩),
    (⟨(some 45), (some (42, true)), .move, [.tmp 0 false]⟩, ⟨false, []⟩),
    (⟨(some 46), (some (42, true)), .move, [.tmp 3 false]⟩, ⟨false, []⟩),
    (⟨(some 47), (some (42, true)), .bin .sub .plain, [.tmp 46 false, .val (.int .i64 1)]⟩, ⟨false, []⟩),
    (⟨(some 48), (some (42, true)), .ixAddr 3, [.tmp 45 true, .tmp 47 false]⟩, ⟨false, []⟩),
    (⟨(some 49), (some (42, true)), .ixArr 3 1, [.tmp 48 false, .val (.int .i64 2)]⟩, ⟨false, []⟩),
    (⟨(some 50), (some (42, true)), .load false 1 false, [.tmp 49 false]⟩, ⟨false, []⟩),
    (⟨(some 51), (some (42, true)), .bin .leq .plain, [.tmp 44 false, .tmp 50 false]⟩, ⟨false, []⟩),
    (⟨(some 52), (some (42, true)), .move, [.tmp 51 false]⟩, ⟨false, []⟩),
    (⟨(some 53), (some (52, false)), .move, [.tmp 0 false]⟩, ⟨false, []⟩),
    (⟨(some 54), (some (52, false)), .move, [.tmp 3 false]⟩, ⟨false, []⟩),
    (⟨(some 55), (some (52, false)), .bin .sub .plain, [.tmp 54 false, .val (.int .i64 1)]⟩, ⟨false, []⟩),
    (⟨(some 56), (some (52, false)), .ixAddr 3, [.tmp 53 true, .tmp 55 false]⟩, ⟨false, []⟩),
    (⟨(some 57), (some (52, false)), .ixArr 3 1, [.tmp 56 false, .val (.int .i64 1)]⟩, ⟨false, []⟩),
    (⟨(some 58), (some (52, false)), .load false 1 false, [.tmp 57 false]⟩, ⟨false, []⟩),
    (⟨(some 59), (some (52, false)), .ixArr 3 1, [.tmp 4 false, .val (.int .i64 0)]⟩, ⟨false, []⟩),
    (⟨(some 60), (some (52, false)), .load false 1 false, [.tmp 59 false]⟩, ⟨false, []⟩),
    (⟨(some 61), (some (52, false)), .call n_seq_Follows false, [.tmp 58 false, .tmp 60 false]⟩, ⟨true, []⟩),
    (⟨(some 62), (some (52, false)), .un .not, [.tmp 61 false]⟩, ⟨false, []⟩),
    (⟨(some 63), (some (42, true)), .pick, [.tmp 52 false, .val (.bool true), .tmp 62 false]⟩, ⟨false, []⟩),
    (⟨(some 64), none, .pick, [.tmp 42 false, .tmp 63 false, .val (.bool false)]⟩, ⟨false, []⟩)])
  (.ghost (.kill [3, 4, 40, 41, 42, 43, 44, 45, 46, 47, 48, 49, 50, 51, 52, 53, 54, 55, 56, 57, 58, 59, 60, 61, 62, 63]) (.cond (.tmp 64 false) (.seq (.region [⟨(some 2), none, .move, [.val (.bool false)]⟩])
   (.ghost (.kill [0, 5, 6, 7, 64]) (.ret)))
   (.skip)))))))))
 (.ghost (.kill [64]) (.region [⟨(some 65), none, .bin .add .plain, [.tmp 7 false, .val (.int .i64 1)]⟩,
   ⟨(some 7), none, .move, [.tmp 65 false]⟩])))))
def k_producer_batches_0 : List Nat := [2, 3, 4, 8, 9, 10, 11, 12, 13, 14, 15, 16, 17, 18, 19, 20, 21, 22, 23, 24, 25, 26, 27, 28, 29, 30, 31, 32, 33, 34, 35, 36, 37, 38, 39, 40, 41, 42, 43, 44, 45, 46, 47, 48, 49, 50, 51, 52, 53, 54, 55, 56, 57, 58, 59, 60, 61, 62, 63, 64, 65]
def c_producer_batches : AFunc := ⟨69, false, .seq (.region [⟨(some 2), none, .move, [.val (.bool false)]⟩])
 (.ghost (.kill [2]) (.seq (.seq (.region [⟨(some 5), none, .move, [.tmp 0 false]⟩,
   ⟨(some 6), none, .len false, [.tmp 5 false]⟩,
   ⟨(some 7), none, .move, [.val (.int .i64 0)]⟩])
 (.block 0 (.loop (.ghost (.kill k_producer_batches_0) l_producer_batches_0))))
 (.ghost (.kill [2, 3, 4, 5, 6, 7, 8, 9, 10, 11, 12, 13, 14, 15, 16, 17, 18, 19, 20, 21, 22, 23, 24, 25, 26, 27, 28, 29, 30, 31, 32, 33, 34, 35, 36, 37, 38, 39, 40, 41, 42, 43, 44, 45, 46, 47, 48, 49, 50, 51, 52, 53, 54, 55, 56, 57, 58, 59, 60, 61, 62, 63, 64, 65]) (.seq (.region [⟨(some 66), none, .move, [.tmp 0 true]⟩,
   ⟨(some 67), none, .len false, [.tmp 66 true]⟩,
   ⟨(some 68), none, .bin .leq .plain, [.tmp 67 false, .val (.int .i64 5)]⟩,
   ⟨(some 2), none, .move, [.tmp 68 false]⟩])
 (.ghost (.kill [0, 66, 67, 68]) (.ret)))))), [.tmp 2]⟩
def l_slices_Equal_3_int64_3_int64__0 : ACode := .seq (.region [⟨(some 14), none, .bin .lss .plain, [.tmp 13 false, .tmp 12 false]⟩])
 (.seq (.cond (.tmp 14 false) (.skip)
  (.ghost (.kill [0, 1, 12, 13, 14]) (.exit 0)))
 (.ghost (.kill [14]) (.seq (.block 1 (.seq (.region [⟨(some 15), none, .move, [.tmp 13 false]⟩,
    ⟨(some 5), none, .move, [.tmp 15 false]⟩])
  (.ghost (.kill [15]) (.seq (.draw [(⟨(some 16), none, .move, [.tmp 0 false]⟩, ⟨false, []⟩),
    (⟨(some 17), none, .move, [.tmp 5 false]⟩, ⟨false, []⟩),
    (⟨(some 18), none, .ixAddr 3, [.tmp 16 true, .tmp 17 false]⟩, ⟨false, []⟩),
    (⟨(some 19), none, .load true 3 false, [.tmp 18 false]⟩, ⟨false, []⟩),
    (⟨(some 20), none, .move, [.tmp 1 false]⟩, ⟨false, []⟩),
    (⟨(some 21), none, .move, [.tmp 5 false]⟩, ⟨false, []⟩),
    (⟨(some 22), none, .ixAddr 3, [.tmp 20 true, .tmp 21 false]⟩, ⟨false, []⟩),
    (⟨(some 23), none, .load true 3 false, [.tmp 22 false]⟩, ⟨false, []⟩),
    (⟨(some 24), none, .bin .neq (.agg [.int .i64, .int .i64, .int .i64]), [.tmp 19 false, .tmp 23 false]⟩, ⟨false, []⟩)])
  (.ghost (.kill [5, 16, 17, 18, 19, 20, 21, 22, 23]) (.cond (.tmp 24 false) (.seq (.region [⟨(some 4), none, .move, [.val (.bool false)]⟩])
   (.ghost (.kill [0, 1, 12, 13, 24]) (.ret)))
   (.skip)))))))
 (.ghost (.kill [24]) (.region [⟨(some 25), none, .bin .add .plain, [.tmp 13 false, .val (.int .i64 1)]⟩,
   ⟨(some 13), none, .move, [.tmp 25 false]⟩])))))
def k_slices_Equal_3_int64_3_int64__0 : List Nat := [4, 5, 14, 15, 16, 17, 18, 19, 20, 21, 22, 23, 24, 25]
def c_slices_Equal_3_int64_3_int64_ : AFunc := ⟨26, false, .seq (.region [⟨(some 4), none, .move, [.val (.bool false)]⟩])
 (.ghost (.kill [4]) (.seq (.seq (.region [⟨(some 6), none, .move, [.tmp 0 false]⟩,
   ⟨(some 7), none, .len false, [.tmp 6 true]⟩,
   ⟨(some 8), none, .move, [.tmp 1 false]⟩,
   ⟨(some 9), none, .len false, [.tmp 8 true]⟩,
   ⟨(some 10), none, .bin .neq .plain, [.tmp 7 false, .tmp 9 false]⟩])
 (.ghost (.kill [6, 7, 8, 9]) (.cond (.tmp 10 false) (.seq (.region [⟨(some 4), none, .move, [.val (.bool false)]⟩])
  (.ghost (.kill [0, 1, 10]) (.ret)))
  (.skip))))
 (.ghost (.kill [10]) (.seq (.seq (.region [⟨(some 11), none, .move, [.tmp 0 false]⟩,
   ⟨(some 12), none, .len false, [.tmp 11 true]⟩,
   ⟨(some 13), none, .move, [.val (.int .i64 0)]⟩])
 (.ghost (.kill [11]) (.block 0 (.loop (.ghost (.kill k_slices_Equal_3_int64_3_int64__0) l_slices_Equal_3_int64_3_int64__0)))))
 (.ghost (.kill [0, 1, 4, 5, 12, 13, 14, 15, 16, 17, 18, 19, 20, 21, 22, 23, 24, 25]) (.seq (.region [⟨(some 4), none, .move, [.val (.bool true)]⟩])
 (.ret))))))), [.tmp 4]⟩
def c_seq_Right : AFunc := ⟨9, false, .seq (.region [⟨(some 2), none, .move, [.val (.bool false)]⟩])
 (.ghost (.kill [2]) (.seq (.region [⟨(some 3), none, .move, [.tmp 0 false]⟩,
   ⟨(some 4), none, .bin .geq .plain, [.tmp 3 false, .val (.int .i64 0)]⟩,
   ⟨(some 5), none, .move, [.tmp 4 false]⟩,
   ⟨(some 6), (some (5, true)), .move, [.tmp 0 false]⟩,
   ⟨(some 7), (some (5, true)), .bin .leq .plain, [.tmp 6 false, .val (.int .i64 2147483647)]⟩,
   ⟨(some 8), none, .pick, [.tmp 5 false, .tmp 7 false, .val (.bool false)]⟩,
   ⟨(some 2), none, .move, [.tmp 8 false]⟩])
 (.ghost (.kill [0, 3, 4, 5, 6, 7, 8]) (.ret)))), [.tmp 2]⟩
def c_seq_Add : AFunc := ⟨15, false, .seq (.region [⟨(some 4), none, .move, [.val (.int .i64 0)]⟩])
 (.ghost (.kill [4]) (.seq (.seq (.region [⟨(some 5), none, .move, [.tmp 0 false]⟩,
   ⟨(some 6), none, .call n_seq_Right false, [.tmp 5 false]⟩,
   ⟨(some 7), none, .un .not, [.tmp 6 false]⟩])
 (.ghost (.kill [5, 6]) (.cond (.tmp 7 false) (.seq (.region [⟨(some 4), none, .move, [.val (.int .i64 (-1))]⟩])
  (.ghost (.kill [0, 1, 7]) (.ret)))
  (.skip))))
 (.ghost (.kill [7]) (.seq (.region [⟨(some 8), none, .move, [.tmp 0 false]⟩,
   ⟨(some 9), none, .move, [.tmp 1 false]⟩,
   ⟨(some 10), none, .bin .rem .plain, [.tmp 9 false, .val (.int .i64 2147483648)]⟩,
   ⟨(some 11), none, .bin .add .plain, [.tmp 8 false, .tmp 10 false]⟩,
   ⟨(some 12), none, .bin .rem .plain, [.tmp 11 false, .val (.int .i64 2147483648)]⟩,
   ⟨(some 13), none, .bin .add .plain, [.tmp 12 false, .val (.int .i64 2147483648)]⟩,
   ⟨(some 14), none, .bin .rem .plain, [.tmp 13 false, .val (.int .i64 2147483648)]⟩,
   ⟨(some 4), none, .move, [.tmp 14 false]⟩])
 (.ghost (.kill [0, 1, 8, 9, 10, 11, 12, 13, 14]) (.ret)))))), [.tmp 4]⟩
def c_seq_Gap : AFunc := ⟨18, false, .seq (.region [⟨(some 4), none, .move, [.val (.int .i64 0)]⟩])
 (.ghost (.kill [4]) (.seq (.seq (.region [⟨(some 5), none, .move, [.tmp 0 false]⟩,
   ⟨(some 6), none, .call n_seq_Right false, [.tmp 5 false]⟩,
   ⟨(some 7), none, .un .not, [.tmp 6 false]⟩,
   ⟨(some 8), none, .move, [.tmp 7 false]⟩,
   ⟨(some 9), (some (8, false)), .move, [.tmp 1 false]⟩,
   ⟨(some 10), (some (8, false)), .call n_seq_Right false, [.tmp 9 false]⟩,
   ⟨(some 11), (some (8, false)), .un .not, [.tmp 10 false]⟩,
   ⟨(some 12), none, .pick, [.tmp 8 false, .val (.bool true), .tmp 11 false]⟩])
 (.ghost (.kill [5, 6, 7, 8, 9, 10, 11]) (.cond (.tmp 12 false) (.seq (.region [⟨(some 4), none, .move, [.val (.int .i64 (-1))]⟩])
  (.ghost (.kill [0, 1, 12]) (.ret)))
  (.skip))))
 (.ghost (.kill [12]) (.seq (.region [⟨(some 13), none, .move, [.tmp 1 false]⟩,
   ⟨(some 14), none, .move, [.tmp 0 false]⟩,
   ⟨(some 15), none, .bin .sub .plain, [.tmp 13 false, .tmp 14 false]⟩,
   ⟨(some 16), none, .bin .add .plain, [.tmp 15 false, .val (.int .i64 2147483648)]⟩,
   ⟨(some 17), none, .bin .rem .plain, [.tmp 16 false, .val (.int .i64 2147483648)]⟩,
   ⟨(some 4), none, .move, [.tmp 17 false]⟩])
 (.ghost (.kill [0, 1, 13, 14, 15, 16, 17]) (.ret)))))), [.tmp 4]⟩
def codes : List (Nat × AFunc) := [(n_law10_ProducerOnce, c_law10_ProducerOnce), (n_law10_ProducerMarkers, c_law10_ProducerMarkers), (n_law10_ProducerEpochs, c_law10_ProducerEpochs), (n_book_Within, c_book_Within), (n_law10_known, c_law10_known), (n_producer_Check, c_producer_Check), (n_producer_Apply, c_producer_Apply), (n_producer_Right, c_producer_Right), (n_producer_Dup, c_producer_Dup), (n_producer_Same, c_producer_Same), (n_producer_marker, c_producer_marker), (n_producer_later, c_producer_later), (n_seq_Follows, c_seq_Follows), (n_seq_Last, c_seq_Last), (n_producer_batches, c_producer_batches), (n_slices_Equal_3_int64_3_int64_, c_slices_Equal_3_int64_3_int64_), (n_seq_Right, c_seq_Right), (n_seq_Add, c_seq_Add), (n_seq_Gap, c_seq_Gap)]
def ext : Sems := fun f => if f = n_slices_Clone_3_int64_3_int64_ then some (cloneSem 3 24) else none
def tbl (f : Nat) : Option AFunc := (codes.find? (·.1 == f)).map (·.2)
noncomputable def W : CallF := callW tbl ext
theorem W_fn {f : Nat} {fn : AFunc} (hx' : ext f = none) (ht : tbl f = some fn) {args v} {H : Heap} (h : runFn W loopW fn args (hx H []) = some (v, hx H [])) : W f args H = some (v, H) := W_fnH hx' ht h
theorem W_slices_Clone_3_int64_3_int64_ (xs H) (h : xs.length * 24 ≤ maxBytes) : W n_slices_Clone_3_int64_3_int64_ [.list 3 xs .ro] H = some (.list 3 xs .own, H) := callW_ext (s := cloneSem 3 24) rfl (by unfold cloneSem; exact if_pos ⟨rfl, h⟩)
end Go.Abs
