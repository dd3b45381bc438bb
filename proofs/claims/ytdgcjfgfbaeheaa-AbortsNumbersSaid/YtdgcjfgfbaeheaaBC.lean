import Derived.Test.YtdgcjfgfbaeheaaKB
import Derived.KernelRfl
namespace Go.Abs
open Go Go.RowKit
abbrev n_law13_AbortsNumbers : Nat := 5
abbrev n_aborts_Of : Nat := 8
abbrev n_keep_Row : Nat := 9
abbrev n_aborts_Row_Within : Nat := 10
abbrev n_ref10_Dropped : Nat := 11
abbrev n_aborts_Row_All : Nat := 12
abbrev n_book_Within : Nat := 13
abbrev n_law13_known : Nat := 14
abbrev n_aborts_Read : Nat := 15
abbrev n_aborts_Row_Bytes : Nat := 16
abbrev n_aborts_Row_Cut : Nat := 17
abbrev n_law13_rows : Nat := 18
abbrev n_law13_tape : Nat := 19
abbrev n_law13_play : Nat := 20
abbrev n_law13_plain_add : Nat := 21
abbrev n_law13_plain_bytes : Nat := 22
abbrev n_law13_reads : Nat := 23
abbrev n_ref1_Sealed : Nat := 24
abbrev n_aborts_New : Nat := 31
abbrev n_table_New : Nat := 32
abbrev n_table_Table_Apply : Nat := 33
abbrev n_aborts_Row_Add : Nat := 34
abbrev n_keep_Tape_Ask : Nat := 35
abbrev n_ref14_Model_Mark : Nat := 36
abbrev n_ref14_Model_Produce : Nat := 37
abbrev n_slices_Clone_api_Dropped_api_Dropped_ : Nat := 38
abbrev n_crc_Check : Nat := 39
abbrev n_varint_Read : Nat := 40
abbrev n_varint_Reader_Count : Nat := 41
abbrev n_varint_Reader_Num : Nat := 42
abbrev n_varint_Reader_Bad : Nat := 43
abbrev n_varint_Reader_Done : Nat := 44
abbrev n_varint_Put : Nat := 45
abbrev n_crc_Put : Nat := 46
abbrev n_slices_DeleteFunc_api_Dropped_api_Dropped_ : Nat := 47
abbrev n_aborts_Row_Cut_1 : Nat := 48
abbrev n_ref10_Fold : Nat := 49
abbrev n_ref10_Within : Nat := 50
abbrev n_aborts_Row_Start : Nat := 51
abbrev n_ref1_Put : Nat := 52
abbrev n_ref1_Unseal : Nat := 53
abbrev n_ref1_Reader_Num : Nat := 54
abbrev n_ref1_Reader_Done : Nat := 55
abbrev n_ref1_Crc : Nat := 56
abbrev n_ref14_End : Nat := 58
abbrev n_batch_Right : Nat := 74
abbrev n_producer_Apply : Nat := 75
abbrev n_keep_Tape_Batch : Nat := 76
abbrev n_keep_Tape_Next : Nat := 77
abbrev n_ref14_Model_Producers : Nat := 78
abbrev n_ref14_Model_put : Nat := 79
abbrev n_ref14_Model_End : Nat := 80
abbrev n_ref6_Right : Nat := 81
abbrev n_crc_Of : Nat := 82
abbrev n_slices_Clone_byte_byte_ : Nat := 83
abbrev n_varint_Get : Nat := 84
abbrev n_slices_Clip_byte_byte_ : Nat := 85
abbrev n_slices_Concat_byte_byte_ : Nat := 86
abbrev n_slices_IndexFunc_api_Dropped_api_Dropped_ : Nat := 87
abbrev n_ref10_Table_Apply : Nat := 88
abbrev n_aborts_Row_Start_1 : Nat := 89
abbrev n_ref1_Get : Nat := 90
abbrev n_ref1_Next : Nat := 91
abbrev n_ref6_Count : Nat := 93
abbrev n_batch_data : Nat := 99
abbrev n_batch_named : Nat := 100
abbrev n_batch_bytes : Nat := 101
abbrev n_slices_Clone_3_int64_3_int64_ : Nat := 102
abbrev n_seq_Last : Nat := 103
abbrev n_keep_Tape_Recs : Nat := 104
abbrev n_ref10_Table_Check : Nat := 105
abbrev n_ref14_Model_size : Nat := 106
abbrev n_ref6_Size : Nat := 107
abbrev n_ref6_plain : Nat := 108
abbrev n_ref6_write : Nat := 109
abbrev n_crc_Next : Nat := 110
abbrev n_slices_Grow_byte_byte_ : Nat := 111
abbrev n_ref10_Table_at : Nat := 112
abbrev n_ref10_Table_Get : Nat := 113
abbrev n_ref10_Apply : Nat := 114
abbrev n_seq_Right : Nat := 116
abbrev n_varint_Long : Nat := 117
abbrev n_varint_Text : Nat := 118
abbrev n_seq_Add : Nat := 119
abbrev n_keep_Tape_Text : Nat := 120
abbrev n_ref10_Check : Nat := 121
abbrev n_ref6_Bytes : Nat := 122
abbrev n_ref6_head : Nat := 123
abbrev n_ref3_Seq : Nat := 124
abbrev n_ref1_Long : Nat := 125
abbrev n_ref1_Text : Nat := 126
abbrev n_ref3_Last : Nat := 127
abbrev n_varint_bitsOf : Nat := 129
abbrev n_ref10_Dup : Nat := 130
abbrev n_ref3_Follows : Nat := 131
abbrev n_ref3_Add : Nat := 132
def l_law13_AbortsNumbers_0 : ACode := .seq (.seq (.region [⟨some 18,none,.move,[.tmp 3 false]⟩,
 ⟨some 19,none,.bin .lss .plain,[.tmp 18 false,.val (.int .i64 30)]⟩])
 (.ghost (.kill [18]) (.cond (.tmp 19 false) (.skip)
 (.ghost (.kill [3,19]) (.exit 2)))))
 (.ghost (.kill [19]) (.seq (.block 3 (.region [⟨some 22,none,.move,[.tmp 2 true]⟩,
 ⟨some 23,none,.move,[.tmp 3 false]⟩,
 ⟨some 24,none,.bin .rem .plain,[.tmp 23 false,.val (.int .i64 7)]⟩,
 ⟨some 25,none,.move,[.tmp 3 false]⟩,
 ⟨some 26,none,.bin .rem .plain,[.tmp 25 false,.val (.int .i64 4)]⟩,
 ⟨some 27,none,.bin .sub .plain,[.tmp 26 false,.val (.int .i64 1)]⟩,
 ⟨some 28,none,.move,[.tmp 3 false]⟩,
 ⟨some 29,none,.move,[.tmp 1 false]⟩,
 ⟨some 30,none,.bin .mul .plain,[.tmp 28 false,.tmp 29 false]⟩,
 ⟨some 31,none,.bin .rem .plain,[.tmp 30 false,.val (.int .i64 19)]⟩,
 ⟨some 32,none,.move,[.tmp 3 false]⟩,
 ⟨some 33,none,.move,[.tmp 1 false]⟩,
 ⟨some 34,none,.bin .rem .plain,[.tmp 33 false,.val (.int .i64 5)]⟩,
 ⟨some 35,none,.bin .add .plain,[.tmp 32 false,.tmp 34 false]⟩,
 ⟨some 36,none,.build [.int .i64 0,.int .i64 0,.int .i64 0] [(0,1),(1,1),(2,1)],[.tmp 27 false,.tmp 31 false,.tmp 35 false]⟩,
 ⟨some 37,none,.move,[.tmp 3 false]⟩,
 ⟨some 38,none,.build [.int .i64 0,.int .i64 0,.int .i64 0,.int .i64 0,.int .i64 0] [(0,1),(1,3),(4,1)],[.tmp 24 false,.tmp 36 false,.tmp 37 false]⟩,
 ⟨some 39,none,.buildSlice 5 (.agg [.int .i64 0,.int .i64 0,.int .i64 0,.int .i64 0,.int .i64 0]) 1 [0],[.tmp 38 false]⟩,
 ⟨some 40,none,.append 5 40 false,[.tmp 22 true,.tmp 39 true]⟩,
 ⟨some 2,none,.move,[.tmp 40 true]⟩]))
 (.ghost (.kill [22,23,24,25,26,27,28,29,30,31,32,33,34,35,36,37,38,39,40]) (.region [⟨some 20,none,.move,[.tmp 3 false]⟩,
 ⟨some 21,none,.bin .add .plain,[.tmp 20 false,.val (.int .i64 1)]⟩,
 ⟨some 3,none,.move,[.tmp 21 false]⟩]))))
def k_law13_AbortsNumbers_0 : List Nat := [18,19,20,21,22,23,24,25,26,27,28,29,30,31,32,33,34,35,36,37,38,39,40]
def l_law13_AbortsNumbers_1 : ACode := .seq (.seq (.region [⟨some 9,none,.move,[.tmp 1 false]⟩,
 ⟨some 10,none,.bin .lss .plain,[.tmp 9 false,.val (.int .i64 40)]⟩])
 (.ghost (.kill [9]) (.cond (.tmp 10 false) (.skip)
 (.ghost (.kill [1,10]) (.exit 0)))))
 (.ghost (.kill [10]) (.seq (.block 1 (.seq (.seq (.region [⟨some 13,none,.move,[.tmp 1 false]⟩,
 ⟨some 14,none,.call n_law13_tape false,[.tmp 13 false]⟩,
 ⟨some 15,none,.call n_keep_Row false,[.tmp 14 true,.val (.int .i64 0),.val (.int .i64 40)]⟩,
 ⟨some 16,none,.call n_law13_rows false,[.tmp 15 true]⟩,
 ⟨some 17,none,.un .not,[.tmp 16 false]⟩])
 (.ghost (.kill [13,14,15,16]) (.cond (.tmp 17 false) (.seq (.region [⟨some 0,none,.move,[.val (.bool false)]⟩])
 (.ghost (.kill [1,17]) (.ret)))
 (.skip))))
 (.ghost (.kill [17]) (.seq (.region [⟨some 2,none,.move,[.val (.list 5 [] .full)]⟩])
 (.seq (.seq (.region [⟨some 3,none,.move,[.val (.int .i64 0)]⟩])
 (.block 2 (.loop (.ghost (.kill k_law13_AbortsNumbers_0) l_law13_AbortsNumbers_0))))
 (.ghost (.kill [3,18,19,20,21,22,23,24,25,26,27,28,29,30,31,32,33,34,35,36,37,38,39,40]) (.seq (.region [⟨some 41,none,.move,[.tmp 2 true]⟩,
 ⟨some 42,none,.move,[.tmp 1 false]⟩,
 ⟨some 43,none,.bin .rem .plain,[.tmp 42 false,.val (.int .i64 20)]⟩,
 ⟨some 44,none,.move,[.tmp 1 false]⟩,
 ⟨some 45,none,.call n_law13_play false,[.tmp 41 true,.tmp 43 false,.tmp 44 false]⟩,
 ⟨some 46,none,.un .not,[.tmp 45 false]⟩])
 (.ghost (.kill [2,41,42,43,44,45]) (.cond (.tmp 46 false) (.seq (.region [⟨some 0,none,.move,[.val (.bool false)]⟩])
 (.ghost (.kill [1,46]) (.ret)))
 (.skip))))))))))
 (.ghost (.kill [46]) (.region [⟨some 11,none,.move,[.tmp 1 false]⟩,
 ⟨some 12,none,.bin .add .plain,[.tmp 11 false,.val (.int .i64 1)]⟩,
 ⟨some 1,none,.move,[.tmp 12 false]⟩]))))
def k_law13_AbortsNumbers_1 : List Nat := [0,2,3,9,10,11,12,13,14,15,16,17,18,19,20,21,22,23,24,25,26,27,28,29,30,31,32,33,34,35,36,37,38,39,40,41,42,43,44,45,46]
def l_law13_AbortsNumbers_2 : ACode := .seq (.seq (.region [⟨some 49,none,.move,[.tmp 5 false]⟩,
 ⟨some 50,none,.bin .lss .plain,[.tmp 49 false,.val (.int .i64 5)]⟩])
 (.ghost (.kill [49]) (.cond (.tmp 50 false) (.skip)
 (.ghost (.kill [5,50]) (.exit 4)))))
 (.ghost (.kill [50]) (.seq (.block 5 (.region [⟨some 53,none,.move,[.tmp 4 false]⟩,
 ⟨some 54,none,.move,[.tmp 5 false]⟩,
 ⟨some 55,none,.move,[.tmp 5 false]⟩,
 ⟨some 56,none,.bin .mul .plain,[.tmp 55 false,.val (.int .i64 3)]⟩,
 ⟨some 57,none,.move,[.tmp 5 false]⟩,
 ⟨some 58,none,.bin .mul .plain,[.tmp 57 false,.val (.int .i64 3)]⟩,
 ⟨some 59,none,.bin .add .plain,[.tmp 58 false,.val (.int .i64 5)]⟩,
 ⟨some 60,none,.build [.int .i64 0,.int .i64 0,.int .i64 0] [(0,1),(1,1),(2,1)],[.tmp 54 false,.tmp 56 false,.tmp 59 false]⟩,
 ⟨some 61,none,.call n_law13_plain_add false,[.tmp 53 false,.tmp 60 false]⟩]))
 (.ghost (.kill [53,54,55,56,57,58,59,60,61]) (.region [⟨some 51,none,.move,[.tmp 5 false]⟩,
 ⟨some 52,none,.bin .add .plain,[.tmp 51 false,.val (.int .i64 1)]⟩,
 ⟨some 5,none,.move,[.tmp 52 false]⟩]))))
def k_law13_AbortsNumbers_2 : List Nat := [49,50,51,52,53,54,55,56,57,58,59,60,61]
def l_law13_AbortsNumbers_3 : ACode := .seq (.seq (.region [⟨some 64,none,.move,[.tmp 7 false]⟩,
 ⟨some 65,none,.move,[.tmp 6 false]⟩,
 ⟨some 66,none,.len false,[.tmp 65 true]⟩,
 ⟨some 67,none,.bin .lss .plain,[.tmp 64 false,.tmp 66 false]⟩])
 (.ghost (.kill [64,65,66]) (.cond (.tmp 67 false) (.skip)
 (.ghost (.kill [6,7,67]) (.exit 6)))))
 (.ghost (.kill [67]) (.seq (.block 7 (.seq (.region [⟨some 70,none,.buildSlice 1 (.int .u8 0) 0 [],[]⟩,
 ⟨some 71,none,.move,[.tmp 6 false]⟩,
 ⟨some 72,none,.slice 1 true false false,[.tmp 71 true,.val (.int .i64 4)]⟩,
 ⟨some 73,none,.append 1 1 true,[.tmp 70 true,.tmp 72 true]⟩,
 ⟨some 8,none,.move,[.tmp 73 true]⟩])
 (.ghost (.kill [70,71,72,73]) (.ghost (.thaw 8) (.seq (.seq (.region [⟨some 74,none,.move,[.tmp 7 false]⟩,
 ⟨some 75,none,.move,[.tmp 8 false]⟩,
 ⟨some 76,none,.len false,[.tmp 75 true]⟩,
 ⟨some 77,none,.bin .lss .plain,[.tmp 74 false,.tmp 76 false]⟩])
 (.ghost (.kill [74,75,76]) (.cond (.tmp 77 false) (.region [⟨some 78,none,.move,[.tmp 8 false]⟩,
 ⟨some 79,none,.move,[.tmp 7 false]⟩,
 ⟨some 80,none,.ixAddr 1,[.tmp 78 false,.tmp 79 false]⟩,
 ⟨some 81,none,.load false 1 false,[.tmp 80 false]⟩,
 ⟨some 82,none,.bin .xor .plain,[.tmp 81 false,.val (.int .u8 2)]⟩,
 ⟨some 83,none,.ixAddr 1,[.tmp 78 true,.tmp 79 false]⟩,
 ⟨none,none,.store 1,[.tmp 83 false,.tmp 82 false]⟩])
 (.skip))))
 (.ghost (.kill [77,78,79,80,81,82,83]) (.ghost (.back 8) (.ghost (.freeze 8) (.seq (.region [⟨some 84,none,.move,[.tmp 6 false]⟩,
 ⟨some 85,none,.move,[.tmp 7 false]⟩,
 ⟨some 86,none,.slice 1 false true false,[.tmp 84 true,.tmp 85 false]⟩,
 ⟨some 87,none,.call n_law13_reads false,[.tmp 86 true]⟩,
 ⟨some 88,none,.un .not,[.tmp 87 false]⟩,
 ⟨some 89,none,.move,[.tmp 88 false]⟩,
 ⟨some 90,(some (89,false)),.move,[.tmp 8 true]⟩,
 ⟨some 91,(some (89,false)),.call n_ref1_Sealed false,[.tmp 90 true]⟩,
 ⟨some 92,(some (89,false)),.call n_law13_reads false,[.tmp 91 true]⟩,
 ⟨some 93,(some (89,false)),.un .not,[.tmp 92 false]⟩,
 ⟨some 94,none,.pick,[.tmp 89 false,.val (.bool true),.tmp 93 false]⟩])
 (.ghost (.kill [8,84,85,86,87,88,89,90,91,92,93]) (.cond (.tmp 94 false) (.seq (.region [⟨some 0,none,.move,[.val (.bool false)]⟩])
 (.ghost (.kill [6,7,94]) (.ret)))
 (.skip))))))))))))
 (.ghost (.kill [94]) (.region [⟨some 68,none,.move,[.tmp 7 false]⟩,
 ⟨some 69,none,.bin .add .plain,[.tmp 68 false,.val (.int .i64 1)]⟩,
 ⟨some 7,none,.move,[.tmp 69 false]⟩]))))
def k_law13_AbortsNumbers_3 : List Nat := [0,8,64,65,66,67,68,69,70,71,72,73,74,75,76,77,78,79,80,81,82,83,84,85,86,87,88,89,90,91,92,93,94]
def c_law13_AbortsNumbers : AFunc := ⟨99,false,.seq (.region [⟨some 0,none,.move,[.val (.bool false)]⟩])
 (.ghost (.kill [0]) (.seq (.seq (.region [⟨some 1,none,.move,[.val (.int .i64 0)]⟩])
 (.block 0 (.loop (.ghost (.kill k_law13_AbortsNumbers_1) l_law13_AbortsNumbers_1))))
 (.ghost (.kill [0,1,2,3,9,10,11,12,13,14,15,16,17,18,19,20,21,22,23,24,25,26,27,28,29,30,31,32,33,34,35,36,37,38,39,40,41,42,43,44,45,46]) (.seq (.region [⟨some 47,none,.build [.list 3 [] .full,.int .i64 0] [(1,1)],[.val (.int .i64 (-1))]⟩,
 ⟨some 48,none,.box,[.tmp 47 false]⟩,
 ⟨some 4,none,.move,[.tmp 48 false]⟩])
 (.ghost (.kill [47,48]) (.seq (.seq (.region [⟨some 5,none,.move,[.val (.int .i64 0)]⟩])
 (.block 4 (.loop (.ghost (.kill k_law13_AbortsNumbers_2) l_law13_AbortsNumbers_2))))
 (.ghost (.kill [5,49,50,51,52,53,54,55,56,57,58,59,60,61]) (.seq (.region [⟨some 62,none,.move,[.tmp 4 false]⟩,
 ⟨some 63,none,.call n_law13_plain_bytes false,[.tmp 62 false]⟩,
 ⟨some 6,none,.move,[.tmp 63 true]⟩])
 (.ghost (.kill [4,62,63]) (.seq (.seq (.region [⟨some 7,none,.move,[.val (.int .i64 0)]⟩])
 (.block 6 (.loop (.ghost (.kill k_law13_AbortsNumbers_3) l_law13_AbortsNumbers_3))))
 (.ghost (.kill [0,6,7,8,64,65,66,67,68,69,70,71,72,73,74,75,76,77,78,79,80,81,82,83,84,85,86,87,88,89,90,91,92,93,94]) (.seq (.region [⟨some 95,none,.call n_law13_rows false,[.val (.list 7 [] .full)]⟩,
 ⟨some 96,none,.move,[.tmp 95 false]⟩,
 ⟨some 97,(some (96,true)),.call n_law13_known false,[]⟩,
 ⟨some 98,none,.pick,[.tmp 96 false,.tmp 97 false,.val (.bool false)]⟩,
 ⟨some 0,none,.move,[.tmp 98 false]⟩])
 (.ghost (.kill [95,96,97,98]) (.ret)))))))))))))),[.tmp 0]⟩
def l_aborts_Of_0 : ACode := .seq (.region [⟨some 14,none,.bin .lss .plain,[.tmp 13 false,.tmp 12 false]⟩])
 (.seq (.cond (.tmp 14 false) (.skip)
 (.ghost (.kill [4,11,12,13,14]) (.exit 0)))
 (.ghost (.kill [14]) (.seq (.block 1 (.seq (.region [⟨some 15,none,.ixAddr 7,[.tmp 11 false,.tmp 13 false]⟩,
 ⟨some 16,none,.load true 7 false,[.tmp 15 false]⟩,
 ⟨some 6,none,.alloc [.int .i64 0,.int .i64 0,.int .i64 0,.int .i64 0,.bool false,.int .i64 0,.list 2 [] .full],[]⟩,
 ⟨none,none,.store 7,[.tmp 6 false,.tmp 16 false]⟩])
 (.ghost (.kill [15,16]) (.seq (.region [⟨some 18,none,.move,[.tmp 4 false]⟩,
 ⟨some 19,none,.load true 7 false,[.tmp 6 false]⟩,
 ⟨some 20,none,.call n_table_Table_Apply false,[.tmp 18 false,.tmp 19 false]⟩,
 ⟨some 17,none,.move,[.tmp 20 false]⟩,
 ⟨some 21,none,.move,[.proj 17 0 false]⟩,
 ⟨some 22,none,.move,[.proj 17 1 false]⟩,
 ⟨some 7,none,.alloc [.int .i64 0,.int .i64 0,.int .i64 0],[]⟩,
 ⟨none,none,.store 3,[.tmp 7 false,.tmp 21 false]⟩,
 ⟨some 8,none,.move,[.tmp 22 false]⟩])
 (.ghost (.kill [6,17,18,19,20,21,22]) (.seq (.region [⟨some 23,none,.move,[.tmp 8 false]⟩])
 (.ghost (.kill [8]) (.cond (.tmp 23 false) (.region [⟨some 24,none,.move,[.tmp 3 false]⟩,
 ⟨some 25,none,.load true 3 false,[.tmp 7 false]⟩,
 ⟨some 26,none,.call n_aborts_Row_Add false,[.tmp 24 false,.tmp 25 false]⟩])
 (.skip)))))))))
 (.ghost (.kill [7,23,24,25,26]) (.region [⟨some 27,none,.bin .add .plain,[.tmp 13 false,.val (.int .i64 1)]⟩,
 ⟨some 13,none,.move,[.tmp 27 false]⟩])))))
def k_aborts_Of_0 : List Nat := [6,7,8,14,15,16,17,18,19,20,21,22,23,24,25,26,27]
def c_aborts_Of : AFunc := ⟨29,true,.seq (.region [⟨some 2,none,.move,[.val .nilp]⟩])
 (.ghost (.kill [2]) (.seq (.region [⟨some 9,none,.call n_aborts_New false,[]⟩,
 ⟨some 10,none,.call n_table_New false,[]⟩,
 ⟨some 3,none,.move,[.tmp 9 false]⟩,
 ⟨some 4,none,.move,[.tmp 10 false]⟩])
 (.ghost (.kill [9,10]) (.seq (.seq (.region [⟨some 11,none,.move,[.tmp 0 true]⟩,
 ⟨some 12,none,.len false,[.tmp 11 false]⟩,
 ⟨some 13,none,.move,[.val (.int .i64 0)]⟩])
 (.ghost (.kill [0]) (.block 0 (.loop (.ghost (.kill k_aborts_Of_0) l_aborts_Of_0)))))
 (.ghost (.kill [4,6,7,8,11,12,13,14,15,16,17,18,19,20,21,22,23,24,25,26,27]) (.seq (.region [⟨some 28,none,.move,[.tmp 3 false]⟩,
 ⟨some 2,none,.move,[.tmp 28 false]⟩])
 (.ghost (.kill [3,28]) (.ret)))))))),[.tmp 2]⟩
def l_keep_Row_0 : ACode := .seq (.seq (.region [⟨some 17,none,.move,[.tmp 9 false]⟩,
 ⟨some 18,none,.move,[.tmp 2 false]⟩,
 ⟨some 19,none,.bin .mul .plain,[.val (.int .i64 4),.tmp 18 false]⟩,
 ⟨some 20,none,.bin .lss .plain,[.tmp 17 false,.tmp 19 false]⟩,
 ⟨some 21,none,.move,[.tmp 20 false]⟩,
 ⟨some 22,(some (21,true)),.move,[.tmp 8 false]⟩,
 ⟨some 23,(some (21,true)),.nilCheck,[.tmp 22 false]⟩,
 ⟨some 24,(some (21,true)),.addOff 2,[.tmp 23 false]⟩,
 ⟨some 25,(some (21,true)),.load false 1 false,[.tmp 24 false]⟩,
 ⟨some 26,(some (21,true)),.len false,[.tmp 25 true]⟩,
 ⟨some 27,(some (21,true)),.move,[.tmp 2 false]⟩,
 ⟨some 28,(some (21,true)),.bin .lss .plain,[.tmp 26 false,.tmp 27 false]⟩,
 ⟨some 29,none,.pick,[.tmp 21 false,.tmp 28 false,.val (.bool false)]⟩,
 ⟨some 30,none,.move,[.tmp 29 false]⟩,
 ⟨some 31,(some (30,true)),.move,[.tmp 7 false]⟩,
 ⟨some 32,(some (30,true)),.nilCheck,[.tmp 31 false]⟩,
 ⟨some 33,(some (30,true)),.addOff 1,[.tmp 32 false]⟩,
 ⟨some 34,(some (30,true)),.load false 1 false,[.tmp 33 false]⟩,
 ⟨some 35,(some (30,true)),.move,[.tmp 0 false]⟩,
 ⟨some 36,(some (30,true)),.len false,[.tmp 35 true]⟩,
 ⟨some 37,(some (30,true)),.bin .lss .plain,[.tmp 34 false,.tmp 36 false]⟩,
 ⟨some 38,none,.pick,[.tmp 30 false,.tmp 37 false,.val (.bool false)]⟩])
 (.ghost (.kill [17,18,19,20,21,22,23,24,25,26,27,28,29,30,31,32,33,34,35,36,37]) (.cond (.tmp 38 false) (.skip)
 (.ghost (.kill [0,2,7,9,38]) (.exit 0)))))
 (.ghost (.kill [38]) (.seq (.block 1 (.seq (.region [⟨some 41,none,.move,[.tmp 7 false]⟩,
 ⟨some 42,none,.move,[.tmp 8 false]⟩,
 ⟨some 43,none,.call n_keep_Tape_Ask false,[.tmp 41 false,.tmp 42 false]⟩,
 ⟨some 10,none,.alloc [.int .i64 0,.int .i64 0,.int .i64 0,.int .i64 0,.bool false,.int .i64 0,.list 2 [] .full],[]⟩,
 ⟨none,none,.store 7,[.tmp 10 false,.tmp 43 false]⟩])
 (.ghost (.kill [41,42,43]) (.seq (.region [⟨some 44,none,.addOff 5,[.tmp 10 false]⟩,
 ⟨some 45,none,.load false 1 false,[.tmp 44 false]⟩,
 ⟨some 46,none,.bin .neq .plain,[.tmp 45 false,.val (.int .i64 0)]⟩])
 (.ghost (.kill [44,45]) (.cond (.tmp 46 false) (.region [⟨some 47,none,.move,[.tmp 8 false]⟩,
 ⟨some 48,none,.addOff 1,[.tmp 10 false]⟩,
 ⟨some 49,none,.load false 1 false,[.tmp 48 false]⟩,
 ⟨some 50,none,.addOff 2,[.tmp 10 false]⟩,
 ⟨some 51,none,.load false 1 false,[.tmp 50 false]⟩,
 ⟨some 52,none,.addOff 5,[.tmp 10 false]⟩,
 ⟨some 53,none,.load false 1 false,[.tmp 52 false]⟩,
 ⟨some 54,none,.call n_ref14_Model_Mark false,[.tmp 47 false,.tmp 49 false,.tmp 51 false,.tmp 53 false]⟩])
 (.region [⟨some 55,none,.move,[.tmp 8 false]⟩,
 ⟨some 56,none,.load true 7 false,[.tmp 10 false]⟩,
 ⟨some 57,none,.call n_ref14_Model_Produce false,[.tmp 55 false,.tmp 56 false]⟩])))))))
 (.ghost (.kill [10,46,47,48,49,50,51,52,53,54,55,56,57]) (.region [⟨some 39,none,.move,[.tmp 9 false]⟩,
 ⟨some 40,none,.bin .add .plain,[.tmp 39 false,.val (.int .i64 1)]⟩,
 ⟨some 9,none,.move,[.tmp 40 false]⟩]))))
def k_keep_Row_0 : List Nat := [10,17,18,19,20,21,22,23,24,25,26,27,28,29,30,31,32,33,34,35,36,37,38,39,40,41,42,43,44,45,46,47,48,49,50,51,52,53,54,55,56,57]
def c_keep_Row : AFunc := ⟨62,false,.seq (.region [⟨some 6,none,.move,[.val (.list 7 [] .full)]⟩])
 (.ghost (.kill [6]) (.seq (.region [⟨some 11,none,.move,[.tmp 0 false]⟩,
 ⟨some 12,none,.build [.list 1 [] .full,.int .i64 0] [(0,1)],[.tmp 11 true]⟩,
 ⟨some 13,none,.box,[.tmp 12 false]⟩,
 ⟨some 7,none,.move,[.tmp 13 false]⟩])
 (.ghost (.kill [11,12,13]) (.seq (.region [⟨some 14,none,.move,[.tmp 1 false]⟩,
 ⟨some 15,none,.build [.int .i64 0,.int .i64 0,.list 7 [] .full] [(0,1),(1,1)],[.val (.int .i64 1073741824),.tmp 14 false]⟩,
 ⟨some 16,none,.box,[.tmp 15 false]⟩,
 ⟨some 8,none,.move,[.tmp 16 false]⟩])
 (.ghost (.kill [1,14,15,16]) (.seq (.seq (.region [⟨some 9,none,.move,[.val (.int .i64 0)]⟩])
 (.block 0 (.loop (.ghost (.kill k_keep_Row_0) l_keep_Row_0))))
 (.ghost (.kill [0,2,7,9,10,17,18,19,20,21,22,23,24,25,26,27,28,29,30,31,32,33,34,35,36,37,38,39,40,41,42,43,44,45,46,47,48,49,50,51,52,53,54,55,56,57]) (.seq (.region [⟨some 58,none,.move,[.tmp 8 false]⟩,
 ⟨some 59,none,.nilCheck,[.tmp 58 false]⟩,
 ⟨some 60,none,.addOff 2,[.tmp 59 false]⟩,
 ⟨some 61,none,.load false 1 false,[.tmp 60 false]⟩,
 ⟨some 6,none,.move,[.tmp 61 true]⟩])
 (.ghost (.kill [8,58,59,60,61]) (.ret)))))))))),[.tmp 6]⟩
def l_aborts_Row_Within_0 : ACode := .seq (.region [⟨some 16,none,.bin .lss .plain,[.tmp 15 false,.tmp 14 false]⟩])
 (.seq (.cond (.tmp 16 false) (.skip)
 (.ghost (.kill [1,2,13,14,15,16]) (.exit 0)))
 (.ghost (.kill [16]) (.seq (.block 1 (.seq (.region [⟨some 17,none,.ixAddr 3,[.tmp 13 false,.tmp 15 false]⟩,
 ⟨some 18,none,.load true 3 false,[.tmp 17 false]⟩,
 ⟨some 9,none,.alloc [.int .i64 0,.int .i64 0,.int .i64 0],[]⟩,
 ⟨none,none,.store 3,[.tmp 9 false,.tmp 18 false]⟩])
 (.ghost (.kill [17,18]) (.seq (.region [⟨some 19,none,.addOff 1,[.tmp 9 false]⟩,
 ⟨some 20,none,.load false 1 false,[.tmp 19 false]⟩,
 ⟨some 21,none,.move,[.tmp 1 false]⟩,
 ⟨some 22,none,.mm true,[.tmp 20 false,.tmp 21 false]⟩,
 ⟨some 23,none,.addOff 2,[.tmp 9 false]⟩,
 ⟨some 24,none,.load false 1 false,[.tmp 23 false]⟩,
 ⟨some 25,none,.bin .leq .plain,[.tmp 22 false,.tmp 24 false]⟩,
 ⟨some 26,none,.move,[.tmp 25 false]⟩,
 ⟨some 27,(some (26,true)),.addOff 1,[.tmp 9 false]⟩,
 ⟨some 28,(some (26,true)),.load false 1 false,[.tmp 27 false]⟩,
 ⟨some 29,(some (26,true)),.move,[.tmp 1 false]⟩,
 ⟨some 30,(some (26,true)),.mm true,[.tmp 28 false,.tmp 29 false]⟩,
 ⟨some 31,(some (26,true)),.move,[.tmp 2 false]⟩,
 ⟨some 32,(some (26,true)),.bin .lss .plain,[.tmp 30 false,.tmp 31 false]⟩,
 ⟨some 33,none,.pick,[.tmp 26 false,.tmp 32 false,.val (.bool false)]⟩])
 (.ghost (.kill [19,20,21,22,23,24,25,26,27,28,29,30,31,32]) (.cond (.tmp 33 false) (.region [⟨some 34,none,.move,[.tmp 7 true]⟩,
 ⟨some 35,none,.load true 3 false,[.tmp 9 false]⟩,
 ⟨some 36,none,.buildSlice 3 (.agg [.int .i64 0,.int .i64 0,.int .i64 0]) 1 [0],[.tmp 35 false]⟩,
 ⟨some 37,none,.append 3 24 false,[.tmp 34 true,.tmp 36 true]⟩,
 ⟨some 7,none,.move,[.tmp 37 true]⟩])
 (.skip)))))))
 (.ghost (.kill [9,33,34,35,36,37]) (.region [⟨some 38,none,.bin .add .plain,[.tmp 15 false,.val (.int .i64 1)]⟩,
 ⟨some 15,none,.move,[.tmp 38 false]⟩])))))
def k_aborts_Row_Within_0 : List Nat := [9,16,17,18,19,20,21,22,23,24,25,26,27,28,29,30,31,32,33,34,35,36,37,38]
def c_aborts_Row_Within : AFunc := ⟨40,false,.ghost (.thawC 0 0) (.seq (.region [⟨some 6,none,.move,[.val (.list 3 [] .full)]⟩])
 (.ghost (.kill [6]) (.seq (.region [⟨some 7,none,.move,[.val (.list 3 [] .full)]⟩])
 (.seq (.seq (.region [⟨some 10,none,.move,[.tmp 0 false]⟩,
 ⟨some 11,none,.nilCheck,[.tmp 10 false]⟩,
 ⟨some 12,none,.addOff 0,[.tmp 11 false]⟩,
 ⟨some 13,none,.load false 1 false,[.tmp 12 false]⟩,
 ⟨some 14,none,.len false,[.tmp 13 false]⟩,
 ⟨some 15,none,.move,[.val (.int .i64 0)]⟩])
 (.ghost (.kill [10,11,12]) (.block 0 (.loop (.ghost (.kill k_aborts_Row_Within_0) l_aborts_Row_Within_0)))))
 (.ghost (.kill [1,2,9,13,14,15,16,17,18,19,20,21,22,23,24,25,26,27,28,29,30,31,32,33,34,35,36,37,38]) (.ghost (.backC 0 0) (.seq (.region [⟨some 39,none,.move,[.tmp 7 true]⟩,
 ⟨some 6,none,.move,[.tmp 39 true]⟩])
 (.ghost (.kill [7,39]) (.ret))))))))),[.tmp 6]⟩
def l_ref10_Dropped_0 : ACode := .seq (.region [⟨some 14,none,.bin .lss .plain,[.tmp 13 false,.tmp 12 false]⟩])
 (.seq (.cond (.tmp 14 false) (.skip)
 (.ghost (.kill [0,1,12,13,14]) (.exit 0)))
 (.ghost (.kill [14]) (.seq (.block 1 (.seq (.region [⟨some 15,none,.move,[.tmp 13 false]⟩,
 ⟨some 5,none,.move,[.tmp 15 false]⟩])
 (.ghost (.kill [15]) (.seq (.draw [(⟨some 16,none,.move,[.tmp 0 false]⟩,⟨false,[]⟩),
 (⟨some 17,none,.move,[.tmp 5 false]⟩,⟨false,[]⟩),
 (⟨some 18,none,.ixAddr 3,[.tmp 16 true,.tmp 17 false]⟩,⟨false,[]⟩),
 (⟨some 19,none,.load true 3 false,[.tmp 18 false]⟩,⟨false,[]⟩),
 (⟨some 20,none,.move,[.tmp 1 false]⟩,⟨false,[]⟩),
 (⟨some 21,none,.move,[.tmp 5 false]⟩,⟨false,[]⟩),
 (⟨some 22,none,.ixAddr 3,[.tmp 20 true,.tmp 21 false]⟩,⟨false,[]⟩),
 (⟨some 23,none,.load true 3 false,[.tmp 22 false]⟩,⟨false,[]⟩),
 (⟨some 24,none,.bin .neq (.agg [.int .i64,.int .i64,.int .i64]),[.tmp 19 false,.tmp 23 false]⟩,⟨false,[]⟩)])
 (.ghost (.kill [5,16,17,18,19,20,21,22,23]) (.cond (.tmp 24 false) (.seq (.region [⟨some 4,none,.move,[.val (.bool false)]⟩])
 (.ghost (.kill [0,1,12,13,24]) (.ret)))
 (.skip)))))))
 (.ghost (.kill [24]) (.region [⟨some 25,none,.bin .add .plain,[.tmp 13 false,.val (.int .i64 1)]⟩,
 ⟨some 13,none,.move,[.tmp 25 false]⟩])))))
def k_ref10_Dropped_0 : List Nat := [4,5,14,15,16,17,18,19,20,21,22,23,24,25]
def c_ref10_Dropped : AFunc := ⟨26,false,.seq (.region [⟨some 4,none,.move,[.val (.bool false)]⟩])
 (.ghost (.kill [4]) (.seq (.seq (.region [⟨some 6,none,.move,[.tmp 0 false]⟩,
 ⟨some 7,none,.len false,[.tmp 6 true]⟩,
 ⟨some 8,none,.move,[.tmp 1 false]⟩,
 ⟨some 9,none,.len false,[.tmp 8 true]⟩,
 ⟨some 10,none,.bin .neq .plain,[.tmp 7 false,.tmp 9 false]⟩])
 (.ghost (.kill [6,7,8,9]) (.cond (.tmp 10 false) (.seq (.region [⟨some 4,none,.move,[.val (.bool false)]⟩])
 (.ghost (.kill [0,1,10]) (.ret)))
 (.skip))))
 (.ghost (.kill [10]) (.seq (.seq (.region [⟨some 11,none,.move,[.tmp 0 false]⟩,
 ⟨some 12,none,.len false,[.tmp 11 true]⟩,
 ⟨some 13,none,.move,[.val (.int .i64 0)]⟩])
 (.ghost (.kill [11]) (.block 0 (.loop (.ghost (.kill k_ref10_Dropped_0) l_ref10_Dropped_0)))))
 (.ghost (.kill [0,1,4,5,12,13,14,15,16,17,18,19,20,21,22,23,24,25]) (.seq (.region [⟨some 4,none,.move,[.val (.bool true)]⟩])
 (.ret))))))),[.tmp 4]⟩
def c_aborts_Row_All : AFunc := ⟨8,false,.ghost (.thawC 0 0) (.seq (.region [⟨some 2,none,.move,[.val (.list 3 [] .full)]⟩])
 (.ghost (.kill [2]) (.seq (.region [⟨some 3,none,.move,[.tmp 0 false]⟩,
 ⟨some 4,none,.nilCheck,[.tmp 3 false]⟩,
 ⟨some 5,none,.addOff 0,[.tmp 4 false]⟩,
 ⟨some 6,none,.load false 1 false,[.tmp 5 false]⟩,
 ⟨some 7,none,.call n_slices_Clone_api_Dropped_api_Dropped_ false,[.tmp 6 true]⟩,
 ⟨some 2,none,.move,[.tmp 7 true]⟩])
 (.ghost (.backC 0 0) (.ghost (.kill [0,3,4,5,6,7]) (.ret)))))),[.tmp 2]⟩
def c_book_Within : AFunc := ⟨33,false,.seq (.region [⟨some 6,none,.move,[.val (.int .i64 0)]⟩])
 (.ghost (.kill [6]) (.seq (.seq (.region [⟨some 7,none,.move,[.tmp 0 false]⟩,
 ⟨some 8,none,.move,[.tmp 1 false]⟩,
 ⟨some 9,none,.bin .geq .plain,[.tmp 7 false,.tmp 8 false]⟩,
 ⟨some 10,none,.move,[.tmp 9 false]⟩,
 ⟨some 11,(some (10,true)),.move,[.tmp 0 false]⟩,
 ⟨some 12,(some (10,true)),.move,[.tmp 2 false]⟩,
 ⟨some 13,(some (10,true)),.bin .leq .plain,[.tmp 11 false,.tmp 12 false]⟩,
 ⟨some 14,none,.pick,[.tmp 10 false,.tmp 13 false,.val (.bool false)]⟩])
 (.ghost (.kill [7,8,9,10,11,12,13]) (.cond (.tmp 14 false) (.seq (.region [⟨some 15,none,.move,[.tmp 0 false]⟩,
 ⟨some 6,none,.move,[.tmp 15 false]⟩])
 (.ghost (.kill [0,1,2,14,15]) (.ret)))
 (.skip))))
 (.ghost (.kill [14]) (.seq (.region [⟨some 16,none,.move,[.tmp 0 false]⟩,
 ⟨some 17,none,.move,[.tmp 2 false]⟩,
 ⟨some 18,none,.move,[.tmp 1 false]⟩,
 ⟨some 19,none,.bin .sub .plain,[.tmp 17 false,.tmp 18 false]⟩,
 ⟨some 20,none,.bin .add .plain,[.tmp 19 false,.val (.int .i64 1)]⟩,
 ⟨some 21,none,.bin .rem .plain,[.tmp 16 false,.tmp 20 false]⟩,
 ⟨some 0,none,.move,[.tmp 21 false]⟩])
 (.ghost (.kill [16,17,18,19,20,21]) (.seq (.seq (.region [⟨some 22,none,.move,[.tmp 0 false]⟩,
 ⟨some 23,none,.bin .lss .plain,[.tmp 22 false,.val (.int .i64 0)]⟩])
 (.ghost (.kill [22]) (.cond (.tmp 23 false) (.region [⟨some 24,none,.move,[.tmp 0 false]⟩,
 ⟨some 25,none,.move,[.tmp 2 false]⟩,
 ⟨some 26,none,.bin .add .plain,[.tmp 24 false,.tmp 25 false]⟩,
 ⟨some 27,none,.move,[.tmp 1 false]⟩,
 ⟨some 28,none,.bin .sub .plain,[.tmp 26 false,.tmp 27 false]⟩,
 ⟨some 29,none,.bin .add .plain,[.tmp 28 false,.val (.int .i64 1)]⟩,
 ⟨some 0,none,.move,[.tmp 29 false]⟩])
 (.skip))))
 (.ghost (.kill [2,23,24,25,26,27,28,29]) (.seq (.region [⟨some 30,none,.move,[.tmp 1 false]⟩,
 ⟨some 31,none,.move,[.tmp 0 false]⟩,
 ⟨some 32,none,.bin .add .plain,[.tmp 30 false,.tmp 31 false]⟩,
 ⟨some 6,none,.move,[.tmp 32 false]⟩])
 (.ghost (.kill [0,1,30,31,32]) (.ret)))))))))),[.tmp 6]⟩
def c_law13_known : AFunc := ⟨95,false,.seq (.region [⟨some 0,none,.move,[.val (.bool false)]⟩])
 (.ghost (.kill [0]) (.seq (.region [⟨some 12,none,.call n_aborts_New false,[]⟩,
 ⟨some 1,none,.move,[.tmp 12 false]⟩])
 (.ghost (.kill [12]) (.seq (.seq (.region [⟨some 13,none,.move,[.tmp 1 false]⟩,
 ⟨some 14,none,.bin .eql .ptr,[.tmp 13 false,.val .nilp]⟩])
 (.ghost (.kill [13]) (.cond (.tmp 14 false) (.seq (.region [⟨some 0,none,.move,[.val (.bool false)]⟩])
 (.ghost (.kill [1,14]) (.ret)))
 (.skip))))
 (.ghost (.kill [14]) (.seq (.region [⟨some 15,none,.move,[.tmp 1 false]⟩,
 ⟨some 16,none,.build [.int .i64 0,.int .i64 0,.int .i64 0] [(0,1),(1,1),(2,1)],[.val (.int .i64 1),.val (.int .i64 2),.val (.int .i64 5)]⟩,
 ⟨some 17,none,.call n_aborts_Row_Add false,[.tmp 15 false,.tmp 16 false]⟩,
 ⟨some 2,none,.move,[.tmp 17 false]⟩])
 (.ghost (.kill [15,16,17]) (.seq (.region [⟨some 18,none,.move,[.tmp 1 false]⟩,
 ⟨some 19,none,.build [.int .i64 0,.int .i64 0,.int .i64 0] [(0,1),(1,1),(2,1)],[.val (.int .i64 1),.val (.int .i64 6),.val (.int .i64 5)]⟩,
 ⟨some 20,none,.call n_aborts_Row_Add false,[.tmp 18 false,.tmp 19 false]⟩,
 ⟨some 3,none,.move,[.tmp 20 false]⟩])
 (.ghost (.kill [18,19,20]) (.seq (.region [⟨some 21,none,.move,[.tmp 1 false]⟩,
 ⟨some 22,none,.build [.int .i64 0,.int .i64 0,.int .i64 0] [(0,1),(1,1),(2,1)],[.val (.int .i64 2),.val (.int .i64 1),.val (.int .i64 9)]⟩,
 ⟨some 23,none,.call n_aborts_Row_Add false,[.tmp 21 false,.tmp 22 false]⟩,
 ⟨some 4,none,.move,[.tmp 23 false]⟩])
 (.ghost (.kill [21,22,23]) (.seq (.region [⟨some 24,none,.move,[.tmp 1 false]⟩,
 ⟨some 25,none,.call n_aborts_Row_Within false,[.tmp 24 false,.val (.int .i64 5),.val (.int .i64 6)]⟩,
 ⟨some 26,none,.move,[.tmp 1 false]⟩,
 ⟨some 27,none,.call n_aborts_Row_Within false,[.tmp 26 false,.val (.int .i64 5),.val (.int .i64 5)]⟩,
 ⟨some 5,none,.move,[.tmp 25 true]⟩,
 ⟨some 6,none,.move,[.tmp 27 true]⟩])
 (.ghost (.kill [24,25,26,27]) (.seq (.region [⟨some 29,none,.move,[.tmp 1 false]⟩,
 ⟨some 30,none,.call n_aborts_Row_Bytes false,[.tmp 29 false]⟩,
 ⟨some 31,none,.call n_aborts_Read false,[.tmp 30 true]⟩,
 ⟨some 28,none,.move,[.tmp 31 false]⟩,
 ⟨some 32,none,.move,[.proj 28 0 false]⟩,
 ⟨some 33,none,.move,[.proj 28 1 false]⟩,
 ⟨some 7,none,.move,[.tmp 32 false]⟩,
 ⟨some 8,none,.move,[.tmp 33 false]⟩])
 (.ghost (.kill [28,29,30,31,32,33]) (.seq (.region [⟨some 35,none,.call n_aborts_Read false,[.val (.list 1 [] .full)]⟩,
 ⟨some 34,none,.move,[.tmp 35 false]⟩,
 ⟨some 36,none,.move,[.proj 34 0 false]⟩,
 ⟨some 37,none,.move,[.proj 34 1 false]⟩,
 ⟨some 9,none,.move,[.tmp 36 false]⟩,
 ⟨some 10,none,.move,[.tmp 37 false]⟩])
 (.ghost (.kill [9,34,35,36,37]) (.seq (.region [⟨some 38,none,.move,[.tmp 1 false]⟩,
 ⟨some 39,none,.call n_aborts_Row_All false,[.tmp 38 false]⟩,
 ⟨some 40,none,.len false,[.tmp 39 true]⟩,
 ⟨some 11,none,.move,[.tmp 40 false]⟩])
 (.ghost (.kill [38,39,40]) (.seq (.region [⟨some 41,none,.move,[.tmp 1 false]⟩,
 ⟨some 42,none,.call n_aborts_Row_Cut false,[.tmp 41 false,.val (.int .i64 9)]⟩])
 (.ghost (.kill [41,42]) (.seq (.region [⟨some 43,none,.move,[.tmp 2 false]⟩,
 ⟨some 44,none,.move,[.tmp 43 false]⟩,
 ⟨some 45,(some (44,true)),.move,[.tmp 3 false]⟩,
 ⟨some 46,(some (44,true)),.un .not,[.tmp 45 false]⟩,
 ⟨some 47,none,.pick,[.tmp 44 false,.tmp 46 false,.val (.bool false)]⟩,
 ⟨some 48,none,.move,[.tmp 47 false]⟩,
 ⟨some 49,(some (48,true)),.move,[.tmp 4 false]⟩,
 ⟨some 50,none,.pick,[.tmp 48 false,.tmp 49 false,.val (.bool false)]⟩,
 ⟨some 51,none,.move,[.tmp 50 false]⟩,
 ⟨some 52,(some (51,true)),.move,[.tmp 5 true]⟩,
 ⟨some 53,(some (51,true)),.len false,[.tmp 52 true]⟩,
 ⟨some 54,(some (51,true)),.bin .eql .plain,[.tmp 53 false,.val (.int .i64 2)]⟩,
 ⟨some 55,none,.pick,[.tmp 51 false,.tmp 54 false,.val (.bool false)]⟩,
 ⟨some 56,none,.move,[.tmp 55 false]⟩,
 ⟨some 57,(some (56,true)),.move,[.tmp 6 true]⟩,
 ⟨some 58,(some (56,true)),.len false,[.tmp 57 true]⟩,
 ⟨some 59,(some (56,true)),.bin .eql .plain,[.tmp 58 false,.val (.int .i64 0)]⟩,
 ⟨some 60,none,.pick,[.tmp 56 false,.tmp 59 false,.val (.bool false)]⟩,
 ⟨some 61,none,.move,[.tmp 60 false]⟩,
 ⟨some 62,(some (61,true)),.move,[.tmp 8 false]⟩,
 ⟨some 63,(some (61,true)),.bin .eql .plain,[.tmp 62 false,.val (.int .i64 0)]⟩,
 ⟨some 64,none,.pick,[.tmp 61 false,.tmp 63 false,.val (.bool false)]⟩,
 ⟨some 65,none,.move,[.tmp 64 false]⟩,
 ⟨some 66,(some (65,true)),.move,[.tmp 7 false]⟩,
 ⟨some 67,(some (65,true)),.bin .neq .ptr,[.tmp 66 false,.val .nilp]⟩,
 ⟨some 68,none,.pick,[.tmp 65 false,.tmp 67 false,.val (.bool false)]⟩,
 ⟨some 69,none,.move,[.tmp 68 false]⟩,
 ⟨some 70,(some (69,true)),.move,[.tmp 7 false]⟩,
 ⟨some 71,(some (69,true)),.call n_aborts_Row_All false,[.tmp 70 false]⟩,
 ⟨some 72,(some (69,true)),.len false,[.tmp 71 true]⟩,
 ⟨some 73,(some (69,true)),.bin .eql .plain,[.tmp 72 false,.val (.int .i64 2)]⟩,
 ⟨some 74,none,.pick,[.tmp 69 false,.tmp 73 false,.val (.bool false)]⟩,
 ⟨some 75,none,.move,[.tmp 74 false]⟩,
 ⟨some 76,(some (75,true)),.move,[.tmp 10 false]⟩,
 ⟨some 77,(some (75,true)),.bin .eql .plain,[.tmp 76 false,.val (.int .i64 12)]⟩,
 ⟨some 78,none,.pick,[.tmp 75 false,.tmp 77 false,.val (.bool false)]⟩,
 ⟨some 79,none,.move,[.tmp 78 false]⟩,
 ⟨some 80,(some (79,true)),.move,[.tmp 11 false]⟩,
 ⟨some 81,(some (79,true)),.bin .eql .plain,[.tmp 80 false,.val (.int .i64 2)]⟩,
 ⟨some 82,none,.pick,[.tmp 79 false,.tmp 81 false,.val (.bool false)]⟩,
 ⟨some 83,none,.move,[.tmp 82 false]⟩,
 ⟨some 84,(some (83,true)),.move,[.tmp 1 false]⟩,
 ⟨some 85,(some (83,true)),.call n_aborts_Row_All false,[.tmp 84 false]⟩,
 ⟨some 86,(some (83,true)),.len false,[.tmp 85 true]⟩,
 ⟨some 87,(some (83,true)),.bin .eql .plain,[.tmp 86 false,.val (.int .i64 1)]⟩,
 ⟨some 88,none,.pick,[.tmp 83 false,.tmp 87 false,.val (.bool false)]⟩,
 ⟨some 89,none,.move,[.tmp 88 false]⟩,
 ⟨some 90,(some (89,true)),.call n_aborts_Of false,[.val (.list 7 [] .full)]⟩,
 ⟨some 91,(some (89,true)),.call n_aborts_Row_All false,[.tmp 90 false]⟩,
 ⟨some 92,(some (89,true)),.len false,[.tmp 91 true]⟩,
 ⟨some 93,(some (89,true)),.bin .eql .plain,[.tmp 92 false,.val (.int .i64 0)]⟩,
 ⟨some 94,none,.pick,[.tmp 89 false,.tmp 93 false,.val (.bool false)]⟩,
 ⟨some 0,none,.move,[.tmp 94 false]⟩])
 (.ghost (.kill [1,2,3,4,5,6,7,8,10,11,43,44,45,46,47,48,49,50,51,52,53,54,55,56,57,58,59,60,61,62,63,64,65,66,67,68,69,70,71,72,73,74,75,76,77,78,79,80,81,82,83,84,85,86,87,88,89,90,91,92,93,94]) (.ret)))))))))))))))))))))))),[.tmp 0]⟩
def l_aborts_Read_0 : ACode := .seq (.region [⟨some 22,none,.bin .lss .plain,[.tmp 21 false,.tmp 20 false]⟩])
 (.seq (.cond (.tmp 22 false) (.skip)
 (.ghost (.kill [20,21,22]) (.exit 0)))
 (.ghost (.kill [22]) (.seq (.block 1 (.seq (.region [⟨some 23,none,.move,[.tmp 6 false]⟩,
 ⟨some 24,none,.call n_varint_Reader_Num false,[.tmp 23 false]⟩,
 ⟨some 25,none,.move,[.tmp 6 false]⟩,
 ⟨some 26,none,.call n_varint_Reader_Num false,[.tmp 25 false]⟩,
 ⟨some 27,none,.move,[.tmp 6 false]⟩,
 ⟨some 28,none,.call n_varint_Reader_Num false,[.tmp 27 false]⟩,
 ⟨some 29,none,.build [.int .i64 0,.int .i64 0,.int .i64 0] [(0,1),(1,1),(2,1)],[.tmp 24 false,.tmp 26 false,.tmp 28 false]⟩,
 ⟨some 8,none,.alloc [.int .i64 0,.int .i64 0,.int .i64 0],[]⟩,
 ⟨none,none,.store 3,[.tmp 8 false,.tmp 29 false]⟩])
 (.ghost (.kill [23,24,25,26,27,28,29]) (.seq (.region [⟨some 30,none,.move,[.tmp 6 false]⟩,
 ⟨some 31,none,.call n_varint_Reader_Bad false,[.tmp 30 false]⟩,
 ⟨some 32,none,.move,[.tmp 31 false]⟩,
 ⟨some 33,(some (32,false)),.move,[.tmp 7 false]⟩,
 ⟨some 34,(some (32,false)),.load true 3 false,[.tmp 8 false]⟩,
 ⟨some 35,(some (32,false)),.call n_aborts_Row_Add false,[.tmp 33 false,.tmp 34 false]⟩,
 ⟨some 36,(some (32,false)),.un .not,[.tmp 35 false]⟩,
 ⟨some 37,none,.pick,[.tmp 32 false,.val (.bool true),.tmp 36 false]⟩])
 (.ghost (.kill [8,30,31,32,33,34,35,36]) (.cond (.tmp 37 false) (.seq (.region [⟨some 2,none,.move,[.val .nilp]⟩,
 ⟨some 3,none,.move,[.val (.int .i64 12)]⟩])
 (.ghost (.kill [5,6,7,20,21,37]) (.ret)))
 (.skip)))))))
 (.ghost (.kill [37]) (.region [⟨some 38,none,.bin .add .plain,[.tmp 21 false,.val (.int .i64 1)]⟩,
 ⟨some 21,none,.move,[.tmp 38 false]⟩])))))
def k_aborts_Read_0 : List Nat := [2,3,8,22,23,24,25,26,27,28,29,30,31,32,33,34,35,36,37,38]
def c_aborts_Read : AFunc := ⟨47,true,.seq (.region [⟨some 2,none,.move,[.val .nilp]⟩,
 ⟨some 3,none,.move,[.val (.int .i64 0)]⟩])
 (.ghost (.kill [2,3]) (.seq (.region [⟨some 10,none,.move,[.tmp 0 false]⟩,
 ⟨some 11,none,.call n_crc_Check false,[.tmp 10 true]⟩,
 ⟨some 9,none,.move,[.tmp 11 true]⟩,
 ⟨some 12,none,.move,[.proj 9 0 true]⟩,
 ⟨some 13,none,.move,[.proj 9 1 false]⟩,
 ⟨some 4,none,.move,[.tmp 12 true]⟩,
 ⟨some 5,none,.move,[.tmp 13 false]⟩])
 (.ghost (.kill [9,10,11,12,13]) (.seq (.region [⟨some 14,none,.move,[.tmp 4 true]⟩,
 ⟨some 15,none,.call n_varint_Read false,[.tmp 14 true]⟩,
 ⟨some 6,none,.move,[.tmp 15 false]⟩])
 (.ghost (.kill [4,14,15]) (.seq (.region [⟨some 16,none,.call n_aborts_New false,[]⟩,
 ⟨some 7,none,.move,[.tmp 16 false]⟩])
 (.ghost (.kill [16]) (.seq (.seq (.region [⟨some 17,none,.move,[.tmp 6 false]⟩,
 ⟨some 18,none,.move,[.tmp 0 true]⟩,
 ⟨some 19,none,.len false,[.tmp 18 true]⟩,
 ⟨some 20,none,.call n_varint_Reader_Count false,[.tmp 17 false,.tmp 19 false]⟩,
 ⟨some 21,none,.move,[.val (.int .i64 0)]⟩])
 (.ghost (.kill [0,17,18,19]) (.block 0 (.loop (.ghost (.kill k_aborts_Read_0) l_aborts_Read_0)))))
 (.ghost (.kill [2,3,8,20,21,22,23,24,25,26,27,28,29,30,31,32,33,34,35,36,37,38]) (.seq (.seq (.region [⟨some 39,none,.move,[.tmp 5 false]⟩,
 ⟨some 40,none,.un .not,[.tmp 39 false]⟩,
 ⟨some 41,none,.move,[.tmp 40 false]⟩,
 ⟨some 42,(some (41,false)),.move,[.tmp 6 false]⟩,
 ⟨some 43,(some (41,false)),.call n_varint_Reader_Done false,[.tmp 42 false]⟩,
 ⟨some 44,(some (41,false)),.un .not,[.tmp 43 false]⟩,
 ⟨some 45,none,.pick,[.tmp 41 false,.val (.bool true),.tmp 44 false]⟩])
 (.ghost (.kill [5,6,39,40,41,42,43,44]) (.cond (.tmp 45 false) (.seq (.region [⟨some 2,none,.move,[.val .nilp]⟩,
 ⟨some 3,none,.move,[.val (.int .i64 12)]⟩])
 (.ghost (.kill [7,45]) (.ret)))
 (.skip))))
 (.ghost (.kill [45]) (.seq (.region [⟨some 46,none,.move,[.tmp 7 false]⟩,
 ⟨some 2,none,.move,[.tmp 46 false]⟩,
 ⟨some 3,none,.move,[.val (.int .i64 0)]⟩])
 (.ghost (.kill [7,46]) (.ret)))))))))))))),[.tmp 2,.tmp 3]⟩
def l_aborts_Row_Bytes_0 : ACode := .seq (.region [⟨some 18,none,.bin .lss .plain,[.tmp 17 false,.tmp 16 false]⟩])
 (.seq (.cond (.tmp 18 false) (.skip)
 (.ghost (.kill [15,16,17,18]) (.exit 0)))
 (.ghost (.kill [18]) (.seq (.block 1 (.seq (.region [⟨some 19,none,.ixAddr 3,[.tmp 15 false,.tmp 17 false]⟩,
 ⟨some 20,none,.load true 3 false,[.tmp 19 false]⟩,
 ⟨some 5,none,.alloc [.int .i64 0,.int .i64 0,.int .i64 0],[]⟩,
 ⟨none,none,.store 3,[.tmp 5 false,.tmp 20 false]⟩])
 (.ghost (.kill [19,20]) (.draw [(⟨some 21,none,.move,[.tmp 3 true]⟩,⟨false,[]⟩),
 (⟨some 22,none,.addOff 0,[.tmp 5 false]⟩,⟨false,[]⟩),
 (⟨some 23,none,.load false 1 false,[.tmp 22 false]⟩,⟨false,[]⟩),
 (⟨some 24,none,.call n_varint_Put false,[.tmp 21 true,.tmp 23 false]⟩,⟨true,[]⟩),
 (⟨some 25,none,.addOff 1,[.tmp 5 false]⟩,⟨false,[3]⟩),
 (⟨some 26,none,.load false 1 false,[.tmp 25 false]⟩,⟨false,[3]⟩),
 (⟨some 27,none,.call n_varint_Put false,[.tmp 24 true,.tmp 26 false]⟩,⟨true,[]⟩),
 (⟨some 28,none,.addOff 2,[.tmp 5 false]⟩,⟨false,[3,6]⟩),
 (⟨some 29,none,.load false 1 false,[.tmp 28 false]⟩,⟨false,[3,6]⟩),
 (⟨some 30,none,.call n_varint_Put false,[.tmp 27 true,.tmp 29 false]⟩,⟨true,[]⟩),
 (⟨some 3,none,.move,[.tmp 30 true]⟩,⟨false,[]⟩)]))))
 (.ghost (.kill [5,21,22,23,24,25,26,27,28,29,30]) (.region [⟨some 31,none,.bin .add .plain,[.tmp 17 false,.val (.int .i64 1)]⟩,
 ⟨some 17,none,.move,[.tmp 31 false]⟩])))))
def k_aborts_Row_Bytes_0 : List Nat := [5,18,19,20,21,22,23,24,25,26,27,28,29,30,31]
def c_aborts_Row_Bytes : AFunc := ⟨34,false,.ghost (.thawC 0 0) (.seq (.region [⟨some 2,none,.move,[.val (.list 1 [] .full)]⟩])
 (.ghost (.kill [2]) (.seq (.region [⟨some 6,none,.move,[.tmp 0 false]⟩,
 ⟨some 7,none,.nilCheck,[.tmp 6 false]⟩,
 ⟨some 8,none,.addOff 0,[.tmp 7 false]⟩,
 ⟨some 9,none,.load false 1 false,[.tmp 8 false]⟩,
 ⟨some 10,none,.len false,[.tmp 9 true]⟩,
 ⟨some 11,none,.call n_varint_Put false,[.val (.list 1 [] .full),.tmp 10 false]⟩,
 ⟨some 3,none,.move,[.tmp 11 true]⟩])
 (.ghost (.kill [6,7,8,9,10,11]) (.seq (.seq (.region [⟨some 12,none,.move,[.tmp 0 false]⟩,
 ⟨some 13,none,.nilCheck,[.tmp 12 false]⟩,
 ⟨some 14,none,.addOff 0,[.tmp 13 false]⟩,
 ⟨some 15,none,.load false 1 false,[.tmp 14 false]⟩,
 ⟨some 16,none,.len false,[.tmp 15 false]⟩,
 ⟨some 17,none,.move,[.val (.int .i64 0)]⟩])
 (.ghost (.kill [12,13,14]) (.block 0 (.loop (.ghost (.kill k_aborts_Row_Bytes_0) l_aborts_Row_Bytes_0)))))
 (.ghost (.kill [5,15,16,17,18,19,20,21,22,23,24,25,26,27,28,29,30,31]) (.ghost (.backC 0 0) (.seq (.region [⟨some 32,none,.move,[.tmp 3 true]⟩,
 ⟨some 33,none,.call n_crc_Put false,[.tmp 32 true]⟩,
 ⟨some 2,none,.move,[.tmp 33 true]⟩])
 (.ghost (.kill [3,32,33]) (.ret)))))))))),[.tmp 2]⟩
def c_aborts_Row_Cut : AFunc := ⟨13,false,.seq (.region [⟨some 3,none,.box,[.tmp 1 false]⟩])
 (.ghost (.kill [1]) (.region [⟨some 4,none,.move,[.tmp 0 false]⟩,
 ⟨some 5,none,.move,[.tmp 0 false]⟩,
 ⟨some 6,none,.nilCheck,[.tmp 5 false]⟩,
 ⟨some 7,none,.addOff 0,[.tmp 6 false]⟩,
 ⟨some 8,none,.load false 1 true,[.tmp 7 false]⟩,
 ⟨some 9,none,.mkfn n_aborts_Row_Cut_1 0,[.tmp 3 false]⟩,
 ⟨some 10,none,.call n_slices_DeleteFunc_api_Dropped_api_Dropped_ true,[.tmp 8 true,.tmp 9 false]⟩,
 ⟨some 11,none,.nilCheck,[.tmp 4 false]⟩,
 ⟨some 12,none,.addOff 0,[.tmp 11 false]⟩,
 ⟨none,none,.store 1,[.tmp 12 false,.tmp 10 true]⟩])),[]⟩
def c_law13_rows : AFunc := ⟨21,false,.seq (.region [⟨some 2,none,.move,[.val (.bool false)]⟩])
 (.ghost (.kill [2]) (.seq (.region [⟨some 7,none,.move,[.tmp 0 false]⟩,
 ⟨some 8,none,.call n_ref10_Fold false,[.tmp 7 true]⟩,
 ⟨some 6,none,.move,[.tmp 8 true]⟩,
 ⟨some 9,none,.move,[.proj 6 0 false]⟩,
 ⟨some 10,none,.move,[.proj 6 1 true]⟩,
 ⟨some 3,none,.move,[.tmp 9 false]⟩,
 ⟨some 4,none,.move,[.tmp 10 true]⟩])
 (.ghost (.kill [3,6,7,8,9,10]) (.seq (.region [⟨some 11,none,.move,[.tmp 0 true]⟩,
 ⟨some 12,none,.call n_aborts_Of false,[.tmp 11 true]⟩,
 ⟨some 5,none,.move,[.tmp 12 false]⟩])
 (.ghost (.kill [0,11,12]) (.seq (.region [⟨some 13,none,.move,[.tmp 5 false]⟩,
 ⟨some 14,none,.bin .neq .ptr,[.tmp 13 false,.val .nilp]⟩,
 ⟨some 15,none,.move,[.tmp 14 false]⟩,
 ⟨some 16,(some (15,true)),.move,[.tmp 5 false]⟩,
 ⟨some 17,(some (15,true)),.call n_aborts_Row_All false,[.tmp 16 false]⟩,
 ⟨some 18,(some (15,true)),.move,[.tmp 4 true]⟩,
 ⟨some 19,(some (15,true)),.call n_ref10_Dropped false,[.tmp 17 true,.tmp 18 true]⟩,
 ⟨some 20,none,.pick,[.tmp 15 false,.tmp 19 false,.val (.bool false)]⟩,
 ⟨some 2,none,.move,[.tmp 20 false]⟩])
 (.ghost (.kill [4,5,13,14,15,16,17,18,19,20]) (.ret)))))))),[.tmp 2]⟩
def l_law13_tape_0 : ACode := .seq (.seq (.region [⟨some 5,none,.move,[.tmp 4 false]⟩,
 ⟨some 6,none,.bin .lss .plain,[.tmp 5 false,.val (.int .i64 400)]⟩])
 (.ghost (.kill [5]) (.cond (.tmp 6 false) (.skip)
 (.ghost (.kill [0,4,6]) (.exit 0)))))
 (.ghost (.kill [6]) (.seq (.block 1 (.region [⟨some 9,none,.move,[.tmp 3 true]⟩,
 ⟨some 10,none,.move,[.tmp 4 false]⟩,
 ⟨some 11,none,.move,[.tmp 4 false]⟩,
 ⟨some 12,none,.bin .mul .plain,[.tmp 10 false,.tmp 11 false]⟩,
 ⟨some 13,none,.bin .mul .plain,[.tmp 12 false,.val (.int .i64 7)]⟩,
 ⟨some 14,none,.move,[.tmp 0 false]⟩,
 ⟨some 15,none,.bin .mul .plain,[.tmp 14 false,.val (.int .i64 43)]⟩,
 ⟨some 16,none,.bin .add .plain,[.tmp 13 false,.tmp 15 false]⟩,
 ⟨some 17,none,.move,[.tmp 4 false]⟩,
 ⟨some 18,none,.move,[.tmp 0 false]⟩,
 ⟨some 19,none,.bin .mul .plain,[.tmp 17 false,.tmp 18 false]⟩,
 ⟨some 20,none,.bin .add .plain,[.tmp 16 false,.tmp 19 false]⟩,
 ⟨some 21,none,.bin .rem .plain,[.tmp 20 false,.val (.int .i64 211)]⟩,
 ⟨some 22,none,.buildSlice 1 (.int .i64 0) 1 [0],[.tmp 21 false]⟩,
 ⟨some 23,none,.append 1 8 false,[.tmp 9 true,.tmp 22 true]⟩,
 ⟨some 3,none,.move,[.tmp 23 true]⟩]))
 (.ghost (.kill [9,10,11,12,13,14,15,16,17,18,19,20,21,22,23]) (.region [⟨some 7,none,.move,[.tmp 4 false]⟩,
 ⟨some 8,none,.bin .add .plain,[.tmp 7 false,.val (.int .i64 1)]⟩,
 ⟨some 4,none,.move,[.tmp 8 false]⟩]))))
def k_law13_tape_0 : List Nat := [5,6,7,8,9,10,11,12,13,14,15,16,17,18,19,20,21,22,23]
def c_law13_tape : AFunc := ⟨25,false,.seq (.region [⟨some 2,none,.move,[.val (.list 1 [] .full)]⟩])
 (.ghost (.kill [2]) (.seq (.region [⟨some 3,none,.move,[.val (.list 1 [] .full)]⟩])
 (.seq (.seq (.region [⟨some 4,none,.move,[.val (.int .i64 0)]⟩])
 (.block 0 (.loop (.ghost (.kill k_law13_tape_0) l_law13_tape_0))))
 (.ghost (.kill [0,4,5,6,7,8,9,10,11,12,13,14,15,16,17,18,19,20,21,22,23]) (.seq (.region [⟨some 24,none,.move,[.tmp 3 true]⟩,
 ⟨some 2,none,.move,[.tmp 24 true]⟩])
 (.ghost (.kill [3,24]) (.ret))))))),[.tmp 2]⟩
def l_law13_play_0 : ACode := .seq (.seq (.region [⟨some 18,none,.move,[.tmp 9 false]⟩,
 ⟨some 19,none,.move,[.tmp 0 false]⟩,
 ⟨some 20,none,.len false,[.tmp 19 true]⟩,
 ⟨some 21,none,.bin .lss .plain,[.tmp 18 false,.tmp 20 false]⟩,
 ⟨some 22,none,.move,[.tmp 21 false]⟩,
 ⟨some 23,(some (22,true)),.move,[.tmp 9 false]⟩,
 ⟨some 24,(some (22,true)),.bin .lss .plain,[.tmp 23 false,.val (.int .i64 60)]⟩,
 ⟨some 25,none,.pick,[.tmp 22 false,.tmp 24 false,.val (.bool false)]⟩])
 (.ghost (.kill [18,19,20,21,22,23,24]) (.cond (.tmp 25 false) (.skip)
 (.ghost (.kill [1,2,9,25]) (.exit 0)))))
 (.ghost (.kill [25]) (.seq (.block 1 (.seq (.region [⟨some 28,none,.move,[.tmp 0 false]⟩,
 ⟨some 29,none,.move,[.tmp 9 false]⟩,
 ⟨some 30,none,.ixAddr 5,[.tmp 28 true,.tmp 29 false]⟩,
 ⟨some 31,none,.load true 5 false,[.tmp 30 false]⟩,
 ⟨some 10,none,.alloc [.int .i64 0,.int .i64 0,.int .i64 0,.int .i64 0,.int .i64 0],[]⟩,
 ⟨none,none,.store 5,[.tmp 10 false,.tmp 31 false]⟩])
 (.ghost (.kill [28,29,30,31]) (.seq (.seq (.region [⟨some 32,none,.move,[.tmp 7 false]⟩,
 ⟨some 33,none,.bin .eql .ptr,[.tmp 32 false,.val .nilp]⟩])
 (.ghost (.kill [32]) (.cond (.tmp 33 false) (.seq (.region [⟨some 6,none,.move,[.val (.bool false)]⟩])
 (.ghost (.kill [0,1,2,7,8,9,10,33]) (.ret)))
 (.skip))))
 (.ghost (.kill [33]) (.seq (.seq (.region [⟨some 34,none,.addOff 0,[.tmp 10 false]⟩,
 ⟨some 35,none,.load false 1 false,[.tmp 34 false]⟩,
 ⟨some 36,none,.bin .gtr .plain,[.tmp 35 false,.val (.int .i64 4)]⟩])
 (.ghost (.kill [34,35]) (.cond (.tmp 36 false) (.ghost (.kill [10,36]) (.exit 1))
 (.skip))))
 (.ghost (.kill [36]) (.seq (.seq (.draw [(⟨some 37,none,.move,[.tmp 7 false]⟩,⟨false,[]⟩),
 (⟨some 38,none,.addOff 1,[.tmp 10 false]⟩,⟨false,[]⟩),
 (⟨some 39,none,.load true 3 false,[.tmp 38 false]⟩,⟨false,[]⟩),
 (⟨some 40,none,.call n_aborts_Row_Add false,[.tmp 37 false,.tmp 39 false]⟩,⟨true,[]⟩),
 (⟨some 41,none,.move,[.tmp 8 false]⟩,⟨false,[3]⟩),
 (⟨some 42,none,.addOff 1,[.tmp 10 false]⟩,⟨false,[3]⟩),
 (⟨some 43,none,.load true 3 false,[.tmp 42 false]⟩,⟨false,[3]⟩),
 (⟨some 44,none,.call n_law13_plain_add false,[.tmp 41 false,.tmp 43 false]⟩,⟨true,[]⟩),
 (⟨some 45,none,.bin .neq .bool,[.tmp 40 false,.tmp 44 false]⟩,⟨false,[]⟩)])
 (.ghost (.kill [37,38,39,40,41,42,43,44]) (.cond (.tmp 45 false) (.seq (.region [⟨some 6,none,.move,[.val (.bool false)]⟩])
 (.ghost (.kill [0,1,2,7,8,9,10,45]) (.ret)))
 (.skip))))
 (.ghost (.kill [45]) (.seq (.draw [(⟨some 46,none,.move,[.tmp 7 false]⟩,⟨false,[]⟩),
 (⟨some 47,none,.call n_aborts_Row_All false,[.tmp 46 false]⟩,⟨true,[]⟩),
 (⟨some 48,none,.move,[.tmp 8 false]⟩,⟨false,[1]⟩),
 (⟨some 49,none,.nilCheck,[.tmp 48 false]⟩,⟨false,[1]⟩),
 (⟨some 50,none,.addOff 0,[.tmp 49 false]⟩,⟨false,[1]⟩),
 (⟨some 51,none,.load false 1 false,[.tmp 50 false]⟩,⟨false,[1]⟩),
 (⟨some 52,none,.call n_ref10_Dropped false,[.tmp 47 true,.tmp 51 true]⟩,⟨true,[]⟩),
 (⟨some 53,none,.un .not,[.tmp 52 false]⟩,⟨false,[]⟩),
 (⟨some 54,none,.move,[.tmp 53 false]⟩,⟨false,[]⟩),
 (⟨some 55,(some (54,false)),.move,[.tmp 7 false]⟩,⟨false,[]⟩),
 (⟨some 56,(some (54,false)),.move,[.tmp 1 false]⟩,⟨false,[]⟩),
 (⟨some 57,(some (54,false)),.move,[.tmp 2 false]⟩,⟨false,[]⟩),
 (⟨some 58,(some (54,false)),.call n_aborts_Row_Within false,[.tmp 55 false,.tmp 56 false,.tmp 57 false]⟩,⟨true,[]⟩),
 (⟨some 59,(some (54,false)),.move,[.tmp 8 false]⟩,⟨false,[12]⟩),
 (⟨some 60,(some (54,false)),.nilCheck,[.tmp 59 false]⟩,⟨false,[12]⟩),
 (⟨some 61,(some (54,false)),.addOff 0,[.tmp 60 false]⟩,⟨false,[12]⟩),
 (⟨some 62,(some (54,false)),.load false 1 false,[.tmp 61 false]⟩,⟨false,[12]⟩),
 (⟨some 63,(some (54,false)),.move,[.tmp 1 false]⟩,⟨false,[12]⟩),
 (⟨some 64,(some (54,false)),.move,[.tmp 2 false]⟩,⟨false,[12]⟩),
 (⟨some 65,(some (54,false)),.call n_ref10_Within false,[.tmp 62 true,.tmp 63 false,.tmp 64 false]⟩,⟨true,[]⟩),
 (⟨some 66,(some (54,false)),.call n_ref10_Dropped false,[.tmp 58 true,.tmp 65 true]⟩,⟨true,[]⟩),
 (⟨some 67,(some (54,false)),.un .not,[.tmp 66 false]⟩,⟨false,[]⟩),
 (⟨some 68,none,.pick,[.tmp 54 false,.val (.bool true),.tmp 67 false]⟩,⟨false,[]⟩),
 (⟨some 69,none,.move,[.tmp 68 false]⟩,⟨false,[]⟩),
 (⟨some 70,(some (69,false)),.move,[.tmp 7 false]⟩,⟨false,[]⟩),
 (⟨some 71,(some (69,false)),.addOff 1,[.tmp 10 false]⟩,⟨false,[]⟩),
 (⟨some 72,(some (69,false)),.addOff 1,[.tmp 71 false]⟩,⟨false,[]⟩),
 (⟨some 73,(some (69,false)),.load false 1 false,[.tmp 72 false]⟩,⟨false,[]⟩),
 (⟨some 74,(some (69,false)),.addOff 4,[.tmp 10 false]⟩,⟨false,[]⟩),
 (⟨some 75,(some (69,false)),.load false 1 false,[.tmp 74 false]⟩,⟨false,[]⟩),
 (⟨some 76,(some (69,false)),.call n_aborts_Row_Within false,[.tmp 70 false,.tmp 73 false,.tmp 75 false]⟩,⟨true,[]⟩),
 (⟨some 77,(some (69,false)),.move,[.tmp 8 false]⟩,⟨false,[30]⟩),
 (⟨some 78,(some (69,false)),.nilCheck,[.tmp 77 false]⟩,⟨false,[30]⟩),
 (⟨some 79,(some (69,false)),.addOff 0,[.tmp 78 false]⟩,⟨false,[30]⟩),
 (⟨some 80,(some (69,false)),.load false 1 false,[.tmp 79 false]⟩,⟨false,[30]⟩),
 (⟨some 81,(some (69,false)),.addOff 1,[.tmp 10 false]⟩,⟨false,[30]⟩),
 (⟨some 82,(some (69,false)),.addOff 1,[.tmp 81 false]⟩,⟨false,[30]⟩),
 (⟨some 83,(some (69,false)),.load false 1 false,[.tmp 82 false]⟩,⟨false,[30]⟩),
 (⟨some 84,(some (69,false)),.addOff 4,[.tmp 10 false]⟩,⟨false,[30]⟩),
 (⟨some 85,(some (69,false)),.load false 1 false,[.tmp 84 false]⟩,⟨false,[30]⟩),
 (⟨some 86,(some (69,false)),.call n_ref10_Within false,[.tmp 80 true,.tmp 83 false,.tmp 85 false]⟩,⟨true,[]⟩),
 (⟨some 87,(some (69,false)),.call n_ref10_Dropped false,[.tmp 76 true,.tmp 86 true]⟩,⟨true,[]⟩),
 (⟨some 88,(some (69,false)),.un .not,[.tmp 87 false]⟩,⟨false,[]⟩),
 (⟨some 89,none,.pick,[.tmp 69 false,.val (.bool true),.tmp 88 false]⟩,⟨false,[]⟩)])
 (.ghost (.kill [10,46,47,48,49,50,51,52,53,54,55,56,57,58,59,60,61,62,63,64,65,66,67,68,69,70,71,72,73,74,75,76,77,78,79,80,81,82,83,84,85,86,87,88]) (.cond (.tmp 89 false) (.seq (.region [⟨some 6,none,.move,[.val (.bool false)]⟩])
 (.ghost (.kill [0,1,2,7,8,9,89]) (.ret)))
 (.skip)))))))))))))
 (.ghost (.kill [89]) (.region [⟨some 26,none,.move,[.tmp 9 false]⟩,
 ⟨some 27,none,.bin .add .plain,[.tmp 26 false,.val (.int .i64 1)]⟩,
 ⟨some 9,none,.move,[.tmp 27 false]⟩]))))
def k_law13_play_0 : List Nat := [6,10,18,19,20,21,22,23,24,25,26,27,28,29,30,31,32,33,34,35,36,37,38,39,40,41,42,43,44,45,46,47,48,49,50,51,52,53,54,55,56,57,58,59,60,61,62,63,64,65,66,67,68,69,70,71,72,73,74,75,76,77,78,79,80,81,82,83,84,85,86,87,88,89]
def l_law13_play_1 : ACode := .seq (.region [⟨some 123,none,.bin .lss .plain,[.tmp 122 false,.tmp 121 false]⟩])
 (.seq (.cond (.tmp 123 false) (.skip)
 (.ghost (.kill [120,121,122,123]) (.exit 4)))
 (.ghost (.kill [123]) (.seq (.block 5 (.seq (.region [⟨some 124,none,.ixAddr 3,[.tmp 120 false,.tmp 122 false]⟩,
 ⟨some 125,none,.load true 3 false,[.tmp 124 false]⟩,
 ⟨some 14,none,.alloc [.int .i64 0,.int .i64 0,.int .i64 0],[]⟩,
 ⟨none,none,.store 3,[.tmp 14 false,.tmp 125 false]⟩])
 (.ghost (.kill [124,125]) (.seq (.draw [(⟨some 126,none,.move,[.tmp 0 false]⟩,⟨false,[]⟩),
 (⟨some 127,none,.move,[.tmp 11 false]⟩,⟨false,[]⟩),
 (⟨some 128,none,.ixAddr 5,[.tmp 126 true,.tmp 127 false]⟩,⟨false,[]⟩),
 (⟨some 129,none,.addOff 0,[.tmp 128 false]⟩,⟨false,[]⟩),
 (⟨some 130,none,.load false 1 false,[.tmp 129 false]⟩,⟨false,[]⟩),
 (⟨some 131,none,.bin .eql .plain,[.tmp 130 false,.val (.int .i64 5)]⟩,⟨false,[]⟩),
 (⟨some 132,none,.move,[.tmp 131 false]⟩,⟨false,[]⟩),
 (⟨some 133,(some (132,true)),.addOff 2,[.tmp 14 false]⟩,⟨false,[]⟩),
 (⟨some 134,(some (132,true)),.load false 1 false,[.tmp 133 false]⟩,⟨false,[]⟩),
 (⟨some 135,(some (132,true)),.move,[.tmp 0 false]⟩,⟨false,[]⟩),
 (⟨some 136,(some (132,true)),.move,[.tmp 11 false]⟩,⟨false,[]⟩),
 (⟨some 137,(some (132,true)),.ixAddr 5,[.tmp 135 true,.tmp 136 false]⟩,⟨false,[]⟩),
 (⟨some 138,(some (132,true)),.addOff 4,[.tmp 137 false]⟩,⟨false,[]⟩),
 (⟨some 139,(some (132,true)),.load false 1 false,[.tmp 138 false]⟩,⟨false,[]⟩),
 (⟨some 140,(some (132,true)),.bin .lss .plain,[.tmp 134 false,.tmp 139 false]⟩,⟨false,[]⟩),
 (⟨some 141,none,.pick,[.tmp 132 false,.tmp 140 false,.val (.bool false)]⟩,⟨false,[]⟩),
 (⟨some 142,none,.move,[.tmp 141 false]⟩,⟨false,[]⟩),
 (⟨some 143,(some (142,false)),.move,[.tmp 0 false]⟩,⟨false,[]⟩),
 (⟨some 144,(some (142,false)),.move,[.tmp 11 false]⟩,⟨false,[]⟩),
 (⟨some 145,(some (142,false)),.ixAddr 5,[.tmp 143 true,.tmp 144 false]⟩,⟨false,[]⟩),
 (⟨some 146,(some (142,false)),.addOff 0,[.tmp 145 false]⟩,⟨false,[]⟩),
 (⟨some 147,(some (142,false)),.load false 1 false,[.tmp 146 false]⟩,⟨false,[]⟩),
 (⟨some 148,(some (142,false)),.bin .eql .plain,[.tmp 147 false,.val (.int .i64 6)]⟩,⟨false,[]⟩),
 (⟨some 149,(some (142,false)),.move,[.tmp 148 false]⟩,⟨false,[]⟩),
 (⟨some 150,(some (149,true)),.addOff 2,[.tmp 14 false]⟩,⟨false,[]⟩),
 (⟨some 151,(some (149,true)),.load false 1 false,[.tmp 150 false]⟩,⟨false,[]⟩),
 (⟨some 152,(some (149,true)),.move,[.tmp 0 false]⟩,⟨false,[]⟩),
 (⟨some 153,(some (149,true)),.move,[.tmp 11 false]⟩,⟨false,[]⟩),
 (⟨some 154,(some (149,true)),.ixAddr 5,[.tmp 152 true,.tmp 153 false]⟩,⟨false,[]⟩),
 (⟨some 155,(some (149,true)),.addOff 4,[.tmp 154 false]⟩,⟨false,[]⟩),
 (⟨some 156,(some (149,true)),.load false 1 false,[.tmp 155 false]⟩,⟨false,[]⟩),
 (⟨some 157,(some (149,true)),.bin .geq .plain,[.tmp 151 false,.tmp 156 false]⟩,⟨false,[]⟩),
 (⟨some 158,(some (142,false)),.pick,[.tmp 149 false,.tmp 157 false,.val (.bool false)]⟩,⟨false,[]⟩),
 (⟨some 159,none,.pick,[.tmp 142 false,.val (.bool true),.tmp 158 false]⟩,⟨false,[]⟩),
 (⟨some 160,none,.move,[.tmp 159 false]⟩,⟨false,[]⟩),
 (⟨some 161,(some (160,false)),.move,[.tmp 0 false]⟩,⟨false,[]⟩),
 (⟨some 162,(some (160,false)),.move,[.tmp 11 false]⟩,⟨false,[]⟩),
 (⟨some 163,(some (160,false)),.ixAddr 5,[.tmp 161 true,.tmp 162 false]⟩,⟨false,[]⟩),
 (⟨some 164,(some (160,false)),.addOff 0,[.tmp 163 false]⟩,⟨false,[]⟩),
 (⟨some 165,(some (160,false)),.load false 1 false,[.tmp 164 false]⟩,⟨false,[]⟩),
 (⟨some 166,(some (160,false)),.bin .lss .plain,[.tmp 165 false,.val (.int .i64 5)]⟩,⟨false,[]⟩),
 (⟨some 167,none,.pick,[.tmp 160 false,.val (.bool true),.tmp 166 false]⟩,⟨false,[]⟩),
 (⟨some 168,none,.move,[.tmp 167 false]⟩,⟨false,[]⟩),
 (⟨some 169,(some (168,false)),.move,[.tmp 0 false]⟩,⟨false,[]⟩),
 (⟨some 170,(some (168,false)),.move,[.tmp 11 false]⟩,⟨false,[]⟩),
 (⟨some 171,(some (168,false)),.ixAddr 5,[.tmp 169 true,.tmp 170 false]⟩,⟨false,[]⟩),
 (⟨some 172,(some (168,false)),.addOff 0,[.tmp 171 false]⟩,⟨false,[]⟩),
 (⟨some 173,(some (168,false)),.load false 1 false,[.tmp 172 false]⟩,⟨false,[]⟩),
 (⟨some 174,(some (168,false)),.bin .gtr .plain,[.tmp 173 false,.val (.int .i64 6)]⟩,⟨false,[]⟩),
 (⟨some 175,none,.pick,[.tmp 168 false,.val (.bool true),.tmp 174 false]⟩,⟨false,[]⟩)])
 (.ghost (.kill [126,127,128,129,130,131,132,133,134,135,136,137,138,139,140,141,142,143,144,145,146,147,148,149,150,151,152,153,154,155,156,157,158,159,160,161,162,163,164,165,166,167,168,169,170,171,172,173,174]) (.cond (.tmp 175 false) (.region [⟨some 176,none,.move,[.tmp 12 true]⟩,
 ⟨some 177,none,.load true 3 false,[.tmp 14 false]⟩,
 ⟨some 178,none,.buildSlice 3 (.agg [.int .i64 0,.int .i64 0,.int .i64 0]) 1 [0],[.tmp 177 false]⟩,
 ⟨some 179,none,.append 3 24 false,[.tmp 176 true,.tmp 178 true]⟩,
 ⟨some 12,none,.move,[.tmp 179 true]⟩])
 (.skip)))))))
 (.ghost (.kill [14,175,176,177,178,179]) (.region [⟨some 180,none,.bin .add .plain,[.tmp 122 false,.val (.int .i64 1)]⟩,
 ⟨some 122,none,.move,[.tmp 180 false]⟩])))))
def k_law13_play_1 : List Nat := [14,123,124,125,126,127,128,129,130,131,132,133,134,135,136,137,138,139,140,141,142,143,144,145,146,147,148,149,150,151,152,153,154,155,156,157,158,159,160,161,162,163,164,165,166,167,168,169,170,171,172,173,174,175,176,177,178,179,180]
def l_law13_play_2 : ACode := .seq (.seq (.region [⟨some 107,none,.move,[.tmp 11 false]⟩,
 ⟨some 108,none,.move,[.tmp 0 false]⟩,
 ⟨some 109,none,.len false,[.tmp 108 true]⟩,
 ⟨some 110,none,.bin .lss .plain,[.tmp 107 false,.tmp 109 false]⟩,
 ⟨some 111,none,.move,[.tmp 110 false]⟩,
 ⟨some 112,(some (111,true)),.move,[.tmp 11 false]⟩,
 ⟨some 113,(some (111,true)),.bin .lss .plain,[.tmp 112 false,.val (.int .i64 60)]⟩,
 ⟨some 114,none,.pick,[.tmp 111 false,.tmp 113 false,.val (.bool false)]⟩])
 (.ghost (.kill [107,108,109,110,111,112,113]) (.cond (.tmp 114 false) (.skip)
 (.ghost (.kill [0,7,8,11,114]) (.exit 2)))))
 (.ghost (.kill [114]) (.seq (.block 3 (.seq (.region [⟨some 12,none,.move,[.val (.list 3 [] .full)]⟩])
 (.seq (.seq (.region [⟨some 117,none,.move,[.tmp 8 false]⟩,
 ⟨some 118,none,.nilCheck,[.tmp 117 false]⟩,
 ⟨some 119,none,.addOff 0,[.tmp 118 false]⟩,
 ⟨some 120,none,.load false 1 false,[.tmp 119 false]⟩,
 ⟨some 121,none,.len false,[.tmp 120 false]⟩,
 ⟨some 122,none,.move,[.val (.int .i64 0)]⟩])
 (.ghost (.kill [117,118,119]) (.block 4 (.loop (.ghost (.kill k_law13_play_1) l_law13_play_1)))))
 (.ghost (.kill [14,120,121,122,123,124,125,126,127,128,129,130,131,132,133,134,135,136,137,138,139,140,141,142,143,144,145,146,147,148,149,150,151,152,153,154,155,156,157,158,159,160,161,162,163,164,165,166,167,168,169,170,171,172,173,174,175,176,177,178,179,180]) (.seq (.region [⟨some 181,none,.move,[.tmp 8 false]⟩,
 ⟨some 182,none,.move,[.tmp 12 true]⟩,
 ⟨some 183,none,.nilCheck,[.tmp 181 false]⟩,
 ⟨some 184,none,.addOff 0,[.tmp 183 false]⟩,
 ⟨none,none,.store 1,[.tmp 184 false,.tmp 182 true]⟩])
 (.ghost (.kill [12,181,182,183,184]) (.seq (.seq (.region [⟨some 185,none,.move,[.tmp 0 false]⟩,
 ⟨some 186,none,.move,[.tmp 11 false]⟩,
 ⟨some 187,none,.ixAddr 5,[.tmp 185 true,.tmp 186 false]⟩,
 ⟨some 188,none,.addOff 0,[.tmp 187 false]⟩,
 ⟨some 189,none,.load false 1 false,[.tmp 188 false]⟩,
 ⟨some 190,none,.bin .eql .plain,[.tmp 189 false,.val (.int .i64 5)]⟩])
 (.ghost (.kill [185,186,187,188,189]) (.cond (.tmp 190 false) (.region [⟨some 191,none,.move,[.tmp 7 false]⟩,
 ⟨some 192,none,.move,[.tmp 0 false]⟩,
 ⟨some 193,none,.move,[.tmp 11 false]⟩,
 ⟨some 194,none,.ixAddr 5,[.tmp 192 true,.tmp 193 false]⟩,
 ⟨some 195,none,.addOff 4,[.tmp 194 false]⟩,
 ⟨some 196,none,.load false 1 false,[.tmp 195 false]⟩,
 ⟨some 197,none,.call n_aborts_Row_Cut false,[.tmp 191 false,.tmp 196 false]⟩])
 (.skip))))
 (.ghost (.kill [190,191,192,193,194,195,196,197]) (.seq (.seq (.region [⟨some 198,none,.move,[.tmp 0 false]⟩,
 ⟨some 199,none,.move,[.tmp 11 false]⟩,
 ⟨some 200,none,.ixAddr 5,[.tmp 198 true,.tmp 199 false]⟩,
 ⟨some 201,none,.addOff 0,[.tmp 200 false]⟩,
 ⟨some 202,none,.load false 1 false,[.tmp 201 false]⟩,
 ⟨some 203,none,.bin .eql .plain,[.tmp 202 false,.val (.int .i64 6)]⟩])
 (.ghost (.kill [198,199,200,201,202]) (.cond (.tmp 203 false) (.region [⟨some 204,none,.move,[.tmp 7 false]⟩,
 ⟨some 205,none,.move,[.tmp 0 false]⟩,
 ⟨some 206,none,.move,[.tmp 11 false]⟩,
 ⟨some 207,none,.ixAddr 5,[.tmp 205 true,.tmp 206 false]⟩,
 ⟨some 208,none,.addOff 4,[.tmp 207 false]⟩,
 ⟨some 209,none,.load false 1 false,[.tmp 208 false]⟩,
 ⟨some 210,none,.call n_aborts_Row_Start false,[.tmp 204 false,.tmp 209 false]⟩])
 (.skip))))
 (.ghost (.kill [203,204,205,206,207,208,209,210]) (.seq (.draw [(⟨some 211,none,.move,[.tmp 7 false]⟩,⟨false,[]⟩),
 (⟨some 212,none,.call n_aborts_Row_All false,[.tmp 211 false]⟩,⟨true,[]⟩),
 (⟨some 213,none,.move,[.tmp 8 false]⟩,⟨false,[1]⟩),
 (⟨some 214,none,.nilCheck,[.tmp 213 false]⟩,⟨false,[1]⟩),
 (⟨some 215,none,.addOff 0,[.tmp 214 false]⟩,⟨false,[1]⟩),
 (⟨some 216,none,.load false 1 false,[.tmp 215 false]⟩,⟨false,[1]⟩),
 (⟨some 217,none,.call n_ref10_Dropped false,[.tmp 212 true,.tmp 216 true]⟩,⟨true,[]⟩),
 (⟨some 218,none,.un .not,[.tmp 217 false]⟩,⟨false,[]⟩)])
 (.ghost (.kill [211,212,213,214,215,216,217]) (.cond (.tmp 218 false) (.seq (.region [⟨some 6,none,.move,[.val (.bool false)]⟩])
 (.ghost (.kill [0,7,8,11,218]) (.ret)))
 (.skip))))))))))))))
 (.ghost (.kill [218]) (.region [⟨some 115,none,.move,[.tmp 11 false]⟩,
 ⟨some 116,none,.bin .add .plain,[.tmp 115 false,.val (.int .i64 1)]⟩,
 ⟨some 11,none,.move,[.tmp 116 false]⟩]))))
def k_law13_play_2 : List Nat := [6,12,14,107,108,109,110,111,112,113,114,115,116,117,118,119,120,121,122,123,124,125,126,127,128,129,130,131,132,133,134,135,136,137,138,139,140,141,142,143,144,145,146,147,148,149,150,151,152,153,154,155,156,157,158,159,160,161,162,163,164,165,166,167,168,169,170,171,172,173,174,175,176,177,178,179,180,181,182,183,184,185,186,187,188,189,190,191,192,193,194,195,196,197,198,199,200,201,202,203,204,205,206,207,208,209,210,211,212,213,214,215,216,217,218]
def c_law13_play : AFunc := ⟨219,false,.seq (.region [⟨some 6,none,.move,[.val (.bool false)]⟩])
 (.ghost (.kill [6]) (.seq (.region [⟨some 15,none,.call n_aborts_New false,[]⟩,
 ⟨some 16,none,.build [.list 3 [] .full,.int .i64 0] [(1,1)],[.val (.int .i64 (-1))]⟩,
 ⟨some 17,none,.box,[.tmp 16 false]⟩,
 ⟨some 7,none,.move,[.tmp 15 false]⟩,
 ⟨some 8,none,.move,[.tmp 17 false]⟩])
 (.ghost (.kill [15,16,17]) (.seq (.seq (.region [⟨some 9,none,.move,[.val (.int .i64 0)]⟩])
 (.block 0 (.loop (.ghost (.kill k_law13_play_0) l_law13_play_0))))
 (.ghost (.kill [1,2,6,9,10,18,19,20,21,22,23,24,25,26,27,28,29,30,31,32,33,34,35,36,37,38,39,40,41,42,43,44,45,46,47,48,49,50,51,52,53,54,55,56,57,58,59,60,61,62,63,64,65,66,67,68,69,70,71,72,73,74,75,76,77,78,79,80,81,82,83,84,85,86,87,88,89]) (.seq (.seq (.draw [(⟨some 90,none,.move,[.tmp 7 false]⟩,⟨false,[]⟩),
 (⟨some 91,none,.bin .eql .ptr,[.tmp 90 false,.val .nilp]⟩,⟨false,[]⟩),
 (⟨some 92,none,.move,[.tmp 91 false]⟩,⟨false,[]⟩),
 (⟨some 93,(some (92,false)),.move,[.tmp 7 false]⟩,⟨false,[]⟩),
 (⟨some 94,(some (92,false)),.call n_aborts_Row_Bytes false,[.tmp 93 false]⟩,⟨true,[]⟩),
 (⟨some 95,(some (92,false)),.toStr,[.tmp 94 true]⟩,⟨false,[]⟩),
 (⟨some 96,(some (92,false)),.move,[.tmp 8 false]⟩,⟨false,[4]⟩),
 (⟨some 97,(some (92,false)),.call n_law13_plain_bytes false,[.tmp 96 false]⟩,⟨true,[5]⟩),
 (⟨some 98,(some (92,false)),.toStr,[.tmp 97 true]⟩,⟨false,[]⟩),
 (⟨some 99,(some (92,false)),.bin .neq .plain,[.tmp 95 false,.tmp 98 false]⟩,⟨false,[]⟩),
 (⟨some 100,none,.pick,[.tmp 92 false,.val (.bool true),.tmp 99 false]⟩,⟨false,[]⟩),
 (⟨some 101,none,.move,[.tmp 100 false]⟩,⟨false,[]⟩),
 (⟨some 102,(some (101,false)),.move,[.tmp 8 false]⟩,⟨false,[]⟩),
 (⟨some 103,(some (101,false)),.call n_law13_plain_bytes false,[.tmp 102 false]⟩,⟨true,[]⟩),
 (⟨some 104,(some (101,false)),.call n_law13_reads false,[.tmp 103 true]⟩,⟨true,[]⟩),
 (⟨some 105,(some (101,false)),.un .not,[.tmp 104 false]⟩,⟨false,[]⟩),
 (⟨some 106,none,.pick,[.tmp 101 false,.val (.bool true),.tmp 105 false]⟩,⟨false,[]⟩)])
 (.ghost (.kill [90,91,92,93,94,95,96,97,98,99,100,101,102,103,104,105]) (.cond (.tmp 106 false) (.seq (.region [⟨some 6,none,.move,[.val (.bool false)]⟩])
 (.ghost (.kill [0,7,8,106]) (.ret)))
 (.skip))))
 (.ghost (.kill [106]) (.seq (.seq (.region [⟨some 11,none,.move,[.val (.int .i64 0)]⟩])
 (.block 2 (.loop (.ghost (.kill k_law13_play_2) l_law13_play_2))))
 (.ghost (.kill [0,6,7,8,11,12,14,107,108,109,110,111,112,113,114,115,116,117,118,119,120,121,122,123,124,125,126,127,128,129,130,131,132,133,134,135,136,137,138,139,140,141,142,143,144,145,146,147,148,149,150,151,152,153,154,155,156,157,158,159,160,161,162,163,164,165,166,167,168,169,170,171,172,173,174,175,176,177,178,179,180,181,182,183,184,185,186,187,188,189,190,191,192,193,194,195,196,197,198,199,200,201,202,203,204,205,206,207,208,209,210,211,212,213,214,215,216,217,218]) (.seq (.region [⟨some 6,none,.move,[.val (.bool true)]⟩])
 (.ret))))))))))),[.tmp 6]⟩
def c_law13_plain_add : AFunc := ⟨51,false,.seq (.region [⟨some 3,none,.box,[.tmp 1 false]⟩,
 ⟨some 4,none,.move,[.val (.bool false)]⟩])
 (.ghost (.kill [1,4]) (.seq (.seq (.draw [(⟨some 5,none,.addOff 0,[.tmp 3 false]⟩,⟨false,[]⟩),
 (⟨some 6,none,.load false 1 false,[.tmp 5 false]⟩,⟨false,[]⟩),
 (⟨some 7,none,.bin .lss .plain,[.tmp 6 false,.val (.int .i64 0)]⟩,⟨false,[]⟩),
 (⟨some 8,none,.move,[.tmp 7 false]⟩,⟨false,[]⟩),
 (⟨some 9,(some (8,false)),.addOff 1,[.tmp 3 false]⟩,⟨false,[]⟩),
 (⟨some 10,(some (8,false)),.load false 1 false,[.tmp 9 false]⟩,⟨false,[]⟩),
 (⟨some 11,(some (8,false)),.bin .lss .plain,[.tmp 10 false,.val (.int .i64 0)]⟩,⟨false,[]⟩),
 (⟨some 12,none,.pick,[.tmp 8 false,.val (.bool true),.tmp 11 false]⟩,⟨false,[]⟩),
 (⟨some 13,none,.move,[.tmp 12 false]⟩,⟨false,[]⟩),
 (⟨some 14,(some (13,false)),.addOff 2,[.tmp 3 false]⟩,⟨false,[]⟩),
 (⟨some 15,(some (13,false)),.load false 1 false,[.tmp 14 false]⟩,⟨false,[]⟩),
 (⟨some 16,(some (13,false)),.addOff 1,[.tmp 3 false]⟩,⟨false,[]⟩),
 (⟨some 17,(some (13,false)),.load false 1 false,[.tmp 16 false]⟩,⟨false,[]⟩),
 (⟨some 18,(some (13,false)),.bin .leq .plain,[.tmp 15 false,.tmp 17 false]⟩,⟨false,[]⟩),
 (⟨some 19,none,.pick,[.tmp 13 false,.val (.bool true),.tmp 18 false]⟩,⟨false,[]⟩),
 (⟨some 20,none,.move,[.tmp 19 false]⟩,⟨false,[]⟩),
 (⟨some 21,(some (20,false)),.addOff 2,[.tmp 3 false]⟩,⟨false,[]⟩),
 (⟨some 22,(some (20,false)),.load false 1 false,[.tmp 21 false]⟩,⟨false,[]⟩),
 (⟨some 23,(some (20,false)),.move,[.tmp 0 false]⟩,⟨false,[]⟩),
 (⟨some 24,(some (20,false)),.nilCheck,[.tmp 23 false]⟩,⟨false,[]⟩),
 (⟨some 25,(some (20,false)),.addOff 1,[.tmp 24 false]⟩,⟨false,[]⟩),
 (⟨some 26,(some (20,false)),.load false 1 false,[.tmp 25 false]⟩,⟨false,[]⟩),
 (⟨some 27,(some (20,false)),.bin .leq .plain,[.tmp 22 false,.tmp 26 false]⟩,⟨false,[]⟩),
 (⟨some 28,none,.pick,[.tmp 20 false,.val (.bool true),.tmp 27 false]⟩,⟨false,[]⟩),
 (⟨some 29,none,.move,[.tmp 28 false]⟩,⟨false,[]⟩),
 (⟨some 30,(some (29,false)),.addOff 2,[.tmp 3 false]⟩,⟨false,[]⟩),
 (⟨some 31,(some (29,false)),.load false 1 false,[.tmp 30 false]⟩,⟨false,[]⟩),
 (⟨some 32,(some (29,false)),.bin .gtr .plain,[.tmp 31 false,.val (.int .i64 1099511627776)]⟩,⟨false,[]⟩),
 (⟨some 33,none,.pick,[.tmp 29 false,.val (.bool true),.tmp 32 false]⟩,⟨false,[]⟩)])
 (.ghost (.kill [5,6,7,8,9,10,11,12,13,14,15,16,17,18,19,20,21,22,23,24,25,26,27,28,29,30,31,32]) (.cond (.tmp 33 false) (.seq (.region [⟨some 4,none,.move,[.val (.bool false)]⟩])
 (.ghost (.kill [0,3,33]) (.ret)))
 (.skip))))
 (.ghost (.kill [33]) (.seq (.draw [(⟨some 34,none,.move,[.tmp 0 false]⟩,⟨false,[]⟩),
 (⟨some 35,none,.move,[.tmp 0 false]⟩,⟨false,[]⟩),
 (⟨some 36,none,.buildSlice 3 (.agg [.int .i64 0,.int .i64 0,.int .i64 0]) 0 [],[]⟩,⟨false,[]⟩),
 (⟨some 37,none,.move,[.tmp 0 false]⟩,⟨false,[]⟩),
 (⟨some 38,none,.nilCheck,[.tmp 37 false]⟩,⟨false,[]⟩),
 (⟨some 39,none,.addOff 0,[.tmp 38 false]⟩,⟨false,[]⟩),
 (⟨some 40,none,.load false 1 false,[.tmp 39 false]⟩,⟨false,[]⟩),
 (⟨some 41,none,.append 3 24 false,[.tmp 36 true,.tmp 40 true]⟩,⟨true,[0,1]⟩),
 (⟨some 42,none,.load true 3 false,[.tmp 3 false]⟩,⟨false,[7]⟩),
 (⟨some 43,none,.buildSlice 3 (.agg [.int .i64 0,.int .i64 0,.int .i64 0]) 1 [0],[.tmp 42 false]⟩,⟨false,[7]⟩),
 (⟨some 44,none,.append 3 24 false,[.tmp 41 true,.tmp 43 true]⟩,⟨true,[0,1]⟩),
 (⟨some 45,none,.addOff 2,[.tmp 3 false]⟩,⟨false,[7,10]⟩),
 (⟨some 46,none,.load false 1 false,[.tmp 45 false]⟩,⟨false,[7,10]⟩),
 (⟨some 47,none,.nilCheck,[.tmp 34 false]⟩,⟨false,[]⟩),
 (⟨some 48,none,.addOff 0,[.tmp 47 false]⟩,⟨false,[]⟩),
 (⟨none,none,.store 1,[.tmp 48 false,.tmp 44 true]⟩,⟨true,[1,11,12]⟩),
 (⟨some 49,none,.nilCheck,[.tmp 35 false]⟩,⟨false,[]⟩),
 (⟨some 50,none,.addOff 1,[.tmp 49 false]⟩,⟨false,[]⟩),
 (⟨none,none,.store 1,[.tmp 50 false,.tmp 46 false]⟩,⟨true,[]⟩)])
 (.ghost (.kill [0,3,34,35,36,37,38,39,40,41,42,43,44,45,46,47,48,49,50]) (.seq (.region [⟨some 4,none,.move,[.val (.bool true)]⟩])
 (.ret))))))),[.tmp 4]⟩
def l_law13_plain_bytes_0 : ACode := .seq (.region [⟨some 18,none,.bin .lss .plain,[.tmp 17 false,.tmp 16 false]⟩])
 (.seq (.cond (.tmp 18 false) (.skip)
 (.ghost (.kill [15,16,17,18]) (.exit 0)))
 (.ghost (.kill [18]) (.seq (.block 1 (.seq (.region [⟨some 19,none,.ixAddr 3,[.tmp 15 false,.tmp 17 false]⟩,
 ⟨some 20,none,.load true 3 false,[.tmp 19 false]⟩,
 ⟨some 5,none,.alloc [.int .i64 0,.int .i64 0,.int .i64 0],[]⟩,
 ⟨none,none,.store 3,[.tmp 5 false,.tmp 20 false]⟩])
 (.ghost (.kill [19,20]) (.draw [(⟨some 21,none,.move,[.tmp 3 true]⟩,⟨false,[]⟩),
 (⟨some 22,none,.addOff 0,[.tmp 5 false]⟩,⟨false,[]⟩),
 (⟨some 23,none,.load false 1 false,[.tmp 22 false]⟩,⟨false,[]⟩),
 (⟨some 24,none,.call n_ref1_Put false,[.tmp 21 true,.tmp 23 false]⟩,⟨true,[]⟩),
 (⟨some 25,none,.addOff 1,[.tmp 5 false]⟩,⟨false,[3]⟩),
 (⟨some 26,none,.load false 1 false,[.tmp 25 false]⟩,⟨false,[3]⟩),
 (⟨some 27,none,.call n_ref1_Put false,[.tmp 24 true,.tmp 26 false]⟩,⟨true,[]⟩),
 (⟨some 28,none,.addOff 2,[.tmp 5 false]⟩,⟨false,[3,6]⟩),
 (⟨some 29,none,.load false 1 false,[.tmp 28 false]⟩,⟨false,[3,6]⟩),
 (⟨some 30,none,.call n_ref1_Put false,[.tmp 27 true,.tmp 29 false]⟩,⟨true,[]⟩),
 (⟨some 3,none,.move,[.tmp 30 true]⟩,⟨false,[]⟩)]))))
 (.ghost (.kill [5,21,22,23,24,25,26,27,28,29,30]) (.region [⟨some 31,none,.bin .add .plain,[.tmp 17 false,.val (.int .i64 1)]⟩,
 ⟨some 17,none,.move,[.tmp 31 false]⟩])))))
def k_law13_plain_bytes_0 : List Nat := [5,18,19,20,21,22,23,24,25,26,27,28,29,30,31]
def c_law13_plain_bytes : AFunc := ⟨34,false,.seq (.region [⟨some 2,none,.move,[.val (.list 1 [] .full)]⟩])
 (.ghost (.kill [2]) (.seq (.region [⟨some 6,none,.move,[.tmp 0 false]⟩,
 ⟨some 7,none,.nilCheck,[.tmp 6 false]⟩,
 ⟨some 8,none,.addOff 0,[.tmp 7 false]⟩,
 ⟨some 9,none,.load false 1 false,[.tmp 8 false]⟩,
 ⟨some 10,none,.len false,[.tmp 9 true]⟩,
 ⟨some 11,none,.call n_ref1_Put false,[.val (.list 1 [] .full),.tmp 10 false]⟩,
 ⟨some 3,none,.move,[.tmp 11 true]⟩])
 (.ghost (.kill [6,7,8,9,10,11]) (.seq (.seq (.region [⟨some 12,none,.move,[.tmp 0 false]⟩,
 ⟨some 13,none,.nilCheck,[.tmp 12 false]⟩,
 ⟨some 14,none,.addOff 0,[.tmp 13 false]⟩,
 ⟨some 15,none,.load false 1 false,[.tmp 14 false]⟩,
 ⟨some 16,none,.len false,[.tmp 15 false]⟩,
 ⟨some 17,none,.move,[.val (.int .i64 0)]⟩])
 (.ghost (.kill [0,12,13,14]) (.block 0 (.loop (.ghost (.kill k_law13_plain_bytes_0) l_law13_plain_bytes_0)))))
 (.ghost (.kill [5,15,16,17,18,19,20,21,22,23,24,25,26,27,28,29,30,31]) (.seq (.region [⟨some 32,none,.move,[.tmp 3 true]⟩,
 ⟨some 33,none,.call n_ref1_Sealed false,[.tmp 32 true]⟩,
 ⟨some 2,none,.move,[.tmp 33 true]⟩])
 (.ghost (.kill [3,32,33]) (.ret)))))))),[.tmp 2]⟩
def l_law13_reads_0 : ACode := .seq (.seq (.region [⟨some 30,none,.move,[.tmp 10 false]⟩,
 ⟨some 31,none,.bin .gtr .plain,[.tmp 30 false,.val (.int .i64 0)]⟩,
 ⟨some 32,none,.move,[.tmp 31 false]⟩,
 ⟨some 33,(some (32,true)),.move,[.tmp 7 false]⟩,
 ⟨some 34,(some (32,true)),.nilCheck,[.tmp 33 false]⟩,
 ⟨some 35,(some (32,true)),.addOff 1,[.tmp 34 false]⟩,
 ⟨some 36,(some (32,true)),.load false 1 false,[.tmp 35 false]⟩,
 ⟨some 37,(some (32,true)),.un .not,[.tmp 36 false]⟩,
 ⟨some 38,none,.pick,[.tmp 32 false,.tmp 37 false,.val (.bool false)]⟩,
 ⟨some 39,none,.move,[.tmp 38 false]⟩,
 ⟨some 40,(some (39,true)),.move,[.tmp 9 false]⟩,
 ⟨some 41,none,.pick,[.tmp 39 false,.tmp 40 false,.val (.bool false)]⟩])
 (.ghost (.kill [30,31,32,33,34,35,36,37,38,39,40]) (.cond (.tmp 41 false) (.skip)
 (.ghost (.kill [10,41]) (.exit 0)))))
 (.ghost (.kill [9,41]) (.seq (.block 1 (.region [⟨some 44,none,.move,[.tmp 8 false]⟩,
 ⟨some 45,none,.move,[.tmp 7 false]⟩,
 ⟨some 46,none,.call n_ref1_Reader_Num false,[.tmp 45 false]⟩,
 ⟨some 47,none,.move,[.tmp 7 false]⟩,
 ⟨some 48,none,.call n_ref1_Reader_Num false,[.tmp 47 false]⟩,
 ⟨some 49,none,.move,[.tmp 7 false]⟩,
 ⟨some 50,none,.call n_ref1_Reader_Num false,[.tmp 49 false]⟩,
 ⟨some 51,none,.build [.int .i64 0,.int .i64 0,.int .i64 0] [(0,1),(1,1),(2,1)],[.tmp 46 false,.tmp 48 false,.tmp 50 false]⟩,
 ⟨some 52,none,.call n_law13_plain_add false,[.tmp 44 false,.tmp 51 false]⟩,
 ⟨some 9,none,.move,[.tmp 52 false]⟩]))
 (.ghost (.kill [44,45,46,47,48,49,50,51,52]) (.region [⟨some 42,none,.move,[.tmp 10 false]⟩,
 ⟨some 43,none,.bin .sub .plain,[.tmp 42 false,.val (.int .i64 1)]⟩,
 ⟨some 10,none,.move,[.tmp 43 false]⟩]))))
def k_law13_reads_0 : List Nat := [30,31,32,33,34,35,36,37,38,39,40,41,42,43,44,45,46,47,48,49,50,51,52]
def c_law13_reads : AFunc := ⟨89,false,.seq (.region [⟨some 2,none,.move,[.val (.bool false)]⟩])
 (.ghost (.kill [2]) (.seq (.region [⟨some 12,none,.move,[.tmp 0 false]⟩,
 ⟨some 13,none,.call n_aborts_Read false,[.tmp 12 true]⟩,
 ⟨some 11,none,.move,[.tmp 13 false]⟩,
 ⟨some 14,none,.move,[.proj 11 0 false]⟩,
 ⟨some 15,none,.move,[.proj 11 1 false]⟩,
 ⟨some 3,none,.move,[.tmp 14 false]⟩,
 ⟨some 4,none,.move,[.tmp 15 false]⟩])
 (.ghost (.kill [11,12,13,14,15]) (.seq (.region [⟨some 17,none,.move,[.tmp 0 false]⟩,
 ⟨some 18,none,.call n_ref1_Unseal false,[.tmp 17 true]⟩,
 ⟨some 16,none,.move,[.tmp 18 true]⟩,
 ⟨some 19,none,.move,[.proj 16 0 true]⟩,
 ⟨some 20,none,.move,[.proj 16 1 false]⟩,
 ⟨some 5,none,.move,[.tmp 19 true]⟩,
 ⟨some 6,none,.move,[.tmp 20 false]⟩])
 (.ghost (.kill [16,17,18,19,20]) (.seq (.region [⟨some 21,none,.move,[.tmp 5 true]⟩,
 ⟨some 22,none,.move,[.tmp 6 false]⟩,
 ⟨some 23,none,.un .not,[.tmp 22 false]⟩,
 ⟨some 24,none,.build [.list 1 [] .full,.bool false] [(0,1),(1,1)],[.tmp 21 true,.tmp 23 false]⟩,
 ⟨some 25,none,.box,[.tmp 24 false]⟩,
 ⟨some 7,none,.move,[.tmp 25 false]⟩])
 (.ghost (.kill [5,6,21,22,23,24,25]) (.seq (.region [⟨some 26,none,.build [.list 3 [] .full,.int .i64 0] [(1,1)],[.val (.int .i64 (-1))]⟩,
 ⟨some 27,none,.box,[.tmp 26 false]⟩,
 ⟨some 8,none,.move,[.tmp 27 false]⟩])
 (.ghost (.kill [26,27]) (.seq (.region [⟨some 9,none,.move,[.val (.bool true)]⟩])
 (.seq (.seq (.region [⟨some 28,none,.move,[.tmp 7 false]⟩,
 ⟨some 29,none,.call n_ref1_Reader_Num false,[.tmp 28 false]⟩,
 ⟨some 10,none,.move,[.tmp 29 false]⟩])
 (.ghost (.kill [28,29]) (.block 0 (.loop (.ghost (.kill k_law13_reads_0) l_law13_reads_0)))))
 (.ghost (.kill [10,30,31,32,33,34,35,36,37,38,39,40,41,42,43,44,45,46,47,48,49,50,51,52]) (.seq (.seq (.draw [(⟨some 53,none,.move,[.tmp 9 false]⟩,⟨false,[]⟩),
 (⟨some 54,none,.un .not,[.tmp 53 false]⟩,⟨false,[]⟩),
 (⟨some 55,none,.move,[.tmp 54 false]⟩,⟨false,[]⟩),
 (⟨some 56,(some (55,false)),.move,[.tmp 7 false]⟩,⟨false,[]⟩),
 (⟨some 57,(some (55,false)),.call n_ref1_Reader_Done false,[.tmp 56 false]⟩,⟨true,[]⟩),
 (⟨some 58,(some (55,false)),.un .not,[.tmp 57 false]⟩,⟨false,[]⟩),
 (⟨some 59,none,.pick,[.tmp 55 false,.val (.bool true),.tmp 58 false]⟩,⟨false,[]⟩),
 (⟨some 60,none,.move,[.tmp 59 false]⟩,⟨false,[]⟩),
 (⟨some 61,(some (60,false)),.move,[.tmp 8 false]⟩,⟨false,[]⟩),
 (⟨some 62,(some (60,false)),.call n_law13_plain_bytes false,[.tmp 61 false]⟩,⟨true,[]⟩),
 (⟨some 63,(some (60,false)),.toStr,[.tmp 62 true]⟩,⟨false,[]⟩),
 (⟨some 64,(some (60,false)),.move,[.tmp 0 true]⟩,⟨false,[9]⟩),
 (⟨some 65,(some (60,false)),.toStr,[.tmp 64 true]⟩,⟨false,[9]⟩),
 (⟨some 66,(some (60,false)),.bin .neq .plain,[.tmp 63 false,.tmp 65 false]⟩,⟨false,[]⟩),
 (⟨some 67,none,.pick,[.tmp 60 false,.val (.bool true),.tmp 66 false]⟩,⟨false,[]⟩)])
 (.ghost (.kill [0,7,9,53,54,55,56,57,58,59,60,61,62,63,64,65,66]) (.cond (.tmp 67 false) (.seq (.region [⟨some 68,none,.move,[.tmp 3 false]⟩,
 ⟨some 69,none,.bin .eql .ptr,[.tmp 68 false,.val .nilp]⟩,
 ⟨some 70,none,.move,[.tmp 69 false]⟩,
 ⟨some 71,(some (70,true)),.move,[.tmp 4 false]⟩,
 ⟨some 72,(some (70,true)),.bin .eql .plain,[.tmp 71 false,.val (.int .i64 12)]⟩,
 ⟨some 73,none,.pick,[.tmp 70 false,.tmp 72 false,.val (.bool false)]⟩,
 ⟨some 2,none,.move,[.tmp 73 false]⟩])
 (.ghost (.kill [3,4,8,67,68,69,70,71,72,73]) (.ret)))
 (.skip))))
 (.ghost (.kill [67]) (.seq (.draw [(⟨some 74,none,.move,[.tmp 3 false]⟩,⟨false,[]⟩),
 (⟨some 75,none,.bin .neq .ptr,[.tmp 74 false,.val .nilp]⟩,⟨false,[]⟩),
 (⟨some 76,none,.move,[.tmp 75 false]⟩,⟨false,[]⟩),
 (⟨some 77,(some (76,true)),.move,[.tmp 4 false]⟩,⟨false,[]⟩),
 (⟨some 78,(some (76,true)),.bin .eql .plain,[.tmp 77 false,.val (.int .i64 0)]⟩,⟨false,[]⟩),
 (⟨some 79,none,.pick,[.tmp 76 false,.tmp 78 false,.val (.bool false)]⟩,⟨false,[]⟩),
 (⟨some 80,none,.move,[.tmp 79 false]⟩,⟨false,[]⟩),
 (⟨some 81,(some (80,true)),.move,[.tmp 3 false]⟩,⟨false,[]⟩),
 (⟨some 82,(some (80,true)),.call n_aborts_Row_All false,[.tmp 81 false]⟩,⟨true,[]⟩),
 (⟨some 83,(some (80,true)),.move,[.tmp 8 false]⟩,⟨false,[8]⟩),
 (⟨some 84,(some (80,true)),.nilCheck,[.tmp 83 false]⟩,⟨false,[8]⟩),
 (⟨some 85,(some (80,true)),.addOff 0,[.tmp 84 false]⟩,⟨false,[8]⟩),
 (⟨some 86,(some (80,true)),.load false 1 false,[.tmp 85 false]⟩,⟨false,[8]⟩),
 (⟨some 87,(some (80,true)),.call n_ref10_Dropped false,[.tmp 82 true,.tmp 86 true]⟩,⟨true,[]⟩),
 (⟨some 88,none,.pick,[.tmp 80 false,.tmp 87 false,.val (.bool false)]⟩,⟨false,[]⟩),
 (⟨some 2,none,.move,[.tmp 88 false]⟩,⟨false,[]⟩)])
 (.ghost (.kill [3,4,8,74,75,76,77,78,79,80,81,82,83,84,85,86,87,88]) (.ret))))))))))))))))),[.tmp 2]⟩
def c_ref1_Sealed : AFunc := ⟨20,false,.seq (.region [⟨some 2,none,.move,[.val (.list 1 [] .full)]⟩])
 (.ghost (.kill [2]) (.seq (.region [⟨some 4,none,.move,[.tmp 0 false]⟩,
 ⟨some 5,none,.call n_ref1_Crc false,[.tmp 4 true]⟩,
 ⟨some 3,none,.move,[.tmp 5 false]⟩])
 (.ghost (.kill [4,5]) (.seq (.region [⟨some 6,none,.move,[.tmp 3 false]⟩,
 ⟨some 7,none,.toInt .u8,[.tmp 6 false]⟩,
 ⟨some 8,none,.move,[.tmp 3 false]⟩,
 ⟨some 9,none,.bin .shr .plain,[.tmp 8 false,.val (.int .u64 8)]⟩,
 ⟨some 10,none,.toInt .u8,[.tmp 9 false]⟩,
 ⟨some 11,none,.move,[.tmp 3 false]⟩,
 ⟨some 12,none,.bin .shr .plain,[.tmp 11 false,.val (.int .u64 16)]⟩,
 ⟨some 13,none,.toInt .u8,[.tmp 12 false]⟩,
 ⟨some 14,none,.move,[.tmp 3 false]⟩,
 ⟨some 15,none,.bin .shr .plain,[.tmp 14 false,.val (.int .u64 24)]⟩,
 ⟨some 16,none,.toInt .u8,[.tmp 15 false]⟩,
 ⟨some 17,none,.buildSlice 1 (.int .u8 0) 4 [0,1,2,3],[.tmp 7 false,.tmp 10 false,.tmp 13 false,.tmp 16 false]⟩,
 ⟨some 18,none,.move,[.tmp 0 true]⟩,
 ⟨some 19,none,.append 1 1 false,[.tmp 17 true,.tmp 18 true]⟩,
 ⟨some 2,none,.move,[.tmp 19 true]⟩])
 (.ghost (.kill [0,3,6,7,8,9,10,11,12,13,14,15,16,17,18,19]) (.ret)))))),[.tmp 2]⟩
def c_aborts_New : AFunc := ⟨3,true,.seq (.region [⟨some 0,none,.move,[.val .nilp]⟩])
 (.ghost (.kill [0]) (.seq (.region [⟨some 1,none,.build [.list 3 [] .full] [],[]⟩,
 ⟨some 2,none,.box,[.tmp 1 false]⟩,
 ⟨some 0,none,.move,[.tmp 2 false]⟩])
 (.ghost (.kill [1,2]) (.ret)))),[.tmp 0]⟩
def c_table_New : AFunc := ⟨4,true,.seq (.region [⟨some 0,none,.move,[.val .nilp]⟩])
 (.ghost (.kill [0]) (.seq (.region [⟨some 1,none,.mkmap,[]⟩,
 ⟨some 2,none,.build [.map none] [(0,1)],[.tmp 1 false]⟩,
 ⟨some 3,none,.box,[.tmp 2 false]⟩,
 ⟨some 0,none,.move,[.tmp 3 false]⟩])
 (.ghost (.kill [1,2,3]) (.ret)))),[.tmp 0]⟩
def c_table_Table_Apply : AFunc := ⟨57,false,.seq (.region [⟨some 3,none,.box,[.tmp 1 false]⟩,
 ⟨some 4,none,.alloc [.int .i64 0,.int .i64 0,.int .i64 0],[]⟩,
 ⟨some 5,none,.move,[.val (.bool false)]⟩])
 (.ghost (.kill [1,5]) (.seq (.seq (.region [⟨some 8,none,.load true 7 false,[.tmp 3 false]⟩,
 ⟨some 9,none,.call n_batch_Right false,[.tmp 8 false]⟩,
 ⟨some 10,none,.bin .neq .plain,[.tmp 9 false,.val (.int .i64 0)]⟩,
 ⟨some 11,none,.move,[.tmp 10 false]⟩,
 ⟨some 12,(some (11,false)),.addOff 1,[.tmp 3 false]⟩,
 ⟨some 13,(some (11,false)),.load false 1 false,[.tmp 12 false]⟩,
 ⟨some 14,(some (11,false)),.bin .eql .plain,[.tmp 13 false,.val (.int .i64 (-1))]⟩,
 ⟨some 15,none,.pick,[.tmp 11 false,.val (.bool true),.tmp 14 false]⟩])
 (.ghost (.kill [8,9,10,11,12,13,14]) (.cond (.tmp 15 false) (.seq (.region [⟨some 16,none,.build [.int .i64 0,.int .i64 0,.int .i64 0] [],[]⟩,
 ⟨none,none,.store 3,[.tmp 4 false,.tmp 16 false]⟩,
 ⟨some 5,none,.move,[.val (.bool false)]⟩])
 (.ghost (.kill [0,3,15,16]) (.ret)))
 (.skip))))
 (.ghost (.kill [15]) (.seq (.draw [(⟨some 18,none,.move,[.tmp 0 false]⟩,⟨false,[]⟩),
 (⟨some 19,none,.nilCheck,[.tmp 18 false]⟩,⟨false,[]⟩),
 (⟨some 20,none,.addOff 0,[.tmp 19 false]⟩,⟨false,[]⟩),
 (⟨some 21,none,.load false 1 false,[.tmp 20 false]⟩,⟨false,[]⟩),
 (⟨some 22,none,.addOff 1,[.tmp 3 false]⟩,⟨false,[]⟩),
 (⟨some 23,none,.load false 1 false,[.tmp 22 false]⟩,⟨false,[]⟩),
 (⟨some 24,none,.lookup .i64 (.agg [.int .i64 0,.int .i64 0,.list 3 [] .full,.int .i64 0]) true,[.tmp 21 false,.tmp 23 false]⟩,⟨false,[]⟩),
 (⟨some 17,none,.move,[.tmp 24 false]⟩,⟨false,[]⟩),
 (⟨some 25,none,.move,[.proj 17 0 false]⟩,⟨false,[]⟩),
 (⟨some 26,none,.move,[.proj 17 1 false]⟩,⟨false,[]⟩),
 (⟨some 6,none,.alloc [.int .i64 0,.int .i64 0,.list 3 [] .full,.int .i64 0],[]⟩,⟨true,[0,1,2,3,4,5,6,7,8,9]⟩),
 (⟨none,none,.store 4,[.tmp 6 false,.tmp 25 false]⟩,⟨true,[9]⟩),
 (⟨some 7,none,.move,[.tmp 26 false]⟩,⟨false,[]⟩)])
 (.ghost (.kill [17,18,19,20,21,22,23,24,25,26]) (.seq (.draw [(⟨some 27,none,.move,[.tmp 0 false]⟩,⟨false,[]⟩),
 (⟨some 28,none,.nilCheck,[.tmp 27 false]⟩,⟨false,[]⟩),
 (⟨some 29,none,.addOff 0,[.tmp 28 false]⟩,⟨false,[]⟩),
 (⟨some 30,none,.load false 1 false,[.tmp 29 false]⟩,⟨false,[]⟩),
 (⟨some 31,none,.addOff 1,[.tmp 3 false]⟩,⟨false,[]⟩),
 (⟨some 32,none,.load false 1 false,[.tmp 31 false]⟩,⟨false,[]⟩),
 (⟨some 33,none,.load true 4 false,[.tmp 6 false]⟩,⟨false,[]⟩),
 (⟨some 34,none,.move,[.tmp 7 false]⟩,⟨false,[]⟩),
 (⟨some 35,none,.load true 7 false,[.tmp 3 false]⟩,⟨false,[]⟩),
 (⟨some 36,none,.call n_producer_Apply false,[.tmp 33 false,.tmp 34 false,.tmp 35 false]⟩,⟨true,[0,1,2,3,4,5]⟩),
 (⟨none,none,.mapSet .i64,[.tmp 30 false,.tmp 32 false,.tmp 36 false]⟩,⟨true,[]⟩)])
 (.ghost (.kill [0,27,28,29,30,31,32,33,34,35,36]) (.seq (.seq (.region [⟨some 37,none,.addOff 5,[.tmp 3 false]⟩,
 ⟨some 38,none,.load false 1 false,[.tmp 37 false]⟩,
 ⟨some 39,none,.bin .neq .plain,[.tmp 38 false,.val (.int .i64 2)]⟩,
 ⟨some 40,none,.move,[.tmp 39 false]⟩,
 ⟨some 41,(some (40,false)),.move,[.tmp 7 false]⟩,
 ⟨some 42,(some (40,false)),.un .not,[.tmp 41 false]⟩,
 ⟨some 43,none,.pick,[.tmp 40 false,.val (.bool true),.tmp 42 false]⟩,
 ⟨some 44,none,.move,[.tmp 43 false]⟩,
 ⟨some 45,(some (44,false)),.addOff 3,[.tmp 6 false]⟩,
 ⟨some 46,(some (44,false)),.load false 1 false,[.tmp 45 false]⟩,
 ⟨some 47,(some (44,false)),.bin .lss .plain,[.tmp 46 false,.val (.int .i64 0)]⟩,
 ⟨some 48,none,.pick,[.tmp 44 false,.val (.bool true),.tmp 47 false]⟩])
 (.ghost (.kill [7,37,38,39,40,41,42,43,44,45,46,47]) (.cond (.tmp 48 false) (.seq (.region [⟨some 49,none,.build [.int .i64 0,.int .i64 0,.int .i64 0] [],[]⟩,
 ⟨none,none,.store 3,[.tmp 4 false,.tmp 49 false]⟩,
 ⟨some 5,none,.move,[.val (.bool false)]⟩])
 (.ghost (.kill [3,6,48,49]) (.ret)))
 (.skip))))
 (.ghost (.kill [48]) (.seq (.region [⟨some 50,none,.addOff 1,[.tmp 3 false]⟩,
 ⟨some 51,none,.load false 1 false,[.tmp 50 false]⟩,
 ⟨some 52,none,.addOff 3,[.tmp 6 false]⟩,
 ⟨some 53,none,.load false 1 false,[.tmp 52 false]⟩,
 ⟨some 54,none,.addOff 0,[.tmp 3 false]⟩,
 ⟨some 55,none,.load false 1 false,[.tmp 54 false]⟩,
 ⟨some 56,none,.build [.int .i64 0,.int .i64 0,.int .i64 0] [(0,1),(1,1),(2,1)],[.tmp 51 false,.tmp 53 false,.tmp 55 false]⟩,
 ⟨none,none,.store 3,[.tmp 4 false,.tmp 56 false]⟩,
 ⟨some 5,none,.move,[.val (.bool true)]⟩])
 (.ghost (.kill [3,6,50,51,52,53,54,55,56]) (.ret)))))))))))),[.cell 4 true 3,.tmp 5]⟩
def c_aborts_Row_Add : AFunc := ⟨57,false,.seq (.region [⟨some 3,none,.box,[.tmp 1 false]⟩,
 ⟨some 4,none,.move,[.val (.bool false)]⟩])
 (.ghost (.kill [1,4]) (.seq (.seq (.region [⟨some 6,none,.addOff 0,[.tmp 3 false]⟩,
 ⟨some 7,none,.load false 1 false,[.tmp 6 false]⟩,
 ⟨some 8,none,.bin .lss .plain,[.tmp 7 false,.val (.int .i64 0)]⟩,
 ⟨some 9,none,.move,[.tmp 8 false]⟩,
 ⟨some 10,(some (9,false)),.addOff 1,[.tmp 3 false]⟩,
 ⟨some 11,(some (9,false)),.load false 1 false,[.tmp 10 false]⟩,
 ⟨some 12,(some (9,false)),.bin .lss .plain,[.tmp 11 false,.val (.int .i64 0)]⟩,
 ⟨some 13,none,.pick,[.tmp 9 false,.val (.bool true),.tmp 12 false]⟩,
 ⟨some 14,none,.move,[.tmp 13 false]⟩,
 ⟨some 15,(some (14,false)),.addOff 2,[.tmp 3 false]⟩,
 ⟨some 16,(some (14,false)),.load false 1 false,[.tmp 15 false]⟩,
 ⟨some 17,(some (14,false)),.addOff 1,[.tmp 3 false]⟩,
 ⟨some 18,(some (14,false)),.load false 1 false,[.tmp 17 false]⟩,
 ⟨some 19,(some (14,false)),.bin .leq .plain,[.tmp 16 false,.tmp 18 false]⟩,
 ⟨some 20,none,.pick,[.tmp 14 false,.val (.bool true),.tmp 19 false]⟩,
 ⟨some 21,none,.move,[.tmp 20 false]⟩,
 ⟨some 22,(some (21,false)),.addOff 2,[.tmp 3 false]⟩,
 ⟨some 23,(some (21,false)),.load false 1 false,[.tmp 22 false]⟩,
 ⟨some 24,(some (21,false)),.bin .gtr .plain,[.tmp 23 false,.val (.int .i64 1099511627776)]⟩,
 ⟨some 25,none,.pick,[.tmp 21 false,.val (.bool true),.tmp 24 false]⟩])
 (.ghost (.kill [6,7,8,9,10,11,12,13,14,15,16,17,18,19,20,21,22,23,24]) (.cond (.tmp 25 false) (.seq (.region [⟨some 4,none,.move,[.val (.bool false)]⟩])
 (.ghost (.kill [0,3,25]) (.ret)))
 (.skip))))
 (.ghost (.kill [25]) (.ghost (.thawC 0 0) (.seq (.seq (.region [⟨some 26,none,.move,[.tmp 0 false]⟩,
 ⟨some 27,none,.nilCheck,[.tmp 26 false]⟩,
 ⟨some 28,none,.addOff 0,[.tmp 27 false]⟩,
 ⟨some 29,none,.load false 1 false,[.tmp 28 false]⟩,
 ⟨some 30,none,.len false,[.tmp 29 true]⟩,
 ⟨some 5,none,.move,[.tmp 30 false]⟩])
 (.ghost (.kill [26,27,28,29,30]) (.seq (.draw [(⟨some 31,none,.move,[.tmp 5 false]⟩,⟨false,[]⟩),
 (⟨some 32,none,.bin .gtr .plain,[.tmp 31 false,.val (.int .i64 0)]⟩,⟨false,[]⟩),
 (⟨some 33,none,.move,[.tmp 32 false]⟩,⟨false,[]⟩),
 (⟨some 34,(some (33,true)),.addOff 2,[.tmp 3 false]⟩,⟨false,[]⟩),
 (⟨some 35,(some (33,true)),.load false 1 false,[.tmp 34 false]⟩,⟨false,[]⟩),
 (⟨some 36,(some (33,true)),.move,[.tmp 0 false]⟩,⟨false,[]⟩),
 (⟨some 37,(some (33,true)),.nilCheck,[.tmp 36 false]⟩,⟨false,[]⟩),
 (⟨some 38,(some (33,true)),.addOff 0,[.tmp 37 false]⟩,⟨false,[]⟩),
 (⟨some 39,(some (33,true)),.load false 1 false,[.tmp 38 false]⟩,⟨false,[]⟩),
 (⟨some 40,(some (33,true)),.move,[.tmp 5 false]⟩,⟨false,[]⟩),
 (⟨some 41,(some (33,true)),.bin .sub .plain,[.tmp 40 false,.val (.int .i64 1)]⟩,⟨false,[]⟩),
 (⟨some 42,(some (33,true)),.ixAddr 3,[.tmp 39 true,.tmp 41 false]⟩,⟨false,[]⟩),
 (⟨some 43,(some (33,true)),.addOff 2,[.tmp 42 false]⟩,⟨false,[]⟩),
 (⟨some 44,(some (33,true)),.load false 1 false,[.tmp 43 false]⟩,⟨false,[]⟩),
 (⟨some 45,(some (33,true)),.bin .leq .plain,[.tmp 35 false,.tmp 44 false]⟩,⟨false,[]⟩),
 (⟨some 46,none,.pick,[.tmp 33 false,.tmp 45 false,.val (.bool false)]⟩,⟨false,[]⟩)])
 (.ghost (.kill [5,31,32,33,34,35,36,37,38,39,40,41,42,43,44,45]) (.cond (.tmp 46 false) (.ghost (.backC 0 0) (.seq (.region [⟨some 4,none,.move,[.val (.bool false)]⟩])
 (.ghost (.kill [0,3,46]) (.ret))))
 (.skip))))))
 (.ghost (.kill [46]) (.ghost (.backC 0 0) (.seq (.draw [(⟨some 47,none,.move,[.tmp 0 false]⟩,⟨false,[]⟩),
 (⟨some 48,none,.move,[.tmp 0 false]⟩,⟨false,[]⟩),
 (⟨some 49,none,.nilCheck,[.tmp 48 false]⟩,⟨false,[]⟩),
 (⟨some 50,none,.addOff 0,[.tmp 49 false]⟩,⟨false,[]⟩),
 (⟨some 51,none,.load false 1 true,[.tmp 50 false]⟩,⟨true,[0]⟩),
 (⟨some 52,none,.load true 3 false,[.tmp 3 false]⟩,⟨false,[4]⟩),
 (⟨some 53,none,.buildSlice 3 (.agg [.int .i64 0,.int .i64 0,.int .i64 0]) 1 [0],[.tmp 52 false]⟩,⟨false,[4]⟩),
 (⟨some 54,none,.append 3 24 true,[.tmp 51 true,.tmp 53 true]⟩,⟨true,[0]⟩),
 (⟨some 55,none,.nilCheck,[.tmp 47 false]⟩,⟨false,[]⟩),
 (⟨some 56,none,.addOff 0,[.tmp 55 false]⟩,⟨false,[]⟩),
 (⟨none,none,.store 1,[.tmp 56 false,.tmp 54 true]⟩,⟨true,[]⟩)])
 (.ghost (.kill [0,3,47,48,49,50,51,52,53,54,55,56]) (.seq (.region [⟨some 4,none,.move,[.val (.bool true)]⟩])
 (.ret))))))))))),[.tmp 4]⟩
def l_keep_Tape_Ask_0 : ACode := .seq (.region [⟨some 25,none,.bin .lss .plain,[.tmp 24 false,.tmp 23 false]⟩])
 (.seq (.cond (.tmp 25 false) (.skip)
 (.ghost (.kill [0,22,23,24,25]) (.exit 0)))
 (.ghost (.kill [25]) (.seq (.block 1 (.seq (.region [⟨some 26,none,.ixAddr 4,[.tmp 22 false,.tmp 24 false]⟩,
 ⟨some 27,none,.load true 4 false,[.tmp 26 false]⟩,
 ⟨some 7,none,.alloc [.int .i64 0,.int .i64 0,.list 3 [] .full,.int .i64 0],[]⟩,
 ⟨none,none,.store 4,[.tmp 7 false,.tmp 27 false]⟩])
 (.ghost (.kill [26,27]) (.seq (.seq (.region [⟨some 28,none,.addOff 0,[.tmp 7 false]⟩,
 ⟨some 29,none,.load false 1 false,[.tmp 28 false]⟩,
 ⟨some 30,none,.addOff 1,[.tmp 5 false]⟩,
 ⟨some 31,none,.load false 1 false,[.tmp 30 false]⟩,
 ⟨some 32,none,.bin .neq .plain,[.tmp 29 false,.tmp 31 false]⟩])
 (.ghost (.kill [28,29,30,31]) (.cond (.tmp 32 false) (.ghost (.kill [7,32]) (.exit 1))
 (.skip))))
 (.ghost (.kill [32]) (.seq (.region [⟨some 33,none,.addOff 1,[.tmp 7 false]⟩,
 ⟨some 34,none,.load false 1 false,[.tmp 33 false]⟩,
 ⟨some 35,none,.addOff 2,[.tmp 5 false]⟩,
 ⟨none,none,.store 1,[.tmp 35 false,.tmp 34 false]⟩])
 (.ghost (.kill [33,34,35]) (.seq (.region [⟨some 36,none,.addOff 5,[.tmp 5 false]⟩,
 ⟨some 37,none,.load false 1 false,[.tmp 36 false]⟩,
 ⟨some 38,none,.bin .eql .plain,[.tmp 37 false,.val (.int .i64 0)]⟩])
 (.ghost (.kill [36,37]) (.cond (.tmp 38 false) (.seq (.region [⟨some 39,none,.addOff 3,[.tmp 5 false]⟩,
 ⟨none,none,.store 1,[.tmp 39 false,.val (.int .i64 0)]⟩])
 (.ghost (.kill [38,39]) (.seq (.seq (.region [⟨some 40,none,.addOff 2,[.tmp 7 false]⟩,
 ⟨some 41,none,.load false 1 false,[.tmp 40 false]⟩,
 ⟨some 42,none,.len false,[.tmp 41 true]⟩,
 ⟨some 8,none,.move,[.tmp 42 false]⟩])
 (.ghost (.kill [40,41,42]) (.seq (.region [⟨some 43,none,.move,[.tmp 8 false]⟩,
 ⟨some 44,none,.bin .gtr .plain,[.tmp 43 false,.val (.int .i64 0)]⟩])
 (.ghost (.kill [43]) (.cond (.tmp 44 false) (.region [⟨some 45,none,.addOff 2,[.tmp 7 false]⟩,
 ⟨some 46,none,.load false 1 false,[.tmp 45 false]⟩,
 ⟨some 47,none,.move,[.tmp 8 false]⟩,
 ⟨some 48,none,.bin .sub .plain,[.tmp 47 false,.val (.int .i64 1)]⟩,
 ⟨some 49,none,.ixAddr 3,[.tmp 46 true,.tmp 48 false]⟩,
 ⟨some 50,none,.ixArr 3 1,[.tmp 49 false,.val (.int .i64 1)]⟩,
 ⟨some 51,none,.load false 1 false,[.tmp 50 false]⟩,
 ⟨some 52,none,.bin .add .plain,[.tmp 51 false,.val (.int .i64 1)]⟩,
 ⟨some 53,none,.bin .and .plain,[.tmp 52 false,.val (.int .i64 2147483647)]⟩,
 ⟨some 54,none,.addOff 3,[.tmp 5 false]⟩,
 ⟨none,none,.store 1,[.tmp 54 false,.tmp 53 false]⟩])
 (.skip))))))
 (.ghost (.kill [8,44,45,46,47,48,49,50,51,52,53,54]) (.seq (.region [⟨some 55,none,.addOff 3,[.tmp 7 false]⟩,
 ⟨some 56,none,.load false 1 false,[.tmp 55 false]⟩,
 ⟨some 57,none,.bin .geq .plain,[.tmp 56 false,.val (.int .i64 0)]⟩,
 ⟨some 58,none,.move,[.tmp 57 false]⟩,
 ⟨some 59,(some (58,false)),.addOff 4,[.tmp 5 false]⟩,
 ⟨some 60,(some (58,false)),.load false 1 false,[.tmp 59 false]⟩,
 ⟨some 61,none,.pick,[.tmp 58 false,.val (.bool true),.tmp 60 false]⟩,
 ⟨some 62,none,.addOff 4,[.tmp 5 false]⟩,
 ⟨none,none,.store 1,[.tmp 62 false,.tmp 61 false]⟩])
 (.ghost (.kill [55,56,57,58,59,60,61,62]) (.seq (.region [⟨some 63,none,.addOff 2,[.tmp 7 false]⟩,
 ⟨some 64,none,.load false 1 false,[.tmp 63 false]⟩,
 ⟨some 65,none,.len false,[.tmp 64 true]⟩,
 ⟨some 9,none,.move,[.tmp 65 false]⟩])
 (.ghost (.kill [63,64,65]) (.seq (.region [⟨some 66,none,.move,[.tmp 9 false]⟩,
 ⟨some 67,none,.bin .gtr .plain,[.tmp 66 false,.val (.int .i64 0)]⟩,
 ⟨some 68,none,.move,[.tmp 67 false]⟩,
 ⟨some 69,(some (68,true)),.move,[.tmp 0 false]⟩,
 ⟨some 70,(some (68,true)),.call n_keep_Tape_Next false,[.tmp 69 false,.val (.int .i64 7)]⟩,
 ⟨some 71,(some (68,true)),.bin .eql .plain,[.tmp 70 false,.val (.int .i64 0)]⟩,
 ⟨some 72,none,.pick,[.tmp 68 false,.tmp 71 false,.val (.bool false)]⟩])
 (.ghost (.kill [66,67,68,69,70,71]) (.cond (.tmp 72 false) (.draw [(⟨some 73,none,.addOff 2,[.tmp 7 false]⟩,⟨false,[]⟩),
 (⟨some 74,none,.load false 1 false,[.tmp 73 false]⟩,⟨false,[]⟩),
 (⟨some 75,none,.move,[.tmp 0 false]⟩,⟨false,[]⟩),
 (⟨some 76,none,.move,[.tmp 9 false]⟩,⟨false,[]⟩),
 (⟨some 77,none,.call n_keep_Tape_Next false,[.tmp 75 false,.tmp 76 false]⟩,⟨true,[0,1]⟩),
 (⟨some 78,none,.ixAddr 3,[.tmp 74 true,.tmp 77 false]⟩,⟨false,[]⟩),
 (⟨some 79,none,.ixArr 3 1,[.tmp 78 false,.val (.int .i64 0)]⟩,⟨false,[]⟩),
 (⟨some 80,none,.load false 1 false,[.tmp 79 false]⟩,⟨false,[]⟩),
 (⟨some 81,none,.addOff 3,[.tmp 5 false]⟩,⟨false,[]⟩),
 (⟨none,none,.store 1,[.tmp 81 false,.tmp 80 false]⟩,⟨true,[]⟩)])
 (.skip))))))))))))
 (.skip)))))))))))
 (.ghost (.kill [7,9,38,72,73,74,75,76,77,78,79,80,81]) (.region [⟨some 82,none,.bin .add .plain,[.tmp 24 false,.val (.int .i64 1)]⟩,
 ⟨some 24,none,.move,[.tmp 82 false]⟩])))))
def k_keep_Tape_Ask_0 : List Nat := [7,8,9,25,26,27,28,29,30,31,32,33,34,35,36,37,38,39,40,41,42,43,44,45,46,47,48,49,50,51,52,53,54,55,56,57,58,59,60,61,62,63,64,65,66,67,68,69,70,71,72,73,74,75,76,77,78,79,80,81,82]
def c_keep_Tape_Ask : AFunc := ⟨84,false,.seq (.region [⟨some 4,none,.alloc [.int .i64 0,.int .i64 0,.int .i64 0,.int .i64 0,.bool false,.int .i64 0,.list 2 [] .full],[]⟩])
 (.seq (.region [⟨some 10,none,.move,[.tmp 0 false]⟩,
 ⟨some 11,none,.call n_keep_Tape_Batch false,[.tmp 10 false,.val (.int .i64 0)]⟩,
 ⟨some 5,none,.alloc [.int .i64 0,.int .i64 0,.int .i64 0,.int .i64 0,.bool false,.int .i64 0,.list 2 [] .full],[]⟩,
 ⟨none,none,.store 7,[.tmp 5 false,.tmp 11 false]⟩])
 (.ghost (.kill [10,11]) (.seq (.seq (.region [⟨some 12,none,.addOff 1,[.tmp 5 false]⟩,
 ⟨some 13,none,.load false 1 false,[.tmp 12 false]⟩,
 ⟨some 14,none,.bin .lss .plain,[.tmp 13 false,.val (.int .i64 0)]⟩,
 ⟨some 15,none,.move,[.tmp 14 false]⟩,
 ⟨some 16,(some (15,false)),.move,[.tmp 0 false]⟩,
 ⟨some 17,(some (15,false)),.call n_keep_Tape_Next false,[.tmp 16 false,.val (.int .i64 8)]⟩,
 ⟨some 18,(some (15,false)),.bin .eql .plain,[.tmp 17 false,.val (.int .i64 0)]⟩,
 ⟨some 19,none,.pick,[.tmp 15 false,.val (.bool true),.tmp 18 false]⟩])
 (.ghost (.kill [12,13,14,15,16,17,18]) (.cond (.tmp 19 false) (.seq (.region [⟨some 20,none,.load true 7 false,[.tmp 5 false]⟩,
 ⟨none,none,.store 7,[.tmp 4 false,.tmp 20 false]⟩])
 (.ghost (.kill [0,1,5,19,20]) (.ret)))
 (.skip))))
 (.ghost (.kill [19]) (.seq (.seq (.region [⟨some 21,none,.move,[.tmp 1 false]⟩,
 ⟨some 22,none,.call n_ref14_Model_Producers false,[.tmp 21 false]⟩,
 ⟨some 23,none,.len false,[.tmp 22 false]⟩,
 ⟨some 24,none,.move,[.val (.int .i64 0)]⟩])
 (.ghost (.kill [1,21]) (.block 0 (.loop (.ghost (.kill k_keep_Tape_Ask_0) l_keep_Tape_Ask_0)))))
 (.ghost (.kill [0,7,8,9,22,23,24,25,26,27,28,29,30,31,32,33,34,35,36,37,38,39,40,41,42,43,44,45,46,47,48,49,50,51,52,53,54,55,56,57,58,59,60,61,62,63,64,65,66,67,68,69,70,71,72,73,74,75,76,77,78,79,80,81,82]) (.seq (.region [⟨some 83,none,.load true 7 false,[.tmp 5 false]⟩,
 ⟨none,none,.store 7,[.tmp 4 false,.tmp 83 false]⟩])
 (.ghost (.kill [5,83]) (.ret))))))))),[.cell 4 true 7]⟩
def c_ref14_Model_Mark : AFunc := ⟨22,false,.seq (.region [⟨some 8,none,.move,[.val (.int .i64 0)]⟩,
 ⟨some 9,none,.move,[.val (.int .i64 0)]⟩])
 (.ghost (.kill [8,9]) (.seq (.seq (.region [⟨some 10,none,.move,[.tmp 3 false]⟩,
 ⟨some 11,none,.bin .eql .plain,[.tmp 10 false,.val (.int .i64 0)]⟩])
 (.ghost (.kill [10]) (.cond (.tmp 11 false) (.seq (.region [⟨some 8,none,.move,[.val (.int .i64 (-1))]⟩,
 ⟨some 9,none,.move,[.val (.int .i64 12)]⟩])
 (.ghost (.kill [0,1,2,3,11]) (.ret)))
 (.skip))))
 (.ghost (.kill [11]) (.seq (.region [⟨some 12,none,.move,[.tmp 0 false]⟩,
 ⟨some 13,none,.move,[.tmp 0 false]⟩,
 ⟨some 14,none,.call n_ref14_Model_End false,[.tmp 13 false]⟩,
 ⟨some 15,none,.move,[.tmp 1 false]⟩,
 ⟨some 16,none,.move,[.tmp 2 false]⟩,
 ⟨some 17,none,.move,[.tmp 3 false]⟩,
 ⟨some 18,none,.build [.int .i64 0,.int .i64 0,.int .i64 0,.int .i64 0,.bool false,.int .i64 0,.list 2 [] .full] [(0,1),(1,1),(2,1),(3,1),(4,1),(5,1)],[.tmp 14 false,.tmp 15 false,.tmp 16 false,.val (.int .i64 (-1)),.val (.bool true),.tmp 17 false]⟩,
 ⟨some 19,none,.call n_ref14_Model_put false,[.tmp 12 false,.tmp 18 false]⟩,
 ⟨some 20,none,.move,[.proj 19 0 false]⟩,
 ⟨some 21,none,.move,[.proj 19 1 false]⟩,
 ⟨some 8,none,.move,[.tmp 20 false]⟩,
 ⟨some 9,none,.move,[.tmp 21 false]⟩])
 (.ghost (.kill [0,1,2,3,12,13,14,15,16,17,18,19,20,21]) (.ret)))))),[.tmp 8,.tmp 9]⟩
def c_ref14_Model_Produce : AFunc := ⟨23,false,.seq (.region [⟨some 3,none,.box,[.tmp 1 false]⟩,
 ⟨some 4,none,.move,[.val (.int .i64 0)]⟩,
 ⟨some 5,none,.move,[.val (.int .i64 0)]⟩])
 (.ghost (.kill [1,4,5]) (.seq (.region [⟨some 7,none,.move,[.tmp 0 false]⟩,
 ⟨some 8,none,.call n_ref14_Model_End false,[.tmp 7 false]⟩,
 ⟨some 9,none,.addOff 0,[.tmp 3 false]⟩,
 ⟨none,none,.store 1,[.tmp 9 false,.tmp 8 false]⟩])
 (.ghost (.kill [7,8,9]) (.seq (.seq (.region [⟨some 10,none,.load true 7 false,[.tmp 3 false]⟩,
 ⟨some 11,none,.call n_ref6_Right false,[.tmp 10 false]⟩,
 ⟨some 6,none,.move,[.tmp 11 false]⟩])
 (.ghost (.kill [10,11]) (.seq (.region [⟨some 12,none,.move,[.tmp 6 false]⟩,
 ⟨some 13,none,.bin .neq .plain,[.tmp 12 false,.val (.int .i64 0)]⟩])
 (.ghost (.kill [12]) (.cond (.tmp 13 false) (.seq (.region [⟨some 14,none,.move,[.tmp 6 false]⟩,
 ⟨some 4,none,.move,[.val (.int .i64 (-1))]⟩,
 ⟨some 5,none,.move,[.tmp 14 false]⟩])
 (.ghost (.kill [0,3,6,13,14]) (.ret)))
 (.skip))))))
 (.ghost (.kill [6,13]) (.seq (.seq (.region [⟨some 15,none,.addOff 5,[.tmp 3 false]⟩,
 ⟨some 16,none,.load false 1 false,[.tmp 15 false]⟩,
 ⟨some 17,none,.bin .neq .plain,[.tmp 16 false,.val (.int .i64 0)]⟩])
 (.ghost (.kill [15,16]) (.cond (.tmp 17 false) (.seq (.region [⟨some 4,none,.move,[.val (.int .i64 (-1))]⟩,
 ⟨some 5,none,.move,[.val (.int .i64 16)]⟩])
 (.ghost (.kill [0,3,17]) (.ret)))
 (.skip))))
 (.ghost (.kill [17]) (.seq (.region [⟨some 18,none,.move,[.tmp 0 false]⟩,
 ⟨some 19,none,.load true 7 false,[.tmp 3 false]⟩,
 ⟨some 20,none,.call n_ref14_Model_put false,[.tmp 18 false,.tmp 19 false]⟩,
 ⟨some 21,none,.move,[.proj 20 0 false]⟩,
 ⟨some 22,none,.move,[.proj 20 1 false]⟩,
 ⟨some 4,none,.move,[.tmp 21 false]⟩,
 ⟨some 5,none,.move,[.tmp 22 false]⟩])
 (.ghost (.kill [0,3,18,19,20,21,22]) (.ret)))))))))),[.tmp 4,.tmp 5]⟩
def c_crc_Check : AFunc := ⟨38,false,.seq (.region [⟨some 2,none,.move,[.val (.list 1 [] .full)]⟩,
 ⟨some 3,none,.move,[.val (.bool false)]⟩])
 (.ghost (.kill [2,3]) (.seq (.seq (.region [⟨some 5,none,.move,[.tmp 0 false]⟩,
 ⟨some 6,none,.len false,[.tmp 5 true]⟩,
 ⟨some 7,none,.bin .lss .plain,[.tmp 6 false,.val (.int .i64 4)]⟩])
 (.ghost (.kill [5,6]) (.cond (.tmp 7 false) (.seq (.region [⟨some 2,none,.move,[.val (.list 1 [] .full)]⟩,
 ⟨some 3,none,.move,[.val (.bool false)]⟩])
 (.ghost (.kill [0,7]) (.ret)))
 (.skip))))
 (.ghost (.kill [7]) (.seq (.draw [(⟨some 8,none,.move,[.tmp 0 false]⟩,⟨false,[]⟩),
 (⟨some 9,none,.ixAddr 1,[.tmp 8 true,.val (.int .i64 0)]⟩,⟨false,[]⟩),
 (⟨some 10,none,.load false 1 false,[.tmp 9 false]⟩,⟨false,[]⟩),
 (⟨some 11,none,.toInt .u32,[.tmp 10 false]⟩,⟨false,[]⟩),
 (⟨some 12,none,.move,[.tmp 0 false]⟩,⟨false,[]⟩),
 (⟨some 13,none,.ixAddr 1,[.tmp 12 true,.val (.int .i64 1)]⟩,⟨false,[]⟩),
 (⟨some 14,none,.load false 1 false,[.tmp 13 false]⟩,⟨false,[]⟩),
 (⟨some 15,none,.toInt .u32,[.tmp 14 false]⟩,⟨false,[]⟩),
 (⟨some 16,none,.bin .shl .plain,[.tmp 15 false,.val (.int .u64 8)]⟩,⟨false,[]⟩),
 (⟨some 17,none,.bin .or .plain,[.tmp 11 false,.tmp 16 false]⟩,⟨false,[]⟩),
 (⟨some 18,none,.move,[.tmp 0 false]⟩,⟨false,[]⟩),
 (⟨some 19,none,.ixAddr 1,[.tmp 18 true,.val (.int .i64 2)]⟩,⟨false,[]⟩),
 (⟨some 20,none,.load false 1 false,[.tmp 19 false]⟩,⟨false,[]⟩),
 (⟨some 21,none,.toInt .u32,[.tmp 20 false]⟩,⟨false,[]⟩),
 (⟨some 22,none,.bin .shl .plain,[.tmp 21 false,.val (.int .u64 16)]⟩,⟨false,[]⟩),
 (⟨some 23,none,.bin .or .plain,[.tmp 17 false,.tmp 22 false]⟩,⟨false,[]⟩),
 (⟨some 24,none,.move,[.tmp 0 false]⟩,⟨false,[]⟩),
 (⟨some 25,none,.ixAddr 1,[.tmp 24 true,.val (.int .i64 3)]⟩,⟨false,[]⟩),
 (⟨some 26,none,.load false 1 false,[.tmp 25 false]⟩,⟨false,[]⟩),
 (⟨some 27,none,.toInt .u32,[.tmp 26 false]⟩,⟨false,[]⟩),
 (⟨some 28,none,.bin .shl .plain,[.tmp 27 false,.val (.int .u64 24)]⟩,⟨false,[]⟩),
 (⟨some 29,none,.bin .or .plain,[.tmp 23 false,.tmp 28 false]⟩,⟨false,[]⟩),
 (⟨some 4,none,.move,[.tmp 29 false]⟩,⟨false,[]⟩)])
 (.ghost (.kill [8,9,10,11,12,13,14,15,16,17,18,19,20,21,22,23,24,25,26,27,28,29]) (.seq (.seq (.region [⟨some 30,none,.move,[.tmp 0 false]⟩,
 ⟨some 31,none,.slice 1 true false false,[.tmp 30 true,.val (.int .i64 4)]⟩,
 ⟨some 32,none,.call n_crc_Of false,[.tmp 31 true]⟩,
 ⟨some 33,none,.move,[.tmp 4 false]⟩,
 ⟨some 34,none,.bin .neq .plain,[.tmp 32 false,.tmp 33 false]⟩])
 (.ghost (.kill [4,30,31,32,33]) (.cond (.tmp 34 false) (.seq (.region [⟨some 2,none,.move,[.val (.list 1 [] .full)]⟩,
 ⟨some 3,none,.move,[.val (.bool false)]⟩])
 (.ghost (.kill [0,34]) (.ret)))
 (.skip))))
 (.ghost (.kill [34]) (.seq (.region [⟨some 35,none,.move,[.tmp 0 true]⟩,
 ⟨some 36,none,.slice 1 true false false,[.tmp 35 true,.val (.int .i64 4)]⟩,
 ⟨some 37,none,.call n_slices_Clone_byte_byte_ false,[.tmp 36 true]⟩,
 ⟨some 2,none,.move,[.tmp 37 true]⟩,
 ⟨some 3,none,.move,[.val (.bool true)]⟩])
 (.ghost (.kill [0,35,36,37]) (.ret)))))))))),[.tmp 2,.tmp 3]⟩
def c_varint_Read : AFunc := ⟨6,true,.seq (.region [⟨some 2,none,.move,[.val .nilp]⟩])
 (.ghost (.kill [2]) (.seq (.region [⟨some 3,none,.move,[.tmp 0 true]⟩,
 ⟨some 4,none,.build [.list 1 [] .full,.bool false] [(0,1)],[.tmp 3 true]⟩,
 ⟨some 5,none,.box,[.tmp 4 false]⟩,
 ⟨some 2,none,.move,[.tmp 5 false]⟩])
 (.ghost (.kill [0,3,4,5]) (.ret)))),[.tmp 2]⟩
def c_varint_Reader_Count : AFunc := ⟨19,false,.seq (.region [⟨some 4,none,.move,[.val (.int .i64 0)]⟩])
 (.ghost (.kill [4]) (.seq (.region [⟨some 6,none,.move,[.tmp 0 false]⟩,
 ⟨some 7,none,.call n_varint_Reader_Num false,[.tmp 6 false]⟩,
 ⟨some 5,none,.move,[.tmp 7 false]⟩])
 (.ghost (.kill [6,7]) (.seq (.seq (.region [⟨some 8,none,.move,[.tmp 5 false]⟩,
 ⟨some 9,none,.bin .lss .plain,[.tmp 8 false,.val (.int .i64 0)]⟩,
 ⟨some 10,none,.move,[.tmp 9 false]⟩,
 ⟨some 11,(some (10,false)),.move,[.tmp 5 false]⟩,
 ⟨some 12,(some (10,false)),.move,[.tmp 1 false]⟩,
 ⟨some 13,(some (10,false)),.bin .gtr .plain,[.tmp 11 false,.tmp 12 false]⟩,
 ⟨some 14,none,.pick,[.tmp 10 false,.val (.bool true),.tmp 13 false]⟩])
 (.ghost (.kill [1,8,9,10,11,12,13]) (.cond (.tmp 14 false) (.seq (.region [⟨some 15,none,.move,[.tmp 0 false]⟩,
 ⟨some 16,none,.nilCheck,[.tmp 15 false]⟩,
 ⟨some 17,none,.addOff 1,[.tmp 16 false]⟩,
 ⟨none,none,.store 1,[.tmp 17 false,.val (.bool true)]⟩])
 (.ghost (.kill [0,5,14,15,16,17]) (.seq (.region [⟨some 4,none,.move,[.val (.int .i64 0)]⟩])
 (.ret))))
 (.skip))))
 (.ghost (.kill [0,14]) (.seq (.region [⟨some 18,none,.move,[.tmp 5 false]⟩,
 ⟨some 4,none,.move,[.tmp 18 false]⟩])
 (.ghost (.kill [5,18]) (.ret)))))))),[.tmp 4]⟩
def c_varint_Reader_Num : AFunc := ⟨34,false,.seq (.region [⟨some 2,none,.move,[.val (.int .i64 0)]⟩])
 (.ghost (.kill [2]) (.seq (.region [⟨some 6,none,.move,[.tmp 0 false]⟩,
 ⟨some 7,none,.nilCheck,[.tmp 6 false]⟩,
 ⟨some 8,none,.addOff 0,[.tmp 7 false]⟩,
 ⟨some 9,none,.load false 1 false,[.tmp 8 false]⟩,
 ⟨some 10,none,.call n_varint_Get false,[.tmp 9 true]⟩,
 ⟨some 5,none,.move,[.tmp 10 false]⟩,
 ⟨some 11,none,.move,[.proj 5 0 false]⟩,
 ⟨some 12,none,.move,[.proj 5 1 false]⟩,
 ⟨some 3,none,.move,[.tmp 11 false]⟩,
 ⟨some 4,none,.move,[.tmp 12 false]⟩])
 (.ghost (.kill [5,6,7,8,9,10,11,12]) (.seq (.seq (.region [⟨some 13,none,.move,[.tmp 0 false]⟩,
 ⟨some 14,none,.nilCheck,[.tmp 13 false]⟩,
 ⟨some 15,none,.addOff 1,[.tmp 14 false]⟩,
 ⟨some 16,none,.load false 1 false,[.tmp 15 false]⟩,
 ⟨some 17,none,.move,[.tmp 16 false]⟩,
 ⟨some 18,(some (17,false)),.move,[.tmp 4 false]⟩,
 ⟨some 19,(some (17,false)),.bin .eql .plain,[.tmp 18 false,.val (.int .i64 0)]⟩,
 ⟨some 20,none,.pick,[.tmp 17 false,.val (.bool true),.tmp 19 false]⟩])
 (.ghost (.kill [13,14,15,16,17,18,19]) (.cond (.tmp 20 false) (.seq (.region [⟨some 21,none,.move,[.tmp 0 false]⟩,
 ⟨some 22,none,.nilCheck,[.tmp 21 false]⟩,
 ⟨some 23,none,.addOff 1,[.tmp 22 false]⟩,
 ⟨none,none,.store 1,[.tmp 23 false,.val (.bool true)]⟩])
 (.ghost (.kill [0,3,4,20,21,22,23]) (.seq (.region [⟨some 2,none,.move,[.val (.int .i64 0)]⟩])
 (.ret))))
 (.skip))))
 (.ghost (.kill [20]) (.seq (.region [⟨some 24,none,.move,[.tmp 0 false]⟩,
 ⟨some 25,none,.move,[.tmp 0 false]⟩,
 ⟨some 26,none,.nilCheck,[.tmp 25 false]⟩,
 ⟨some 27,none,.addOff 0,[.tmp 26 false]⟩,
 ⟨some 28,none,.load false 1 false,[.tmp 27 false]⟩,
 ⟨some 29,none,.move,[.tmp 4 false]⟩,
 ⟨some 30,none,.slice 1 true false false,[.tmp 28 true,.tmp 29 false]⟩,
 ⟨some 31,none,.nilCheck,[.tmp 24 false]⟩,
 ⟨some 32,none,.addOff 0,[.tmp 31 false]⟩,
 ⟨none,none,.store 1,[.tmp 32 false,.tmp 30 true]⟩])
 (.ghost (.kill [0,4,24,25,26,27,28,29,30,31,32]) (.seq (.region [⟨some 33,none,.move,[.tmp 3 false]⟩,
 ⟨some 2,none,.move,[.tmp 33 false]⟩])
 (.ghost (.kill [3,33]) (.ret)))))))))),[.tmp 2]⟩
def c_varint_Reader_Bad : AFunc := ⟨7,false,.seq (.region [⟨some 2,none,.move,[.val (.bool false)]⟩])
 (.ghost (.kill [2]) (.seq (.region [⟨some 3,none,.move,[.tmp 0 false]⟩,
 ⟨some 4,none,.nilCheck,[.tmp 3 false]⟩,
 ⟨some 5,none,.addOff 1,[.tmp 4 false]⟩,
 ⟨some 6,none,.load false 1 false,[.tmp 5 false]⟩,
 ⟨some 2,none,.move,[.tmp 6 false]⟩])
 (.ghost (.kill [0,3,4,5,6]) (.ret)))),[.tmp 2]⟩
def c_varint_Reader_Done : AFunc := ⟨16,false,.seq (.region [⟨some 2,none,.move,[.val (.bool false)]⟩])
 (.ghost (.kill [2]) (.seq (.region [⟨some 3,none,.move,[.tmp 0 false]⟩,
 ⟨some 4,none,.nilCheck,[.tmp 3 false]⟩,
 ⟨some 5,none,.addOff 1,[.tmp 4 false]⟩,
 ⟨some 6,none,.load false 1 false,[.tmp 5 false]⟩,
 ⟨some 7,none,.un .not,[.tmp 6 false]⟩,
 ⟨some 8,none,.move,[.tmp 7 false]⟩,
 ⟨some 9,(some (8,true)),.move,[.tmp 0 false]⟩,
 ⟨some 10,(some (8,true)),.nilCheck,[.tmp 9 false]⟩,
 ⟨some 11,(some (8,true)),.addOff 0,[.tmp 10 false]⟩,
 ⟨some 12,(some (8,true)),.load false 1 false,[.tmp 11 false]⟩,
 ⟨some 13,(some (8,true)),.len false,[.tmp 12 true]⟩,
 ⟨some 14,(some (8,true)),.bin .eql .plain,[.tmp 13 false,.val (.int .i64 0)]⟩,
 ⟨some 15,none,.pick,[.tmp 8 false,.tmp 14 false,.val (.bool false)]⟩,
 ⟨some 2,none,.move,[.tmp 15 false]⟩])
 (.ghost (.kill [0,3,4,5,6,7,8,9,10,11,12,13,14,15]) (.ret)))),[.tmp 2]⟩
def l_varint_Put_0 : ACode := .seq (.seq (.region [⟨some 16,none,.move,[.tmp 6 false]⟩,
 ⟨some 17,none,.bin .geq .plain,[.tmp 16 false,.val (.int .u64 128)]⟩])
 (.ghost (.kill [16]) (.cond (.tmp 17 false) (.skip)
 (.ghost (.kill [17]) (.exit 0)))))
 (.ghost (.kill [17]) (.block 1 (.seq (.region [⟨some 18,none,.move,[.tmp 5 true]⟩,
 ⟨some 19,none,.move,[.tmp 6 false]⟩,
 ⟨some 20,none,.toInt .u8,[.tmp 19 false]⟩,
 ⟨some 21,none,.bin .or .plain,[.tmp 20 false,.val (.int .u8 128)]⟩,
 ⟨some 22,none,.buildSlice 1 (.int .u8 0) 1 [0],[.tmp 21 false]⟩,
 ⟨some 23,none,.append 1 1 false,[.tmp 18 true,.tmp 22 true]⟩,
 ⟨some 5,none,.move,[.tmp 23 true]⟩])
 (.ghost (.kill [18,19,20,21,22,23]) (.region [⟨some 24,none,.move,[.tmp 6 false]⟩,
 ⟨some 25,none,.bin .shr .plain,[.tmp 24 false,.val (.int .u64 7)]⟩,
 ⟨some 6,none,.move,[.tmp 25 false]⟩])))))
def k_varint_Put_0 : List Nat := [16,17,18,19,20,21,22,23,24,25]
def c_varint_Put : AFunc := ⟨32,false,.seq (.region [⟨some 4,none,.move,[.val (.list 1 [] .full)]⟩])
 (.ghost (.kill [4]) (.seq (.region [⟨some 7,none,.move,[.tmp 0 true]⟩,
 ⟨some 8,none,.call n_slices_Clone_byte_byte_ false,[.tmp 7 true]⟩,
 ⟨some 5,none,.move,[.tmp 8 true]⟩])
 (.ghost (.kill [0,7,8]) (.seq (.region [⟨some 9,none,.move,[.tmp 1 false]⟩,
 ⟨some 10,none,.toInt .u64,[.tmp 9 false]⟩,
 ⟨some 11,none,.bin .shl .plain,[.tmp 10 false,.val (.int .u64 1)]⟩,
 ⟨some 12,none,.move,[.tmp 1 false]⟩,
 ⟨some 13,none,.bin .shr .plain,[.tmp 12 false,.val (.int .u64 63)]⟩,
 ⟨some 14,none,.toInt .u64,[.tmp 13 false]⟩,
 ⟨some 15,none,.bin .xor .plain,[.tmp 11 false,.tmp 14 false]⟩,
 ⟨some 6,none,.move,[.tmp 15 false]⟩])
 (.ghost (.kill [1,9,10,11,12,13,14,15]) (.seq (.block 0 (.loop (.ghost (.kill k_varint_Put_0) l_varint_Put_0)))
 (.ghost (.kill [16,17,18,19,20,21,22,23,24,25]) (.seq (.region [⟨some 26,none,.move,[.tmp 5 true]⟩,
 ⟨some 27,none,.move,[.tmp 6 false]⟩,
 ⟨some 28,none,.toInt .u8,[.tmp 27 false]⟩,
 ⟨some 29,none,.buildSlice 1 (.int .u8 0) 1 [0],[.tmp 28 false]⟩,
 ⟨some 30,none,.append 1 1 false,[.tmp 26 true,.tmp 29 true]⟩,
 ⟨some 31,none,.call n_slices_Clip_byte_byte_ false,[.tmp 30 true]⟩,
 ⟨some 4,none,.move,[.tmp 31 true]⟩])
 (.ghost (.kill [5,6,26,27,28,29,30,31]) (.ret)))))))))),[.tmp 4]⟩
def c_crc_Put : AFunc := ⟨21,false,.seq (.region [⟨some 2,none,.move,[.val (.list 1 [] .full)]⟩])
 (.ghost (.kill [2]) (.seq (.region [⟨some 4,none,.move,[.tmp 0 false]⟩,
 ⟨some 5,none,.call n_crc_Of false,[.tmp 4 true]⟩,
 ⟨some 3,none,.move,[.tmp 5 false]⟩])
 (.ghost (.kill [4,5]) (.seq (.region [⟨some 6,none,.move,[.tmp 3 false]⟩,
 ⟨some 7,none,.toInt .u8,[.tmp 6 false]⟩,
 ⟨some 8,none,.move,[.tmp 3 false]⟩,
 ⟨some 9,none,.bin .shr .plain,[.tmp 8 false,.val (.int .u64 8)]⟩,
 ⟨some 10,none,.toInt .u8,[.tmp 9 false]⟩,
 ⟨some 11,none,.move,[.tmp 3 false]⟩,
 ⟨some 12,none,.bin .shr .plain,[.tmp 11 false,.val (.int .u64 16)]⟩,
 ⟨some 13,none,.toInt .u8,[.tmp 12 false]⟩,
 ⟨some 14,none,.move,[.tmp 3 false]⟩,
 ⟨some 15,none,.bin .shr .plain,[.tmp 14 false,.val (.int .u64 24)]⟩,
 ⟨some 16,none,.toInt .u8,[.tmp 15 false]⟩,
 ⟨some 17,none,.buildSlice 1 (.int .u8 0) 4 [0,1,2,3],[.tmp 7 false,.tmp 10 false,.tmp 13 false,.tmp 16 false]⟩,
 ⟨some 18,none,.move,[.tmp 0 true]⟩,
 ⟨some 19,none,.buildSlice 1 (.list 1 [] .full) 2 [0,1],[.tmp 17 true,.tmp 18 true]⟩,
 ⟨some 20,none,.call n_slices_Concat_byte_byte_ false,[.tmp 19 true]⟩,
 ⟨some 2,none,.move,[.tmp 20 true]⟩])
 (.ghost (.kill [0,3,6,7,8,9,10,11,12,13,14,15,16,17,18,19,20]) (.ret)))))),[.tmp 2]⟩
def l_slices_DeleteFunc_api_Dropped_api_Dropped__0 : ACode := .seq (.seq (.region [⟨some 16,none,.move,[.tmp 6 false]⟩,
 ⟨some 17,none,.move,[.tmp 0 false]⟩,
 ⟨some 18,none,.len false,[.tmp 17 true]⟩,
 ⟨some 19,none,.bin .lss .plain,[.tmp 16 false,.tmp 18 false]⟩])
 (.ghost (.kill [16,17,18]) (.cond (.tmp 19 false) (.skip)
 (.ghost (.kill [1,6,19]) (.exit 0)))))
 (.ghost (.kill [19]) (.seq (.block 1 (.seq (.region [⟨some 22,none,.move,[.tmp 0 false]⟩,
 ⟨some 23,none,.move,[.tmp 6 false]⟩,
 ⟨some 24,none,.ixAddr 3,[.tmp 22 true,.tmp 23 false]⟩,
 ⟨some 25,none,.load true 3 false,[.tmp 24 false]⟩,
 ⟨some 7,none,.alloc [.int .i64 0,.int .i64 0,.int .i64 0],[]⟩,
 ⟨none,none,.store 3,[.tmp 7 false,.tmp 25 false]⟩])
 (.ghost (.kill [22,23,24,25]) (.seq (.region [⟨some 26,none,.move,[.tmp 1 false]⟩,
 ⟨some 27,none,.load true 3 false,[.tmp 7 false]⟩,
 ⟨some 28,none,.callv,[.tmp 26 false,.tmp 27 false]⟩,
 ⟨some 29,none,.un .not,[.tmp 28 false]⟩])
 (.ghost (.kill [26,27,28]) (.cond (.tmp 29 false) (.seq (.region [⟨some 30,none,.move,[.tmp 0 false]⟩,
 ⟨some 31,none,.move,[.tmp 5 false]⟩,
 ⟨some 32,none,.load true 3 false,[.tmp 7 false]⟩,
 ⟨some 33,none,.ixAddr 3,[.tmp 30 true,.tmp 31 false]⟩,
 ⟨none,none,.store 3,[.tmp 33 false,.tmp 32 false]⟩])
 (.ghost (.kill [7,29,30,31,32,33]) (.region [⟨some 34,none,.move,[.tmp 5 false]⟩,
 ⟨some 35,none,.bin .add .plain,[.tmp 34 false,.val (.int .i64 1)]⟩,
 ⟨some 5,none,.move,[.tmp 35 false]⟩])))
 (.skip)))))))
 (.ghost (.kill [7,29,34,35]) (.region [⟨some 20,none,.move,[.tmp 6 false]⟩,
 ⟨some 21,none,.bin .add .plain,[.tmp 20 false,.val (.int .i64 1)]⟩,
 ⟨some 6,none,.move,[.tmp 21 false]⟩]))))
def k_slices_DeleteFunc_api_Dropped_api_Dropped__0 : List Nat := [7,16,17,18,19,20,21,22,23,24,25,26,27,28,29,30,31,32,33,34,35]
def c_slices_DeleteFunc_api_Dropped_api_Dropped_ : AFunc := ⟨42,false,.ghost (.thaw 0) (.seq (.region [⟨some 4,none,.move,[.val (.list 3 [] .full)]⟩])
 (.ghost (.kill [4]) (.seq (.region [⟨some 8,none,.move,[.tmp 0 false]⟩,
 ⟨some 9,none,.move,[.tmp 1 false]⟩,
 ⟨some 10,none,.call n_slices_IndexFunc_api_Dropped_api_Dropped_ false,[.tmp 8 true,.tmp 9 false]⟩,
 ⟨some 5,none,.move,[.tmp 10 false]⟩])
 (.ghost (.kill [8,9,10]) (.seq (.seq (.region [⟨some 11,none,.move,[.tmp 5 false]⟩,
 ⟨some 12,none,.bin .eql .plain,[.tmp 11 false,.val (.int .i64 (-1))]⟩])
 (.ghost (.kill [11]) (.cond (.tmp 12 false) (.ghost (.back 0) (.seq (.region [⟨some 13,none,.move,[.tmp 0 true]⟩,
 ⟨some 4,none,.move,[.tmp 13 true]⟩])
 (.ghost (.kill [0,1,5,12,13]) (.ret))))
 (.skip))))
 (.ghost (.kill [12]) (.seq (.seq (.region [⟨some 14,none,.move,[.tmp 5 false]⟩,
 ⟨some 15,none,.bin .add .plain,[.tmp 14 false,.val (.int .i64 1)]⟩,
 ⟨some 6,none,.move,[.tmp 15 false]⟩])
 (.ghost (.kill [14,15]) (.block 0 (.loop (.ghost (.kill k_slices_DeleteFunc_api_Dropped_api_Dropped__0) l_slices_DeleteFunc_api_Dropped_api_Dropped__0)))))
 (.ghost (.kill [1,6,7,16,17,18,19,20,21,22,23,24,25,26,27,28,29,30,31,32,33,34,35]) (.seq (.region [⟨some 36,none,.move,[.tmp 0 false]⟩,
 ⟨some 37,none,.move,[.tmp 5 false]⟩,
 ⟨some 38,none,.lslice 3,[.tmp 36 true,.tmp 37 false]⟩,
 ⟨none,none,.clear 3 (.agg [.int .i64 0,.int .i64 0,.int .i64 0]),[.tmp 38 true]⟩])
 (.ghost (.kill [36,37,38]) (.ghost (.back 0) (.seq (.region [⟨some 39,none,.move,[.tmp 0 true]⟩,
 ⟨some 40,none,.move,[.tmp 5 false]⟩,
 ⟨some 41,none,.cut 3,[.tmp 39 true,.tmp 40 false]⟩,
 ⟨some 4,none,.move,[.tmp 41 true]⟩])
 (.ghost (.kill [0,5,39,40,41]) (.ret)))))))))))))),[.tmp 4]⟩
def c_aborts_Row_Cut_1 : AFunc := ⟨8,false,.seq (.region [⟨some 2,none,.box,[.tmp 0 false]⟩,
 ⟨some 3,none,.move,[.val (.bool false)]⟩])
 (.ghost (.kill [0,3]) (.seq (.region [⟨some 4,none,.addOff 2,[.tmp 2 false]⟩,
 ⟨some 5,none,.load false 1 false,[.tmp 4 false]⟩,
 ⟨some 6,none,.load false 1 false,[.tmp 1 false]⟩,
 ⟨some 7,none,.bin .geq .plain,[.tmp 5 false,.tmp 6 false]⟩,
 ⟨some 3,none,.move,[.tmp 7 false]⟩])
 (.ghost (.kill [1,2,4,5,6,7]) (.ret)))),[.tmp 3]⟩
def l_ref10_Fold_0 : ACode := .seq (.region [⟨some 15,none,.bin .lss .plain,[.tmp 14 false,.tmp 13 false]⟩])
 (.seq (.cond (.tmp 15 false) (.skip)
 (.ghost (.kill [12,13,14,15]) (.exit 0)))
 (.ghost (.kill [15]) (.seq (.block 1 (.seq (.region [⟨some 16,none,.ixAddr 7,[.tmp 12 false,.tmp 14 false]⟩,
 ⟨some 17,none,.load true 7 false,[.tmp 16 false]⟩,
 ⟨some 7,none,.alloc [.int .i64 0,.int .i64 0,.int .i64 0,.int .i64 0,.bool false,.int .i64 0,.list 2 [] .full],[]⟩,
 ⟨none,none,.store 7,[.tmp 7 false,.tmp 17 false]⟩])
 (.ghost (.kill [16,17]) (.seq (.region [⟨some 19,none,.move,[.tmp 4 false]⟩,
 ⟨some 20,none,.load true 7 false,[.tmp 7 false]⟩,
 ⟨some 21,none,.call n_ref10_Table_Apply false,[.tmp 19 false,.tmp 20 false]⟩,
 ⟨some 18,none,.move,[.tmp 21 false]⟩,
 ⟨some 22,none,.move,[.proj 18 0 false]⟩,
 ⟨some 23,none,.move,[.proj 18 1 false]⟩,
 ⟨some 8,none,.alloc [.int .i64 0,.int .i64 0,.int .i64 0],[]⟩,
 ⟨none,none,.store 3,[.tmp 8 false,.tmp 22 false]⟩,
 ⟨some 9,none,.move,[.tmp 23 false]⟩])
 (.ghost (.kill [7,18,19,20,21,22,23]) (.seq (.region [⟨some 24,none,.move,[.tmp 9 false]⟩])
 (.ghost (.kill [9]) (.cond (.tmp 24 false) (.region [⟨some 25,none,.move,[.tmp 5 true]⟩,
 ⟨some 26,none,.load true 3 false,[.tmp 8 false]⟩,
 ⟨some 27,none,.buildSlice 3 (.agg [.int .i64 0,.int .i64 0,.int .i64 0]) 1 [0],[.tmp 26 false]⟩,
 ⟨some 28,none,.append 3 24 false,[.tmp 25 true,.tmp 27 true]⟩,
 ⟨some 5,none,.move,[.tmp 28 true]⟩])
 (.skip)))))))))
 (.ghost (.kill [8,24,25,26,27,28]) (.region [⟨some 29,none,.bin .add .plain,[.tmp 14 false,.val (.int .i64 1)]⟩,
 ⟨some 14,none,.move,[.tmp 29 false]⟩])))))
def k_ref10_Fold_0 : List Nat := [7,8,9,15,16,17,18,19,20,21,22,23,24,25,26,27,28,29]
def c_ref10_Fold : AFunc := ⟨32,true,.seq (.region [⟨some 2,none,.move,[.val .nilp]⟩,
 ⟨some 3,none,.move,[.val (.list 3 [] .full)]⟩])
 (.ghost (.kill [2,3]) (.seq (.region [⟨some 10,none,.build [.list 4 [] .full] [],[]⟩,
 ⟨some 11,none,.box,[.tmp 10 false]⟩,
 ⟨some 4,none,.move,[.tmp 11 false]⟩])
 (.ghost (.kill [10,11]) (.seq (.region [⟨some 5,none,.move,[.val (.list 3 [] .full)]⟩])
 (.seq (.seq (.region [⟨some 12,none,.move,[.tmp 0 true]⟩,
 ⟨some 13,none,.len false,[.tmp 12 false]⟩,
 ⟨some 14,none,.move,[.val (.int .i64 0)]⟩])
 (.ghost (.kill [0]) (.block 0 (.loop (.ghost (.kill k_ref10_Fold_0) l_ref10_Fold_0)))))
 (.ghost (.kill [7,8,9,12,13,14,15,16,17,18,19,20,21,22,23,24,25,26,27,28,29]) (.seq (.region [⟨some 30,none,.move,[.tmp 4 false]⟩,
 ⟨some 31,none,.move,[.tmp 5 true]⟩,
 ⟨some 2,none,.move,[.tmp 30 false]⟩,
 ⟨some 3,none,.move,[.tmp 31 true]⟩])
 (.ghost (.kill [4,5,30,31]) (.ret))))))))),[.tmp 2,.tmp 3]⟩
def l_ref10_Within_0 : ACode := .seq (.region [⟨some 13,none,.bin .lss .plain,[.tmp 12 false,.tmp 11 false]⟩])
 (.seq (.cond (.tmp 13 false) (.skip)
 (.ghost (.kill [1,2,10,11,12,13]) (.exit 0)))
 (.ghost (.kill [13]) (.seq (.block 1 (.seq (.region [⟨some 14,none,.ixAddr 3,[.tmp 10 false,.tmp 12 false]⟩,
 ⟨some 15,none,.load true 3 false,[.tmp 14 false]⟩,
 ⟨some 9,none,.alloc [.int .i64 0,.int .i64 0,.int .i64 0],[]⟩,
 ⟨none,none,.store 3,[.tmp 9 false,.tmp 15 false]⟩])
 (.ghost (.kill [14,15]) (.seq (.region [⟨some 16,none,.move,[.tmp 1 false]⟩,
 ⟨some 17,none,.move,[.tmp 2 false]⟩,
 ⟨some 18,none,.bin .lss .plain,[.tmp 16 false,.tmp 17 false]⟩,
 ⟨some 19,none,.move,[.tmp 18 false]⟩,
 ⟨some 20,(some (19,true)),.addOff 1,[.tmp 9 false]⟩,
 ⟨some 21,(some (19,true)),.load false 1 false,[.tmp 20 false]⟩,
 ⟨some 22,(some (19,true)),.move,[.tmp 2 false]⟩,
 ⟨some 23,(some (19,true)),.bin .lss .plain,[.tmp 21 false,.tmp 22 false]⟩,
 ⟨some 24,none,.pick,[.tmp 19 false,.tmp 23 false,.val (.bool false)]⟩,
 ⟨some 25,none,.move,[.tmp 24 false]⟩,
 ⟨some 26,(some (25,true)),.addOff 2,[.tmp 9 false]⟩,
 ⟨some 27,(some (25,true)),.load false 1 false,[.tmp 26 false]⟩,
 ⟨some 28,(some (25,true)),.move,[.tmp 1 false]⟩,
 ⟨some 29,(some (25,true)),.bin .geq .plain,[.tmp 27 false,.tmp 28 false]⟩,
 ⟨some 30,none,.pick,[.tmp 25 false,.tmp 29 false,.val (.bool false)]⟩])
 (.ghost (.kill [16,17,18,19,20,21,22,23,24,25,26,27,28,29]) (.cond (.tmp 30 false) (.region [⟨some 31,none,.move,[.tmp 7 true]⟩,
 ⟨some 32,none,.load true 3 false,[.tmp 9 false]⟩,
 ⟨some 33,none,.buildSlice 3 (.agg [.int .i64 0,.int .i64 0,.int .i64 0]) 1 [0],[.tmp 32 false]⟩,
 ⟨some 34,none,.append 3 24 false,[.tmp 31 true,.tmp 33 true]⟩,
 ⟨some 7,none,.move,[.tmp 34 true]⟩])
 (.skip)))))))
 (.ghost (.kill [9,30,31,32,33,34]) (.region [⟨some 35,none,.bin .add .plain,[.tmp 12 false,.val (.int .i64 1)]⟩,
 ⟨some 12,none,.move,[.tmp 35 false]⟩])))))
def k_ref10_Within_0 : List Nat := [9,13,14,15,16,17,18,19,20,21,22,23,24,25,26,27,28,29,30,31,32,33,34,35]
def c_ref10_Within : AFunc := ⟨37,false,.seq (.region [⟨some 6,none,.move,[.val (.list 3 [] .full)]⟩])
 (.ghost (.kill [6]) (.seq (.region [⟨some 7,none,.move,[.val (.list 3 [] .full)]⟩])
 (.seq (.seq (.region [⟨some 10,none,.move,[.tmp 0 true]⟩,
 ⟨some 11,none,.len false,[.tmp 10 false]⟩,
 ⟨some 12,none,.move,[.val (.int .i64 0)]⟩])
 (.ghost (.kill [0]) (.block 0 (.loop (.ghost (.kill k_ref10_Within_0) l_ref10_Within_0)))))
 (.ghost (.kill [1,2,9,10,11,12,13,14,15,16,17,18,19,20,21,22,23,24,25,26,27,28,29,30,31,32,33,34,35]) (.seq (.region [⟨some 36,none,.move,[.tmp 7 true]⟩,
 ⟨some 6,none,.move,[.tmp 36 true]⟩])
 (.ghost (.kill [7,36]) (.ret))))))),[.tmp 6]⟩
def c_aborts_Row_Start : AFunc := ⟨13,false,.seq (.region [⟨some 3,none,.box,[.tmp 1 false]⟩])
 (.ghost (.kill [1]) (.region [⟨some 4,none,.move,[.tmp 0 false]⟩,
 ⟨some 5,none,.move,[.tmp 0 false]⟩,
 ⟨some 6,none,.nilCheck,[.tmp 5 false]⟩,
 ⟨some 7,none,.addOff 0,[.tmp 6 false]⟩,
 ⟨some 8,none,.load false 1 true,[.tmp 7 false]⟩,
 ⟨some 9,none,.mkfn n_aborts_Row_Start_1 0,[.tmp 3 false]⟩,
 ⟨some 10,none,.call n_slices_DeleteFunc_api_Dropped_api_Dropped_ true,[.tmp 8 true,.tmp 9 false]⟩,
 ⟨some 11,none,.nilCheck,[.tmp 4 false]⟩,
 ⟨some 12,none,.addOff 0,[.tmp 11 false]⟩,
 ⟨none,none,.store 1,[.tmp 12 false,.tmp 10 true]⟩])),[]⟩
def l_ref1_Put_0 : ACode := .seq (.seq (.region [⟨some 17,none,.move,[.tmp 6 false]⟩,
 ⟨some 18,none,.bin .geq .plain,[.tmp 17 false,.val (.int .u64 128)]⟩])
 (.ghost (.kill [17]) (.cond (.tmp 18 false) (.skip)
 (.ghost (.kill [18]) (.exit 0)))))
 (.ghost (.kill [18]) (.block 1 (.seq (.region [⟨some 19,none,.move,[.tmp 5 true]⟩,
 ⟨some 20,none,.move,[.tmp 6 false]⟩,
 ⟨some 21,none,.toInt .u8,[.tmp 20 false]⟩,
 ⟨some 22,none,.bin .or .plain,[.tmp 21 false,.val (.int .u8 128)]⟩,
 ⟨some 23,none,.buildSlice 1 (.int .u8 0) 1 [0],[.tmp 22 false]⟩,
 ⟨some 24,none,.append 1 1 false,[.tmp 19 true,.tmp 23 true]⟩,
 ⟨some 5,none,.move,[.tmp 24 true]⟩])
 (.ghost (.kill [19,20,21,22,23,24]) (.region [⟨some 25,none,.move,[.tmp 6 false]⟩,
 ⟨some 26,none,.bin .shr .plain,[.tmp 25 false,.val (.int .u64 7)]⟩,
 ⟨some 6,none,.move,[.tmp 26 false]⟩])))))
def k_ref1_Put_0 : List Nat := [17,18,19,20,21,22,23,24,25,26]
def c_ref1_Put : AFunc := ⟨32,false,.seq (.region [⟨some 4,none,.move,[.val (.list 1 [] .full)]⟩])
 (.ghost (.kill [4]) (.seq (.region [⟨some 7,none,.buildSlice 1 (.int .u8 0) 0 [],[]⟩,
 ⟨some 8,none,.move,[.tmp 0 true]⟩,
 ⟨some 9,none,.append 1 1 false,[.tmp 7 true,.tmp 8 true]⟩,
 ⟨some 5,none,.move,[.tmp 9 true]⟩])
 (.ghost (.kill [0,7,8,9]) (.seq (.region [⟨some 10,none,.move,[.tmp 1 false]⟩,
 ⟨some 11,none,.bin .shl .plain,[.tmp 10 false,.val (.int .u64 1)]⟩,
 ⟨some 12,none,.toInt .u64,[.tmp 11 false]⟩,
 ⟨some 13,none,.move,[.tmp 1 false]⟩,
 ⟨some 14,none,.bin .shr .plain,[.tmp 13 false,.val (.int .u64 63)]⟩,
 ⟨some 15,none,.toInt .u64,[.tmp 14 false]⟩,
 ⟨some 16,none,.bin .xor .plain,[.tmp 12 false,.tmp 15 false]⟩,
 ⟨some 6,none,.move,[.tmp 16 false]⟩])
 (.ghost (.kill [1,10,11,12,13,14,15,16]) (.seq (.block 0 (.loop (.ghost (.kill k_ref1_Put_0) l_ref1_Put_0)))
 (.ghost (.kill [17,18,19,20,21,22,23,24,25,26]) (.seq (.region [⟨some 27,none,.move,[.tmp 5 true]⟩,
 ⟨some 28,none,.move,[.tmp 6 false]⟩,
 ⟨some 29,none,.toInt .u8,[.tmp 28 false]⟩,
 ⟨some 30,none,.buildSlice 1 (.int .u8 0) 1 [0],[.tmp 29 false]⟩,
 ⟨some 31,none,.append 1 1 false,[.tmp 27 true,.tmp 30 true]⟩,
 ⟨some 4,none,.move,[.tmp 31 true]⟩])
 (.ghost (.kill [5,6,27,28,29,30,31]) (.ret)))))))))),[.tmp 4]⟩
def c_ref1_Unseal : AFunc := ⟨20,false,.seq (.region [⟨some 2,none,.move,[.val (.list 1 [] .full)]⟩,
 ⟨some 3,none,.move,[.val (.bool false)]⟩])
 (.ghost (.kill [2,3]) (.seq (.seq (.draw [(⟨some 4,none,.move,[.tmp 0 false]⟩,⟨false,[]⟩),
 (⟨some 5,none,.len false,[.tmp 4 true]⟩,⟨false,[]⟩),
 (⟨some 6,none,.bin .lss .plain,[.tmp 5 false,.val (.int .i64 4)]⟩,⟨false,[]⟩),
 (⟨some 7,none,.move,[.tmp 6 false]⟩,⟨false,[]⟩),
 (⟨some 8,(some (7,false)),.move,[.tmp 0 false]⟩,⟨false,[]⟩),
 (⟨some 9,(some (7,false)),.slice 1 true false false,[.tmp 8 true,.val (.int .i64 4)]⟩,⟨false,[]⟩),
 (⟨some 10,(some (7,false)),.call n_ref1_Sealed false,[.tmp 9 true]⟩,⟨true,[]⟩),
 (⟨some 11,(some (7,false)),.toStr,[.tmp 10 true]⟩,⟨false,[]⟩),
 (⟨some 12,(some (7,false)),.move,[.tmp 0 false]⟩,⟨false,[6]⟩),
 (⟨some 13,(some (7,false)),.toStr,[.tmp 12 true]⟩,⟨false,[6]⟩),
 (⟨some 14,(some (7,false)),.bin .neq .plain,[.tmp 11 false,.tmp 13 false]⟩,⟨false,[]⟩),
 (⟨some 15,none,.pick,[.tmp 7 false,.val (.bool true),.tmp 14 false]⟩,⟨false,[]⟩)])
 (.ghost (.kill [4,5,6,7,8,9,10,11,12,13,14]) (.cond (.tmp 15 false) (.seq (.region [⟨some 2,none,.move,[.val (.list 1 [] .full)]⟩,
 ⟨some 3,none,.move,[.val (.bool false)]⟩])
 (.ghost (.kill [0,15]) (.ret)))
 (.skip))))
 (.ghost (.kill [15]) (.seq (.region [⟨some 16,none,.buildSlice 1 (.int .u8 0) 0 [],[]⟩,
 ⟨some 17,none,.move,[.tmp 0 true]⟩,
 ⟨some 18,none,.slice 1 true false false,[.tmp 17 true,.val (.int .i64 4)]⟩,
 ⟨some 19,none,.append 1 1 false,[.tmp 16 true,.tmp 18 true]⟩,
 ⟨some 2,none,.move,[.tmp 19 true]⟩,
 ⟨some 3,none,.move,[.val (.bool true)]⟩])
 (.ghost (.kill [0,16,17,18,19]) (.ret)))))),[.tmp 2,.tmp 3]⟩
def c_ref1_Reader_Num : AFunc := ⟨34,false,.seq (.region [⟨some 2,none,.move,[.val (.int .i64 0)]⟩])
 (.ghost (.kill [2]) (.seq (.region [⟨some 6,none,.move,[.tmp 0 false]⟩,
 ⟨some 7,none,.nilCheck,[.tmp 6 false]⟩,
 ⟨some 8,none,.addOff 0,[.tmp 7 false]⟩,
 ⟨some 9,none,.load false 1 false,[.tmp 8 false]⟩,
 ⟨some 10,none,.call n_ref1_Get false,[.tmp 9 true]⟩,
 ⟨some 5,none,.move,[.tmp 10 false]⟩,
 ⟨some 11,none,.move,[.proj 5 0 false]⟩,
 ⟨some 12,none,.move,[.proj 5 1 false]⟩,
 ⟨some 3,none,.move,[.tmp 11 false]⟩,
 ⟨some 4,none,.move,[.tmp 12 false]⟩])
 (.ghost (.kill [5,6,7,8,9,10,11,12]) (.seq (.seq (.region [⟨some 13,none,.move,[.tmp 0 false]⟩,
 ⟨some 14,none,.nilCheck,[.tmp 13 false]⟩,
 ⟨some 15,none,.addOff 1,[.tmp 14 false]⟩,
 ⟨some 16,none,.load false 1 false,[.tmp 15 false]⟩,
 ⟨some 17,none,.move,[.tmp 16 false]⟩,
 ⟨some 18,(some (17,false)),.move,[.tmp 4 false]⟩,
 ⟨some 19,(some (17,false)),.bin .eql .plain,[.tmp 18 false,.val (.int .i64 0)]⟩,
 ⟨some 20,none,.pick,[.tmp 17 false,.val (.bool true),.tmp 19 false]⟩])
 (.ghost (.kill [13,14,15,16,17,18,19]) (.cond (.tmp 20 false) (.seq (.region [⟨some 21,none,.move,[.tmp 0 false]⟩,
 ⟨some 22,none,.nilCheck,[.tmp 21 false]⟩,
 ⟨some 23,none,.addOff 1,[.tmp 22 false]⟩,
 ⟨none,none,.store 1,[.tmp 23 false,.val (.bool true)]⟩])
 (.ghost (.kill [0,3,4,20,21,22,23]) (.seq (.region [⟨some 2,none,.move,[.val (.int .i64 0)]⟩])
 (.ret))))
 (.skip))))
 (.ghost (.kill [20]) (.seq (.region [⟨some 24,none,.move,[.tmp 0 false]⟩,
 ⟨some 25,none,.move,[.tmp 0 false]⟩,
 ⟨some 26,none,.nilCheck,[.tmp 25 false]⟩,
 ⟨some 27,none,.addOff 0,[.tmp 26 false]⟩,
 ⟨some 28,none,.load false 1 false,[.tmp 27 false]⟩,
 ⟨some 29,none,.move,[.tmp 4 false]⟩,
 ⟨some 30,none,.slice 1 true false false,[.tmp 28 true,.tmp 29 false]⟩,
 ⟨some 31,none,.nilCheck,[.tmp 24 false]⟩,
 ⟨some 32,none,.addOff 0,[.tmp 31 false]⟩,
 ⟨none,none,.store 1,[.tmp 32 false,.tmp 30 true]⟩])
 (.ghost (.kill [0,4,24,25,26,27,28,29,30,31,32]) (.seq (.region [⟨some 33,none,.move,[.tmp 3 false]⟩,
 ⟨some 2,none,.move,[.tmp 33 false]⟩])
 (.ghost (.kill [3,33]) (.ret)))))))))),[.tmp 2]⟩
def c_ref1_Reader_Done : AFunc := ⟨16,false,.seq (.region [⟨some 2,none,.move,[.val (.bool false)]⟩])
 (.ghost (.kill [2]) (.seq (.region [⟨some 3,none,.move,[.tmp 0 false]⟩,
 ⟨some 4,none,.nilCheck,[.tmp 3 false]⟩,
 ⟨some 5,none,.addOff 1,[.tmp 4 false]⟩,
 ⟨some 6,none,.load false 1 false,[.tmp 5 false]⟩,
 ⟨some 7,none,.un .not,[.tmp 6 false]⟩,
 ⟨some 8,none,.move,[.tmp 7 false]⟩,
 ⟨some 9,(some (8,true)),.move,[.tmp 0 false]⟩,
 ⟨some 10,(some (8,true)),.nilCheck,[.tmp 9 false]⟩,
 ⟨some 11,(some (8,true)),.addOff 0,[.tmp 10 false]⟩,
 ⟨some 12,(some (8,true)),.load false 1 false,[.tmp 11 false]⟩,
 ⟨some 13,(some (8,true)),.len false,[.tmp 12 true]⟩,
 ⟨some 14,(some (8,true)),.bin .eql .plain,[.tmp 13 false,.val (.int .i64 0)]⟩,
 ⟨some 15,none,.pick,[.tmp 8 false,.tmp 14 false,.val (.bool false)]⟩,
 ⟨some 2,none,.move,[.tmp 15 false]⟩])
 (.ghost (.kill [0,3,4,5,6,7,8,9,10,11,12,13,14,15]) (.ret)))),[.tmp 2]⟩
def l_ref1_Crc_0 : ACode := .seq (.seq (.region [⟨some 5,none,.move,[.tmp 4 false]⟩,
 ⟨some 6,none,.move,[.tmp 0 false]⟩,
 ⟨some 7,none,.len false,[.tmp 6 true]⟩,
 ⟨some 8,none,.bin .lss .plain,[.tmp 5 false,.tmp 7 false]⟩])
 (.ghost (.kill [5,6,7]) (.cond (.tmp 8 false) (.skip)
 (.ghost (.kill [0,4,8]) (.exit 0)))))
 (.ghost (.kill [8]) (.seq (.block 1 (.region [⟨some 11,none,.move,[.tmp 3 false]⟩,
 ⟨some 12,none,.move,[.tmp 0 false]⟩,
 ⟨some 13,none,.move,[.tmp 4 false]⟩,
 ⟨some 14,none,.ixAddr 1,[.tmp 12 true,.tmp 13 false]⟩,
 ⟨some 15,none,.load false 1 false,[.tmp 14 false]⟩,
 ⟨some 16,none,.call n_ref1_Next false,[.tmp 11 false,.tmp 15 false]⟩,
 ⟨some 3,none,.move,[.tmp 16 false]⟩]))
 (.ghost (.kill [11,12,13,14,15,16]) (.region [⟨some 9,none,.move,[.tmp 4 false]⟩,
 ⟨some 10,none,.bin .add .plain,[.tmp 9 false,.val (.int .i64 1)]⟩,
 ⟨some 4,none,.move,[.tmp 10 false]⟩]))))
def k_ref1_Crc_0 : List Nat := [5,6,7,8,9,10,11,12,13,14,15,16]
def c_ref1_Crc : AFunc := ⟨19,false,.seq (.region [⟨some 2,none,.move,[.val (.int .u32 0)]⟩])
 (.ghost (.kill [2]) (.seq (.region [⟨some 3,none,.move,[.val (.int .u32 4294967295)]⟩])
 (.seq (.seq (.region [⟨some 4,none,.move,[.val (.int .i64 0)]⟩])
 (.block 0 (.loop (.ghost (.kill k_ref1_Crc_0) l_ref1_Crc_0))))
 (.ghost (.kill [0,4,5,6,7,8,9,10,11,12,13,14,15,16]) (.seq (.region [⟨some 17,none,.move,[.tmp 3 false]⟩,
 ⟨some 18,none,.un .xor,[.tmp 17 false]⟩,
 ⟨some 2,none,.move,[.tmp 18 false]⟩])
 (.ghost (.kill [3,17,18]) (.ret))))))),[.tmp 2]⟩
def c_ref14_End : AFunc := ⟨21,false,.seq (.region [⟨some 4,none,.move,[.val (.int .i64 0)]⟩])
 (.ghost (.kill [4]) (.seq (.seq (.region [⟨some 6,none,.move,[.tmp 1 false]⟩,
 ⟨some 7,none,.len false,[.tmp 6 true]⟩,
 ⟨some 8,none,.bin .eql .plain,[.tmp 7 false,.val (.int .i64 0)]⟩])
 (.ghost (.kill [6,7]) (.cond (.tmp 8 false) (.seq (.region [⟨some 9,none,.move,[.tmp 0 false]⟩,
 ⟨some 4,none,.move,[.tmp 9 false]⟩])
 (.ghost (.kill [0,1,8,9]) (.ret)))
 (.skip))))
 (.ghost (.kill [0,8]) (.seq (.region [⟨some 10,none,.move,[.tmp 1 false]⟩,
 ⟨some 11,none,.move,[.tmp 1 true]⟩,
 ⟨some 12,none,.len false,[.tmp 11 true]⟩,
 ⟨some 13,none,.bin .sub .plain,[.tmp 12 false,.val (.int .i64 1)]⟩,
 ⟨some 14,none,.ixAddr 7,[.tmp 10 true,.tmp 13 false]⟩,
 ⟨some 15,none,.load true 7 false,[.tmp 14 false]⟩,
 ⟨some 5,none,.alloc [.int .i64 0,.int .i64 0,.int .i64 0,.int .i64 0,.bool false,.int .i64 0,.list 2 [] .full],[]⟩,
 ⟨none,none,.store 7,[.tmp 5 false,.tmp 15 false]⟩])
 (.ghost (.kill [1,10,11,12,13,14,15]) (.seq (.draw [(⟨some 16,none,.addOff 0,[.tmp 5 false]⟩,⟨false,[]⟩),
 (⟨some 17,none,.load false 1 false,[.tmp 16 false]⟩,⟨false,[]⟩),
 (⟨some 18,none,.load true 7 false,[.tmp 5 false]⟩,⟨false,[]⟩),
 (⟨some 19,none,.call n_ref6_Count false,[.tmp 18 false]⟩,⟨true,[0,1]⟩),
 (⟨some 20,none,.bin .add .plain,[.tmp 17 false,.tmp 19 false]⟩,⟨false,[]⟩),
 (⟨some 4,none,.move,[.tmp 20 false]⟩,⟨false,[]⟩)])
 (.ghost (.kill [5,16,17,18,19,20]) (.ret)))))))),[.tmp 4]⟩
def c_batch_Right : AFunc := ⟨53,false,.seq (.region [⟨some 1,none,.box,[.tmp 0 false]⟩,
 ⟨some 2,none,.move,[.val (.int .i64 0)]⟩])
 (.ghost (.kill [0,2]) (.seq (.seq (.region [⟨some 4,none,.addOff 0,[.tmp 1 false]⟩,
 ⟨some 5,none,.load false 1 false,[.tmp 4 false]⟩,
 ⟨some 6,none,.bin .lss .plain,[.tmp 5 false,.val (.int .i64 0)]⟩,
 ⟨some 7,none,.move,[.tmp 6 false]⟩,
 ⟨some 8,(some (7,false)),.addOff 0,[.tmp 1 false]⟩,
 ⟨some 9,(some (7,false)),.load false 1 false,[.tmp 8 false]⟩,
 ⟨some 10,(some (7,false)),.bin .gtr .plain,[.tmp 9 false,.val (.int .i64 1099511627776)]⟩,
 ⟨some 11,none,.pick,[.tmp 7 false,.val (.bool true),.tmp 10 false]⟩])
 (.ghost (.kill [4,5,6,7,8,9,10]) (.cond (.tmp 11 false) (.seq (.region [⟨some 2,none,.move,[.val (.int .i64 18)]⟩])
 (.ghost (.kill [1,11]) (.ret)))
 (.skip))))
 (.ghost (.kill [11]) (.seq (.seq (.region [⟨some 12,none,.addOff 5,[.tmp 1 false]⟩,
 ⟨some 13,none,.load false 1 false,[.tmp 12 false]⟩,
 ⟨some 14,none,.bin .eql .plain,[.tmp 13 false,.val (.int .i64 0)]⟩])
 (.ghost (.kill [12,13]) (.cond (.tmp 14 false) (.seq (.region [⟨some 15,none,.load true 7 false,[.tmp 1 false]⟩,
 ⟨some 16,none,.call n_batch_data false,[.tmp 15 false]⟩,
 ⟨some 3,none,.move,[.tmp 16 false]⟩])
 (.ghost (.kill [14,15,16]) (.seq (.region [⟨some 17,none,.move,[.tmp 3 false]⟩,
 ⟨some 18,none,.bin .neq .plain,[.tmp 17 false,.val (.int .i64 0)]⟩])
 (.ghost (.kill [17]) (.cond (.tmp 18 false) (.seq (.region [⟨some 19,none,.move,[.tmp 3 false]⟩,
 ⟨some 2,none,.move,[.tmp 19 false]⟩])
 (.ghost (.kill [1,3,18,19]) (.ret)))
 (.skip))))))
 (.seq (.region [⟨some 20,none,.addOff 5,[.tmp 1 false]⟩,
 ⟨some 21,none,.load false 1 false,[.tmp 20 false]⟩,
 ⟨some 22,none,.bin .neq .plain,[.tmp 21 false,.val (.int .i64 1)]⟩,
 ⟨some 23,none,.move,[.tmp 22 false]⟩,
 ⟨some 24,(some (23,true)),.addOff 5,[.tmp 1 false]⟩,
 ⟨some 25,(some (23,true)),.load false 1 false,[.tmp 24 false]⟩,
 ⟨some 26,(some (23,true)),.bin .neq .plain,[.tmp 25 false,.val (.int .i64 2)]⟩,
 ⟨some 27,none,.pick,[.tmp 23 false,.tmp 26 false,.val (.bool false)]⟩,
 ⟨some 28,none,.move,[.tmp 27 false]⟩,
 ⟨some 29,(some (28,false)),.load true 7 false,[.tmp 1 false]⟩,
 ⟨some 30,(some (28,false)),.call n_batch_named false,[.tmp 29 false]⟩,
 ⟨some 31,(some (28,false)),.un .not,[.tmp 30 false]⟩,
 ⟨some 32,none,.pick,[.tmp 28 false,.val (.bool true),.tmp 31 false]⟩,
 ⟨some 33,none,.move,[.tmp 32 false]⟩,
 ⟨some 34,(some (33,false)),.addOff 3,[.tmp 1 false]⟩,
 ⟨some 35,(some (33,false)),.load false 1 false,[.tmp 34 false]⟩,
 ⟨some 36,(some (33,false)),.bin .neq .plain,[.tmp 35 false,.val (.int .i64 (-1))]⟩,
 ⟨some 37,none,.pick,[.tmp 33 false,.val (.bool true),.tmp 36 false]⟩,
 ⟨some 38,none,.move,[.tmp 37 false]⟩,
 ⟨some 39,(some (38,false)),.addOff 4,[.tmp 1 false]⟩,
 ⟨some 40,(some (38,false)),.load false 1 false,[.tmp 39 false]⟩,
 ⟨some 41,(some (38,false)),.un .not,[.tmp 40 false]⟩,
 ⟨some 42,none,.pick,[.tmp 38 false,.val (.bool true),.tmp 41 false]⟩,
 ⟨some 43,none,.move,[.tmp 42 false]⟩,
 ⟨some 44,(some (43,false)),.addOff 6,[.tmp 1 false]⟩,
 ⟨some 45,(some (43,false)),.load false 1 false,[.tmp 44 false]⟩,
 ⟨some 46,(some (43,false)),.len false,[.tmp 45 true]⟩,
 ⟨some 47,(some (43,false)),.bin .gtr .plain,[.tmp 46 false,.val (.int .i64 0)]⟩,
 ⟨some 48,none,.pick,[.tmp 43 false,.val (.bool true),.tmp 47 false]⟩])
 (.ghost (.kill [14,20,21,22,23,24,25,26,27,28,29,30,31,32,33,34,35,36,37,38,39,40,41,42,43,44,45,46,47]) (.cond (.tmp 48 false) (.seq (.region [⟨some 2,none,.move,[.val (.int .i64 12)]⟩])
 (.ghost (.kill [1,48]) (.ret)))
 (.skip)))))))
 (.ghost (.kill [3,18,48]) (.seq (.seq (.region [⟨some 49,none,.load true 7 false,[.tmp 1 false]⟩,
 ⟨some 50,none,.call n_batch_bytes false,[.tmp 49 false]⟩,
 ⟨some 51,none,.len false,[.tmp 50 true]⟩,
 ⟨some 52,none,.bin .gtr .plain,[.tmp 51 false,.val (.int .i64 4096)]⟩])
 (.ghost (.kill [1,49,50,51]) (.cond (.tmp 52 false) (.seq (.region [⟨some 2,none,.move,[.val (.int .i64 13)]⟩])
 (.ghost (.kill [52]) (.ret)))
 (.skip))))
 (.ghost (.kill [52]) (.seq (.region [⟨some 2,none,.move,[.val (.int .i64 0)]⟩])
 (.ret))))))))),[.tmp 2]⟩
def c_producer_Apply : AFunc := ⟨68,false,.seq (.region [⟨some 3,none,.box,[.tmp 0 false]⟩,
 ⟨some 5,none,.box,[.tmp 2 false]⟩,
 ⟨some 6,none,.alloc [.int .i64 0,.int .i64 0,.list 3 [] .full,.int .i64 0],[]⟩])
 (.ghost (.kill [0,2]) (.seq (.region [⟨some 8,none,.addOff 1,[.tmp 5 false]⟩,
 ⟨some 9,none,.load false 1 false,[.tmp 8 false]⟩,
 ⟨some 10,none,.addOff 2,[.tmp 5 false]⟩,
 ⟨some 11,none,.load false 1 false,[.tmp 10 false]⟩,
 ⟨some 12,none,.build [.int .i64 0,.int .i64 0,.list 3 [] .full,.int .i64 0] [(0,1),(1,1),(3,1)],[.tmp 9 false,.tmp 11 false,.val (.int .i64 (-1))]⟩,
 ⟨some 7,none,.alloc [.int .i64 0,.int .i64 0,.list 3 [] .full,.int .i64 0],[]⟩,
 ⟨none,none,.store 4,[.tmp 7 false,.tmp 12 false]⟩])
 (.ghost (.kill [8,9,10,11,12]) (.seq (.seq (.region [⟨some 13,none,.move,[.tmp 1 false]⟩])
 (.ghost (.kill [1]) (.cond (.tmp 13 false) (.seq (.region [⟨some 14,none,.addOff 3,[.tmp 3 false]⟩,
 ⟨some 15,none,.load false 1 false,[.tmp 14 false]⟩,
 ⟨some 16,none,.addOff 3,[.tmp 7 false]⟩,
 ⟨none,none,.store 1,[.tmp 16 false,.tmp 15 false]⟩])
 (.ghost (.kill [13,14,15,16]) (.seq (.region [⟨some 17,none,.addOff 2,[.tmp 5 false]⟩,
 ⟨some 18,none,.load false 1 false,[.tmp 17 false]⟩,
 ⟨some 19,none,.addOff 1,[.tmp 3 false]⟩,
 ⟨some 20,none,.load false 1 false,[.tmp 19 false]⟩,
 ⟨some 21,none,.bin .eql .plain,[.tmp 18 false,.tmp 20 false]⟩])
 (.ghost (.kill [17,18,19,20]) (.cond (.tmp 21 false) (.region [⟨some 22,none,.addOff 2,[.tmp 3 false]⟩,
 ⟨some 23,none,.load false 1 false,[.tmp 22 false]⟩,
 ⟨some 24,none,.call n_slices_Clone_3_int64_3_int64_ false,[.tmp 23 true]⟩,
 ⟨some 25,none,.addOff 2,[.tmp 7 false]⟩,
 ⟨none,none,.store 1,[.tmp 25 false,.tmp 24 true]⟩])
 (.skip))))))
 (.skip))))
 (.ghost (.kill [3,13,21,22,23,24,25]) (.seq (.seq (.region [⟨some 26,none,.addOff 5,[.tmp 5 false]⟩,
 ⟨some 27,none,.load false 1 false,[.tmp 26 false]⟩,
 ⟨some 28,none,.bin .neq .plain,[.tmp 27 false,.val (.int .i64 0)]⟩])
 (.ghost (.kill [26,27]) (.cond (.tmp 28 false) (.seq (.region [⟨some 29,none,.addOff 3,[.tmp 7 false]⟩,
 ⟨none,none,.store 1,[.tmp 29 false,.val (.int .i64 (-1))]⟩])
 (.ghost (.kill [5,28,29]) (.seq (.region [⟨some 30,none,.load true 4 false,[.tmp 7 false]⟩,
 ⟨none,none,.store 4,[.tmp 6 false,.tmp 30 false]⟩])
 (.ghost (.kill [7,30]) (.ret)))))
 (.skip))))
 (.ghost (.kill [28]) (.seq (.draw [(⟨some 31,none,.addOff 2,[.tmp 7 false]⟩,⟨false,[]⟩),
 (⟨some 32,none,.load false 1 true,[.tmp 31 false]⟩,⟨true,[]⟩),
 (⟨some 33,none,.addOff 3,[.tmp 5 false]⟩,⟨false,[1]⟩),
 (⟨some 34,none,.load false 1 false,[.tmp 33 false]⟩,⟨false,[1]⟩),
 (⟨some 35,none,.addOff 3,[.tmp 5 false]⟩,⟨false,[1]⟩),
 (⟨some 36,none,.load false 1 false,[.tmp 35 false]⟩,⟨false,[1]⟩),
 (⟨some 37,none,.addOff 6,[.tmp 5 false]⟩,⟨false,[1]⟩),
 (⟨some 38,none,.load false 1 false,[.tmp 37 false]⟩,⟨false,[1]⟩),
 (⟨some 39,none,.len false,[.tmp 38 true]⟩,⟨false,[1]⟩),
 (⟨some 40,none,.call n_seq_Last false,[.tmp 36 false,.tmp 39 false]⟩,⟨false,[1]⟩),
 (⟨some 41,none,.addOff 0,[.tmp 5 false]⟩,⟨false,[1]⟩),
 (⟨some 42,none,.load false 1 false,[.tmp 41 false]⟩,⟨false,[1]⟩),
 (⟨some 43,none,.build [.int .i64 0,.int .i64 0,.int .i64 0] [(0,1),(1,1),(2,1)],[.tmp 34 false,.tmp 40 false,.tmp 42 false]⟩,⟨false,[1]⟩),
 (⟨some 44,none,.buildSlice 3 (.agg [.int .i64 0,.int .i64 0,.int .i64 0]) 1 [0],[.tmp 43 false]⟩,⟨false,[1]⟩),
 (⟨some 45,none,.append 3 24 false,[.tmp 32 true,.tmp 44 true]⟩,⟨true,[]⟩),
 (⟨some 46,none,.addOff 2,[.tmp 7 false]⟩,⟨false,[]⟩),
 (⟨none,none,.store 1,[.tmp 46 false,.tmp 45 true]⟩,⟨true,[]⟩)])
 (.ghost (.kill [31,32,33,34,35,36,37,38,39,40,41,42,43,44,45,46]) (.seq (.region [⟨some 47,none,.addOff 2,[.tmp 7 false]⟩,
 ⟨some 48,none,.load false 1 false,[.tmp 47 false]⟩,
 ⟨some 49,none,.addOff 2,[.tmp 7 false]⟩,
 ⟨some 50,none,.load false 1 false,[.tmp 49 false]⟩,
 ⟨some 51,none,.len false,[.tmp 50 true]⟩,
 ⟨some 52,none,.bin .sub .plain,[.tmp 51 false,.val (.int .i64 5)]⟩,
 ⟨some 53,none,.mm true,[.val (.int .i64 0),.tmp 52 false]⟩,
 ⟨some 54,none,.slice 3 true false false,[.tmp 48 true,.tmp 53 false]⟩,
 ⟨some 55,none,.call n_slices_Clone_3_int64_3_int64_ false,[.tmp 54 true]⟩,
 ⟨some 56,none,.addOff 2,[.tmp 7 false]⟩,
 ⟨none,none,.store 1,[.tmp 56 false,.tmp 55 true]⟩])
 (.ghost (.kill [47,48,49,50,51,52,53,54,55,56]) (.seq (.seq (.region [⟨some 57,none,.addOff 4,[.tmp 5 false]⟩,
 ⟨some 58,none,.load false 1 false,[.tmp 57 false]⟩,
 ⟨some 59,none,.move,[.tmp 58 false]⟩,
 ⟨some 60,(some (59,true)),.addOff 3,[.tmp 7 false]⟩,
 ⟨some 61,(some (59,true)),.load false 1 false,[.tmp 60 false]⟩,
 ⟨some 62,(some (59,true)),.bin .lss .plain,[.tmp 61 false,.val (.int .i64 0)]⟩,
 ⟨some 63,none,.pick,[.tmp 59 false,.tmp 62 false,.val (.bool false)]⟩])
 (.ghost (.kill [57,58,59,60,61,62]) (.cond (.tmp 63 false) (.region [⟨some 64,none,.addOff 0,[.tmp 5 false]⟩,
 ⟨some 65,none,.load false 1 false,[.tmp 64 false]⟩,
 ⟨some 66,none,.addOff 3,[.tmp 7 false]⟩,
 ⟨none,none,.store 1,[.tmp 66 false,.tmp 65 false]⟩])
 (.skip))))
 (.ghost (.kill [5,63,64,65,66]) (.seq (.region [⟨some 67,none,.load true 4 false,[.tmp 7 false]⟩,
 ⟨none,none,.store 4,[.tmp 6 false,.tmp 67 false]⟩])
 (.ghost (.kill [7,67]) (.ret)))))))))))))))),[.cell 6 true 4]⟩
def c_keep_Tape_Batch : AFunc := ⟨51,false,.seq (.region [⟨some 4,none,.alloc [.int .i64 0,.int .i64 0,.int .i64 0,.int .i64 0,.bool false,.int .i64 0,.list 2 [] .full],[]⟩])
 (.seq (.region [⟨some 6,none,.move,[.tmp 1 false]⟩,
 ⟨some 7,none,.move,[.tmp 0 false]⟩,
 ⟨some 8,none,.call n_keep_Tape_Next false,[.tmp 7 false,.val (.int .i64 4)]⟩,
 ⟨some 9,none,.bin .sub .plain,[.tmp 8 false,.val (.int .i64 1)]⟩,
 ⟨some 10,none,.build [.int .i64 0,.int .i64 0,.int .i64 0,.int .i64 0,.bool false,.int .i64 0,.list 2 [] .full] [(0,1),(1,1)],[.tmp 6 false,.tmp 9 false]⟩,
 ⟨some 5,none,.alloc [.int .i64 0,.int .i64 0,.int .i64 0,.int .i64 0,.bool false,.int .i64 0,.list 2 [] .full],[]⟩,
 ⟨none,none,.store 7,[.tmp 5 false,.tmp 10 false]⟩])
 (.ghost (.kill [1,6,7,8,9,10]) (.seq (.seq (.region [⟨some 11,none,.addOff 1,[.tmp 5 false]⟩,
 ⟨some 12,none,.load false 1 false,[.tmp 11 false]⟩,
 ⟨some 13,none,.bin .lss .plain,[.tmp 12 false,.val (.int .i64 0)]⟩])
 (.ghost (.kill [11,12]) (.cond (.tmp 13 false) (.seq (.region [⟨some 14,none,.move,[.tmp 0 false]⟩,
 ⟨some 15,none,.call n_keep_Tape_Recs false,[.tmp 14 false,.val (.int .i64 4)]⟩,
 ⟨some 16,none,.addOff 2,[.tmp 5 false]⟩,
 ⟨none,none,.store 1,[.tmp 16 false,.val (.int .i64 (-1))]⟩,
 ⟨some 17,none,.addOff 3,[.tmp 5 false]⟩,
 ⟨none,none,.store 1,[.tmp 17 false,.val (.int .i64 (-1))]⟩,
 ⟨some 18,none,.addOff 6,[.tmp 5 false]⟩,
 ⟨none,none,.store 1,[.tmp 18 false,.tmp 15 true]⟩])
 (.ghost (.kill [0,13,14,15,16,17,18]) (.seq (.region [⟨some 19,none,.load true 7 false,[.tmp 5 false]⟩,
 ⟨none,none,.store 7,[.tmp 4 false,.tmp 19 false]⟩])
 (.ghost (.kill [5,19]) (.ret)))))
 (.skip))))
 (.ghost (.kill [13]) (.seq (.region [⟨some 20,none,.move,[.tmp 0 false]⟩,
 ⟨some 21,none,.call n_keep_Tape_Next false,[.tmp 20 false,.val (.int .i64 3)]⟩,
 ⟨some 22,none,.addOff 2,[.tmp 5 false]⟩,
 ⟨none,none,.store 1,[.tmp 22 false,.tmp 21 false]⟩])
 (.ghost (.kill [20,21,22]) (.seq (.seq (.region [⟨some 23,none,.move,[.tmp 0 false]⟩,
 ⟨some 24,none,.call n_keep_Tape_Next false,[.tmp 23 false,.val (.int .i64 4)]⟩,
 ⟨some 25,none,.bin .eql .plain,[.tmp 24 false,.val (.int .i64 0)]⟩])
 (.ghost (.kill [23,24]) (.cond (.tmp 25 false) (.seq (.region [⟨some 26,none,.move,[.tmp 0 false]⟩,
 ⟨some 27,none,.call n_keep_Tape_Next false,[.tmp 26 false,.val (.int .i64 2)]⟩,
 ⟨some 28,none,.bin .add .plain,[.val (.int .i64 1),.tmp 27 false]⟩,
 ⟨some 29,none,.addOff 3,[.tmp 5 false]⟩,
 ⟨none,none,.store 1,[.tmp 29 false,.val (.int .i64 (-1))]⟩,
 ⟨some 30,none,.addOff 4,[.tmp 5 false]⟩,
 ⟨none,none,.store 1,[.tmp 30 false,.val (.bool true)]⟩,
 ⟨some 31,none,.addOff 5,[.tmp 5 false]⟩,
 ⟨none,none,.store 1,[.tmp 31 false,.tmp 28 false]⟩])
 (.ghost (.kill [0,25,26,27,28,29,30,31]) (.seq (.region [⟨some 32,none,.load true 7 false,[.tmp 5 false]⟩,
 ⟨none,none,.store 7,[.tmp 4 false,.tmp 32 false]⟩])
 (.ghost (.kill [5,32]) (.ret)))))
 (.skip))))
 (.ghost (.kill [25]) (.seq (.region [⟨some 33,none,.move,[.tmp 0 false]⟩,
 ⟨some 34,none,.call n_keep_Tape_Next false,[.tmp 33 false,.val (.int .i64 6)]⟩,
 ⟨some 35,none,.move,[.tmp 0 false]⟩,
 ⟨some 36,none,.call n_keep_Tape_Next false,[.tmp 35 false,.val (.int .i64 2)]⟩,
 ⟨some 37,none,.bin .eql .plain,[.tmp 36 false,.val (.int .i64 0)]⟩,
 ⟨some 38,none,.move,[.tmp 0 false]⟩,
 ⟨some 39,none,.call n_keep_Tape_Recs false,[.tmp 38 false,.val (.int .i64 4)]⟩,
 ⟨some 40,none,.addOff 3,[.tmp 5 false]⟩,
 ⟨none,none,.store 1,[.tmp 40 false,.tmp 34 false]⟩,
 ⟨some 41,none,.addOff 4,[.tmp 5 false]⟩,
 ⟨none,none,.store 1,[.tmp 41 false,.tmp 37 false]⟩,
 ⟨some 42,none,.addOff 6,[.tmp 5 false]⟩,
 ⟨none,none,.store 1,[.tmp 42 false,.tmp 39 true]⟩])
 (.ghost (.kill [33,34,35,36,37,38,39,40,41,42]) (.seq (.seq (.region [⟨some 43,none,.move,[.tmp 0 false]⟩,
 ⟨some 44,none,.call n_keep_Tape_Next false,[.tmp 43 false,.val (.int .i64 9)]⟩,
 ⟨some 45,none,.bin .eql .plain,[.tmp 44 false,.val (.int .i64 0)]⟩])
 (.ghost (.kill [43,44]) (.cond (.tmp 45 false) (.region [⟨some 46,none,.move,[.tmp 0 false]⟩,
 ⟨some 47,none,.call n_keep_Tape_Next false,[.tmp 46 false,.val (.int .i64 3)]⟩,
 ⟨some 48,none,.bin .sub .plain,[.val (.int .i64 2147483647),.tmp 47 false]⟩,
 ⟨some 49,none,.addOff 3,[.tmp 5 false]⟩,
 ⟨none,none,.store 1,[.tmp 49 false,.tmp 48 false]⟩])
 (.skip))))
 (.ghost (.kill [0,45,46,47,48,49]) (.seq (.region [⟨some 50,none,.load true 7 false,[.tmp 5 false]⟩,
 ⟨none,none,.store 7,[.tmp 4 false,.tmp 50 false]⟩])
 (.ghost (.kill [5,50]) (.ret))))))))))))))),[.cell 4 true 7]⟩
def c_keep_Tape_Next : AFunc := ⟨40,false,.seq (.region [⟨some 4,none,.move,[.val (.int .i64 0)]⟩])
 (.ghost (.kill [4]) (.seq (.seq (.draw [(⟨some 5,none,.move,[.tmp 0 false]⟩,⟨false,[]⟩),
 (⟨some 6,none,.nilCheck,[.tmp 5 false]⟩,⟨false,[]⟩),
 (⟨some 7,none,.addOff 1,[.tmp 6 false]⟩,⟨false,[]⟩),
 (⟨some 8,none,.load false 1 false,[.tmp 7 false]⟩,⟨false,[]⟩),
 (⟨some 9,none,.move,[.tmp 0 false]⟩,⟨false,[]⟩),
 (⟨some 10,none,.nilCheck,[.tmp 9 false]⟩,⟨false,[]⟩),
 (⟨some 11,none,.addOff 0,[.tmp 10 false]⟩,⟨false,[]⟩),
 (⟨some 12,none,.load false 1 false,[.tmp 11 false]⟩,⟨false,[]⟩),
 (⟨some 13,none,.len false,[.tmp 12 true]⟩,⟨false,[]⟩),
 (⟨some 14,none,.bin .geq .plain,[.tmp 8 false,.tmp 13 false]⟩,⟨false,[]⟩),
 (⟨some 15,none,.move,[.tmp 14 false]⟩,⟨false,[]⟩),
 (⟨some 16,(some (15,false)),.move,[.tmp 1 false]⟩,⟨false,[]⟩),
 (⟨some 17,(some (15,false)),.bin .lss .plain,[.tmp 16 false,.val (.int .i64 1)]⟩,⟨false,[]⟩),
 (⟨some 18,none,.pick,[.tmp 15 false,.val (.bool true),.tmp 17 false]⟩,⟨false,[]⟩)])
 (.ghost (.kill [5,6,7,8,9,10,11,12,13,14,15,16,17]) (.cond (.tmp 18 false) (.seq (.region [⟨some 4,none,.move,[.val (.int .i64 0)]⟩])
 (.ghost (.kill [0,1,18]) (.ret)))
 (.skip))))
 (.ghost (.kill [18]) (.seq (.region [⟨some 19,none,.move,[.tmp 0 false]⟩,
 ⟨some 20,none,.nilCheck,[.tmp 19 false]⟩,
 ⟨some 21,none,.addOff 1,[.tmp 20 false]⟩,
 ⟨some 22,none,.load false 1 false,[.tmp 21 false]⟩,
 ⟨some 23,none,.bin .add .plain,[.tmp 22 false,.val (.int .i64 1)]⟩,
 ⟨some 24,none,.nilCheck,[.tmp 19 false]⟩,
 ⟨some 25,none,.addOff 1,[.tmp 24 false]⟩,
 ⟨none,none,.store 1,[.tmp 25 false,.tmp 23 false]⟩])
 (.ghost (.kill [19,20,21,22,23,24,25]) (.seq (.draw [(⟨some 26,none,.move,[.tmp 0 false]⟩,⟨false,[]⟩),
 (⟨some 27,none,.nilCheck,[.tmp 26 false]⟩,⟨false,[]⟩),
 (⟨some 28,none,.addOff 0,[.tmp 27 false]⟩,⟨false,[]⟩),
 (⟨some 29,none,.load false 1 false,[.tmp 28 false]⟩,⟨false,[]⟩),
 (⟨some 30,none,.move,[.tmp 0 false]⟩,⟨false,[]⟩),
 (⟨some 31,none,.nilCheck,[.tmp 30 false]⟩,⟨false,[]⟩),
 (⟨some 32,none,.addOff 1,[.tmp 31 false]⟩,⟨false,[]⟩),
 (⟨some 33,none,.load false 1 false,[.tmp 32 false]⟩,⟨false,[]⟩),
 (⟨some 34,none,.bin .sub .plain,[.tmp 33 false,.val (.int .i64 1)]⟩,⟨false,[]⟩),
 (⟨some 35,none,.ixAddr 1,[.tmp 29 true,.tmp 34 false]⟩,⟨false,[]⟩),
 (⟨some 36,none,.load false 1 false,[.tmp 35 false]⟩,⟨false,[]⟩),
 (⟨some 37,none,.call n_book_Within false,[.tmp 36 false,.val (.int .i64 0),.val (.int .i64 1073741824)]⟩,⟨false,[]⟩),
 (⟨some 38,none,.move,[.tmp 1 false]⟩,⟨false,[]⟩),
 (⟨some 39,none,.bin .rem .plain,[.tmp 37 false,.tmp 38 false]⟩,⟨false,[]⟩),
 (⟨some 4,none,.move,[.tmp 39 false]⟩,⟨false,[]⟩)])
 (.ghost (.kill [0,1,26,27,28,29,30,31,32,33,34,35,36,37,38,39]) (.ret)))))))),[.tmp 4]⟩
def c_ref14_Model_Producers : AFunc := ⟨17,false,.seq (.region [⟨some 2,none,.move,[.val (.list 4 [] .full)]⟩])
 (.ghost (.kill [2]) (.seq (.region [⟨some 6,none,.move,[.tmp 0 false]⟩,
 ⟨some 7,none,.nilCheck,[.tmp 6 false]⟩,
 ⟨some 8,none,.addOff 2,[.tmp 7 false]⟩,
 ⟨some 9,none,.load false 1 false,[.tmp 8 false]⟩,
 ⟨some 10,none,.call n_ref10_Fold false,[.tmp 9 true]⟩,
 ⟨some 5,none,.move,[.tmp 10 true]⟩,
 ⟨some 11,none,.move,[.proj 5 0 false]⟩,
 ⟨some 12,none,.move,[.proj 5 1 true]⟩,
 ⟨some 3,none,.move,[.tmp 11 false]⟩,
 ⟨some 4,none,.move,[.tmp 12 true]⟩])
 (.ghost (.kill [0,4,5,6,7,8,9,10,11,12]) (.seq (.region [⟨some 13,none,.move,[.tmp 3 false]⟩,
 ⟨some 14,none,.nilCheck,[.tmp 13 false]⟩,
 ⟨some 15,none,.addOff 0,[.tmp 14 false]⟩,
 ⟨some 16,none,.load false 1 false,[.tmp 15 false]⟩,
 ⟨some 2,none,.move,[.tmp 16 true]⟩])
 (.ghost (.kill [3,13,14,15,16]) (.ret)))))),[.tmp 2]⟩
def c_ref14_Model_put : AFunc := ⟨65,false,.seq (.region [⟨some 3,none,.box,[.tmp 1 false]⟩,
 ⟨some 4,none,.move,[.val (.int .i64 0)]⟩,
 ⟨some 5,none,.move,[.val (.int .i64 0)]⟩])
 (.ghost (.kill [1,4,5]) (.seq (.region [⟨some 11,none,.move,[.tmp 0 false]⟩,
 ⟨some 12,none,.nilCheck,[.tmp 11 false]⟩,
 ⟨some 13,none,.addOff 2,[.tmp 12 false]⟩,
 ⟨some 14,none,.load false 1 false,[.tmp 13 false]⟩,
 ⟨some 15,none,.call n_ref10_Fold false,[.tmp 14 true]⟩,
 ⟨some 10,none,.move,[.tmp 15 true]⟩,
 ⟨some 16,none,.move,[.proj 10 0 false]⟩,
 ⟨some 17,none,.move,[.proj 10 1 true]⟩,
 ⟨some 6,none,.move,[.tmp 16 false]⟩,
 ⟨some 7,none,.move,[.tmp 17 true]⟩])
 (.ghost (.kill [7,10,11,12,13,14,15,16,17]) (.seq (.region [⟨some 19,none,.move,[.tmp 6 false]⟩,
 ⟨some 20,none,.load true 7 false,[.tmp 3 false]⟩,
 ⟨some 21,none,.call n_ref10_Table_Check false,[.tmp 19 false,.tmp 20 false]⟩,
 ⟨some 18,none,.move,[.tmp 21 false]⟩,
 ⟨some 22,none,.move,[.proj 18 0 false]⟩,
 ⟨some 23,none,.move,[.proj 18 1 false]⟩,
 ⟨some 8,none,.move,[.tmp 22 false]⟩,
 ⟨some 9,none,.move,[.tmp 23 false]⟩])
 (.ghost (.kill [6,18,19,20,21,22,23]) (.seq (.seq (.region [⟨some 24,none,.move,[.tmp 9 false]⟩,
 ⟨some 25,none,.bin .neq .plain,[.tmp 24 false,.val (.int .i64 0)]⟩])
 (.ghost (.kill [24]) (.cond (.tmp 25 false) (.seq (.region [⟨some 26,none,.move,[.tmp 9 false]⟩,
 ⟨some 4,none,.move,[.val (.int .i64 (-1))]⟩,
 ⟨some 5,none,.move,[.tmp 26 false]⟩])
 (.ghost (.kill [0,3,8,9,25,26]) (.ret)))
 (.skip))))
 (.ghost (.kill [9,25]) (.seq (.seq (.region [⟨some 27,none,.move,[.tmp 8 false]⟩,
 ⟨some 28,none,.bin .geq .plain,[.tmp 27 false,.val (.int .i64 0)]⟩])
 (.ghost (.kill [27]) (.cond (.tmp 28 false) (.seq (.region [⟨some 29,none,.move,[.tmp 8 false]⟩,
 ⟨some 4,none,.move,[.tmp 29 false]⟩,
 ⟨some 5,none,.move,[.val (.int .i64 0)]⟩])
 (.ghost (.kill [0,3,8,28,29]) (.ret)))
 (.skip))))
 (.ghost (.kill [8,28]) (.seq (.seq (.draw [(⟨some 30,none,.move,[.tmp 0 false]⟩,⟨false,[]⟩),
 (⟨some 31,none,.call n_ref14_Model_size false,[.tmp 30 false]⟩,⟨true,[]⟩),
 (⟨some 32,none,.load true 7 false,[.tmp 3 false]⟩,⟨false,[1]⟩),
 (⟨some 33,none,.call n_ref6_Size false,[.tmp 32 false]⟩,⟨true,[]⟩),
 (⟨some 34,none,.bin .add .plain,[.tmp 31 false,.tmp 33 false]⟩,⟨false,[]⟩),
 (⟨some 35,none,.move,[.tmp 0 false]⟩,⟨false,[1,3]⟩),
 (⟨some 36,none,.nilCheck,[.tmp 35 false]⟩,⟨false,[1,3]⟩),
 (⟨some 37,none,.addOff 0,[.tmp 36 false]⟩,⟨false,[1,3]⟩),
 (⟨some 38,none,.load false 1 false,[.tmp 37 false]⟩,⟨false,[1,3]⟩),
 (⟨some 39,none,.bin .gtr .plain,[.tmp 34 false,.tmp 38 false]⟩,⟨false,[]⟩)])
 (.ghost (.kill [30,31,32,33,34,35,36,37,38]) (.cond (.tmp 39 false) (.seq (.region [⟨some 4,none,.move,[.val (.int .i64 (-1))]⟩,
 ⟨some 5,none,.move,[.val (.int .i64 17)]⟩])
 (.ghost (.kill [0,3,39]) (.ret)))
 (.skip))))
 (.ghost (.kill [39]) (.seq (.seq (.draw [(⟨some 40,none,.move,[.tmp 0 false]⟩,⟨false,[]⟩),
 (⟨some 41,none,.call n_ref14_Model_End false,[.tmp 40 false]⟩,⟨true,[]⟩),
 (⟨some 42,none,.load true 7 false,[.tmp 3 false]⟩,⟨false,[1]⟩),
 (⟨some 43,none,.call n_ref6_Count false,[.tmp 42 false]⟩,⟨true,[]⟩),
 (⟨some 44,none,.bin .add .plain,[.tmp 41 false,.tmp 43 false]⟩,⟨false,[]⟩),
 (⟨some 45,none,.bin .gtr .plain,[.tmp 44 false,.val (.int .i64 1099511627776)]⟩,⟨false,[]⟩)])
 (.ghost (.kill [40,41,42,43,44]) (.cond (.tmp 45 false) (.seq (.region [⟨some 4,none,.move,[.val (.int .i64 (-1))]⟩,
 ⟨some 5,none,.move,[.val (.int .i64 18)]⟩])
 (.ghost (.kill [0,3,45]) (.ret)))
 (.skip))))
 (.ghost (.kill [45]) (.seq (.region [⟨some 46,none,.buildSlice 2 (.agg [.str [],.str []]) 0 [],[]⟩,
 ⟨some 47,none,.addOff 6,[.tmp 3 false]⟩,
 ⟨some 48,none,.load false 1 false,[.tmp 47 false]⟩,
 ⟨some 49,none,.append 2 32 false,[.tmp 46 true,.tmp 48 true]⟩,
 ⟨some 50,none,.addOff 6,[.tmp 3 false]⟩,
 ⟨none,none,.store 1,[.tmp 50 false,.tmp 49 true]⟩])
 (.ghost (.kill [46,47,48,49,50]) (.seq (.draw [(⟨some 51,none,.move,[.tmp 0 false]⟩,⟨false,[]⟩),
 (⟨some 52,none,.buildSlice 7 (.agg [.int .i64 0,.int .i64 0,.int .i64 0,.int .i64 0,.bool false,.int .i64 0,.list 2 [] .full]) 0 [],[]⟩,⟨false,[]⟩),
 (⟨some 53,none,.move,[.tmp 0 false]⟩,⟨false,[]⟩),
 (⟨some 54,none,.nilCheck,[.tmp 53 false]⟩,⟨false,[]⟩),
 (⟨some 55,none,.addOff 2,[.tmp 54 false]⟩,⟨false,[]⟩),
 (⟨some 56,none,.load false 1 false,[.tmp 55 false]⟩,⟨false,[]⟩),
 (⟨some 57,none,.append 7 72 false,[.tmp 52 true,.tmp 56 true]⟩,⟨true,[0]⟩),
 (⟨some 58,none,.load true 7 false,[.tmp 3 false]⟩,⟨false,[6]⟩),
 (⟨some 59,none,.buildSlice 7 (.agg [.int .i64 0,.int .i64 0,.int .i64 0,.int .i64 0,.bool false,.int .i64 0,.list 2 [] .full]) 1 [0],[.tmp 58 false]⟩,⟨false,[6]⟩),
 (⟨some 60,none,.append 7 72 false,[.tmp 57 true,.tmp 59 true]⟩,⟨true,[0]⟩),
 (⟨some 61,none,.nilCheck,[.tmp 51 false]⟩,⟨false,[]⟩),
 (⟨some 62,none,.addOff 2,[.tmp 61 false]⟩,⟨false,[]⟩),
 (⟨none,none,.store 1,[.tmp 62 false,.tmp 60 true]⟩,⟨true,[]⟩)])
 (.ghost (.kill [0,51,52,53,54,55,56,57,58,59,60,61,62]) (.seq (.region [⟨some 63,none,.addOff 0,[.tmp 3 false]⟩,
 ⟨some 64,none,.load false 1 false,[.tmp 63 false]⟩,
 ⟨some 4,none,.move,[.tmp 64 false]⟩,
 ⟨some 5,none,.move,[.val (.int .i64 0)]⟩])
 (.ghost (.kill [3,63,64]) (.ret)))))))))))))))))))),[.tmp 4,.tmp 5]⟩
def c_ref14_Model_End : AFunc := ⟨12,false,.seq (.region [⟨some 2,none,.move,[.val (.int .i64 0)]⟩])
 (.ghost (.kill [2]) (.seq (.draw [(⟨some 3,none,.move,[.tmp 0 false]⟩,⟨false,[]⟩),
 (⟨some 4,none,.nilCheck,[.tmp 3 false]⟩,⟨false,[]⟩),
 (⟨some 5,none,.addOff 1,[.tmp 4 false]⟩,⟨false,[]⟩),
 (⟨some 6,none,.load false 1 false,[.tmp 5 false]⟩,⟨false,[]⟩),
 (⟨some 7,none,.move,[.tmp 0 false]⟩,⟨false,[]⟩),
 (⟨some 8,none,.nilCheck,[.tmp 7 false]⟩,⟨false,[]⟩),
 (⟨some 9,none,.addOff 2,[.tmp 8 false]⟩,⟨false,[]⟩),
 (⟨some 10,none,.load false 1 false,[.tmp 9 false]⟩,⟨false,[]⟩),
 (⟨some 11,none,.call n_ref14_End false,[.tmp 6 false,.tmp 10 true]⟩,⟨true,[]⟩),
 (⟨some 2,none,.move,[.tmp 11 false]⟩,⟨false,[]⟩)])
 (.ghost (.kill [0,3,4,5,6,7,8,9,10,11]) (.ret)))),[.tmp 2]⟩
def c_ref6_Right : AFunc := ⟨13,false,.seq (.region [⟨some 1,none,.box,[.tmp 0 false]⟩,
 ⟨some 2,none,.move,[.val (.int .i64 0)]⟩])
 (.ghost (.kill [0,2]) (.seq (.seq (.region [⟨some 4,none,.load true 7 false,[.tmp 1 false]⟩,
 ⟨some 5,none,.call n_ref6_plain false,[.tmp 4 false]⟩,
 ⟨some 3,none,.move,[.tmp 5 false]⟩])
 (.ghost (.kill [4,5]) (.seq (.region [⟨some 6,none,.move,[.tmp 3 false]⟩,
 ⟨some 7,none,.bin .neq .plain,[.tmp 6 false,.val (.int .i64 0)]⟩])
 (.ghost (.kill [6]) (.cond (.tmp 7 false) (.seq (.region [⟨some 8,none,.move,[.tmp 3 false]⟩,
 ⟨some 2,none,.move,[.tmp 8 false]⟩])
 (.ghost (.kill [1,3,7,8]) (.ret)))
 (.skip))))))
 (.ghost (.kill [3,7]) (.seq (.seq (.region [⟨some 9,none,.load true 7 false,[.tmp 1 false]⟩,
 ⟨some 10,none,.call n_ref6_write false,[.tmp 9 false]⟩,
 ⟨some 11,none,.len false,[.tmp 10 true]⟩,
 ⟨some 12,none,.bin .gtr .plain,[.tmp 11 false,.val (.int .i64 4096)]⟩])
 (.ghost (.kill [1,9,10,11]) (.cond (.tmp 12 false) (.seq (.region [⟨some 2,none,.move,[.val (.int .i64 13)]⟩])
 (.ghost (.kill [12]) (.ret)))
 (.skip))))
 (.ghost (.kill [12]) (.seq (.region [⟨some 2,none,.move,[.val (.int .i64 0)]⟩])
 (.ret))))))),[.tmp 2]⟩
def l_crc_Of_0 : ACode := .seq (.region [⟨some 9,none,.bin .lss .plain,[.tmp 8 false,.tmp 7 false]⟩])
 (.seq (.cond (.tmp 9 false) (.skip)
 (.ghost (.kill [6,7,8,9]) (.exit 0)))
 (.ghost (.kill [9]) (.seq (.block 1 (.seq (.region [⟨some 10,none,.ixAddr 1,[.tmp 6 false,.tmp 8 false]⟩,
 ⟨some 11,none,.load false 1 false,[.tmp 10 false]⟩,
 ⟨some 5,none,.move,[.tmp 11 false]⟩])
 (.ghost (.kill [10,11]) (.region [⟨some 12,none,.move,[.tmp 3 false]⟩,
 ⟨some 13,none,.move,[.tmp 5 false]⟩,
 ⟨some 14,none,.call n_crc_Next false,[.tmp 12 false,.tmp 13 false]⟩,
 ⟨some 3,none,.move,[.tmp 14 false]⟩]))))
 (.ghost (.kill [5,12,13,14]) (.region [⟨some 15,none,.bin .add .plain,[.tmp 8 false,.val (.int .i64 1)]⟩,
 ⟨some 8,none,.move,[.tmp 15 false]⟩])))))
def k_crc_Of_0 : List Nat := [5,9,10,11,12,13,14,15]
def c_crc_Of : AFunc := ⟨18,false,.seq (.region [⟨some 2,none,.move,[.val (.int .u32 0)]⟩])
 (.ghost (.kill [2]) (.seq (.region [⟨some 3,none,.move,[.val (.int .u32 4294967295)]⟩])
 (.seq (.seq (.region [⟨some 6,none,.move,[.tmp 0 true]⟩,
 ⟨some 7,none,.len false,[.tmp 6 false]⟩,
 ⟨some 8,none,.move,[.val (.int .i64 0)]⟩])
 (.ghost (.kill [0]) (.block 0 (.loop (.ghost (.kill k_crc_Of_0) l_crc_Of_0)))))
 (.ghost (.kill [5,6,7,8,9,10,11,12,13,14,15]) (.seq (.region [⟨some 16,none,.move,[.tmp 3 false]⟩,
 ⟨some 17,none,.un .xor,[.tmp 16 false]⟩,
 ⟨some 2,none,.move,[.tmp 17 false]⟩])
 (.ghost (.kill [3,16,17]) (.ret))))))),[.tmp 2]⟩
def l_varint_Get_0 : ACode := .seq (.region [⟨some 12,none,.bin .lss .plain,[.tmp 11 false,.tmp 10 false]⟩])
 (.seq (.cond (.tmp 12 false) (.skip)
 (.ghost (.kill [0,4,10,11,12]) (.exit 0)))
 (.ghost (.kill [12]) (.seq (.block 1 (.seq (.region [⟨some 13,none,.move,[.tmp 11 false]⟩,
 ⟨some 5,none,.move,[.tmp 13 false]⟩])
 (.ghost (.kill [13]) (.seq (.region [⟨some 14,none,.move,[.tmp 0 false]⟩,
 ⟨some 15,none,.move,[.tmp 5 false]⟩,
 ⟨some 16,none,.ixAddr 1,[.tmp 14 true,.tmp 15 false]⟩,
 ⟨some 17,none,.load false 1 false,[.tmp 16 false]⟩,
 ⟨some 18,none,.toInt .u64,[.tmp 17 false]⟩,
 ⟨some 6,none,.move,[.tmp 18 false]⟩])
 (.ghost (.kill [14,15,16,17,18]) (.seq (.region [⟨some 19,none,.move,[.tmp 6 false]⟩,
 ⟨some 20,none,.bin .andNot .plain,[.tmp 19 false,.val (.int .u64 128)]⟩,
 ⟨some 7,none,.move,[.tmp 20 false]⟩])
 (.ghost (.kill [19,20]) (.seq (.seq (.region [⟨some 21,none,.move,[.tmp 7 false]⟩,
 ⟨some 22,none,.move,[.tmp 5 false]⟩,
 ⟨some 23,none,.bin .mul .plain,[.tmp 22 false,.val (.int .i64 7)]⟩,
 ⟨some 24,none,.bin .shl .plain,[.tmp 21 false,.tmp 23 false]⟩,
 ⟨some 25,none,.move,[.tmp 5 false]⟩,
 ⟨some 26,none,.bin .mul .plain,[.tmp 25 false,.val (.int .i64 7)]⟩,
 ⟨some 27,none,.bin .shr .plain,[.tmp 24 false,.tmp 26 false]⟩,
 ⟨some 28,none,.move,[.tmp 7 false]⟩,
 ⟨some 29,none,.bin .neq .plain,[.tmp 27 false,.tmp 28 false]⟩])
 (.ghost (.kill [21,22,23,24,25,26,27,28]) (.cond (.tmp 29 false) (.seq (.region [⟨some 2,none,.move,[.val (.int .i64 0)]⟩,
 ⟨some 3,none,.move,[.val (.int .i64 0)]⟩])
 (.ghost (.kill [0,4,5,6,7,10,11,29]) (.ret)))
 (.skip))))
 (.ghost (.kill [29]) (.seq (.region [⟨some 30,none,.move,[.tmp 4 false]⟩,
 ⟨some 31,none,.move,[.tmp 7 false]⟩,
 ⟨some 32,none,.move,[.tmp 5 false]⟩,
 ⟨some 33,none,.bin .mul .plain,[.tmp 32 false,.val (.int .i64 7)]⟩,
 ⟨some 34,none,.bin .shl .plain,[.tmp 31 false,.tmp 33 false]⟩,
 ⟨some 35,none,.bin .or .plain,[.tmp 30 false,.tmp 34 false]⟩,
 ⟨some 4,none,.move,[.tmp 35 false]⟩])
 (.ghost (.kill [7,30,31,32,33,34,35]) (.block 2 (.seq (.region [⟨some 47,none,.move,[.tmp 6 false]⟩,
 ⟨some 48,none,.bin .geq .plain,[.tmp 47 false,.val (.int .u64 128)]⟩,
 ⟨some 46,none,.move,[.tmp 48 false]⟩])
 (.ghost (.kill [47,48]) (.cond (.tmp 46 false) (.skip)
 (.seq (.region [⟨some 50,none,.move,[.tmp 6 false]⟩,
 ⟨some 51,none,.bin .eql .plain,[.tmp 50 false,.val (.int .u64 0)]⟩,
 ⟨some 52,none,.move,[.tmp 51 false]⟩,
 ⟨some 53,(some (52,true)),.move,[.tmp 5 false]⟩,
 ⟨some 54,(some (52,true)),.bin .gtr .plain,[.tmp 53 false,.val (.int .i64 0)]⟩,
 ⟨some 55,none,.pick,[.tmp 52 false,.tmp 54 false,.val (.bool false)]⟩,
 ⟨some 49,none,.move,[.tmp 55 false]⟩])
 (.ghost (.kill [0,6,10,11,46,50,51,52,53,54,55]) (.cond (.tmp 49 false) (.seq (.region [⟨some 2,none,.move,[.val (.int .i64 0)]⟩,
 ⟨some 3,none,.move,[.val (.int .i64 0)]⟩])
 (.ghost (.kill [4,5,49]) (.ret)))
 (.seq (.region [⟨some 36,none,.move,[.tmp 4 false]⟩,
 ⟨some 37,none,.bin .shr .plain,[.tmp 36 false,.val (.int .u64 1)]⟩,
 ⟨some 38,none,.toInt .i64,[.tmp 37 false]⟩,
 ⟨some 39,none,.move,[.tmp 4 false]⟩,
 ⟨some 40,none,.bin .and .plain,[.tmp 39 false,.val (.int .u64 1)]⟩,
 ⟨some 41,none,.toInt .i64,[.tmp 40 false]⟩,
 ⟨some 42,none,.un .neg,[.tmp 41 false]⟩,
 ⟨some 43,none,.bin .xor .plain,[.tmp 38 false,.tmp 42 false]⟩,
 ⟨some 44,none,.move,[.tmp 5 false]⟩,
 ⟨some 45,none,.bin .add .plain,[.tmp 44 false,.val (.int .i64 1)]⟩,
 ⟨some 2,none,.move,[.tmp 43 false]⟩,
 ⟨some 3,none,.move,[.tmp 45 false]⟩])
 (.ghost (.kill [4,5,36,37,38,39,40,41,42,43,44,45,49]) (.ret)))))))))))))))))))))
 (.ghost (.kill [5,6,46]) (.region [⟨some 56,none,.bin .add .plain,[.tmp 11 false,.val (.int .i64 1)]⟩,
 ⟨some 11,none,.move,[.tmp 56 false]⟩])))))
def k_varint_Get_0 : List Nat := [2,3,5,6,7,12,13,14,15,16,17,18,19,20,21,22,23,24,25,26,27,28,29,30,31,32,33,34,35,36,37,38,39,40,41,42,43,44,45,46,47,48,49,50,51,52,53,54,55,56]
def c_varint_Get : AFunc := ⟨57,false,.seq (.region [⟨some 2,none,.move,[.val (.int .i64 0)]⟩,
 ⟨some 3,none,.move,[.val (.int .i64 0)]⟩])
 (.ghost (.kill [2,3]) (.seq (.region [⟨some 4,none,.move,[.val (.int .u64 0)]⟩])
 (.seq (.seq (.region [⟨some 8,none,.move,[.tmp 0 false]⟩,
 ⟨some 9,none,.len false,[.tmp 8 true]⟩,
 ⟨some 10,none,.mm false,[.tmp 9 false,.val (.int .i64 10)]⟩,
 ⟨some 11,none,.move,[.val (.int .i64 0)]⟩])
 (.ghost (.kill [8,9]) (.block 0 (.loop (.ghost (.kill k_varint_Get_0) l_varint_Get_0)))))
 (.ghost (.kill [0,2,3,4,5,6,7,10,11,12,13,14,15,16,17,18,19,20,21,22,23,24,25,26,27,28,29,30,31,32,33,34,35,36,37,38,39,40,41,42,43,44,45,46,47,48,49,50,51,52,53,54,55,56]) (.seq (.region [⟨some 2,none,.move,[.val (.int .i64 0)]⟩,
 ⟨some 3,none,.move,[.val (.int .i64 0)]⟩])
 (.ret)))))),[.tmp 2,.tmp 3]⟩
def c_slices_Clip_byte_byte_ : AFunc := ⟨9,false,.seq (.region [⟨some 2,none,.move,[.val (.list 1 [] .full)]⟩])
 (.ghost (.kill [2]) (.seq (.region [⟨some 3,none,.move,[.tmp 0 false]⟩,
 ⟨some 4,none,.move,[.tmp 0 false]⟩,
 ⟨some 5,none,.len false,[.tmp 4 true]⟩,
 ⟨some 6,none,.move,[.tmp 0 true]⟩,
 ⟨some 7,none,.len false,[.tmp 6 true]⟩,
 ⟨some 8,none,.slice 1 false true true,[.tmp 3 true,.tmp 5 false,.tmp 7 false]⟩,
 ⟨some 2,none,.move,[.tmp 8 true]⟩])
 (.ghost (.kill [0,3,4,5,6,7,8]) (.ret)))),[.tmp 2]⟩
def l_slices_Concat_byte_byte__0 : ACode := .seq (.region [⟨some 12,none,.bin .lss .plain,[.tmp 11 false,.tmp 10 false]⟩])
 (.seq (.cond (.tmp 12 false) (.skip)
 (.ghost (.kill [9,10,11,12]) (.exit 0)))
 (.ghost (.kill [12]) (.seq (.block 1 (.seq (.region [⟨some 13,none,.ixAddr 1,[.tmp 9 false,.tmp 11 false]⟩,
 ⟨some 14,none,.load false 1 false,[.tmp 13 false]⟩,
 ⟨some 5,none,.move,[.tmp 14 true]⟩])
 (.ghost (.kill [13,14]) (.seq (.region [⟨some 15,none,.move,[.tmp 3 false]⟩,
 ⟨some 16,none,.move,[.tmp 5 true]⟩,
 ⟨some 17,none,.len false,[.tmp 16 true]⟩,
 ⟨some 18,none,.bin .add .plain,[.tmp 15 false,.tmp 17 false]⟩,
 ⟨some 3,none,.move,[.tmp 18 false]⟩])
 (.ghost (.kill [5,15,16,17,18]) (.seq (.region [⟨some 19,none,.move,[.tmp 3 false]⟩,
 ⟨some 20,none,.bin .lss .plain,[.tmp 19 false,.val (.int .i64 0)]⟩])
 (.ghost (.kill [19]) (.cond (.tmp 20 false) (.region [⟨some 21,none,.mkiface 9,[.val (.str [108,101,110,32,111,117,116,32,111,102,32,114,97,110,103,101])]⟩,
 ⟨none,none,.bad,[.tmp 21 false]⟩])
 (.skip)))))))))
 (.ghost (.kill [20,21]) (.region [⟨some 22,none,.bin .add .plain,[.tmp 11 false,.val (.int .i64 1)]⟩,
 ⟨some 11,none,.move,[.tmp 22 false]⟩])))))
def k_slices_Concat_byte_byte__0 : List Nat := [5,12,13,14,15,16,17,18,19,20,21,22]
def l_slices_Concat_byte_byte__1 : ACode := .seq (.region [⟨some 28,none,.bin .lss .plain,[.tmp 27 false,.tmp 26 false]⟩])
 (.seq (.cond (.tmp 28 false) (.skip)
 (.ghost (.kill [25,26,27,28]) (.exit 2)))
 (.ghost (.kill [28]) (.seq (.block 3 (.seq (.region [⟨some 29,none,.ixAddr 1,[.tmp 25 false,.tmp 27 false]⟩,
 ⟨some 30,none,.load false 1 false,[.tmp 29 false]⟩,
 ⟨some 8,none,.move,[.tmp 30 true]⟩])
 (.ghost (.kill [29,30]) (.region [⟨some 31,none,.move,[.tmp 6 true]⟩,
 ⟨some 32,none,.move,[.tmp 8 true]⟩,
 ⟨some 33,none,.append 1 1 false,[.tmp 31 true,.tmp 32 true]⟩,
 ⟨some 6,none,.move,[.tmp 33 true]⟩]))))
 (.ghost (.kill [8,31,32,33]) (.region [⟨some 34,none,.bin .add .plain,[.tmp 27 false,.val (.int .i64 1)]⟩,
 ⟨some 27,none,.move,[.tmp 34 false]⟩])))))
def k_slices_Concat_byte_byte__1 : List Nat := [8,28,29,30,31,32,33,34]
def c_slices_Concat_byte_byte_ : AFunc := ⟨36,false,.seq (.region [⟨some 2,none,.move,[.val (.list 1 [] .full)]⟩])
 (.ghost (.kill [2]) (.seq (.region [⟨some 3,none,.move,[.val (.int .i64 0)]⟩])
 (.seq (.seq (.region [⟨some 9,none,.move,[.tmp 0 false]⟩,
 ⟨some 10,none,.len false,[.tmp 9 false]⟩,
 ⟨some 11,none,.move,[.val (.int .i64 0)]⟩])
 (.block 0 (.loop (.ghost (.kill k_slices_Concat_byte_byte__0) l_slices_Concat_byte_byte__0))))
 (.ghost (.kill [5,9,10,11,12,13,14,15,16,17,18,19,20,21,22]) (.seq (.region [⟨some 23,none,.move,[.tmp 3 false]⟩,
 ⟨some 24,none,.call n_slices_Grow_byte_byte_ true,[.val (.list 1 [] .full),.tmp 23 false]⟩,
 ⟨some 6,none,.move,[.tmp 24 true]⟩])
 (.ghost (.kill [3,23,24]) (.seq (.seq (.region [⟨some 25,none,.move,[.tmp 0 true]⟩,
 ⟨some 26,none,.len false,[.tmp 25 false]⟩,
 ⟨some 27,none,.move,[.val (.int .i64 0)]⟩])
 (.ghost (.kill [0]) (.block 2 (.loop (.ghost (.kill k_slices_Concat_byte_byte__1) l_slices_Concat_byte_byte__1)))))
 (.ghost (.kill [8,25,26,27,28,29,30,31,32,33,34]) (.seq (.region [⟨some 35,none,.move,[.tmp 6 true]⟩,
 ⟨some 2,none,.move,[.tmp 35 true]⟩])
 (.ghost (.kill [6,35]) (.ret))))))))))),[.tmp 2]⟩
def l_slices_IndexFunc_api_Dropped_api_Dropped__0 : ACode := .seq (.region [⟨some 9,none,.bin .lss .plain,[.tmp 8 false,.tmp 7 false]⟩])
 (.seq (.cond (.tmp 9 false) (.skip)
 (.ghost (.kill [0,1,7,8,9]) (.exit 0)))
 (.ghost (.kill [9]) (.seq (.block 1 (.seq (.region [⟨some 10,none,.move,[.tmp 8 false]⟩,
 ⟨some 5,none,.move,[.tmp 10 false]⟩])
 (.ghost (.kill [10]) (.seq (.region [⟨some 11,none,.move,[.tmp 1 false]⟩,
 ⟨some 12,none,.move,[.tmp 0 false]⟩,
 ⟨some 13,none,.move,[.tmp 5 false]⟩,
 ⟨some 14,none,.ixAddr 3,[.tmp 12 true,.tmp 13 false]⟩,
 ⟨some 15,none,.load true 3 false,[.tmp 14 false]⟩,
 ⟨some 16,none,.callv,[.tmp 11 false,.tmp 15 false]⟩])
 (.ghost (.kill [11,12,13,14,15]) (.cond (.tmp 16 false) (.seq (.region [⟨some 17,none,.move,[.tmp 5 false]⟩,
 ⟨some 4,none,.move,[.tmp 17 false]⟩])
 (.ghost (.kill [0,1,5,7,8,16,17]) (.ret)))
 (.skip)))))))
 (.ghost (.kill [5,16]) (.region [⟨some 18,none,.bin .add .plain,[.tmp 8 false,.val (.int .i64 1)]⟩,
 ⟨some 8,none,.move,[.tmp 18 false]⟩])))))
def k_slices_IndexFunc_api_Dropped_api_Dropped__0 : List Nat := [4,5,9,10,11,12,13,14,15,16,17,18]
def c_slices_IndexFunc_api_Dropped_api_Dropped_ : AFunc := ⟨19,false,.seq (.region [⟨some 4,none,.move,[.val (.int .i64 0)]⟩])
 (.ghost (.kill [4]) (.seq (.seq (.region [⟨some 6,none,.move,[.tmp 0 false]⟩,
 ⟨some 7,none,.len false,[.tmp 6 true]⟩,
 ⟨some 8,none,.move,[.val (.int .i64 0)]⟩])
 (.ghost (.kill [6]) (.block 0 (.loop (.ghost (.kill k_slices_IndexFunc_api_Dropped_api_Dropped__0) l_slices_IndexFunc_api_Dropped_api_Dropped__0)))))
 (.ghost (.kill [0,1,4,5,7,8,9,10,11,12,13,14,15,16,17,18]) (.seq (.region [⟨some 4,none,.move,[.val (.int .i64 (-1))]⟩])
 (.ret))))),[.tmp 4]⟩
def c_ref10_Table_Apply : AFunc := ⟨95,false,.seq (.region [⟨some 3,none,.box,[.tmp 1 false]⟩,
 ⟨some 4,none,.alloc [.int .i64 0,.int .i64 0,.int .i64 0],[]⟩,
 ⟨some 5,none,.move,[.val (.bool false)]⟩])
 (.ghost (.kill [1,5]) (.seq (.seq (.region [⟨some 11,none,.load true 7 false,[.tmp 3 false]⟩,
 ⟨some 12,none,.call n_ref6_Right false,[.tmp 11 false]⟩,
 ⟨some 13,none,.bin .neq .plain,[.tmp 12 false,.val (.int .i64 0)]⟩,
 ⟨some 14,none,.move,[.tmp 13 false]⟩,
 ⟨some 15,(some (14,false)),.addOff 1,[.tmp 3 false]⟩,
 ⟨some 16,(some (14,false)),.load false 1 false,[.tmp 15 false]⟩,
 ⟨some 17,(some (14,false)),.bin .lss .plain,[.tmp 16 false,.val (.int .i64 0)]⟩,
 ⟨some 18,none,.pick,[.tmp 14 false,.val (.bool true),.tmp 17 false]⟩])
 (.ghost (.kill [11,12,13,14,15,16,17]) (.cond (.tmp 18 false) (.seq (.region [⟨some 19,none,.build [.int .i64 0,.int .i64 0,.int .i64 0] [],[]⟩,
 ⟨none,none,.store 3,[.tmp 4 false,.tmp 19 false]⟩,
 ⟨some 5,none,.move,[.val (.bool false)]⟩])
 (.ghost (.kill [0,3,18,19]) (.ret)))
 (.skip))))
 (.ghost (.kill [18]) (.seq (.region [⟨some 21,none,.move,[.tmp 0 false]⟩,
 ⟨some 22,none,.addOff 1,[.tmp 3 false]⟩,
 ⟨some 23,none,.load false 1 false,[.tmp 22 false]⟩,
 ⟨some 24,none,.call n_ref10_Table_at false,[.tmp 21 false,.tmp 23 false]⟩,
 ⟨some 20,none,.move,[.tmp 24 false]⟩,
 ⟨some 25,none,.move,[.proj 20 0 false]⟩,
 ⟨some 26,none,.move,[.proj 20 1 false]⟩,
 ⟨some 6,none,.move,[.tmp 25 false]⟩,
 ⟨some 7,none,.move,[.tmp 26 false]⟩])
 (.ghost (.kill [20,21,22,23,24,25,26]) (.seq (.region [⟨some 28,none,.move,[.tmp 0 false]⟩,
 ⟨some 29,none,.addOff 1,[.tmp 3 false]⟩,
 ⟨some 30,none,.load false 1 false,[.tmp 29 false]⟩,
 ⟨some 31,none,.call n_ref10_Table_Get false,[.tmp 28 false,.tmp 30 false]⟩,
 ⟨some 27,none,.move,[.tmp 31 false]⟩,
 ⟨some 32,none,.move,[.proj 27 0 false]⟩,
 ⟨some 33,none,.move,[.proj 27 1 false]⟩,
 ⟨some 8,none,.alloc [.int .i64 0,.int .i64 0,.list 3 [] .full,.int .i64 0],[]⟩,
 ⟨none,none,.store 4,[.tmp 8 false,.tmp 32 false]⟩,
 ⟨some 9,none,.move,[.tmp 33 false]⟩])
 (.ghost (.kill [9,27,28,29,30,31,32,33]) (.seq (.region [⟨some 34,none,.load true 4 false,[.tmp 8 false]⟩,
 ⟨some 35,none,.move,[.tmp 7 false]⟩,
 ⟨some 36,none,.load true 7 false,[.tmp 3 false]⟩,
 ⟨some 37,none,.call n_ref10_Apply false,[.tmp 34 false,.tmp 35 false,.tmp 36 false]⟩,
 ⟨some 10,none,.alloc [.int .i64 0,.int .i64 0,.list 3 [] .full,.int .i64 0],[]⟩,
 ⟨none,none,.store 4,[.tmp 10 false,.tmp 37 false]⟩])
 (.ghost (.kill [34,35,36,37]) (.seq (.seq (.region [⟨some 38,none,.move,[.tmp 7 false]⟩])
 (.cond (.tmp 38 false) (.seq (.region [⟨some 39,none,.move,[.tmp 0 false]⟩,
 ⟨some 40,none,.buildSlice 4 (.agg [.int .i64 0,.int .i64 0,.list 3 [] .full,.int .i64 0]) 0 [],[]⟩,
 ⟨some 41,none,.move,[.tmp 0 false]⟩,
 ⟨some 42,none,.nilCheck,[.tmp 41 false]⟩,
 ⟨some 43,none,.addOff 0,[.tmp 42 false]⟩,
 ⟨some 44,none,.load false 1 false,[.tmp 43 false]⟩,
 ⟨some 45,none,.append 4 48 true,[.tmp 40 true,.tmp 44 true]⟩,
 ⟨some 46,none,.nilCheck,[.tmp 39 false]⟩,
 ⟨some 47,none,.addOff 0,[.tmp 46 false]⟩,
 ⟨none,none,.store 1,[.tmp 47 false,.tmp 45 true]⟩])
 (.ghost (.kill [38,39,40,41,42,43,44,45,46,47]) (.ghost (.thawC 0 0) (.draw [(⟨some 48,none,.move,[.tmp 0 false]⟩,⟨false,[]⟩),
 (⟨some 49,none,.nilCheck,[.tmp 48 false]⟩,⟨false,[]⟩),
 (⟨some 50,none,.addOff 0,[.tmp 49 false]⟩,⟨false,[]⟩),
 (⟨some 51,none,.load false 1 false,[.tmp 50 false]⟩,⟨false,[]⟩),
 (⟨some 52,none,.move,[.tmp 6 false]⟩,⟨false,[]⟩),
 (⟨some 53,none,.load true 4 false,[.tmp 10 false]⟩,⟨false,[]⟩),
 (⟨some 54,none,.ixAddr 4,[.tmp 51 true,.tmp 52 false]⟩,⟨false,[]⟩),
 (⟨none,none,.store 4,[.tmp 54 false,.tmp 53 false]⟩,⟨true,[]⟩)]))))
 (.draw [(⟨some 55,none,.move,[.tmp 0 false]⟩,⟨false,[]⟩),
 (⟨some 56,none,.buildSlice 4 (.agg [.int .i64 0,.int .i64 0,.list 3 [] .full,.int .i64 0]) 0 [],[]⟩,⟨false,[]⟩),
 (⟨some 57,none,.move,[.tmp 0 false]⟩,⟨false,[]⟩),
 (⟨some 58,none,.nilCheck,[.tmp 57 false]⟩,⟨false,[]⟩),
 (⟨some 59,none,.addOff 0,[.tmp 58 false]⟩,⟨false,[]⟩),
 (⟨some 60,none,.load false 1 false,[.tmp 59 false]⟩,⟨false,[]⟩),
 (⟨some 61,none,.move,[.tmp 6 false]⟩,⟨false,[]⟩),
 (⟨some 62,none,.slice 4 false true false,[.tmp 60 true,.tmp 61 false]⟩,⟨false,[]⟩),
 (⟨some 63,none,.append 4 48 false,[.tmp 56 true,.tmp 62 true]⟩,⟨true,[0]⟩),
 (⟨some 64,none,.load true 4 false,[.tmp 10 false]⟩,⟨false,[8]⟩),
 (⟨some 65,none,.buildSlice 4 (.agg [.int .i64 0,.int .i64 0,.list 3 [] .full,.int .i64 0]) 1 [0],[.tmp 64 false]⟩,⟨false,[8]⟩),
 (⟨some 66,none,.append 4 48 false,[.tmp 63 true,.tmp 65 true]⟩,⟨true,[0]⟩),
 (⟨some 67,none,.move,[.tmp 0 false]⟩,⟨false,[8,11]⟩),
 (⟨some 68,none,.nilCheck,[.tmp 67 false]⟩,⟨false,[8,11]⟩),
 (⟨some 69,none,.addOff 0,[.tmp 68 false]⟩,⟨false,[8,11]⟩),
 (⟨some 70,none,.load false 1 false,[.tmp 69 false]⟩,⟨false,[8,11]⟩),
 (⟨some 71,none,.move,[.tmp 6 false]⟩,⟨false,[8,11]⟩),
 (⟨some 72,none,.slice 4 true false false,[.tmp 70 true,.tmp 71 false]⟩,⟨false,[8,11]⟩),
 (⟨some 73,none,.append 4 48 false,[.tmp 66 true,.tmp 72 true]⟩,⟨true,[0]⟩),
 (⟨some 74,none,.nilCheck,[.tmp 55 false]⟩,⟨false,[]⟩),
 (⟨some 75,none,.addOff 0,[.tmp 74 false]⟩,⟨false,[]⟩),
 (⟨none,none,.store 1,[.tmp 75 false,.tmp 73 true]⟩,⟨true,[]⟩)])))
 (.ghost (.backC 0 0) (.ghost (.freezeC 0 0) (.ghost (.kill [0,6,10,38,48,49,50,51,52,53,54,55,56,57,58,59,60,61,62,63,64,65,66,67,68,69,70,71,72,73,74,75]) (.seq (.seq (.region [⟨some 76,none,.move,[.tmp 7 false]⟩,
 ⟨some 77,none,.move,[.tmp 76 false]⟩,
 ⟨some 78,(some (77,true)),.addOff 5,[.tmp 3 false]⟩,
 ⟨some 79,(some (77,true)),.load false 1 false,[.tmp 78 false]⟩,
 ⟨some 80,(some (77,true)),.bin .eql .plain,[.tmp 79 false,.val (.int .i64 2)]⟩,
 ⟨some 81,none,.pick,[.tmp 77 false,.tmp 80 false,.val (.bool false)]⟩,
 ⟨some 82,none,.move,[.tmp 81 false]⟩,
 ⟨some 83,(some (82,true)),.addOff 3,[.tmp 8 false]⟩,
 ⟨some 84,(some (82,true)),.load false 1 false,[.tmp 83 false]⟩,
 ⟨some 85,(some (82,true)),.bin .geq .plain,[.tmp 84 false,.val (.int .i64 0)]⟩,
 ⟨some 86,none,.pick,[.tmp 82 false,.tmp 85 false,.val (.bool false)]⟩])
 (.ghost (.kill [7,76,77,78,79,80,81,82,83,84,85]) (.cond (.tmp 86 false) (.seq (.region [⟨some 87,none,.addOff 1,[.tmp 3 false]⟩,
 ⟨some 88,none,.load false 1 false,[.tmp 87 false]⟩,
 ⟨some 89,none,.addOff 3,[.tmp 8 false]⟩,
 ⟨some 90,none,.load false 1 false,[.tmp 89 false]⟩,
 ⟨some 91,none,.addOff 0,[.tmp 3 false]⟩,
 ⟨some 92,none,.load false 1 false,[.tmp 91 false]⟩,
 ⟨some 93,none,.build [.int .i64 0,.int .i64 0,.int .i64 0] [(0,1),(1,1),(2,1)],[.tmp 88 false,.tmp 90 false,.tmp 92 false]⟩,
 ⟨none,none,.store 3,[.tmp 4 false,.tmp 93 false]⟩,
 ⟨some 5,none,.move,[.val (.bool true)]⟩])
 (.ghost (.kill [3,8,86,87,88,89,90,91,92,93]) (.ret)))
 (.skip))))
 (.ghost (.kill [3,8,86]) (.seq (.region [⟨some 94,none,.build [.int .i64 0,.int .i64 0,.int .i64 0] [],[]⟩,
 ⟨none,none,.store 3,[.tmp 4 false,.tmp 94 false]⟩,
 ⟨some 5,none,.move,[.val (.bool false)]⟩])
 (.ghost (.kill [94]) (.ret)))))))))))))))))),[.cell 4 true 3,.tmp 5]⟩
def c_aborts_Row_Start_1 : AFunc := ⟨8,false,.seq (.region [⟨some 2,none,.box,[.tmp 0 false]⟩,
 ⟨some 3,none,.move,[.val (.bool false)]⟩])
 (.ghost (.kill [0,3]) (.seq (.region [⟨some 4,none,.addOff 2,[.tmp 2 false]⟩,
 ⟨some 5,none,.load false 1 false,[.tmp 4 false]⟩,
 ⟨some 6,none,.load false 1 false,[.tmp 1 false]⟩,
 ⟨some 7,none,.bin .lss .plain,[.tmp 5 false,.tmp 6 false]⟩,
 ⟨some 3,none,.move,[.tmp 7 false]⟩])
 (.ghost (.kill [1,2,4,5,6,7]) (.ret)))),[.tmp 3]⟩
def l_ref1_Get_0 : ACode := .seq (.seq (.region [⟨some 7,none,.move,[.tmp 5 false]⟩,
 ⟨some 8,none,.move,[.tmp 0 false]⟩,
 ⟨some 9,none,.len false,[.tmp 8 true]⟩,
 ⟨some 10,none,.bin .lss .plain,[.tmp 7 false,.tmp 9 false]⟩,
 ⟨some 11,none,.move,[.tmp 10 false]⟩,
 ⟨some 12,(some (11,true)),.move,[.tmp 5 false]⟩,
 ⟨some 13,(some (11,true)),.bin .lss .plain,[.tmp 12 false,.val (.int .i64 10)]⟩,
 ⟨some 14,none,.pick,[.tmp 11 false,.tmp 13 false,.val (.bool false)]⟩])
 (.ghost (.kill [7,8,9,10,11,12,13]) (.cond (.tmp 14 false) (.skip)
 (.ghost (.kill [0,4,5,14]) (.exit 0)))))
 (.ghost (.kill [14]) (.seq (.block 1 (.seq (.region [⟨some 17,none,.move,[.tmp 4 false]⟩,
 ⟨some 18,none,.move,[.tmp 0 false]⟩,
 ⟨some 19,none,.move,[.tmp 5 false]⟩,
 ⟨some 20,none,.ixAddr 1,[.tmp 18 true,.tmp 19 false]⟩,
 ⟨some 21,none,.load false 1 false,[.tmp 20 false]⟩,
 ⟨some 22,none,.bin .and .plain,[.tmp 21 false,.val (.int .u8 127)]⟩,
 ⟨some 23,none,.toInt .u64,[.tmp 22 false]⟩,
 ⟨some 24,none,.move,[.tmp 5 false]⟩,
 ⟨some 25,none,.bin .mul .plain,[.val (.int .i64 7),.tmp 24 false]⟩,
 ⟨some 26,none,.toInt .u64,[.tmp 25 false]⟩,
 ⟨some 27,none,.bin .shl .plain,[.tmp 23 false,.tmp 26 false]⟩,
 ⟨some 28,none,.bin .or .plain,[.tmp 17 false,.tmp 27 false]⟩,
 ⟨some 4,none,.move,[.tmp 28 false]⟩])
 (.ghost (.kill [17,18,19,20,21,22,23,24,25,26,27,28]) (.seq (.region [⟨some 29,none,.move,[.tmp 0 false]⟩,
 ⟨some 30,none,.move,[.tmp 5 false]⟩,
 ⟨some 31,none,.ixAddr 1,[.tmp 29 true,.tmp 30 false]⟩,
 ⟨some 32,none,.load false 1 false,[.tmp 31 false]⟩,
 ⟨some 33,none,.bin .lss .plain,[.tmp 32 false,.val (.int .u8 128)]⟩])
 (.ghost (.kill [29,30,31,32]) (.cond (.tmp 33 false) (.seq (.region [⟨some 34,none,.move,[.tmp 4 false]⟩,
 ⟨some 35,none,.bin .shr .plain,[.tmp 34 false,.val (.int .u64 1)]⟩,
 ⟨some 36,none,.toInt .i64,[.tmp 35 false]⟩,
 ⟨some 37,none,.move,[.tmp 4 false]⟩,
 ⟨some 38,none,.bin .and .plain,[.tmp 37 false,.val (.int .u64 1)]⟩,
 ⟨some 39,none,.toInt .i64,[.tmp 38 false]⟩,
 ⟨some 40,none,.un .neg,[.tmp 39 false]⟩,
 ⟨some 41,none,.bin .xor .plain,[.tmp 36 false,.tmp 40 false]⟩,
 ⟨some 6,none,.move,[.tmp 41 false]⟩])
 (.ghost (.kill [4,33,34,35,36,37,38,39,40,41]) (.seq (.seq (.draw [(⟨some 42,none,.move,[.tmp 6 false]⟩,⟨false,[]⟩),
 (⟨some 43,none,.call n_ref1_Put false,[.val (.list 1 [] .full),.tmp 42 false]⟩,⟨true,[]⟩),
 (⟨some 44,none,.toStr,[.tmp 43 true]⟩,⟨false,[]⟩),
 (⟨some 45,none,.move,[.tmp 0 true]⟩,⟨false,[1]⟩),
 (⟨some 46,none,.move,[.tmp 5 false]⟩,⟨false,[1]⟩),
 (⟨some 47,none,.bin .add .plain,[.tmp 46 false,.val (.int .i64 1)]⟩,⟨false,[1]⟩),
 (⟨some 48,none,.slice 1 false true false,[.tmp 45 true,.tmp 47 false]⟩,⟨false,[1]⟩),
 (⟨some 49,none,.toStr,[.tmp 48 true]⟩,⟨false,[1]⟩),
 (⟨some 50,none,.bin .neq .plain,[.tmp 44 false,.tmp 49 false]⟩,⟨false,[]⟩)])
 (.ghost (.kill [0,42,43,44,45,46,47,48,49]) (.cond (.tmp 50 false) (.seq (.region [⟨some 2,none,.move,[.val (.int .i64 0)]⟩,
 ⟨some 3,none,.move,[.val (.int .i64 0)]⟩])
 (.ghost (.kill [5,6,50]) (.ret)))
 (.skip))))
 (.ghost (.kill [50]) (.seq (.region [⟨some 51,none,.move,[.tmp 6 false]⟩,
 ⟨some 52,none,.move,[.tmp 5 false]⟩,
 ⟨some 53,none,.bin .add .plain,[.tmp 52 false,.val (.int .i64 1)]⟩,
 ⟨some 2,none,.move,[.tmp 51 false]⟩,
 ⟨some 3,none,.move,[.tmp 53 false]⟩])
 (.ghost (.kill [5,6,51,52,53]) (.ret)))))))
 (.skip)))))))
 (.ghost (.kill [33]) (.region [⟨some 15,none,.move,[.tmp 5 false]⟩,
 ⟨some 16,none,.bin .add .plain,[.tmp 15 false,.val (.int .i64 1)]⟩,
 ⟨some 5,none,.move,[.tmp 16 false]⟩]))))
def k_ref1_Get_0 : List Nat := [2,3,6,7,8,9,10,11,12,13,14,15,16,17,18,19,20,21,22,23,24,25,26,27,28,29,30,31,32,33,34,35,36,37,38,39,40,41,42,43,44,45,46,47,48,49,50,51,52,53]
def c_ref1_Get : AFunc := ⟨54,false,.seq (.region [⟨some 2,none,.move,[.val (.int .i64 0)]⟩,
 ⟨some 3,none,.move,[.val (.int .i64 0)]⟩])
 (.ghost (.kill [2,3]) (.seq (.region [⟨some 4,none,.move,[.val (.int .u64 0)]⟩])
 (.seq (.seq (.region [⟨some 5,none,.move,[.val (.int .i64 0)]⟩])
 (.block 0 (.loop (.ghost (.kill k_ref1_Get_0) l_ref1_Get_0))))
 (.ghost (.kill [0,2,3,4,5,6,7,8,9,10,11,12,13,14,15,16,17,18,19,20,21,22,23,24,25,26,27,28,29,30,31,32,33,34,35,36,37,38,39,40,41,42,43,44,45,46,47,48,49,50,51,52,53]) (.seq (.region [⟨some 2,none,.move,[.val (.int .i64 0)]⟩,
 ⟨some 3,none,.move,[.val (.int .i64 0)]⟩])
 (.ret)))))),[.tmp 2,.tmp 3]⟩
def l_ref1_Next_0 : ACode := .seq (.seq (.region [⟨some 11,none,.move,[.tmp 5 false]⟩,
 ⟨some 12,none,.bin .lss .plain,[.tmp 11 false,.val (.int .i64 8)]⟩])
 (.ghost (.kill [11]) (.cond (.tmp 12 false) (.skip)
 (.ghost (.kill [5,12]) (.exit 0)))))
 (.ghost (.kill [12]) (.seq (.block 1 (.seq (.region [⟨some 15,none,.move,[.tmp 0 false]⟩,
 ⟨some 16,none,.bin .and .plain,[.tmp 15 false,.val (.int .u32 1)]⟩,
 ⟨some 6,none,.move,[.tmp 16 false]⟩])
 (.ghost (.kill [15,16]) (.seq (.region [⟨some 17,none,.move,[.tmp 0 false]⟩,
 ⟨some 18,none,.bin .shr .plain,[.tmp 17 false,.val (.int .u64 1)]⟩,
 ⟨some 0,none,.move,[.tmp 18 false]⟩])
 (.ghost (.kill [17,18]) (.seq (.region [⟨some 19,none,.move,[.tmp 6 false]⟩,
 ⟨some 20,none,.bin .eql .plain,[.tmp 19 false,.val (.int .u32 1)]⟩])
 (.ghost (.kill [6,19]) (.cond (.tmp 20 false) (.region [⟨some 21,none,.move,[.tmp 0 false]⟩,
 ⟨some 22,none,.bin .xor .plain,[.tmp 21 false,.val (.int .u32 2197175160)]⟩,
 ⟨some 0,none,.move,[.tmp 22 false]⟩])
 (.skip)))))))))
 (.ghost (.kill [20,21,22]) (.region [⟨some 13,none,.move,[.tmp 5 false]⟩,
 ⟨some 14,none,.bin .add .plain,[.tmp 13 false,.val (.int .i64 1)]⟩,
 ⟨some 5,none,.move,[.tmp 14 false]⟩]))))
def k_ref1_Next_0 : List Nat := [6,11,12,13,14,15,16,17,18,19,20,21,22]
def c_ref1_Next : AFunc := ⟨24,false,.seq (.region [⟨some 4,none,.move,[.val (.int .u32 0)]⟩])
 (.ghost (.kill [4]) (.seq (.region [⟨some 7,none,.move,[.tmp 0 false]⟩,
 ⟨some 8,none,.move,[.tmp 1 false]⟩,
 ⟨some 9,none,.toInt .u32,[.tmp 8 false]⟩,
 ⟨some 10,none,.bin .xor .plain,[.tmp 7 false,.tmp 9 false]⟩,
 ⟨some 0,none,.move,[.tmp 10 false]⟩])
 (.ghost (.kill [1,7,8,9,10]) (.seq (.seq (.region [⟨some 5,none,.move,[.val (.int .i64 0)]⟩])
 (.block 0 (.loop (.ghost (.kill k_ref1_Next_0) l_ref1_Next_0))))
 (.ghost (.kill [5,6,11,12,13,14,15,16,17,18,19,20,21,22]) (.seq (.region [⟨some 23,none,.move,[.tmp 0 false]⟩,
 ⟨some 4,none,.move,[.tmp 23 false]⟩])
 (.ghost (.kill [0,23]) (.ret)))))))),[.tmp 4]⟩
def c_ref6_Count : AFunc := ⟨9,false,.seq (.region [⟨some 1,none,.box,[.tmp 0 false]⟩,
 ⟨some 2,none,.move,[.val (.int .i64 0)]⟩])
 (.ghost (.kill [0,2]) (.seq (.seq (.region [⟨some 3,none,.addOff 5,[.tmp 1 false]⟩,
 ⟨some 4,none,.load false 1 false,[.tmp 3 false]⟩,
 ⟨some 5,none,.bin .neq .plain,[.tmp 4 false,.val (.int .i64 0)]⟩])
 (.ghost (.kill [3,4]) (.cond (.tmp 5 false) (.seq (.region [⟨some 2,none,.move,[.val (.int .i64 1)]⟩])
 (.ghost (.kill [1,5]) (.ret)))
 (.skip))))
 (.ghost (.kill [5]) (.seq (.region [⟨some 6,none,.addOff 6,[.tmp 1 false]⟩,
 ⟨some 7,none,.load false 1 false,[.tmp 6 false]⟩,
 ⟨some 8,none,.len false,[.tmp 7 true]⟩,
 ⟨some 2,none,.move,[.tmp 8 false]⟩])
 (.ghost (.kill [1,6,7,8]) (.ret)))))),[.tmp 2]⟩
def l_batch_data_0 : ACode := .seq (.region [⟨some 51,none,.bin .lss .plain,[.tmp 50 false,.tmp 49 false]⟩])
 (.seq (.cond (.tmp 51 false) (.skip)
 (.ghost (.kill [48,49,50,51]) (.exit 1)))
 (.ghost (.kill [51]) (.seq (.block 2 (.seq (.region [⟨some 52,none,.ixAddr 2,[.tmp 48 false,.tmp 50 false]⟩,
 ⟨some 53,none,.load true 2 false,[.tmp 52 false]⟩,
 ⟨some 5,none,.alloc [.str [],.str []],[]⟩,
 ⟨none,none,.store 2,[.tmp 5 false,.tmp 53 false]⟩])
 (.ghost (.kill [52,53]) (.seq (.region [⟨some 54,none,.addOff 0,[.tmp 5 false]⟩,
 ⟨some 55,none,.load false 1 false,[.tmp 54 false]⟩,
 ⟨some 56,none,.len true,[.tmp 55 false]⟩,
 ⟨some 57,none,.bin .gtr .plain,[.tmp 56 false,.val (.int .i64 64)]⟩,
 ⟨some 58,none,.move,[.tmp 57 false]⟩,
 ⟨some 59,(some (58,false)),.addOff 1,[.tmp 5 false]⟩,
 ⟨some 60,(some (58,false)),.load false 1 false,[.tmp 59 false]⟩,
 ⟨some 61,(some (58,false)),.len true,[.tmp 60 false]⟩,
 ⟨some 62,(some (58,false)),.bin .gtr .plain,[.tmp 61 false,.val (.int .i64 64)]⟩,
 ⟨some 63,none,.pick,[.tmp 58 false,.val (.bool true),.tmp 62 false]⟩])
 (.ghost (.kill [5,54,55,56,57,58,59,60,61,62]) (.cond (.tmp 63 false) (.seq (.region [⟨some 2,none,.move,[.val (.int .i64 13)]⟩])
 (.ghost (.kill [48,49,50,63]) (.ret)))
 (.skip)))))))
 (.ghost (.kill [63]) (.region [⟨some 64,none,.bin .add .plain,[.tmp 50 false,.val (.int .i64 1)]⟩,
 ⟨some 50,none,.move,[.tmp 64 false]⟩])))))
def k_batch_data_0 : List Nat := [2,5,51,52,53,54,55,56,57,58,59,60,61,62,63,64]
def c_batch_data : AFunc := ⟨65,false,.seq (.region [⟨some 1,none,.box,[.tmp 0 false]⟩,
 ⟨some 2,none,.move,[.val (.int .i64 0)]⟩])
 (.ghost (.kill [0,2]) (.seq (.region [⟨some 6,none,.addOff 1,[.tmp 1 false]⟩,
 ⟨some 7,none,.load false 1 false,[.tmp 6 false]⟩,
 ⟨some 8,none,.bin .eql .plain,[.tmp 7 false,.val (.int .i64 (-1))]⟩,
 ⟨some 9,none,.move,[.tmp 8 false]⟩,
 ⟨some 10,(some (9,true)),.addOff 2,[.tmp 1 false]⟩,
 ⟨some 11,(some (9,true)),.load false 1 false,[.tmp 10 false]⟩,
 ⟨some 12,(some (9,true)),.bin .eql .plain,[.tmp 11 false,.val (.int .i64 (-1))]⟩,
 ⟨some 13,none,.pick,[.tmp 9 false,.tmp 12 false,.val (.bool false)]⟩,
 ⟨some 14,none,.move,[.tmp 13 false]⟩,
 ⟨some 15,(some (14,true)),.addOff 3,[.tmp 1 false]⟩,
 ⟨some 16,(some (14,true)),.load false 1 false,[.tmp 15 false]⟩,
 ⟨some 17,(some (14,true)),.bin .eql .plain,[.tmp 16 false,.val (.int .i64 (-1))]⟩,
 ⟨some 18,none,.pick,[.tmp 14 false,.tmp 17 false,.val (.bool false)]⟩,
 ⟨some 19,none,.move,[.tmp 18 false]⟩,
 ⟨some 20,(some (19,true)),.addOff 4,[.tmp 1 false]⟩,
 ⟨some 21,(some (19,true)),.load false 1 false,[.tmp 20 false]⟩,
 ⟨some 22,(some (19,true)),.un .not,[.tmp 21 false]⟩,
 ⟨some 23,none,.pick,[.tmp 19 false,.tmp 22 false,.val (.bool false)]⟩,
 ⟨some 3,none,.move,[.tmp 23 false]⟩])
 (.ghost (.kill [6,7,8,9,10,11,12,13,14,15,16,17,18,19,20,21,22,23]) (.seq (.block 0 (.seq (.region [⟨some 25,none,.move,[.tmp 3 false]⟩,
 ⟨some 26,none,.un .not,[.tmp 25 false]⟩,
 ⟨some 27,none,.move,[.tmp 26 false]⟩,
 ⟨some 28,(some (27,true)),.load true 7 false,[.tmp 1 false]⟩,
 ⟨some 29,(some (27,true)),.call n_batch_named false,[.tmp 28 false]⟩,
 ⟨some 30,(some (27,true)),.move,[.tmp 29 false]⟩,
 ⟨some 31,(some (30,true)),.addOff 3,[.tmp 1 false]⟩,
 ⟨some 32,(some (30,true)),.load false 1 false,[.tmp 31 false]⟩,
 ⟨some 33,(some (30,true)),.call n_seq_Right false,[.tmp 32 false]⟩,
 ⟨some 34,(some (27,true)),.pick,[.tmp 30 false,.tmp 33 false,.val (.bool false)]⟩,
 ⟨some 35,(some (27,true)),.un .not,[.tmp 34 false]⟩,
 ⟨some 36,none,.pick,[.tmp 27 false,.tmp 35 false,.val (.bool false)]⟩,
 ⟨some 24,none,.move,[.tmp 36 false]⟩])
 (.ghost (.kill [3,25,26,27,28,29,30,31,32,33,34,35,36]) (.cond (.tmp 24 false) (.seq (.region [⟨some 2,none,.move,[.val (.int .i64 12)]⟩])
 (.ghost (.kill [1,24]) (.ret)))
 (.seq (.region [⟨some 38,none,.addOff 6,[.tmp 1 false]⟩,
 ⟨some 39,none,.load false 1 false,[.tmp 38 false]⟩,
 ⟨some 40,none,.len false,[.tmp 39 true]⟩,
 ⟨some 41,none,.bin .eql .plain,[.tmp 40 false,.val (.int .i64 0)]⟩,
 ⟨some 37,none,.move,[.tmp 41 false]⟩])
 (.ghost (.kill [24,38,39,40,41]) (.cond (.tmp 37 false) (.seq (.region [⟨some 2,none,.move,[.val (.int .i64 12)]⟩])
 (.ghost (.kill [1,37]) (.ret)))
 (.seq (.region [⟨some 43,none,.addOff 6,[.tmp 1 false]⟩,
 ⟨some 44,none,.load false 1 false,[.tmp 43 false]⟩,
 ⟨some 45,none,.len false,[.tmp 44 true]⟩,
 ⟨some 46,none,.bin .gtr .plain,[.tmp 45 false,.val (.int .i64 16)]⟩,
 ⟨some 42,none,.move,[.tmp 46 false]⟩])
 (.ghost (.kill [37,43,44,45,46]) (.cond (.tmp 42 false) (.seq (.region [⟨some 2,none,.move,[.val (.int .i64 13)]⟩])
 (.ghost (.kill [1,42]) (.ret)))
 (.skip)))))))))))
 (.ghost (.kill [42]) (.seq (.seq (.region [⟨some 47,none,.addOff 6,[.tmp 1 false]⟩,
 ⟨some 48,none,.load false 1 false,[.tmp 47 false]⟩,
 ⟨some 49,none,.len false,[.tmp 48 false]⟩,
 ⟨some 50,none,.move,[.val (.int .i64 0)]⟩])
 (.ghost (.kill [1,47]) (.block 1 (.loop (.ghost (.kill k_batch_data_0) l_batch_data_0)))))
 (.ghost (.kill [2,5,48,49,50,51,52,53,54,55,56,57,58,59,60,61,62,63,64]) (.seq (.region [⟨some 2,none,.move,[.val (.int .i64 0)]⟩])
 (.ret))))))))),[.tmp 2]⟩
def c_batch_named : AFunc := ⟨16,false,.seq (.region [⟨some 1,none,.box,[.tmp 0 false]⟩,
 ⟨some 2,none,.move,[.val (.bool false)]⟩])
 (.ghost (.kill [0,2]) (.seq (.region [⟨some 3,none,.addOff 1,[.tmp 1 false]⟩,
 ⟨some 4,none,.load false 1 false,[.tmp 3 false]⟩,
 ⟨some 5,none,.bin .geq .plain,[.tmp 4 false,.val (.int .i64 0)]⟩,
 ⟨some 6,none,.move,[.tmp 5 false]⟩,
 ⟨some 7,(some (6,true)),.addOff 2,[.tmp 1 false]⟩,
 ⟨some 8,(some (6,true)),.load false 1 false,[.tmp 7 false]⟩,
 ⟨some 9,(some (6,true)),.bin .geq .plain,[.tmp 8 false,.val (.int .i64 0)]⟩,
 ⟨some 10,none,.pick,[.tmp 6 false,.tmp 9 false,.val (.bool false)]⟩,
 ⟨some 11,none,.move,[.tmp 10 false]⟩,
 ⟨some 12,(some (11,true)),.addOff 2,[.tmp 1 false]⟩,
 ⟨some 13,(some (11,true)),.load false 1 false,[.tmp 12 false]⟩,
 ⟨some 14,(some (11,true)),.bin .leq .plain,[.tmp 13 false,.val (.int .i64 32767)]⟩,
 ⟨some 15,none,.pick,[.tmp 11 false,.tmp 14 false,.val (.bool false)]⟩,
 ⟨some 2,none,.move,[.tmp 15 false]⟩])
 (.ghost (.kill [1,3,4,5,6,7,8,9,10,11,12,13,14,15]) (.ret)))),[.tmp 2]⟩
def l_batch_bytes_0 : ACode := .seq (.region [⟨some 45,none,.bin .lss .plain,[.tmp 44 false,.tmp 43 false]⟩])
 (.seq (.cond (.tmp 45 false) (.skip)
 (.ghost (.kill [42,43,44,45]) (.exit 0)))
 (.ghost (.kill [45]) (.seq (.block 1 (.seq (.region [⟨some 46,none,.ixAddr 2,[.tmp 42 false,.tmp 44 false]⟩,
 ⟨some 47,none,.load true 2 false,[.tmp 46 false]⟩,
 ⟨some 6,none,.alloc [.str [],.str []],[]⟩,
 ⟨none,none,.store 2,[.tmp 6 false,.tmp 47 false]⟩])
 (.ghost (.kill [46,47]) (.draw [(⟨some 48,none,.move,[.tmp 4 true]⟩,⟨false,[]⟩),
 (⟨some 49,none,.addOff 0,[.tmp 6 false]⟩,⟨false,[]⟩),
 (⟨some 50,none,.load false 1 false,[.tmp 49 false]⟩,⟨false,[]⟩),
 (⟨some 51,none,.call n_varint_Text false,[.tmp 48 true,.tmp 50 false]⟩,⟨true,[]⟩),
 (⟨some 52,none,.addOff 1,[.tmp 6 false]⟩,⟨false,[3]⟩),
 (⟨some 53,none,.load false 1 false,[.tmp 52 false]⟩,⟨false,[3]⟩),
 (⟨some 54,none,.call n_varint_Text false,[.tmp 51 true,.tmp 53 false]⟩,⟨true,[]⟩),
 (⟨some 4,none,.move,[.tmp 54 true]⟩,⟨false,[]⟩)]))))
 (.ghost (.kill [6,48,49,50,51,52,53,54]) (.region [⟨some 55,none,.bin .add .plain,[.tmp 44 false,.val (.int .i64 1)]⟩,
 ⟨some 44,none,.move,[.tmp 55 false]⟩])))))
def k_batch_bytes_0 : List Nat := [6,45,46,47,48,49,50,51,52,53,54,55]
def c_batch_bytes : AFunc := ⟨78,false,.seq (.region [⟨some 1,none,.box,[.tmp 0 false]⟩,
 ⟨some 2,none,.move,[.val (.list 1 [] .full)]⟩])
 (.ghost (.kill [0,2]) (.seq (.region [⟨some 8,none,.addOff 5,[.tmp 1 false]⟩,
 ⟨some 9,none,.load false 1 false,[.tmp 8 false]⟩,
 ⟨some 10,none,.bin .mul .plain,[.val (.int .i64 2),.tmp 9 false]⟩,
 ⟨some 11,none,.toInt .u8,[.tmp 10 false]⟩,
 ⟨some 3,none,.move,[.tmp 11 false]⟩])
 (.ghost (.kill [8,9,10,11]) (.seq (.seq (.region [⟨some 12,none,.addOff 4,[.tmp 1 false]⟩,
 ⟨some 13,none,.load false 1 false,[.tmp 12 false]⟩])
 (.ghost (.kill [12]) (.cond (.tmp 13 false) (.region [⟨some 14,none,.move,[.tmp 3 false]⟩,
 ⟨some 15,none,.bin .add .plain,[.tmp 14 false,.val (.int .u8 1)]⟩,
 ⟨some 3,none,.move,[.tmp 15 false]⟩])
 (.skip))))
 (.ghost (.kill [13,14,15]) (.seq (.region [⟨some 16,none,.move,[.tmp 3 false]⟩,
 ⟨some 17,none,.buildSlice 1 (.int .u8 0) 1 [0],[.tmp 16 false]⟩,
 ⟨some 18,none,.addOff 1,[.tmp 1 false]⟩,
 ⟨some 19,none,.load false 1 false,[.tmp 18 false]⟩,
 ⟨some 20,none,.call n_varint_Long false,[.tmp 17 true,.tmp 19 false]⟩,
 ⟨some 4,none,.move,[.tmp 20 true]⟩])
 (.ghost (.kill [3,16,17,18,19,20]) (.seq (.draw [(⟨some 21,none,.move,[.tmp 4 true]⟩,⟨false,[]⟩),
 (⟨some 22,none,.addOff 2,[.tmp 1 false]⟩,⟨false,[]⟩),
 (⟨some 23,none,.load false 1 false,[.tmp 22 false]⟩,⟨false,[]⟩),
 (⟨some 24,none,.bin .shr .plain,[.tmp 23 false,.val (.int .u64 8)]⟩,⟨false,[]⟩),
 (⟨some 25,none,.toInt .u8,[.tmp 24 false]⟩,⟨false,[]⟩),
 (⟨some 26,none,.addOff 2,[.tmp 1 false]⟩,⟨false,[]⟩),
 (⟨some 27,none,.load false 1 false,[.tmp 26 false]⟩,⟨false,[]⟩),
 (⟨some 28,none,.toInt .u8,[.tmp 27 false]⟩,⟨false,[]⟩),
 (⟨some 29,none,.buildSlice 1 (.int .u8 0) 2 [0,1],[.tmp 25 false,.tmp 28 false]⟩,⟨false,[]⟩),
 (⟨some 30,none,.append 1 1 false,[.tmp 21 true,.tmp 29 true]⟩,⟨true,[]⟩),
 (⟨some 31,none,.addOff 3,[.tmp 1 false]⟩,⟨false,[9]⟩),
 (⟨some 32,none,.load false 1 false,[.tmp 31 false]⟩,⟨false,[9]⟩),
 (⟨some 33,none,.call n_varint_Long false,[.tmp 30 true,.tmp 32 false]⟩,⟨true,[]⟩),
 (⟨some 4,none,.move,[.tmp 33 true]⟩,⟨false,[]⟩)])
 (.ghost (.kill [21,22,23,24,25,26,27,28,29,30,31,32,33]) (.seq (.region [⟨some 34,none,.move,[.tmp 4 true]⟩,
 ⟨some 35,none,.addOff 6,[.tmp 1 false]⟩,
 ⟨some 36,none,.load false 1 false,[.tmp 35 false]⟩,
 ⟨some 37,none,.len false,[.tmp 36 true]⟩,
 ⟨some 38,none,.toInt .u8,[.tmp 37 false]⟩,
 ⟨some 39,none,.buildSlice 1 (.int .u8 0) 1 [0],[.tmp 38 false]⟩,
 ⟨some 40,none,.append 1 1 false,[.tmp 34 true,.tmp 39 true]⟩,
 ⟨some 4,none,.move,[.tmp 40 true]⟩])
 (.ghost (.kill [34,35,36,37,38,39,40]) (.seq (.seq (.region [⟨some 41,none,.addOff 6,[.tmp 1 false]⟩,
 ⟨some 42,none,.load false 1 false,[.tmp 41 false]⟩,
 ⟨some 43,none,.len false,[.tmp 42 false]⟩,
 ⟨some 44,none,.move,[.val (.int .i64 0)]⟩])
 (.ghost (.kill [41]) (.block 0 (.loop (.ghost (.kill k_batch_bytes_0) l_batch_bytes_0)))))
 (.ghost (.kill [6,42,43,44,45,46,47,48,49,50,51,52,53,54,55]) (.seq (.region [⟨some 56,none,.move,[.tmp 4 true]⟩,
 ⟨some 57,none,.call n_crc_Put false,[.tmp 56 true]⟩,
 ⟨some 4,none,.move,[.tmp 57 true]⟩])
 (.ghost (.kill [56,57]) (.seq (.region [⟨some 58,none,.move,[.tmp 4 false]⟩,
 ⟨some 59,none,.len false,[.tmp 58 true]⟩,
 ⟨some 7,none,.move,[.tmp 59 false]⟩])
 (.ghost (.kill [58,59]) (.seq (.region [⟨some 60,none,.addOff 0,[.tmp 1 false]⟩,
 ⟨some 61,none,.load false 1 false,[.tmp 60 false]⟩,
 ⟨some 62,none,.call n_varint_Long false,[.val (.list 1 [] .full),.tmp 61 false]⟩,
 ⟨some 63,none,.move,[.tmp 7 false]⟩,
 ⟨some 64,none,.bin .shr .plain,[.tmp 63 false,.val (.int .u64 24)]⟩,
 ⟨some 65,none,.toInt .u8,[.tmp 64 false]⟩,
 ⟨some 66,none,.move,[.tmp 7 false]⟩,
 ⟨some 67,none,.bin .shr .plain,[.tmp 66 false,.val (.int .u64 16)]⟩,
 ⟨some 68,none,.toInt .u8,[.tmp 67 false]⟩,
 ⟨some 69,none,.move,[.tmp 7 false]⟩,
 ⟨some 70,none,.bin .shr .plain,[.tmp 69 false,.val (.int .u64 8)]⟩,
 ⟨some 71,none,.toInt .u8,[.tmp 70 false]⟩,
 ⟨some 72,none,.move,[.tmp 7 false]⟩,
 ⟨some 73,none,.toInt .u8,[.tmp 72 false]⟩,
 ⟨some 74,none,.buildSlice 1 (.int .u8 0) 4 [0,1,2,3],[.tmp 65 false,.tmp 68 false,.tmp 71 false,.tmp 73 false]⟩,
 ⟨some 75,none,.move,[.tmp 4 true]⟩,
 ⟨some 76,none,.buildSlice 1 (.list 1 [] .full) 3 [0,1,2],[.tmp 62 true,.tmp 74 true,.tmp 75 true]⟩,
 ⟨some 77,none,.call n_slices_Concat_byte_byte_ false,[.tmp 76 true]⟩,
 ⟨some 2,none,.move,[.tmp 77 true]⟩])
 (.ghost (.kill [1,4,7,60,61,62,63,64,65,66,67,68,69,70,71,72,73,74,75,76,77]) (.ret)))))))))))))))))))),[.tmp 2]⟩
def c_seq_Last : AFunc := ⟨15,false,.seq (.region [⟨some 4,none,.move,[.val (.int .i64 0)]⟩])
 (.ghost (.kill [4]) (.seq (.seq (.region [⟨some 5,none,.move,[.tmp 1 false]⟩,
 ⟨some 6,none,.bin .lss .plain,[.tmp 5 false,.val (.int .i64 1)]⟩,
 ⟨some 7,none,.move,[.tmp 6 false]⟩,
 ⟨some 8,(some (7,false)),.move,[.tmp 1 false]⟩,
 ⟨some 9,(some (7,false)),.bin .gtr .plain,[.tmp 8 false,.val (.int .i64 16)]⟩,
 ⟨some 10,none,.pick,[.tmp 7 false,.val (.bool true),.tmp 9 false]⟩])
 (.ghost (.kill [5,6,7,8,9]) (.cond (.tmp 10 false) (.seq (.region [⟨some 4,none,.move,[.val (.int .i64 (-1))]⟩])
 (.ghost (.kill [0,1,10]) (.ret)))
 (.skip))))
 (.ghost (.kill [10]) (.seq (.region [⟨some 11,none,.move,[.tmp 0 false]⟩,
 ⟨some 12,none,.move,[.tmp 1 false]⟩,
 ⟨some 13,none,.bin .sub .plain,[.tmp 12 false,.val (.int .i64 1)]⟩,
 ⟨some 14,none,.call n_seq_Add false,[.tmp 11 false,.tmp 13 false]⟩,
 ⟨some 4,none,.move,[.tmp 14 false]⟩])
 (.ghost (.kill [0,1,11,12,13,14]) (.ret)))))),[.tmp 4]⟩
def l_keep_Tape_Recs_0 : ACode := .seq (.seq (.region [⟨some 11,none,.move,[.tmp 6 false]⟩,
 ⟨some 12,none,.bin .gtr .plain,[.tmp 11 false,.val (.int .i64 0)]⟩])
 (.ghost (.kill [11]) (.cond (.tmp 12 false) (.skip)
 (.ghost (.kill [0,6,12]) (.exit 0)))))
 (.ghost (.kill [12]) (.seq (.block 1 (.region [⟨some 15,none,.move,[.tmp 5 true]⟩,
 ⟨some 16,none,.move,[.tmp 0 false]⟩,
 ⟨some 17,none,.call n_keep_Tape_Text false,[.tmp 16 false]⟩,
 ⟨some 18,none,.move,[.tmp 0 false]⟩,
 ⟨some 19,none,.call n_keep_Tape_Text false,[.tmp 18 false]⟩,
 ⟨some 20,none,.build [.str [],.str []] [(0,1),(1,1)],[.tmp 17 false,.tmp 19 false]⟩,
 ⟨some 21,none,.buildSlice 2 (.agg [.str [],.str []]) 1 [0],[.tmp 20 false]⟩,
 ⟨some 22,none,.append 2 32 false,[.tmp 15 true,.tmp 21 true]⟩,
 ⟨some 5,none,.move,[.tmp 22 true]⟩]))
 (.ghost (.kill [15,16,17,18,19,20,21,22]) (.region [⟨some 13,none,.move,[.tmp 6 false]⟩,
 ⟨some 14,none,.bin .sub .plain,[.tmp 13 false,.val (.int .i64 1)]⟩,
 ⟨some 6,none,.move,[.tmp 14 false]⟩]))))
def k_keep_Tape_Recs_0 : List Nat := [11,12,13,14,15,16,17,18,19,20,21,22]
def c_keep_Tape_Recs : AFunc := ⟨24,false,.seq (.region [⟨some 4,none,.move,[.val (.list 2 [] .full)]⟩])
 (.ghost (.kill [4]) (.seq (.region [⟨some 5,none,.move,[.val (.list 2 [] .full)]⟩])
 (.seq (.seq (.region [⟨some 7,none,.move,[.tmp 0 false]⟩,
 ⟨some 8,none,.move,[.tmp 1 false]⟩,
 ⟨some 9,none,.call n_keep_Tape_Next false,[.tmp 7 false,.tmp 8 false]⟩,
 ⟨some 10,none,.bin .add .plain,[.val (.int .i64 1),.tmp 9 false]⟩,
 ⟨some 6,none,.move,[.tmp 10 false]⟩])
 (.ghost (.kill [1,7,8,9,10]) (.block 0 (.loop (.ghost (.kill k_keep_Tape_Recs_0) l_keep_Tape_Recs_0)))))
 (.ghost (.kill [0,6,11,12,13,14,15,16,17,18,19,20,21,22]) (.seq (.region [⟨some 23,none,.move,[.tmp 5 true]⟩,
 ⟨some 4,none,.move,[.tmp 23 true]⟩])
 (.ghost (.kill [5,23]) (.ret))))))),[.tmp 4]⟩
def c_ref10_Table_Check : AFunc := ⟨30,false,.seq (.region [⟨some 3,none,.box,[.tmp 1 false]⟩,
 ⟨some 4,none,.move,[.val (.int .i64 0)]⟩,
 ⟨some 5,none,.move,[.val (.int .i64 0)]⟩])
 (.ghost (.kill [1,4,5]) (.seq (.seq (.region [⟨some 9,none,.load true 7 false,[.tmp 3 false]⟩,
 ⟨some 10,none,.call n_ref6_Right false,[.tmp 9 false]⟩,
 ⟨some 6,none,.move,[.tmp 10 false]⟩])
 (.ghost (.kill [9,10]) (.seq (.region [⟨some 11,none,.move,[.tmp 6 false]⟩,
 ⟨some 12,none,.bin .neq .plain,[.tmp 11 false,.val (.int .i64 0)]⟩])
 (.ghost (.kill [11]) (.cond (.tmp 12 false) (.seq (.region [⟨some 13,none,.move,[.tmp 6 false]⟩,
 ⟨some 4,none,.move,[.val (.int .i64 (-1))]⟩,
 ⟨some 5,none,.move,[.tmp 13 false]⟩])
 (.ghost (.kill [0,3,6,12,13]) (.ret)))
 (.skip))))))
 (.ghost (.kill [6,12]) (.seq (.seq (.region [⟨some 14,none,.addOff 1,[.tmp 3 false]⟩,
 ⟨some 15,none,.load false 1 false,[.tmp 14 false]⟩,
 ⟨some 16,none,.bin .lss .plain,[.tmp 15 false,.val (.int .i64 0)]⟩])
 (.ghost (.kill [14,15]) (.cond (.tmp 16 false) (.seq (.region [⟨some 4,none,.move,[.val (.int .i64 (-1))]⟩,
 ⟨some 5,none,.move,[.val (.int .i64 0)]⟩])
 (.ghost (.kill [0,3,16]) (.ret)))
 (.skip))))
 (.ghost (.kill [16]) (.seq (.region [⟨some 18,none,.move,[.tmp 0 false]⟩,
 ⟨some 19,none,.addOff 1,[.tmp 3 false]⟩,
 ⟨some 20,none,.load false 1 false,[.tmp 19 false]⟩,
 ⟨some 21,none,.call n_ref10_Table_Get false,[.tmp 18 false,.tmp 20 false]⟩,
 ⟨some 17,none,.move,[.tmp 21 false]⟩,
 ⟨some 22,none,.move,[.proj 17 0 false]⟩,
 ⟨some 23,none,.move,[.proj 17 1 false]⟩,
 ⟨some 7,none,.alloc [.int .i64 0,.int .i64 0,.list 3 [] .full,.int .i64 0],[]⟩,
 ⟨none,none,.store 4,[.tmp 7 false,.tmp 22 false]⟩,
 ⟨some 8,none,.move,[.tmp 23 false]⟩])
 (.ghost (.kill [0,17,18,19,20,21,22,23]) (.seq (.region [⟨some 24,none,.load true 4 false,[.tmp 7 false]⟩,
 ⟨some 25,none,.move,[.tmp 8 false]⟩,
 ⟨some 26,none,.load true 7 false,[.tmp 3 false]⟩,
 ⟨some 27,none,.call n_ref10_Check false,[.tmp 24 false,.tmp 25 false,.tmp 26 false]⟩,
 ⟨some 28,none,.move,[.proj 27 0 false]⟩,
 ⟨some 29,none,.move,[.proj 27 1 false]⟩,
 ⟨some 4,none,.move,[.tmp 28 false]⟩,
 ⟨some 5,none,.move,[.tmp 29 false]⟩])
 (.ghost (.kill [3,7,8,24,25,26,27,28,29]) (.ret)))))))))),[.tmp 4,.tmp 5]⟩
def l_ref14_Model_size_0 : ACode := .seq (.region [⟨some 12,none,.bin .lss .plain,[.tmp 11 false,.tmp 10 false]⟩])
 (.seq (.cond (.tmp 12 false) (.skip)
 (.ghost (.kill [9,10,11,12]) (.exit 0)))
 (.ghost (.kill [12]) (.seq (.block 1 (.seq (.region [⟨some 13,none,.ixAddr 7,[.tmp 9 false,.tmp 11 false]⟩,
 ⟨some 14,none,.load true 7 false,[.tmp 13 false]⟩,
 ⟨some 5,none,.alloc [.int .i64 0,.int .i64 0,.int .i64 0,.int .i64 0,.bool false,.int .i64 0,.list 2 [] .full],[]⟩,
 ⟨none,none,.store 7,[.tmp 5 false,.tmp 14 false]⟩])
 (.ghost (.kill [13,14]) (.region [⟨some 15,none,.move,[.tmp 3 false]⟩,
 ⟨some 16,none,.load true 7 false,[.tmp 5 false]⟩,
 ⟨some 17,none,.call n_ref6_Size false,[.tmp 16 false]⟩,
 ⟨some 18,none,.bin .add .plain,[.tmp 15 false,.tmp 17 false]⟩,
 ⟨some 3,none,.move,[.tmp 18 false]⟩]))))
 (.ghost (.kill [5,15,16,17,18]) (.region [⟨some 19,none,.bin .add .plain,[.tmp 11 false,.val (.int .i64 1)]⟩,
 ⟨some 11,none,.move,[.tmp 19 false]⟩])))))
def k_ref14_Model_size_0 : List Nat := [5,12,13,14,15,16,17,18,19]
def c_ref14_Model_size : AFunc := ⟨21,false,.seq (.region [⟨some 2,none,.move,[.val (.int .i64 0)]⟩])
 (.ghost (.kill [2]) (.seq (.region [⟨some 3,none,.move,[.val (.int .i64 0)]⟩])
 (.seq (.seq (.region [⟨some 6,none,.move,[.tmp 0 false]⟩,
 ⟨some 7,none,.nilCheck,[.tmp 6 false]⟩,
 ⟨some 8,none,.addOff 2,[.tmp 7 false]⟩,
 ⟨some 9,none,.load false 1 false,[.tmp 8 false]⟩,
 ⟨some 10,none,.len false,[.tmp 9 false]⟩,
 ⟨some 11,none,.move,[.val (.int .i64 0)]⟩])
 (.ghost (.kill [0,6,7,8]) (.block 0 (.loop (.ghost (.kill k_ref14_Model_size_0) l_ref14_Model_size_0)))))
 (.ghost (.kill [5,9,10,11,12,13,14,15,16,17,18,19]) (.seq (.region [⟨some 20,none,.move,[.tmp 3 false]⟩,
 ⟨some 2,none,.move,[.tmp 20 false]⟩])
 (.ghost (.kill [3,20]) (.ret))))))),[.tmp 2]⟩
def c_ref6_Size : AFunc := ⟨12,false,.seq (.region [⟨some 1,none,.box,[.tmp 0 false]⟩,
 ⟨some 2,none,.move,[.val (.int .i64 0)]⟩])
 (.ghost (.kill [0,2]) (.seq (.region [⟨some 6,none,.load true 7 false,[.tmp 1 false]⟩,
 ⟨some 7,none,.call n_ref6_Bytes false,[.tmp 6 false]⟩,
 ⟨some 5,none,.move,[.tmp 7 true]⟩,
 ⟨some 8,none,.move,[.proj 5 0 true]⟩,
 ⟨some 9,none,.move,[.proj 5 1 false]⟩,
 ⟨some 3,none,.move,[.tmp 8 true]⟩,
 ⟨some 4,none,.move,[.tmp 9 false]⟩])
 (.ghost (.kill [1,4,5,6,7,8,9]) (.seq (.region [⟨some 10,none,.move,[.tmp 3 true]⟩,
 ⟨some 11,none,.len false,[.tmp 10 true]⟩,
 ⟨some 2,none,.move,[.tmp 11 false]⟩])
 (.ghost (.kill [3,10,11]) (.ret)))))),[.tmp 2]⟩
def l_ref6_plain_0 : ACode := .seq (.region [⟨some 91,none,.bin .lss .plain,[.tmp 90 false,.tmp 89 false]⟩])
 (.seq (.cond (.tmp 91 false) (.skip)
 (.ghost (.kill [88,89,90,91]) (.exit 0)))
 (.ghost (.kill [91]) (.seq (.block 1 (.seq (.region [⟨some 92,none,.ixAddr 2,[.tmp 88 false,.tmp 90 false]⟩,
 ⟨some 93,none,.load true 2 false,[.tmp 92 false]⟩,
 ⟨some 5,none,.alloc [.str [],.str []],[]⟩,
 ⟨none,none,.store 2,[.tmp 5 false,.tmp 93 false]⟩])
 (.ghost (.kill [92,93]) (.seq (.region [⟨some 94,none,.addOff 0,[.tmp 5 false]⟩,
 ⟨some 95,none,.load false 1 false,[.tmp 94 false]⟩,
 ⟨some 96,none,.len true,[.tmp 95 false]⟩,
 ⟨some 97,none,.bin .gtr .plain,[.tmp 96 false,.val (.int .i64 64)]⟩,
 ⟨some 98,none,.move,[.tmp 97 false]⟩,
 ⟨some 99,(some (98,false)),.addOff 1,[.tmp 5 false]⟩,
 ⟨some 100,(some (98,false)),.load false 1 false,[.tmp 99 false]⟩,
 ⟨some 101,(some (98,false)),.len true,[.tmp 100 false]⟩,
 ⟨some 102,(some (98,false)),.bin .gtr .plain,[.tmp 101 false,.val (.int .i64 64)]⟩,
 ⟨some 103,none,.pick,[.tmp 98 false,.val (.bool true),.tmp 102 false]⟩])
 (.ghost (.kill [5,94,95,96,97,98,99,100,101,102]) (.cond (.tmp 103 false) (.seq (.region [⟨some 2,none,.move,[.val (.int .i64 13)]⟩])
 (.ghost (.kill [88,89,90,103]) (.ret)))
 (.skip)))))))
 (.ghost (.kill [103]) (.region [⟨some 104,none,.bin .add .plain,[.tmp 90 false,.val (.int .i64 1)]⟩,
 ⟨some 90,none,.move,[.tmp 104 false]⟩])))))
def k_ref6_plain_0 : List Nat := [2,5,91,92,93,94,95,96,97,98,99,100,101,102,103,104]
def c_ref6_plain : AFunc := ⟨105,false,.seq (.region [⟨some 1,none,.box,[.tmp 0 false]⟩,
 ⟨some 2,none,.move,[.val (.int .i64 0)]⟩])
 (.ghost (.kill [0,2]) (.seq (.seq (.region [⟨some 6,none,.addOff 0,[.tmp 1 false]⟩,
 ⟨some 7,none,.load false 1 false,[.tmp 6 false]⟩,
 ⟨some 8,none,.bin .lss .plain,[.tmp 7 false,.val (.int .i64 0)]⟩,
 ⟨some 9,none,.move,[.tmp 8 false]⟩,
 ⟨some 10,(some (9,false)),.addOff 0,[.tmp 1 false]⟩,
 ⟨some 11,(some (9,false)),.load false 1 false,[.tmp 10 false]⟩,
 ⟨some 12,(some (9,false)),.bin .gtr .plain,[.tmp 11 false,.val (.int .i64 1099511627776)]⟩,
 ⟨some 13,none,.pick,[.tmp 9 false,.val (.bool true),.tmp 12 false]⟩])
 (.ghost (.kill [6,7,8,9,10,11,12]) (.cond (.tmp 13 false) (.seq (.region [⟨some 2,none,.move,[.val (.int .i64 18)]⟩])
 (.ghost (.kill [1,13]) (.ret)))
 (.skip))))
 (.ghost (.kill [13]) (.seq (.seq (.region [⟨some 14,none,.addOff 5,[.tmp 1 false]⟩,
 ⟨some 15,none,.load false 1 false,[.tmp 14 false]⟩,
 ⟨some 16,none,.bin .neq .plain,[.tmp 15 false,.val (.int .i64 0)]⟩])
 (.ghost (.kill [14,15]) (.cond (.tmp 16 false) (.seq (.seq (.region [⟨some 17,none,.addOff 5,[.tmp 1 false]⟩,
 ⟨some 18,none,.load false 1 false,[.tmp 17 false]⟩,
 ⟨some 19,none,.bin .neq .plain,[.tmp 18 false,.val (.int .i64 1)]⟩,
 ⟨some 20,none,.move,[.tmp 19 false]⟩,
 ⟨some 21,(some (20,true)),.addOff 5,[.tmp 1 false]⟩,
 ⟨some 22,(some (20,true)),.load false 1 false,[.tmp 21 false]⟩,
 ⟨some 23,(some (20,true)),.bin .neq .plain,[.tmp 22 false,.val (.int .i64 2)]⟩,
 ⟨some 24,none,.pick,[.tmp 20 false,.tmp 23 false,.val (.bool false)]⟩,
 ⟨some 25,none,.move,[.tmp 24 false]⟩,
 ⟨some 26,(some (25,false)),.load true 7 false,[.tmp 1 false]⟩,
 ⟨some 27,(some (25,false)),.call n_ref6_head false,[.tmp 26 false]⟩,
 ⟨some 28,(some (25,false)),.un .not,[.tmp 27 false]⟩,
 ⟨some 29,none,.pick,[.tmp 25 false,.val (.bool true),.tmp 28 false]⟩,
 ⟨some 30,none,.move,[.tmp 29 false]⟩,
 ⟨some 31,(some (30,false)),.addOff 3,[.tmp 1 false]⟩,
 ⟨some 32,(some (30,false)),.load false 1 false,[.tmp 31 false]⟩,
 ⟨some 33,(some (30,false)),.bin .neq .plain,[.tmp 32 false,.val (.int .i64 (-1))]⟩,
 ⟨some 34,none,.pick,[.tmp 30 false,.val (.bool true),.tmp 33 false]⟩,
 ⟨some 35,none,.move,[.tmp 34 false]⟩,
 ⟨some 36,(some (35,false)),.addOff 4,[.tmp 1 false]⟩,
 ⟨some 37,(some (35,false)),.load false 1 false,[.tmp 36 false]⟩,
 ⟨some 38,(some (35,false)),.un .not,[.tmp 37 false]⟩,
 ⟨some 39,none,.pick,[.tmp 35 false,.val (.bool true),.tmp 38 false]⟩,
 ⟨some 40,none,.move,[.tmp 39 false]⟩,
 ⟨some 41,(some (40,false)),.addOff 6,[.tmp 1 false]⟩,
 ⟨some 42,(some (40,false)),.load false 1 false,[.tmp 41 false]⟩,
 ⟨some 43,(some (40,false)),.len false,[.tmp 42 true]⟩,
 ⟨some 44,(some (40,false)),.bin .gtr .plain,[.tmp 43 false,.val (.int .i64 0)]⟩,
 ⟨some 45,none,.pick,[.tmp 40 false,.val (.bool true),.tmp 44 false]⟩])
 (.ghost (.kill [1,16,17,18,19,20,21,22,23,24,25,26,27,28,29,30,31,32,33,34,35,36,37,38,39,40,41,42,43,44]) (.cond (.tmp 45 false) (.seq (.region [⟨some 2,none,.move,[.val (.int .i64 12)]⟩])
 (.ghost (.kill [45]) (.ret)))
 (.skip))))
 (.ghost (.kill [45]) (.seq (.region [⟨some 2,none,.move,[.val (.int .i64 0)]⟩])
 (.ret))))
 (.skip))))
 (.ghost (.kill [16]) (.seq (.region [⟨some 46,none,.addOff 1,[.tmp 1 false]⟩,
 ⟨some 47,none,.load false 1 false,[.tmp 46 false]⟩,
 ⟨some 48,none,.bin .eql .plain,[.tmp 47 false,.val (.int .i64 (-1))]⟩,
 ⟨some 49,none,.move,[.tmp 48 false]⟩,
 ⟨some 50,(some (49,true)),.addOff 2,[.tmp 1 false]⟩,
 ⟨some 51,(some (49,true)),.load false 1 false,[.tmp 50 false]⟩,
 ⟨some 52,(some (49,true)),.bin .eql .plain,[.tmp 51 false,.val (.int .i64 (-1))]⟩,
 ⟨some 53,none,.pick,[.tmp 49 false,.tmp 52 false,.val (.bool false)]⟩,
 ⟨some 54,none,.move,[.tmp 53 false]⟩,
 ⟨some 55,(some (54,true)),.addOff 3,[.tmp 1 false]⟩,
 ⟨some 56,(some (54,true)),.load false 1 false,[.tmp 55 false]⟩,
 ⟨some 57,(some (54,true)),.bin .eql .plain,[.tmp 56 false,.val (.int .i64 (-1))]⟩,
 ⟨some 58,none,.pick,[.tmp 54 false,.tmp 57 false,.val (.bool false)]⟩,
 ⟨some 59,none,.move,[.tmp 58 false]⟩,
 ⟨some 60,(some (59,true)),.addOff 4,[.tmp 1 false]⟩,
 ⟨some 61,(some (59,true)),.load false 1 false,[.tmp 60 false]⟩,
 ⟨some 62,(some (59,true)),.un .not,[.tmp 61 false]⟩,
 ⟨some 63,none,.pick,[.tmp 59 false,.tmp 62 false,.val (.bool false)]⟩,
 ⟨some 3,none,.move,[.tmp 63 false]⟩])
 (.ghost (.kill [46,47,48,49,50,51,52,53,54,55,56,57,58,59,60,61,62,63]) (.seq (.seq (.region [⟨some 64,none,.move,[.tmp 3 false]⟩,
 ⟨some 65,none,.un .not,[.tmp 64 false]⟩,
 ⟨some 66,none,.move,[.tmp 65 false]⟩,
 ⟨some 67,(some (66,true)),.load true 7 false,[.tmp 1 false]⟩,
 ⟨some 68,(some (66,true)),.call n_ref6_head false,[.tmp 67 false]⟩,
 ⟨some 69,(some (66,true)),.un .not,[.tmp 68 false]⟩,
 ⟨some 70,(some (66,true)),.move,[.tmp 69 false]⟩,
 ⟨some 71,(some (70,false)),.addOff 3,[.tmp 1 false]⟩,
 ⟨some 72,(some (70,false)),.load false 1 false,[.tmp 71 false]⟩,
 ⟨some 73,(some (70,false)),.call n_ref3_Seq false,[.tmp 72 false]⟩,
 ⟨some 74,(some (70,false)),.un .not,[.tmp 73 false]⟩,
 ⟨some 75,(some (66,true)),.pick,[.tmp 70 false,.val (.bool true),.tmp 74 false]⟩,
 ⟨some 76,none,.pick,[.tmp 66 false,.tmp 75 false,.val (.bool false)]⟩,
 ⟨some 77,none,.move,[.tmp 76 false]⟩,
 ⟨some 78,(some (77,false)),.addOff 6,[.tmp 1 false]⟩,
 ⟨some 79,(some (77,false)),.load false 1 false,[.tmp 78 false]⟩,
 ⟨some 80,(some (77,false)),.len false,[.tmp 79 true]⟩,
 ⟨some 81,(some (77,false)),.bin .eql .plain,[.tmp 80 false,.val (.int .i64 0)]⟩,
 ⟨some 82,none,.pick,[.tmp 77 false,.val (.bool true),.tmp 81 false]⟩])
 (.ghost (.kill [3,64,65,66,67,68,69,70,71,72,73,74,75,76,77,78,79,80,81]) (.cond (.tmp 82 false) (.seq (.region [⟨some 2,none,.move,[.val (.int .i64 12)]⟩])
 (.ghost (.kill [1,82]) (.ret)))
 (.skip))))
 (.ghost (.kill [82]) (.seq (.seq (.region [⟨some 83,none,.addOff 6,[.tmp 1 false]⟩,
 ⟨some 84,none,.load false 1 false,[.tmp 83 false]⟩,
 ⟨some 85,none,.len false,[.tmp 84 true]⟩,
 ⟨some 86,none,.bin .gtr .plain,[.tmp 85 false,.val (.int .i64 16)]⟩])
 (.ghost (.kill [83,84,85]) (.cond (.tmp 86 false) (.seq (.region [⟨some 2,none,.move,[.val (.int .i64 13)]⟩])
 (.ghost (.kill [1,86]) (.ret)))
 (.skip))))
 (.ghost (.kill [86]) (.seq (.seq (.region [⟨some 87,none,.addOff 6,[.tmp 1 false]⟩,
 ⟨some 88,none,.load false 1 false,[.tmp 87 false]⟩,
 ⟨some 89,none,.len false,[.tmp 88 false]⟩,
 ⟨some 90,none,.move,[.val (.int .i64 0)]⟩])
 (.ghost (.kill [1,87]) (.block 0 (.loop (.ghost (.kill k_ref6_plain_0) l_ref6_plain_0)))))
 (.ghost (.kill [2,5,88,89,90,91,92,93,94,95,96,97,98,99,100,101,102,103,104]) (.seq (.region [⟨some 2,none,.move,[.val (.int .i64 0)]⟩])
 (.ret))))))))))))))),[.tmp 2]⟩
def l_ref6_write_0 : ACode := .seq (.region [⟨some 46,none,.bin .lss .plain,[.tmp 45 false,.tmp 44 false]⟩])
 (.seq (.cond (.tmp 46 false) (.skip)
 (.ghost (.kill [43,44,45,46]) (.exit 0)))
 (.ghost (.kill [46]) (.seq (.block 1 (.seq (.region [⟨some 47,none,.ixAddr 2,[.tmp 43 false,.tmp 45 false]⟩,
 ⟨some 48,none,.load true 2 false,[.tmp 47 false]⟩,
 ⟨some 6,none,.alloc [.str [],.str []],[]⟩,
 ⟨none,none,.store 2,[.tmp 6 false,.tmp 48 false]⟩])
 (.ghost (.kill [47,48]) (.draw [(⟨some 49,none,.move,[.tmp 4 true]⟩,⟨false,[]⟩),
 (⟨some 50,none,.addOff 0,[.tmp 6 false]⟩,⟨false,[]⟩),
 (⟨some 51,none,.load false 1 false,[.tmp 50 false]⟩,⟨false,[]⟩),
 (⟨some 52,none,.call n_ref1_Text false,[.tmp 49 true,.tmp 51 false]⟩,⟨true,[]⟩),
 (⟨some 53,none,.addOff 1,[.tmp 6 false]⟩,⟨false,[3]⟩),
 (⟨some 54,none,.load false 1 false,[.tmp 53 false]⟩,⟨false,[3]⟩),
 (⟨some 55,none,.call n_ref1_Text false,[.tmp 52 true,.tmp 54 false]⟩,⟨true,[]⟩),
 (⟨some 4,none,.move,[.tmp 55 true]⟩,⟨false,[]⟩)]))))
 (.ghost (.kill [6,49,50,51,52,53,54,55]) (.region [⟨some 56,none,.bin .add .plain,[.tmp 45 false,.val (.int .i64 1)]⟩,
 ⟨some 45,none,.move,[.tmp 56 false]⟩])))))
def k_ref6_write_0 : List Nat := [6,46,47,48,49,50,51,52,53,54,55,56]
def c_ref6_write : AFunc := ⟨80,false,.seq (.region [⟨some 1,none,.box,[.tmp 0 false]⟩,
 ⟨some 2,none,.move,[.val (.list 1 [] .full)]⟩])
 (.ghost (.kill [0,2]) (.seq (.region [⟨some 9,none,.addOff 5,[.tmp 1 false]⟩,
 ⟨some 10,none,.load false 1 false,[.tmp 9 false]⟩,
 ⟨some 11,none,.bin .mul .plain,[.val (.int .i64 2),.tmp 10 false]⟩,
 ⟨some 12,none,.toInt .u8,[.tmp 11 false]⟩,
 ⟨some 3,none,.move,[.tmp 12 false]⟩])
 (.ghost (.kill [9,10,11,12]) (.seq (.seq (.region [⟨some 13,none,.addOff 4,[.tmp 1 false]⟩,
 ⟨some 14,none,.load false 1 false,[.tmp 13 false]⟩])
 (.ghost (.kill [13]) (.cond (.tmp 14 false) (.region [⟨some 15,none,.move,[.tmp 3 false]⟩,
 ⟨some 16,none,.bin .add .plain,[.tmp 15 false,.val (.int .u8 1)]⟩,
 ⟨some 3,none,.move,[.tmp 16 false]⟩])
 (.skip))))
 (.ghost (.kill [14,15,16]) (.seq (.region [⟨some 17,none,.move,[.tmp 3 false]⟩,
 ⟨some 18,none,.buildSlice 1 (.int .u8 0) 1 [0],[.tmp 17 false]⟩,
 ⟨some 19,none,.addOff 1,[.tmp 1 false]⟩,
 ⟨some 20,none,.load false 1 false,[.tmp 19 false]⟩,
 ⟨some 21,none,.call n_ref1_Long false,[.tmp 18 true,.tmp 20 false]⟩,
 ⟨some 4,none,.move,[.tmp 21 true]⟩])
 (.ghost (.kill [3,17,18,19,20,21]) (.seq (.region [⟨some 22,none,.move,[.tmp 4 true]⟩,
 ⟨some 23,none,.addOff 2,[.tmp 1 false]⟩,
 ⟨some 24,none,.load false 1 false,[.tmp 23 false]⟩,
 ⟨some 25,none,.bin .shr .plain,[.tmp 24 false,.val (.int .u64 8)]⟩,
 ⟨some 26,none,.toInt .u8,[.tmp 25 false]⟩,
 ⟨some 27,none,.addOff 2,[.tmp 1 false]⟩,
 ⟨some 28,none,.load false 1 false,[.tmp 27 false]⟩,
 ⟨some 29,none,.toInt .u8,[.tmp 28 false]⟩,
 ⟨some 30,none,.buildSlice 1 (.int .u8 0) 2 [0,1],[.tmp 26 false,.tmp 29 false]⟩,
 ⟨some 31,none,.append 1 1 false,[.tmp 22 true,.tmp 30 true]⟩,
 ⟨some 4,none,.move,[.tmp 31 true]⟩])
 (.ghost (.kill [22,23,24,25,26,27,28,29,30,31]) (.seq (.draw [(⟨some 32,none,.move,[.tmp 4 true]⟩,⟨false,[]⟩),
 (⟨some 33,none,.addOff 3,[.tmp 1 false]⟩,⟨false,[]⟩),
 (⟨some 34,none,.load false 1 false,[.tmp 33 false]⟩,⟨false,[]⟩),
 (⟨some 35,none,.call n_ref1_Long false,[.tmp 32 true,.tmp 34 false]⟩,⟨true,[]⟩),
 (⟨some 36,none,.addOff 6,[.tmp 1 false]⟩,⟨false,[3]⟩),
 (⟨some 37,none,.load false 1 false,[.tmp 36 false]⟩,⟨false,[3]⟩),
 (⟨some 38,none,.len false,[.tmp 37 true]⟩,⟨false,[3]⟩),
 (⟨some 39,none,.toInt .u8,[.tmp 38 false]⟩,⟨false,[3]⟩),
 (⟨some 40,none,.buildSlice 1 (.int .u8 0) 1 [0],[.tmp 39 false]⟩,⟨false,[3]⟩),
 (⟨some 41,none,.append 1 1 false,[.tmp 35 true,.tmp 40 true]⟩,⟨true,[]⟩),
 (⟨some 4,none,.move,[.tmp 41 true]⟩,⟨false,[]⟩)])
 (.ghost (.kill [32,33,34,35,36,37,38,39,40,41]) (.seq (.seq (.region [⟨some 42,none,.addOff 6,[.tmp 1 false]⟩,
 ⟨some 43,none,.load false 1 false,[.tmp 42 false]⟩,
 ⟨some 44,none,.len false,[.tmp 43 false]⟩,
 ⟨some 45,none,.move,[.val (.int .i64 0)]⟩])
 (.ghost (.kill [42]) (.block 0 (.loop (.ghost (.kill k_ref6_write_0) l_ref6_write_0)))))
 (.ghost (.kill [6,43,44,45,46,47,48,49,50,51,52,53,54,55,56]) (.seq (.region [⟨some 57,none,.move,[.tmp 4 true]⟩,
 ⟨some 58,none,.call n_ref1_Sealed false,[.tmp 57 true]⟩,
 ⟨some 4,none,.move,[.tmp 58 true]⟩])
 (.ghost (.kill [57,58]) (.seq (.region [⟨some 59,none,.move,[.tmp 4 false]⟩,
 ⟨some 60,none,.len false,[.tmp 59 true]⟩,
 ⟨some 7,none,.move,[.tmp 60 false]⟩])
 (.ghost (.kill [59,60]) (.seq (.region [⟨some 61,none,.addOff 0,[.tmp 1 false]⟩,
 ⟨some 62,none,.load false 1 false,[.tmp 61 false]⟩,
 ⟨some 63,none,.call n_ref1_Long false,[.val (.list 1 [] .full),.tmp 62 false]⟩,
 ⟨some 64,none,.move,[.tmp 7 false]⟩,
 ⟨some 65,none,.bin .shr .plain,[.tmp 64 false,.val (.int .u64 24)]⟩,
 ⟨some 66,none,.toInt .u8,[.tmp 65 false]⟩,
 ⟨some 67,none,.move,[.tmp 7 false]⟩,
 ⟨some 68,none,.bin .shr .plain,[.tmp 67 false,.val (.int .u64 16)]⟩,
 ⟨some 69,none,.toInt .u8,[.tmp 68 false]⟩,
 ⟨some 70,none,.move,[.tmp 7 false]⟩,
 ⟨some 71,none,.bin .shr .plain,[.tmp 70 false,.val (.int .u64 8)]⟩,
 ⟨some 72,none,.toInt .u8,[.tmp 71 false]⟩,
 ⟨some 73,none,.move,[.tmp 7 false]⟩,
 ⟨some 74,none,.toInt .u8,[.tmp 73 false]⟩,
 ⟨some 75,none,.buildSlice 1 (.int .u8 0) 4 [0,1,2,3],[.tmp 66 false,.tmp 69 false,.tmp 72 false,.tmp 74 false]⟩,
 ⟨some 76,none,.append 1 1 false,[.tmp 63 true,.tmp 75 true]⟩,
 ⟨some 8,none,.move,[.tmp 76 true]⟩])
 (.ghost (.kill [1,7,61,62,63,64,65,66,67,68,69,70,71,72,73,74,75,76]) (.seq (.region [⟨some 77,none,.move,[.tmp 8 true]⟩,
 ⟨some 78,none,.move,[.tmp 4 true]⟩,
 ⟨some 79,none,.append 1 1 false,[.tmp 77 true,.tmp 78 true]⟩,
 ⟨some 2,none,.move,[.tmp 79 true]⟩])
 (.ghost (.kill [4,8,77,78,79]) (.ret)))))))))))))))))))))),[.tmp 2]⟩
def l_crc_Next_0 : ACode := .seq (.region [⟨some 11,none,.bin .lss .plain,[.tmp 10 false,.val (.int .i64 8)]⟩])
 (.seq (.cond (.tmp 11 false) (.skip)
 (.ghost (.kill [10,11]) (.exit 0)))
 (.ghost (.kill [11]) (.seq (.block 1 (.seq (.region [⟨some 12,none,.move,[.tmp 0 false]⟩,
 ⟨some 13,none,.bin .and .plain,[.tmp 12 false,.val (.int .u32 1)]⟩,
 ⟨some 5,none,.move,[.tmp 13 false]⟩])
 (.ghost (.kill [12,13]) (.region [⟨some 14,none,.move,[.tmp 0 false]⟩,
 ⟨some 15,none,.bin .shr .plain,[.tmp 14 false,.val (.int .u64 1)]⟩,
 ⟨some 16,none,.move,[.tmp 5 false]⟩,
 ⟨some 17,none,.bin .mul .plain,[.val (.int .u32 2197175160),.tmp 16 false]⟩,
 ⟨some 18,none,.bin .xor .plain,[.tmp 15 false,.tmp 17 false]⟩,
 ⟨some 0,none,.move,[.tmp 18 false]⟩]))))
 (.ghost (.kill [5,14,15,16,17,18]) (.region [⟨some 19,none,.bin .add .plain,[.tmp 10 false,.val (.int .i64 1)]⟩,
 ⟨some 10,none,.move,[.tmp 19 false]⟩])))))
def k_crc_Next_0 : List Nat := [5,11,12,13,14,15,16,17,18,19]
def c_crc_Next : AFunc := ⟨21,false,.seq (.region [⟨some 4,none,.move,[.val (.int .u32 0)]⟩])
 (.ghost (.kill [4]) (.seq (.region [⟨some 6,none,.move,[.tmp 0 false]⟩,
 ⟨some 7,none,.move,[.tmp 1 false]⟩,
 ⟨some 8,none,.toInt .u32,[.tmp 7 false]⟩,
 ⟨some 9,none,.bin .xor .plain,[.tmp 6 false,.tmp 8 false]⟩,
 ⟨some 0,none,.move,[.tmp 9 false]⟩])
 (.ghost (.kill [1,6,7,8,9]) (.seq (.seq (.region [⟨some 10,none,.move,[.val (.int .i64 0)]⟩])
 (.block 0 (.loop (.ghost (.kill k_crc_Next_0) l_crc_Next_0))))
 (.ghost (.kill [5,10,11,12,13,14,15,16,17,18,19]) (.seq (.region [⟨some 20,none,.move,[.tmp 0 false]⟩,
 ⟨some 4,none,.move,[.tmp 20 false]⟩])
 (.ghost (.kill [0,20]) (.ret)))))))),[.tmp 4]⟩
def c_slices_Grow_byte_byte_ : AFunc := ⟨27,false,.seq (.region [⟨some 4,none,.move,[.val (.list 1 [] .full)]⟩])
 (.ghost (.kill [4]) (.seq (.seq (.region [⟨some 5,none,.move,[.tmp 1 false]⟩,
 ⟨some 6,none,.bin .lss .plain,[.tmp 5 false,.val (.int .i64 0)]⟩])
 (.ghost (.kill [5]) (.cond (.tmp 6 false) (.region [⟨some 7,none,.mkiface 9,[.val (.str [99,97,110,110,111,116,32,98,101,32,110,101,103,97,116,105,118,101])]⟩,
 ⟨none,none,.bad,[.tmp 7 false]⟩])
 (.skip))))
 (.ghost (.kill [6,7]) (.seq (.seq (.region [⟨some 8,none,.move,[.tmp 1 false]⟩,
 ⟨some 9,none,.move,[.tmp 0 false]⟩,
 ⟨some 10,none,.cap,[.tmp 9 true]⟩,
 ⟨some 11,none,.move,[.tmp 0 false]⟩,
 ⟨some 12,none,.len false,[.tmp 11 true]⟩,
 ⟨some 13,none,.bin .sub .plain,[.tmp 10 false,.tmp 12 false]⟩,
 ⟨some 14,none,.bin .sub .plain,[.tmp 8 false,.tmp 13 false]⟩,
 ⟨some 1,none,.move,[.tmp 14 false]⟩])
 (.ghost (.kill [8,9,10,11,12,13,14]) (.seq (.region [⟨some 15,none,.move,[.tmp 1 false]⟩,
 ⟨some 16,none,.bin .gtr .plain,[.tmp 15 false,.val (.int .i64 0)]⟩])
 (.ghost (.kill [15]) (.cond (.tmp 16 false) (.region [⟨some 17,none,.move,[.tmp 0 false]⟩,
 ⟨some 18,none,.move,[.tmp 0 false]⟩,
 ⟨some 19,none,.cap,[.tmp 18 true]⟩,
 ⟨some 20,none,.cut 1,[.tmp 17 true,.tmp 19 false]⟩,
 ⟨some 21,none,.move,[.tmp 1 false]⟩,
 ⟨some 22,none,.grow 1 (.int .u8 0) 1,[.tmp 20 true,.tmp 21 false]⟩,
 ⟨some 23,none,.move,[.tmp 0 true]⟩,
 ⟨some 24,none,.len false,[.tmp 23 true]⟩,
 ⟨some 25,none,.cut 1,[.tmp 22 true,.tmp 24 false]⟩,
 ⟨some 0,none,.move,[.tmp 25 true]⟩])
 (.skip))))))
 (.ghost (.kill [1,16,17,18,19,20,21,22,23,24,25]) (.ghost (.freeze 0) (.seq (.region [⟨some 26,none,.move,[.tmp 0 true]⟩,
 ⟨some 4,none,.move,[.tmp 26 true]⟩])
 (.ghost (.kill [0,26]) (.ret))))))))),[.tmp 4]⟩
def l_ref10_Table_at_0 : ACode := .seq (.seq (.region [⟨some 7,none,.move,[.tmp 6 false]⟩,
 ⟨some 8,none,.move,[.tmp 0 false]⟩,
 ⟨some 9,none,.nilCheck,[.tmp 8 false]⟩,
 ⟨some 10,none,.addOff 0,[.tmp 9 false]⟩,
 ⟨some 11,none,.load false 1 false,[.tmp 10 false]⟩,
 ⟨some 12,none,.len false,[.tmp 11 true]⟩,
 ⟨some 13,none,.bin .lss .plain,[.tmp 7 false,.tmp 12 false]⟩,
 ⟨some 14,none,.move,[.tmp 13 false]⟩,
 ⟨some 15,(some (14,true)),.move,[.tmp 0 false]⟩,
 ⟨some 16,(some (14,true)),.nilCheck,[.tmp 15 false]⟩,
 ⟨some 17,(some (14,true)),.addOff 0,[.tmp 16 false]⟩,
 ⟨some 18,(some (14,true)),.load false 1 false,[.tmp 17 false]⟩,
 ⟨some 19,(some (14,true)),.move,[.tmp 6 false]⟩,
 ⟨some 20,(some (14,true)),.ixAddr 4,[.tmp 18 true,.tmp 19 false]⟩,
 ⟨some 21,(some (14,true)),.addOff 0,[.tmp 20 false]⟩,
 ⟨some 22,(some (14,true)),.load false 1 false,[.tmp 21 false]⟩,
 ⟨some 23,(some (14,true)),.move,[.tmp 1 false]⟩,
 ⟨some 24,(some (14,true)),.bin .lss .plain,[.tmp 22 false,.tmp 23 false]⟩,
 ⟨some 25,none,.pick,[.tmp 14 false,.tmp 24 false,.val (.bool false)]⟩])
 (.ghost (.kill [7,8,9,10,11,12,13,14,15,16,17,18,19,20,21,22,23,24]) (.cond (.tmp 25 false) (.skip)
 (.ghost (.kill [25]) (.exit 0)))))
 (.ghost (.kill [25]) (.block 1 (.region [⟨some 26,none,.move,[.tmp 6 false]⟩,
 ⟨some 27,none,.bin .add .plain,[.tmp 26 false,.val (.int .i64 1)]⟩,
 ⟨some 6,none,.move,[.tmp 27 false]⟩])))
def k_ref10_Table_at_0 : List Nat := [7,8,9,10,11,12,13,14,15,16,17,18,19,20,21,22,23,24,25,26,27]
def c_ref10_Table_at : AFunc := ⟨48,false,.seq (.region [⟨some 4,none,.move,[.val (.int .i64 0)]⟩,
 ⟨some 5,none,.move,[.val (.bool false)]⟩])
 (.ghost (.kill [4,5]) (.seq (.region [⟨some 6,none,.move,[.val (.int .i64 0)]⟩])
 (.seq (.block 0 (.loop (.ghost (.kill k_ref10_Table_at_0) l_ref10_Table_at_0)))
 (.ghost (.kill [7,8,9,10,11,12,13,14,15,16,17,18,19,20,21,22,23,24,25,26,27]) (.seq (.draw [(⟨some 28,none,.move,[.tmp 6 false]⟩,⟨false,[]⟩),
 (⟨some 29,none,.move,[.tmp 6 false]⟩,⟨false,[]⟩),
 (⟨some 30,none,.move,[.tmp 0 false]⟩,⟨false,[]⟩),
 (⟨some 31,none,.nilCheck,[.tmp 30 false]⟩,⟨false,[]⟩),
 (⟨some 32,none,.addOff 0,[.tmp 31 false]⟩,⟨false,[]⟩),
 (⟨some 33,none,.load false 1 false,[.tmp 32 false]⟩,⟨false,[]⟩),
 (⟨some 34,none,.len false,[.tmp 33 true]⟩,⟨false,[]⟩),
 (⟨some 35,none,.bin .lss .plain,[.tmp 29 false,.tmp 34 false]⟩,⟨false,[]⟩),
 (⟨some 36,none,.move,[.tmp 35 false]⟩,⟨false,[]⟩),
 (⟨some 37,(some (36,true)),.move,[.tmp 0 false]⟩,⟨false,[]⟩),
 (⟨some 38,(some (36,true)),.nilCheck,[.tmp 37 false]⟩,⟨false,[]⟩),
 (⟨some 39,(some (36,true)),.addOff 0,[.tmp 38 false]⟩,⟨false,[]⟩),
 (⟨some 40,(some (36,true)),.load false 1 false,[.tmp 39 false]⟩,⟨false,[]⟩),
 (⟨some 41,(some (36,true)),.move,[.tmp 6 false]⟩,⟨false,[]⟩),
 (⟨some 42,(some (36,true)),.ixAddr 4,[.tmp 40 true,.tmp 41 false]⟩,⟨false,[]⟩),
 (⟨some 43,(some (36,true)),.addOff 0,[.tmp 42 false]⟩,⟨false,[]⟩),
 (⟨some 44,(some (36,true)),.load false 1 false,[.tmp 43 false]⟩,⟨false,[]⟩),
 (⟨some 45,(some (36,true)),.move,[.tmp 1 false]⟩,⟨false,[]⟩),
 (⟨some 46,(some (36,true)),.bin .eql .plain,[.tmp 44 false,.tmp 45 false]⟩,⟨false,[]⟩),
 (⟨some 47,none,.pick,[.tmp 36 false,.tmp 46 false,.val (.bool false)]⟩,⟨false,[]⟩),
 (⟨some 4,none,.move,[.tmp 28 false]⟩,⟨false,[]⟩),
 (⟨some 5,none,.move,[.tmp 47 false]⟩,⟨false,[]⟩)])
 (.ghost (.kill [0,1,6,28,29,30,31,32,33,34,35,36,37,38,39,40,41,42,43,44,45,46,47]) (.ret))))))),[.tmp 4,.tmp 5]⟩
def c_ref10_Table_Get : AFunc := ⟨24,false,.seq (.region [⟨some 4,none,.alloc [.int .i64 0,.int .i64 0,.list 3 [] .full,.int .i64 0],[]⟩,
 ⟨some 5,none,.move,[.val (.bool false)]⟩])
 (.ghost (.kill [5]) (.seq (.region [⟨some 9,none,.move,[.tmp 0 false]⟩,
 ⟨some 10,none,.move,[.tmp 1 false]⟩,
 ⟨some 11,none,.call n_ref10_Table_at false,[.tmp 9 false,.tmp 10 false]⟩,
 ⟨some 8,none,.move,[.tmp 11 false]⟩,
 ⟨some 12,none,.move,[.proj 8 0 false]⟩,
 ⟨some 13,none,.move,[.proj 8 1 false]⟩,
 ⟨some 6,none,.move,[.tmp 12 false]⟩,
 ⟨some 7,none,.move,[.tmp 13 false]⟩])
 (.ghost (.kill [1,8,9,10,11,12,13]) (.seq (.seq (.region [⟨some 14,none,.move,[.tmp 7 false]⟩,
 ⟨some 15,none,.un .not,[.tmp 14 false]⟩])
 (.ghost (.kill [7,14]) (.cond (.tmp 15 false) (.seq (.region [⟨some 16,none,.build [.int .i64 0,.int .i64 0,.list 3 [] .full,.int .i64 0] [],[]⟩,
 ⟨none,none,.store 4,[.tmp 4 false,.tmp 16 false]⟩,
 ⟨some 5,none,.move,[.val (.bool false)]⟩])
 (.ghost (.kill [0,6,15,16]) (.ret)))
 (.skip))))
 (.ghost (.kill [15]) (.seq (.region [⟨some 17,none,.move,[.tmp 0 false]⟩,
 ⟨some 18,none,.nilCheck,[.tmp 17 false]⟩,
 ⟨some 19,none,.addOff 0,[.tmp 18 false]⟩,
 ⟨some 20,none,.load false 1 false,[.tmp 19 false]⟩,
 ⟨some 21,none,.move,[.tmp 6 false]⟩,
 ⟨some 22,none,.ixAddr 4,[.tmp 20 true,.tmp 21 false]⟩,
 ⟨some 23,none,.load true 4 false,[.tmp 22 false]⟩,
 ⟨none,none,.store 4,[.tmp 4 false,.tmp 23 false]⟩,
 ⟨some 5,none,.move,[.val (.bool true)]⟩])
 (.ghost (.kill [0,6,17,18,19,20,21,22,23]) (.ret)))))))),[.cell 4 true 4,.tmp 5]⟩
def c_ref10_Apply : AFunc := ⟨68,false,.seq (.region [⟨some 3,none,.box,[.tmp 0 false]⟩,
 ⟨some 5,none,.box,[.tmp 2 false]⟩,
 ⟨some 6,none,.alloc [.int .i64 0,.int .i64 0,.list 3 [] .full,.int .i64 0],[]⟩])
 (.ghost (.kill [0,2]) (.seq (.region [⟨some 8,none,.addOff 1,[.tmp 5 false]⟩,
 ⟨some 9,none,.load false 1 false,[.tmp 8 false]⟩,
 ⟨some 10,none,.addOff 2,[.tmp 5 false]⟩,
 ⟨some 11,none,.load false 1 false,[.tmp 10 false]⟩,
 ⟨some 12,none,.build [.int .i64 0,.int .i64 0,.list 3 [] .full,.int .i64 0] [(0,1),(1,1),(3,1)],[.tmp 9 false,.tmp 11 false,.val (.int .i64 (-1))]⟩,
 ⟨some 7,none,.alloc [.int .i64 0,.int .i64 0,.list 3 [] .full,.int .i64 0],[]⟩,
 ⟨none,none,.store 4,[.tmp 7 false,.tmp 12 false]⟩])
 (.ghost (.kill [8,9,10,11,12]) (.seq (.seq (.region [⟨some 13,none,.move,[.tmp 1 false]⟩])
 (.ghost (.kill [1]) (.cond (.tmp 13 false) (.seq (.region [⟨some 14,none,.addOff 3,[.tmp 3 false]⟩,
 ⟨some 15,none,.load false 1 false,[.tmp 14 false]⟩,
 ⟨some 16,none,.addOff 3,[.tmp 7 false]⟩,
 ⟨none,none,.store 1,[.tmp 16 false,.tmp 15 false]⟩])
 (.ghost (.kill [13,14,15,16]) (.seq (.region [⟨some 17,none,.addOff 1,[.tmp 3 false]⟩,
 ⟨some 18,none,.load false 1 false,[.tmp 17 false]⟩,
 ⟨some 19,none,.addOff 2,[.tmp 5 false]⟩,
 ⟨some 20,none,.load false 1 false,[.tmp 19 false]⟩,
 ⟨some 21,none,.bin .eql .plain,[.tmp 18 false,.tmp 20 false]⟩])
 (.ghost (.kill [17,18,19,20]) (.cond (.tmp 21 false) (.region [⟨some 22,none,.buildSlice 3 (.agg [.int .i64 0,.int .i64 0,.int .i64 0]) 0 [],[]⟩,
 ⟨some 23,none,.addOff 2,[.tmp 3 false]⟩,
 ⟨some 24,none,.load false 1 false,[.tmp 23 false]⟩,
 ⟨some 25,none,.append 3 24 false,[.tmp 22 true,.tmp 24 true]⟩,
 ⟨some 26,none,.addOff 2,[.tmp 7 false]⟩,
 ⟨none,none,.store 1,[.tmp 26 false,.tmp 25 true]⟩])
 (.skip))))))
 (.skip))))
 (.ghost (.kill [3,13,21,22,23,24,25,26]) (.seq (.seq (.region [⟨some 27,none,.addOff 5,[.tmp 5 false]⟩,
 ⟨some 28,none,.load false 1 false,[.tmp 27 false]⟩,
 ⟨some 29,none,.bin .neq .plain,[.tmp 28 false,.val (.int .i64 0)]⟩])
 (.ghost (.kill [27,28]) (.cond (.tmp 29 false) (.seq (.region [⟨some 30,none,.addOff 3,[.tmp 7 false]⟩,
 ⟨none,none,.store 1,[.tmp 30 false,.val (.int .i64 (-1))]⟩])
 (.ghost (.kill [5,29,30]) (.seq (.region [⟨some 31,none,.load true 4 false,[.tmp 7 false]⟩,
 ⟨none,none,.store 4,[.tmp 6 false,.tmp 31 false]⟩])
 (.ghost (.kill [7,31]) (.ret)))))
 (.skip))))
 (.ghost (.kill [29]) (.seq (.draw [(⟨some 32,none,.addOff 2,[.tmp 7 false]⟩,⟨false,[]⟩),
 (⟨some 33,none,.load false 1 true,[.tmp 32 false]⟩,⟨true,[]⟩),
 (⟨some 34,none,.addOff 3,[.tmp 5 false]⟩,⟨false,[1]⟩),
 (⟨some 35,none,.load false 1 false,[.tmp 34 false]⟩,⟨false,[1]⟩),
 (⟨some 36,none,.addOff 3,[.tmp 5 false]⟩,⟨false,[1]⟩),
 (⟨some 37,none,.load false 1 false,[.tmp 36 false]⟩,⟨false,[1]⟩),
 (⟨some 38,none,.addOff 6,[.tmp 5 false]⟩,⟨false,[1]⟩),
 (⟨some 39,none,.load false 1 false,[.tmp 38 false]⟩,⟨false,[1]⟩),
 (⟨some 40,none,.len false,[.tmp 39 true]⟩,⟨false,[1]⟩),
 (⟨some 41,none,.call n_ref3_Last false,[.tmp 37 false,.tmp 40 false]⟩,⟨false,[1]⟩),
 (⟨some 42,none,.addOff 0,[.tmp 5 false]⟩,⟨false,[1]⟩),
 (⟨some 43,none,.load false 1 false,[.tmp 42 false]⟩,⟨false,[1]⟩),
 (⟨some 44,none,.build [.int .i64 0,.int .i64 0,.int .i64 0] [(0,1),(1,1),(2,1)],[.tmp 35 false,.tmp 41 false,.tmp 43 false]⟩,⟨false,[1]⟩),
 (⟨some 45,none,.buildSlice 3 (.agg [.int .i64 0,.int .i64 0,.int .i64 0]) 1 [0],[.tmp 44 false]⟩,⟨false,[1]⟩),
 (⟨some 46,none,.append 3 24 false,[.tmp 33 true,.tmp 45 true]⟩,⟨true,[]⟩),
 (⟨some 47,none,.addOff 2,[.tmp 7 false]⟩,⟨false,[]⟩),
 (⟨none,none,.store 1,[.tmp 47 false,.tmp 46 true]⟩,⟨true,[]⟩)])
 (.ghost (.kill [32,33,34,35,36,37,38,39,40,41,42,43,44,45,46,47]) (.seq (.region [⟨some 48,none,.addOff 2,[.tmp 7 false]⟩,
 ⟨some 49,none,.load false 1 false,[.tmp 48 false]⟩,
 ⟨some 50,none,.addOff 2,[.tmp 7 false]⟩,
 ⟨some 51,none,.load false 1 false,[.tmp 50 false]⟩,
 ⟨some 52,none,.len false,[.tmp 51 true]⟩,
 ⟨some 53,none,.bin .sub .plain,[.tmp 52 false,.val (.int .i64 5)]⟩,
 ⟨some 54,none,.mm true,[.tmp 53 false,.val (.int .i64 0)]⟩,
 ⟨some 55,none,.slice 3 true false false,[.tmp 49 true,.tmp 54 false]⟩,
 ⟨some 56,none,.addOff 2,[.tmp 7 false]⟩,
 ⟨none,none,.store 1,[.tmp 56 false,.tmp 55 true]⟩])
 (.ghost (.kill [48,49,50,51,52,53,54,55,56]) (.seq (.seq (.region [⟨some 57,none,.addOff 4,[.tmp 5 false]⟩,
 ⟨some 58,none,.load false 1 false,[.tmp 57 false]⟩,
 ⟨some 59,none,.move,[.tmp 58 false]⟩,
 ⟨some 60,(some (59,true)),.addOff 3,[.tmp 7 false]⟩,
 ⟨some 61,(some (59,true)),.load false 1 false,[.tmp 60 false]⟩,
 ⟨some 62,(some (59,true)),.bin .lss .plain,[.tmp 61 false,.val (.int .i64 0)]⟩,
 ⟨some 63,none,.pick,[.tmp 59 false,.tmp 62 false,.val (.bool false)]⟩])
 (.ghost (.kill [57,58,59,60,61,62]) (.cond (.tmp 63 false) (.region [⟨some 64,none,.addOff 0,[.tmp 5 false]⟩,
 ⟨some 65,none,.load false 1 false,[.tmp 64 false]⟩,
 ⟨some 66,none,.addOff 3,[.tmp 7 false]⟩,
 ⟨none,none,.store 1,[.tmp 66 false,.tmp 65 false]⟩])
 (.skip))))
 (.ghost (.kill [5,63,64,65,66]) (.seq (.region [⟨some 67,none,.load true 4 false,[.tmp 7 false]⟩,
 ⟨none,none,.store 4,[.tmp 6 false,.tmp 67 false]⟩])
 (.ghost (.kill [7,67]) (.ret)))))))))))))))),[.cell 6 true 4]⟩
def c_seq_Right : AFunc := ⟨9,false,.seq (.region [⟨some 2,none,.move,[.val (.bool false)]⟩])
 (.ghost (.kill [2]) (.seq (.region [⟨some 3,none,.move,[.tmp 0 false]⟩,
 ⟨some 4,none,.bin .geq .plain,[.tmp 3 false,.val (.int .i64 0)]⟩,
 ⟨some 5,none,.move,[.tmp 4 false]⟩,
 ⟨some 6,(some (5,true)),.move,[.tmp 0 false]⟩,
 ⟨some 7,(some (5,true)),.bin .leq .plain,[.tmp 6 false,.val (.int .i64 2147483647)]⟩,
 ⟨some 8,none,.pick,[.tmp 5 false,.tmp 7 false,.val (.bool false)]⟩,
 ⟨some 2,none,.move,[.tmp 8 false]⟩])
 (.ghost (.kill [0,3,4,5,6,7,8]) (.ret)))),[.tmp 2]⟩
def l_varint_Long_0 : ACode := .seq (.region [⟨some 10,none,.bin .lss .plain,[.tmp 9 false,.val (.int .i64 8)]⟩])
 (.seq (.cond (.tmp 10 false) (.skip)
 (.ghost (.kill [1,9,10]) (.exit 0)))
 (.ghost (.kill [10]) (.seq (.block 1 (.seq (.region [⟨some 11,none,.move,[.tmp 9 false]⟩,
 ⟨some 6,none,.move,[.tmp 11 false]⟩])
 (.ghost (.kill [11]) (.region [⟨some 12,none,.move,[.tmp 5 true]⟩,
 ⟨some 13,none,.move,[.tmp 1 false]⟩,
 ⟨some 14,none,.toInt .u64,[.tmp 13 false]⟩,
 ⟨some 15,none,.move,[.tmp 6 false]⟩,
 ⟨some 16,none,.bin .sub .plain,[.val (.int .i64 7),.tmp 15 false]⟩,
 ⟨some 17,none,.call n_varint_bitsOf false,[.tmp 16 false]⟩,
 ⟨some 18,none,.bin .shr .plain,[.tmp 14 false,.tmp 17 false]⟩,
 ⟨some 19,none,.toInt .u8,[.tmp 18 false]⟩,
 ⟨some 20,none,.buildSlice 1 (.int .u8 0) 1 [0],[.tmp 19 false]⟩,
 ⟨some 21,none,.append 1 1 false,[.tmp 12 true,.tmp 20 true]⟩,
 ⟨some 5,none,.move,[.tmp 21 true]⟩]))))
 (.ghost (.kill [6,12,13,14,15,16,17,18,19,20,21]) (.region [⟨some 22,none,.bin .add .plain,[.tmp 9 false,.val (.int .i64 1)]⟩,
 ⟨some 9,none,.move,[.tmp 22 false]⟩])))))
def k_varint_Long_0 : List Nat := [6,10,11,12,13,14,15,16,17,18,19,20,21,22]
def c_varint_Long : AFunc := ⟨25,false,.seq (.region [⟨some 4,none,.move,[.val (.list 1 [] .full)]⟩])
 (.ghost (.kill [4]) (.seq (.region [⟨some 7,none,.move,[.tmp 0 true]⟩,
 ⟨some 8,none,.call n_slices_Clone_byte_byte_ false,[.tmp 7 true]⟩,
 ⟨some 5,none,.move,[.tmp 8 true]⟩])
 (.ghost (.kill [0,7,8]) (.seq (.seq (.region [⟨some 9,none,.move,[.val (.int .i64 0)]⟩])
 (.block 0 (.loop (.ghost (.kill k_varint_Long_0) l_varint_Long_0))))
 (.ghost (.kill [1,6,9,10,11,12,13,14,15,16,17,18,19,20,21,22]) (.seq (.region [⟨some 23,none,.move,[.tmp 5 true]⟩,
 ⟨some 24,none,.call n_slices_Clip_byte_byte_ false,[.tmp 23 true]⟩,
 ⟨some 4,none,.move,[.tmp 24 true]⟩])
 (.ghost (.kill [5,23,24]) (.ret)))))))),[.tmp 4]⟩
def c_varint_Text : AFunc := ⟨12,false,.seq (.region [⟨some 4,none,.move,[.val (.list 1 [] .full)]⟩])
 (.ghost (.kill [4]) (.seq (.region [⟨some 5,none,.move,[.tmp 0 true]⟩,
 ⟨some 6,none,.move,[.tmp 1 false]⟩,
 ⟨some 7,none,.len true,[.tmp 6 false]⟩,
 ⟨some 8,none,.call n_varint_Put false,[.tmp 5 true,.tmp 7 false]⟩,
 ⟨some 9,none,.move,[.tmp 1 false]⟩,
 ⟨some 10,none,.appendStr 1 false,[.tmp 8 true,.tmp 9 false]⟩,
 ⟨some 11,none,.call n_slices_Clip_byte_byte_ false,[.tmp 10 true]⟩,
 ⟨some 4,none,.move,[.tmp 11 true]⟩])
 (.ghost (.kill [0,1,5,6,7,8,9,10,11]) (.ret)))),[.tmp 4]⟩
def c_seq_Add : AFunc := ⟨15,false,.seq (.region [⟨some 4,none,.move,[.val (.int .i64 0)]⟩])
 (.ghost (.kill [4]) (.seq (.seq (.region [⟨some 5,none,.move,[.tmp 0 false]⟩,
 ⟨some 6,none,.call n_seq_Right false,[.tmp 5 false]⟩,
 ⟨some 7,none,.un .not,[.tmp 6 false]⟩])
 (.ghost (.kill [5,6]) (.cond (.tmp 7 false) (.seq (.region [⟨some 4,none,.move,[.val (.int .i64 (-1))]⟩])
 (.ghost (.kill [0,1,7]) (.ret)))
 (.skip))))
 (.ghost (.kill [7]) (.seq (.region [⟨some 8,none,.move,[.tmp 0 false]⟩,
 ⟨some 9,none,.move,[.tmp 1 false]⟩,
 ⟨some 10,none,.bin .rem .plain,[.tmp 9 false,.val (.int .i64 2147483648)]⟩,
 ⟨some 11,none,.bin .add .plain,[.tmp 8 false,.tmp 10 false]⟩,
 ⟨some 12,none,.bin .rem .plain,[.tmp 11 false,.val (.int .i64 2147483648)]⟩,
 ⟨some 13,none,.bin .add .plain,[.tmp 12 false,.val (.int .i64 2147483648)]⟩,
 ⟨some 14,none,.bin .rem .plain,[.tmp 13 false,.val (.int .i64 2147483648)]⟩,
 ⟨some 4,none,.move,[.tmp 14 false]⟩])
 (.ghost (.kill [0,1,8,9,10,11,12,13,14]) (.ret)))))),[.tmp 4]⟩
def c_keep_Tape_Text : AFunc := ⟨8,false,.seq (.region [⟨some 2,none,.move,[.val (.str [])]⟩])
 (.ghost (.kill [2]) (.seq (.region [⟨some 3,none,.buildSlice 1 (.str []) 9 [0,1,2,3,4,5,6,7,8],[.val (.str []),.val (.str [97]),.val (.str [107,101,121]),.val (.str [228,184,150]),.val (.str [116,119,111,32,119,111,114,100,115]),.val (.str [98,255]),.val (.str [107,50]),.val (.str [61]),.val (.str [97,10,98])]⟩,
 ⟨some 4,none,.move,[.tmp 0 false]⟩,
 ⟨some 5,none,.call n_keep_Tape_Next false,[.tmp 4 false,.val (.int .i64 9)]⟩,
 ⟨some 6,none,.ixAddr 1,[.tmp 3 true,.tmp 5 false]⟩,
 ⟨some 7,none,.load false 1 false,[.tmp 6 false]⟩,
 ⟨some 2,none,.move,[.tmp 7 false]⟩])
 (.ghost (.kill [0,3,4,5,6,7]) (.ret)))),[.tmp 2]⟩
def c_ref10_Check : AFunc := ⟨76,false,.seq (.region [⟨some 3,none,.box,[.tmp 0 false]⟩,
 ⟨some 5,none,.box,[.tmp 2 false]⟩,
 ⟨some 6,none,.move,[.val (.int .i64 0)]⟩,
 ⟨some 7,none,.move,[.val (.int .i64 0)]⟩])
 (.ghost (.kill [0,2,6,7]) (.seq (.seq (.region [⟨some 11,none,.addOff 5,[.tmp 5 false]⟩,
 ⟨some 12,none,.load false 1 false,[.tmp 11 false]⟩,
 ⟨some 13,none,.bin .neq .plain,[.tmp 12 false,.val (.int .i64 0)]⟩])
 (.ghost (.kill [11,12]) (.cond (.tmp 13 false) (.seq (.seq (.region [⟨some 14,none,.move,[.tmp 1 false]⟩,
 ⟨some 15,none,.un .not,[.tmp 14 false]⟩])
 (.ghost (.kill [1,13,14]) (.cond (.tmp 15 false) (.seq (.region [⟨some 6,none,.move,[.val (.int .i64 (-1))]⟩,
 ⟨some 7,none,.move,[.val (.int .i64 16)]⟩])
 (.ghost (.kill [3,5,15]) (.ret)))
 (.skip))))
 (.ghost (.kill [15]) (.seq (.seq (.region [⟨some 16,none,.addOff 2,[.tmp 5 false]⟩,
 ⟨some 17,none,.load false 1 false,[.tmp 16 false]⟩,
 ⟨some 18,none,.addOff 1,[.tmp 3 false]⟩,
 ⟨some 19,none,.load false 1 false,[.tmp 18 false]⟩,
 ⟨some 20,none,.bin .lss .plain,[.tmp 17 false,.tmp 19 false]⟩])
 (.ghost (.kill [5,16,17,18,19]) (.cond (.tmp 20 false) (.seq (.region [⟨some 6,none,.move,[.val (.int .i64 (-1))]⟩,
 ⟨some 7,none,.move,[.val (.int .i64 14)]⟩])
 (.ghost (.kill [3,20]) (.ret)))
 (.skip))))
 (.ghost (.kill [20]) (.seq (.seq (.region [⟨some 21,none,.addOff 3,[.tmp 3 false]⟩,
 ⟨some 22,none,.load false 1 false,[.tmp 21 false]⟩,
 ⟨some 23,none,.bin .lss .plain,[.tmp 22 false,.val (.int .i64 0)]⟩])
 (.ghost (.kill [3,21,22]) (.cond (.tmp 23 false) (.seq (.region [⟨some 6,none,.move,[.val (.int .i64 (-1))]⟩,
 ⟨some 7,none,.move,[.val (.int .i64 16)]⟩])
 (.ghost (.kill [23]) (.ret)))
 (.skip))))
 (.ghost (.kill [23]) (.seq (.region [⟨some 6,none,.move,[.val (.int .i64 (-1))]⟩,
 ⟨some 7,none,.move,[.val (.int .i64 0)]⟩])
 (.ret))))))))
 (.skip))))
 (.ghost (.kill [13]) (.seq (.seq (.region [⟨some 24,none,.move,[.tmp 1 false]⟩,
 ⟨some 25,none,.un .not,[.tmp 24 false]⟩])
 (.ghost (.kill [1,24]) (.cond (.tmp 25 false) (.seq (.region [⟨some 6,none,.move,[.val (.int .i64 (-1))]⟩,
 ⟨some 7,none,.move,[.val (.int .i64 0)]⟩])
 (.ghost (.kill [3,5,25]) (.ret)))
 (.skip))))
 (.ghost (.kill [25]) (.seq (.seq (.region [⟨some 26,none,.addOff 2,[.tmp 5 false]⟩,
 ⟨some 27,none,.load false 1 false,[.tmp 26 false]⟩,
 ⟨some 28,none,.addOff 1,[.tmp 3 false]⟩,
 ⟨some 29,none,.load false 1 false,[.tmp 28 false]⟩,
 ⟨some 30,none,.bin .lss .plain,[.tmp 27 false,.tmp 29 false]⟩])
 (.ghost (.kill [26,27,28,29]) (.cond (.tmp 30 false) (.seq (.region [⟨some 6,none,.move,[.val (.int .i64 (-1))]⟩,
 ⟨some 7,none,.move,[.val (.int .i64 14)]⟩])
 (.ghost (.kill [3,5,30]) (.ret)))
 (.skip))))
 (.ghost (.kill [30]) (.seq (.seq (.region [⟨some 31,none,.addOff 2,[.tmp 5 false]⟩,
 ⟨some 32,none,.load false 1 false,[.tmp 31 false]⟩,
 ⟨some 33,none,.addOff 1,[.tmp 3 false]⟩,
 ⟨some 34,none,.load false 1 false,[.tmp 33 false]⟩,
 ⟨some 35,none,.bin .gtr .plain,[.tmp 32 false,.tmp 34 false]⟩])
 (.ghost (.kill [31,32,33,34]) (.cond (.tmp 35 false) (.seq (.seq (.region [⟨some 36,none,.addOff 3,[.tmp 3 false]⟩,
 ⟨some 37,none,.load false 1 false,[.tmp 36 false]⟩,
 ⟨some 38,none,.bin .geq .plain,[.tmp 37 false,.val (.int .i64 0)]⟩])
 (.ghost (.kill [3,35,36,37]) (.cond (.tmp 38 false) (.seq (.region [⟨some 6,none,.move,[.val (.int .i64 (-1))]⟩,
 ⟨some 7,none,.move,[.val (.int .i64 16)]⟩])
 (.ghost (.kill [5,38]) (.ret)))
 (.skip))))
 (.ghost (.kill [38]) (.seq (.seq (.region [⟨some 39,none,.addOff 3,[.tmp 5 false]⟩,
 ⟨some 40,none,.load false 1 false,[.tmp 39 false]⟩,
 ⟨some 41,none,.bin .neq .plain,[.tmp 40 false,.val (.int .i64 0)]⟩])
 (.ghost (.kill [5,39,40]) (.cond (.tmp 41 false) (.seq (.region [⟨some 6,none,.move,[.val (.int .i64 (-1))]⟩,
 ⟨some 7,none,.move,[.val (.int .i64 15)]⟩])
 (.ghost (.kill [41]) (.ret)))
 (.skip))))
 (.ghost (.kill [41]) (.seq (.region [⟨some 6,none,.move,[.val (.int .i64 (-1))]⟩,
 ⟨some 7,none,.move,[.val (.int .i64 0)]⟩])
 (.ret))))))
 (.skip))))
 (.ghost (.kill [35]) (.seq (.seq (.region [⟨some 43,none,.load true 4 false,[.tmp 3 false]⟩,
 ⟨some 44,none,.load true 7 false,[.tmp 5 false]⟩,
 ⟨some 45,none,.call n_ref10_Dup false,[.tmp 43 false,.tmp 44 false]⟩,
 ⟨some 42,none,.move,[.tmp 45 false]⟩,
 ⟨some 46,none,.move,[.proj 42 0 false]⟩,
 ⟨some 47,none,.move,[.proj 42 1 false]⟩,
 ⟨some 8,none,.move,[.tmp 46 false]⟩,
 ⟨some 9,none,.move,[.tmp 47 false]⟩])
 (.ghost (.kill [42,43,44,45,46,47]) (.seq (.region [⟨some 48,none,.move,[.tmp 9 false]⟩])
 (.ghost (.kill [9]) (.cond (.tmp 48 false) (.seq (.region [⟨some 49,none,.move,[.tmp 8 false]⟩,
 ⟨some 6,none,.move,[.tmp 49 false]⟩,
 ⟨some 7,none,.move,[.val (.int .i64 0)]⟩])
 (.ghost (.kill [3,5,8,48,49]) (.ret)))
 (.skip))))))
 (.ghost (.kill [8,48]) (.seq (.seq (.region [⟨some 50,none,.addOff 2,[.tmp 3 false]⟩,
 ⟨some 51,none,.load false 1 false,[.tmp 50 false]⟩,
 ⟨some 52,none,.len false,[.tmp 51 true]⟩,
 ⟨some 10,none,.move,[.tmp 52 false]⟩])
 (.ghost (.kill [50,51,52]) (.seq (.draw [(⟨some 53,none,.move,[.tmp 10 false]⟩,⟨false,[]⟩),
 (⟨some 54,none,.bin .gtr .plain,[.tmp 53 false,.val (.int .i64 0)]⟩,⟨false,[]⟩),
 (⟨some 55,none,.move,[.tmp 54 false]⟩,⟨false,[]⟩),
 (⟨some 56,(some (55,true)),.addOff 2,[.tmp 3 false]⟩,⟨false,[]⟩),
 (⟨some 57,(some (55,true)),.load false 1 false,[.tmp 56 false]⟩,⟨false,[]⟩),
 (⟨some 58,(some (55,true)),.move,[.tmp 10 false]⟩,⟨false,[]⟩),
 (⟨some 59,(some (55,true)),.bin .sub .plain,[.tmp 58 false,.val (.int .i64 1)]⟩,⟨false,[]⟩),
 (⟨some 60,(some (55,true)),.ixAddr 3,[.tmp 57 true,.tmp 59 false]⟩,⟨false,[]⟩),
 (⟨some 61,(some (55,true)),.ixArr 3 1,[.tmp 60 false,.val (.int .i64 1)]⟩,⟨false,[]⟩),
 (⟨some 62,(some (55,true)),.load false 1 false,[.tmp 61 false]⟩,⟨false,[]⟩),
 (⟨some 63,(some (55,true)),.addOff 3,[.tmp 5 false]⟩,⟨false,[]⟩),
 (⟨some 64,(some (55,true)),.load false 1 false,[.tmp 63 false]⟩,⟨false,[]⟩),
 (⟨some 65,(some (55,true)),.call n_ref3_Follows false,[.tmp 62 false,.tmp 64 false]⟩,⟨true,[]⟩),
 (⟨some 66,(some (55,true)),.un .not,[.tmp 65 false]⟩,⟨false,[]⟩),
 (⟨some 67,none,.pick,[.tmp 55 false,.tmp 66 false,.val (.bool false)]⟩,⟨false,[]⟩)])
 (.ghost (.kill [10,53,54,55,56,57,58,59,60,61,62,63,64,65,66]) (.cond (.tmp 67 false) (.seq (.region [⟨some 6,none,.move,[.val (.int .i64 (-1))]⟩,
 ⟨some 7,none,.move,[.val (.int .i64 15)]⟩])
 (.ghost (.kill [3,5,67]) (.ret)))
 (.skip))))))
 (.ghost (.kill [67]) (.seq (.seq (.region [⟨some 68,none,.addOff 3,[.tmp 3 false]⟩,
 ⟨some 69,none,.load false 1 false,[.tmp 68 false]⟩,
 ⟨some 70,none,.bin .geq .plain,[.tmp 69 false,.val (.int .i64 0)]⟩,
 ⟨some 71,none,.move,[.tmp 70 false]⟩,
 ⟨some 72,(some (71,true)),.addOff 4,[.tmp 5 false]⟩,
 ⟨some 73,(some (71,true)),.load false 1 false,[.tmp 72 false]⟩,
 ⟨some 74,(some (71,true)),.un .not,[.tmp 73 false]⟩,
 ⟨some 75,none,.pick,[.tmp 71 false,.tmp 74 false,.val (.bool false)]⟩])
 (.ghost (.kill [3,5,68,69,70,71,72,73,74]) (.cond (.tmp 75 false) (.seq (.region [⟨some 6,none,.move,[.val (.int .i64 (-1))]⟩,
 ⟨some 7,none,.move,[.val (.int .i64 16)]⟩])
 (.ghost (.kill [75]) (.ret)))
 (.skip))))
 (.ghost (.kill [75]) (.seq (.region [⟨some 6,none,.move,[.val (.int .i64 (-1))]⟩,
 ⟨some 7,none,.move,[.val (.int .i64 0)]⟩])
 (.ret))))))))))))))))),[.tmp 6,.tmp 7]⟩
def c_ref6_Bytes : AFunc := ⟨12,false,.seq (.region [⟨some 1,none,.box,[.tmp 0 false]⟩,
 ⟨some 2,none,.move,[.val (.list 1 [] .full)]⟩,
 ⟨some 3,none,.move,[.val (.int .i64 0)]⟩])
 (.ghost (.kill [0,2,3]) (.seq (.seq (.region [⟨some 5,none,.load true 7 false,[.tmp 1 false]⟩,
 ⟨some 6,none,.call n_ref6_Right false,[.tmp 5 false]⟩,
 ⟨some 4,none,.move,[.tmp 6 false]⟩])
 (.ghost (.kill [5,6]) (.seq (.region [⟨some 7,none,.move,[.tmp 4 false]⟩,
 ⟨some 8,none,.bin .neq .plain,[.tmp 7 false,.val (.int .i64 0)]⟩])
 (.ghost (.kill [7]) (.cond (.tmp 8 false) (.seq (.region [⟨some 9,none,.move,[.tmp 4 false]⟩,
 ⟨some 2,none,.move,[.val (.list 1 [] .full)]⟩,
 ⟨some 3,none,.move,[.tmp 9 false]⟩])
 (.ghost (.kill [1,4,8,9]) (.ret)))
 (.skip))))))
 (.ghost (.kill [4,8]) (.seq (.region [⟨some 10,none,.load true 7 false,[.tmp 1 false]⟩,
 ⟨some 11,none,.call n_ref6_write false,[.tmp 10 false]⟩,
 ⟨some 2,none,.move,[.tmp 11 true]⟩,
 ⟨some 3,none,.move,[.val (.int .i64 0)]⟩])
 (.ghost (.kill [1,10,11]) (.ret)))))),[.tmp 2,.tmp 3]⟩
def c_ref6_head : AFunc := ⟨16,false,.seq (.region [⟨some 1,none,.box,[.tmp 0 false]⟩,
 ⟨some 2,none,.move,[.val (.bool false)]⟩])
 (.ghost (.kill [0,2]) (.seq (.region [⟨some 3,none,.addOff 1,[.tmp 1 false]⟩,
 ⟨some 4,none,.load false 1 false,[.tmp 3 false]⟩,
 ⟨some 5,none,.bin .geq .plain,[.tmp 4 false,.val (.int .i64 0)]⟩,
 ⟨some 6,none,.move,[.tmp 5 false]⟩,
 ⟨some 7,(some (6,true)),.addOff 2,[.tmp 1 false]⟩,
 ⟨some 8,(some (6,true)),.load false 1 false,[.tmp 7 false]⟩,
 ⟨some 9,(some (6,true)),.bin .geq .plain,[.tmp 8 false,.val (.int .i64 0)]⟩,
 ⟨some 10,none,.pick,[.tmp 6 false,.tmp 9 false,.val (.bool false)]⟩,
 ⟨some 11,none,.move,[.tmp 10 false]⟩,
 ⟨some 12,(some (11,true)),.addOff 2,[.tmp 1 false]⟩,
 ⟨some 13,(some (11,true)),.load false 1 false,[.tmp 12 false]⟩,
 ⟨some 14,(some (11,true)),.bin .leq .plain,[.tmp 13 false,.val (.int .i64 32767)]⟩,
 ⟨some 15,none,.pick,[.tmp 11 false,.tmp 14 false,.val (.bool false)]⟩,
 ⟨some 2,none,.move,[.tmp 15 false]⟩])
 (.ghost (.kill [1,3,4,5,6,7,8,9,10,11,12,13,14,15]) (.ret)))),[.tmp 2]⟩
def c_ref3_Seq : AFunc := ⟨9,false,.seq (.region [⟨some 2,none,.move,[.val (.bool false)]⟩])
 (.ghost (.kill [2]) (.seq (.region [⟨some 3,none,.move,[.tmp 0 false]⟩,
 ⟨some 4,none,.bin .geq .plain,[.tmp 3 false,.val (.int .i64 0)]⟩,
 ⟨some 5,none,.move,[.tmp 4 false]⟩,
 ⟨some 6,(some (5,true)),.move,[.tmp 0 false]⟩,
 ⟨some 7,(some (5,true)),.bin .leq .plain,[.tmp 6 false,.val (.int .i64 2147483647)]⟩,
 ⟨some 8,none,.pick,[.tmp 5 false,.tmp 7 false,.val (.bool false)]⟩,
 ⟨some 2,none,.move,[.tmp 8 false]⟩])
 (.ghost (.kill [0,3,4,5,6,7,8]) (.ret)))),[.tmp 2]⟩
def l_ref1_Long_0 : ACode := .seq (.seq (.region [⟨some 10,none,.move,[.tmp 6 false]⟩,
 ⟨some 11,none,.bin .geq .plain,[.tmp 10 false,.val (.int .i64 0)]⟩])
 (.ghost (.kill [10]) (.cond (.tmp 11 false) (.skip)
 (.ghost (.kill [1,6,11]) (.exit 0)))))
 (.ghost (.kill [11]) (.seq (.block 1 (.region [⟨some 14,none,.move,[.tmp 5 true]⟩,
 ⟨some 15,none,.move,[.tmp 1 false]⟩,
 ⟨some 16,none,.move,[.tmp 6 false]⟩,
 ⟨some 17,none,.toInt .u64,[.tmp 16 false]⟩,
 ⟨some 18,none,.bin .shr .plain,[.tmp 15 false,.tmp 17 false]⟩,
 ⟨some 19,none,.toInt .u8,[.tmp 18 false]⟩,
 ⟨some 20,none,.buildSlice 1 (.int .u8 0) 1 [0],[.tmp 19 false]⟩,
 ⟨some 21,none,.append 1 1 false,[.tmp 14 true,.tmp 20 true]⟩,
 ⟨some 5,none,.move,[.tmp 21 true]⟩]))
 (.ghost (.kill [14,15,16,17,18,19,20,21]) (.region [⟨some 12,none,.move,[.tmp 6 false]⟩,
 ⟨some 13,none,.bin .sub .plain,[.tmp 12 false,.val (.int .i64 8)]⟩,
 ⟨some 6,none,.move,[.tmp 13 false]⟩]))))
def k_ref1_Long_0 : List Nat := [10,11,12,13,14,15,16,17,18,19,20,21]
def c_ref1_Long : AFunc := ⟨23,false,.seq (.region [⟨some 4,none,.move,[.val (.list 1 [] .full)]⟩])
 (.ghost (.kill [4]) (.seq (.region [⟨some 7,none,.buildSlice 1 (.int .u8 0) 0 [],[]⟩,
 ⟨some 8,none,.move,[.tmp 0 true]⟩,
 ⟨some 9,none,.append 1 1 false,[.tmp 7 true,.tmp 8 true]⟩,
 ⟨some 5,none,.move,[.tmp 9 true]⟩])
 (.ghost (.kill [0,7,8,9]) (.seq (.seq (.region [⟨some 6,none,.move,[.val (.int .i64 56)]⟩])
 (.block 0 (.loop (.ghost (.kill k_ref1_Long_0) l_ref1_Long_0))))
 (.ghost (.kill [1,6,10,11,12,13,14,15,16,17,18,19,20,21]) (.seq (.region [⟨some 22,none,.move,[.tmp 5 true]⟩,
 ⟨some 4,none,.move,[.tmp 22 true]⟩])
 (.ghost (.kill [5,22]) (.ret)))))))),[.tmp 4]⟩
def c_ref1_Text : AFunc := ⟨11,false,.seq (.region [⟨some 4,none,.move,[.val (.list 1 [] .full)]⟩])
 (.ghost (.kill [4]) (.seq (.region [⟨some 5,none,.move,[.tmp 0 true]⟩,
 ⟨some 6,none,.move,[.tmp 1 false]⟩,
 ⟨some 7,none,.len true,[.tmp 6 false]⟩,
 ⟨some 8,none,.call n_ref1_Put false,[.tmp 5 true,.tmp 7 false]⟩,
 ⟨some 9,none,.move,[.tmp 1 false]⟩,
 ⟨some 10,none,.appendStr 1 false,[.tmp 8 true,.tmp 9 false]⟩,
 ⟨some 4,none,.move,[.tmp 10 true]⟩])
 (.ghost (.kill [0,1,5,6,7,8,9,10]) (.ret)))),[.tmp 4]⟩
def c_ref3_Last : AFunc := ⟨15,false,.seq (.region [⟨some 4,none,.move,[.val (.int .i64 0)]⟩])
 (.ghost (.kill [4]) (.seq (.seq (.region [⟨some 5,none,.move,[.tmp 1 false]⟩,
 ⟨some 6,none,.bin .lss .plain,[.tmp 5 false,.val (.int .i64 1)]⟩,
 ⟨some 7,none,.move,[.tmp 6 false]⟩,
 ⟨some 8,(some (7,false)),.move,[.tmp 1 false]⟩,
 ⟨some 9,(some (7,false)),.bin .gtr .plain,[.tmp 8 false,.val (.int .i64 16)]⟩,
 ⟨some 10,none,.pick,[.tmp 7 false,.val (.bool true),.tmp 9 false]⟩])
 (.ghost (.kill [5,6,7,8,9]) (.cond (.tmp 10 false) (.seq (.region [⟨some 4,none,.move,[.val (.int .i64 (-1))]⟩])
 (.ghost (.kill [0,1,10]) (.ret)))
 (.skip))))
 (.ghost (.kill [10]) (.seq (.region [⟨some 11,none,.move,[.tmp 0 false]⟩,
 ⟨some 12,none,.move,[.tmp 1 false]⟩,
 ⟨some 13,none,.bin .sub .plain,[.tmp 12 false,.val (.int .i64 1)]⟩,
 ⟨some 14,none,.call n_ref3_Add false,[.tmp 11 false,.tmp 13 false]⟩,
 ⟨some 4,none,.move,[.tmp 14 false]⟩])
 (.ghost (.kill [0,1,11,12,13,14]) (.ret)))))),[.tmp 4]⟩
def c_varint_bitsOf : AFunc := ⟨5,false,.seq (.region [⟨some 2,none,.move,[.val (.int .i64 0)]⟩])
 (.ghost (.kill [2]) (.seq (.region [⟨some 3,none,.move,[.tmp 0 false]⟩,
 ⟨some 4,none,.bin .mul .plain,[.tmp 3 false,.val (.int .i64 8)]⟩,
 ⟨some 2,none,.move,[.tmp 4 false]⟩])
 (.ghost (.kill [0,3,4]) (.ret)))),[.tmp 2]⟩
def l_ref10_Dup_0 : ACode := .seq (.region [⟨some 22,none,.bin .lss .plain,[.tmp 21 false,.tmp 20 false]⟩])
 (.seq (.cond (.tmp 22 false) (.skip)
 (.ghost (.kill [3,19,20,21,22]) (.exit 0)))
 (.ghost (.kill [22]) (.seq (.block 1 (.seq (.region [⟨some 23,none,.ixAddr 3,[.tmp 19 false,.tmp 21 false]⟩,
 ⟨some 24,none,.load true 3 false,[.tmp 23 false]⟩,
 ⟨some 7,none,.alloc [.int .i64 0,.int .i64 0,.int .i64 0],[]⟩,
 ⟨none,none,.store 3,[.tmp 7 false,.tmp 24 false]⟩])
 (.ghost (.kill [23,24]) (.seq (.draw [(⟨some 25,none,.ixArr 3 1,[.tmp 7 false,.val (.int .i64 0)]⟩,⟨false,[]⟩),
 (⟨some 26,none,.load false 1 false,[.tmp 25 false]⟩,⟨false,[]⟩),
 (⟨some 27,none,.addOff 3,[.tmp 3 false]⟩,⟨false,[]⟩),
 (⟨some 28,none,.load false 1 false,[.tmp 27 false]⟩,⟨false,[]⟩),
 (⟨some 29,none,.bin .eql .plain,[.tmp 26 false,.tmp 28 false]⟩,⟨false,[]⟩),
 (⟨some 30,none,.move,[.tmp 29 false]⟩,⟨false,[]⟩),
 (⟨some 31,(some (30,true)),.ixArr 3 1,[.tmp 7 false,.val (.int .i64 1)]⟩,⟨false,[]⟩),
 (⟨some 32,(some (30,true)),.load false 1 false,[.tmp 31 false]⟩,⟨false,[]⟩),
 (⟨some 33,(some (30,true)),.addOff 3,[.tmp 3 false]⟩,⟨false,[]⟩),
 (⟨some 34,(some (30,true)),.load false 1 false,[.tmp 33 false]⟩,⟨false,[]⟩),
 (⟨some 35,(some (30,true)),.addOff 6,[.tmp 3 false]⟩,⟨false,[]⟩),
 (⟨some 36,(some (30,true)),.load false 1 false,[.tmp 35 false]⟩,⟨false,[]⟩),
 (⟨some 37,(some (30,true)),.len false,[.tmp 36 true]⟩,⟨false,[]⟩),
 (⟨some 38,(some (30,true)),.call n_ref3_Last false,[.tmp 34 false,.tmp 37 false]⟩,⟨false,[]⟩),
 (⟨some 39,(some (30,true)),.bin .eql .plain,[.tmp 32 false,.tmp 38 false]⟩,⟨false,[]⟩),
 (⟨some 40,none,.pick,[.tmp 30 false,.tmp 39 false,.val (.bool false)]⟩,⟨false,[]⟩)])
 (.ghost (.kill [25,26,27,28,29,30,31,32,33,34,35,36,37,38,39]) (.cond (.tmp 40 false) (.seq (.region [⟨some 41,none,.ixArr 3 1,[.tmp 7 false,.val (.int .i64 2)]⟩,
 ⟨some 42,none,.load false 1 false,[.tmp 41 false]⟩,
 ⟨some 4,none,.move,[.tmp 42 false]⟩,
 ⟨some 5,none,.move,[.val (.bool true)]⟩])
 (.ghost (.kill [3,7,19,20,21,40,41,42]) (.ret)))
 (.skip)))))))
 (.ghost (.kill [7,40]) (.region [⟨some 43,none,.bin .add .plain,[.tmp 21 false,.val (.int .i64 1)]⟩,
 ⟨some 21,none,.move,[.tmp 43 false]⟩])))))
def k_ref10_Dup_0 : List Nat := [4,5,7,22,23,24,25,26,27,28,29,30,31,32,33,34,35,36,37,38,39,40,41,42,43]
def c_ref10_Dup : AFunc := ⟨44,false,.seq (.region [⟨some 2,none,.box,[.tmp 0 false]⟩,
 ⟨some 3,none,.box,[.tmp 1 false]⟩,
 ⟨some 4,none,.move,[.val (.int .i64 0)]⟩,
 ⟨some 5,none,.move,[.val (.bool false)]⟩])
 (.ghost (.kill [0,1,4,5]) (.seq (.seq (.region [⟨some 8,none,.addOff 2,[.tmp 3 false]⟩,
 ⟨some 9,none,.load false 1 false,[.tmp 8 false]⟩,
 ⟨some 10,none,.addOff 1,[.tmp 2 false]⟩,
 ⟨some 11,none,.load false 1 false,[.tmp 10 false]⟩,
 ⟨some 12,none,.bin .eql .plain,[.tmp 9 false,.tmp 11 false]⟩,
 ⟨some 13,none,.move,[.tmp 12 false]⟩,
 ⟨some 14,(some (13,true)),.addOff 5,[.tmp 3 false]⟩,
 ⟨some 15,(some (13,true)),.load false 1 false,[.tmp 14 false]⟩,
 ⟨some 16,(some (13,true)),.bin .eql .plain,[.tmp 15 false,.val (.int .i64 0)]⟩,
 ⟨some 17,none,.pick,[.tmp 13 false,.tmp 16 false,.val (.bool false)]⟩])
 (.ghost (.kill [8,9,10,11,12,13,14,15,16]) (.cond (.tmp 17 false) (.seq (.region [⟨some 18,none,.addOff 2,[.tmp 2 false]⟩,
 ⟨some 19,none,.load false 1 false,[.tmp 18 false]⟩,
 ⟨some 20,none,.len false,[.tmp 19 false]⟩,
 ⟨some 21,none,.move,[.val (.int .i64 0)]⟩])
 (.ghost (.kill [2,17,18]) (.block 0 (.loop (.ghost (.kill k_ref10_Dup_0) l_ref10_Dup_0)))))
 (.skip))))
 (.ghost (.kill [2,3,4,5,7,17,19,20,21,22,23,24,25,26,27,28,29,30,31,32,33,34,35,36,37,38,39,40,41,42,43]) (.seq (.region [⟨some 4,none,.move,[.val (.int .i64 (-1))]⟩,
 ⟨some 5,none,.move,[.val (.bool false)]⟩])
 (.ret))))),[.tmp 4,.tmp 5]⟩
def c_ref3_Follows : AFunc := ⟨17,false,.seq (.region [⟨some 4,none,.move,[.val (.bool false)]⟩])
 (.ghost (.kill [4]) (.seq (.seq (.region [⟨some 5,none,.move,[.tmp 0 false]⟩,
 ⟨some 6,none,.bin .eql .plain,[.tmp 5 false,.val (.int .i64 (-1))]⟩])
 (.ghost (.kill [5]) (.cond (.tmp 6 false) (.seq (.region [⟨some 7,none,.move,[.tmp 1 false]⟩,
 ⟨some 8,none,.bin .eql .plain,[.tmp 7 false,.val (.int .i64 0)]⟩,
 ⟨some 4,none,.move,[.tmp 8 false]⟩])
 (.ghost (.kill [0,1,6,7,8]) (.ret)))
 (.skip))))
 (.ghost (.kill [6]) (.seq (.region [⟨some 9,none,.move,[.tmp 0 false]⟩,
 ⟨some 10,none,.call n_ref3_Seq false,[.tmp 9 false]⟩,
 ⟨some 11,none,.move,[.tmp 10 false]⟩,
 ⟨some 12,(some (11,true)),.move,[.tmp 0 false]⟩,
 ⟨some 13,(some (11,true)),.call n_ref3_Add false,[.tmp 12 false,.val (.int .i64 1)]⟩,
 ⟨some 14,(some (11,true)),.move,[.tmp 1 false]⟩,
 ⟨some 15,(some (11,true)),.bin .eql .plain,[.tmp 13 false,.tmp 14 false]⟩,
 ⟨some 16,none,.pick,[.tmp 11 false,.tmp 15 false,.val (.bool false)]⟩,
 ⟨some 4,none,.move,[.tmp 16 false]⟩])
 (.ghost (.kill [0,1,9,10,11,12,13,14,15,16]) (.ret)))))),[.tmp 4]⟩
def c_ref3_Add : AFunc := ⟨20,false,.seq (.region [⟨some 4,none,.move,[.val (.int .i64 0)]⟩])
 (.ghost (.kill [4]) (.seq (.seq (.region [⟨some 6,none,.move,[.tmp 0 false]⟩,
 ⟨some 7,none,.call n_ref3_Seq false,[.tmp 6 false]⟩,
 ⟨some 8,none,.un .not,[.tmp 7 false]⟩])
 (.ghost (.kill [6,7]) (.cond (.tmp 8 false) (.seq (.region [⟨some 4,none,.move,[.val (.int .i64 (-1))]⟩])
 (.ghost (.kill [0,1,8]) (.ret)))
 (.skip))))
 (.ghost (.kill [8]) (.seq (.region [⟨some 5,none,.move,[.val (.int .i64 2147483648)]⟩])
 (.seq (.region [⟨some 9,none,.move,[.tmp 0 false]⟩,
 ⟨some 10,none,.move,[.tmp 1 false]⟩,
 ⟨some 11,none,.move,[.tmp 5 false]⟩,
 ⟨some 12,none,.bin .rem .plain,[.tmp 10 false,.tmp 11 false]⟩,
 ⟨some 13,none,.bin .add .plain,[.tmp 9 false,.tmp 12 false]⟩,
 ⟨some 14,none,.move,[.tmp 5 false]⟩,
 ⟨some 15,none,.bin .rem .plain,[.tmp 13 false,.tmp 14 false]⟩,
 ⟨some 16,none,.move,[.tmp 5 false]⟩,
 ⟨some 17,none,.bin .add .plain,[.tmp 15 false,.tmp 16 false]⟩,
 ⟨some 18,none,.move,[.tmp 5 false]⟩,
 ⟨some 19,none,.bin .rem .plain,[.tmp 17 false,.tmp 18 false]⟩,
 ⟨some 4,none,.move,[.tmp 19 false]⟩])
 (.ghost (.kill [0,1,5,9,10,11,12,13,14,15,16,17,18,19]) (.ret))))))),[.tmp 4]⟩
def codes : List (Nat × AFunc) := [(n_law13_AbortsNumbers,c_law13_AbortsNumbers),(n_aborts_Of,c_aborts_Of),(n_keep_Row,c_keep_Row),(n_aborts_Row_Within,c_aborts_Row_Within),(n_ref10_Dropped,c_ref10_Dropped),(n_aborts_Row_All,c_aborts_Row_All),(n_book_Within,c_book_Within),(n_law13_known,c_law13_known),(n_aborts_Read,c_aborts_Read),(n_aborts_Row_Bytes,c_aborts_Row_Bytes),(n_aborts_Row_Cut,c_aborts_Row_Cut),(n_law13_rows,c_law13_rows),(n_law13_tape,c_law13_tape),(n_law13_play,c_law13_play),(n_law13_plain_add,c_law13_plain_add),(n_law13_plain_bytes,c_law13_plain_bytes),(n_law13_reads,c_law13_reads),(n_ref1_Sealed,c_ref1_Sealed),(n_aborts_New,c_aborts_New),(n_table_New,c_table_New),(n_table_Table_Apply,c_table_Table_Apply),(n_aborts_Row_Add,c_aborts_Row_Add),(n_keep_Tape_Ask,c_keep_Tape_Ask),(n_ref14_Model_Mark,c_ref14_Model_Mark),(n_ref14_Model_Produce,c_ref14_Model_Produce),(n_crc_Check,c_crc_Check),(n_varint_Read,c_varint_Read),(n_varint_Reader_Count,c_varint_Reader_Count),(n_varint_Reader_Num,c_varint_Reader_Num),(n_varint_Reader_Bad,c_varint_Reader_Bad),(n_varint_Reader_Done,c_varint_Reader_Done),(n_varint_Put,c_varint_Put),(n_crc_Put,c_crc_Put),(n_slices_DeleteFunc_api_Dropped_api_Dropped_,c_slices_DeleteFunc_api_Dropped_api_Dropped_),(n_aborts_Row_Cut_1,c_aborts_Row_Cut_1),(n_ref10_Fold,c_ref10_Fold),(n_ref10_Within,c_ref10_Within),(n_aborts_Row_Start,c_aborts_Row_Start),(n_ref1_Put,c_ref1_Put),(n_ref1_Unseal,c_ref1_Unseal),(n_ref1_Reader_Num,c_ref1_Reader_Num),(n_ref1_Reader_Done,c_ref1_Reader_Done),(n_ref1_Crc,c_ref1_Crc),(n_ref14_End,c_ref14_End),(n_batch_Right,c_batch_Right),(n_producer_Apply,c_producer_Apply),(n_keep_Tape_Batch,c_keep_Tape_Batch),(n_keep_Tape_Next,c_keep_Tape_Next),(n_ref14_Model_Producers,c_ref14_Model_Producers),(n_ref14_Model_put,c_ref14_Model_put),(n_ref14_Model_End,c_ref14_Model_End),(n_ref6_Right,c_ref6_Right),(n_crc_Of,c_crc_Of),(n_varint_Get,c_varint_Get),(n_slices_Clip_byte_byte_,c_slices_Clip_byte_byte_),(n_slices_Concat_byte_byte_,c_slices_Concat_byte_byte_),(n_slices_IndexFunc_api_Dropped_api_Dropped_,c_slices_IndexFunc_api_Dropped_api_Dropped_),(n_ref10_Table_Apply,c_ref10_Table_Apply),(n_aborts_Row_Start_1,c_aborts_Row_Start_1),(n_ref1_Get,c_ref1_Get),(n_ref1_Next,c_ref1_Next),(n_ref6_Count,c_ref6_Count),(n_batch_data,c_batch_data),(n_batch_named,c_batch_named),(n_batch_bytes,c_batch_bytes),(n_seq_Last,c_seq_Last),(n_keep_Tape_Recs,c_keep_Tape_Recs),(n_ref10_Table_Check,c_ref10_Table_Check),(n_ref14_Model_size,c_ref14_Model_size),(n_ref6_Size,c_ref6_Size),(n_ref6_plain,c_ref6_plain),(n_ref6_write,c_ref6_write),(n_crc_Next,c_crc_Next),(n_slices_Grow_byte_byte_,c_slices_Grow_byte_byte_),(n_ref10_Table_at,c_ref10_Table_at),(n_ref10_Table_Get,c_ref10_Table_Get),(n_ref10_Apply,c_ref10_Apply),(n_seq_Right,c_seq_Right),(n_varint_Long,c_varint_Long),(n_varint_Text,c_varint_Text),(n_seq_Add,c_seq_Add),(n_keep_Tape_Text,c_keep_Tape_Text),(n_ref10_Check,c_ref10_Check),(n_ref6_Bytes,c_ref6_Bytes),(n_ref6_head,c_ref6_head),(n_ref3_Seq,c_ref3_Seq),(n_ref1_Long,c_ref1_Long),(n_ref1_Text,c_ref1_Text),(n_ref3_Last,c_ref3_Last),(n_varint_bitsOf,c_varint_bitsOf),(n_ref10_Dup,c_ref10_Dup),(n_ref3_Follows,c_ref3_Follows),(n_ref3_Add,c_ref3_Add)]
def tbl (f : Nat) : Option AFunc := (codes.find? (·.1 == f)).map (·.2)
def ext1 : Sems := fun f => if f = n_slices_Clone_byte_byte_ then some (cloneSem 1 1) else if f = n_slices_Clone_3_int64_3_int64_ then some (cloneSem 3 24) else if f = n_slices_Clone_api_Dropped_api_Dropped_ then some (cloneSem 3 24) else if f = n_crc_Of then some crcSem else if f = n_ref1_Crc then some crcSem else none
noncomputable def W1 : CallF := callW tbl ext1
noncomputable def ext : Sems := fun f => if f = n_slices_Clone_byte_byte_ then some (cloneSem 1 1) else if f = n_slices_Clone_3_int64_3_int64_ then some (cloneSem 3 24) else if f = n_slices_Clone_api_Dropped_api_Dropped_ then some (cloneSem 3 24) else if f = n_crc_Of then some crcSem else if f = n_ref1_Crc then some crcSem else if f = n_law13_known then some (besideSem (W1 n_law13_known)) else none
noncomputable def W : CallF := callW tbl ext
theorem W_fn {f : Nat} {fn : AFunc} (hx' : ext f = none) (ht : tbl f = some fn) {args v} {H : Heap} (h : runFn W loopW fn args (hx H []) = some (v,hx H [])) : W f args H = some (v,H) := W_fnH hx' ht h
theorem W_fnS {f : Nat} {fn : AFunc} (hx' : ext f = none) (ht : tbl f = some fn) {args r} {H : Heap} (h : runFn W loopW fn args (hx H []) = some r) : W f args H = some r := W_fnG hx' ht h
theorem W_fn0 {f : Nat} {fn : AFunc} (hx' : ext f = none) (ht : tbl f = some fn) {args r} {H : Heap} (h : runFn W loopW fn args H = some r) : W f args H = some r := callW_fn hx' ht h
theorem W_slices_Clone_byte_byte_ (xs H) (h : xs.length * 1 ≤ maxBytes) : W n_slices_Clone_byte_byte_ [.list 1 xs .ro] H = some (.list 1 xs .own,H) := callW_ext (s := cloneSem 1 1) rfl (by unfold cloneSem; exact if_pos ⟨rfl,h⟩)
theorem W_slices_Clone_3_int64_3_int64_ (xs H) (h : xs.length * 24 ≤ maxBytes) : W n_slices_Clone_3_int64_3_int64_ [.list 3 xs .ro] H = some (.list 3 xs .own,H) := callW_ext (s := cloneSem 3 24) rfl (by unfold cloneSem; exact if_pos ⟨rfl,h⟩)
theorem W_slices_Clone_api_Dropped_api_Dropped_ (xs H) (h : xs.length * 24 ≤ maxBytes) : W n_slices_Clone_api_Dropped_api_Dropped_ [.list 3 xs .ro] H = some (.list 3 xs .own,H) := callW_ext (s := cloneSem 3 24) rfl (by unfold cloneSem; exact if_pos ⟨rfl,h⟩)
theorem W_law13_known_of {b H} (h : W1 n_law13_known [] [] = some (.bool b,[])) : W n_law13_known [] H = some (.bool b,H) := callW_ext (s := besideSem (W1 n_law13_known)) rfl (by unfold besideSem; rw [h]; rfl)
def ext0 : Sems := fun f => if f = n_slices_Clone_byte_byte_ then some (cloneSem 1 1) else if f = n_slices_Clone_3_int64_3_int64_ then some (cloneSem 3 24) else if f = n_slices_Clone_api_Dropped_api_Dropped_ then some (cloneSem 3 24) else none
noncomputable def W0 : CallF := callW tbl ext0
theorem W0_fn {f : Nat} {fn : AFunc} (hx' : ext0 f = none) (ht : tbl f = some fn) {args r} {H : Heap} (h : runFn W0 loopW fn args H = some r) : W0 f args H = some r := callW_fn hx' ht h
theorem W_crc_Of {args H r} (h : crcSem args H = some r) : W n_crc_Of args H = some r := callW_ext (s := crcSem) rfl h
theorem W_ref1_Crc {args H r} (h : crcSem args H = some r) : W n_ref1_Crc args H = some r := callW_ext (s := crcSem) rfl h
end Go.Abs
