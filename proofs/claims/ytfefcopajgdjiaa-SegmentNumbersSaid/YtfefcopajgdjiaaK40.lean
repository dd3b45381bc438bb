import Derived.Test.YtfefcopajgdjiaaK39
namespace Go.Abs
open Go Go.RowKit
attribute [go_sem] not_true_eq_false not_false_eq_true decide_true decide_false ne_eq Bool.false_eq_true s_shl s_shr Bool.not_false Bool.not_true Bool.and_self Bool.true_and Bool.and_true Bool.and_false Bool.false_and Bool.true_or Bool.or_true and_self and_true true_and and_false false_and or_true true_or or_false false_or Int.cast_ofNat_Int beq_self_eq_true List.take_zero List.take_succ_cons List.take_nil
end Go.Abs
