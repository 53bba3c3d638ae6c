/- The package natural: unshift. -/
import Derived.Laws.BitsAllLaws
import Derived.Test.YtdaiaafehfbdfaaGreatDoorA2
set_option maxRecDepth 4000
set_option linter.unusedVariables false
set_option linter.unusedSimpArgs false
set_option linter.unnecessarySimpa false
set_option linter.unusedSectionVars false
/-! The code of the functions, as the abstract machine has it (written by program). -/
namespace Go.Proofs.Vm
open Go
set_option maxRecDepth 100000
def F_natural_parse : Fn := ⟨38, .seq (.ops [⟨some 2, none, .mv (.c (.lit (.slice none 0 0)))⟩]) (.seq (.ops [⟨some 5, none, .mv (.t 0)⟩, ⟨some 6, none, .slen (.t 5)⟩, ⟨some 7, none, .bin .add (.t 6) (.c (.int 4))⟩, ⟨some 8, none, .bin .sub (.t 7) (.c (.int 1))⟩, ⟨some 9, none, .bin .quo (.t 8) (.c (.int 4))⟩, ⟨some 10, none, .mk ty_uint32 1 4 [.lit (.int .u32 (Int.ofNat 0))] (.t 9) (.t 9)⟩, ⟨some 3, none, .mv (.t 10)⟩]) (.seq (.seq (.ops [⟨some 11, none, .mv (.t 0)⟩, ⟨some 12, none, .slen (.t 11)⟩, ⟨some 13, none, .mv (.c (.int 0))⟩]) (.block 0 (.loop (.seq (.ops [⟨some 14, none, .bin .lss (.t 13) (.t 12)⟩]) (.seq (.cond (.t 14) .skip (.exit 0)) (.seq (.block 1 (.seq (.ops [⟨some 15, none, .mv (.t 13)⟩, ⟨some 4, none, .mv (.t 15)⟩]) (.ops [⟨some 16, none, .mv (.t 3)⟩, ⟨some 17, none, .mv (.t 4)⟩, ⟨some 18, none, .bin .quo (.t 17) (.c (.int 4))⟩, ⟨some 19, none, .ia 1 (.t 16) (.t 18)⟩, ⟨some 20, none, .ld none (.t 19)⟩, ⟨some 21, none, .mv (.t 0)⟩, ⟨some 22, none, .mv (.t 0)⟩, ⟨some 23, none, .slen (.t 22)⟩, ⟨some 24, none, .bin .sub (.t 23) (.c (.int 1))⟩, ⟨some 25, none, .mv (.t 4)⟩, ⟨some 26, none, .bin .sub (.t 24) (.t 25)⟩, ⟨some 27, none, .idx (.t 21) (.t 26)⟩, ⟨some 28, none, .wrap .u32 (.t 27)⟩, ⟨some 29, none, .mv (.t 4)⟩, ⟨some 30, none, .bin .rem (.t 29) (.c (.int 4))⟩, ⟨some 31, none, .bin .mul (.c (.int 8)) (.t 30)⟩, ⟨some 32, none, .bin .shl (.t 28) (.t 31)⟩, ⟨some 33, none, .bin .or (.t 20) (.t 32)⟩, ⟨some 34, none, .ia 1 (.t 16) (.t 18)⟩, ⟨none, none, .st 1 (.t 34) (.t 33)⟩]))) (.ops [⟨some 35, none, .bin .add (.t 13) (.c (.int 1))⟩, ⟨some 13, none, .mv (.t 35)⟩]))))))) (.seq (.ops [⟨some 36, none, .mv (.t 3)⟩, ⟨some 37, none, .call fn_natural_limbs_trim [.t 36]⟩, ⟨some 2, none, .mv (.t 37)⟩]) .ret))), [.t 2]⟩
def F_natural_limbs_text : Fn := ⟨35, .seq (.ops [⟨some 2, none, .mv (.c (.lit (.string ⟨#[]⟩)))⟩]) (.seq (.ops [⟨some 5, none, .mv (.t 0)⟩, ⟨some 6, none, .len (.t 5)⟩, ⟨some 7, none, .bin .mul (.t 6) (.c (.int 4))⟩, ⟨some 8, none, .mk ty_uint8 1 1 [.lit (.int .u8 (Int.ofNat 0))] (.t 7) (.t 7)⟩, ⟨some 3, none, .mv (.t 8)⟩]) (.seq (.seq (.ops [⟨some 9, none, .mv (.t 3)⟩, ⟨some 10, none, .len (.t 9)⟩, ⟨some 11, none, .mv (.c (.int 0))⟩]) (.block 0 (.loop (.seq (.ops [⟨some 12, none, .bin .lss (.t 11) (.t 10)⟩]) (.seq (.cond (.t 12) .skip (.exit 0)) (.seq (.block 1 (.seq (.ops [⟨some 13, none, .mv (.t 11)⟩, ⟨some 4, none, .mv (.t 13)⟩]) (.ops [⟨some 14, none, .mv (.t 3)⟩, ⟨some 15, none, .mv (.t 3)⟩, ⟨some 16, none, .len (.t 15)⟩, ⟨some 17, none, .bin .sub (.t 16) (.c (.int 1))⟩, ⟨some 18, none, .mv (.t 4)⟩, ⟨some 19, none, .bin .sub (.t 17) (.t 18)⟩, ⟨some 20, none, .mv (.t 0)⟩, ⟨some 21, none, .mv (.t 4)⟩, ⟨some 22, none, .bin .quo (.t 21) (.c (.int 4))⟩, ⟨some 23, none, .ia 1 (.t 20) (.t 22)⟩, ⟨some 24, none, .ld none (.t 23)⟩, ⟨some 25, none, .mv (.t 4)⟩, ⟨some 26, none, .bin .rem (.t 25) (.c (.int 4))⟩, ⟨some 27, none, .bin .mul (.c (.int 8)) (.t 26)⟩, ⟨some 28, none, .bin .shr (.t 24) (.t 27)⟩, ⟨some 29, none, .wrap .u8 (.t 28)⟩, ⟨some 30, none, .ia 1 (.t 14) (.t 19)⟩, ⟨none, none, .st 1 (.t 30) (.t 29)⟩]))) (.ops [⟨some 31, none, .bin .add (.t 11) (.c (.int 1))⟩, ⟨some 11, none, .mv (.t 31)⟩]))))))) (.seq (.ops [⟨some 32, none, .mv (.t 3)⟩, ⟨some 33, none, .str (.t 32)⟩, ⟨some 34, none, .call fn_natural_Normalize [.t 33]⟩, ⟨some 2, none, .mv (.t 34)⟩]) .ret))), [.t 2]⟩
def F_natural_Add : Fn := ⟨60, .seq (.ops [⟨some 4, none, .mv (.c (.lit (.string ⟨#[]⟩)))⟩]) (.seq (.ops [⟨some 11, none, .mv (.t 0)⟩, ⟨some 12, none, .call fn_natural_parse [.t 11]⟩, ⟨some 13, none, .mv (.t 1)⟩, ⟨some 14, none, .call fn_natural_parse [.t 13]⟩, ⟨some 5, none, .mv (.t 12)⟩, ⟨some 6, none, .mv (.t 14)⟩]) (.seq (.seq (.ops [⟨some 15, none, .mv (.t 5)⟩, ⟨some 16, none, .len (.t 15)⟩, ⟨some 17, none, .mv (.t 6)⟩, ⟨some 18, none, .len (.t 17)⟩, ⟨some 19, none, .bin .lss (.t 16) (.t 18)⟩]) (.cond (.t 19) (.ops [⟨some 20, none, .mv (.t 6)⟩, ⟨some 21, none, .mv (.t 5)⟩, ⟨some 5, none, .mv (.t 20)⟩, ⟨some 6, none, .mv (.t 21)⟩]) .skip)) (.seq (.ops [⟨some 22, none, .mv (.t 5)⟩, ⟨some 23, none, .len (.t 22)⟩, ⟨some 24, none, .bin .add (.t 23) (.c (.int 1))⟩, ⟨some 25, none, .mk ty_uint32 1 4 [.lit (.int .u32 (Int.ofNat 0))] (.t 24) (.t 24)⟩, ⟨some 7, none, .mv (.t 25)⟩]) (.seq (.ops [⟨some 8, none, .mv (.c (.lit (.int .u32 (Int.ofNat 0))))⟩]) (.seq (.seq (.ops [⟨some 26, none, .mv (.t 5)⟩, ⟨some 27, none, .len (.t 26)⟩, ⟨some 28, none, .mv (.c (.int 0))⟩]) (.block 0 (.loop (.seq (.ops [⟨some 29, none, .bin .lss (.t 28) (.t 27)⟩]) (.seq (.cond (.t 29) .skip (.exit 0)) (.seq (.block 1 (.seq (.ops [⟨some 30, none, .mv (.t 28)⟩, ⟨some 9, none, .mv (.t 30)⟩]) (.seq (.ops [⟨some 10, none, .mv (.c (.lit (.int .u32 (Int.ofNat 0))))⟩]) (.seq (.seq (.ops [⟨some 31, none, .mv (.t 9)⟩, ⟨some 32, none, .mv (.t 6)⟩, ⟨some 33, none, .len (.t 32)⟩, ⟨some 34, none, .bin .lss (.t 31) (.t 33)⟩]) (.cond (.t 34) (.ops [⟨some 35, none, .mv (.t 6)⟩, ⟨some 36, none, .mv (.t 9)⟩, ⟨some 37, none, .ia 1 (.t 35) (.t 36)⟩, ⟨some 38, none, .ld none (.t 37)⟩, ⟨some 10, none, .mv (.t 38)⟩]) .skip)) (.ops [⟨some 40, none, .mv (.t 7)⟩, ⟨some 41, none, .mv (.t 9)⟩, ⟨some 42, none, .mv (.t 5)⟩, ⟨some 43, none, .mv (.t 9)⟩, ⟨some 44, none, .ia 1 (.t 42) (.t 43)⟩, ⟨some 45, none, .ld none (.t 44)⟩, ⟨some 46, none, .mv (.t 10)⟩, ⟨some 47, none, .mv (.t 8)⟩, ⟨some 48, none, .call fn_bits_Add32 [.t 45, .t 46, .t 47]⟩, ⟨some 39, none, .mv (.t 48)⟩, ⟨some 49, none, .ext 0 (.t 39)⟩, ⟨some 50, none, .ext 1 (.t 39)⟩, ⟨some 51, none, .ia 1 (.t 40) (.t 41)⟩, ⟨none, none, .st 1 (.t 51) (.t 49)⟩, ⟨some 8, none, .mv (.t 50)⟩]))))) (.ops [⟨some 52, none, .bin .add (.t 28) (.c (.int 1))⟩, ⟨some 28, none, .mv (.t 52)⟩]))))))) (.seq (.ops [⟨some 53, none, .mv (.t 7)⟩, ⟨some 54, none, .mv (.t 5)⟩, ⟨some 55, none, .len (.t 54)⟩, ⟨some 56, none, .mv (.t 8)⟩, ⟨some 57, none, .ia 1 (.t 53) (.t 55)⟩, ⟨none, none, .st 1 (.t 57) (.t 56)⟩]) (.seq (.ops [⟨some 58, none, .mv (.t 7)⟩, ⟨some 59, none, .call fn_natural_limbs_text [.t 58]⟩, ⟨some 4, none, .mv (.t 59)⟩]) .ret))))))), [.t 4]⟩
def F_natural_Subtract : Fn := ⟨20, .seq (.ops [⟨some 4, none, .mv (.c (.lit (.string ⟨#[]⟩)))⟩, ⟨some 5, none, .mv (.c (.lit (.bool false)))⟩]) (.seq (.ops [⟨some 8, none, .mv (.t 0)⟩, ⟨some 9, none, .call fn_natural_parse [.t 8]⟩, ⟨some 10, none, .mv (.t 1)⟩, ⟨some 11, none, .call fn_natural_parse [.t 10]⟩, ⟨some 6, none, .mv (.t 9)⟩, ⟨some 7, none, .mv (.t 11)⟩]) (.seq (.seq (.ops [⟨some 12, none, .mv (.t 6)⟩, ⟨some 13, none, .mv (.t 7)⟩, ⟨some 14, none, .call fn_natural_compare [.t 12, .t 13]⟩, ⟨some 15, none, .bin .lss (.t 14) (.c (.int 0))⟩]) (.cond (.t 15) (.seq (.ops [⟨some 4, none, .mv (.c (.lit (.string ⟨#[]⟩)))⟩, ⟨some 5, none, .mv (.c (.lit (.bool false)))⟩]) .ret) .skip)) (.seq (.ops [⟨some 16, none, .mv (.t 6)⟩, ⟨some 17, none, .mv (.t 7)⟩, ⟨some 18, none, .call fn_natural_subtract [.t 16, .t 17]⟩, ⟨some 19, none, .call fn_natural_limbs_text [.t 18]⟩, ⟨some 4, none, .mv (.t 19)⟩, ⟨some 5, none, .mv (.c (.lit (.bool true)))⟩]) .ret))), [.t 4, .t 5]⟩
def F_natural_GCD : Fn := ⟨26, .seq (.ops [⟨some 4, none, .mv (.c (.lit (.string ⟨#[]⟩)))⟩]) (.seq (.ops [⟨some 9, none, .mv (.t 0)⟩, ⟨some 10, none, .call fn_natural_parse [.t 9]⟩, ⟨some 11, none, .mv (.t 1)⟩, ⟨some 12, none, .call fn_natural_parse [.t 11]⟩, ⟨some 5, none, .mv (.t 10)⟩, ⟨some 6, none, .mv (.t 12)⟩]) (.seq (.block 0 (.loop (.seq (.seq (.ops [⟨some 13, none, .mv (.t 6)⟩, ⟨some 14, none, .len (.t 13)⟩, ⟨some 15, none, .bin .gtr (.t 14) (.c (.int 0))⟩]) (.cond (.t 15) .skip (.exit 0))) (.block 1 (.seq (.ops [⟨some 17, none, .mv (.t 5)⟩, ⟨some 18, none, .mv (.t 6)⟩, ⟨some 19, none, .call fn_natural_divide [.t 17, .t 18]⟩, ⟨some 16, none, .mv (.t 19)⟩, ⟨some 20, none, .ext 0 (.t 16)⟩, ⟨some 21, none, .ext 1 (.t 16)⟩, ⟨some 7, none, .mv (.t 20)⟩, ⟨some 8, none, .mv (.t 21)⟩]) (.ops [⟨some 22, none, .mv (.t 6)⟩, ⟨some 23, none, .mv (.t 8)⟩, ⟨some 5, none, .mv (.t 22)⟩, ⟨some 6, none, .mv (.t 23)⟩])))))) (.seq (.ops [⟨some 24, none, .mv (.t 5)⟩, ⟨some 25, none, .call fn_natural_limbs_text [.t 24]⟩, ⟨some 4, none, .mv (.t 25)⟩]) .ret))), [.t 4]⟩
def F_natural_Divide : Fn := ⟨26, .seq (.ops [⟨some 4, none, .mv (.c (.lit (.string ⟨#[]⟩)))⟩, ⟨some 5, none, .mv (.c (.lit (.string ⟨#[]⟩)))⟩, ⟨some 6, none, .mv (.c (.lit (.bool false)))⟩]) (.seq (.ops [⟨some 10, none, .mv (.t 1)⟩, ⟨some 11, none, .call fn_natural_parse [.t 10]⟩, ⟨some 7, none, .mv (.t 11)⟩]) (.seq (.seq (.ops [⟨some 12, none, .mv (.t 7)⟩, ⟨some 13, none, .len (.t 12)⟩, ⟨some 14, none, .bin .eql (.t 13) (.c (.int 0))⟩]) (.cond (.t 14) (.seq (.ops [⟨some 4, none, .mv (.c (.lit (.string ⟨#[]⟩)))⟩, ⟨some 5, none, .mv (.c (.lit (.string ⟨#[]⟩)))⟩, ⟨some 6, none, .mv (.c (.lit (.bool false)))⟩]) .ret) .skip)) (.seq (.ops [⟨some 16, none, .mv (.t 0)⟩, ⟨some 17, none, .call fn_natural_parse [.t 16]⟩, ⟨some 18, none, .mv (.t 7)⟩, ⟨some 19, none, .call fn_natural_divide [.t 17, .t 18]⟩, ⟨some 15, none, .mv (.t 19)⟩, ⟨some 20, none, .ext 0 (.t 15)⟩, ⟨some 21, none, .ext 1 (.t 15)⟩, ⟨some 8, none, .mv (.t 20)⟩, ⟨some 9, none, .mv (.t 21)⟩]) (.seq (.ops [⟨some 22, none, .mv (.t 8)⟩, ⟨some 23, none, .call fn_natural_limbs_text [.t 22]⟩, ⟨some 24, none, .mv (.t 9)⟩, ⟨some 25, none, .call fn_natural_limbs_text [.t 24]⟩, ⟨some 4, none, .mv (.t 23)⟩, ⟨some 5, none, .mv (.t 25)⟩, ⟨some 6, none, .mv (.c (.lit (.bool true)))⟩]) .ret)))), [.t 4, .t 5, .t 6]⟩
def F_natural_FromUint : Fn := ⟨10, .seq (.ops [⟨some 2, none, .mv (.c (.lit (.string ⟨#[]⟩)))⟩]) (.seq (.ops [⟨some 3, none, .mv (.t 0)⟩, ⟨some 4, none, .wrap .u32 (.t 3)⟩, ⟨some 5, none, .mv (.t 0)⟩, ⟨some 6, none, .bin .shr (.t 5) (.c (.lit (.int .u64 (Int.ofNat 32))))⟩, ⟨some 7, none, .wrap .u32 (.t 6)⟩, ⟨some 8, none, .bsl ty_uint32 1 2 [.lit (.int .u32 (Int.ofNat 0))] [(0, 1, .t 4), (1, 1, .t 7)]⟩, ⟨some 9, none, .call fn_natural_limbs_text [.t 8]⟩, ⟨some 2, none, .mv (.t 9)⟩]) .ret), [.t 2]⟩
def F_waterfall_Layout_rates : Fn := ⟨21, .seq (.ops [⟨some 2, none, .box (.t 0) ty_waterfall_Layout⟩, ⟨some 3, none, .box (.t 1) ty_api_Rat⟩, ⟨some 4, none, .mv (.c (.lit (.slice none 0 0)))⟩]) (.seq (.ops [⟨some 6, none, .off 0 (.t 2)⟩, ⟨some 7, none, .ld none (.t 6)⟩, ⟨some 8, none, .mk ty_api_Rat 3 40 [.lit (.bool false), .lit (.string ⟨#[]⟩), .lit (.string ⟨#[]⟩)] (.t 7) (.t 7)⟩, ⟨some 9, none, .build [.lit (.slice none 0 0), .lit (.bool false), .lit (.string ⟨#[]⟩), .lit (.string ⟨#[]⟩)] [(0, 1, .t 8)]⟩, ⟨some 10, none, .box (.t 9) ty_waterfall_result⟩, ⟨some 5, none, .mv (.t 10)⟩]) (.seq (.ops [⟨some 11, none, .off 1 (.t 2)⟩, ⟨some 12, none, .ld none (.t 11)⟩, ⟨some 13, none, .ld (some 3) (.t 3)⟩, ⟨some 14, none, .call fn_rational_Int [.c (.int 1)]⟩, ⟨some 15, none, .mv (.t 5)⟩, ⟨some 16, none, .call fn_waterfall_ladder_slope [.t 12, .t 13, .t 14, .t 15]⟩]) (.seq (.ops [⟨some 17, none, .mv (.t 5)⟩, ⟨some 18, none, .nilc (.t 17)⟩, ⟨some 19, none, .off 0 (.t 18)⟩, ⟨some 20, none, .ld none (.t 19)⟩, ⟨some 4, none, .mv (.t 20)⟩]) .ret))), [.t 4]⟩
def F_waterfall_ladder_slope : Fn := ⟨27, .seq (.ops [⟨some 5, none, .box (.t 1) ty_api_Rat⟩, ⟨some 6, none, .box (.t 2) ty_api_Rat⟩]) (.seq (.ops [⟨some 11, none, .mv (.t 0)⟩, ⟨some 12, none, .ld (some 3) (.t 5)⟩, ⟨some 13, none, .call fn_waterfall_ladder_split [.t 11, .t 12]⟩, ⟨some 10, none, .mv (.t 13)⟩, ⟨some 14, none, .ext 0 (.t 10)⟩, ⟨some 15, none, .ext 1 (.t 10)⟩, ⟨some 9, none, .new [.lit (.bool false), .lit (.string ⟨#[]⟩), .lit (.string ⟨#[]⟩)] ty_api_Rat⟩, ⟨some 8, none, .mv (.t 14)⟩, ⟨none, none, .st 3 (.t 9) (.t 15)⟩]) (.seq (.ops [⟨some 16, none, .mv (.t 8)⟩, ⟨some 17, none, .mv (.t 0)⟩, ⟨some 18, none, .len (.t 17)⟩, ⟨some 19, none, .bin .lss (.t 16) (.t 18)⟩]) (.cond (.t 19) (.ops [⟨some 20, none, .mv (.t 3)⟩, ⟨some 21, none, .mv (.t 0)⟩, ⟨some 22, none, .mv (.t 8)⟩, ⟨some 23, none, .ia 4 (.t 21) (.t 22)⟩, ⟨some 24, none, .ld (some 4) (.t 23)⟩, ⟨some 25, none, .ld (some 3) (.t 6)⟩, ⟨some 26, none, .call fn_waterfall_result_share [.t 20, .t 24, .t 25]⟩]) .skip))), []⟩
def F_slices_IndexFunc_Sint_int : Fn := ⟨19, .seq (.ops [⟨some 4, none, .mv (.c (.int 0))⟩]) (.seq (.seq (.ops [⟨some 6, none, .mv (.t 0)⟩, ⟨some 7, none, .len (.t 6)⟩, ⟨some 8, none, .mv (.c (.int 0))⟩]) (.block 0 (.loop (.seq (.ops [⟨some 9, none, .bin .lss (.t 8) (.t 7)⟩]) (.seq (.cond (.t 9) .skip (.exit 0)) (.seq (.block 1 (.seq (.ops [⟨some 10, none, .mv (.t 8)⟩, ⟨some 5, none, .mv (.t 10)⟩]) (.seq (.ops [⟨some 11, none, .mv (.t 1)⟩, ⟨some 12, none, .mv (.t 0)⟩, ⟨some 13, none, .mv (.t 5)⟩, ⟨some 14, none, .ia 1 (.t 12) (.t 13)⟩, ⟨some 15, none, .ld none (.t 14)⟩, ⟨some 16, none, .callv (.t 11) [.t 15]⟩]) (.cond (.t 16) (.seq (.ops [⟨some 17, none, .mv (.t 5)⟩, ⟨some 4, none, .mv (.t 17)⟩]) .ret) .skip)))) (.ops [⟨some 18, none, .bin .add (.t 8) (.c (.int 1))⟩, ⟨some 8, none, .mv (.t 18)⟩]))))))) (.seq (.ops [⟨some 4, none, .mv (.c (.lit (.int .i64 (Int.negSucc 0))))⟩]) .ret)), [.t 4]⟩
def F_linear_Reduce : Fn := ⟨27, .seq (.ops [⟨some 2, none, .mv (.c (.lit (.slice none 0 0)))⟩, ⟨some 3, none, .mv (.c (.lit (.slice none 0 0)))⟩, ⟨some 4, none, .mv (.c (.int 0))⟩]) (.seq (.seq (.ops [⟨some 9, none, .mv (.t 0)⟩, ⟨some 10, none, .call fn_linear_check [.t 9]⟩, ⟨some 5, none, .mv (.t 10)⟩]) (.seq (.ops [⟨some 11, none, .mv (.t 5)⟩, ⟨some 12, none, .bin .neq (.t 11) (.c (.int 0))⟩]) (.cond (.t 12) (.seq (.ops [⟨some 13, none, .mv (.t 5)⟩, ⟨some 2, none, .mv (.c (.lit (.slice none 0 0)))⟩, ⟨some 3, none, .mv (.c (.lit (.slice none 0 0)))⟩, ⟨some 4, none, .mv (.t 13)⟩]) .ret) .skip))) (.seq (.ops [⟨some 14, none, .mv (.t 0)⟩, ⟨some 15, none, .call fn_linear_clean [.t 14]⟩, ⟨some 6, none, .mv (.t 15)⟩]) (.seq (.ops [⟨some 17, none, .mv (.t 6)⟩, ⟨some 18, none, .mv (.t 0)⟩, ⟨some 19, none, .ia 1 (.t 18) (.c (.int 0))⟩, ⟨some 20, none, .ld none (.t 19)⟩, ⟨some 21, none, .len (.t 20)⟩, ⟨some 22, none, .call fn_linear_reduce [.t 17, .t 21]⟩, ⟨some 16, none, .mv (.t 22)⟩, ⟨some 23, none, .ext 0 (.t 16)⟩, ⟨some 24, none, .ext 1 (.t 16)⟩, ⟨some 8, none, .new [.lit (.bool false), .lit (.string ⟨#[]⟩), .lit (.string ⟨#[]⟩)] ty_api_Rat⟩, ⟨some 7, none, .mv (.t 23)⟩, ⟨none, none, .st 3 (.t 8) (.t 24)⟩]) (.seq (.ops [⟨some 25, none, .mv (.t 6)⟩, ⟨some 26, none, .mv (.t 7)⟩, ⟨some 2, none, .mv (.t 25)⟩, ⟨some 3, none, .mv (.t 26)⟩, ⟨some 4, none, .mv (.c (.int 0))⟩]) .ret)))), [.t 2, .t 3, .t 4]⟩
def F_slices_Contains_Sint_int : Fn := ⟨9, .seq (.ops [⟨some 4, none, .mv (.c (.lit (.bool false)))⟩]) (.seq (.ops [⟨some 5, none, .mv (.t 0)⟩, ⟨some 6, none, .mv (.t 1)⟩, ⟨some 7, none, .call fn_slices_Index_Sint_int [.t 5, .t 6]⟩, ⟨some 8, none, .bin .geq (.t 7) (.c (.int 0))⟩, ⟨some 4, none, .mv (.t 8)⟩]) .ret), [.t 4]⟩
def F_linear_square : Fn := ⟨16, .seq (.ops [⟨some 2, none, .mv (.c (.int 0))⟩]) (.seq (.seq (.ops [⟨some 4, none, .mv (.t 0)⟩, ⟨some 5, none, .call fn_linear_check [.t 4]⟩, ⟨some 3, none, .mv (.t 5)⟩]) (.seq (.ops [⟨some 6, none, .mv (.t 3)⟩, ⟨some 7, none, .bin .neq (.t 6) (.c (.int 0))⟩]) (.cond (.t 7) (.seq (.ops [⟨some 8, none, .mv (.t 3)⟩, ⟨some 2, none, .mv (.t 8)⟩]) .ret) .skip))) (.seq (.seq (.ops [⟨some 9, none, .mv (.t 0)⟩, ⟨some 10, none, .len (.t 9)⟩, ⟨some 11, none, .mv (.t 0)⟩, ⟨some 12, none, .ia 1 (.t 11) (.c (.int 0))⟩, ⟨some 13, none, .ld none (.t 12)⟩, ⟨some 14, none, .len (.t 13)⟩, ⟨some 15, none, .bin .neq (.t 10) (.t 14)⟩]) (.cond (.t 15) (.seq (.ops [⟨some 2, none, .mv (.c (.int 4))⟩]) .ret) .skip)) (.seq (.ops [⟨some 2, none, .mv (.c (.int 0))⟩]) .ret))), [.t 2]⟩
def F_linear_clean : Fn := ⟨41, .seq (.ops [⟨some 2, none, .mv (.c (.lit (.slice none 0 0)))⟩]) (.seq (.ops [⟨some 8, none, .mv (.t 0)⟩, ⟨some 9, none, .len (.t 8)⟩, ⟨some 10, none, .mk ty_Sapi_Rat 1 24 [.lit (.slice none 0 0)] (.t 9) (.t 9)⟩, ⟨some 3, none, .mv (.t 10)⟩]) (.seq (.seq (.ops [⟨some 11, none, .mv (.t 0)⟩, ⟨some 12, none, .len (.t 11)⟩, ⟨some 13, none, .mv (.c (.int 0))⟩]) (.block 0 (.loop (.seq (.ops [⟨some 14, none, .bin .lss (.t 13) (.t 12)⟩]) (.seq (.cond (.t 14) .skip (.exit 0)) (.seq (.block 1 (.seq (.ops [⟨some 15, none, .mv (.t 13)⟩, ⟨some 16, none, .ia 1 (.t 11) (.t 13)⟩, ⟨some 17, none, .ld none (.t 16)⟩, ⟨some 4, none, .mv (.t 15)⟩, ⟨some 5, none, .mv (.t 17)⟩]) (.seq (.ops [⟨some 18, none, .mv (.t 5)⟩, ⟨some 19, none, .len (.t 18)⟩, ⟨some 20, none, .mv (.c (.int 0))⟩]) (.block 2 (.loop (.seq (.ops [⟨some 21, none, .bin .lss (.t 20) (.t 19)⟩]) (.seq (.cond (.t 21) .skip (.exit 2)) (.seq (.block 3 (.seq (.ops [⟨some 22, none, .ia 3 (.t 18) (.t 20)⟩, ⟨some 23, none, .ld (some 3) (.t 22)⟩, ⟨some 7, none, .new [.lit (.bool false), .lit (.string ⟨#[]⟩), .lit (.string ⟨#[]⟩)] ty_api_Rat⟩, ⟨none, none, .st 3 (.t 7) (.t 23)⟩]) (.seq (.seq (.ops [⟨some 24, none, .ld (some 3) (.t 7)⟩, ⟨some 25, none, .call fn_rational_Valid [.t 24]⟩, ⟨some 26, none, .un .not (.t 25)⟩]) (.cond (.t 26) (.ops [⟨some 27, none, .build [.lit (.bool false), .lit (.string ⟨#[]⟩), .lit (.string ⟨#[]⟩)] []⟩, ⟨none, none, .st 3 (.t 7) (.t 27)⟩]) .skip)) (.ops [⟨some 28, none, .mv (.t 3)⟩, ⟨some 29, none, .mv (.t 4)⟩, ⟨some 30, none, .mv (.t 3)⟩, ⟨some 31, none, .mv (.t 4)⟩, ⟨some 32, none, .ia 1 (.t 30) (.t 31)⟩, ⟨some 33, none, .ld none (.t 32)⟩, ⟨some 34, none, .ld (some 3) (.t 7)⟩, ⟨some 35, none, .bsl ty_api_Rat 3 1 [.lit (.bool false), .lit (.string ⟨#[]⟩), .lit (.string ⟨#[]⟩)] [(0, 3, .t 34)]⟩, ⟨some 36, none, .app ty_api_Rat 3 40 (.t 33) (.t 35)⟩, ⟨some 37, none, .ia 1 (.t 28) (.t 29)⟩, ⟨none, none, .st 1 (.t 37) (.t 36)⟩])))) (.ops [⟨some 38, none, .bin .add (.t 20) (.c (.int 1))⟩, ⟨some 20, none, .mv (.t 38)⟩]))))))))) (.ops [⟨some 39, none, .bin .add (.t 13) (.c (.int 1))⟩, ⟨some 13, none, .mv (.t 39)⟩]))))))) (.seq (.ops [⟨some 40, none, .mv (.t 3)⟩, ⟨some 2, none, .mv (.t 40)⟩]) .ret))), [.t 2]⟩
def F_linear_integers : Fn := ⟨68, .seq (.ops [⟨some 2, none, .mv (.c (.lit (.slice none 0 0)))⟩]) (.seq (.ops [⟨some 16, none, .call fn_natural_FromUint [.c (.lit (.int .u64 (Int.ofNat 1)))]⟩, ⟨some 3, none, .mv (.t 16)⟩]) (.seq (.seq (.ops [⟨some 17, none, .mv (.t 0)⟩, ⟨some 18, none, .len (.t 17)⟩, ⟨some 19, none, .mv (.c (.int 0))⟩]) (.block 0 (.loop (.seq (.ops [⟨some 20, none, .bin .lss (.t 19) (.t 18)⟩]) (.seq (.cond (.t 20) .skip (.exit 0)) (.seq (.block 1 (.seq (.ops [⟨some 21, none, .ia 3 (.t 17) (.t 19)⟩, ⟨some 22, none, .ld (some 3) (.t 21)⟩, ⟨some 5, none, .new [.lit (.bool false), .lit (.string ⟨#[]⟩), .lit (.string ⟨#[]⟩)] ty_api_Rat⟩, ⟨none, none, .st 3 (.t 5) (.t 22)⟩]) (.seq (.ops [⟨some 23, none, .ld (some 3) (.t 5)⟩, ⟨some 24, none, .call fn_linear_denominator [.t 23]⟩, ⟨some 6, none, .mv (.t 24)⟩]) (.seq (.ops [⟨some 26, none, .mv (.t 6)⟩, ⟨some 27, none, .mv (.t 3)⟩, ⟨some 28, none, .mv (.t 6)⟩, ⟨some 29, none, .call fn_natural_GCD [.t 27, .t 28]⟩, ⟨some 30, none, .call fn_natural_Divide [.t 26, .t 29]⟩, ⟨some 25, none, .mv (.t 30)⟩, ⟨some 31, none, .ext 0 (.t 25)⟩, ⟨some 32, none, .ext 1 (.t 25)⟩, ⟨some 33, none, .ext 2 (.t 25)⟩, ⟨some 7, none, .mv (.t 31)⟩, ⟨some 8, none, .mv (.t 32)⟩, ⟨some 9, none, .mv (.t 33)⟩]) (.ops [⟨some 34, none, .mv (.t 3)⟩, ⟨some 35, none, .mv (.t 7)⟩, ⟨some 36, none, .call fn_natural_Multiply [.t 34, .t 35]⟩, ⟨some 3, none, .mv (.t 36)⟩]))))) (.ops [⟨some 37, none, .bin .add (.t 19) (.c (.int 1))⟩, ⟨some 19, none, .mv (.t 37)⟩]))))))) (.seq (.ops [⟨some 38, none, .mv (.t 0)⟩, ⟨some 39, none, .len (.t 38)⟩, ⟨some 40, none, .mk ty_linear_integer 2 24 [.lit (.bool false), .lit (.string ⟨#[]⟩)] (.t 39) (.t 39)⟩, ⟨some 10, none, .mv (.t 40)⟩]) (.seq (.seq (.ops [⟨some 41, none, .mv (.t 0)⟩, ⟨some 42, none, .len (.t 41)⟩, ⟨some 43, none, .mv (.c (.int 0))⟩]) (.block 2 (.loop (.seq (.ops [⟨some 44, none, .bin .lss (.t 43) (.t 42)⟩]) (.seq (.cond (.t 44) .skip (.exit 2)) (.seq (.block 3 (.seq (.ops [⟨some 45, none, .mv (.t 43)⟩, ⟨some 46, none, .ia 3 (.t 41) (.t 43)⟩, ⟨some 47, none, .ld (some 3) (.t 46)⟩, ⟨some 12, none, .new [.lit (.bool false), .lit (.string ⟨#[]⟩), .lit (.string ⟨#[]⟩)] ty_api_Rat⟩, ⟨some 11, none, .mv (.t 45)⟩, ⟨none, none, .st 3 (.t 12) (.t 47)⟩]) (.seq (.ops [⟨some 49, none, .mv (.t 3)⟩, ⟨some 50, none, .ld (some 3) (.t 12)⟩, ⟨some 51, none, .call fn_linear_denominator [.t 50]⟩, ⟨some 52, none, .call fn_natural_Divide [.t 49, .t 51]⟩, ⟨some 48, none, .mv (.t 52)⟩, ⟨some 53, none, .ext 0 (.t 48)⟩, ⟨some 54, none, .ext 1 (.t 48)⟩, ⟨some 55, none, .ext 2 (.t 48)⟩, ⟨some 13, none, .mv (.t 53)⟩, ⟨some 14, none, .mv (.t 54)⟩, ⟨some 15, none, .mv (.t 55)⟩]) (.ops [⟨some 56, none, .mv (.t 10)⟩, ⟨some 57, none, .mv (.t 11)⟩, ⟨some 58, none, .off 0 (.t 12)⟩, ⟨some 59, none, .ld none (.t 58)⟩, ⟨some 60, none, .off 1 (.t 12)⟩, ⟨some 61, none, .ld none (.t 60)⟩, ⟨some 62, none, .mv (.t 13)⟩, ⟨some 63, none, .call fn_natural_Multiply [.t 61, .t 62]⟩, ⟨some 64, none, .build [.lit (.bool false), .lit (.string ⟨#[]⟩)] [(0, 1, .t 59), (1, 1, .t 63)]⟩, ⟨some 65, none, .ia 2 (.t 56) (.t 57)⟩, ⟨none, none, .st 2 (.t 65) (.t 64)⟩])))) (.ops [⟨some 66, none, .bin .add (.t 43) (.c (.int 1))⟩, ⟨some 43, none, .mv (.t 66)⟩]))))))) (.seq (.ops [⟨some 67, none, .mv (.t 10)⟩, ⟨some 2, none, .mv (.t 67)⟩]) .ret))))), [.t 2]⟩
def F_slices_IndexFunc_SSlinear_integer_Slinear_integer : Fn := ⟨19, .seq (.ops [⟨some 4, none, .mv (.c (.int 0))⟩]) (.seq (.seq (.ops [⟨some 6, none, .mv (.t 0)⟩, ⟨some 7, none, .len (.t 6)⟩, ⟨some 8, none, .mv (.c (.int 0))⟩]) (.block 0 (.loop (.seq (.ops [⟨some 9, none, .bin .lss (.t 8) (.t 7)⟩]) (.seq (.cond (.t 9) .skip (.exit 0)) (.seq (.block 1 (.seq (.ops [⟨some 10, none, .mv (.t 8)⟩, ⟨some 5, none, .mv (.t 10)⟩]) (.seq (.ops [⟨some 11, none, .mv (.t 1)⟩, ⟨some 12, none, .mv (.t 0)⟩, ⟨some 13, none, .mv (.t 5)⟩, ⟨some 14, none, .ia 1 (.t 12) (.t 13)⟩, ⟨some 15, none, .ld none (.t 14)⟩, ⟨some 16, none, .callv (.t 11) [.t 15]⟩]) (.cond (.t 16) (.seq (.ops [⟨some 17, none, .mv (.t 5)⟩, ⟨some 4, none, .mv (.t 17)⟩]) .ret) .skip)))) (.ops [⟨some 18, none, .bin .add (.t 8) (.c (.int 1))⟩, ⟨some 8, none, .mv (.t 18)⟩]))))))) (.seq (.ops [⟨some 4, none, .mv (.c (.lit (.int .i64 (Int.negSucc 0))))⟩]) .ret)), [.t 4]⟩
def F_linear_Solve_1 : Fn := ⟨10, .seq (.ops [⟨some 3, none, .mv (.c (.lit (.bool false)))⟩]) (.seq (.ops [⟨some 4, none, .mv (.t 0)⟩, ⟨some 5, none, .ld none (.t 1)⟩, ⟨some 6, none, .ia 2 (.t 4) (.t 5)⟩, ⟨some 7, none, .off 1 (.t 6)⟩, ⟨some 8, none, .ld none (.t 7)⟩, ⟨some 9, none, .bin .neq (.t 8) (.c (.lit (.string ⟨#[]⟩)))⟩, ⟨some 3, none, .mv (.t 9)⟩]) .ret), [.t 3]⟩
def F_linear_eliminate : Fn := ⟨67, .seq (.ops [⟨some 5, none, .box (.t 2) ty_linear_integer⟩]) (.seq (.ops [⟨some 11, none, .mv (.t 0)⟩, ⟨some 12, none, .mv (.t 1)⟩, ⟨some 13, none, .ia 1 (.t 11) (.t 12)⟩, ⟨some 14, none, .ld none (.t 13)⟩, ⟨some 15, none, .mv (.t 1)⟩, ⟨some 16, none, .ia 2 (.t 14) (.t 15)⟩, ⟨some 17, none, .ld (some 2) (.t 16)⟩, ⟨some 6, none, .new [.lit (.bool false), .lit (.string ⟨#[]⟩)] ty_linear_integer⟩, ⟨none, none, .st 2 (.t 6) (.t 17)⟩]) (.seq (.ops [⟨some 18, none, .mv (.t 0)⟩, ⟨some 19, none, .len (.t 18)⟩, ⟨some 20, none, .mv (.c (.int 0))⟩]) (.block 0 (.loop (.seq (.ops [⟨some 21, none, .bin .lss (.t 20) (.t 19)⟩]) (.seq (.cond (.t 21) .skip (.exit 0)) (.seq (.block 1 (.seq (.ops [⟨some 22, none, .mv (.t 20)⟩, ⟨some 23, none, .ia 1 (.t 18) (.t 20)⟩, ⟨some 24, none, .ld none (.t 23)⟩, ⟨some 7, none, .mv (.t 22)⟩, ⟨some 8, none, .mv (.t 24)⟩]) (.seq (.seq (.ops [⟨some 25, none, .mv (.t 7)⟩, ⟨some 26, none, .mv (.t 1)⟩, ⟨some 27, none, .bin .eql (.t 25) (.t 26)⟩]) (.cond (.t 27) (.exit 1) .skip)) (.seq (.ops [⟨some 28, none, .mv (.t 8)⟩, ⟨some 29, none, .mv (.t 1)⟩, ⟨some 30, none, .ia 2 (.t 28) (.t 29)⟩, ⟨some 31, none, .ld (some 2) (.t 30)⟩, ⟨some 9, none, .new [.lit (.bool false), .lit (.string ⟨#[]⟩)] ty_linear_integer⟩, ⟨none, none, .st 2 (.t 9) (.t 31)⟩]) (.seq (.seq (.ops [⟨some 32, none, .mv (.t 8)⟩, ⟨some 33, none, .len (.t 32)⟩, ⟨some 34, none, .mv (.c (.int 0))⟩]) (.block 2 (.loop (.seq (.ops [⟨some 35, none, .bin .lss (.t 34) (.t 33)⟩]) (.seq (.cond (.t 35) .skip (.exit 2)) (.seq (.block 3 (.seq (.ops [⟨some 36, none, .mv (.t 34)⟩, ⟨some 10, none, .mv (.t 36)⟩]) (.seq (.ops [⟨some 37, none, .mv (.t 10)⟩, ⟨some 38, none, .mv (.t 1)⟩, ⟨some 39, none, .bin .neq (.t 37) (.t 38)⟩]) (.cond (.t 39) (.ops [⟨some 40, none, .mv (.t 8)⟩, ⟨some 41, none, .mv (.t 10)⟩, ⟨some 42, none, .ld (some 2) (.t 6)⟩, ⟨some 43, none, .mv (.t 8)⟩, ⟨some 44, none, .mv (.t 10)⟩, ⟨some 45, none, .ia 2 (.t 43) (.t 44)⟩, ⟨some 46, none, .ld (some 2) (.t 45)⟩, ⟨some 47, none, .call fn_linear_integer_times [.t 42, .t 46]⟩, ⟨some 48, none, .ld (some 2) (.t 9)⟩, ⟨some 49, none, .mv (.t 0)⟩, ⟨some 50, none, .mv (.t 1)⟩, ⟨some 51, none, .ia 1 (.t 49) (.t 50)⟩, ⟨some 52, none, .ld none (.t 51)⟩, ⟨some 53, none, .mv (.t 10)⟩, ⟨some 54, none, .ia 2 (.t 52) (.t 53)⟩, ⟨some 55, none, .ld (some 2) (.t 54)⟩, ⟨some 56, none, .call fn_linear_integer_times [.t 48, .t 55]⟩, ⟨some 57, none, .call fn_linear_integer_minus [.t 47, .t 56]⟩, ⟨some 58, none, .ld (some 2) (.t 5)⟩, ⟨some 59, none, .call fn_linear_integer_over [.t 57, .t 58]⟩, ⟨some 60, none, .ia 2 (.t 40) (.t 41)⟩, ⟨none, none, .st 2 (.t 60) (.t 59)⟩]) .skip)))) (.ops [⟨some 61, none, .bin .add (.t 34) (.c (.int 1))⟩, ⟨some 34, none, .mv (.t 61)⟩]))))))) (.ops [⟨some 62, none, .mv (.t 8)⟩, ⟨some 63, none, .mv (.t 1)⟩, ⟨some 64, none, .build [.lit (.bool false), .lit (.string ⟨#[]⟩)] []⟩, ⟨some 65, none, .ia 2 (.t 62) (.t 63)⟩, ⟨none, none, .st 2 (.t 65) (.t 64)⟩])))))) (.ops [⟨some 66, none, .bin .add (.t 20) (.c (.int 1))⟩, ⟨some 20, none, .mv (.t 66)⟩])))))))), []⟩
def F_rational_Make : Fn := ⟨16, .seq (.ops [⟨some 6, none, .new [.lit (.bool false), .lit (.string ⟨#[]⟩), .lit (.string ⟨#[]⟩)] ty_api_Rat⟩, ⟨some 7, none, .mv (.c (.lit (.bool false)))⟩]) (.seq (.seq (.ops [⟨some 8, none, .mv (.t 2)⟩, ⟨some 9, none, .call fn_natural_Normalize [.t 8]⟩, ⟨some 10, none, .bin .eql (.t 9) (.c (.lit (.string ⟨#[]⟩)))⟩]) (.cond (.t 10) (.seq (.ops [⟨some 11, none, .build [.lit (.bool false), .lit (.string ⟨#[]⟩), .lit (.string ⟨#[]⟩)] []⟩, ⟨none, none, .st 3 (.t 6) (.t 11)⟩, ⟨some 7, none, .mv (.c (.lit (.bool false)))⟩]) .ret) .skip)) (.seq (.ops [⟨some 12, none, .mv (.t 0)⟩, ⟨some 13, none, .mv (.t 1)⟩, ⟨some 14, none, .mv (.t 2)⟩, ⟨some 15, none, .call fn_rational_reduced [.t 12, .t 13, .t 14]⟩, ⟨none, none, .st 3 (.t 6) (.t 15)⟩, ⟨some 7, none, .mv (.c (.lit (.bool true)))⟩]) .ret)), [.cell 6 (some 3), .t 7]⟩
def F_waterfall_Layout_step : Fn := ⟨69, .seq (.ops [⟨some 2, none, .box (.t 0) ty_waterfall_Layout⟩, ⟨some 3, none, .box (.t 1) ty_api_Rat⟩, ⟨some 4, none, .new [.lit (.bool false), .lit (.string ⟨#[]⟩), .lit (.string ⟨#[]⟩)] ty_api_Rat⟩, ⟨some 5, none, .mv (.c (.lit (.bool false)))⟩]) (.seq (.ops [⟨some 18, none, .off 1 (.t 2)⟩, ⟨some 19, none, .ld none (.t 18)⟩, ⟨some 20, none, .ld (some 3) (.t 3)⟩, ⟨some 21, none, .call fn_waterfall_ladder_gap [.t 19, .t 20]⟩, ⟨some 17, none, .mv (.t 21)⟩, ⟨some 22, none, .ext 0 (.t 17)⟩, ⟨some 23, none, .ext 1 (.t 17)⟩, ⟨some 6, none, .new [.lit (.bool false), .lit (.string ⟨#[]⟩), .lit (.string ⟨#[]⟩)] ty_api_Rat⟩, ⟨none, none, .st 3 (.t 6) (.t 22)⟩, ⟨some 7, none, .mv (.t 23)⟩]) (.seq (.seq (.ops [⟨some 24, none, .mv (.t 7)⟩, ⟨some 25, none, .un .not (.t 24)⟩]) (.cond (.t 25) (.seq (.ops [⟨some 26, none, .build [.lit (.bool false), .lit (.string ⟨#[]⟩), .lit (.string ⟨#[]⟩)] []⟩, ⟨none, none, .st 3 (.t 4) (.t 26)⟩, ⟨some 5, none, .mv (.c (.lit (.bool false)))⟩]) .ret) .skip)) (.seq (.ops [⟨some 27, none, .ld (some 6) (.t 2)⟩, ⟨some 28, none, .ld (some 3) (.t 3)⟩, ⟨some 29, none, .call fn_waterfall_Layout_Gross [.t 27, .t 28]⟩, ⟨some 30, none, .ld (some 6) (.t 2)⟩, ⟨some 31, none, .ld (some 3) (.t 3)⟩, ⟨some 32, none, .call fn_waterfall_Layout_rates [.t 30, .t 31]⟩, ⟨some 8, none, .mv (.t 29)⟩, ⟨some 9, none, .mv (.t 32)⟩]) (.seq (.seq (.ops [⟨some 33, none, .off 2 (.t 2)⟩, ⟨some 34, none, .ld none (.t 33)⟩, ⟨some 35, none, .len (.t 34)⟩, ⟨some 36, none, .mv (.c (.int 0))⟩]) (.block 0 (.loop (.seq (.ops [⟨some 37, none, .bin .lss (.t 36) (.t 35)⟩]) (.seq (.cond (.t 37) .skip (.exit 0)) (.seq (.block 1 (.seq (.ops [⟨some 38, none, .ia 2 (.t 34) (.t 36)⟩, ⟨some 39, none, .ld (some 2) (.t 38)⟩, ⟨some 11, none, .new [.lit (.slice none 0 0), .lit (.slice none 0 0)] ty_waterfall_pool⟩, ⟨none, none, .st 2 (.t 11) (.t 39)⟩]) (.seq (.ops [⟨some 40, none, .ld (some 2) (.t 11)⟩, ⟨some 41, none, .mv (.t 9)⟩, ⟨some 42, none, .call fn_waterfall_pool_total [.t 40, .t 41]⟩, ⟨some 12, none, .new [.lit (.bool false), .lit (.string ⟨#[]⟩), .lit (.string ⟨#[]⟩)] ty_api_Rat⟩, ⟨none, none, .st 3 (.t 12) (.t 42)⟩]) (.seq (.ops [⟨some 44, none, .off 1 (.t 11)⟩, ⟨some 45, none, .ld none (.t 44)⟩, ⟨some 46, none, .ld (some 2) (.t 11)⟩, ⟨some 47, none, .mv (.t 8)⟩, ⟨some 48, none, .call fn_waterfall_pool_total [.t 46, .t 47]⟩, ⟨some 49, none, .call fn_waterfall_ladder_gap [.t 45, .t 48]⟩, ⟨some 43, none, .mv (.t 49)⟩, ⟨some 50, none, .ext 0 (.t 43)⟩, ⟨some 51, none, .ext 1 (.t 43)⟩, ⟨some 13, none, .new [.lit (.bool false), .lit (.string ⟨#[]⟩), .lit (.string ⟨#[]⟩)] ty_api_Rat⟩, ⟨none, none, .st 3 (.t 13) (.t 50)⟩, ⟨some 14, none, .mv (.t 51)⟩]) (.seq (.ops [⟨some 52, none, .mv (.t 14)⟩, ⟨some 53, none, .mv (.t 52)⟩, ⟨some 54, some (53, true), .ld (some 3) (.t 12)⟩, ⟨some 55, some (53, true), .call fn_rational_Sign [.t 54]⟩, ⟨some 56, some (53, true), .bin .gtr (.t 55) (.c (.int 0))⟩, ⟨some 57, none, .pick (.t 53) (.t 56) (.c (.lit (.bool false)))⟩]) (.cond (.t 57) (.seq (.ops [⟨some 59, none, .ld (some 3) (.t 13)⟩, ⟨some 60, none, .ld (some 3) (.t 12)⟩, ⟨some 61, none, .call fn_rational_Divide [.t 59, .t 60]⟩, ⟨some 58, none, .mv (.t 61)⟩, ⟨some 62, none, .ext 0 (.t 58)⟩, ⟨some 63, none, .ext 1 (.t 58)⟩, ⟨some 15, none, .new [.lit (.bool false), .lit (.string ⟨#[]⟩), .lit (.string ⟨#[]⟩)] ty_api_Rat⟩, ⟨none, none, .st 3 (.t 15) (.t 62)⟩, ⟨some 16, none, .mv (.t 63)⟩]) (.ops [⟨some 64, none, .ld (some 3) (.t 6)⟩, ⟨some 65, none, .ld (some 3) (.t 15)⟩, ⟨some 66, none, .call fn_rational_Min [.t 64, .t 65]⟩, ⟨none, none, .st 3 (.t 6) (.t 66)⟩])) .skip)))))) (.ops [⟨some 67, none, .bin .add (.t 36) (.c (.int 1))⟩, ⟨some 36, none, .mv (.t 67)⟩]))))))) (.seq (.ops [⟨some 68, none, .ld (some 3) (.t 6)⟩, ⟨none, none, .st 3 (.t 4) (.t 68)⟩, ⟨some 5, none, .mv (.c (.lit (.bool true)))⟩]) .ret))))), [.cell 4 (some 3), .t 5]⟩
def F_slices_Equal_Sapi_Rat_api_Rat : Fn := ⟨26, .seq (.ops [⟨some 4, none, .mv (.c (.lit (.bool false)))⟩]) (.seq (.seq (.ops [⟨some 6, none, .mv (.t 0)⟩, ⟨some 7, none, .len (.t 6)⟩, ⟨some 8, none, .mv (.t 1)⟩, ⟨some 9, none, .len (.t 8)⟩, ⟨some 10, none, .bin .neq (.t 7) (.t 9)⟩]) (.cond (.t 10) (.seq (.ops [⟨some 4, none, .mv (.c (.lit (.bool false)))⟩]) .ret) .skip)) (.seq (.seq (.ops [⟨some 11, none, .mv (.t 0)⟩, ⟨some 12, none, .len (.t 11)⟩, ⟨some 13, none, .mv (.c (.int 0))⟩]) (.block 0 (.loop (.seq (.ops [⟨some 14, none, .bin .lss (.t 13) (.t 12)⟩]) (.seq (.cond (.t 14) .skip (.exit 0)) (.seq (.block 1 (.seq (.ops [⟨some 15, none, .mv (.t 13)⟩, ⟨some 5, none, .mv (.t 15)⟩]) (.seq (.ops [⟨some 16, none, .mv (.t 0)⟩, ⟨some 17, none, .mv (.t 5)⟩, ⟨some 18, none, .ia 3 (.t 16) (.t 17)⟩, ⟨some 19, none, .ld (some 3) (.t 18)⟩, ⟨some 20, none, .mv (.t 1)⟩, ⟨some 21, none, .mv (.t 5)⟩, ⟨some 22, none, .ia 3 (.t 20) (.t 21)⟩, ⟨some 23, none, .ld (some 3) (.t 22)⟩, ⟨some 24, none, .aeq true [1, 2, 2] (.t 19) (.t 23)⟩]) (.cond (.t 24) (.seq (.ops [⟨some 4, none, .mv (.c (.lit (.bool false)))⟩]) .ret) .skip)))) (.ops [⟨some 25, none, .bin .add (.t 13) (.c (.int 1))⟩, ⟨some 13, none, .mv (.t 25)⟩]))))))) (.seq (.ops [⟨some 4, none, .mv (.c (.lit (.bool true)))⟩]) .ret))), [.t 4]⟩
def F_ref17_member : Fn := ⟨35, .seq (.ops [⟨some 2, none, .box (.t 0) ty_api_Agreement⟩, ⟨some 4, none, .mv (.c (.lit (.bool false)))⟩]) (.seq (.seq (.ops [⟨some 5, none, .mv (.c (.int 0))⟩]) (.block 0 (.loop (.seq (.seq (.ops [⟨some 7, none, .mv (.t 5)⟩, ⟨some 8, none, .off 0 (.t 2)⟩, ⟨some 9, none, .ld none (.t 8)⟩, ⟨some 10, none, .len (.t 9)⟩, ⟨some 11, none, .bin .lss (.t 7) (.t 10)⟩]) (.cond (.t 11) .skip (.exit 0))) (.seq (.block 1 (.seq (.ops [⟨some 6, none, .mv (.c (.int 0))⟩]) (.block 2 (.loop (.seq (.seq (.ops [⟨some 14, none, .mv (.t 6)⟩, ⟨some 15, none, .off 0 (.t 2)⟩, ⟨some 16, none, .ld none (.t 15)⟩, ⟨some 17, none, .mv (.t 5)⟩, ⟨some 18, none, .ia 1 (.t 16) (.t 17)⟩, ⟨some 19, none, .ld none (.t 18)⟩, ⟨some 20, none, .len (.t 19)⟩, ⟨some 21, none, .bin .lss (.t 14) (.t 20)⟩]) (.cond (.t 21) .skip (.exit 2))) (.seq (.block 3 (.seq (.ops [⟨some 24, none, .off 0 (.t 2)⟩, ⟨some 25, none, .ld none (.t 24)⟩, ⟨some 26, none, .mv (.t 5)⟩, ⟨some 27, none, .ia 1 (.t 25) (.t 26)⟩, ⟨some 28, none, .ld none (.t 27)⟩, ⟨some 29, none, .mv (.t 6)⟩, ⟨some 30, none, .ia 5 (.t 28) (.t 29)⟩, ⟨some 31, none, .off 0 (.t 30)⟩, ⟨some 32, none, .ld none (.t 31)⟩, ⟨some 33, none, .mv (.t 1)⟩, ⟨some 34, none, .bin .eql (.t 32) (.t 33)⟩]) (.cond (.t 34) (.seq (.ops [⟨some 4, none, .mv (.c (.lit (.bool true)))⟩]) .ret) .skip))) (.ops [⟨some 22, none, .mv (.t 6)⟩, ⟨some 23, none, .bin .add (.t 22) (.c (.int 1))⟩, ⟨some 6, none, .mv (.t 23)⟩]))))))) (.ops [⟨some 12, none, .mv (.t 5)⟩, ⟨some 13, none, .bin .add (.t 12) (.c (.int 1))⟩, ⟨some 5, none, .mv (.t 13)⟩])))))) (.seq (.ops [⟨some 4, none, .mv (.c (.lit (.bool false)))⟩]) .ret)), [.t 4]⟩
def F_ref1_Normalize : Fn := ⟨19, .seq (.ops [⟨some 2, none, .mv (.c (.lit (.string ⟨#[]⟩)))⟩]) (.seq (.ops [⟨some 3, none, .mv (.c (.int 0))⟩]) (.seq (.block 0 (.loop (.seq (.seq (.ops [⟨some 4, none, .mv (.t 3)⟩, ⟨some 5, none, .mv (.t 0)⟩, ⟨some 6, none, .slen (.t 5)⟩, ⟨some 7, none, .bin .lss (.t 4) (.t 6)⟩, ⟨some 8, none, .mv (.t 7)⟩, ⟨some 9, some (8, true), .mv (.t 0)⟩, ⟨some 10, some (8, true), .mv (.t 3)⟩, ⟨some 11, some (8, true), .idx (.t 9) (.t 10)⟩, ⟨some 12, some (8, true), .bin .eql (.t 11) (.c (.lit (.int .u8 (Int.ofNat 0))))⟩, ⟨some 13, none, .pick (.t 8) (.t 12) (.c (.lit (.bool false)))⟩]) (.cond (.t 13) .skip (.exit 0))) (.block 1 (.ops [⟨some 14, none, .mv (.t 3)⟩, ⟨some 15, none, .bin .add (.t 14) (.c (.int 1))⟩, ⟨some 3, none, .mv (.t 15)⟩]))))) (.seq (.ops [⟨some 16, none, .mv (.t 0)⟩, ⟨some 17, none, .mv (.t 3)⟩, ⟨some 18, none, .sls (.t 16) (some (.t 17)) none⟩, ⟨some 2, none, .mv (.t 18)⟩]) .ret))), [.t 2]⟩
def F_ref1_GCD : Fn := ⟨11, .seq (.ops [⟨some 4, none, .mv (.c (.lit (.string ⟨#[]⟩)))⟩]) (.seq (.ops [⟨some 5, none, .mv (.t 0)⟩, ⟨some 6, none, .call fn_ref1_limbs [.t 5]⟩, ⟨some 7, none, .mv (.t 1)⟩, ⟨some 8, none, .call fn_ref1_limbs [.t 7]⟩, ⟨some 9, none, .call fn_ref1_common [.t 6, .t 8]⟩, ⟨some 10, none, .call fn_ref1_text [.t 9]⟩, ⟨some 4, none, .mv (.t 10)⟩]) .ret), [.t 4]⟩
def F_ref1_strip : Fn := ⟨21, .seq (.ops [⟨some 2, none, .mv (.c (.lit (.slice none 0 0)))⟩]) (.seq (.ops [⟨some 4, none, .mv (.t 0)⟩, ⟨some 5, none, .len (.t 4)⟩, ⟨some 3, none, .mv (.t 5)⟩]) (.seq (.block 0 (.loop (.seq (.seq (.ops [⟨some 6, none, .mv (.t 3)⟩, ⟨some 7, none, .bin .gtr (.t 6) (.c (.int 0))⟩, ⟨some 8, none, .mv (.t 7)⟩, ⟨some 9, some (8, true), .mv (.t 0)⟩, ⟨some 10, some (8, true), .mv (.t 3)⟩, ⟨some 11, some (8, true), .bin .sub (.t 10) (.c (.int 1))⟩, ⟨some 12, some (8, true), .ia 1 (.t 9) (.t 11)⟩, ⟨some 13, some (8, true), .ld none (.t 12)⟩, ⟨some 14, some (8, true), .bin .eql (.t 13) (.c (.lit (.int .u32 (Int.ofNat 0))))⟩, ⟨some 15, none, .pick (.t 8) (.t 14) (.c (.lit (.bool false)))⟩]) (.cond (.t 15) .skip (.exit 0))) (.block 1 (.ops [⟨some 16, none, .mv (.t 3)⟩, ⟨some 17, none, .bin .sub (.t 16) (.c (.int 1))⟩, ⟨some 3, none, .mv (.t 17)⟩]))))) (.seq (.ops [⟨some 18, none, .mv (.t 0)⟩, ⟨some 19, none, .mv (.t 3)⟩, ⟨some 20, none, .slc 1 (.t 18) none (some (.t 19)) none⟩, ⟨some 2, none, .mv (.t 20)⟩]) .ret))), [.t 2]⟩
def F_ref1_common : Fn := ⟨19, .seq (.ops [⟨some 4, none, .mv (.c (.lit (.slice none 0 0)))⟩]) (.seq (.block 0 (.loop (.seq (.seq (.ops [⟨some 7, none, .mv (.t 1)⟩, ⟨some 8, none, .len (.t 7)⟩, ⟨some 9, none, .bin .gtr (.t 8) (.c (.int 0))⟩]) (.cond (.t 9) .skip (.exit 0))) (.block 1 (.seq (.ops [⟨some 11, none, .mv (.t 0)⟩, ⟨some 12, none, .mv (.t 1)⟩, ⟨some 13, none, .call fn_ref1_divide [.t 11, .t 12]⟩, ⟨some 10, none, .mv (.t 13)⟩, ⟨some 14, none, .ext 0 (.t 10)⟩, ⟨some 15, none, .ext 1 (.t 10)⟩, ⟨some 5, none, .mv (.t 14)⟩, ⟨some 6, none, .mv (.t 15)⟩]) (.seq (.ops [⟨some 16, none, .mv (.t 1)⟩, ⟨some 0, none, .mv (.t 16)⟩]) (.ops [⟨some 17, none, .mv (.t 6)⟩, ⟨some 1, none, .mv (.t 17)⟩]))))))) (.seq (.ops [⟨some 18, none, .mv (.t 0)⟩, ⟨some 4, none, .mv (.t 18)⟩]) .ret)), [.t 4]⟩
def F_ref1_divide : Fn := ⟨33, .seq (.ops [⟨some 4, none, .mv (.c (.lit (.slice none 0 0)))⟩, ⟨some 5, none, .mv (.c (.lit (.slice none 0 0)))⟩]) (.seq (.seq (.ops [⟨some 8, none, .mv (.t 0)⟩, ⟨some 9, none, .mv (.t 1)⟩, ⟨some 10, none, .call fn_ref1_order [.t 8, .t 9]⟩, ⟨some 11, none, .bin .lss (.t 10) (.c (.int 0))⟩]) (.cond (.t 11) (.seq (.ops [⟨some 12, none, .mv (.t 0)⟩, ⟨some 4, none, .mv (.c (.lit (.slice none 0 0)))⟩, ⟨some 5, none, .mv (.t 12)⟩]) .ret) .skip)) (.seq (.seq (.ops [⟨some 13, none, .mv (.t 1)⟩, ⟨some 14, none, .len (.t 13)⟩, ⟨some 15, none, .bin .eql (.t 14) (.c (.int 1))⟩]) (.cond (.t 15) (.seq (.ops [⟨some 17, none, .mv (.t 0)⟩, ⟨some 18, none, .mv (.t 1)⟩, ⟨some 19, none, .ia 1 (.t 18) (.c (.int 0))⟩, ⟨some 20, none, .ld none (.t 19)⟩, ⟨some 21, none, .call fn_ref1_short [.t 17, .t 20]⟩, ⟨some 16, none, .mv (.t 21)⟩, ⟨some 22, none, .ext 0 (.t 16)⟩, ⟨some 23, none, .ext 1 (.t 16)⟩, ⟨some 6, none, .mv (.t 22)⟩, ⟨some 7, none, .mv (.t 23)⟩]) (.seq (.ops [⟨some 24, none, .mv (.t 6)⟩, ⟨some 25, none, .mv (.t 7)⟩, ⟨some 26, none, .bsl ty_uint32 1 1 [.lit (.int .u32 (Int.ofNat 0))] [(0, 1, .t 25)]⟩, ⟨some 27, none, .call fn_ref1_strip [.t 26]⟩, ⟨some 4, none, .mv (.t 24)⟩, ⟨some 5, none, .mv (.t 27)⟩]) .ret)) .skip)) (.seq (.ops [⟨some 28, none, .mv (.t 0)⟩, ⟨some 29, none, .mv (.t 1)⟩, ⟨some 30, none, .call fn_ref1_long [.t 28, .t 29]⟩, ⟨some 31, none, .ext 0 (.t 30)⟩, ⟨some 32, none, .ext 1 (.t 30)⟩, ⟨some 4, none, .mv (.t 31)⟩, ⟨some 5, none, .mv (.t 32)⟩]) .ret))), [.t 4, .t 5]⟩
def F_ref1_text : Fn := ⟨40, .seq (.ops [⟨some 2, none, .mv (.c (.lit (.string ⟨#[]⟩)))⟩]) (.seq (.ops [⟨some 6, none, .mv (.t 0)⟩, ⟨some 7, none, .call fn_ref1_strip [.t 6]⟩, ⟨some 0, none, .mv (.t 7)⟩]) (.seq (.ops [⟨some 8, none, .mv (.t 0)⟩, ⟨some 9, none, .len (.t 8)⟩, ⟨some 10, none, .bin .mul (.c (.int 4)) (.t 9)⟩, ⟨some 11, none, .mk ty_uint8 1 1 [.lit (.int .u8 (Int.ofNat 0))] (.c (.int 0)) (.t 10)⟩, ⟨some 3, none, .mv (.t 11)⟩]) (.seq (.seq (.ops [⟨some 12, none, .mv (.t 0)⟩, ⟨some 13, none, .len (.t 12)⟩, ⟨some 14, none, .bin .sub (.t 13) (.c (.int 1))⟩, ⟨some 4, none, .mv (.t 14)⟩]) (.block 0 (.loop (.seq (.seq (.ops [⟨some 15, none, .mv (.t 4)⟩, ⟨some 16, none, .bin .geq (.t 15) (.c (.int 0))⟩]) (.cond (.t 16) .skip (.exit 0))) (.seq (.block 1 (.seq (.ops [⟨some 19, none, .mv (.t 0)⟩, ⟨some 20, none, .mv (.t 4)⟩, ⟨some 21, none, .ia 1 (.t 19) (.t 20)⟩, ⟨some 22, none, .ld none (.t 21)⟩, ⟨some 5, none, .mv (.t 22)⟩]) (.ops [⟨some 23, none, .mv (.t 3)⟩, ⟨some 24, none, .mv (.t 5)⟩, ⟨some 25, none, .bin .shr (.t 24) (.c (.lit (.int .u64 (Int.ofNat 24))))⟩, ⟨some 26, none, .wrap .u8 (.t 25)⟩, ⟨some 27, none, .mv (.t 5)⟩, ⟨some 28, none, .bin .shr (.t 27) (.c (.lit (.int .u64 (Int.ofNat 16))))⟩, ⟨some 29, none, .wrap .u8 (.t 28)⟩, ⟨some 30, none, .mv (.t 5)⟩, ⟨some 31, none, .bin .shr (.t 30) (.c (.lit (.int .u64 (Int.ofNat 8))))⟩, ⟨some 32, none, .wrap .u8 (.t 31)⟩, ⟨some 33, none, .mv (.t 5)⟩, ⟨some 34, none, .wrap .u8 (.t 33)⟩, ⟨some 35, none, .bsl ty_uint8 1 4 [.lit (.int .u8 (Int.ofNat 0))] [(0, 1, .t 26), (1, 1, .t 29), (2, 1, .t 32), (3, 1, .t 34)]⟩, ⟨some 36, none, .app ty_uint8 1 1 (.t 23) (.t 35)⟩, ⟨some 3, none, .mv (.t 36)⟩]))) (.ops [⟨some 17, none, .mv (.t 4)⟩, ⟨some 18, none, .bin .sub (.t 17) (.c (.int 1))⟩, ⟨some 4, none, .mv (.t 18)⟩])))))) (.seq (.ops [⟨some 37, none, .mv (.t 3)⟩, ⟨some 38, none, .str (.t 37)⟩, ⟨some 39, none, .call fn_ref1_Normalize [.t 38]⟩, ⟨some 2, none, .mv (.t 39)⟩]) .ret)))), [.t 2]⟩
def F_slices_IndexFunc_SSapi_Part_Sapi_Part : Fn := ⟨19, .seq (.ops [⟨some 4, none, .mv (.c (.int 0))⟩]) (.seq (.seq (.ops [⟨some 6, none, .mv (.t 0)⟩, ⟨some 7, none, .len (.t 6)⟩, ⟨some 8, none, .mv (.c (.int 0))⟩]) (.block 0 (.loop (.seq (.ops [⟨some 9, none, .bin .lss (.t 8) (.t 7)⟩]) (.seq (.cond (.t 9) .skip (.exit 0)) (.seq (.block 1 (.seq (.ops [⟨some 10, none, .mv (.t 8)⟩, ⟨some 5, none, .mv (.t 10)⟩]) (.seq (.ops [⟨some 11, none, .mv (.t 1)⟩, ⟨some 12, none, .mv (.t 0)⟩, ⟨some 13, none, .mv (.t 5)⟩, ⟨some 14, none, .ia 1 (.t 12) (.t 13)⟩, ⟨some 15, none, .ld none (.t 14)⟩, ⟨some 16, none, .callv (.t 11) [.t 15]⟩]) (.cond (.t 16) (.seq (.ops [⟨some 17, none, .mv (.t 5)⟩, ⟨some 4, none, .mv (.t 17)⟩]) .ret) .skip)))) (.ops [⟨some 18, none, .bin .add (.t 8) (.c (.int 1))⟩, ⟨some 8, none, .mv (.t 18)⟩]))))))) (.seq (.ops [⟨some 4, none, .mv (.c (.lit (.int .i64 (Int.negSucc 0))))⟩]) .ret)), [.t 4]⟩
def F_slices_Grow_Sapi_Part_api_Part : Fn := ⟨27, .seq (.ops [⟨some 4, none, .mv (.c (.lit (.slice none 0 0)))⟩]) (.seq (.seq (.ops [⟨some 5, none, .mv (.t 1)⟩, ⟨some 6, none, .bin .lss (.t 5) (.c (.int 0))⟩]) (.cond (.t 6) (.ops [⟨none, none, .bad⟩, ⟨none, none, .bad⟩]) .skip)) (.seq (.seq (.ops [⟨some 8, none, .mv (.t 1)⟩, ⟨some 9, none, .mv (.t 0)⟩, ⟨some 10, none, .cap (.t 9)⟩, ⟨some 11, none, .mv (.t 0)⟩, ⟨some 12, none, .len (.t 11)⟩, ⟨some 13, none, .bin .sub (.t 10) (.t 12)⟩, ⟨some 14, none, .bin .sub (.t 8) (.t 13)⟩, ⟨some 1, none, .mv (.t 14)⟩]) (.seq (.ops [⟨some 15, none, .mv (.t 1)⟩, ⟨some 16, none, .bin .gtr (.t 15) (.c (.int 0))⟩]) (.cond (.t 16) (.ops [⟨some 17, none, .mv (.t 0)⟩, ⟨some 18, none, .mv (.t 0)⟩, ⟨some 19, none, .cap (.t 18)⟩, ⟨some 20, none, .slc 5 (.t 17) none (some (.t 19)) none⟩, ⟨some 21, none, .mv (.t 1)⟩, ⟨some 22, none, .appz ty_api_Part 5 56 [.int 0, .lit (.bool false), .lit (.bool false), .lit (.string ⟨#[]⟩), .lit (.string ⟨#[]⟩)] (.t 20) (.t 21)⟩, ⟨some 23, none, .mv (.t 0)⟩, ⟨some 24, none, .len (.t 23)⟩, ⟨some 25, none, .slc 5 (.t 22) none (some (.t 24)) none⟩, ⟨some 0, none, .mv (.t 25)⟩]) .skip))) (.seq (.ops [⟨some 26, none, .mv (.t 0)⟩, ⟨some 4, none, .mv (.t 26)⟩]) .ret))), [.t 4]⟩
def F_strings_TrimLeft : Fn := ⟨37, .seq (.ops [⟨some 4, none, .mv (.c (.lit (.string ⟨#[]⟩)))⟩]) (.seq (.seq (.ops [⟨some 7, none, .mv (.t 0)⟩, ⟨some 8, none, .bin .eql (.t 7) (.c (.lit (.string ⟨#[]⟩)))⟩, ⟨some 9, none, .mv (.t 8)⟩, ⟨some 10, some (9, false), .mv (.t 1)⟩, ⟨some 11, some (9, false), .bin .eql (.t 10) (.c (.lit (.string ⟨#[]⟩)))⟩, ⟨some 12, none, .pick (.t 9) (.c (.lit (.bool true))) (.t 11)⟩]) (.cond (.t 12) (.seq (.ops [⟨some 13, none, .mv (.t 0)⟩, ⟨some 4, none, .mv (.t 13)⟩]) .ret) .skip)) (.seq (.seq (.ops [⟨some 14, none, .mv (.t 1)⟩, ⟨some 15, none, .slen (.t 14)⟩, ⟨some 16, none, .bin .eql (.t 15) (.c (.int 1))⟩, ⟨some 17, none, .mv (.t 16)⟩, ⟨some 18, some (17, true), .mv (.t 1)⟩, ⟨some 19, some (17, true), .idx (.t 18) (.c (.int 0))⟩, ⟨some 20, some (17, true), .bin .lss (.t 19) (.c (.lit (.int .u8 (Int.ofNat 128))))⟩, ⟨some 21, none, .pick (.t 17) (.t 20) (.c (.lit (.bool false)))⟩]) (.cond (.t 21) (.seq (.ops [⟨some 22, none, .mv (.t 0)⟩, ⟨some 23, none, .mv (.t 1)⟩, ⟨some 24, none, .idx (.t 23) (.c (.int 0))⟩, ⟨some 25, none, .call fn_strings_trimLeftByte [.t 22, .t 24]⟩, ⟨some 4, none, .mv (.t 25)⟩]) .ret) .skip)) (.seq (.seq (.ops [⟨some 27, none, .mv (.t 1)⟩, ⟨some 28, none, .call fn_strings_makeASCIISet [.t 27]⟩, ⟨some 26, none, .mv (.t 28)⟩, ⟨some 29, none, .ext 0 (.t 26)⟩, ⟨some 30, none, .ext 1 (.t 26)⟩, ⟨some 5, none, .new [.lit (.bool false), .lit (.bool false), .lit (.bool false), .lit (.bool false), .lit (.bool false), .lit (.bool false), .lit (.bool false), .lit (.bool false), .lit (.bool false), .lit (.bool false), .lit (.bool false), .lit (.bool false), .lit (.bool false), .lit (.bool false), .lit (.bool false), .lit (.bool false), .lit (.bool false), .lit (.bool false), .lit (.bool false), .lit (.bool false), .lit (.bool false), .lit (.bool false), .lit (.bool false), .lit (.bool false), .lit (.bool false), .lit (.bool false), .lit (.bool false), .lit (.bool false), .lit (.bool false), .lit (.bool false), .lit (.bool false), .lit (.bool false), .lit (.bool false), .lit (.bool false), .lit (.bool false), .lit (.bool false), .lit (.bool false), .lit (.bool false), .lit (.bool false), .lit (.bool false), .lit (.bool false), .lit (.bool false), .lit (.bool false), .lit (.bool false), .lit (.bool false), .lit (.bool false), .lit (.bool false), .lit (.bool false), .lit (.bool false), .lit (.bool false), .lit (.bool false), .lit (.bool false), .lit (.bool false), .lit (.bool false), .lit (.bool false), .lit (.bool false), .lit (.bool false), .lit (.bool false), .lit (.bool false), .lit (.bool false), .lit (.bool false), .lit (.bool false), .lit (.bool false), .lit (.bool false), .lit (.bool false), .lit (.bool false), .lit (.bool false), .lit (.bool false), .lit (.bool false), .lit (.bool false), .lit (.bool false), .lit (.bool false), .lit (.bool false), .lit (.bool false), .lit (.bool false), .lit (.bool false), .lit (.bool false), .lit (.bool false), .lit (.bool false), .lit (.bool false), .lit (.bool false), .lit (.bool false), .lit (.bool false), .lit (.bool false), .lit (.bool false), .lit (.bool false), .lit (.bool false), .lit (.bool false), .lit (.bool false), .lit (.bool false), .lit (.bool false), .lit (.bool false), .lit (.bool false), .lit (.bool false), .lit (.bool false), .lit (.bool false), .lit (.bool false), .lit (.bool false), .lit (.bool false), .lit (.bool false), .lit (.bool false), .lit (.bool false), .lit (.bool false), .lit (.bool false), .lit (.bool false), .lit (.bool false), .lit (.bool false), .lit (.bool false), .lit (.bool false), .lit (.bool false), .lit (.bool false), .lit (.bool false), .lit (.bool false), .lit (.bool false), .lit (.bool false), .lit (.bool false), .lit (.bool false), .lit (.bool false), .lit (.bool false), .lit (.bool false), .lit (.bool false), .lit (.bool false), .lit (.bool false), .lit (.bool false), .lit (.bool false), .lit (.bool false), .lit (.bool false), .lit (.bool false), .lit (.bool false), .lit (.bool false), .lit (.bool false), .lit (.bool false), .lit (.bool false), .lit (.bool false), .lit (.bool false), .lit (.bool false), .lit (.bool false), .lit (.bool false), .lit (.bool false), .lit (.bool false), .lit (.bool false), .lit (.bool false), .lit (.bool false), .lit (.bool false), .lit (.bool false), .lit (.bool false), .lit (.bool false), .lit (.bool false), .lit (.bool false), .lit (.bool false), .lit (.bool false), .lit (.bool false), .lit (.bool false), .lit (.bool false), .lit (.bool false), .lit (.bool false), .lit (.bool false), .lit (.bool false), .lit (.bool false), .lit (.bool false), .lit (.bool false), .lit (.bool false), .lit (.bool false), .lit (.bool false), .lit (.bool false), .lit (.bool false), .lit (.bool false), .lit (.bool false), .lit (.bool false), .lit (.bool false), .lit (.bool false), .lit (.bool false), .lit (.bool false), .lit (.bool false), .lit (.bool false), .lit (.bool false), .lit (.bool false), .lit (.bool false), .lit (.bool false), .lit (.bool false), .lit (.bool false), .lit (.bool false), .lit (.bool false), .lit (.bool false), .lit (.bool false), .lit (.bool false), .lit (.bool false), .lit (.bool false), .lit (.bool false), .lit (.bool false), .lit (.bool false), .lit (.bool false), .lit (.bool false), .lit (.bool false), .lit (.bool false), .lit (.bool false), .lit (.bool false), .lit (.bool false), .lit (.bool false), .lit (.bool false), .lit (.bool false), .lit (.bool false), .lit (.bool false), .lit (.bool false), .lit (.bool false), .lit (.bool false), .lit (.bool false), .lit (.bool false), .lit (.bool false), .lit (.bool false), .lit (.bool false), .lit (.bool false), .lit (.bool false), .lit (.bool false), .lit (.bool false), .lit (.bool false), .lit (.bool false), .lit (.bool false), .lit (.bool false), .lit (.bool false), .lit (.bool false), .lit (.bool false), .lit (.bool false), .lit (.bool false), .lit (.bool false), .lit (.bool false), .lit (.bool false), .lit (.bool false), .lit (.bool false), .lit (.bool false), .lit (.bool false), .lit (.bool false), .lit (.bool false), .lit (.bool false), .lit (.bool false), .lit (.bool false), .lit (.bool false), .lit (.bool false), .lit (.bool false), .lit (.bool false), .lit (.bool false), .lit (.bool false), .lit (.bool false), .lit (.bool false), .lit (.bool false), .lit (.bool false), .lit (.bool false), .lit (.bool false), .lit (.bool false), .lit (.bool false), .lit (.bool false), .lit (.bool false), .lit (.bool false), .lit (.bool false), .lit (.bool false), .lit (.bool false)] ty_strings_asciiSet⟩, ⟨none, none, .st 256 (.t 5) (.t 29)⟩, ⟨some 6, none, .mv (.t 30)⟩]) (.seq (.ops [⟨some 31, none, .mv (.t 6)⟩]) (.cond (.t 31) (.seq (.ops [⟨some 32, none, .mv (.t 0)⟩, ⟨some 33, none, .call fn_strings_trimLeftASCII [.t 32, .t 5]⟩, ⟨some 4, none, .mv (.t 33)⟩]) .ret) .skip))) (.seq (.ops [⟨some 34, none, .mv (.t 0)⟩, ⟨some 35, none, .mv (.t 1)⟩, ⟨some 36, none, .call fn_strings_trimLeftUnicode [.t 34, .t 35]⟩, ⟨some 4, none, .mv (.t 36)⟩]) .ret)))), [.t 4]⟩
def F_natural_limbs_trim : Fn := ⟨21, .seq (.ops [⟨some 2, none, .mv (.c (.lit (.slice none 0 0)))⟩]) (.seq (.ops [⟨some 4, none, .mv (.t 0)⟩, ⟨some 5, none, .len (.t 4)⟩, ⟨some 3, none, .mv (.t 5)⟩]) (.seq (.block 0 (.loop (.seq (.seq (.ops [⟨some 6, none, .mv (.t 3)⟩, ⟨some 7, none, .bin .gtr (.t 6) (.c (.int 0))⟩, ⟨some 8, none, .mv (.t 7)⟩, ⟨some 9, some (8, true), .mv (.t 0)⟩, ⟨some 10, some (8, true), .mv (.t 3)⟩, ⟨some 11, some (8, true), .bin .sub (.t 10) (.c (.int 1))⟩, ⟨some 12, some (8, true), .ia 1 (.t 9) (.t 11)⟩, ⟨some 13, some (8, true), .ld none (.t 12)⟩, ⟨some 14, some (8, true), .bin .eql (.t 13) (.c (.lit (.int .u32 (Int.ofNat 0))))⟩, ⟨some 15, none, .pick (.t 8) (.t 14) (.c (.lit (.bool false)))⟩]) (.cond (.t 15) .skip (.exit 0))) (.block 1 (.ops [⟨some 16, none, .mv (.t 3)⟩, ⟨some 17, none, .bin .sub (.t 16) (.c (.int 1))⟩, ⟨some 3, none, .mv (.t 17)⟩]))))) (.seq (.ops [⟨some 18, none, .mv (.t 0)⟩, ⟨some 19, none, .mv (.t 3)⟩, ⟨some 20, none, .slc 1 (.t 18) none (some (.t 19)) none⟩, ⟨some 2, none, .mv (.t 20)⟩]) .ret))), [.t 2]⟩
def F_bits_Add32 : Fn := ⟨22, .seq (.ops [⟨some 6, none, .mv (.c (.lit (.int .u32 (Int.ofNat 0))))⟩, ⟨some 7, none, .mv (.c (.lit (.int .u32 (Int.ofNat 0))))⟩]) (.seq (.ops [⟨some 9, none, .mv (.t 0)⟩, ⟨some 10, none, .wrap .u64 (.t 9)⟩, ⟨some 11, none, .mv (.t 1)⟩, ⟨some 12, none, .wrap .u64 (.t 11)⟩, ⟨some 13, none, .bin .add (.t 10) (.t 12)⟩, ⟨some 14, none, .mv (.t 2)⟩, ⟨some 15, none, .wrap .u64 (.t 14)⟩, ⟨some 16, none, .bin .add (.t 13) (.t 15)⟩, ⟨some 8, none, .mv (.t 16)⟩]) (.seq (.ops [⟨some 17, none, .mv (.t 8)⟩, ⟨some 18, none, .wrap .u32 (.t 17)⟩, ⟨some 6, none, .mv (.t 18)⟩]) (.seq (.ops [⟨some 19, none, .mv (.t 8)⟩, ⟨some 20, none, .bin .shr (.t 19) (.c (.lit (.int .u64 (Int.ofNat 32))))⟩, ⟨some 21, none, .wrap .u32 (.t 20)⟩, ⟨some 7, none, .mv (.t 21)⟩]) .ret))), [.t 6, .t 7]⟩
def F_natural_compare : Fn := ⟨42, .seq (.ops [⟨some 4, none, .mv (.c (.int 0))⟩]) (.seq (.seq (.ops [⟨some 6, none, .mv (.t 0)⟩, ⟨some 7, none, .len (.t 6)⟩, ⟨some 8, none, .mv (.t 1)⟩, ⟨some 9, none, .len (.t 8)⟩, ⟨some 10, none, .bin .neq (.t 7) (.t 9)⟩]) (.cond (.t 10) (.seq (.ops [⟨some 11, none, .mv (.t 0)⟩, ⟨some 12, none, .len (.t 11)⟩, ⟨some 13, none, .mv (.t 1)⟩, ⟨some 14, none, .len (.t 13)⟩, ⟨some 15, none, .bin .sub (.t 12) (.t 14)⟩, ⟨some 16, none, .call fn_natural_sign [.t 15]⟩, ⟨some 4, none, .mv (.t 16)⟩]) .ret) .skip)) (.seq (.seq (.ops [⟨some 17, none, .mv (.t 0)⟩, ⟨some 18, none, .len (.t 17)⟩, ⟨some 19, none, .bin .sub (.t 18) (.c (.int 1))⟩, ⟨some 5, none, .mv (.t 19)⟩]) (.block 0 (.loop (.seq (.seq (.ops [⟨some 20, none, .mv (.t 5)⟩, ⟨some 21, none, .bin .geq (.t 20) (.c (.int 0))⟩]) (.cond (.t 21) .skip (.exit 0))) (.seq (.block 1 (.seq (.ops [⟨some 24, none, .mv (.t 0)⟩, ⟨some 25, none, .mv (.t 5)⟩, ⟨some 26, none, .ia 1 (.t 24) (.t 25)⟩, ⟨some 27, none, .ld none (.t 26)⟩, ⟨some 28, none, .mv (.t 1)⟩, ⟨some 29, none, .mv (.t 5)⟩, ⟨some 30, none, .ia 1 (.t 28) (.t 29)⟩, ⟨some 31, none, .ld none (.t 30)⟩, ⟨some 32, none, .bin .neq (.t 27) (.t 31)⟩]) (.cond (.t 32) (.seq (.seq (.ops [⟨some 33, none, .mv (.t 0)⟩, ⟨some 34, none, .mv (.t 5)⟩, ⟨some 35, none, .ia 1 (.t 33) (.t 34)⟩, ⟨some 36, none, .ld none (.t 35)⟩, ⟨some 37, none, .mv (.t 1)⟩, ⟨some 38, none, .mv (.t 5)⟩, ⟨some 39, none, .ia 1 (.t 37) (.t 38)⟩, ⟨some 40, none, .ld none (.t 39)⟩, ⟨some 41, none, .bin .lss (.t 36) (.t 40)⟩]) (.cond (.t 41) (.seq (.ops [⟨some 4, none, .mv (.c (.lit (.int .i64 (Int.negSucc 0))))⟩]) .ret) .skip)) (.seq (.ops [⟨some 4, none, .mv (.c (.int 1))⟩]) .ret)) .skip))) (.ops [⟨some 22, none, .mv (.t 5)⟩, ⟨some 23, none, .bin .sub (.t 22) (.c (.int 1))⟩, ⟨some 5, none, .mv (.t 23)⟩])))))) (.seq (.ops [⟨some 4, none, .mv (.c (.int 0))⟩]) .ret))), [.t 4]⟩
def F_natural_subtract : Fn := ⟨41, .seq (.ops [⟨some 4, none, .mv (.c (.lit (.slice none 0 0)))⟩]) (.seq (.ops [⟨some 9, none, .mv (.t 0)⟩, ⟨some 10, none, .len (.t 9)⟩, ⟨some 11, none, .mk ty_uint32 1 4 [.lit (.int .u32 (Int.ofNat 0))] (.t 10) (.t 10)⟩, ⟨some 5, none, .mv (.t 11)⟩]) (.seq (.ops [⟨some 6, none, .mv (.c (.lit (.int .u32 (Int.ofNat 0))))⟩]) (.seq (.seq (.ops [⟨some 12, none, .mv (.t 0)⟩, ⟨some 13, none, .len (.t 12)⟩, ⟨some 14, none, .mv (.c (.int 0))⟩]) (.block 0 (.loop (.seq (.ops [⟨some 15, none, .bin .lss (.t 14) (.t 13)⟩]) (.seq (.cond (.t 15) .skip (.exit 0)) (.seq (.block 1 (.seq (.ops [⟨some 16, none, .mv (.t 14)⟩, ⟨some 7, none, .mv (.t 16)⟩]) (.seq (.ops [⟨some 8, none, .mv (.c (.lit (.int .u32 (Int.ofNat 0))))⟩]) (.seq (.seq (.ops [⟨some 17, none, .mv (.t 7)⟩, ⟨some 18, none, .mv (.t 1)⟩, ⟨some 19, none, .len (.t 18)⟩, ⟨some 20, none, .bin .lss (.t 17) (.t 19)⟩]) (.cond (.t 20) (.ops [⟨some 21, none, .mv (.t 1)⟩, ⟨some 22, none, .mv (.t 7)⟩, ⟨some 23, none, .ia 1 (.t 21) (.t 22)⟩, ⟨some 24, none, .ld none (.t 23)⟩, ⟨some 8, none, .mv (.t 24)⟩]) .skip)) (.ops [⟨some 26, none, .mv (.t 5)⟩, ⟨some 27, none, .mv (.t 7)⟩, ⟨some 28, none, .mv (.t 0)⟩, ⟨some 29, none, .mv (.t 7)⟩, ⟨some 30, none, .ia 1 (.t 28) (.t 29)⟩, ⟨some 31, none, .ld none (.t 30)⟩, ⟨some 32, none, .mv (.t 8)⟩, ⟨some 33, none, .mv (.t 6)⟩, ⟨some 34, none, .call fn_bits_Sub32 [.t 31, .t 32, .t 33]⟩, ⟨some 25, none, .mv (.t 34)⟩, ⟨some 35, none, .ext 0 (.t 25)⟩, ⟨some 36, none, .ext 1 (.t 25)⟩, ⟨some 37, none, .ia 1 (.t 26) (.t 27)⟩, ⟨none, none, .st 1 (.t 37) (.t 35)⟩, ⟨some 6, none, .mv (.t 36)⟩]))))) (.ops [⟨some 38, none, .bin .add (.t 14) (.c (.int 1))⟩, ⟨some 14, none, .mv (.t 38)⟩]))))))) (.seq (.ops [⟨some 39, none, .mv (.t 5)⟩, ⟨some 40, none, .call fn_natural_limbs_trim [.t 39]⟩, ⟨some 4, none, .mv (.t 40)⟩]) .ret)))), [.t 4]⟩
def F_natural_divide : Fn := ⟨86, .seq (.ops [⟨some 4, none, .mv (.c (.lit (.slice none 0 0)))⟩, ⟨some 5, none, .mv (.c (.lit (.slice none 0 0)))⟩]) (.seq (.seq (.ops [⟨some 14, none, .mv (.t 0)⟩, ⟨some 15, none, .mv (.t 1)⟩, ⟨some 16, none, .call fn_natural_compare [.t 14, .t 15]⟩, ⟨some 17, none, .bin .lss (.t 16) (.c (.int 0))⟩]) (.cond (.t 17) (.seq (.ops [⟨some 18, none, .mv (.t 0)⟩, ⟨some 4, none, .mv (.c (.lit (.slice none 0 0)))⟩, ⟨some 5, none, .mv (.t 18)⟩]) .ret) .skip)) (.seq (.seq (.ops [⟨some 19, none, .mv (.t 1)⟩, ⟨some 20, none, .len (.t 19)⟩, ⟨some 21, none, .bin .eql (.t 20) (.c (.int 1))⟩]) (.cond (.t 21) (.seq (.ops [⟨some 23, none, .mv (.t 0)⟩, ⟨some 24, none, .mv (.t 1)⟩, ⟨some 25, none, .ia 1 (.t 24) (.c (.int 0))⟩, ⟨some 26, none, .ld none (.t 25)⟩, ⟨some 27, none, .call fn_natural_divideSmall [.t 23, .t 26]⟩, ⟨some 22, none, .mv (.t 27)⟩, ⟨some 28, none, .ext 0 (.t 22)⟩, ⟨some 29, none, .ext 1 (.t 22)⟩, ⟨some 6, none, .mv (.t 28)⟩, ⟨some 7, none, .mv (.t 29)⟩]) (.seq (.ops [⟨some 30, none, .mv (.t 6)⟩, ⟨some 31, none, .mv (.t 7)⟩, ⟨some 32, none, .bsl ty_uint32 1 1 [.lit (.int .u32 (Int.ofNat 0))] [(0, 1, .t 31)]⟩, ⟨some 33, none, .call fn_natural_limbs_trim [.t 32]⟩, ⟨some 4, none, .mv (.t 30)⟩, ⟨some 5, none, .mv (.t 33)⟩]) .ret)) .skip)) (.seq (.ops [⟨some 34, none, .mv (.t 1)⟩, ⟨some 35, none, .mv (.t 1)⟩, ⟨some 36, none, .len (.t 35)⟩, ⟨some 37, none, .bin .sub (.t 36) (.c (.int 1))⟩, ⟨some 38, none, .ia 1 (.t 34) (.t 37)⟩, ⟨some 39, none, .ld none (.t 38)⟩, ⟨some 40, none, .call fn_bits_LeadingZeros32 [.t 39]⟩, ⟨some 41, none, .wrap .u64 (.t 40)⟩, ⟨some 8, none, .mv (.t 41)⟩]) (.seq (.ops [⟨some 42, none, .mv (.t 1)⟩, ⟨some 43, none, .len (.t 42)⟩, ⟨some 9, none, .mv (.t 43)⟩]) (.seq (.ops [⟨some 44, none, .mv (.t 1)⟩, ⟨some 45, none, .mv (.t 8)⟩, ⟨some 46, none, .mv (.t 9)⟩, ⟨some 47, none, .call fn_natural_shift [.t 44, .t 45, .t 46]⟩, ⟨some 10, none, .mv (.t 47)⟩]) (.seq (.ops [⟨some 48, none, .mv (.t 0)⟩, ⟨some 49, none, .mv (.t 8)⟩, ⟨some 50, none, .mv (.t 0)⟩, ⟨some 51, none, .len (.t 50)⟩, ⟨some 52, none, .bin .add (.t 51) (.c (.int 1))⟩, ⟨some 53, none, .call fn_natural_shift [.t 48, .t 49, .t 52]⟩, ⟨some 11, none, .mv (.t 53)⟩]) (.seq (.ops [⟨some 54, none, .mv (.t 0)⟩, ⟨some 55, none, .len (.t 54)⟩, ⟨some 56, none, .mv (.t 9)⟩, ⟨some 57, none, .bin .sub (.t 55) (.t 56)⟩, ⟨some 58, none, .bin .add (.t 57) (.c (.int 1))⟩, ⟨some 59, none, .mk ty_uint32 1 4 [.lit (.int .u32 (Int.ofNat 0))] (.t 58) (.t 58)⟩, ⟨some 12, none, .mv (.t 59)⟩]) (.seq (.seq (.ops [⟨some 60, none, .mv (.t 12)⟩, ⟨some 61, none, .len (.t 60)⟩, ⟨some 62, none, .bin .sub (.t 61) (.c (.int 1))⟩, ⟨some 13, none, .mv (.t 62)⟩]) (.block 0 (.loop (.seq (.seq (.ops [⟨some 63, none, .mv (.t 13)⟩, ⟨some 64, none, .bin .geq (.t 63) (.c (.int 0))⟩]) (.cond (.t 64) .skip (.exit 0))) (.seq (.block 1 (.ops [⟨some 67, none, .mv (.t 12)⟩, ⟨some 68, none, .mv (.t 13)⟩, ⟨some 69, none, .mv (.t 11)⟩, ⟨some 70, none, .mv (.t 13)⟩, ⟨some 71, none, .mv (.t 13)⟩, ⟨some 72, none, .mv (.t 9)⟩, ⟨some 73, none, .bin .add (.t 71) (.t 72)⟩, ⟨some 74, none, .bin .add (.t 73) (.c (.int 1))⟩, ⟨some 75, none, .slc 1 (.t 69) (some (.t 70)) (some (.t 74)) none⟩, ⟨some 76, none, .mv (.t 10)⟩, ⟨some 77, none, .call fn_natural_step [.t 75, .t 76]⟩, ⟨some 78, none, .ia 1 (.t 67) (.t 68)⟩, ⟨none, none, .st 1 (.t 78) (.t 77)⟩])) (.ops [⟨some 65, none, .mv (.t 13)⟩, ⟨some 66, none, .bin .sub (.t 65) (.c (.int 1))⟩, ⟨some 13, none, .mv (.t 66)⟩])))))) (.seq (.ops [⟨some 79, none, .mv (.t 12)⟩, ⟨some 81, none, .mv (.t 11)⟩, ⟨some 82, none, .mv (.t 9)⟩, ⟨some 83, none, .slc 1 (.t 81) none (some (.t 82)) none⟩, ⟨some 84, none, .mv (.t 8)⟩, ⟨some 80, none, .call fn_natural_limbs_trim [.t 79]⟩, ⟨some 85, none, .call fn_natural_unshift [.t 83, .t 84]⟩, ⟨some 4, none, .mv (.t 80)⟩, ⟨some 5, none, .mv (.t 85)⟩]) .ret))))))))), [.t 4, .t 5]⟩
def F_linear_check : Fn := ⟨39, .seq (.ops [⟨some 2, none, .mv (.c (.int 0))⟩]) (.seq (.seq (.ops [⟨some 5, none, .mv (.t 0)⟩, ⟨some 6, none, .len (.t 5)⟩, ⟨some 7, none, .bin .eql (.t 6) (.c (.int 0))⟩, ⟨some 8, none, .mv (.t 7)⟩, ⟨some 9, some (8, false), .mv (.t 0)⟩, ⟨some 10, some (8, false), .ia 1 (.t 9) (.c (.int 0))⟩, ⟨some 11, some (8, false), .ld none (.t 10)⟩, ⟨some 12, some (8, false), .len (.t 11)⟩, ⟨some 13, some (8, false), .bin .eql (.t 12) (.c (.int 0))⟩, ⟨some 14, none, .pick (.t 8) (.c (.lit (.bool true))) (.t 13)⟩]) (.cond (.t 14) (.seq (.ops [⟨some 2, none, .mv (.c (.int 4))⟩]) .ret) .skip)) (.seq (.seq (.ops [⟨some 15, none, .mv (.t 0)⟩, ⟨some 16, none, .len (.t 15)⟩, ⟨some 17, none, .mv (.c (.int 0))⟩]) (.block 0 (.loop (.seq (.ops [⟨some 18, none, .bin .lss (.t 17) (.t 16)⟩]) (.seq (.cond (.t 18) .skip (.exit 0)) (.seq (.block 1 (.seq (.ops [⟨some 19, none, .ia 1 (.t 15) (.t 17)⟩, ⟨some 20, none, .ld none (.t 19)⟩, ⟨some 4, none, .mv (.t 20)⟩]) (.seq (.ops [⟨some 21, none, .mv (.t 4)⟩, ⟨some 22, none, .len (.t 21)⟩, ⟨some 23, none, .mv (.t 0)⟩, ⟨some 24, none, .ia 1 (.t 23) (.c (.int 0))⟩, ⟨some 25, none, .ld none (.t 24)⟩, ⟨some 26, none, .len (.t 25)⟩, ⟨some 27, none, .bin .neq (.t 22) (.t 26)⟩]) (.cond (.t 27) (.seq (.ops [⟨some 2, none, .mv (.c (.int 4))⟩]) .ret) .skip)))) (.ops [⟨some 28, none, .bin .add (.t 17) (.c (.int 1))⟩, ⟨some 17, none, .mv (.t 28)⟩]))))))) (.seq (.seq (.ops [⟨some 29, none, .mv (.t 0)⟩, ⟨some 30, none, .len (.t 29)⟩, ⟨some 31, none, .bin .gtr (.t 30) (.c (.int 16))⟩, ⟨some 32, none, .mv (.t 31)⟩, ⟨some 33, some (32, false), .mv (.t 0)⟩, ⟨some 34, some (32, false), .ia 1 (.t 33) (.c (.int 0))⟩, ⟨some 35, some (32, false), .ld none (.t 34)⟩, ⟨some 36, some (32, false), .len (.t 35)⟩, ⟨some 37, some (32, false), .bin .gtr (.t 36) (.c (.int 16))⟩, ⟨some 38, none, .pick (.t 32) (.c (.lit (.bool true))) (.t 37)⟩]) (.cond (.t 38) (.seq (.ops [⟨some 2, none, .mv (.c (.int 2))⟩]) .ret) .skip)) (.seq (.ops [⟨some 2, none, .mv (.c (.int 0))⟩]) .ret)))), [.t 2]⟩
def F_linear_reduce : Fn := ⟨133, .seq (.ops [⟨some 4, none, .mv (.c (.lit (.slice none 0 0)))⟩, ⟨some 5, none, .new [.lit (.bool false), .lit (.string ⟨#[]⟩), .lit (.string ⟨#[]⟩)] ty_api_Rat⟩]) (.seq (.ops [⟨some 6, none, .mv (.c (.lit (.slice none 0 0)))⟩]) (.seq (.ops [⟨some 14, none, .call fn_rational_Int [.c (.int 1)]⟩, ⟨some 7, none, .new [.lit (.bool false), .lit (.string ⟨#[]⟩), .lit (.string ⟨#[]⟩)] ty_api_Rat⟩, ⟨none, none, .st 3 (.t 7) (.t 14)⟩]) (.seq (.seq (.ops [⟨some 8, none, .mv (.c (.int 0))⟩]) (.block 0 (.loop (.seq (.seq (.ops [⟨some 15, none, .mv (.t 8)⟩, ⟨some 16, none, .mv (.t 1)⟩, ⟨some 17, none, .bin .lss (.t 15) (.t 16)⟩, ⟨some 18, none, .mv (.t 17)⟩, ⟨some 19, some (18, true), .mv (.t 6)⟩, ⟨some 20, some (18, true), .len (.t 19)⟩, ⟨some 21, some (18, true), .mv (.t 0)⟩, ⟨some 22, some (18, true), .len (.t 21)⟩, ⟨some 23, some (18, true), .bin .lss (.t 20) (.t 22)⟩, ⟨some 24, none, .pick (.t 18) (.t 23) (.c (.lit (.bool false)))⟩]) (.cond (.t 24) .skip (.exit 0))) (.seq (.block 1 (.seq (.ops [⟨some 27, none, .mv (.t 6)⟩, ⟨some 28, none, .len (.t 27)⟩, ⟨some 9, none, .mv (.t 28)⟩]) (.seq (.ops [⟨some 29, none, .mv (.t 0)⟩, ⟨some 30, none, .mv (.t 9)⟩, ⟨some 31, none, .mv (.t 8)⟩, ⟨some 32, none, .call fn_linear_pivot [.t 29, .t 30, .t 31]⟩, ⟨some 10, none, .mv (.t 32)⟩]) (.seq (.seq (.ops [⟨some 33, none, .mv (.t 10)⟩, ⟨some 34, none, .bin .lss (.t 33) (.c (.int 0))⟩]) (.cond (.t 34) (.exit 1) .skip)) (.seq (.seq (.ops [⟨some 35, none, .mv (.t 10)⟩, ⟨some 36, none, .mv (.t 9)⟩, ⟨some 37, none, .bin .neq (.t 35) (.t 36)⟩]) (.cond (.t 37) (.seq (.ops [⟨some 38, none, .mv (.t 0)⟩, ⟨some 39, none, .mv (.t 10)⟩, ⟨some 40, none, .mv (.t 0)⟩, ⟨some 41, none, .mv (.t 9)⟩, ⟨some 42, none, .mv (.t 0)⟩, ⟨some 43, none, .mv (.t 9)⟩, ⟨some 44, none, .ia 1 (.t 42) (.t 43)⟩, ⟨some 45, none, .ld none (.t 44)⟩, ⟨some 46, none, .mv (.t 0)⟩, ⟨some 47, none, .mv (.t 10)⟩, ⟨some 48, none, .ia 1 (.t 46) (.t 47)⟩, ⟨some 49, none, .ld none (.t 48)⟩, ⟨some 50, none, .ia 1 (.t 38) (.t 39)⟩, ⟨none, none, .st 1 (.t 50) (.t 45)⟩, ⟨some 51, none, .ia 1 (.t 40) (.t 41)⟩, ⟨none, none, .st 1 (.t 51) (.t 49)⟩]) (.ops [⟨some 52, none, .ld (some 3) (.t 7)⟩, ⟨some 53, none, .call fn_rational_Negate [.t 52]⟩, ⟨none, none, .st 3 (.t 7) (.t 53)⟩])) .skip)) (.seq (.ops [⟨some 54, none, .mv (.t 0)⟩, ⟨some 55, none, .mv (.t 9)⟩, ⟨some 56, none, .ia 1 (.t 54) (.t 55)⟩, ⟨some 57, none, .ld none (.t 56)⟩, ⟨some 58, none, .mv (.t 8)⟩, ⟨some 59, none, .ia 3 (.t 57) (.t 58)⟩, ⟨some 60, none, .ld (some 3) (.t 59)⟩, ⟨some 11, none, .new [.lit (.bool false), .lit (.string ⟨#[]⟩), .lit (.string ⟨#[]⟩)] ty_api_Rat⟩, ⟨none, none, .st 3 (.t 11) (.t 60)⟩]) (.seq (.ops [⟨some 61, none, .ld (some 3) (.t 7)⟩, ⟨some 62, none, .ld (some 3) (.t 11)⟩, ⟨some 63, none, .call fn_rational_Multiply [.t 61, .t 62]⟩, ⟨none, none, .st 3 (.t 7) (.t 63)⟩]) (.seq (.seq (.ops [⟨some 64, none, .mv (.t 0)⟩, ⟨some 65, none, .mv (.t 9)⟩, ⟨some 66, none, .ia 1 (.t 64) (.t 65)⟩, ⟨some 67, none, .ld none (.t 66)⟩, ⟨some 68, none, .len (.t 67)⟩, ⟨some 69, none, .mv (.c (.int 0))⟩]) (.block 2 (.loop (.seq (.ops [⟨some 70, none, .bin .lss (.t 69) (.t 68)⟩]) (.seq (.cond (.t 70) .skip (.exit 2)) (.seq (.block 3 (.seq (.ops [⟨some 71, none, .mv (.t 69)⟩, ⟨some 12, none, .mv (.t 71)⟩]) (.ops [⟨some 73, none, .mv (.t 0)⟩, ⟨some 74, none, .mv (.t 9)⟩, ⟨some 75, none, .ia 1 (.t 73) (.t 74)⟩, ⟨some 76, none, .ld none (.t 75)⟩, ⟨some 77, none, .mv (.t 12)⟩, ⟨some 78, none, .mv (.t 0)⟩, ⟨some 79, none, .mv (.t 9)⟩, ⟨some 80, none, .ia 1 (.t 78) (.t 79)⟩, ⟨some 81, none, .ld none (.t 80)⟩, ⟨some 82, none, .mv (.t 12)⟩, ⟨some 83, none, .ia 3 (.t 81) (.t 82)⟩, ⟨some 84, none, .ld (some 3) (.t 83)⟩, ⟨some 85, none, .ld (some 3) (.t 11)⟩, ⟨some 86, none, .call fn_rational_Divide [.t 84, .t 85]⟩, ⟨some 72, none, .mv (.t 86)⟩, ⟨some 87, none, .ext 0 (.t 72)⟩, ⟨some 88, none, .ext 1 (.t 72)⟩, ⟨some 89, none, .ia 3 (.t 76) (.t 77)⟩, ⟨none, none, .st 3 (.t 89) (.t 87)⟩]))) (.ops [⟨some 90, none, .bin .add (.t 69) (.c (.int 1))⟩, ⟨some 69, none, .mv (.t 90)⟩]))))))) (.seq (.seq (.ops [⟨some 91, none, .mv (.t 0)⟩, ⟨some 92, none, .len (.t 91)⟩, ⟨some 93, none, .mv (.c (.int 0))⟩]) (.block 4 (.loop (.seq (.ops [⟨some 94, none, .bin .lss (.t 93) (.t 92)⟩]) (.seq (.cond (.t 94) .skip (.exit 4)) (.seq (.block 5 (.seq (.ops [⟨some 95, none, .mv (.t 93)⟩, ⟨some 13, none, .mv (.t 95)⟩]) (.seq (.ops [⟨some 96, none, .mv (.t 13)⟩, ⟨some 97, none, .mv (.t 9)⟩, ⟨some 98, none, .bin .neq (.t 96) (.t 97)⟩, ⟨some 99, none, .mv (.t 98)⟩, ⟨some 100, some (99, true), .mv (.t 0)⟩, ⟨some 101, some (99, true), .mv (.t 13)⟩, ⟨some 102, some (99, true), .ia 1 (.t 100) (.t 101)⟩, ⟨some 103, some (99, true), .ld none (.t 102)⟩, ⟨some 104, some (99, true), .mv (.t 8)⟩, ⟨some 105, some (99, true), .ia 3 (.t 103) (.t 104)⟩, ⟨some 106, some (99, true), .ld (some 3) (.t 105)⟩, ⟨some 107, some (99, true), .call fn_linear_isZero [.t 106]⟩, ⟨some 108, some (99, true), .un .not (.t 107)⟩, ⟨some 109, none, .pick (.t 99) (.t 108) (.c (.lit (.bool false)))⟩]) (.cond (.t 109) (.ops [⟨some 110, none, .mv (.t 0)⟩, ⟨some 111, none, .mv (.t 13)⟩, ⟨some 112, none, .ia 1 (.t 110) (.t 111)⟩, ⟨some 113, none, .ld none (.t 112)⟩, ⟨some 114, none, .mv (.t 0)⟩, ⟨some 115, none, .mv (.t 9)⟩, ⟨some 116, none, .ia 1 (.t 114) (.t 115)⟩, ⟨some 117, none, .ld none (.t 116)⟩, ⟨some 118, none, .mv (.t 0)⟩, ⟨some 119, none, .mv (.t 13)⟩, ⟨some 120, none, .ia 1 (.t 118) (.t 119)⟩, ⟨some 121, none, .ld none (.t 120)⟩, ⟨some 122, none, .mv (.t 8)⟩, ⟨some 123, none, .ia 3 (.t 121) (.t 122)⟩, ⟨some 124, none, .ld (some 3) (.t 123)⟩, ⟨some 125, none, .call fn_linear_minus [.t 113, .t 117, .t 124]⟩]) .skip)))) (.ops [⟨some 126, none, .bin .add (.t 93) (.c (.int 1))⟩, ⟨some 93, none, .mv (.t 126)⟩]))))))) (.ops [⟨some 127, none, .mv (.t 6)⟩, ⟨some 128, none, .mv (.t 8)⟩, ⟨some 129, none, .bsl ty_int 1 1 [.int 0] [(0, 1, .t 128)]⟩, ⟨some 130, none, .app ty_int 1 8 (.t 127) (.t 129)⟩, ⟨some 6, none, .mv (.t 130)⟩])))))))))) (.ops [⟨some 25, none, .mv (.t 8)⟩, ⟨some 26, none, .bin .add (.t 25) (.c (.int 1))⟩, ⟨some 8, none, .mv (.t 26)⟩])))))) (.seq (.ops [⟨some 131, none, .mv (.t 6)⟩, ⟨some 132, none, .ld (some 3) (.t 7)⟩, ⟨some 4, none, .mv (.t 131)⟩, ⟨none, none, .st 3 (.t 5) (.t 132)⟩]) .ret)))), [.t 4, .cell 5 (some 3)]⟩
def F_slices_Index_Sint_int : Fn := ⟨19, .seq (.ops [⟨some 4, none, .mv (.c (.int 0))⟩]) (.seq (.seq (.ops [⟨some 6, none, .mv (.t 0)⟩, ⟨some 7, none, .len (.t 6)⟩, ⟨some 8, none, .mv (.c (.int 0))⟩]) (.block 0 (.loop (.seq (.ops [⟨some 9, none, .bin .lss (.t 8) (.t 7)⟩]) (.seq (.cond (.t 9) .skip (.exit 0)) (.seq (.block 1 (.seq (.ops [⟨some 10, none, .mv (.t 8)⟩, ⟨some 5, none, .mv (.t 10)⟩]) (.seq (.ops [⟨some 11, none, .mv (.t 1)⟩, ⟨some 12, none, .mv (.t 0)⟩, ⟨some 13, none, .mv (.t 5)⟩, ⟨some 14, none, .ia 1 (.t 12) (.t 13)⟩, ⟨some 15, none, .ld none (.t 14)⟩, ⟨some 16, none, .bin .eql (.t 11) (.t 15)⟩]) (.cond (.t 16) (.seq (.ops [⟨some 17, none, .mv (.t 5)⟩, ⟨some 4, none, .mv (.t 17)⟩]) .ret) .skip)))) (.ops [⟨some 18, none, .bin .add (.t 8) (.c (.int 1))⟩, ⟨some 8, none, .mv (.t 18)⟩]))))))) (.seq (.ops [⟨some 4, none, .mv (.c (.lit (.int .i64 (Int.negSucc 0))))⟩]) .ret)), [.t 4]⟩
def F_linear_denominator : Fn := ⟨9, .seq (.ops [⟨some 1, none, .box (.t 0) ty_api_Rat⟩, ⟨some 2, none, .mv (.c (.lit (.string ⟨#[]⟩)))⟩]) (.seq (.seq (.ops [⟨some 3, none, .off 2 (.t 1)⟩, ⟨some 4, none, .ld none (.t 3)⟩, ⟨some 5, none, .bin .eql (.t 4) (.c (.lit (.string ⟨#[]⟩)))⟩]) (.cond (.t 5) (.seq (.ops [⟨some 6, none, .call fn_natural_FromUint [.c (.lit (.int .u64 (Int.ofNat 1)))]⟩, ⟨some 2, none, .mv (.t 6)⟩]) .ret) .skip)) (.seq (.ops [⟨some 7, none, .off 2 (.t 1)⟩, ⟨some 8, none, .ld none (.t 7)⟩, ⟨some 2, none, .mv (.t 8)⟩]) .ret)), [.t 2]⟩
def F_linear_integer_times : Fn := ⟨16, .seq (.ops [⟨some 2, none, .box (.t 0) ty_linear_integer⟩, ⟨some 3, none, .box (.t 1) ty_linear_integer⟩, ⟨some 4, none, .new [.lit (.bool false), .lit (.string ⟨#[]⟩)] ty_linear_integer⟩]) (.seq (.ops [⟨some 5, none, .off 0 (.t 2)⟩, ⟨some 6, none, .ld none (.t 5)⟩, ⟨some 7, none, .off 0 (.t 3)⟩, ⟨some 8, none, .ld none (.t 7)⟩, ⟨some 9, none, .beq true (.t 6) (.t 8)⟩, ⟨some 10, none, .off 1 (.t 2)⟩, ⟨some 11, none, .ld none (.t 10)⟩, ⟨some 12, none, .off 1 (.t 3)⟩, ⟨some 13, none, .ld none (.t 12)⟩, ⟨some 14, none, .call fn_natural_Multiply [.t 11, .t 13]⟩, ⟨some 15, none, .build [.lit (.bool false), .lit (.string ⟨#[]⟩)] [(0, 1, .t 9), (1, 1, .t 14)]⟩, ⟨none, none, .st 2 (.t 4) (.t 15)⟩]) .ret), [.cell 4 (some 2)]⟩
def F_linear_integer_minus : Fn := ⟨48, .seq (.ops [⟨some 2, none, .box (.t 0) ty_linear_integer⟩, ⟨some 3, none, .box (.t 1) ty_linear_integer⟩, ⟨some 4, none, .new [.lit (.bool false), .lit (.string ⟨#[]⟩)] ty_linear_integer⟩]) (.seq (.seq (.ops [⟨some 9, none, .off 0 (.t 2)⟩, ⟨some 10, none, .ld none (.t 9)⟩, ⟨some 11, none, .off 0 (.t 3)⟩, ⟨some 12, none, .ld none (.t 11)⟩, ⟨some 13, none, .beq true (.t 10) (.t 12)⟩]) (.cond (.t 13) (.seq (.ops [⟨some 14, none, .off 0 (.t 2)⟩, ⟨some 15, none, .ld none (.t 14)⟩, ⟨some 16, none, .off 1 (.t 2)⟩, ⟨some 17, none, .ld none (.t 16)⟩, ⟨some 18, none, .off 1 (.t 3)⟩, ⟨some 19, none, .ld none (.t 18)⟩, ⟨some 20, none, .call fn_natural_Add [.t 17, .t 19]⟩, ⟨some 21, none, .build [.lit (.bool false), .lit (.string ⟨#[]⟩)] [(0, 1, .t 15), (1, 1, .t 20)]⟩, ⟨none, none, .st 2 (.t 4) (.t 21)⟩]) .ret) .skip)) (.seq (.seq (.ops [⟨some 23, none, .off 1 (.t 2)⟩, ⟨some 24, none, .ld none (.t 23)⟩, ⟨some 25, none, .off 1 (.t 3)⟩, ⟨some 26, none, .ld none (.t 25)⟩, ⟨some 27, none, .call fn_natural_Subtract [.t 24, .t 26]⟩, ⟨some 22, none, .mv (.t 27)⟩, ⟨some 28, none, .ext 0 (.t 22)⟩, ⟨some 29, none, .ext 1 (.t 22)⟩, ⟨some 5, none, .mv (.t 28)⟩, ⟨some 6, none, .mv (.t 29)⟩]) (.seq (.ops [⟨some 30, none, .mv (.t 6)⟩]) (.cond (.t 30) (.seq (.ops [⟨some 31, none, .off 0 (.t 2)⟩, ⟨some 32, none, .ld none (.t 31)⟩, ⟨some 33, none, .mv (.t 5)⟩, ⟨some 34, none, .build [.lit (.bool false), .lit (.string ⟨#[]⟩)] [(0, 1, .t 32), (1, 1, .t 33)]⟩, ⟨none, none, .st 2 (.t 4) (.t 34)⟩]) .ret) .skip))) (.seq (.ops [⟨some 36, none, .off 1 (.t 3)⟩, ⟨some 37, none, .ld none (.t 36)⟩, ⟨some 38, none, .off 1 (.t 2)⟩, ⟨some 39, none, .ld none (.t 38)⟩, ⟨some 40, none, .call fn_natural_Subtract [.t 37, .t 39]⟩, ⟨some 35, none, .mv (.t 40)⟩, ⟨some 41, none, .ext 0 (.t 35)⟩, ⟨some 42, none, .ext 1 (.t 35)⟩, ⟨some 7, none, .mv (.t 41)⟩, ⟨some 8, none, .mv (.t 42)⟩]) (.seq (.ops [⟨some 43, none, .off 0 (.t 2)⟩, ⟨some 44, none, .ld none (.t 43)⟩, ⟨some 45, none, .un .not (.t 44)⟩, ⟨some 46, none, .mv (.t 7)⟩, ⟨some 47, none, .build [.lit (.bool false), .lit (.string ⟨#[]⟩)] [(0, 1, .t 45), (1, 1, .t 46)]⟩, ⟨none, none, .st 2 (.t 4) (.t 47)⟩]) .ret)))), [.cell 4 (some 2)]⟩
def F_linear_integer_over : Fn := ⟨24, .seq (.ops [⟨some 2, none, .box (.t 0) ty_linear_integer⟩, ⟨some 3, none, .box (.t 1) ty_linear_integer⟩, ⟨some 4, none, .new [.lit (.bool false), .lit (.string ⟨#[]⟩)] ty_linear_integer⟩]) (.seq (.ops [⟨some 9, none, .off 1 (.t 2)⟩, ⟨some 10, none, .ld none (.t 9)⟩, ⟨some 11, none, .off 1 (.t 3)⟩, ⟨some 12, none, .ld none (.t 11)⟩, ⟨some 13, none, .call fn_natural_Divide [.t 10, .t 12]⟩, ⟨some 8, none, .mv (.t 13)⟩, ⟨some 14, none, .ext 0 (.t 8)⟩, ⟨some 15, none, .ext 1 (.t 8)⟩, ⟨some 16, none, .ext 2 (.t 8)⟩, ⟨some 5, none, .mv (.t 14)⟩, ⟨some 6, none, .mv (.t 15)⟩, ⟨some 7, none, .mv (.t 16)⟩]) (.seq (.ops [⟨some 17, none, .off 0 (.t 2)⟩, ⟨some 18, none, .ld none (.t 17)⟩, ⟨some 19, none, .off 0 (.t 3)⟩, ⟨some 20, none, .ld none (.t 19)⟩, ⟨some 21, none, .beq true (.t 18) (.t 20)⟩, ⟨some 22, none, .mv (.t 5)⟩, ⟨some 23, none, .build [.lit (.bool false), .lit (.string ⟨#[]⟩)] [(0, 1, .t 21), (1, 1, .t 22)]⟩, ⟨none, none, .st 2 (.t 4) (.t 23)⟩]) .ret)), [.cell 4 (some 2)]⟩
def F_waterfall_ladder_gap : Fn := ⟨26, .seq (.ops [⟨some 3, none, .box (.t 1) ty_api_Rat⟩, ⟨some 4, none, .new [.lit (.bool false), .lit (.string ⟨#[]⟩), .lit (.string ⟨#[]⟩)] ty_api_Rat⟩, ⟨some 5, none, .mv (.c (.lit (.bool false)))⟩]) (.seq (.ops [⟨some 9, none, .mv (.t 0)⟩, ⟨some 10, none, .ld (some 3) (.t 3)⟩, ⟨some 11, none, .call fn_waterfall_ladder_split [.t 9, .t 10]⟩, ⟨some 8, none, .mv (.t 11)⟩, ⟨some 12, none, .ext 0 (.t 8)⟩, ⟨some 13, none, .ext 1 (.t 8)⟩, ⟨some 7, none, .new [.lit (.bool false), .lit (.string ⟨#[]⟩), .lit (.string ⟨#[]⟩)] ty_api_Rat⟩, ⟨some 6, none, .mv (.t 12)⟩, ⟨none, none, .st 3 (.t 7) (.t 13)⟩]) (.seq (.seq (.ops [⟨some 14, none, .mv (.t 6)⟩, ⟨some 15, none, .mv (.t 0)⟩, ⟨some 16, none, .len (.t 15)⟩, ⟨some 17, none, .bin .eql (.t 14) (.t 16)⟩]) (.cond (.t 17) (.seq (.ops [⟨some 18, none, .build [.lit (.bool false), .lit (.string ⟨#[]⟩), .lit (.string ⟨#[]⟩)] []⟩, ⟨none, none, .st 3 (.t 4) (.t 18)⟩, ⟨some 5, none, .mv (.c (.lit (.bool false)))⟩]) .ret) .skip)) (.seq (.ops [⟨some 19, none, .mv (.t 0)⟩, ⟨some 20, none, .mv (.t 6)⟩, ⟨some 21, none, .ia 4 (.t 19) (.t 20)⟩, ⟨some 22, none, .off 1 (.t 21)⟩, ⟨some 23, none, .ld (some 3) (.t 22)⟩, ⟨some 24, none, .ld (some 3) (.t 7)⟩, ⟨some 25, none, .call fn_rational_Subtract [.t 23, .t 24]⟩, ⟨none, none, .st 3 (.t 4) (.t 25)⟩, ⟨some 5, none, .mv (.c (.lit (.bool true)))⟩]) .ret))), [.cell 4 (some 3), .t 5]⟩
def F_ref1_short : Fn := ⟨43, .seq (.ops [⟨some 4, none, .mv (.c (.lit (.slice none 0 0)))⟩, ⟨some 5, none, .mv (.c (.lit (.int .u32 (Int.ofNat 0))))⟩]) (.seq (.ops [⟨some 9, none, .mv (.t 0)⟩, ⟨some 10, none, .len (.t 9)⟩, ⟨some 11, none, .mk ty_uint32 1 4 [.lit (.int .u32 (Int.ofNat 0))] (.t 10) (.t 10)⟩, ⟨some 6, none, .mv (.t 11)⟩]) (.seq (.ops [⟨some 7, none, .mv (.c (.lit (.int .u64 (Int.ofNat 0))))⟩]) (.seq (.seq (.ops [⟨some 12, none, .mv (.t 0)⟩, ⟨some 13, none, .len (.t 12)⟩, ⟨some 14, none, .bin .sub (.t 13) (.c (.int 1))⟩, ⟨some 8, none, .mv (.t 14)⟩]) (.block 0 (.loop (.seq (.seq (.ops [⟨some 15, none, .mv (.t 8)⟩, ⟨some 16, none, .bin .geq (.t 15) (.c (.int 0))⟩]) (.cond (.t 16) .skip (.exit 0))) (.seq (.block 1 (.seq (.ops [⟨some 19, none, .mv (.t 7)⟩, ⟨some 20, none, .bin .shl (.t 19) (.c (.lit (.int .u64 (Int.ofNat 32))))⟩, ⟨some 21, none, .mv (.t 0)⟩, ⟨some 22, none, .mv (.t 8)⟩, ⟨some 23, none, .ia 1 (.t 21) (.t 22)⟩, ⟨some 24, none, .ld none (.t 23)⟩, ⟨some 25, none, .wrap .u64 (.t 24)⟩, ⟨some 26, none, .bin .or (.t 20) (.t 25)⟩, ⟨some 7, none, .mv (.t 26)⟩]) (.seq (.ops [⟨some 27, none, .mv (.t 6)⟩, ⟨some 28, none, .mv (.t 8)⟩, ⟨some 29, none, .mv (.t 7)⟩, ⟨some 30, none, .mv (.t 1)⟩, ⟨some 31, none, .wrap .u64 (.t 30)⟩, ⟨some 32, none, .bin .quo (.t 29) (.t 31)⟩, ⟨some 33, none, .wrap .u32 (.t 32)⟩, ⟨some 34, none, .ia 1 (.t 27) (.t 28)⟩, ⟨none, none, .st 1 (.t 34) (.t 33)⟩]) (.ops [⟨some 35, none, .mv (.t 7)⟩, ⟨some 36, none, .mv (.t 1)⟩, ⟨some 37, none, .wrap .u64 (.t 36)⟩, ⟨some 38, none, .bin .rem (.t 35) (.t 37)⟩, ⟨some 7, none, .mv (.t 38)⟩])))) (.ops [⟨some 17, none, .mv (.t 8)⟩, ⟨some 18, none, .bin .sub (.t 17) (.c (.int 1))⟩, ⟨some 8, none, .mv (.t 18)⟩])))))) (.seq (.ops [⟨some 39, none, .mv (.t 6)⟩, ⟨some 40, none, .call fn_ref1_strip [.t 39]⟩, ⟨some 41, none, .mv (.t 7)⟩, ⟨some 42, none, .wrap .u32 (.t 41)⟩, ⟨some 4, none, .mv (.t 40)⟩, ⟨some 5, none, .mv (.t 42)⟩]) .ret)))), [.t 4, .t 5]⟩
def F_ref1_long : Fn := ⟨273, .seq (.ops [⟨some 4, none, .mv (.c (.lit (.slice none 0 0)))⟩, ⟨some 5, none, .mv (.c (.lit (.slice none 0 0)))⟩]) (.seq (.ops [⟨some 26, none, .mv (.t 1)⟩, ⟨some 27, none, .len (.t 26)⟩, ⟨some 6, none, .mv (.t 27)⟩]) (.seq (.ops [⟨some 7, none, .mv (.c (.lit (.int .u64 (Int.ofNat 0))))⟩]) (.seq (.block 0 (.loop (.seq (.seq (.ops [⟨some 28, none, .mv (.t 1)⟩, ⟨some 29, none, .mv (.t 6)⟩, ⟨some 30, none, .bin .sub (.t 29) (.c (.int 1))⟩, ⟨some 31, none, .ia 1 (.t 28) (.t 30)⟩, ⟨some 32, none, .ld none (.t 31)⟩, ⟨some 33, none, .mv (.t 7)⟩, ⟨some 34, none, .bin .shl (.t 32) (.t 33)⟩, ⟨some 35, none, .bin .lss (.t 34) (.c (.lit (.int .u32 (Int.ofNat 2147483648))))⟩]) (.cond (.t 35) .skip (.exit 0))) (.block 1 (.ops [⟨some 36, none, .mv (.t 7)⟩, ⟨some 37, none, .bin .add (.t 36) (.c (.lit (.int .u64 (Int.ofNat 1))))⟩, ⟨some 7, none, .mv (.t 37)⟩]))))) (.seq (.ops [⟨some 38, none, .mv (.t 0)⟩, ⟨some 39, none, .mv (.t 7)⟩, ⟨some 40, none, .call fn_ref1_shifted [.t 38, .t 39]⟩, ⟨some 8, none, .mv (.t 40)⟩]) (.seq (.ops [⟨some 41, none, .mv (.t 1)⟩, ⟨some 42, none, .mv (.t 7)⟩, ⟨some 43, none, .call fn_ref1_shifted [.t 41, .t 42]⟩, ⟨some 44, none, .mv (.t 6)⟩, ⟨some 45, none, .slc 1 (.t 43) none (some (.t 44)) none⟩, ⟨some 9, none, .mv (.t 45)⟩]) (.seq (.ops [⟨some 46, none, .mv (.t 0)⟩, ⟨some 47, none, .len (.t 46)⟩, ⟨some 48, none, .mv (.t 6)⟩, ⟨some 49, none, .bin .sub (.t 47) (.t 48)⟩, ⟨some 50, none, .bin .add (.t 49) (.c (.int 1))⟩, ⟨some 51, none, .mk ty_uint32 1 4 [.lit (.int .u32 (Int.ofNat 0))] (.t 50) (.t 50)⟩, ⟨some 10, none, .mv (.t 51)⟩]) (.seq (.seq (.ops [⟨some 52, none, .mv (.t 0)⟩, ⟨some 53, none, .len (.t 52)⟩, ⟨some 54, none, .mv (.t 6)⟩, ⟨some 55, none, .bin .sub (.t 53) (.t 54)⟩, ⟨some 11, none, .mv (.t 55)⟩]) (.block 2 (.loop (.seq (.seq (.ops [⟨some 56, none, .mv (.t 11)⟩, ⟨some 57, none, .bin .geq (.t 56) (.c (.int 0))⟩]) (.cond (.t 57) .skip (.exit 2))) (.seq (.block 3 (.seq (.ops [⟨some 60, none, .mv (.t 8)⟩, ⟨some 61, none, .mv (.t 11)⟩, ⟨some 62, none, .mv (.t 6)⟩, ⟨some 63, none, .bin .add (.t 61) (.t 62)⟩, ⟨some 64, none, .ia 1 (.t 60) (.t 63)⟩, ⟨some 65, none, .ld none (.t 64)⟩, ⟨some 66, none, .wrap .u64 (.t 65)⟩, ⟨some 67, none, .bin .shl (.t 66) (.c (.lit (.int .u64 (Int.ofNat 32))))⟩, ⟨some 68, none, .mv (.t 8)⟩, ⟨some 69, none, .mv (.t 11)⟩, ⟨some 70, none, .mv (.t 6)⟩, ⟨some 71, none, .bin .add (.t 69) (.t 70)⟩, ⟨some 72, none, .bin .sub (.t 71) (.c (.int 1))⟩, ⟨some 73, none, .ia 1 (.t 68) (.t 72)⟩, ⟨some 74, none, .ld none (.t 73)⟩, ⟨some 75, none, .wrap .u64 (.t 74)⟩, ⟨some 76, none, .bin .or (.t 67) (.t 75)⟩, ⟨some 12, none, .mv (.t 76)⟩]) (.seq (.ops [⟨some 77, none, .mv (.t 12)⟩, ⟨some 78, none, .mv (.t 9)⟩, ⟨some 79, none, .mv (.t 6)⟩, ⟨some 80, none, .bin .sub (.t 79) (.c (.int 1))⟩, ⟨some 81, none, .ia 1 (.t 78) (.t 80)⟩, ⟨some 82, none, .ld none (.t 81)⟩, ⟨some 83, none, .wrap .u64 (.t 82)⟩, ⟨some 84, none, .bin .quo (.t 77) (.t 83)⟩, ⟨some 13, none, .mv (.t 84)⟩]) (.seq (.ops [⟨some 85, none, .mv (.t 12)⟩, ⟨some 86, none, .mv (.t 9)⟩, ⟨some 87, none, .mv (.t 6)⟩, ⟨some 88, none, .bin .sub (.t 87) (.c (.int 1))⟩, ⟨some 89, none, .ia 1 (.t 86) (.t 88)⟩, ⟨some 90, none, .ld none (.t 89)⟩, ⟨some 91, none, .wrap .u64 (.t 90)⟩, ⟨some 92, none, .bin .rem (.t 85) (.t 91)⟩, ⟨some 14, none, .mv (.t 92)⟩]) (.seq (.block 4 (.loop (.seq (.seq (.ops [⟨some 93, none, .mv (.t 13)⟩, ⟨some 94, none, .bin .geq (.t 93) (.c (.lit (.int .u64 (Int.ofNat 4294967296))))⟩, ⟨some 95, none, .mv (.t 94)⟩, ⟨some 96, some (95, false), .mv (.t 13)⟩, ⟨some 97, some (95, false), .mv (.t 9)⟩, ⟨some 98, some (95, false), .mv (.t 6)⟩, ⟨some 99, some (95, false), .bin .sub (.t 98) (.c (.int 2))⟩, ⟨some 100, some (95, false), .ia 1 (.t 97) (.t 99)⟩, ⟨some 101, some (95, false), .ld none (.t 100)⟩, ⟨some 102, some (95, false), .wrap .u64 (.t 101)⟩, ⟨some 103, some (95, false), .bin .mul (.t 96) (.t 102)⟩, ⟨some 104, some (95, false), .mv (.t 14)⟩, ⟨some 105, some (95, false), .bin .shl (.t 104) (.c (.lit (.int .u64 (Int.ofNat 32))))⟩, ⟨some 106, some (95, false), .mv (.t 8)⟩, ⟨some 107, some (95, false), .mv (.t 11)⟩, ⟨some 108, some (95, false), .mv (.t 6)⟩, ⟨some 109, some (95, false), .bin .add (.t 107) (.t 108)⟩, ⟨some 110, some (95, false), .bin .sub (.t 109) (.c (.int 2))⟩, ⟨some 111, some (95, false), .ia 1 (.t 106) (.t 110)⟩, ⟨some 112, some (95, false), .ld none (.t 111)⟩, ⟨some 113, some (95, false), .wrap .u64 (.t 112)⟩, ⟨some 114, some (95, false), .bin .or (.t 105) (.t 113)⟩, ⟨some 115, some (95, false), .bin .gtr (.t 103) (.t 114)⟩, ⟨some 116, none, .pick (.t 95) (.c (.lit (.bool true))) (.t 115)⟩]) (.cond (.t 116) .skip (.exit 4))) (.block 5 (.seq (.ops [⟨some 117, none, .mv (.t 13)⟩, ⟨some 118, none, .bin .sub (.t 117) (.c (.lit (.int .u64 (Int.ofNat 1))))⟩, ⟨some 13, none, .mv (.t 118)⟩]) (.seq (.ops [⟨some 119, none, .mv (.t 14)⟩, ⟨some 120, none, .mv (.t 9)⟩, ⟨some 121, none, .mv (.t 6)⟩, ⟨some 122, none, .bin .sub (.t 121) (.c (.int 1))⟩, ⟨some 123, none, .ia 1 (.t 120) (.t 122)⟩, ⟨some 124, none, .ld none (.t 123)⟩, ⟨some 125, none, .wrap .u64 (.t 124)⟩, ⟨some 126, none, .bin .add (.t 119) (.t 125)⟩, ⟨some 14, none, .mv (.t 126)⟩]) (.seq (.ops [⟨some 127, none, .mv (.t 14)⟩, ⟨some 128, none, .bin .geq (.t 127) (.c (.lit (.int .u64 (Int.ofNat 4294967296))))⟩]) (.cond (.t 128) (.exit 4) .skip)))))))) (.seq (.ops [⟨some 15, none, .mv (.c (.lit (.int .u64 (Int.ofNat 0))))⟩]) (.seq (.ops [⟨some 16, none, .mv (.c (.lit (.int .u64 (Int.ofNat 0))))⟩]) (.seq (.seq (.ops [⟨some 17, none, .mv (.c (.int 0))⟩]) (.block 6 (.loop (.seq (.seq (.ops [⟨some 129, none, .mv (.t 17)⟩, ⟨some 130, none, .mv (.t 6)⟩, ⟨some 131, none, .bin .lss (.t 129) (.t 130)⟩]) (.cond (.t 131) .skip (.exit 6))) (.seq (.block 7 (.seq (.ops [⟨some 134, none, .mv (.t 15)⟩, ⟨some 135, none, .mv (.t 13)⟩, ⟨some 136, none, .mv (.t 9)⟩, ⟨some 137, none, .mv (.t 17)⟩, ⟨some 138, none, .ia 1 (.t 136) (.t 137)⟩, ⟨some 139, none, .ld none (.t 138)⟩, ⟨some 140, none, .wrap .u64 (.t 139)⟩, ⟨some 141, none, .bin .mul (.t 135) (.t 140)⟩, ⟨some 142, none, .bin .add (.t 134) (.t 141)⟩, ⟨some 15, none, .mv (.t 142)⟩]) (.seq (.ops [⟨some 143, none, .mv (.t 15)⟩, ⟨some 144, none, .bin .and (.t 143) (.c (.lit (.int .u64 (Int.ofNat 4294967295))))⟩, ⟨some 145, none, .mv (.t 16)⟩, ⟨some 146, none, .bin .add (.t 144) (.t 145)⟩, ⟨some 18, none, .mv (.t 146)⟩]) (.seq (.ops [⟨some 147, none, .mv (.t 15)⟩, ⟨some 148, none, .bin .shr (.t 147) (.c (.lit (.int .u64 (Int.ofNat 32))))⟩, ⟨some 15, none, .mv (.t 148)⟩]) (.seq (.ops [⟨some 149, none, .mv (.t 8)⟩, ⟨some 150, none, .mv (.t 11)⟩, ⟨some 151, none, .mv (.t 17)⟩, ⟨some 152, none, .bin .add (.t 150) (.t 151)⟩, ⟨some 153, none, .ia 1 (.t 149) (.t 152)⟩, ⟨some 154, none, .ld none (.t 153)⟩, ⟨some 155, none, .wrap .u64 (.t 154)⟩, ⟨some 19, none, .mv (.t 155)⟩]) (.seq (.ops [⟨some 16, none, .mv (.c (.lit (.int .u64 (Int.ofNat 0))))⟩]) (.seq (.seq (.ops [⟨some 156, none, .mv (.t 19)⟩, ⟨some 157, none, .mv (.t 18)⟩, ⟨some 158, none, .bin .lss (.t 156) (.t 157)⟩]) (.cond (.t 158) (.seq (.ops [⟨some 159, none, .mv (.t 19)⟩, ⟨some 160, none, .bin .add (.t 159) (.c (.lit (.int .u64 (Int.ofNat 4294967296))))⟩, ⟨some 19, none, .mv (.t 160)⟩]) (.ops [⟨some 16, none, .mv (.c (.lit (.int .u64 (Int.ofNat 1))))⟩])) .skip)) (.ops [⟨some 161, none, .mv (.t 8)⟩, ⟨some 162, none, .mv (.t 11)⟩, ⟨some 163, none, .mv (.t 17)⟩, ⟨some 164, none, .bin .add (.t 162) (.t 163)⟩, ⟨some 165, none, .mv (.t 19)⟩, ⟨some 166, none, .mv (.t 18)⟩, ⟨some 167, none, .bin .sub (.t 165) (.t 166)⟩, ⟨some 168, none, .wrap .u32 (.t 167)⟩, ⟨some 169, none, .ia 1 (.t 161) (.t 164)⟩, ⟨none, none, .st 1 (.t 169) (.t 168)⟩])))))))) (.ops [⟨some 132, none, .mv (.t 17)⟩, ⟨some 133, none, .bin .add (.t 132) (.c (.int 1))⟩, ⟨some 17, none, .mv (.t 133)⟩])))))) (.seq (.ops [⟨some 170, none, .mv (.t 15)⟩, ⟨some 171, none, .mv (.t 16)⟩, ⟨some 172, none, .bin .add (.t 170) (.t 171)⟩, ⟨some 20, none, .mv (.t 172)⟩]) (.seq (.ops [⟨some 173, none, .mv (.t 8)⟩, ⟨some 174, none, .mv (.t 11)⟩, ⟨some 175, none, .mv (.t 6)⟩, ⟨some 176, none, .bin .add (.t 174) (.t 175)⟩, ⟨some 177, none, .ia 1 (.t 173) (.t 176)⟩, ⟨some 178, none, .ld none (.t 177)⟩, ⟨some 179, none, .wrap .u64 (.t 178)⟩, ⟨some 21, none, .mv (.t 179)⟩]) (.seq (.ops [⟨some 180, none, .mv (.t 21)⟩, ⟨some 181, none, .mv (.t 20)⟩, ⟨some 182, none, .bin .lss (.t 180) (.t 181)⟩, ⟨some 22, none, .mv (.t 182)⟩]) (.seq (.ops [⟨some 183, none, .mv (.t 8)⟩, ⟨some 184, none, .mv (.t 11)⟩, ⟨some 185, none, .mv (.t 6)⟩, ⟨some 186, none, .bin .add (.t 184) (.t 185)⟩, ⟨some 187, none, .mv (.t 21)⟩, ⟨some 188, none, .mv (.t 20)⟩, ⟨some 189, none, .bin .sub (.t 187) (.t 188)⟩, ⟨some 190, none, .wrap .u32 (.t 189)⟩, ⟨some 191, none, .ia 1 (.t 183) (.t 186)⟩, ⟨none, none, .st 1 (.t 191) (.t 190)⟩]) (.seq (.seq (.ops [⟨some 192, none, .mv (.t 22)⟩]) (.cond (.t 192) (.seq (.ops [⟨some 193, none, .mv (.t 13)⟩, ⟨some 194, none, .bin .sub (.t 193) (.c (.lit (.int .u64 (Int.ofNat 1))))⟩, ⟨some 13, none, .mv (.t 194)⟩]) (.seq (.ops [⟨some 15, none, .mv (.c (.lit (.int .u64 (Int.ofNat 0))))⟩]) (.seq (.seq (.ops [⟨some 23, none, .mv (.c (.int 0))⟩]) (.block 8 (.loop (.seq (.seq (.ops [⟨some 195, none, .mv (.t 23)⟩, ⟨some 196, none, .mv (.t 6)⟩, ⟨some 197, none, .bin .lss (.t 195) (.t 196)⟩]) (.cond (.t 197) .skip (.exit 8))) (.seq (.block 9 (.seq (.ops [⟨some 200, none, .mv (.t 15)⟩, ⟨some 201, none, .mv (.t 8)⟩, ⟨some 202, none, .mv (.t 11)⟩, ⟨some 203, none, .mv (.t 23)⟩, ⟨some 204, none, .bin .add (.t 202) (.t 203)⟩, ⟨some 205, none, .ia 1 (.t 201) (.t 204)⟩, ⟨some 206, none, .ld none (.t 205)⟩, ⟨some 207, none, .wrap .u64 (.t 206)⟩, ⟨some 208, none, .bin .add (.t 200) (.t 207)⟩, ⟨some 209, none, .mv (.t 9)⟩, ⟨some 210, none, .mv (.t 23)⟩, ⟨some 211, none, .ia 1 (.t 209) (.t 210)⟩, ⟨some 212, none, .ld none (.t 211)⟩, ⟨some 213, none, .wrap .u64 (.t 212)⟩, ⟨some 214, none, .bin .add (.t 208) (.t 213)⟩, ⟨some 15, none, .mv (.t 214)⟩]) (.seq (.ops [⟨some 215, none, .mv (.t 8)⟩, ⟨some 216, none, .mv (.t 11)⟩, ⟨some 217, none, .mv (.t 23)⟩, ⟨some 218, none, .bin .add (.t 216) (.t 217)⟩, ⟨some 219, none, .mv (.t 15)⟩, ⟨some 220, none, .wrap .u32 (.t 219)⟩, ⟨some 221, none, .ia 1 (.t 215) (.t 218)⟩, ⟨none, none, .st 1 (.t 221) (.t 220)⟩]) (.ops [⟨some 222, none, .mv (.t 15)⟩, ⟨some 223, none, .bin .shr (.t 222) (.c (.lit (.int .u64 (Int.ofNat 32))))⟩, ⟨some 15, none, .mv (.t 223)⟩])))) (.ops [⟨some 198, none, .mv (.t 23)⟩, ⟨some 199, none, .bin .add (.t 198) (.c (.int 1))⟩, ⟨some 23, none, .mv (.t 199)⟩])))))) (.ops [⟨some 224, none, .mv (.t 8)⟩, ⟨some 225, none, .mv (.t 11)⟩, ⟨some 226, none, .mv (.t 6)⟩, ⟨some 227, none, .bin .add (.t 225) (.t 226)⟩, ⟨some 228, none, .mv (.t 8)⟩, ⟨some 229, none, .mv (.t 11)⟩, ⟨some 230, none, .mv (.t 6)⟩, ⟨some 231, none, .bin .add (.t 229) (.t 230)⟩, ⟨some 232, none, .ia 1 (.t 228) (.t 231)⟩, ⟨some 233, none, .ld none (.t 232)⟩, ⟨some 234, none, .mv (.t 15)⟩, ⟨some 235, none, .wrap .u32 (.t 234)⟩, ⟨some 236, none, .bin .add (.t 233) (.t 235)⟩, ⟨some 237, none, .ia 1 (.t 224) (.t 227)⟩, ⟨none, none, .st 1 (.t 237) (.t 236)⟩])))) .skip)) (.ops [⟨some 238, none, .mv (.t 10)⟩, ⟨some 239, none, .mv (.t 11)⟩, ⟨some 240, none, .mv (.t 13)⟩, ⟨some 241, none, .wrap .u32 (.t 240)⟩, ⟨some 242, none, .ia 1 (.t 238) (.t 239)⟩, ⟨none, none, .st 1 (.t 242) (.t 241)⟩])))))))))))))) (.ops [⟨some 58, none, .mv (.t 11)⟩, ⟨some 59, none, .bin .sub (.t 58) (.c (.int 1))⟩, ⟨some 11, none, .mv (.t 59)⟩])))))) (.seq (.ops [⟨some 243, none, .mv (.t 6)⟩, ⟨some 244, none, .mk ty_uint32 1 4 [.lit (.int .u32 (Int.ofNat 0))] (.t 243) (.t 243)⟩, ⟨some 24, none, .mv (.t 244)⟩]) (.seq (.seq (.ops [⟨some 25, none, .mv (.c (.int 0))⟩]) (.block 10 (.loop (.seq (.seq (.ops [⟨some 245, none, .mv (.t 25)⟩, ⟨some 246, none, .mv (.t 6)⟩, ⟨some 247, none, .bin .lss (.t 245) (.t 246)⟩]) (.cond (.t 247) .skip (.exit 10))) (.seq (.block 11 (.ops [⟨some 250, none, .mv (.t 24)⟩, ⟨some 251, none, .mv (.t 25)⟩, ⟨some 252, none, .mv (.t 8)⟩, ⟨some 253, none, .mv (.t 25)⟩, ⟨some 254, none, .bin .add (.t 253) (.c (.int 1))⟩, ⟨some 255, none, .ia 1 (.t 252) (.t 254)⟩, ⟨some 256, none, .ld none (.t 255)⟩, ⟨some 257, none, .wrap .u64 (.t 256)⟩, ⟨some 258, none, .bin .shl (.t 257) (.c (.lit (.int .u64 (Int.ofNat 32))))⟩, ⟨some 259, none, .mv (.t 8)⟩, ⟨some 260, none, .mv (.t 25)⟩, ⟨some 261, none, .ia 1 (.t 259) (.t 260)⟩, ⟨some 262, none, .ld none (.t 261)⟩, ⟨some 263, none, .wrap .u64 (.t 262)⟩, ⟨some 264, none, .bin .or (.t 258) (.t 263)⟩, ⟨some 265, none, .mv (.t 7)⟩, ⟨some 266, none, .bin .shr (.t 264) (.t 265)⟩, ⟨some 267, none, .wrap .u32 (.t 266)⟩, ⟨some 268, none, .ia 1 (.t 250) (.t 251)⟩, ⟨none, none, .st 1 (.t 268) (.t 267)⟩])) (.ops [⟨some 248, none, .mv (.t 25)⟩, ⟨some 249, none, .bin .add (.t 248) (.c (.int 1))⟩, ⟨some 25, none, .mv (.t 249)⟩])))))) (.seq (.ops [⟨some 269, none, .mv (.t 10)⟩, ⟨some 270, none, .call fn_ref1_strip [.t 269]⟩, ⟨some 271, none, .mv (.t 24)⟩, ⟨some 272, none, .call fn_ref1_strip [.t 271]⟩, ⟨some 4, none, .mv (.t 270)⟩, ⟨some 5, none, .mv (.t 272)⟩]) .ret)))))))))), [.t 4, .t 5]⟩
def F_bits_Len32 : Fn := ⟨19, .seq (.ops [⟨some 2, none, .mv (.c (.int 0))⟩]) (.seq (.seq (.ops [⟨some 3, none, .mv (.t 0)⟩, ⟨some 4, none, .bin .geq (.t 3) (.c (.lit (.int .u32 (Int.ofNat 65536))))⟩]) (.cond (.t 4) (.seq (.ops [⟨some 5, none, .mv (.t 0)⟩, ⟨some 6, none, .bin .shr (.t 5) (.c (.lit (.int .u64 (Int.ofNat 16))))⟩, ⟨some 0, none, .mv (.t 6)⟩]) (.ops [⟨some 2, none, .mv (.c (.int 16))⟩])) .skip)) (.seq (.seq (.ops [⟨some 7, none, .mv (.t 0)⟩, ⟨some 8, none, .bin .geq (.t 7) (.c (.lit (.int .u32 (Int.ofNat 256))))⟩]) (.cond (.t 8) (.seq (.ops [⟨some 9, none, .mv (.t 0)⟩, ⟨some 10, none, .bin .shr (.t 9) (.c (.lit (.int .u64 (Int.ofNat 8))))⟩, ⟨some 0, none, .mv (.t 10)⟩]) (.ops [⟨some 11, none, .mv (.t 2)⟩, ⟨some 12, none, .bin .add (.t 11) (.c (.int 8))⟩, ⟨some 2, none, .mv (.t 12)⟩])) .skip)) (.seq (.ops [⟨some 13, none, .mv (.t 2)⟩, ⟨some 14, none, .mv (.t 0)⟩, ⟨some 15, none, .wrap .u8 (.t 14)⟩, ⟨some 16, none, .idx (.c (.lit (.string ⟨#[0, 1, 2, 2, 3, 3, 3, 3, 4, 4, 4, 4, 4, 4, 4, 4, 5, 5, 5, 5, 5, 5, 5, 5, 5, 5, 5, 5, 5, 5, 5, 5, 6, 6, 6, 6, 6, 6, 6, 6, 6, 6, 6, 6, 6, 6, 6, 6, 6, 6, 6, 6, 6, 6, 6, 6, 6, 6, 6, 6, 6, 6, 6, 6, 7, 7, 7, 7, 7, 7, 7, 7, 7, 7, 7, 7, 7, 7, 7, 7, 7, 7, 7, 7, 7, 7, 7, 7, 7, 7, 7, 7, 7, 7, 7, 7, 7, 7, 7, 7, 7, 7, 7, 7, 7, 7, 7, 7, 7, 7, 7, 7, 7, 7, 7, 7, 7, 7, 7, 7, 7, 7, 7, 7, 7, 7, 7, 7, 8, 8, 8, 8, 8, 8, 8, 8, 8, 8, 8, 8, 8, 8, 8, 8, 8, 8, 8, 8, 8, 8, 8, 8, 8, 8, 8, 8, 8, 8, 8, 8, 8, 8, 8, 8, 8, 8, 8, 8, 8, 8, 8, 8, 8, 8, 8, 8, 8, 8, 8, 8, 8, 8, 8, 8, 8, 8, 8, 8, 8, 8, 8, 8, 8, 8, 8, 8, 8, 8, 8, 8, 8, 8, 8, 8, 8, 8, 8, 8, 8, 8, 8, 8, 8, 8, 8, 8, 8, 8, 8, 8, 8, 8, 8, 8, 8, 8, 8, 8, 8, 8, 8, 8, 8, 8, 8, 8, 8, 8, 8, 8, 8, 8, 8, 8, 8, 8, 8, 8, 8, 8, 8, 8, 8, 8, 8, 8]⟩))) (.t 15)⟩, ⟨some 17, none, .wrap .i64 (.t 16)⟩, ⟨some 18, none, .bin .add (.t 13) (.t 17)⟩, ⟨some 2, none, .mv (.t 18)⟩]) .ret))), [.t 2]⟩
def F_strings_trimLeftByte : Fn := ⟨17, .seq (.ops [⟨some 4, none, .mv (.c (.lit (.string ⟨#[]⟩)))⟩]) (.seq (.block 0 (.loop (.seq (.seq (.ops [⟨some 5, none, .mv (.t 0)⟩, ⟨some 6, none, .slen (.t 5)⟩, ⟨some 7, none, .bin .gtr (.t 6) (.c (.int 0))⟩, ⟨some 8, none, .mv (.t 7)⟩, ⟨some 9, some (8, true), .mv (.t 0)⟩, ⟨some 10, some (8, true), .idx (.t 9) (.c (.int 0))⟩, ⟨some 11, some (8, true), .mv (.t 1)⟩, ⟨some 12, some (8, true), .bin .eql (.t 10) (.t 11)⟩, ⟨some 13, none, .pick (.t 8) (.t 12) (.c (.lit (.bool false)))⟩]) (.cond (.t 13) .skip (.exit 0))) (.block 1 (.ops [⟨some 14, none, .mv (.t 0)⟩, ⟨some 15, none, .sls (.t 14) (some (.c (.int 1))) none⟩, ⟨some 0, none, .mv (.t 15)⟩]))))) (.seq (.ops [⟨some 16, none, .mv (.t 0)⟩, ⟨some 4, none, .mv (.t 16)⟩]) .ret)), [.t 4]⟩
def F_strings_makeASCIISet : Fn := ⟨21, .seq (.ops [⟨some 2, none, .new [.lit (.bool false), .lit (.bool false), .lit (.bool false), .lit (.bool false), .lit (.bool false), .lit (.bool false), .lit (.bool false), .lit (.bool false), .lit (.bool false), .lit (.bool false), .lit (.bool false), .lit (.bool false), .lit (.bool false), .lit (.bool false), .lit (.bool false), .lit (.bool false), .lit (.bool false), .lit (.bool false), .lit (.bool false), .lit (.bool false), .lit (.bool false), .lit (.bool false), .lit (.bool false), .lit (.bool false), .lit (.bool false), .lit (.bool false), .lit (.bool false), .lit (.bool false), .lit (.bool false), .lit (.bool false), .lit (.bool false), .lit (.bool false), .lit (.bool false), .lit (.bool false), .lit (.bool false), .lit (.bool false), .lit (.bool false), .lit (.bool false), .lit (.bool false), .lit (.bool false), .lit (.bool false), .lit (.bool false), .lit (.bool false), .lit (.bool false), .lit (.bool false), .lit (.bool false), .lit (.bool false), .lit (.bool false), .lit (.bool false), .lit (.bool false), .lit (.bool false), .lit (.bool false), .lit (.bool false), .lit (.bool false), .lit (.bool false), .lit (.bool false), .lit (.bool false), .lit (.bool false), .lit (.bool false), .lit (.bool false), .lit (.bool false), .lit (.bool false), .lit (.bool false), .lit (.bool false), .lit (.bool false), .lit (.bool false), .lit (.bool false), .lit (.bool false), .lit (.bool false), .lit (.bool false), .lit (.bool false), .lit (.bool false), .lit (.bool false), .lit (.bool false), .lit (.bool false), .lit (.bool false), .lit (.bool false), .lit (.bool false), .lit (.bool false), .lit (.bool false), .lit (.bool false), .lit (.bool false), .lit (.bool false), .lit (.bool false), .lit (.bool false), .lit (.bool false), .lit (.bool false), .lit (.bool false), .lit (.bool false), .lit (.bool false), .lit (.bool false), .lit (.bool false), .lit (.bool false), .lit (.bool false), .lit (.bool false), .lit (.bool false), .lit (.bool false), .lit (.bool false), .lit (.bool false), .lit (.bool false), .lit (.bool false), .lit (.bool false), .lit (.bool false), .lit (.bool false), .lit (.bool false), .lit (.bool false), .lit (.bool false), .lit (.bool false), .lit (.bool false), .lit (.bool false), .lit (.bool false), .lit (.bool false), .lit (.bool false), .lit (.bool false), .lit (.bool false), .lit (.bool false), .lit (.bool false), .lit (.bool false), .lit (.bool false), .lit (.bool false), .lit (.bool false), .lit (.bool false), .lit (.bool false), .lit (.bool false), .lit (.bool false), .lit (.bool false), .lit (.bool false), .lit (.bool false), .lit (.bool false), .lit (.bool false), .lit (.bool false), .lit (.bool false), .lit (.bool false), .lit (.bool false), .lit (.bool false), .lit (.bool false), .lit (.bool false), .lit (.bool false), .lit (.bool false), .lit (.bool false), .lit (.bool false), .lit (.bool false), .lit (.bool false), .lit (.bool false), .lit (.bool false), .lit (.bool false), .lit (.bool false), .lit (.bool false), .lit (.bool false), .lit (.bool false), .lit (.bool false), .lit (.bool false), .lit (.bool false), .lit (.bool false), .lit (.bool false), .lit (.bool false), .lit (.bool false), .lit (.bool false), .lit (.bool false), .lit (.bool false), .lit (.bool false), .lit (.bool false), .lit (.bool false), .lit (.bool false), .lit (.bool false), .lit (.bool false), .lit (.bool false), .lit (.bool false), .lit (.bool false), .lit (.bool false), .lit (.bool false), .lit (.bool false), .lit (.bool false), .lit (.bool false), .lit (.bool false), .lit (.bool false), .lit (.bool false), .lit (.bool false), .lit (.bool false), .lit (.bool false), .lit (.bool false), .lit (.bool false), .lit (.bool false), .lit (.bool false), .lit (.bool false), .lit (.bool false), .lit (.bool false), .lit (.bool false), .lit (.bool false), .lit (.bool false), .lit (.bool false), .lit (.bool false), .lit (.bool false), .lit (.bool false), .lit (.bool false), .lit (.bool false), .lit (.bool false), .lit (.bool false), .lit (.bool false), .lit (.bool false), .lit (.bool false), .lit (.bool false), .lit (.bool false), .lit (.bool false), .lit (.bool false), .lit (.bool false), .lit (.bool false), .lit (.bool false), .lit (.bool false), .lit (.bool false), .lit (.bool false), .lit (.bool false), .lit (.bool false), .lit (.bool false), .lit (.bool false), .lit (.bool false), .lit (.bool false), .lit (.bool false), .lit (.bool false), .lit (.bool false), .lit (.bool false), .lit (.bool false), .lit (.bool false), .lit (.bool false), .lit (.bool false), .lit (.bool false), .lit (.bool false), .lit (.bool false), .lit (.bool false), .lit (.bool false), .lit (.bool false), .lit (.bool false), .lit (.bool false), .lit (.bool false), .lit (.bool false), .lit (.bool false), .lit (.bool false), .lit (.bool false), .lit (.bool false), .lit (.bool false), .lit (.bool false), .lit (.bool false), .lit (.bool false), .lit (.bool false), .lit (.bool false), .lit (.bool false), .lit (.bool false), .lit (.bool false), .lit (.bool false), .lit (.bool false), .lit (.bool false), .lit (.bool false), .lit (.bool false), .lit (.bool false), .lit (.bool false), .lit (.bool false)] ty_strings_asciiSet⟩, ⟨some 3, none, .mv (.c (.lit (.bool false)))⟩]) (.seq (.seq (.ops [⟨some 4, none, .mv (.c (.int 0))⟩]) (.block 0 (.loop (.seq (.seq (.ops [⟨some 6, none, .mv (.t 4)⟩, ⟨some 7, none, .mv (.t 0)⟩, ⟨some 8, none, .slen (.t 7)⟩, ⟨some 9, none, .bin .lss (.t 6) (.t 8)⟩]) (.cond (.t 9) .skip (.exit 0))) (.seq (.block 1 (.seq (.ops [⟨some 12, none, .mv (.t 0)⟩, ⟨some 13, none, .mv (.t 4)⟩, ⟨some 14, none, .idx (.t 12) (.t 13)⟩, ⟨some 5, none, .mv (.t 14)⟩]) (.seq (.seq (.ops [⟨some 15, none, .mv (.t 5)⟩, ⟨some 16, none, .bin .geq (.t 15) (.c (.lit (.int .u8 (Int.ofNat 128))))⟩]) (.cond (.t 16) (.seq (.ops [⟨some 17, none, .ld (some 256) (.t 2)⟩, ⟨none, none, .st 256 (.t 2) (.t 17)⟩, ⟨some 3, none, .mv (.c (.lit (.bool false)))⟩]) .ret) .skip)) (.ops [⟨some 18, none, .mv (.t 5)⟩, ⟨some 19, none, .iaa 1 256 (.t 2) (.t 18)⟩, ⟨none, none, .st 1 (.t 19) (.c (.lit (.bool true)))⟩])))) (.ops [⟨some 10, none, .mv (.t 4)⟩, ⟨some 11, none, .bin .add (.t 10) (.c (.int 1))⟩, ⟨some 4, none, .mv (.t 11)⟩])))))) (.seq (.ops [⟨some 20, none, .ld (some 256) (.t 2)⟩, ⟨none, none, .st 256 (.t 2) (.t 20)⟩, ⟨some 3, none, .mv (.c (.lit (.bool true)))⟩]) .ret)), [.cell 2 (some 256), .t 3]⟩
def F_strings_trimLeftASCII : Fn := ⟨16, .seq (.ops [⟨some 4, none, .mv (.c (.lit (.string ⟨#[]⟩)))⟩]) (.seq (.block 0 (.loop (.seq (.seq (.ops [⟨some 5, none, .mv (.t 0)⟩, ⟨some 6, none, .slen (.t 5)⟩, ⟨some 7, none, .bin .gtr (.t 6) (.c (.int 0))⟩]) (.cond (.t 7) .skip (.exit 0))) (.block 1 (.seq (.seq (.ops [⟨some 8, none, .mv (.t 1)⟩, ⟨some 9, none, .mv (.t 0)⟩, ⟨some 10, none, .idx (.t 9) (.c (.int 0))⟩, ⟨some 11, none, .call fn_strings_asciiSet_contains [.t 8, .t 10]⟩, ⟨some 12, none, .un .not (.t 11)⟩]) (.cond (.t 12) (.exit 0) .skip)) (.ops [⟨some 13, none, .mv (.t 0)⟩, ⟨some 14, none, .sls (.t 13) (some (.c (.int 1))) none⟩, ⟨some 0, none, .mv (.t 14)⟩])))))) (.seq (.ops [⟨some 15, none, .mv (.t 0)⟩, ⟨some 4, none, .mv (.t 15)⟩]) .ret)), [.t 4]⟩
def F_strings_trimLeftUnicode : Fn := ⟨23, .seq (.ops [⟨some 4, none, .mv (.c (.lit (.string ⟨#[]⟩)))⟩]) (.seq (.block 0 (.loop (.seq (.seq (.ops [⟨some 7, none, .mv (.t 0)⟩, ⟨some 8, none, .slen (.t 7)⟩, ⟨some 9, none, .bin .gtr (.t 8) (.c (.int 0))⟩]) (.cond (.t 9) .skip (.exit 0))) (.block 1 (.seq (.ops [⟨some 11, none, .mv (.t 0)⟩, ⟨some 12, none, .call fn_utf8_DecodeRuneInString [.t 11]⟩, ⟨some 10, none, .mv (.t 12)⟩, ⟨some 13, none, .ext 0 (.t 10)⟩, ⟨some 14, none, .ext 1 (.t 10)⟩, ⟨some 5, none, .mv (.t 13)⟩, ⟨some 6, none, .mv (.t 14)⟩]) (.seq (.seq (.ops [⟨some 15, none, .mv (.t 1)⟩, ⟨some 16, none, .mv (.t 5)⟩, ⟨some 17, none, .call fn_strings_ContainsRune [.t 15, .t 16]⟩, ⟨some 18, none, .un .not (.t 17)⟩]) (.cond (.t 18) (.exit 0) .skip)) (.ops [⟨some 19, none, .mv (.t 0)⟩, ⟨some 20, none, .mv (.t 6)⟩, ⟨some 21, none, .sls (.t 19) (some (.t 20)) none⟩, ⟨some 0, none, .mv (.t 21)⟩]))))))) (.seq (.ops [⟨some 22, none, .mv (.t 0)⟩, ⟨some 4, none, .mv (.t 22)⟩]) .ret)), [.t 4]⟩
def F_bits_Sub32 : Fn := ⟨25, .seq (.ops [⟨some 6, none, .mv (.c (.lit (.int .u32 (Int.ofNat 0))))⟩, ⟨some 7, none, .mv (.c (.lit (.int .u32 (Int.ofNat 0))))⟩]) (.seq (.ops [⟨some 8, none, .mv (.t 0)⟩, ⟨some 9, none, .mv (.t 1)⟩, ⟨some 10, none, .bin .sub (.t 8) (.t 9)⟩, ⟨some 11, none, .mv (.t 2)⟩, ⟨some 12, none, .bin .sub (.t 10) (.t 11)⟩, ⟨some 6, none, .mv (.t 12)⟩]) (.seq (.ops [⟨some 13, none, .mv (.t 0)⟩, ⟨some 14, none, .un .xor (.t 13)⟩, ⟨some 15, none, .mv (.t 1)⟩, ⟨some 16, none, .bin .and (.t 14) (.t 15)⟩, ⟨some 17, none, .mv (.t 0)⟩, ⟨some 18, none, .mv (.t 1)⟩, ⟨some 19, none, .bin .xor (.t 17) (.t 18)⟩, ⟨some 20, none, .un .xor (.t 19)⟩, ⟨some 21, none, .mv (.t 6)⟩, ⟨some 22, none, .bin .and (.t 20) (.t 21)⟩, ⟨some 23, none, .bin .or (.t 16) (.t 22)⟩, ⟨some 24, none, .bin .shr (.t 23) (.c (.lit (.int .u64 (Int.ofNat 31))))⟩, ⟨some 7, none, .mv (.t 24)⟩]) .ret)), [.t 6, .t 7]⟩
def F_natural_divideSmall : Fn := ⟨44, .seq (.ops [⟨some 4, none, .mv (.c (.lit (.slice none 0 0)))⟩, ⟨some 5, none, .mv (.c (.lit (.int .u32 (Int.ofNat 0))))⟩]) (.seq (.ops [⟨some 10, none, .mv (.t 0)⟩, ⟨some 11, none, .len (.t 10)⟩, ⟨some 12, none, .mk ty_uint32 1 4 [.lit (.int .u32 (Int.ofNat 0))] (.t 11) (.t 11)⟩, ⟨some 6, none, .mv (.t 12)⟩]) (.seq (.ops [⟨some 7, none, .mv (.c (.lit (.int .u64 (Int.ofNat 0))))⟩]) (.seq (.seq (.ops [⟨some 13, none, .mv (.t 0)⟩, ⟨some 14, none, .len (.t 13)⟩, ⟨some 15, none, .bin .sub (.t 14) (.c (.int 1))⟩, ⟨some 8, none, .mv (.t 15)⟩]) (.block 0 (.loop (.seq (.seq (.ops [⟨some 16, none, .mv (.t 8)⟩, ⟨some 17, none, .bin .geq (.t 16) (.c (.int 0))⟩]) (.cond (.t 17) .skip (.exit 0))) (.seq (.block 1 (.seq (.ops [⟨some 20, none, .mv (.t 7)⟩, ⟨some 21, none, .bin .shl (.t 20) (.c (.lit (.int .u64 (Int.ofNat 32))))⟩, ⟨some 22, none, .mv (.t 0)⟩, ⟨some 23, none, .mv (.t 8)⟩, ⟨some 24, none, .ia 1 (.t 22) (.t 23)⟩, ⟨some 25, none, .ld none (.t 24)⟩, ⟨some 26, none, .wrap .u64 (.t 25)⟩, ⟨some 27, none, .bin .or (.t 21) (.t 26)⟩, ⟨some 9, none, .mv (.t 27)⟩]) (.seq (.ops [⟨some 28, none, .mv (.t 6)⟩, ⟨some 29, none, .mv (.t 8)⟩, ⟨some 30, none, .mv (.t 9)⟩, ⟨some 31, none, .mv (.t 1)⟩, ⟨some 32, none, .wrap .u64 (.t 31)⟩, ⟨some 33, none, .bin .quo (.t 30) (.t 32)⟩, ⟨some 34, none, .wrap .u32 (.t 33)⟩, ⟨some 35, none, .ia 1 (.t 28) (.t 29)⟩, ⟨none, none, .st 1 (.t 35) (.t 34)⟩]) (.ops [⟨some 36, none, .mv (.t 9)⟩, ⟨some 37, none, .mv (.t 1)⟩, ⟨some 38, none, .wrap .u64 (.t 37)⟩, ⟨some 39, none, .bin .rem (.t 36) (.t 38)⟩, ⟨some 7, none, .mv (.t 39)⟩])))) (.ops [⟨some 18, none, .mv (.t 8)⟩, ⟨some 19, none, .bin .sub (.t 18) (.c (.int 1))⟩, ⟨some 8, none, .mv (.t 19)⟩])))))) (.seq (.ops [⟨some 40, none, .mv (.t 6)⟩, ⟨some 41, none, .call fn_natural_limbs_trim [.t 40]⟩, ⟨some 42, none, .mv (.t 7)⟩, ⟨some 43, none, .wrap .u32 (.t 42)⟩, ⟨some 4, none, .mv (.t 41)⟩, ⟨some 5, none, .mv (.t 43)⟩]) .ret)))), [.t 4, .t 5]⟩
def F_bits_LeadingZeros32 : Fn := ⟨6, .seq (.ops [⟨some 2, none, .mv (.c (.int 0))⟩]) (.seq (.ops [⟨some 3, none, .mv (.t 0)⟩, ⟨some 4, none, .call fn_bits_Len32 [.t 3]⟩, ⟨some 5, none, .bin .sub (.c (.int 32)) (.t 4)⟩, ⟨some 2, none, .mv (.t 5)⟩]) .ret), [.t 2]⟩
def F_natural_shift : Fn := ⟨48, .seq (.ops [⟨some 6, none, .mv (.c (.lit (.slice none 0 0)))⟩]) (.seq (.ops [⟨some 11, none, .mv (.t 2)⟩, ⟨some 12, none, .mk ty_uint32 1 4 [.lit (.int .u32 (Int.ofNat 0))] (.t 11) (.t 11)⟩, ⟨some 7, none, .mv (.t 12)⟩]) (.seq (.seq (.ops [⟨some 13, none, .mv (.t 0)⟩, ⟨some 14, none, .len (.t 13)⟩, ⟨some 15, none, .mv (.c (.int 0))⟩]) (.block 0 (.loop (.seq (.ops [⟨some 16, none, .bin .lss (.t 15) (.t 14)⟩]) (.seq (.cond (.t 16) .skip (.exit 0)) (.seq (.block 1 (.seq (.ops [⟨some 17, none, .mv (.t 15)⟩, ⟨some 18, none, .ia 1 (.t 13) (.t 15)⟩, ⟨some 19, none, .ld none (.t 18)⟩, ⟨some 8, none, .mv (.t 17)⟩, ⟨some 9, none, .mv (.t 19)⟩]) (.seq (.ops [⟨some 20, none, .mv (.t 9)⟩, ⟨some 21, none, .wrap .u64 (.t 20)⟩, ⟨some 22, none, .mv (.t 1)⟩, ⟨some 23, none, .bin .shl (.t 21) (.t 22)⟩, ⟨some 10, none, .mv (.t 23)⟩]) (.seq (.ops [⟨some 24, none, .mv (.t 7)⟩, ⟨some 25, none, .mv (.t 8)⟩, ⟨some 26, none, .ia 1 (.t 24) (.t 25)⟩, ⟨some 27, none, .ld none (.t 26)⟩, ⟨some 28, none, .mv (.t 10)⟩, ⟨some 29, none, .wrap .u32 (.t 28)⟩, ⟨some 30, none, .bin .or (.t 27) (.t 29)⟩, ⟨some 31, none, .ia 1 (.t 24) (.t 25)⟩, ⟨none, none, .st 1 (.t 31) (.t 30)⟩]) (.seq (.ops [⟨some 32, none, .mv (.t 8)⟩, ⟨some 33, none, .bin .add (.t 32) (.c (.int 1))⟩, ⟨some 34, none, .mv (.t 2)⟩, ⟨some 35, none, .bin .lss (.t 33) (.t 34)⟩]) (.cond (.t 35) (.ops [⟨some 36, none, .mv (.t 7)⟩, ⟨some 37, none, .mv (.t 8)⟩, ⟨some 38, none, .bin .add (.t 37) (.c (.int 1))⟩, ⟨some 39, none, .ia 1 (.t 36) (.t 38)⟩, ⟨some 40, none, .ld none (.t 39)⟩, ⟨some 41, none, .mv (.t 10)⟩, ⟨some 42, none, .bin .shr (.t 41) (.c (.lit (.int .u64 (Int.ofNat 32))))⟩, ⟨some 43, none, .wrap .u32 (.t 42)⟩, ⟨some 44, none, .bin .or (.t 40) (.t 43)⟩, ⟨some 45, none, .ia 1 (.t 36) (.t 38)⟩, ⟨none, none, .st 1 (.t 45) (.t 44)⟩]) .skip)))))) (.ops [⟨some 46, none, .bin .add (.t 15) (.c (.int 1))⟩, ⟨some 15, none, .mv (.t 46)⟩]))))))) (.seq (.ops [⟨some 47, none, .mv (.t 7)⟩, ⟨some 6, none, .mv (.t 47)⟩]) .ret))), [.t 6]⟩
def F_natural_step : Fn := ⟨161, .seq (.ops [⟨some 4, none, .mv (.c (.lit (.int .u32 (Int.ofNat 0))))⟩]) (.seq (.ops [⟨some 17, none, .mv (.t 1)⟩, ⟨some 18, none, .len (.t 17)⟩, ⟨some 5, none, .mv (.t 18)⟩]) (.seq (.ops [⟨some 19, none, .mv (.t 0)⟩, ⟨some 20, none, .mv (.t 5)⟩, ⟨some 21, none, .ia 1 (.t 19) (.t 20)⟩, ⟨some 22, none, .ld none (.t 21)⟩, ⟨some 23, none, .wrap .u64 (.t 22)⟩, ⟨some 24, none, .bin .shl (.t 23) (.c (.lit (.int .u64 (Int.ofNat 32))))⟩, ⟨some 25, none, .mv (.t 0)⟩, ⟨some 26, none, .mv (.t 5)⟩, ⟨some 27, none, .bin .sub (.t 26) (.c (.int 1))⟩, ⟨some 28, none, .ia 1 (.t 25) (.t 27)⟩, ⟨some 29, none, .ld none (.t 28)⟩, ⟨some 30, none, .wrap .u64 (.t 29)⟩, ⟨some 31, none, .bin .or (.t 24) (.t 30)⟩, ⟨some 6, none, .mv (.t 31)⟩]) (.seq (.ops [⟨some 32, none, .mv (.t 6)⟩, ⟨some 33, none, .mv (.t 1)⟩, ⟨some 34, none, .mv (.t 5)⟩, ⟨some 35, none, .bin .sub (.t 34) (.c (.int 1))⟩, ⟨some 36, none, .ia 1 (.t 33) (.t 35)⟩, ⟨some 37, none, .ld none (.t 36)⟩, ⟨some 38, none, .wrap .u64 (.t 37)⟩, ⟨some 39, none, .bin .quo (.t 32) (.t 38)⟩, ⟨some 40, none, .mv (.t 6)⟩, ⟨some 41, none, .mv (.t 1)⟩, ⟨some 42, none, .mv (.t 5)⟩, ⟨some 43, none, .bin .sub (.t 42) (.c (.int 1))⟩, ⟨some 44, none, .ia 1 (.t 41) (.t 43)⟩, ⟨some 45, none, .ld none (.t 44)⟩, ⟨some 46, none, .wrap .u64 (.t 45)⟩, ⟨some 47, none, .bin .rem (.t 40) (.t 46)⟩, ⟨some 7, none, .mv (.t 39)⟩, ⟨some 8, none, .mv (.t 47)⟩]) (.seq (.block 0 (.loop (.seq (.seq (.ops [⟨some 48, none, .mv (.t 7)⟩, ⟨some 49, none, .bin .geq (.t 48) (.c (.lit (.int .u64 (Int.ofNat 4294967296))))⟩, ⟨some 50, none, .mv (.t 49)⟩, ⟨some 51, some (50, false), .mv (.t 7)⟩, ⟨some 52, some (50, false), .mv (.t 1)⟩, ⟨some 53, some (50, false), .mv (.t 5)⟩, ⟨some 54, some (50, false), .bin .sub (.t 53) (.c (.int 2))⟩, ⟨some 55, some (50, false), .ia 1 (.t 52) (.t 54)⟩, ⟨some 56, some (50, false), .ld none (.t 55)⟩, ⟨some 57, some (50, false), .wrap .u64 (.t 56)⟩, ⟨some 58, some (50, false), .bin .mul (.t 51) (.t 57)⟩, ⟨some 59, some (50, false), .mv (.t 8)⟩, ⟨some 60, some (50, false), .bin .shl (.t 59) (.c (.lit (.int .u64 (Int.ofNat 32))))⟩, ⟨some 61, some (50, false), .mv (.t 0)⟩, ⟨some 62, some (50, false), .mv (.t 5)⟩, ⟨some 63, some (50, false), .bin .sub (.t 62) (.c (.int 2))⟩, ⟨some 64, some (50, false), .ia 1 (.t 61) (.t 63)⟩, ⟨some 65, some (50, false), .ld none (.t 64)⟩, ⟨some 66, some (50, false), .wrap .u64 (.t 65)⟩, ⟨some 67, some (50, false), .bin .or (.t 60) (.t 66)⟩, ⟨some 68, some (50, false), .bin .gtr (.t 58) (.t 67)⟩, ⟨some 69, none, .pick (.t 50) (.c (.lit (.bool true))) (.t 68)⟩]) (.cond (.t 69) .skip (.exit 0))) (.block 1 (.seq (.ops [⟨some 70, none, .mv (.t 7)⟩, ⟨some 71, none, .bin .sub (.t 70) (.c (.lit (.int .u64 (Int.ofNat 1))))⟩, ⟨some 7, none, .mv (.t 71)⟩]) (.seq (.ops [⟨some 72, none, .mv (.t 8)⟩, ⟨some 73, none, .mv (.t 1)⟩, ⟨some 74, none, .mv (.t 5)⟩, ⟨some 75, none, .bin .sub (.t 74) (.c (.int 1))⟩, ⟨some 76, none, .ia 1 (.t 73) (.t 75)⟩, ⟨some 77, none, .ld none (.t 76)⟩, ⟨some 78, none, .wrap .u64 (.t 77)⟩, ⟨some 79, none, .bin .add (.t 72) (.t 78)⟩, ⟨some 8, none, .mv (.t 79)⟩]) (.seq (.ops [⟨some 80, none, .mv (.t 8)⟩, ⟨some 81, none, .bin .geq (.t 80) (.c (.lit (.int .u64 (Int.ofNat 4294967296))))⟩]) (.cond (.t 81) (.exit 0) .skip)))))))) (.seq (.ops [⟨some 9, none, .mv (.c (.lit (.int .u64 (Int.ofNat 0))))⟩, ⟨some 10, none, .mv (.c (.lit (.int .u32 (Int.ofNat 0))))⟩]) (.seq (.seq (.ops [⟨some 82, none, .mv (.t 1)⟩, ⟨some 83, none, .len (.t 82)⟩, ⟨some 84, none, .mv (.c (.int 0))⟩]) (.block 2 (.loop (.seq (.ops [⟨some 85, none, .bin .lss (.t 84) (.t 83)⟩]) (.seq (.cond (.t 85) .skip (.exit 2)) (.seq (.block 3 (.seq (.ops [⟨some 86, none, .mv (.t 84)⟩, ⟨some 87, none, .ia 1 (.t 82) (.t 84)⟩, ⟨some 88, none, .ld none (.t 87)⟩, ⟨some 11, none, .mv (.t 86)⟩, ⟨some 12, none, .mv (.t 88)⟩]) (.seq (.ops [⟨some 89, none, .mv (.t 7)⟩, ⟨some 90, none, .mv (.t 12)⟩, ⟨some 91, none, .wrap .u64 (.t 90)⟩, ⟨some 92, none, .bin .mul (.t 89) (.t 91)⟩, ⟨some 93, none, .mv (.t 9)⟩, ⟨some 94, none, .bin .add (.t 92) (.t 93)⟩, ⟨some 13, none, .mv (.t 94)⟩]) (.seq (.ops [⟨some 95, none, .mv (.t 13)⟩, ⟨some 96, none, .bin .shr (.t 95) (.c (.lit (.int .u64 (Int.ofNat 32))))⟩, ⟨some 9, none, .mv (.t 96)⟩]) (.ops [⟨some 98, none, .mv (.t 0)⟩, ⟨some 99, none, .mv (.t 11)⟩, ⟨some 100, none, .mv (.t 0)⟩, ⟨some 101, none, .mv (.t 11)⟩, ⟨some 102, none, .ia 1 (.t 100) (.t 101)⟩, ⟨some 103, none, .ld none (.t 102)⟩, ⟨some 104, none, .mv (.t 13)⟩, ⟨some 105, none, .wrap .u32 (.t 104)⟩, ⟨some 106, none, .mv (.t 10)⟩, ⟨some 107, none, .call fn_bits_Sub32 [.t 103, .t 105, .t 106]⟩, ⟨some 97, none, .mv (.t 107)⟩, ⟨some 108, none, .ext 0 (.t 97)⟩, ⟨some 109, none, .ext 1 (.t 97)⟩, ⟨some 110, none, .ia 1 (.t 98) (.t 99)⟩, ⟨none, none, .st 1 (.t 110) (.t 108)⟩, ⟨some 10, none, .mv (.t 109)⟩]))))) (.ops [⟨some 111, none, .bin .add (.t 84) (.c (.int 1))⟩, ⟨some 84, none, .mv (.t 111)⟩]))))))) (.seq (.ops [⟨some 113, none, .mv (.t 0)⟩, ⟨some 114, none, .mv (.t 5)⟩, ⟨some 115, none, .mv (.t 0)⟩, ⟨some 116, none, .mv (.t 5)⟩, ⟨some 117, none, .ia 1 (.t 115) (.t 116)⟩, ⟨some 118, none, .ld none (.t 117)⟩, ⟨some 119, none, .mv (.t 9)⟩, ⟨some 120, none, .wrap .u32 (.t 119)⟩, ⟨some 121, none, .mv (.t 10)⟩, ⟨some 122, none, .call fn_bits_Sub32 [.t 118, .t 120, .t 121]⟩, ⟨some 112, none, .mv (.t 122)⟩, ⟨some 123, none, .ext 0 (.t 112)⟩, ⟨some 124, none, .ext 1 (.t 112)⟩, ⟨some 125, none, .ia 1 (.t 113) (.t 114)⟩, ⟨none, none, .st 1 (.t 125) (.t 123)⟩, ⟨some 10, none, .mv (.t 124)⟩]) (.seq (.seq (.ops [⟨some 126, none, .mv (.t 10)⟩, ⟨some 127, none, .bin .eql (.t 126) (.c (.lit (.int .u32 (Int.ofNat 0))))⟩]) (.cond (.t 127) (.seq (.ops [⟨some 128, none, .mv (.t 7)⟩, ⟨some 129, none, .wrap .u32 (.t 128)⟩, ⟨some 4, none, .mv (.t 129)⟩]) .ret) .skip)) (.seq (.ops [⟨some 14, none, .mv (.c (.lit (.int .u32 (Int.ofNat 0))))⟩]) (.seq (.seq (.ops [⟨some 130, none, .mv (.t 1)⟩, ⟨some 131, none, .len (.t 130)⟩, ⟨some 132, none, .mv (.c (.int 0))⟩]) (.block 4 (.loop (.seq (.ops [⟨some 133, none, .bin .lss (.t 132) (.t 131)⟩]) (.seq (.cond (.t 133) .skip (.exit 4)) (.seq (.block 5 (.seq (.ops [⟨some 134, none, .mv (.t 132)⟩, ⟨some 135, none, .ia 1 (.t 130) (.t 132)⟩, ⟨some 136, none, .ld none (.t 135)⟩, ⟨some 15, none, .mv (.t 134)⟩, ⟨some 16, none, .mv (.t 136)⟩]) (.ops [⟨some 138, none, .mv (.t 0)⟩, ⟨some 139, none, .mv (.t 15)⟩, ⟨some 140, none, .mv (.t 0)⟩, ⟨some 141, none, .mv (.t 15)⟩, ⟨some 142, none, .ia 1 (.t 140) (.t 141)⟩, ⟨some 143, none, .ld none (.t 142)⟩, ⟨some 144, none, .mv (.t 16)⟩, ⟨some 145, none, .mv (.t 14)⟩, ⟨some 146, none, .call fn_bits_Add32 [.t 143, .t 144, .t 145]⟩, ⟨some 137, none, .mv (.t 146)⟩, ⟨some 147, none, .ext 0 (.t 137)⟩, ⟨some 148, none, .ext 1 (.t 137)⟩, ⟨some 149, none, .ia 1 (.t 138) (.t 139)⟩, ⟨none, none, .st 1 (.t 149) (.t 147)⟩, ⟨some 14, none, .mv (.t 148)⟩]))) (.ops [⟨some 150, none, .bin .add (.t 132) (.c (.int 1))⟩, ⟨some 132, none, .mv (.t 150)⟩]))))))) (.seq (.ops [⟨some 151, none, .mv (.t 0)⟩, ⟨some 152, none, .mv (.t 5)⟩, ⟨some 153, none, .ia 1 (.t 151) (.t 152)⟩, ⟨some 154, none, .ld none (.t 153)⟩, ⟨some 155, none, .mv (.t 14)⟩, ⟨some 156, none, .bin .add (.t 154) (.t 155)⟩, ⟨some 157, none, .ia 1 (.t 151) (.t 152)⟩, ⟨none, none, .st 1 (.t 157) (.t 156)⟩]) (.seq (.ops [⟨some 158, none, .mv (.t 7)⟩, ⟨some 159, none, .bin .sub (.t 158) (.c (.lit (.int .u64 (Int.ofNat 1))))⟩, ⟨some 160, none, .wrap .u32 (.t 159)⟩, ⟨some 4, none, .mv (.t 160)⟩]) .ret)))))))))))), [.t 4]⟩
def F_natural_unshift : Fn := ⟨45, .seq (.ops [⟨some 4, none, .mv (.c (.lit (.slice none 0 0)))⟩]) (.seq (.ops [⟨some 8, none, .mv (.t 0)⟩, ⟨some 9, none, .len (.t 8)⟩, ⟨some 10, none, .mk ty_uint32 1 4 [.lit (.int .u32 (Int.ofNat 0))] (.t 9) (.t 9)⟩, ⟨some 5, none, .mv (.t 10)⟩]) (.seq (.seq (.ops [⟨some 11, none, .mv (.t 0)⟩, ⟨some 12, none, .len (.t 11)⟩, ⟨some 13, none, .mv (.c (.int 0))⟩]) (.block 0 (.loop (.seq (.ops [⟨some 14, none, .bin .lss (.t 13) (.t 12)⟩]) (.seq (.cond (.t 14) .skip (.exit 0)) (.seq (.block 1 (.seq (.ops [⟨some 15, none, .mv (.t 13)⟩, ⟨some 6, none, .mv (.t 15)⟩]) (.seq (.ops [⟨some 16, none, .mv (.t 0)⟩, ⟨some 17, none, .mv (.t 6)⟩, ⟨some 18, none, .ia 1 (.t 16) (.t 17)⟩, ⟨some 19, none, .ld none (.t 18)⟩, ⟨some 20, none, .wrap .u64 (.t 19)⟩, ⟨some 7, none, .mv (.t 20)⟩]) (.seq (.seq (.ops [⟨some 21, none, .mv (.t 6)⟩, ⟨some 22, none, .bin .add (.t 21) (.c (.int 1))⟩, ⟨some 23, none, .mv (.t 0)⟩, ⟨some 24, none, .len (.t 23)⟩, ⟨some 25, none, .bin .lss (.t 22) (.t 24)⟩]) (.cond (.t 25) (.ops [⟨some 26, none, .mv (.t 7)⟩, ⟨some 27, none, .mv (.t 0)⟩, ⟨some 28, none, .mv (.t 6)⟩, ⟨some 29, none, .bin .add (.t 28) (.c (.int 1))⟩, ⟨some 30, none, .ia 1 (.t 27) (.t 29)⟩, ⟨some 31, none, .ld none (.t 30)⟩, ⟨some 32, none, .wrap .u64 (.t 31)⟩, ⟨some 33, none, .bin .shl (.t 32) (.c (.lit (.int .u64 (Int.ofNat 32))))⟩, ⟨some 34, none, .bin .or (.t 26) (.t 33)⟩, ⟨some 7, none, .mv (.t 34)⟩]) .skip)) (.ops [⟨some 35, none, .mv (.t 5)⟩, ⟨some 36, none, .mv (.t 6)⟩, ⟨some 37, none, .mv (.t 7)⟩, ⟨some 38, none, .mv (.t 1)⟩, ⟨some 39, none, .bin .shr (.t 37) (.t 38)⟩, ⟨some 40, none, .wrap .u32 (.t 39)⟩, ⟨some 41, none, .ia 1 (.t 35) (.t 36)⟩, ⟨none, none, .st 1 (.t 41) (.t 40)⟩]))))) (.ops [⟨some 42, none, .bin .add (.t 13) (.c (.int 1))⟩, ⟨some 13, none, .mv (.t 42)⟩]))))))) (.seq (.ops [⟨some 43, none, .mv (.t 5)⟩, ⟨some 44, none, .call fn_natural_limbs_trim [.t 43]⟩, ⟨some 4, none, .mv (.t 44)⟩]) .ret))), [.t 4]⟩
def F_linear_pivot : Fn := ⟨25, .seq (.ops [⟨some 6, none, .mv (.c (.int 0))⟩]) (.seq (.seq (.ops [⟨some 8, none, .mv (.t 1)⟩, ⟨some 7, none, .mv (.t 8)⟩]) (.block 0 (.loop (.seq (.seq (.ops [⟨some 9, none, .mv (.t 7)⟩, ⟨some 10, none, .mv (.t 0)⟩, ⟨some 11, none, .len (.t 10)⟩, ⟨some 12, none, .bin .lss (.t 9) (.t 11)⟩]) (.cond (.t 12) .skip (.exit 0))) (.seq (.block 1 (.seq (.ops [⟨some 15, none, .mv (.t 0)⟩, ⟨some 16, none, .mv (.t 7)⟩, ⟨some 17, none, .ia 1 (.t 15) (.t 16)⟩, ⟨some 18, none, .ld none (.t 17)⟩, ⟨some 19, none, .mv (.t 2)⟩, ⟨some 20, none, .ia 3 (.t 18) (.t 19)⟩, ⟨some 21, none, .ld (some 3) (.t 20)⟩, ⟨some 22, none, .call fn_linear_isZero [.t 21]⟩, ⟨some 23, none, .un .not (.t 22)⟩]) (.cond (.t 23) (.seq (.ops [⟨some 24, none, .mv (.t 7)⟩, ⟨some 6, none, .mv (.t 24)⟩]) .ret) .skip))) (.ops [⟨some 13, none, .mv (.t 7)⟩, ⟨some 14, none, .bin .add (.t 13) (.c (.int 1))⟩, ⟨some 7, none, .mv (.t 14)⟩])))))) (.seq (.ops [⟨some 6, none, .mv (.c (.lit (.int .i64 (Int.negSucc 0))))⟩]) .ret)), [.t 6]⟩
def F_linear_isZero : Fn := ⟨6, .seq (.ops [⟨some 1, none, .box (.t 0) ty_api_Rat⟩, ⟨some 2, none, .mv (.c (.lit (.bool false)))⟩]) (.seq (.ops [⟨some 3, none, .off 1 (.t 1)⟩, ⟨some 4, none, .ld none (.t 3)⟩, ⟨some 5, none, .bin .eql (.t 4) (.c (.lit (.string ⟨#[]⟩)))⟩, ⟨some 2, none, .mv (.t 5)⟩]) .ret), [.t 2]⟩
def F_linear_minus : Fn := ⟨33, .seq (.ops [⟨some 5, none, .box (.t 2) ty_api_Rat⟩]) (.seq (.ops [⟨some 7, none, .mv (.t 0)⟩, ⟨some 8, none, .len (.t 7)⟩, ⟨some 9, none, .mv (.c (.int 0))⟩]) (.block 0 (.loop (.seq (.ops [⟨some 10, none, .bin .lss (.t 9) (.t 8)⟩]) (.seq (.cond (.t 10) .skip (.exit 0)) (.seq (.block 1 (.seq (.ops [⟨some 11, none, .mv (.t 9)⟩, ⟨some 6, none, .mv (.t 11)⟩]) (.seq (.ops [⟨some 12, none, .mv (.t 1)⟩, ⟨some 13, none, .mv (.t 6)⟩, ⟨some 14, none, .ia 3 (.t 12) (.t 13)⟩, ⟨some 15, none, .ld (some 3) (.t 14)⟩, ⟨some 16, none, .call fn_linear_isZero [.t 15]⟩, ⟨some 17, none, .un .not (.t 16)⟩]) (.cond (.t 17) (.ops [⟨some 18, none, .mv (.t 0)⟩, ⟨some 19, none, .mv (.t 6)⟩, ⟨some 20, none, .mv (.t 0)⟩, ⟨some 21, none, .mv (.t 6)⟩, ⟨some 22, none, .ia 3 (.t 20) (.t 21)⟩, ⟨some 23, none, .ld (some 3) (.t 22)⟩, ⟨some 24, none, .ld (some 3) (.t 5)⟩, ⟨some 25, none, .mv (.t 1)⟩, ⟨some 26, none, .mv (.t 6)⟩, ⟨some 27, none, .ia 3 (.t 25) (.t 26)⟩, ⟨some 28, none, .ld (some 3) (.t 27)⟩, ⟨some 29, none, .call fn_rational_Multiply [.t 24, .t 28]⟩, ⟨some 30, none, .call fn_rational_Subtract [.t 23, .t 29]⟩, ⟨some 31, none, .ia 3 (.t 18) (.t 19)⟩, ⟨none, none, .st 3 (.t 31) (.t 30)⟩]) .skip)))) (.ops [⟨some 32, none, .bin .add (.t 9) (.c (.int 1))⟩, ⟨some 9, none, .mv (.t 32)⟩]))))))), []⟩
def F_ref1_shifted : Fn := ⟨43, .seq (.ops [⟨some 4, none, .mv (.c (.lit (.slice none 0 0)))⟩]) (.seq (.ops [⟨some 8, none, .mv (.t 0)⟩, ⟨some 9, none, .len (.t 8)⟩, ⟨some 10, none, .bin .add (.t 9) (.c (.int 1))⟩, ⟨some 11, none, .mk ty_uint32 1 4 [.lit (.int .u32 (Int.ofNat 0))] (.t 10) (.t 10)⟩, ⟨some 5, none, .mv (.t 11)⟩]) (.seq (.seq (.ops [⟨some 6, none, .mv (.c (.int 0))⟩]) (.block 0 (.loop (.seq (.seq (.ops [⟨some 12, none, .mv (.t 6)⟩, ⟨some 13, none, .mv (.t 0)⟩, ⟨some 14, none, .len (.t 13)⟩, ⟨some 15, none, .bin .lss (.t 12) (.t 14)⟩]) (.cond (.t 15) .skip (.exit 0))) (.seq (.block 1 (.seq (.ops [⟨some 18, none, .mv (.t 0)⟩, ⟨some 19, none, .mv (.t 6)⟩, ⟨some 20, none, .ia 1 (.t 18) (.t 19)⟩, ⟨some 21, none, .ld none (.t 20)⟩, ⟨some 22, none, .wrap .u64 (.t 21)⟩, ⟨some 23, none, .mv (.t 1)⟩, ⟨some 24, none, .bin .shl (.t 22) (.t 23)⟩, ⟨some 7, none, .mv (.t 24)⟩]) (.seq (.ops [⟨some 25, none, .mv (.t 5)⟩, ⟨some 26, none, .mv (.t 6)⟩, ⟨some 27, none, .mv (.t 5)⟩, ⟨some 28, none, .mv (.t 6)⟩, ⟨some 29, none, .ia 1 (.t 27) (.t 28)⟩, ⟨some 30, none, .ld none (.t 29)⟩, ⟨some 31, none, .mv (.t 7)⟩, ⟨some 32, none, .wrap .u32 (.t 31)⟩, ⟨some 33, none, .bin .or (.t 30) (.t 32)⟩, ⟨some 34, none, .ia 1 (.t 25) (.t 26)⟩, ⟨none, none, .st 1 (.t 34) (.t 33)⟩]) (.ops [⟨some 35, none, .mv (.t 5)⟩, ⟨some 36, none, .mv (.t 6)⟩, ⟨some 37, none, .bin .add (.t 36) (.c (.int 1))⟩, ⟨some 38, none, .mv (.t 7)⟩, ⟨some 39, none, .bin .shr (.t 38) (.c (.lit (.int .u64 (Int.ofNat 32))))⟩, ⟨some 40, none, .wrap .u32 (.t 39)⟩, ⟨some 41, none, .ia 1 (.t 35) (.t 37)⟩, ⟨none, none, .st 1 (.t 41) (.t 40)⟩])))) (.ops [⟨some 16, none, .mv (.t 6)⟩, ⟨some 17, none, .bin .add (.t 16) (.c (.int 1))⟩, ⟨some 6, none, .mv (.t 17)⟩])))))) (.seq (.ops [⟨some 42, none, .mv (.t 5)⟩, ⟨some 4, none, .mv (.t 42)⟩]) .ret))), [.t 4]⟩
def F_strings_asciiSet_contains : Fn := ⟨10, .seq (.ops [⟨some 4, none, .mv (.c (.lit (.bool false)))⟩]) (.seq (.ops [⟨some 5, none, .mv (.t 0)⟩, ⟨some 6, none, .mv (.t 1)⟩, ⟨some 7, none, .nilc (.t 5)⟩, ⟨some 8, none, .iaa 1 256 (.t 7) (.t 6)⟩, ⟨some 9, none, .ld none (.t 8)⟩, ⟨some 4, none, .mv (.t 9)⟩]) .ret), [.t 4]⟩
def F_utf8_DecodeRuneInString : Fn := ⟨19, .seq (.ops [⟨some 2, none, .mv (.c (.lit (.int .i32 (Int.ofNat 0))))⟩, ⟨some 3, none, .mv (.c (.int 0))⟩]) (.seq (.seq (.ops [⟨some 4, none, .mv (.t 0)⟩, ⟨some 5, none, .bin .neq (.t 4) (.c (.lit (.string ⟨#[]⟩)))⟩, ⟨some 6, none, .mv (.t 5)⟩, ⟨some 7, some (6, true), .mv (.t 0)⟩, ⟨some 8, some (6, true), .idx (.t 7) (.c (.int 0))⟩, ⟨some 9, some (6, true), .bin .lss (.t 8) (.c (.lit (.int .u8 (Int.ofNat 128))))⟩, ⟨some 10, none, .pick (.t 6) (.t 9) (.c (.lit (.bool false)))⟩]) (.cond (.t 10) (.seq (.ops [⟨some 11, none, .mv (.t 0)⟩, ⟨some 12, none, .idx (.t 11) (.c (.int 0))⟩, ⟨some 13, none, .wrap .i32 (.t 12)⟩, ⟨some 2, none, .mv (.t 13)⟩, ⟨some 3, none, .mv (.c (.int 1))⟩]) .ret) (.ops [⟨some 15, none, .mv (.t 0)⟩, ⟨some 16, none, .call fn_utf8_decodeRuneInStringSlow [.t 15]⟩, ⟨some 14, none, .mv (.t 16)⟩, ⟨some 17, none, .ext 0 (.t 14)⟩, ⟨some 18, none, .ext 1 (.t 14)⟩, ⟨some 2, none, .mv (.t 17)⟩, ⟨some 3, none, .mv (.t 18)⟩]))) .ret), [.t 2, .t 3]⟩
def F_strings_ContainsRune : Fn := ⟨9, .seq (.ops [⟨some 4, none, .mv (.c (.lit (.bool false)))⟩]) (.seq (.ops [⟨some 5, none, .mv (.t 0)⟩, ⟨some 6, none, .mv (.t 1)⟩, ⟨some 7, none, .call fn_strings_IndexRune [.t 5, .t 6]⟩, ⟨some 8, none, .bin .geq (.t 7) (.c (.int 0))⟩, ⟨some 4, none, .mv (.t 8)⟩]) .ret), [.t 4]⟩
def F_utf8_decodeRuneInStringSlow : Fn := ⟨117, .seq (.ops [⟨some 2, none, .mv (.c (.lit (.int .i32 (Int.ofNat 0))))⟩, ⟨some 3, none, .mv (.c (.int 0))⟩]) (.seq (.ops [⟨some 13, none, .mv (.t 0)⟩, ⟨some 14, none, .slen (.t 13)⟩, ⟨some 4, none, .mv (.t 14)⟩]) (.seq (.seq (.ops [⟨some 15, none, .mv (.t 4)⟩, ⟨some 16, none, .bin .lss (.t 15) (.c (.int 1))⟩]) (.cond (.t 16) (.seq (.ops [⟨some 2, none, .mv (.c (.lit (.int .i32 (Int.ofNat 65533))))⟩, ⟨some 3, none, .mv (.c (.int 0))⟩]) .ret) .skip)) (.seq (.ops [⟨some 17, none, .mv (.t 0)⟩, ⟨some 18, none, .idx (.t 17) (.c (.int 0))⟩, ⟨some 5, none, .mv (.t 18)⟩]) (.seq (.ops [⟨some 19, none, .mv (.t 5)⟩, ⟨none, none, .bad⟩, ⟨some 21, none, .ld none (.t 20)⟩, ⟨some 6, none, .mv (.t 21)⟩]) (.seq (.seq (.ops [⟨some 22, none, .mv (.t 6)⟩, ⟨some 23, none, .bin .geq (.t 22) (.c (.lit (.int .u8 (Int.ofNat 240))))⟩]) (.cond (.t 23) (.seq (.ops [⟨some 24, none, .mv (.t 6)⟩, ⟨some 25, none, .wrap .i32 (.t 24)⟩, ⟨some 26, none, .bin .shl (.t 25) (.c (.lit (.int .u64 (Int.ofNat 31))))⟩, ⟨some 27, none, .bin .shr (.t 26) (.c (.lit (.int .u64 (Int.ofNat 31))))⟩, ⟨some 7, none, .mv (.t 27)⟩]) (.seq (.ops [⟨some 28, none, .mv (.t 0)⟩, ⟨some 29, none, .idx (.t 28) (.c (.int 0))⟩, ⟨some 30, none, .wrap .i32 (.t 29)⟩, ⟨some 31, none, .mv (.t 7)⟩, ⟨some 32, none, .bin .andNot (.t 30) (.t 31)⟩, ⟨some 33, none, .mv (.t 7)⟩, ⟨some 34, none, .bin .and (.c (.lit (.int .i32 (Int.ofNat 65533)))) (.t 33)⟩, ⟨some 35, none, .bin .or (.t 32) (.t 34)⟩, ⟨some 2, none, .mv (.t 35)⟩, ⟨some 3, none, .mv (.c (.int 1))⟩]) .ret)) .skip)) (.seq (.ops [⟨some 36, none, .mv (.t 6)⟩, ⟨some 37, none, .bin .and (.t 36) (.c (.lit (.int .u8 (Int.ofNat 7))))⟩, ⟨some 38, none, .wrap .i64 (.t 37)⟩, ⟨some 8, none, .mv (.t 38)⟩]) (.seq (.ops [⟨some 39, none, .mv (.t 6)⟩, ⟨some 40, none, .bin .shr (.t 39) (.c (.lit (.int .u64 (Int.ofNat 4))))⟩, ⟨none, none, .bad⟩, ⟨some 42, none, .ld (some 2) (.t 41)⟩, ⟨some 9, none, .new [.lit (.int .u8 (Int.ofNat 0)), .lit (.int .u8 (Int.ofNat 0))] ty_utf8_acceptRange⟩, ⟨none, none, .st 2 (.t 9) (.t 42)⟩]) (.seq (.seq (.ops [⟨some 43, none, .mv (.t 4)⟩, ⟨some 44, none, .mv (.t 8)⟩, ⟨some 45, none, .bin .lss (.t 43) (.t 44)⟩]) (.cond (.t 45) (.seq (.ops [⟨some 2, none, .mv (.c (.lit (.int .i32 (Int.ofNat 65533))))⟩, ⟨some 3, none, .mv (.c (.int 1))⟩]) .ret) .skip)) (.seq (.ops [⟨some 46, none, .mv (.t 0)⟩, ⟨some 47, none, .idx (.t 46) (.c (.int 1))⟩, ⟨some 10, none, .mv (.t 47)⟩]) (.seq (.seq (.ops [⟨some 48, none, .mv (.t 10)⟩, ⟨some 49, none, .off 0 (.t 9)⟩, ⟨some 50, none, .ld none (.t 49)⟩, ⟨some 51, none, .bin .lss (.t 48) (.t 50)⟩, ⟨some 52, none, .mv (.t 51)⟩, ⟨some 53, some (52, false), .off 1 (.t 9)⟩, ⟨some 54, some (52, false), .ld none (.t 53)⟩, ⟨some 55, some (52, false), .mv (.t 10)⟩, ⟨some 56, some (52, false), .bin .lss (.t 54) (.t 55)⟩, ⟨some 57, none, .pick (.t 52) (.c (.lit (.bool true))) (.t 56)⟩]) (.cond (.t 57) (.seq (.ops [⟨some 2, none, .mv (.c (.lit (.int .i32 (Int.ofNat 65533))))⟩, ⟨some 3, none, .mv (.c (.int 1))⟩]) .ret) .skip)) (.seq (.seq (.ops [⟨some 58, none, .mv (.t 8)⟩, ⟨some 59, none, .bin .leq (.t 58) (.c (.int 2))⟩]) (.cond (.t 59) (.seq (.ops [⟨some 60, none, .mv (.t 5)⟩, ⟨some 61, none, .bin .and (.t 60) (.c (.lit (.int .u8 (Int.ofNat 31))))⟩, ⟨some 62, none, .wrap .i32 (.t 61)⟩, ⟨some 63, none, .bin .shl (.t 62) (.c (.lit (.int .u64 (Int.ofNat 6))))⟩, ⟨some 64, none, .mv (.t 10)⟩, ⟨some 65, none, .bin .and (.t 64) (.c (.lit (.int .u8 (Int.ofNat 63))))⟩, ⟨some 66, none, .wrap .i32 (.t 65)⟩, ⟨some 67, none, .bin .or (.t 63) (.t 66)⟩, ⟨some 2, none, .mv (.t 67)⟩, ⟨some 3, none, .mv (.c (.int 2))⟩]) .ret) .skip)) (.seq (.ops [⟨some 68, none, .mv (.t 0)⟩, ⟨some 69, none, .idx (.t 68) (.c (.int 2))⟩, ⟨some 11, none, .mv (.t 69)⟩]) (.seq (.seq (.ops [⟨some 70, none, .mv (.t 11)⟩, ⟨some 71, none, .bin .lss (.t 70) (.c (.lit (.int .u8 (Int.ofNat 128))))⟩, ⟨some 72, none, .mv (.t 71)⟩, ⟨some 73, some (72, false), .mv (.t 11)⟩, ⟨some 74, some (72, false), .bin .lss (.c (.lit (.int .u8 (Int.ofNat 191)))) (.t 73)⟩, ⟨some 75, none, .pick (.t 72) (.c (.lit (.bool true))) (.t 74)⟩]) (.cond (.t 75) (.seq (.ops [⟨some 2, none, .mv (.c (.lit (.int .i32 (Int.ofNat 65533))))⟩, ⟨some 3, none, .mv (.c (.int 1))⟩]) .ret) .skip)) (.seq (.seq (.ops [⟨some 76, none, .mv (.t 8)⟩, ⟨some 77, none, .bin .leq (.t 76) (.c (.int 3))⟩]) (.cond (.t 77) (.seq (.ops [⟨some 78, none, .mv (.t 5)⟩, ⟨some 79, none, .bin .and (.t 78) (.c (.lit (.int .u8 (Int.ofNat 15))))⟩, ⟨some 80, none, .wrap .i32 (.t 79)⟩, ⟨some 81, none, .bin .shl (.t 80) (.c (.lit (.int .u64 (Int.ofNat 12))))⟩, ⟨some 82, none, .mv (.t 10)⟩, ⟨some 83, none, .bin .and (.t 82) (.c (.lit (.int .u8 (Int.ofNat 63))))⟩, ⟨some 84, none, .wrap .i32 (.t 83)⟩, ⟨some 85, none, .bin .shl (.t 84) (.c (.lit (.int .u64 (Int.ofNat 6))))⟩, ⟨some 86, none, .bin .or (.t 81) (.t 85)⟩, ⟨some 87, none, .mv (.t 11)⟩, ⟨some 88, none, .bin .and (.t 87) (.c (.lit (.int .u8 (Int.ofNat 63))))⟩, ⟨some 89, none, .wrap .i32 (.t 88)⟩, ⟨some 90, none, .bin .or (.t 86) (.t 89)⟩, ⟨some 2, none, .mv (.t 90)⟩, ⟨some 3, none, .mv (.c (.int 3))⟩]) .ret) .skip)) (.seq (.ops [⟨some 91, none, .mv (.t 0)⟩, ⟨some 92, none, .idx (.t 91) (.c (.int 3))⟩, ⟨some 12, none, .mv (.t 92)⟩]) (.seq (.seq (.ops [⟨some 93, none, .mv (.t 12)⟩, ⟨some 94, none, .bin .lss (.t 93) (.c (.lit (.int .u8 (Int.ofNat 128))))⟩, ⟨some 95, none, .mv (.t 94)⟩, ⟨some 96, some (95, false), .mv (.t 12)⟩, ⟨some 97, some (95, false), .bin .lss (.c (.lit (.int .u8 (Int.ofNat 191)))) (.t 96)⟩, ⟨some 98, none, .pick (.t 95) (.c (.lit (.bool true))) (.t 97)⟩]) (.cond (.t 98) (.seq (.ops [⟨some 2, none, .mv (.c (.lit (.int .i32 (Int.ofNat 65533))))⟩, ⟨some 3, none, .mv (.c (.int 1))⟩]) .ret) .skip)) (.seq (.ops [⟨some 99, none, .mv (.t 5)⟩, ⟨some 100, none, .bin .and (.t 99) (.c (.lit (.int .u8 (Int.ofNat 7))))⟩, ⟨some 101, none, .wrap .i32 (.t 100)⟩, ⟨some 102, none, .bin .shl (.t 101) (.c (.lit (.int .u64 (Int.ofNat 18))))⟩, ⟨some 103, none, .mv (.t 10)⟩, ⟨some 104, none, .bin .and (.t 103) (.c (.lit (.int .u8 (Int.ofNat 63))))⟩, ⟨some 105, none, .wrap .i32 (.t 104)⟩, ⟨some 106, none, .bin .shl (.t 105) (.c (.lit (.int .u64 (Int.ofNat 12))))⟩, ⟨some 107, none, .bin .or (.t 102) (.t 106)⟩, ⟨some 108, none, .mv (.t 11)⟩, ⟨some 109, none, .bin .and (.t 108) (.c (.lit (.int .u8 (Int.ofNat 63))))⟩, ⟨some 110, none, .wrap .i32 (.t 109)⟩, ⟨some 111, none, .bin .shl (.t 110) (.c (.lit (.int .u64 (Int.ofNat 6))))⟩, ⟨some 112, none, .bin .or (.t 107) (.t 111)⟩, ⟨some 113, none, .mv (.t 12)⟩, ⟨some 114, none, .bin .and (.t 113) (.c (.lit (.int .u8 (Int.ofNat 63))))⟩, ⟨some 115, none, .wrap .i32 (.t 114)⟩, ⟨some 116, none, .bin .or (.t 112) (.t 115)⟩, ⟨some 2, none, .mv (.t 116)⟩, ⟨some 3, none, .mv (.c (.int 4))⟩]) .ret))))))))))))))))), [.t 2, .t 3]⟩
def F_strings_IndexRune : Fn := ⟨187, .seq (.ops [⟨some 4, none, .mv (.c (.int 0))⟩]) (.block 0 (.seq (.ops [⟨some 161, none, .mv (.t 1)⟩, ⟨some 162, none, .bin .leq (.c (.lit (.int .i32 (Int.ofNat 0)))) (.t 161)⟩, ⟨some 163, none, .mv (.t 162)⟩, ⟨some 164, some (163, true), .mv (.t 1)⟩, ⟨some 165, some (163, true), .bin .lss (.t 164) (.c (.lit (.int .i32 (Int.ofNat 128))))⟩, ⟨some 166, none, .pick (.t 163) (.t 165) (.c (.lit (.bool false)))⟩, ⟨some 160, none, .mv (.t 166)⟩]) (.cond (.t 160) (.seq (.ops [⟨some 167, none, .mv (.t 0)⟩, ⟨some 168, none, .mv (.t 1)⟩, ⟨some 169, none, .wrap .u8 (.t 168)⟩, ⟨some 170, none, .call fn_strings_IndexByte [.t 167, .t 169]⟩, ⟨some 4, none, .mv (.t 170)⟩]) .ret) (.seq (.ops [⟨some 172, none, .mv (.t 1)⟩, ⟨some 173, none, .bin .eql (.t 172) (.c (.lit (.int .i32 (Int.ofNat 65533))))⟩, ⟨some 171, none, .mv (.t 173)⟩]) (.cond (.t 171) (.seq (.seq (.ops [⟨some 174, none, .mv (.t 0)⟩, ⟨none, none, .bad⟩]) (.block 9 (.loop (.seq (.ops [⟨none, none, .bad⟩, ⟨some 177, none, .ext 0 (.t 176)⟩]) (.seq (.cond (.t 177) .skip (.exit 9)) (.block 10 (.seq (.ops [⟨some 178, none, .ext 1 (.t 176)⟩, ⟨some 179, none, .ext 2 (.t 176)⟩, ⟨some 5, none, .mv (.t 178)⟩, ⟨some 6, none, .mv (.t 179)⟩]) (.seq (.ops [⟨some 180, none, .mv (.t 6)⟩, ⟨some 181, none, .bin .eql (.t 180) (.c (.lit (.int .i32 (Int.ofNat 65533))))⟩]) (.cond (.t 181) (.seq (.ops [⟨some 182, none, .mv (.t 5)⟩, ⟨some 4, none, .mv (.t 182)⟩]) .ret) .skip))))))))) (.seq (.ops [⟨some 4, none, .mv (.c (.lit (.int .i64 (Int.negSucc 0))))⟩]) .ret)) (.seq (.ops [⟨some 184, none, .mv (.t 1)⟩, ⟨some 185, none, .call fn_utf8_ValidRune [.t 184]⟩, ⟨some 186, none, .un .not (.t 185)⟩, ⟨some 183, none, .mv (.t 186)⟩]) (.cond (.t 183) (.seq (.ops [⟨some 4, none, .mv (.c (.lit (.int .i64 (Int.negSucc 0))))⟩]) .ret) (.ops [⟨none, none, .bad⟩])))))))), [.t 4]⟩
def F_strings_IndexByte : Fn := ⟨8, .seq (.ops [⟨some 4, none, .mv (.c (.int 0))⟩]) (.seq (.ops [⟨some 5, none, .mv (.t 0)⟩, ⟨some 6, none, .mv (.t 1)⟩, ⟨some 7, none, .call fn_stringslite_IndexByte [.t 5, .t 6]⟩, ⟨some 4, none, .mv (.t 7)⟩]) .ret), [.t 4]⟩
def F_utf8_ValidRune : Fn := ⟨17, .seq (.ops [⟨some 2, none, .mv (.c (.lit (.bool false)))⟩]) (.seq (.block 0 (.seq (.ops [⟨some 4, none, .mv (.t 0)⟩, ⟨some 5, none, .bin .leq (.c (.lit (.int .i32 (Int.ofNat 0)))) (.t 4)⟩, ⟨some 6, none, .mv (.t 5)⟩, ⟨some 7, some (6, true), .mv (.t 0)⟩, ⟨some 8, some (6, true), .bin .lss (.t 7) (.c (.lit (.int .i32 (Int.ofNat 55296))))⟩, ⟨some 9, none, .pick (.t 6) (.t 8) (.c (.lit (.bool false)))⟩, ⟨some 3, none, .mv (.t 9)⟩]) (.cond (.t 3) (.seq (.ops [⟨some 2, none, .mv (.c (.lit (.bool true)))⟩]) .ret) (.seq (.ops [⟨some 11, none, .mv (.t 0)⟩, ⟨some 12, none, .bin .lss (.c (.lit (.int .i32 (Int.ofNat 57343)))) (.t 11)⟩, ⟨some 13, none, .mv (.t 12)⟩, ⟨some 14, some (13, true), .mv (.t 0)⟩, ⟨some 15, some (13, true), .bin .leq (.t 14) (.c (.lit (.int .i32 (Int.ofNat 1114111))))⟩, ⟨some 16, none, .pick (.t 13) (.t 15) (.c (.lit (.bool false)))⟩, ⟨some 10, none, .mv (.t 16)⟩]) (.cond (.t 10) (.seq (.ops [⟨some 2, none, .mv (.c (.lit (.bool true)))⟩]) .ret) .skip))))) (.seq (.ops [⟨some 2, none, .mv (.c (.lit (.bool false)))⟩]) .ret)), [.t 2]⟩
def F_stringslite_IndexByte : Fn := ⟨8, .seq (.ops [⟨some 4, none, .mv (.c (.int 0))⟩]) (.seq (.ops [⟨some 5, none, .mv (.t 0)⟩, ⟨some 6, none, .mv (.t 1)⟩, ⟨some 7, none, .call fn_bytealg_IndexByteString [.t 5, .t 6]⟩, ⟨some 4, none, .mv (.t 7)⟩]) .ret), [.t 4]⟩
end Go.Proofs.Vm
/-! The functions, by number (written by program). -/
namespace Go.Proofs.Vm
open Go
/-- Whose calls only read. -/
def puL : List Nat := [fn_law19_ClearingErrors, fn_clearing_Solve, fn_law19_awake, fn_clearing_Least, fn_law18_Few, fn_ref17_CheckGroup, fn_guarantee_Check, fn_clearing_build, fn_clearing_system_settle, fn_clearing_system_solve, fn_law19_circle, fn_law19_money, fn_law17_Few, fn_law0_Few, fn_ref17_CheckEstate, fn_ref17_debt, fn_waterfall_Check, fn_waterfall_Lay, fn_waterfall_Layout_Deliver, fn_waterfall_Layout_Gross, fn_rational_Compare, fn_waterfall_Layout_Total, fn_rational_Max, fn_rational_Subtract, fn_guarantee_Refunds, fn_clearing_pick, fn_rational_Int, fn_clearing_system_flow, fn_clearing_system_margins, fn_clearing_reach, fn_clearing_system_funded, fn_clearing_closed, fn_clearing_system_lift, fn_clearing_system_fill, fn_clearing_list, fn_clearing_system_nearest, fn_clearing_raise, fn_rational_Add, fn_ref1_Fix, fn_ref1_Sign, fn_ref17_agreement, fn_ref17_leg, fn_ref17_claim, fn_rational_Sign, fn_waterfall_checkAgreement, fn_waterfall_members, fn_guarantee_holder, fn_waterfall_lay, fn_waterfall_pool_total, fn_rational_clean, fn_rational_signOf, fn_natural_Compare, fn_natural_Multiply, fn_rational_den, fn_rational_add, fn_rational_negate, fn_guarantee_positive, fn_rational_reduced, fn_rational_magnitude, fn_waterfall_Layout_Slopes, fn_guarantee_Rates, fn_clearing_system_holder, fn_rational_Sum, fn_clearing_closed_1, fn_clearing_leaks, fn_linear_Kernel, fn_clearing_sub, fn_rational_Negate, fn_linear_Solve, fn_rational_Divide, fn_waterfall_Layout_Next, fn_rational_Multiply, fn_ref1_Signum, fn_ref1_Valid, fn_ref1_limbs, fn_ref1_order, fn_ref17_earlier, fn_waterfall_checkAgreement_1, fn_slices_Concat_Sapi_Part_api_Part, fn_rational_Min, fn_waterfall_ladder_split, fn_rational_Valid, fn_natural_Normalize, fn_natural_sign, fn_strings_Compare, fn_natural_parse, fn_natural_limbs_text, fn_natural_Add, fn_natural_Subtract, fn_natural_GCD, fn_natural_Divide, fn_natural_FromUint, fn_waterfall_Layout_rates, fn_linear_Reduce, fn_slices_Contains_Sint_int, fn_linear_square, fn_linear_Solve_1, fn_rational_Make, fn_waterfall_Layout_step, fn_slices_Equal_Sapi_Rat_api_Rat, fn_ref17_member, fn_ref1_Normalize, fn_ref1_GCD, fn_ref1_common, fn_ref1_divide, fn_ref1_text, fn_strings_TrimLeft, fn_bits_Add32, fn_natural_compare, fn_natural_subtract, fn_natural_divide, fn_linear_check, fn_slices_Index_Sint_int, fn_linear_denominator, fn_linear_integer_times, fn_linear_integer_minus, fn_linear_integer_over, fn_waterfall_ladder_gap, fn_ref1_short, fn_ref1_long, fn_bits_Len32, fn_strings_trimLeftByte, fn_strings_makeASCIISet, fn_strings_trimLeftASCII, fn_strings_trimLeftUnicode, fn_bits_Sub32, fn_natural_divideSmall, fn_bits_LeadingZeros32, fn_natural_unshift, fn_linear_pivot, fn_linear_isZero, fn_strings_asciiSet_contains, fn_utf8_DecodeRuneInString, fn_strings_ContainsRune, fn_utf8_decodeRuneInStringSlow, fn_strings_IndexRune, fn_strings_IndexByte, fn_utf8_ValidRune, fn_stringslite_IndexByte]
def pu (f : Nat) : Bool := puL.contains f
def tbl : List (Nat × Bool × Fn) := [
  (fn_law19_ClearingErrors, true, F_law19_ClearingErrors),
  (fn_clearing_Solve, true, F_clearing_Solve),
  (fn_law19_awake, true, F_law19_awake),
  (fn_clearing_Least, true, F_clearing_Least),
  (fn_law18_Few, true, F_law18_Few),
  (fn_ref17_CheckGroup, true, F_ref17_CheckGroup),
  (fn_guarantee_Check, true, F_guarantee_Check),
  (fn_clearing_build, true, F_clearing_build),
  (fn_clearing_system_settle, true, F_clearing_system_settle),
  (fn_clearing_system_solve, true, F_clearing_system_solve),
  (fn_law19_circle, true, F_law19_circle),
  (fn_law19_money, true, F_law19_money),
  (fn_law17_Few, true, F_law17_Few),
  (fn_law0_Few, true, F_law0_Few),
  (fn_ref17_CheckEstate, true, F_ref17_CheckEstate),
  (fn_ref17_debt, true, F_ref17_debt),
  (fn_waterfall_Check, true, F_waterfall_Check),
  (fn_guarantee_checkDebt, false, F_guarantee_checkDebt),
  (fn_waterfall_Lay, true, F_waterfall_Lay),
  (fn_slices_Clone_Sapi_Rat_api_Rat, false, F_slices_Clone_Sapi_Rat_api_Rat),
  (fn_waterfall_Layout_Deliver, true, F_waterfall_Layout_Deliver),
  (fn_waterfall_Layout_Gross, true, F_waterfall_Layout_Gross),
  (fn_rational_Compare, true, F_rational_Compare),
  (fn_waterfall_Layout_Total, true, F_waterfall_Layout_Total),
  (fn_rational_Max, true, F_rational_Max),
  (fn_rational_Subtract, true, F_rational_Subtract),
  (fn_guarantee_Refunds, true, F_guarantee_Refunds),
  (fn_clearing_pick, true, F_clearing_pick),
  (fn_rational_Int, true, F_rational_Int),
  (fn_clearing_system_flow, true, F_clearing_system_flow),
  (fn_clearing_system_margins, true, F_clearing_system_margins),
  (fn_clearing_reach, true, F_clearing_reach),
  (fn_clearing_system_funded, true, F_clearing_system_funded),
  (fn_clearing_closed, true, F_clearing_closed),
  (fn_clearing_system_lift, true, F_clearing_system_lift),
  (fn_clearing_system_fill, true, F_clearing_system_fill),
  (fn_clearing_list, true, F_clearing_list),
  (fn_clearing_system_nearest, true, F_clearing_system_nearest),
  (fn_clearing_raise, true, F_clearing_raise),
  (fn_rational_Add, true, F_rational_Add),
  (fn_ref1_Fix, true, F_ref1_Fix),
  (fn_ref1_Sign, true, F_ref1_Sign),
  (fn_ref17_agreement, true, F_ref17_agreement),
  (fn_ref17_leg, true, F_ref17_leg),
  (fn_ref17_claim, true, F_ref17_claim),
  (fn_rational_Sign, true, F_rational_Sign),
  (fn_waterfall_checkAgreement, true, F_waterfall_checkAgreement),
  (fn_waterfall_members, true, F_waterfall_members),
  (fn_guarantee_holder, true, F_guarantee_holder),
  (fn_waterfall_tier_add, false, F_waterfall_tier_add),
  (fn_waterfall_lay, true, F_waterfall_lay),
  (fn_waterfall_Layout_take, false, F_waterfall_Layout_take),
  (fn_waterfall_ladder_pay, false, F_waterfall_ladder_pay),
  (fn_waterfall_pool_total, true, F_waterfall_pool_total),
  (fn_rational_clean, true, F_rational_clean),
  (fn_rational_signOf, true, F_rational_signOf),
  (fn_natural_Compare, true, F_natural_Compare),
  (fn_natural_Multiply, true, F_natural_Multiply),
  (fn_rational_den, true, F_rational_den),
  (fn_rational_add, true, F_rational_add),
  (fn_rational_negate, true, F_rational_negate),
  (fn_guarantee_positive, true, F_guarantee_positive),
  (fn_rational_reduced, true, F_rational_reduced),
  (fn_rational_magnitude, true, F_rational_magnitude),
  (fn_waterfall_Layout_Slopes, true, F_waterfall_Layout_Slopes),
  (fn_clearing_matrix, false, F_clearing_matrix),
  (fn_clearing_grow, false, F_clearing_grow),
  (fn_guarantee_Rates, true, F_guarantee_Rates),
  (fn_clearing_system_holder, true, F_clearing_system_holder),
  (fn_rational_Sum, true, F_rational_Sum),
  (fn_slices_Clone_Sbool_bool, false, F_slices_Clone_Sbool_bool),
  (fn_slices_ContainsFunc_Sint_int, false, F_slices_ContainsFunc_Sint_int),
  (fn_clearing_closed_1, true, F_clearing_closed_1),
  (fn_clearing_leaks, true, F_clearing_leaks),
  (fn_linear_Kernel, true, F_linear_Kernel),
  (fn_clearing_sub, true, F_clearing_sub),
  (fn_clearing_spread, false, F_clearing_spread),
  (fn_rational_Negate, true, F_rational_Negate),
  (fn_linear_Solve, true, F_linear_Solve),
  (fn_clearing_system_nearest_1, false, F_clearing_system_nearest_1),
  (fn_rational_Divide, true, F_rational_Divide),
  (fn_waterfall_Layout_Next, true, F_waterfall_Layout_Next),
  (fn_rational_Multiply, true, F_rational_Multiply),
  (fn_ref1_Signum, true, F_ref1_Signum),
  (fn_ref1_Valid, true, F_ref1_Valid),
  (fn_ref1_limbs, true, F_ref1_limbs),
  (fn_ref1_order, true, F_ref1_order),
  (fn_ref17_earlier, true, F_ref17_earlier),
  (fn_slices_ContainsFunc_SSapi_Part_Sapi_Part, false, F_slices_ContainsFunc_SSapi_Part_Sapi_Part),
  (fn_waterfall_checkAgreement_1, true, F_waterfall_checkAgreement_1),
  (fn_slices_Concat_Sapi_Part_api_Part, true, F_slices_Concat_Sapi_Part_api_Part),
  (fn_slices_Compact_Sint_int, false, F_slices_Compact_Sint_int),
  (fn_rational_Min, true, F_rational_Min),
  (fn_waterfall_ladder_split, true, F_waterfall_ladder_split),
  (fn_waterfall_result_add, false, F_waterfall_result_add),
  (fn_waterfall_result_share, false, F_waterfall_result_share),
  (fn_rational_Valid, true, F_rational_Valid),
  (fn_natural_Normalize, true, F_natural_Normalize),
  (fn_natural_sign, true, F_natural_sign),
  (fn_natural_parse, true, F_natural_parse),
  (fn_natural_limbs_text, true, F_natural_limbs_text),
  (fn_natural_Add, true, F_natural_Add),
  (fn_natural_Subtract, true, F_natural_Subtract),
  (fn_natural_GCD, true, F_natural_GCD),
  (fn_natural_Divide, true, F_natural_Divide),
  (fn_natural_FromUint, true, F_natural_FromUint),
  (fn_waterfall_Layout_rates, true, F_waterfall_Layout_rates),
  (fn_waterfall_ladder_slope, false, F_waterfall_ladder_slope),
  (fn_slices_IndexFunc_Sint_int, false, F_slices_IndexFunc_Sint_int),
  (fn_linear_Reduce, true, F_linear_Reduce),
  (fn_slices_Contains_Sint_int, true, F_slices_Contains_Sint_int),
  (fn_linear_square, true, F_linear_square),
  (fn_linear_clean, false, F_linear_clean),
  (fn_linear_integers, false, F_linear_integers),
  (fn_slices_IndexFunc_SSlinear_integer_Slinear_integer, false, F_slices_IndexFunc_SSlinear_integer_Slinear_integer),
  (fn_linear_Solve_1, true, F_linear_Solve_1),
  (fn_linear_eliminate, false, F_linear_eliminate),
  (fn_rational_Make, true, F_rational_Make),
  (fn_waterfall_Layout_step, true, F_waterfall_Layout_step),
  (fn_slices_Equal_Sapi_Rat_api_Rat, true, F_slices_Equal_Sapi_Rat_api_Rat),
  (fn_ref17_member, true, F_ref17_member),
  (fn_ref1_Normalize, true, F_ref1_Normalize),
  (fn_ref1_GCD, true, F_ref1_GCD),
  (fn_ref1_strip, false, F_ref1_strip),
  (fn_ref1_common, true, F_ref1_common),
  (fn_ref1_divide, true, F_ref1_divide),
  (fn_ref1_text, true, F_ref1_text),
  (fn_slices_IndexFunc_SSapi_Part_Sapi_Part, false, F_slices_IndexFunc_SSapi_Part_Sapi_Part),
  (fn_slices_Grow_Sapi_Part_api_Part, false, F_slices_Grow_Sapi_Part_api_Part),
  (fn_strings_TrimLeft, true, F_strings_TrimLeft),
  (fn_natural_limbs_trim, false, F_natural_limbs_trim),
  (fn_bits_Add32, true, F_bits_Add32),
  (fn_natural_compare, true, F_natural_compare),
  (fn_natural_subtract, true, F_natural_subtract),
  (fn_natural_divide, true, F_natural_divide),
  (fn_linear_check, true, F_linear_check),
  (fn_linear_reduce, false, F_linear_reduce),
  (fn_slices_Index_Sint_int, true, F_slices_Index_Sint_int),
  (fn_linear_denominator, true, F_linear_denominator),
  (fn_linear_integer_times, true, F_linear_integer_times),
  (fn_linear_integer_minus, true, F_linear_integer_minus),
  (fn_linear_integer_over, true, F_linear_integer_over),
  (fn_waterfall_ladder_gap, true, F_waterfall_ladder_gap),
  (fn_ref1_short, true, F_ref1_short),
  (fn_ref1_long, true, F_ref1_long),
  (fn_bits_Len32, true, F_bits_Len32),
  (fn_strings_trimLeftByte, true, F_strings_trimLeftByte),
  (fn_strings_makeASCIISet, true, F_strings_makeASCIISet),
  (fn_strings_trimLeftASCII, true, F_strings_trimLeftASCII),
  (fn_strings_trimLeftUnicode, true, F_strings_trimLeftUnicode),
  (fn_bits_Sub32, true, F_bits_Sub32),
  (fn_natural_divideSmall, true, F_natural_divideSmall),
  (fn_bits_LeadingZeros32, true, F_bits_LeadingZeros32),
  (fn_natural_shift, false, F_natural_shift),
  (fn_natural_step, false, F_natural_step),
  (fn_natural_unshift, true, F_natural_unshift),
  (fn_linear_pivot, true, F_linear_pivot),
  (fn_linear_isZero, true, F_linear_isZero),
  (fn_linear_minus, false, F_linear_minus),
  (fn_ref1_shifted, false, F_ref1_shifted),
  (fn_strings_asciiSet_contains, true, F_strings_asciiSet_contains),
  (fn_utf8_DecodeRuneInString, true, F_utf8_DecodeRuneInString),
  (fn_strings_ContainsRune, true, F_strings_ContainsRune),
  (fn_utf8_decodeRuneInStringSlow, true, F_utf8_decodeRuneInStringSlow),
  (fn_strings_IndexRune, true, F_strings_IndexRune),
  (fn_strings_IndexByte, true, F_strings_IndexByte),
  (fn_utf8_ValidRune, true, F_utf8_ValidRune),
  (fn_stringslite_IndexByte, true, F_stringslite_IndexByte)]
def at_ (f : Nat) : List (Nat × Bool × Fn) → Option Def
  | [] => none
  | (k, p, F) :: l => if f = k then some (.code p F) else at_ f l
def D0 : FuncId → Option Def := fun f => if f = fn_slices_Sort_Sint_int then some (.ext sortE) else if f = fn_strings_Compare then some (.ext cmpE) else at_ f tbl
theorem d_slices_Sort_Sint_int : D0 fn_slices_Sort_Sint_int = some (.ext sortE) := rfl
theorem d_strings_Compare : D0 fn_strings_Compare = some (.ext cmpE) := rfl
theorem d_law19_ClearingErrors : D0 fn_law19_ClearingErrors = some (.code true F_law19_ClearingErrors) := rfl
theorem d_clearing_Solve : D0 fn_clearing_Solve = some (.code true F_clearing_Solve) := rfl
theorem d_law19_awake : D0 fn_law19_awake = some (.code true F_law19_awake) := rfl
theorem d_clearing_Least : D0 fn_clearing_Least = some (.code true F_clearing_Least) := rfl
theorem d_law18_Few : D0 fn_law18_Few = some (.code true F_law18_Few) := rfl
theorem d_ref17_CheckGroup : D0 fn_ref17_CheckGroup = some (.code true F_ref17_CheckGroup) := rfl
theorem d_guarantee_Check : D0 fn_guarantee_Check = some (.code true F_guarantee_Check) := rfl
theorem d_clearing_build : D0 fn_clearing_build = some (.code true F_clearing_build) := rfl
theorem d_clearing_system_settle : D0 fn_clearing_system_settle = some (.code true F_clearing_system_settle) := rfl
theorem d_clearing_system_solve : D0 fn_clearing_system_solve = some (.code true F_clearing_system_solve) := rfl
theorem d_law19_circle : D0 fn_law19_circle = some (.code true F_law19_circle) := rfl
theorem d_law19_money : D0 fn_law19_money = some (.code true F_law19_money) := rfl
theorem d_law17_Few : D0 fn_law17_Few = some (.code true F_law17_Few) := rfl
theorem d_law0_Few : D0 fn_law0_Few = some (.code true F_law0_Few) := rfl
theorem d_ref17_CheckEstate : D0 fn_ref17_CheckEstate = some (.code true F_ref17_CheckEstate) := rfl
theorem d_ref17_debt : D0 fn_ref17_debt = some (.code true F_ref17_debt) := rfl
theorem d_waterfall_Check : D0 fn_waterfall_Check = some (.code true F_waterfall_Check) := rfl
theorem d_guarantee_checkDebt : D0 fn_guarantee_checkDebt = some (.code false F_guarantee_checkDebt) := rfl
theorem d_waterfall_Lay : D0 fn_waterfall_Lay = some (.code true F_waterfall_Lay) := rfl
theorem d_slices_Clone_Sapi_Rat_api_Rat : D0 fn_slices_Clone_Sapi_Rat_api_Rat = some (.code false F_slices_Clone_Sapi_Rat_api_Rat) := rfl
theorem d_waterfall_Layout_Deliver : D0 fn_waterfall_Layout_Deliver = some (.code true F_waterfall_Layout_Deliver) := rfl
theorem d_waterfall_Layout_Gross : D0 fn_waterfall_Layout_Gross = some (.code true F_waterfall_Layout_Gross) := rfl
theorem d_rational_Compare : D0 fn_rational_Compare = some (.code true F_rational_Compare) := rfl
theorem d_waterfall_Layout_Total : D0 fn_waterfall_Layout_Total = some (.code true F_waterfall_Layout_Total) := rfl
theorem d_rational_Max : D0 fn_rational_Max = some (.code true F_rational_Max) := rfl
theorem d_rational_Subtract : D0 fn_rational_Subtract = some (.code true F_rational_Subtract) := rfl
theorem d_guarantee_Refunds : D0 fn_guarantee_Refunds = some (.code true F_guarantee_Refunds) := rfl
theorem d_clearing_pick : D0 fn_clearing_pick = some (.code true F_clearing_pick) := rfl
theorem d_rational_Int : D0 fn_rational_Int = some (.code true F_rational_Int) := rfl
theorem d_clearing_system_flow : D0 fn_clearing_system_flow = some (.code true F_clearing_system_flow) := rfl
theorem d_clearing_system_margins : D0 fn_clearing_system_margins = some (.code true F_clearing_system_margins) := rfl
theorem d_clearing_reach : D0 fn_clearing_reach = some (.code true F_clearing_reach) := rfl
theorem d_clearing_system_funded : D0 fn_clearing_system_funded = some (.code true F_clearing_system_funded) := rfl
theorem d_clearing_closed : D0 fn_clearing_closed = some (.code true F_clearing_closed) := rfl
theorem d_clearing_system_lift : D0 fn_clearing_system_lift = some (.code true F_clearing_system_lift) := rfl
theorem d_clearing_system_fill : D0 fn_clearing_system_fill = some (.code true F_clearing_system_fill) := rfl
theorem d_clearing_list : D0 fn_clearing_list = some (.code true F_clearing_list) := rfl
theorem d_clearing_system_nearest : D0 fn_clearing_system_nearest = some (.code true F_clearing_system_nearest) := rfl
theorem d_clearing_raise : D0 fn_clearing_raise = some (.code true F_clearing_raise) := rfl
theorem d_rational_Add : D0 fn_rational_Add = some (.code true F_rational_Add) := rfl
theorem d_ref1_Fix : D0 fn_ref1_Fix = some (.code true F_ref1_Fix) := rfl
theorem d_ref1_Sign : D0 fn_ref1_Sign = some (.code true F_ref1_Sign) := rfl
theorem d_ref17_agreement : D0 fn_ref17_agreement = some (.code true F_ref17_agreement) := rfl
theorem d_ref17_leg : D0 fn_ref17_leg = some (.code true F_ref17_leg) := rfl
theorem d_ref17_claim : D0 fn_ref17_claim = some (.code true F_ref17_claim) := rfl
theorem d_rational_Sign : D0 fn_rational_Sign = some (.code true F_rational_Sign) := rfl
theorem d_waterfall_checkAgreement : D0 fn_waterfall_checkAgreement = some (.code true F_waterfall_checkAgreement) := rfl
theorem d_waterfall_members : D0 fn_waterfall_members = some (.code true F_waterfall_members) := rfl
theorem d_guarantee_holder : D0 fn_guarantee_holder = some (.code true F_guarantee_holder) := rfl
theorem d_waterfall_tier_add : D0 fn_waterfall_tier_add = some (.code false F_waterfall_tier_add) := rfl
theorem d_waterfall_lay : D0 fn_waterfall_lay = some (.code true F_waterfall_lay) := rfl
theorem d_waterfall_Layout_take : D0 fn_waterfall_Layout_take = some (.code false F_waterfall_Layout_take) := rfl
theorem d_waterfall_ladder_pay : D0 fn_waterfall_ladder_pay = some (.code false F_waterfall_ladder_pay) := rfl
theorem d_waterfall_pool_total : D0 fn_waterfall_pool_total = some (.code true F_waterfall_pool_total) := rfl
theorem d_rational_clean : D0 fn_rational_clean = some (.code true F_rational_clean) := rfl
theorem d_rational_signOf : D0 fn_rational_signOf = some (.code true F_rational_signOf) := rfl
theorem d_natural_Compare : D0 fn_natural_Compare = some (.code true F_natural_Compare) := rfl
theorem d_natural_Multiply : D0 fn_natural_Multiply = some (.code true F_natural_Multiply) := rfl
theorem d_rational_den : D0 fn_rational_den = some (.code true F_rational_den) := rfl
theorem d_rational_add : D0 fn_rational_add = some (.code true F_rational_add) := rfl
theorem d_rational_negate : D0 fn_rational_negate = some (.code true F_rational_negate) := rfl
theorem d_guarantee_positive : D0 fn_guarantee_positive = some (.code true F_guarantee_positive) := rfl
theorem d_rational_reduced : D0 fn_rational_reduced = some (.code true F_rational_reduced) := rfl
theorem d_rational_magnitude : D0 fn_rational_magnitude = some (.code true F_rational_magnitude) := rfl
theorem d_waterfall_Layout_Slopes : D0 fn_waterfall_Layout_Slopes = some (.code true F_waterfall_Layout_Slopes) := rfl
theorem d_clearing_matrix : D0 fn_clearing_matrix = some (.code false F_clearing_matrix) := rfl
theorem d_clearing_grow : D0 fn_clearing_grow = some (.code false F_clearing_grow) := rfl
theorem d_guarantee_Rates : D0 fn_guarantee_Rates = some (.code true F_guarantee_Rates) := rfl
theorem d_clearing_system_holder : D0 fn_clearing_system_holder = some (.code true F_clearing_system_holder) := rfl
theorem d_rational_Sum : D0 fn_rational_Sum = some (.code true F_rational_Sum) := rfl
theorem d_slices_Clone_Sbool_bool : D0 fn_slices_Clone_Sbool_bool = some (.code false F_slices_Clone_Sbool_bool) := rfl
theorem d_slices_ContainsFunc_Sint_int : D0 fn_slices_ContainsFunc_Sint_int = some (.code false F_slices_ContainsFunc_Sint_int) := rfl
theorem d_clearing_closed_1 : D0 fn_clearing_closed_1 = some (.code true F_clearing_closed_1) := rfl
theorem d_clearing_leaks : D0 fn_clearing_leaks = some (.code true F_clearing_leaks) := rfl
theorem d_linear_Kernel : D0 fn_linear_Kernel = some (.code true F_linear_Kernel) := rfl
theorem d_clearing_sub : D0 fn_clearing_sub = some (.code true F_clearing_sub) := rfl
theorem d_clearing_spread : D0 fn_clearing_spread = some (.code false F_clearing_spread) := rfl
theorem d_rational_Negate : D0 fn_rational_Negate = some (.code true F_rational_Negate) := rfl
theorem d_linear_Solve : D0 fn_linear_Solve = some (.code true F_linear_Solve) := rfl
theorem d_clearing_system_nearest_1 : D0 fn_clearing_system_nearest_1 = some (.code false F_clearing_system_nearest_1) := rfl
theorem d_rational_Divide : D0 fn_rational_Divide = some (.code true F_rational_Divide) := rfl
theorem d_waterfall_Layout_Next : D0 fn_waterfall_Layout_Next = some (.code true F_waterfall_Layout_Next) := rfl
theorem d_rational_Multiply : D0 fn_rational_Multiply = some (.code true F_rational_Multiply) := rfl
theorem d_ref1_Signum : D0 fn_ref1_Signum = some (.code true F_ref1_Signum) := rfl
theorem d_ref1_Valid : D0 fn_ref1_Valid = some (.code true F_ref1_Valid) := rfl
theorem d_ref1_limbs : D0 fn_ref1_limbs = some (.code true F_ref1_limbs) := rfl
theorem d_ref1_order : D0 fn_ref1_order = some (.code true F_ref1_order) := rfl
theorem d_ref17_earlier : D0 fn_ref17_earlier = some (.code true F_ref17_earlier) := rfl
theorem d_slices_ContainsFunc_SSapi_Part_Sapi_Part : D0 fn_slices_ContainsFunc_SSapi_Part_Sapi_Part = some (.code false F_slices_ContainsFunc_SSapi_Part_Sapi_Part) := rfl
theorem d_waterfall_checkAgreement_1 : D0 fn_waterfall_checkAgreement_1 = some (.code true F_waterfall_checkAgreement_1) := rfl
theorem d_slices_Concat_Sapi_Part_api_Part : D0 fn_slices_Concat_Sapi_Part_api_Part = some (.code true F_slices_Concat_Sapi_Part_api_Part) := rfl
theorem d_slices_Compact_Sint_int : D0 fn_slices_Compact_Sint_int = some (.code false F_slices_Compact_Sint_int) := rfl
theorem d_rational_Min : D0 fn_rational_Min = some (.code true F_rational_Min) := rfl
theorem d_waterfall_ladder_split : D0 fn_waterfall_ladder_split = some (.code true F_waterfall_ladder_split) := rfl
theorem d_waterfall_result_add : D0 fn_waterfall_result_add = some (.code false F_waterfall_result_add) := rfl
theorem d_waterfall_result_share : D0 fn_waterfall_result_share = some (.code false F_waterfall_result_share) := rfl
theorem d_rational_Valid : D0 fn_rational_Valid = some (.code true F_rational_Valid) := rfl
theorem d_natural_Normalize : D0 fn_natural_Normalize = some (.code true F_natural_Normalize) := rfl
theorem d_natural_sign : D0 fn_natural_sign = some (.code true F_natural_sign) := rfl
theorem d_natural_parse : D0 fn_natural_parse = some (.code true F_natural_parse) := rfl
theorem d_natural_limbs_text : D0 fn_natural_limbs_text = some (.code true F_natural_limbs_text) := rfl
theorem d_natural_Add : D0 fn_natural_Add = some (.code true F_natural_Add) := rfl
theorem d_natural_Subtract : D0 fn_natural_Subtract = some (.code true F_natural_Subtract) := rfl
theorem d_natural_GCD : D0 fn_natural_GCD = some (.code true F_natural_GCD) := rfl
theorem d_natural_Divide : D0 fn_natural_Divide = some (.code true F_natural_Divide) := rfl
theorem d_natural_FromUint : D0 fn_natural_FromUint = some (.code true F_natural_FromUint) := rfl
theorem d_waterfall_Layout_rates : D0 fn_waterfall_Layout_rates = some (.code true F_waterfall_Layout_rates) := rfl
theorem d_waterfall_ladder_slope : D0 fn_waterfall_ladder_slope = some (.code false F_waterfall_ladder_slope) := rfl
theorem d_slices_IndexFunc_Sint_int : D0 fn_slices_IndexFunc_Sint_int = some (.code false F_slices_IndexFunc_Sint_int) := rfl
theorem d_linear_Reduce : D0 fn_linear_Reduce = some (.code true F_linear_Reduce) := rfl
theorem d_slices_Contains_Sint_int : D0 fn_slices_Contains_Sint_int = some (.code true F_slices_Contains_Sint_int) := rfl
theorem d_linear_square : D0 fn_linear_square = some (.code true F_linear_square) := rfl
theorem d_linear_clean : D0 fn_linear_clean = some (.code false F_linear_clean) := rfl
theorem d_linear_integers : D0 fn_linear_integers = some (.code false F_linear_integers) := rfl
theorem d_slices_IndexFunc_SSlinear_integer_Slinear_integer : D0 fn_slices_IndexFunc_SSlinear_integer_Slinear_integer = some (.code false F_slices_IndexFunc_SSlinear_integer_Slinear_integer) := rfl
theorem d_linear_Solve_1 : D0 fn_linear_Solve_1 = some (.code true F_linear_Solve_1) := rfl
theorem d_linear_eliminate : D0 fn_linear_eliminate = some (.code false F_linear_eliminate) := rfl
theorem d_rational_Make : D0 fn_rational_Make = some (.code true F_rational_Make) := rfl
theorem d_waterfall_Layout_step : D0 fn_waterfall_Layout_step = some (.code true F_waterfall_Layout_step) := rfl
theorem d_slices_Equal_Sapi_Rat_api_Rat : D0 fn_slices_Equal_Sapi_Rat_api_Rat = some (.code true F_slices_Equal_Sapi_Rat_api_Rat) := rfl
theorem d_ref17_member : D0 fn_ref17_member = some (.code true F_ref17_member) := rfl
theorem d_ref1_Normalize : D0 fn_ref1_Normalize = some (.code true F_ref1_Normalize) := rfl
theorem d_ref1_GCD : D0 fn_ref1_GCD = some (.code true F_ref1_GCD) := rfl
theorem d_ref1_strip : D0 fn_ref1_strip = some (.code false F_ref1_strip) := rfl
theorem d_ref1_common : D0 fn_ref1_common = some (.code true F_ref1_common) := rfl
theorem d_ref1_divide : D0 fn_ref1_divide = some (.code true F_ref1_divide) := rfl
theorem d_ref1_text : D0 fn_ref1_text = some (.code true F_ref1_text) := rfl
theorem d_slices_IndexFunc_SSapi_Part_Sapi_Part : D0 fn_slices_IndexFunc_SSapi_Part_Sapi_Part = some (.code false F_slices_IndexFunc_SSapi_Part_Sapi_Part) := rfl
theorem d_slices_Grow_Sapi_Part_api_Part : D0 fn_slices_Grow_Sapi_Part_api_Part = some (.code false F_slices_Grow_Sapi_Part_api_Part) := rfl
theorem d_strings_TrimLeft : D0 fn_strings_TrimLeft = some (.code true F_strings_TrimLeft) := rfl
theorem d_natural_limbs_trim : D0 fn_natural_limbs_trim = some (.code false F_natural_limbs_trim) := rfl
theorem d_bits_Add32 : D0 fn_bits_Add32 = some (.code true F_bits_Add32) := rfl
theorem d_natural_compare : D0 fn_natural_compare = some (.code true F_natural_compare) := rfl
theorem d_natural_subtract : D0 fn_natural_subtract = some (.code true F_natural_subtract) := rfl
theorem d_natural_divide : D0 fn_natural_divide = some (.code true F_natural_divide) := rfl
theorem d_linear_check : D0 fn_linear_check = some (.code true F_linear_check) := rfl
theorem d_linear_reduce : D0 fn_linear_reduce = some (.code false F_linear_reduce) := rfl
theorem d_slices_Index_Sint_int : D0 fn_slices_Index_Sint_int = some (.code true F_slices_Index_Sint_int) := rfl
theorem d_linear_denominator : D0 fn_linear_denominator = some (.code true F_linear_denominator) := rfl
theorem d_linear_integer_times : D0 fn_linear_integer_times = some (.code true F_linear_integer_times) := rfl
theorem d_linear_integer_minus : D0 fn_linear_integer_minus = some (.code true F_linear_integer_minus) := rfl
theorem d_linear_integer_over : D0 fn_linear_integer_over = some (.code true F_linear_integer_over) := rfl
theorem d_waterfall_ladder_gap : D0 fn_waterfall_ladder_gap = some (.code true F_waterfall_ladder_gap) := rfl
theorem d_ref1_short : D0 fn_ref1_short = some (.code true F_ref1_short) := rfl
theorem d_ref1_long : D0 fn_ref1_long = some (.code true F_ref1_long) := rfl
theorem d_bits_Len32 : D0 fn_bits_Len32 = some (.code true F_bits_Len32) := rfl
theorem d_strings_trimLeftByte : D0 fn_strings_trimLeftByte = some (.code true F_strings_trimLeftByte) := rfl
theorem d_strings_makeASCIISet : D0 fn_strings_makeASCIISet = some (.code true F_strings_makeASCIISet) := rfl
theorem d_strings_trimLeftASCII : D0 fn_strings_trimLeftASCII = some (.code true F_strings_trimLeftASCII) := rfl
theorem d_strings_trimLeftUnicode : D0 fn_strings_trimLeftUnicode = some (.code true F_strings_trimLeftUnicode) := rfl
theorem d_bits_Sub32 : D0 fn_bits_Sub32 = some (.code true F_bits_Sub32) := rfl
theorem d_natural_divideSmall : D0 fn_natural_divideSmall = some (.code true F_natural_divideSmall) := rfl
theorem d_bits_LeadingZeros32 : D0 fn_bits_LeadingZeros32 = some (.code true F_bits_LeadingZeros32) := rfl
theorem d_natural_shift : D0 fn_natural_shift = some (.code false F_natural_shift) := rfl
theorem d_natural_step : D0 fn_natural_step = some (.code false F_natural_step) := rfl
theorem d_natural_unshift : D0 fn_natural_unshift = some (.code true F_natural_unshift) := rfl
theorem d_linear_pivot : D0 fn_linear_pivot = some (.code true F_linear_pivot) := rfl
theorem d_linear_isZero : D0 fn_linear_isZero = some (.code true F_linear_isZero) := rfl
theorem d_linear_minus : D0 fn_linear_minus = some (.code false F_linear_minus) := rfl
theorem d_ref1_shifted : D0 fn_ref1_shifted = some (.code false F_ref1_shifted) := rfl
theorem d_strings_asciiSet_contains : D0 fn_strings_asciiSet_contains = some (.code true F_strings_asciiSet_contains) := rfl
theorem d_utf8_DecodeRuneInString : D0 fn_utf8_DecodeRuneInString = some (.code true F_utf8_DecodeRuneInString) := rfl
theorem d_strings_ContainsRune : D0 fn_strings_ContainsRune = some (.code true F_strings_ContainsRune) := rfl
theorem d_utf8_decodeRuneInStringSlow : D0 fn_utf8_decodeRuneInStringSlow = some (.code true F_utf8_decodeRuneInStringSlow) := rfl
theorem d_strings_IndexRune : D0 fn_strings_IndexRune = some (.code true F_strings_IndexRune) := rfl
theorem d_strings_IndexByte : D0 fn_strings_IndexByte = some (.code true F_strings_IndexByte) := rfl
theorem d_utf8_ValidRune : D0 fn_utf8_ValidRune = some (.code true F_utf8_ValidRune) := rfl
theorem d_stringslite_IndexByte : D0 fn_stringslite_IndexByte = some (.code true F_stringslite_IndexByte) := rfl
end Go.Proofs.Vm
/-! Numbers as values; the first functions of the package natural. -/
namespace Go.Proofs.Vm
open Go Go.Proofs.Na

theorem w8 {x : Int} (h0 : 0 ≤ x) (h : x < 256) : IntKind.u8.wrap x = x := by simp [IntKind.wrap, IntKind.bits, IntKind.signed]; omega
theorem w32 {x : Int} (h0 : 0 ≤ x) (h : x < 4294967296) : IntKind.u32.wrap x = x := by simp [IntKind.wrap, IntKind.bits, IntKind.signed]; omega
theorem w64 {x : Int} (h0 : 0 ≤ x) (h : x < 18446744073709551616) : IntKind.u64.wrap x = x := by simp [IntKind.wrap, IntKind.bits, IntKind.signed]; omega
theorem wi {x : Int} (h0 : -9223372036854775808 ≤ x) (h : x < 9223372036854775808) : IntKind.i64.wrap x = x := by simp [IntKind.wrap, IntKind.bits, IntKind.signed]; omega
theorem w8m (x : Int) : IntKind.u8.wrap x = x % 256 := by simp [IntKind.wrap, IntKind.bits, IntKind.signed]
theorem w32m (x : Int) : IntKind.u32.wrap x = x % 4294967296 := by simp [IntKind.wrap, IntKind.bits, IntKind.signed]
theorem w64m (x : Int) : IntKind.u64.wrap x = x % 18446744073709551616 := by simp [IntKind.wrap, IntKind.bits, IntKind.signed]
theorem fdivN (x : Int) (n : Nat) : x.fdiv (n : Int) = x / (n : Int) := Int.fdiv_eq_ediv_of_nonneg x (Int.natCast_nonneg n)

abbrev u32 (n : Nat) : V := .lit (.int .u32 n)
abbrev u64 (n : Nat) : V := .lit (.int .u64 n)
abbrev u8 (n : Nat) : V := .lit (.int .u8 n)
/-- Limbs, as cells. -/
def lm (l : List Nat) : List V := l.map fun n => u32 n
def bm (l : List Nat) : List V := l.map fun n => u8 n
theorem lm_len (l : List Nat) : (lm l).length = l.length := by simp [lm]
theorem bm_len (l : List Nat) : (bm l).length = l.length := by simp [bm]

theorem c_add32 {a b c : Nat} {H : List O} {K : V → List O → Prop} (ha : a < 4294967296) (hb : b < 4294967296) (hc : c ≤ 1) :
    Fx D0 fn_bits_Add32 [u32 a, u32 b, u32 c] H K = K (.tup [u32 ((a + b + c) % 4294967296), u32 ((a + b + c) / 4294967296)]) H := by
  refine Fx_is ?_ K
  refine Fx_ofp d_bits_Add32 rfl ?_
  simp [go_sem, F_bits_Add32]
  simp (disch := omega) only [w64]
  rw [w32m, w32m, show (4294967296 : Int) = ((4294967296 : Nat) : Int) from rfl, fdivN]
  omega
theorem tb31 {n : Nat} (h : n < 4294967296) : n.testBit 31 = decide (2147483648 ≤ n) := by
  rw [Nat.testBit_eq_decide_div_mod_eq]; simp; omega
theorem div31 {n : Nat} (h : n < 4294967296) : n / 2147483648 = (n.testBit 31).toNat := by
  rw [tb31 h]
  by_cases h2 : 2147483648 ≤ n
  · simp [h2]; omega
  · simp [h2]; omega
theorem borrow32 {a b d : Nat} (ha : a < 4294967296) (hb : b < 4294967296) (hd : d < 4294967296) :
    (((4294967295 ^^^ a) &&& b) ||| ((4294967295 ^^^ (a ^^^ b)) &&& d)) / 2147483648 = ((!a.testBit 31 && b.testBit 31) || ((a.testBit 31 == b.testBit 31) && d.testBit 31)).toNat := by
  have h1 : (4294967295 ^^^ a) &&& b < 4294967296 := Nat.lt_of_le_of_lt Nat.and_le_right hb
  have h2 : (4294967295 ^^^ (a ^^^ b)) &&& d < 4294967296 := Nat.lt_of_le_of_lt Nat.and_le_right hd
  rw [div31 (Nat.or_lt_two_pow (n := 32) h1 h2)]
  simp only [Nat.testBit_or, Nat.testBit_and, Nat.testBit_xor]
  have h3 : (4294967295 : Nat).testBit 31 = true := by decide
  rw [h3]
  cases a.testBit 31 <;> cases b.testBit 31 <;> cases d.testBit 31 <;> rfl
theorem c_sub32 {a b c : Nat} {H : List O} {K : V → List O → Prop} (ha : a < 4294967296) (hb : b < 4294967296) (hc : c ≤ 1) :
    Fx D0 fn_bits_Sub32 [u32 a, u32 b, u32 c] H K = K (.tup [u32 ((a + 4294967296 - b + (4294967296 - c)) % 4294967296), u32 (if a < b + c then 1 else 0)]) H := by
  refine Fx_is ?_ K
  refine Fx_ofp d_bits_Sub32 rfl ?_
  simp [go_sem, F_bits_Sub32]
  have hmax : (if IntKind.u32.signed = true then -1 else IntKind.u32.max) = ((4294967295 : Nat) : Int) := rfl
  generalize hd : (a + 4294967296 - b + (4294967296 - c)) % 4294967296 = d
  have hdl : d < 4294967296 := by omega
  have e1 : IntKind.u32.wrap (IntKind.u32.wrap (a - b) - c) = (d : Int) := by rw [w32m, w32m]; omega
  have e2 : ((a + 4294967296 - b : Nat) + (4294967296 - c : Nat) : Int) % 4294967296 = (d : Int) := by omega
  have x1 : a ^^^ b < 4294967296 := Nat.xor_lt_two_pow (n := 32) ha hb
  have x2 : 4294967295 ^^^ a < 4294967296 := Nat.xor_lt_two_pow (n := 32) (by decide) ha
  have x3 : 4294967295 ^^^ (a ^^^ b) < 4294967296 := Nat.xor_lt_two_pow (n := 32) (by decide) x1
  have x4 : (4294967295 ^^^ a) &&& b < 4294967296 := Nat.lt_of_le_of_lt Nat.and_le_right hb
  have x5 : (4294967295 ^^^ (a ^^^ b)) &&& d < 4294967296 := Nat.lt_of_le_of_lt Nat.and_le_right hdl
  rw [e1, e2, hmax, u32_xor_nat _ _ (by decide) ha, u32_and_nat _ _ x2 hb, u32_xor_nat _ _ ha hb, u32_xor_nat _ _ (by decide) x1, u32_and_nat _ _ x3 hdl, u32_or_nat _ _ x4 x5]
  refine ⟨rfl, ?_⟩
  rw [show (2147483648 : Int) = ((2147483648 : Nat) : Int) from rfl, fdivN, ← Int.natCast_ediv, borrow32 ha hb hdl, tb31 ha, tb31 hb, tb31 hdl]
  congr 1
  by_cases p1 : 2147483648 ≤ a <;> by_cases p2 : 2147483648 ≤ b <;> by_cases p3 : 2147483648 ≤ d <;> simp [p1, p2, p3] <;> omega
end Go.Proofs.Vm
/-! Slices as such: elements, parts, what a call that only reads sees of them. -/
namespace Go.Proofs.Vm
open Go

section
variable {H : List O} {K : V → List O → Prop} {sz len i k z : Nat} {v : V} {l : List V} {q : IntKind} {n : Int}

/-- A pointer to a cell of a slice's element. -/
def elemP (sz : Nat) (v : V) (i k : Nat) : V := match v with
  | .osl h off _ => .optr h (off + i * sz + k)
  | .fsl t l _ => .fptr t l (i * sz + k)
  | _ => .none_
theorem slice_inv (hv : sliceV H sz v = some (l, len)) : (v = .nils ∨ v = .zsl) ∧ l = [] ∧ len = 0 ∨ (∃ b off L t, v = .osl b off len ∧ H[b]? = some (.cells L t sz) ∧ off + len * sz ≤ L.length ∧ l = (L.drop off).take (len * sz)) ∨ ∃ t, v = .fsl t l len ∧ l.length = len * sz := by
  cases v with
  | zsl => cases hv; exact .inl ⟨.inr rfl, rfl, rfl⟩
  | osl b off n =>
    simp only [sliceV] at hv
    cases hb : H[b]? with
    | none => simp [getO, hb] at hv
    | some o =>
      cases o with
      | cells L t z =>
        simp only [getO, hb] at hv
        by_cases hc : z = sz ∧ off + n * sz ≤ L.length
        · rw [if_pos hc] at hv
          cases hv
          obtain ⟨rfl, hc⟩ := hc
          exact .inr (.inl ⟨b, off, L, t, rfl, hb, hc, rfl⟩)
        · rw [if_neg hc] at hv; cases hv
      | _ => simp [getO, hb] at hv
  | fsl t L n =>
    simp only [sliceV] at hv
    by_cases hc : L.length = n * sz
    · rw [if_pos hc] at hv; cases hv; exact .inr (.inr ⟨t, rfl, hc⟩)
    · rw [if_neg hc] at hv; cases hv
  | lit u =>
    unfold sliceV at hv
    split at hv
    · rename_i e; cases hv; exact .inl ⟨.inl e, rfl, rfl⟩
    · rename_i e; cases e
    · rename_i e; cases e
    · rename_i e; cases e
    · cases hv
  | _ => simp [sliceV] at hv
theorem slice_own {b off n : Nat} {L : List V} {t : TypeId} (hb : H[b]? = some (.cells L t sz)) (h : off + n * sz ≤ L.length) : sliceV H sz (.osl b off n) = some ((L.drop off).take (n * sz), n) := by
  simp [sliceV, getO, hb, h]
theorem slice_fsl {t : Bool} {n : Nat} (h : l.length = n * sz) : sliceV H sz (.fsl t l n) = some (l, n) := by simp [sliceV, h]
theorem slice_len (hv : sliceV H sz v = some (l, len)) : l.length = len * sz := by
  rcases slice_inv hv with ⟨_, rfl, rfl⟩ | ⟨b, off, L, t, rfl, hb, h, rfl⟩ | ⟨t, rfl, h⟩
  · simp
  · simp; omega
  · exact h
theorem len_s (hv : sliceV H sz v = some (l, len)) : lenV v = some len := by
  rcases slice_inv hv with ⟨rfl | rfl, rfl, rfl⟩ | ⟨b, off, L, t, rfl, hb, h, rfl⟩ | ⟨t, rfl, h⟩ <;> rfl
theorem len_pos (hl : l.length = len * sz) (h : 0 < l.length) : 0 < len := by
  rcases Nat.eq_zero_or_pos len with h1 | h1
  · subst h1; simp at hl; rw [hl] at h; exact absurd h (Nat.lt_irrefl _)
  · exact h1
theorem slice_cases (hv : sliceV H sz v = some (l, len)) (h : 0 < len) : (∃ b off L t, v = .osl b off len ∧ H[b]? = some (.cells L t sz) ∧ off + len * sz ≤ L.length ∧ l = (L.drop off).take (len * sz)) ∨ ∃ t, v = .fsl t l len ∧ l.length = len * sz := by
  rcases slice_inv hv with ⟨_, _, rfl⟩ | h | h
  · omega
  · exact .inl h
  · exact .inr h
theorem ia_s (hv : sliceV H sz v = some (l, len)) (h0 : 0 < sz) (hn : 0 ≤ n ∧ n < len) : iaK sz v (.lit (.int q n)) H K = K (elemP sz v n.toNat 0) H := by
  rcases slice_cases hv (by omega) with ⟨b, off, L, t, rfl, hb, hl, rfl⟩ | ⟨t, rfl, hl⟩
  · rw [ia_osl]; simp only [elemP, Nat.add_zero]
    simp only [hn.1, hn.2, and_self, true_and]
  · rw [ia_fsl]
    have : n.toNat * sz < l.length := by
      rw [hl]; exact Nat.mul_lt_mul_of_pos_right (by omega) h0
    simp only [elemP, Nat.add_zero, hn.1, hn.2, this, and_self, true_and]
theorem ld_s (hv : sliceV H sz v = some (l, len)) (hi : i * sz + k < l.length) : ldK none (elemP sz v i k) H K = K l[i * sz + k] H := by
  have hl := slice_len hv
  rcases slice_cases hv (len_pos hl (by omega)) with ⟨b, off, L, t, rfl, hb, hl, rfl⟩ | ⟨t, rfl, hl⟩
  · simp only [elemP, ld_o, hb, ldO_c, read_n]
    have h1 : L[off + i * sz + k]? = some (((L.drop off).take (len * sz))[i * sz + k]) := by
      simp at hi
      rw [List.getElem?_eq_getElem (by omega)]
      simp [Nat.add_assoc]
    rw [h1]; rfl
  · simp only [elemP, ld_f, read_n, List.getElem?_eq_getElem hi]; rfl
theorem lds_s (hv : sliceV H sz v = some (l, len)) (hz : 0 < z) (hi : i * sz + k + z ≤ l.length) : ldK (some z) (elemP sz v i k) H K = K (.agg ((l.drop (i * sz + k)).take z)) H := by
  have hl := slice_len hv
  rcases slice_cases hv (len_pos hl (by omega)) with ⟨b, off, L, t, rfl, hb, hl, rfl⟩ | ⟨t, rfl, hl⟩
  · simp only [elemP, ld_o, hb, ldO_c, read_s]
    have h1 : off + i * sz + k + z ≤ L.length := by simp at hi; omega
    have h2 : (L.drop (off + i * sz + k)).take z = (((L.drop off).take (len * sz)).drop (i * sz + k)).take z := by
      rw [List.drop_take, List.drop_drop, List.take_take, Nat.add_assoc]
      congr 1
      simp at hi; omega
    rw [h2]; simp [h1]
  · simp only [elemP, ld_f, read_s]
    simp [hi]
theorem off_s {j : Nat} (hv : sliceV H sz v = some (l, len)) (h : 0 < len) : offV j (elemP sz v i k) = some (elemP sz v i (k + j)) := by
  rcases slice_cases hv h with ⟨b, off, L, t, rfl, hb, hl, rfl⟩ | ⟨t, rfl, hl⟩
  · simp only [elemP, off_o, Nat.add_assoc]
  · simp only [elemP, off_f, Nat.add_assoc]

/-- The first elements of a slice. -/
def takeV (sz : Nat) (v : V) (k : Nat) : V := match v with
  | .lit _ => .nils
  | .osl h off _ => .osl h off k
  | .fsl t l _ => .fsl t (l.take (k * sz)) k
  | v => v
theorem take_s (hv : sliceV H sz v = some (l, len)) (hn : 0 ≤ n ∧ n ≤ len) : slcK sz v none (some (.lit (.int q n))) none H K = K (takeV sz v n.toNat) H := by
  have hne : ¬ ((0 : Int) = n ∧ (0 : Int) ≠ 0) := fun h => h.2 rfl
  rcases slice_inv hv with ⟨rfl | rfl, rfl, rfl⟩ | ⟨b, off, L, t, rfl, hb, h, rfl⟩ | ⟨t, rfl, h⟩
  · have : n = 0 := by omega
    subst this
    simp [slcK, wpI, evI, lenV, Opd.ev, optI, wpO, takeV]
  · have : n = 0 := by omega
    subst this
    simp [slcK, wpI, evI, lenV, Opd.ev, optI, wpO, takeV]
  · simp only [slcK, Option.map_none, Option.map_some, wpI, evI, lenV, Opd.ev, optI, Int.le_refl, hn, true_and, if_true, takeV, hne, if_false, true_or, wpO, and_self]
    simp
  · simp only [slcK, Option.map_none, Option.map_some, wpI, evI, lenV, Opd.ev, optI, Int.le_refl, hn, true_and, if_true, takeV, h, wpO, and_self]
    simp
theorem take_slice (hv : sliceV H sz v = some (l, len)) (hk : k ≤ len) : sliceV H sz (takeV sz v k) = some (l.take (k * sz), k) := by
  rcases slice_inv hv with ⟨rfl | rfl, rfl, rfl⟩ | ⟨b, off, L, t, rfl, hb, h, rfl⟩ | ⟨t, rfl, h⟩
  · have : k = 0 := by omega
    subst this; simp [takeV, sliceV]
  · have : k = 0 := by omega
    subst this; simp [takeV, sliceV]
  · have h1 : k * sz ≤ len * sz := Nat.mul_le_mul_right _ hk
    simp only [takeV]
    rw [slice_own hb (by omega), List.take_take, Nat.min_eq_left h1]
  · have h1 : k * sz ≤ len * sz := Nat.mul_le_mul_right _ hk
    simp only [takeV]
    rw [slice_fsl (by simp; omega)]

/-- What a call that only reads sees of a slice. -/
def frzV (v : V) (l : List V) (len : Nat) : V := match v with
  | .osl _ _ _ => .fsl true l len
  | v => v
def isLit : V → Bool
  | .lit _ => true
  | _ => false
theorem mapM_lit {f : V → Option V} (hf : ∀ u, f (.lit u) = some (.lit u)) : ∀ {l : List V}, l.all isLit = true → l.mapM f = some l
  | [], _ => rfl
  | x :: l, h => by
    simp only [List.all_cons, Bool.and_eq_true] at h
    have hx : f x = some x := by
      cases x with
      | lit u => exact hf u
      | _ => cases h.1
    rw [mapM_cons', hx, mapM_lit hf h.2]; rfl
theorem frz0 {u : Value} {d : Nat} : frz H (d + 1) (.lit u) = some (.lit u) := _root_.id rfl
theorem frz_osl {b off n d : Nat} : frz H (d + 1) (.osl b off n) = match getO H b with
      | some (l, _, sz) => if off + n * sz ≤ l.length then (((l.drop off).take (n * sz)).mapM (frz H d)).map fun l => .fsl true l n else none
      | none => none := _root_.id rfl
theorem frz_s (hv : sliceV H sz v = some (l, len)) (hl : l.all isLit = true) : frz H depth v = some (frzV v l len) := by
  rcases slice_inv hv with ⟨rfl | rfl, rfl, rfl⟩ | ⟨b, off, L, t, rfl, hb, h, rfl⟩ | ⟨t, rfl, h⟩
  · rfl
  · rfl
  · rw [show depth = 11 + 1 from rfl, frz_osl, getO, hb]
    simp only [h, if_true, frzV]
    rw [mapM_lit (fun u => frz0) hl]; rfl
  · rfl
theorem frzV_slice (hv : sliceV H sz v = some (l, len)) (H' : List O) : sliceV H' sz (frzV v l len) = some (l, len) := by
  have hle := slice_len hv
  rcases slice_inv hv with ⟨rfl | rfl, rfl, rfl⟩ | ⟨b, off, L, t, rfl, hb, h, rfl⟩ | ⟨t, rfl, h⟩
  · rfl
  · rfl
  · simp only [frzV]; exact slice_fsl hle
  · simp only [frzV]; exact slice_fsl hle
theorem frz_lit {u : Value} : frz H depth (.lit u) = some (.lit u) := _root_.id rfl

/-- An own slice that a call hands back. -/
theorem out_own {h off : Nat} {L : List V} {t : TypeId} (hh : H[h]? = some (.cells L t sz)) (hb : off + len * sz ≤ L.length) (hl : ((L.drop off).take (len * sz)).all isLit = true) : out H depth (.osl h off len) = some (.fsl false ((L.drop off).take (len * sz)) len) := by
  have hg : getO H h = some (L, t, sz) := by unfold getO; rw [hh]
  rw [out_osl, hg]
  simp only [hb, if_true]
  rw [mapM_lit (fun u => out1_lit) hl]; rfl
theorem out1_own {h off : Nat} {L : List V} {t : TypeId} (hh : H[h]? = some (.cells L t sz)) (hb : off + len * sz ≤ L.length) (hl : ((L.drop off).take (len * sz)).all isLit = true) : out H 11 (.osl h off len) = some (.fsl false ((L.drop off).take (len * sz)) len) := by
  have hg : getO H h = some (L, t, sz) := by unfold getO; rw [hh]
  rw [out1_osl, hg]
  simp only [hb, if_true]
  rw [mapM_lit (fun u => out2_lit) hl]; rfl
end
end Go.Proofs.Vm
/-! The package natural: trim. -/
namespace Go.Proofs.Vm
open Go Go.Proofs.Na

/-- A slice of limbs. -/
def SL (H : List O) (v : V) (l : List Nat) : Prop := sliceV H 1 v = some (lm l, l.length)
theorem lm_lit (l : List Nat) : (lm l).all isLit = true := by simp [lm, isLit]
theorem lm_get {l : List Nat} {i : Nat} (h : i < (lm l).length) : (lm l)[i] = u32 (l[i]'(by simpa [lm] using h)) := by simp [lm]

/-- How many limbs there are up to the last one that is not 0. -/
def trimN : List Nat → Nat
  | [] => 0
  | a :: l => if trimN l = 0 then (if a = 0 then 0 else 1) else trimN l + 1
theorem trimN_le (l : List Nat) : trimN l ≤ l.length := by
  induction l with
  | nil => simp [trimN]
  | cons a l ih => simp only [trimN, List.length_cons]; split <;> (try split) <;> omega
theorem trimN_zero {l : List Nat} {i : Nat} (h : trimN l ≤ i) (hi : i < l.length) : l[i] = 0 := by
  induction l generalizing i with
  | nil => simp at hi
  | cons a l ih =>
    simp only [trimN] at h
    cases i with
    | zero => split at h <;> (try split at h) <;> first | omega | simp_all
    | succ i =>
      simp only [List.getElem_cons_succ]
      apply ih
      split at h <;> omega
theorem trimN_last {l : List Nat} (h : 0 < trimN l) (hi : trimN l - 1 < l.length) : l[trimN l - 1] ≠ 0 := by
  induction l with
  | nil => simp at hi
  | cons a l ih =>
    simp only [trimN] at h hi ⊢
    by_cases h1 : trimN l = 0
    · simp only [h1, if_true] at h hi ⊢
      by_cases h2 : a = 0
      · simp [h2] at h
      · simp [h2]
    · simp only [h1, if_false] at h hi ⊢
      have h3 := ih (by omega) (by have := trimN_le l; omega)
      have h4 : trimN l + 1 - 1 = (trimN l - 1) + 1 := by omega
      simp only [h4, List.getElem_cons_succ]
      exact h3
theorem trimN_is {l : List Nat} {n : Nat} (hn : n ≤ l.length) (hz : ∀ i (h : i < l.length), n ≤ i → l[i] = 0) (hl : n = 0 ∨ ∃ h : n - 1 < l.length, l[n - 1] ≠ 0) : trimN l = n := by
  have h1 := trimN_le l
  rcases Nat.lt_trichotomy (trimN l) n with h | h | h
  · exfalso
    rcases hl with h2 | ⟨h2, h3⟩
    · omega
    · exact h3 (trimN_zero (by omega) h2)
  · exact h
  · exfalso
    exact trimN_last (l := l) (by omega) (by omega) (hz _ (by omega) (by omega))
theorem lv_trim (l : List Nat) : lv (l.take (trimN l)) = lv l := by
  have : lv (l.drop (trimN l)) = 0 := by
    have h : l.drop (trimN l) = List.replicate (l.length - trimN l) 0 := by
      apply List.ext_getElem
      · simp
      · intro i h1 h2
        simp only [List.getElem_drop, List.getElem_replicate]
        exact trimN_zero (by omega) _
    rw [h, lv_zeros]
  have h2 := lv_append (l.take (trimN l)) (l.drop (trimN l))
  rw [List.take_append_drop, this] at h2
  rw [h2]; simp

theorem take_trim {l : List Nat} (h : Limbs l) : l.take (trimN l) = lb (lv l) := by
  rw [← lv_trim l, lb_lv (fun x hx => h x (List.mem_of_mem_take hx)) fun h0 => ?_]
  have hle := trimN_le l
  simp only [List.length_take, Nat.min_eq_left hle] at h0 ⊢
  rw [List.getElem_take]
  exact trimN_last h0 (by omega)

theorem c_trim {H : List O} {v : V} {l : List Nat} (hv : SL H v l) (hlen : l.length < 9223372036854775808) (K : V → List O → Prop) :
    Fx D0 fn_natural_limbs_trim [v] H K = K (takeV 1 v (trimN l)) H := by
  refine Fx_is ?_ K
  refine Fx_of d_natural_limbs_trim ?_
  have hv' : sliceV H 1 v = some (lm l, l.length) := hv
  have hle := len_s hv'
  simp [go_sem, F_natural_limbs_trim, hle]
  refine Bx_rounds (fun n s X => X = H ∧ s 0 = v ∧ s 3 = .int (n : Int) ∧ n ≤ l.length ∧ ∀ i (h : i < l.length), n ≤ i → l[i] = 0) ?_ l.length _ _ ⟨rfl, rfl, rfl, Nat.le_refl _, fun i h1 h2 => by omega⟩
  rintro n s X ⟨rfl, h0, h3, hn, hz⟩
  refine wpB_ok ?_
  by_cases hn0 : n = 0
  · subst hn0
    have e := trimN_is (l := l) (n := 0) (by omega) hz (.inl rfl)
    simp [go_sem, h0, h3]
    rw [take_s hv' (by omega)]
    simp [go_sem, e]
  · have w1 : IntKind.i64.wrap ((n : Int) - 1) = ((n - 1 : Nat) : Int) := by rw [wi (by omega) (by omega)]; omega
    have hlt : n - 1 < l.length := by omega
    have hp : 0 < n := by omega
    simp [go_sem, h0, h3, hp, w1]
    rw [ia_s hv' (by omega) (by omega)]
    simp [go_sem, h0, h3, w1]
    rw [ld_s hv' (by simp [lm_len]; omega)]
    simp [go_sem, h0, h3, w1, lm_get]
    by_cases hx : l[n - 1] = 0
    · simp [go_sem, h0, h3, hx, w1]
      refine ⟨n - 1, by omega, rfl, by omega, fun i h1 h2 => ?_⟩
      by_cases e : i = n - 1
      · subst e; exact hx
      · exact hz i h1 (by omega)
    · have hx' : ((l[n - 1] : Int) == 0) = false := by simp; exact hx
      have e := trimN_is (l := l) (n := n) hn hz (.inr ⟨hlt, hx⟩)
      simp [go_sem, h0, h3, hx]
      rw [take_s hv' (by omega)]
      simp [go_sem, e]
end Go.Proofs.Vm
/-! Strings; the package natural: Normalize. -/
namespace Go.Proofs.Vm
open Go Go.Proofs.Na

/-- A string, by its bytes. -/
abbrev st (l : List UInt8) : V := .lit (.string ⟨l.toArray⟩)
theorem st_all (b : ByteArray) : V.lit (.string b) = st b.data.toList := by simp
theorem st_size (l : List UInt8) : (⟨l.toArray⟩ : ByteArray).size = l.length := by simp [ByteArray.size]
theorem st_get {l : List UInt8} {i : Nat} (h : i < (⟨l.toArray⟩ : ByteArray).size) : (⟨l.toArray⟩ : ByteArray)[i] = l[i]'(by simpa [ByteArray.size] using h) := by
  simp [ByteArray.getElem_eq_getElem_data]
section
variable {H : List O} {K : V → List O → Prop} {l m : List UInt8} {n : Int} {k : IntKind}
theorem slen_st : ev1 (.slen (.c (st l))) H = some (.int (l.length : Int), H) := by
  simp [ev1, evI, Opd.ev, st_size]
theorem idx_st {i : Nat} (h : i < l.length) : idxK (st l) (.lit (.int k i)) H K = K (u8 (l[i]).toNat) H := by
  rw [idx_at]
  simp only [Int.toNat_natCast, st_size]
  simp [h, st_get]
theorem toList_st : (⟨l.toArray⟩ : ByteArray).toList = l := by
  simp [ByteArray.toList_eq]
theorem seq_st : binK .eql (st l) (st m) H K = K (.bool (decide (l = m))) H := by
  rw [bin_seq, toList_st, toList_st]
  congr 2
  rw [Bool.eq_iff_iff]; simp
theorem sne_st : binK .neq (st l) (st m) H K = K (.bool (!decide (l = m))) H := by
  rw [bin_sne, toList_st, toList_st]
  congr 3
  rw [Bool.eq_iff_iff]; simp
theorem sls_from {i : Nat} (h : i ≤ l.length) : ev1 (.sls (.c (st l)) (some (.c (.lit (.int k i)))) none) H = some (st (l.drop i), H) := by
  simp only [ev1, evI, Opd.ev, optI, st_size]
  rw [if_pos ⟨by omega, by omega, Int.le_refl _⟩]
  simp only [Int.toNat_natCast]
  congr 3
  apply ByteArray.ext
  simp [ByteArray.data_extract, List.take_of_length_le]
end

theorem c_trimLeftByte {l : List UInt8} (hl : l.length < 9223372036854775808) {H : List O} (K : V → List O → Prop) : Fx D0 fn_strings_trimLeftByte [st l, u8 0] H K = K (st (tidy l)) H := by
  refine Fx_is ?_ K
  refine Fx_ofp d_strings_trimLeftByte rfl ?_
  simp [go_sem, F_strings_trimLeftByte]
  refine Bx_rounds (fun n s X => X = [] ∧ ∃ m, s 0 = st m ∧ s 1 = u8 0 ∧ m.length = n ∧ m.length ≤ l.length ∧ tidy m = tidy l) ?_ l.length _ _ ⟨rfl, l, rfl, rfl, rfl, Nat.le_refl _, rfl⟩
  rintro n s X ⟨rfl, m, h0, h1, hm, hle, ht⟩
  refine wpB_ok ?_
  cases m with
  | nil =>
    simp [go_sem, h0, h1, slen_st]
    simp [← ht, tidy]
  | cons b m =>
    have hp : (0 : Int) < (m.length : Int) + 1 := by omega
    have i1 := fun K => idx_st (K := K) (H := []) (l := b :: m) (k := .i64) (i := 0) (by simp)
    have i2 := sls_from (H := []) (l := b :: m) (k := .i64) (i := 1) (by simp)
    simp at i1 i2
    by_cases hb : b = 0
    · subst hb
      simp [go_sem, h0, h1, slen_st, hp, i1, i2]
      refine ⟨m.length, by simp at hm; omega, rfl, by simp at hle; omega, ?_⟩
      rw [← ht]; simp [tidy]
    · have hb2 : ¬ b.toNat = 0 := fun e => hb (UInt8.toNat_inj.1 (by simpa using e))
      simp [go_sem, h0, h1, slen_st, hp, i1, hb2]
      rw [← ht]; simp [tidy, hb]

/-- Without its leading zeros. -/
theorem c_Normalize {l : List UInt8} (hl : l.length < 9223372036854775808) {H : List O} (K : V → List O → Prop) : Fx D0 fn_natural_Normalize [st l] H K = K (st (tidy l)) H := by
  have t : ∀ (H : List O) (K : V → List O → Prop), Fx D0 fn_strings_TrimLeft [st l, st [0]] H K = K (st (tidy l)) H := fun H K => by
    refine Fx_is ?_ K
    refine Fx_ofp d_strings_TrimLeft rfl ?_
    have i1 := fun K => idx_st (K := K) (H := []) (l := [0]) (k := .i64) (i := 0) (by simp)
    simp at i1
    by_cases h : l = []
    · subst h
      simp [go_sem, F_strings_TrimLeft, seq_st, tidy]
    · simp [go_sem, F_strings_TrimLeft, seq_st, h, slen_st, i1]
      rw [c_trimLeftByte hl]
      simp [go_sem]
  refine Fx_is ?_ K
  refine Fx_ofp d_natural_Normalize rfl ?_
  simp [go_sem, F_natural_Normalize]
  rw [t]
  simp [go_sem]
end Go.Proofs.Vm
/-! The package natural: parse, text. -/
namespace Go.Proofs.Vm
open Go Go.Proofs.Na

/-- Limbs that a call has handed back. -/
def LV (l : List Nat) : V := .fsl false (lm l) l.length
theorem LV_SL {H : List O} (l : List Nat) : SL H (LV l) l := slice_fsl (by simp [lm_len])
theorem lm_rep (n : Nat) : (List.replicate n [u32 0]).flatten = lm (List.replicate n 0) := by
  induction n with
  | zero => rfl
  | succ n ih => simp only [List.replicate_succ, List.flatten_cons, ih]; rfl
theorem lm_set (l : List Nat) (i x : Nat) : (lm l).set i (u32 x) = lm (l.set i x) := by simp [lm, List.map_set]
theorem set_eq {α : Type} (l : List α) {i : Nat} (x : α) (h : i < l.length) : l.take i ++ [x] ++ l.drop (i + 1) = l.set i x := by
  rw [List.set_eq_take_append_cons_drop, if_pos h]; simp
theorem or_add {a c s : Nat} (ha : a < 2 ^ s) : a ||| c * 2 ^ s = a + c * 2 ^ s := by
  rw [Nat.or_comm, Nat.mul_comm c, ← Nat.two_pow_add_eq_or_of_lt ha, Nat.add_comm]
theorem tdivN (a b : Nat) : (a : Int).tdiv (b : Int) = ((a / b : Nat) : Int) := by
  rw [Int.tdiv_eq_ediv_of_nonneg (by omega)]; norm_cast
theorem tmodN (a b : Nat) : (a : Int).tmod (b : Int) = ((a % b : Nat) : Int) := by
  rw [Int.tmod_eq_emod_of_nonneg (by omega)]; norm_cast
theorem pow256 (i : Nat) : 256 ^ i = BB ^ (i / 4) * 256 ^ (i % 4) := by
  have h : BB = 256 ^ 4 := by decide
  rw [h, ← Nat.pow_mul, ← Nat.pow_add]
  congr 1; omega
theorem p256 (r : Nat) : 2 ^ (8 * r) = 256 ^ r := by rw [Nat.pow_mul]

theorem limbs_set {l : List Nat} (h : Limbs l) {i x : Nat} (hx : x < BB) : Limbs (l.set i x) := fun y hy => by
  rcases List.mem_or_eq_of_mem_set hy with h1 | h1
  · exact h y h1
  · subst h1; exact hx
theorem limbs_zeros (n : Nat) : Limbs (List.replicate n 0) := fun x hx => by rw [(List.mem_replicate.1 hx).2]; exact BB_pos

theorem lm_at {l : List Nat} {i : Nat} (h : i < l.length) : (lm l)[i]? = some (u32 l[i]) := by simp [lm, h]
theorem own_SL {H : List O} {h k : Nat} {o : List Nat} {t : TypeId} (hh : H[h]? = some (.cells (lm o) t 1)) (hk : k ≤ o.length) : SL H (.osl h 0 k) (o.take k) := by
  unfold SL
  rw [slice_own hh (by simp [lm_len]; omega)]
  simp [lm, List.map_take, Nat.min_eq_left hk]
/-- Own limbs, handed back. -/
theorem out_lm {H : List O} {h k : Nat} {o : List Nat} {t : TypeId} (hh : H[h]? = some (.cells (lm o) t 1)) (hk : k ≤ o.length) : out H depth (.osl h 0 k) = some (LV (o.take k)) := by
  rw [out_own hh (by simp [lm_len]; omega) (List.all_eq_true.2 fun x hx => List.all_eq_true.1 (lm_lit o) x (List.mem_of_mem_drop (List.mem_of_mem_take hx)))]
  simp [LV, lm, List.map_take, Nat.min_eq_left hk]
theorem out1_lm {H : List O} {h k : Nat} {o : List Nat} {t : TypeId} (hh : H[h]? = some (.cells (lm o) t 1)) (hk : k ≤ o.length) : out H 11 (.osl h 0 k) = some (LV (o.take k)) := by
  rw [out1_own hh (by simp [lm_len]; omega) (List.all_eq_true.2 fun x hx => List.all_eq_true.1 (lm_lit o) x (List.mem_of_mem_drop (List.mem_of_mem_take hx)))]
  simp [LV, lm, List.map_take, Nat.min_eq_left hk]
/-- A byte more. -/
theorem parse_step {o : List Nat} {l : List UInt8} {i : Nat} (hi : i < l.length) (hol : o.length = (l.length + 3) / 4) (ho : Limbs o) (hv : lv o = nv (l.drop (l.length - i))) :
    ∃ h : i / 4 < o.length, o[i / 4] < 256 ^ (i % 4) ∧ o[i / 4] + (l[l.length - 1 - i]'(by omega)).toNat * 256 ^ (i % 4) < BB ∧
      lv (o.set (i / 4) (o[i / 4] + (l[l.length - 1 - i]'(by omega)).toNat * 256 ^ (i % 4))) = nv (l.drop (l.length - (i + 1))) := by
  have h : i / 4 < o.length := by omega
  have hb := (l[l.length - 1 - i]'(by omega)).toNat_lt
  generalize hbb : (l[l.length - 1 - i]'(by omega)).toNat = b at hb
  have h1 : o[i / 4] < 256 ^ (i % 4) := by
    have h2 := lv_get_le h
    have h3 := nv_lt (l.drop (l.length - i))
    rw [← hv] at h3
    have h4 : (l.drop (l.length - i)).length = i := by simp; omega
    rw [h4, pow256] at h3
    rcases Nat.lt_or_ge o[i / 4] (256 ^ (i % 4)) with h5 | h5
    · exact h5
    · have := Nat.mul_le_mul_left (BB ^ (i / 4)) h5
      omega
  have h2 : o[i / 4] + b * 256 ^ (i % 4) < BB := by
    have h3 : i % 4 < 4 := Nat.mod_lt _ (by omega)
    have h4 : b * 256 ^ (i % 4) ≤ 255 * 256 ^ (i % 4) := Nat.mul_le_mul_right _ (by omega)
    have h5 : 256 * 256 ^ (i % 4) ≤ BB := by
      rw [← Nat.pow_succ', show BB = 256 ^ 4 from rfl]
      exact Nat.pow_le_pow_right (by omega) (by omega)
    omega
  refine ⟨h, h1, h2, ?_⟩
  have h3 := lv_set (x := o[i / 4] + b * 256 ^ (i % 4)) h
  have h4 : l.drop (l.length - (i + 1)) = l[l.length - 1 - i]'(by omega) :: l.drop (l.length - i) := by
    rw [List.drop_eq_getElem_cons (by omega)]
    congr 2 <;> omega
  rw [h4, nv_cons, hbb, ← hv]
  have h5 : (l.drop (l.length - i)).length = i := by simp; omega
  rw [h5, pow256 i]
  rw [Nat.mul_add] at h3
  have h6 : b * (BB ^ (i / 4) * 256 ^ (i % 4)) = BB ^ (i / 4) * (b * 256 ^ (i % 4)) := by grind
  omega

def parseI (l : List UInt8) (n : Nat) (s : Nat → V) (X : List O) : Prop :=
  ∃ i o, n = l.length - i ∧ i ≤ l.length ∧ X = [.cells (lm o) ty_uint32 1] ∧ s 0 = st l ∧ s 3 = .osl 0 0 ((l.length + 3) / 4) ∧ s 12 = .int (l.length : Int) ∧ s 13 = .int (i : Int) ∧ o.length = (l.length + 3) / 4 ∧ Limbs o ∧ lv o = nv (l.drop (l.length - i))
theorem c_parse {l : List UInt8} (hl : l.length ≤ 4611686018427387904 / 65536) {H : List O} (K : V → List O → Prop) : Fx D0 fn_natural_parse [st l] H K = K (LV (lb (nv l))) H := by
  refine Fx_is ?_ K
  refine Fx_ofp d_natural_parse rfl ?_
  have e1 : IntKind.i64.wrap ((l.length : Int) + 4) = ((l.length + 4 : Nat) : Int) := by rw [wi (by omega) (by omega)]; omega
  have e2 : IntKind.i64.wrap (((l.length + 4 : Nat) : Int) - 1) = ((l.length + 3 : Nat) : Int) := by rw [wi (by omega) (by omega)]; omega
  have e3 : IntKind.i64.wrap (((l.length + 3 : Nat) : Int) / 4) = (((l.length + 3) / 4 : Nat) : Int) := by rw [wi (by omega) (by omega)]; omega
  have e4 : (((l.length + 3) / 4 : Nat) : Int) * 4 ≤ 140737488355328 := by omega
  have e5 : (0 : Int) ≤ (((l.length + 3) / 4 : Nat) : Int) := by omega
  simp [go_sem, F_natural_parse, slen_st, -Int.natCast_add, -Int.natCast_ediv, e1, e2, e3, e4, e5, lm_rep]
  refine Bx_rounds (parseI l) ?_ l.length _ _
    ⟨0, List.replicate ((l.length + 3) / 4) 0, rfl, Nat.zero_le _, by simp [lm], rfl, rfl, rfl, rfl, by simp, limbs_zeros _, by simp [lv_zeros, nv_nil]⟩
  rintro n s X ⟨i, o, rfl, hi, rfl, h0, h3, h12, h13, hol, ho, hv⟩
  refine wpB_ok ?_
  by_cases hlt : i < l.length
  · obtain ⟨h, g1, g2, g3⟩ := parse_step hlt hol ho hv
    have w1 : IntKind.i64.wrap ((i : Int) / 4) = ((i / 4 : Nat) : Int) := by rw [wi (by omega) (by omega)]; omega
    have w2 : IntKind.i64.wrap ((l.length : Int) - 1) = ((l.length - 1 : Nat) : Int) := by rw [wi (by omega) (by omega)]; omega
    have w3 : IntKind.i64.wrap (((l.length - 1 : Nat) : Int) - (i : Int)) = ((l.length - 1 - i : Nat) : Int) := by rw [wi (by omega) (by omega)]; omega
    have w4 : IntKind.i64.wrap ((i : Int) + 1) = ((i + 1 : Nat) : Int) := by rw [wi (by omega) (by omega)]; omega
    have i1 := fun K H => idx_st (K := K) (H := H) (l := l) (k := .i64) (i := l.length - 1 - i) (by omega)
    have i2 := lm_at h
    generalize hb : (l[l.length - 1 - i]'(by omega)).toNat = b at *
    have hb2 : b < 256 := by rw [← hb]; exact UInt8.toNat_lt _
    have w5 : IntKind.u32.wrap (b : Int) = (b : Int) := by rw [w32 (by omega) (by omega)]
    have w6 : IntKind.i64.wrap (8 * (i : Int).tmod 4) = ((8 * (i % 4) : Nat) : Int) := by
      rw [show (4 : Int) = ((4 : Nat) : Int) from rfl, tmodN, wi (by omega) (by omega)]; omega
    have hBB : BB = 4294967296 := rfl
    have w7 : IntKind.u32.wrap ((b : Int) * 2 ^ min (8 * (i % 4)) 32) = ((b * 256 ^ (i % 4) : Nat) : Int) := by
      rw [Nat.min_eq_left (by omega)]
      have e : (b : Int) * 2 ^ (8 * (i % 4)) = ((b * 256 ^ (i % 4) : Nat) : Int) := by rw [← p256]; push_cast; rfl
      rw [e, w32 (by omega) (by omega)]
    have w8 : bits .or .u32 (o[i / 4] : Int) ((b * 256 ^ (i % 4) : Nat) : Int) = ((o[i / 4] + b * 256 ^ (i % 4) : Nat) : Int) := by
      have := ho _ (List.getElem_mem h)
      rw [u32_or_nat _ _ (by omega) (by omega), ← p256, or_add (by rw [p256]; exact g1)]
    simp [go_sem, h0, h3, h12, h13, slen_st, hlt, -Int.natCast_add, -Int.natCast_ediv, -Int.natCast_mul, w1, w2, w3, w4, w5, w6, w7, w8, i1, i2]
    refine ⟨by omega, by simp [lm_len]; omega, l.length - (i + 1), by omega, i + 1, o.set (i / 4) (o[i / 4] + b * 256 ^ (i % 4)), rfl, by omega, ?_, by simp [go_sem, h0], by simp [go_sem, h3], by simp [go_sem, h12], by simp [go_sem], by simp [hol], limbs_set ho g2, g3⟩
    rw [← lm_set, ← set_eq _ _ (by simpa [lm_len] using h)]
    simp
  · have hi' : i = l.length := by omega
    subst hi'
    have hvv : lv o = nv l := by simpa using hv
    have hs := own_SL (H := [.cells (lm o) ty_uint32 1]) (h := 0) (o := o) (t := ty_uint32) rfl (Nat.le_of_eq hol.symm)
    rw [← hol, List.take_length] at hs
    have hle := trimN_le o
    have hout := out_lm (H := [.cells (lm o) ty_uint32 1]) (h := 0) (o := o) (t := ty_uint32) rfl hle
    simp [go_sem, h0, h3, h12, h13]
    rw [← hol, c_trim hs (by omega)]
    simp [go_sem, takeV, hout]
    rw [← hvv, ← take_trim ho]
end Go.Proofs.Vm
/-! The package natural: text. -/
namespace Go.Proofs.Vm
open Go Go.Proofs.Na

/-- Bytes, as cells. -/
def bu (l : List UInt8) : List V := l.map fun b => u8 b.toNat
theorem bu_len (l : List UInt8) : (bu l).length = l.length := by simp [bu]
theorem bu_set (l : List UInt8) (i : Nat) (x : UInt8) : (bu l).set i (u8 x.toNat) = bu (l.set i x) := by simp [bu, List.map_set]
theorem bu_rep (n : Nat) : (List.replicate n [u8 0]).flatten = bu (List.replicate n 0) := by
  induction n with
  | zero => rfl
  | succ n ih => simp only [List.replicate_succ, List.flatten_cons, ih]; rfl
theorem bytesV_bu (l : List UInt8) : bytesV (bu l) = some l := by
  induction l with
  | nil => rfl
  | cons b l ih =>
    have : bytesV (u8 b.toNat :: bu l) = (bytesV (bu l)).map (UInt8.ofNat ((b.toNat : Int)).toNat :: ·) := rfl
    show bytesV (u8 b.toNat :: bu l) = _
    rw [this, ih]; simp
theorem str_bu {H : List O} {h : Nat} {b : List UInt8} {t : TypeId} (hh : H[h]? = some (.cells (bu b) t 1)) : ev1 (.str (.c (.osl h 0 b.length))) H = some (st b, H) := by
  have hs := slice_own (sz := 1) (off := 0) (n := b.length) hh (by simp [bu_len])
  simp only [ev1, evI, Opd.ev, hs, List.drop_zero, Nat.mul_one]
  rw [List.take_of_length_le (by simp [bu_len]), bytesV_bu]; rfl

theorem lv_byte {l : List Nat} (hl : Limbs l) {i : Nat} (h : i / 4 < l.length) : lv l / 256 ^ i % 256 = l[i / 4] / 256 ^ (i % 4) % 256 := by
  have h1 := lv_append (l.take (i / 4)) (l.drop (i / 4))
  rw [List.take_append_drop, List.length_take, Nat.min_eq_left (by omega), List.drop_eq_getElem_cons h] at h1
  have h2 : lv (l.take (i / 4)) < BB ^ (i / 4) := by
    have := lv_lt (l := l.take (i / 4)) fun x hx => hl x (List.mem_of_mem_take hx)
    rwa [List.length_take, Nat.min_eq_left (by omega)] at this
  have hp : 0 < BB ^ (i / 4) := Nat.pow_pos BB_pos
  rw [pow256, ← Nat.div_div_eq_div_mul, h1, Nat.add_mul_div_left _ _ hp, Nat.div_eq_of_lt h2, Nat.zero_add]
  simp only [lv]
  generalize lv (l.drop (i / 4 + 1)) = R
  generalize l[i / 4] = a
  have hr : i % 4 < 4 := Nat.mod_lt _ (by omega)
  have hB : BB = 256 ^ (i % 4) * (256 * 256 ^ (3 - i % 4)) := by
    rw [← Nat.pow_succ', ← Nat.pow_add, show BB = 256 ^ 4 from rfl]; congr 1; omega
  rw [hB, Nat.mul_assoc, Nat.add_mul_div_left _ _ (Nat.pow_pos (by omega)), Nat.mul_assoc, Nat.add_mul_mod_self_left]

theorem nv_set_step {b : List UInt8} {i : Nat} {c : UInt8} {N : Nat} (hi : i < b.length) (hv : nv (b.drop (b.length - i)) = N % 256 ^ i) (hc : c.toNat = N / 256 ^ i % 256) :
    nv ((b.set (b.length - 1 - i) c).drop (b.length - (i + 1))) = N % 256 ^ (i + 1) := by
  have e : (b.set (b.length - 1 - i) c).drop (b.length - (i + 1)) = c :: b.drop (b.length - i) := by
    rw [List.drop_eq_getElem_cons (by simp; omega)]
    have e1 : b.length - (i + 1) = b.length - 1 - i := by omega
    have e2 : b.length - (i + 1) + 1 = b.length - i := by omega
    rw [e2]
    congr 1
    · simp [e1]
    · rw [List.drop_set_of_lt (by omega)]
  have hlen : (b.drop (b.length - i)).length = i := by simp; omega
  rw [e, nv_cons, hlen, hv, hc, Nat.pow_succ, Nat.mod_mul, Nat.mul_comm]
  omega

def textI (l : List Nat) (w : V) (n : Nat) (s : Nat → V) (X : List O) : Prop :=
  ∃ i b, n = l.length * 4 - i ∧ i ≤ l.length * 4 ∧ X = [.cells (bu b) ty_uint8 1] ∧ s 0 = w ∧ s 3 = .osl 0 0 (l.length * 4) ∧ s 10 = .int ((l.length * 4 : Nat) : Int) ∧ s 11 = .int (i : Int) ∧ b.length = l.length * 4 ∧ nv (b.drop (b.length - i)) = lv l % 256 ^ i
theorem c_text {H : List O} {v : V} {l : List Nat} (hv : SL H v l) (hl : Limbs l) (hlen : l.length ≤ 70368744177664 / 65536) (K : V → List O → Prop) : Fx D0 fn_natural_limbs_text [v] H K = K (st (nbl (lv l))) H := by
  refine Fx_is ?_ K
  have hw : ∀ X, SL X (frzV v (lm l) l.length) l := fun X => frzV_slice hv X
  generalize hwe : frzV v (lm l) l.length = w at hw
  refine Fx_ofp d_natural_limbs_text (as := [w]) (by simp only [mapM_cons', mapM_nil', frz_s hv (lm_lit l), hwe]; rfl) ?_
  have hle := len_s (hw [])
  have e1 : IntKind.i64.wrap ((l.length : Int) * 4) = ((l.length * 4 : Nat) : Int) := by rw [wi (by omega) (by omega)]; omega
  have e4 : ((l.length * 4 : Nat) : Int) ≤ 140737488355328 := by omega
  have e5 : (0 : Int) ≤ ((l.length * 4 : Nat) : Int) := by omega
  simp [go_sem, F_natural_limbs_text, hle, -Int.natCast_mul, e1, e4, e5, bu_rep]
  refine Bx_rounds (textI l w) ?_ (l.length * 4) _ _
    ⟨0, List.replicate (l.length * 4) 0, rfl, Nat.zero_le _, by simp [bu], rfl, rfl, rfl, rfl, by simp, by simp [nv_nil, Nat.mod_one]⟩
  rintro n s X ⟨i, b, rfl, hi, rfl, h0, h3, h10, h11, hbl, hv⟩
  refine wpB_ok ?_
  by_cases hlt : i < l.length * 4
  · have h : i / 4 < l.length := by omega
    have w1 : IntKind.i64.wrap ((i : Int) / 4) = ((i / 4 : Nat) : Int) := by rw [wi (by omega) (by omega)]; omega
    have w2 : IntKind.i64.wrap (((l.length * 4 : Nat) : Int) - 1) = ((l.length * 4 - 1 : Nat) : Int) := by rw [wi (by omega) (by omega)]; omega
    have w3 : IntKind.i64.wrap (((l.length * 4 - 1 : Nat) : Int) - (i : Int)) = ((l.length * 4 - 1 - i : Nat) : Int) := by rw [wi (by omega) (by omega)]; omega
    have w4 : IntKind.i64.wrap ((i : Int) + 1) = ((i + 1 : Nat) : Int) := by rw [wi (by omega) (by omega)]; omega
    have w6 : IntKind.i64.wrap (8 * (i : Int).tmod 4) = ((8 * (i % 4) : Nat) : Int) := by
      rw [show (4 : Int) = ((4 : Nat) : Int) from rfl, tmodN, wi (by omega) (by omega)]; omega
    have i1 := fun K X => ia_s (K := K) (q := .i64) (n := ((i / 4 : Nat) : Int)) (hw X) (by omega) (by omega)
    have i2 := fun K X => ld_s (K := K) (i := i / 4) (k := 0) (hw X) (by simp [lm_len]; omega)
    simp [lm_get, -Int.natCast_ediv] at i1 i2
    generalize hc : UInt8.ofNat (l[i / 4] / 256 ^ (i % 4)) = c
    have hcn : c.toNat = l[i / 4] / 256 ^ (i % 4) % 256 := by rw [← hc]; simp
    have w7 : IntKind.u8.wrap ((l[i / 4] : Int).fdiv (2 ^ min (8 * (i % 4)) 32)) = (c.toNat : Int) := by
      rw [Nat.min_eq_left (by omega), show ((2 : Int) ^ (8 * (i % 4))) = ((256 ^ (i % 4) : Nat) : Int) by rw [← p256]; push_cast; rfl, fdivN, w8m, hcn]
      omega
    simp [go_sem, h0, h3, h10, h11, hlt, -Int.natCast_add, -Int.natCast_ediv, -Int.natCast_mul, w1, w2, w3, w4, w6, w7, i1, i2]
    refine ⟨by omega, by simp [bu_len]; omega, l.length * 4 - (i + 1), by omega, i + 1, b.set (b.length - 1 - i) c, rfl, by omega, ?_, by simp [go_sem, h0], by simp [go_sem, h3], by simp [go_sem, h10], by simp [go_sem], by simp [hbl], ?_⟩
    · rw [← bu_set, ← set_eq _ _ (by simp [bu_len]; omega), hbl]
      simp
    · rw [List.length_set]
      exact nv_set_step (by omega) hv (by rw [hcn, ← lv_byte hl h])
  · have hi' : i = l.length * 4 := by omega
    subst hi'
    have hnv : nv b = lv l := by
      rw [← hbl, Nat.sub_self, List.drop_zero, hbl, pow256, Nat.mul_mod_left, Nat.mul_div_cancel _ (by omega)] at hv
      rw [hv, Nat.pow_zero, Nat.mul_one, Nat.mod_eq_of_lt (lv_lt hl)]
    have hstr := str_bu (H := [.cells (bu b) ty_uint8 1]) (h := 0) (b := b) (t := ty_uint8) rfl
    rw [hbl] at hstr
    simp [go_sem, h0, h3, h10, h11, hstr]
    rw [c_Normalize (by omega)]
    simp [go_sem]
    rw [tidy_eq, hnv]
end Go.Proofs.Vm
/-! The package natural: sign, compare. -/
namespace Go.Proofs.Vm
open Go Go.Proofs.Na

theorem c_sign {n : Int} {H : List O} (K : V → List O → Prop) : Fx D0 fn_natural_sign [.int n] H K = K (.int (if n < 0 then -1 else if 0 < n then 1 else 0)) H := by
  refine Fx_is ?_ K
  refine Fx_ofp d_natural_sign rfl ?_
  by_cases h1 : n < 0
  · simp [go_sem, F_natural_sign, h1]
  · by_cases h2 : 0 < n
    · simp [go_sem, F_natural_sign, h1, h2]
    · simp [go_sem, F_natural_sign, h1, h2]

/-- The sign of a difference. -/
def sg (m n : Nat) : Int := if m < n then -1 else if n < m then 1 else 0

theorem lv_drop {l : List Nat} {i : Nat} (h : i < l.length) : lv (l.drop i) = l[i] + BB * lv (l.drop (i + 1)) := by
  rw [List.drop_eq_getElem_cons h]; rfl
theorem lv_split (l : List Nat) (i : Nat) (h : i ≤ l.length) : lv l = lv (l.take i) + BB ^ i * lv (l.drop i) := by
  have := lv_append (l.take i) (l.drop i)
  rwa [List.take_append_drop, List.length_take, Nat.min_eq_left h] at this
theorem lv_take_lt {l : List Nat} (hl : Limbs l) {i : Nat} (h : i ≤ l.length) : lv (l.take i) < BB ^ i := by
  have := lv_lt (l := l.take i) fun x hx => hl x (List.mem_of_mem_take hx)
  rwa [List.length_take, Nat.min_eq_left h] at this
/-- The highest place at which two numbers of a length differ. -/
theorem lv_less {a b : List Nat} (ha : Limbs a) {i : Nat} (hia : i < a.length) (hib : i < b.length) (hd : a.drop (i + 1) = b.drop (i + 1)) (hlt : a[i] < b[i]) : lv a < lv b := by
  have h1 := lv_split a i (by omega)
  have h2 := lv_split b i (by omega)
  have h3 := lv_take_lt ha (i := i) (by omega)
  rw [lv_drop hia] at h1
  rw [lv_drop hib, ← hd] at h2
  generalize lv (a.drop (i + 1)) = R at *
  have h4 : BB ^ i * (a[i] + BB * R) + BB ^ i ≤ BB ^ i * (b[i] + BB * R) := by
    rw [← Nat.mul_succ]
    exact Nat.mul_le_mul_left _ (by omega)
  omega
theorem lb_short {m n : Nat} (h : (lb m).length < (lb n).length) : m < n := by
  rcases Nat.lt_or_ge m n with h1 | h1
  · exact h1
  · exfalso
    have h2 : (lb n).length ≤ (lb m).length := lb_len.2 (Nat.lt_of_le_of_lt h1 (lb_len.1 (Nat.le_refl _)))
    omega

def cmpI (m n : Nat) (v w : V) (k : Nat) (s : Nat → V) (X : List O) : Prop :=
  X = [] ∧ s 0 = v ∧ s 1 = w ∧ k ≤ (lb m).length ∧ s 5 = .int ((k : Int) - 1) ∧ (lb m).drop k = (lb n).drop k
theorem c_compare {H : List O} {v w : V} {m n : Nat} (hv : SL H v (lb m)) (hw : SL H w (lb n)) (hm : (lb m).length < 4611686018427387904) (hn : (lb n).length < 4611686018427387904) (K : V → List O → Prop) :
    Fx D0 fn_natural_compare [v, w] H K = K (.int (sg m n)) H := by
  refine Fx_is ?_ K
  have hv' : ∀ X, SL X (frzV v (lm (lb m)) (lb m).length) (lb m) := fun X => frzV_slice hv X
  have hw' : ∀ X, SL X (frzV w (lm (lb n)) (lb n).length) (lb n) := fun X => frzV_slice hw X
  have has : [v, w].mapM (frz H depth) = some [frzV v (lm (lb m)) (lb m).length, frzV w (lm (lb n)) (lb n).length] := by
    simp only [mapM_cons', mapM_nil', frz_s hv (lm_lit _), frz_s hw (lm_lit _)]; rfl
  refine Fx_ofp d_natural_compare has ?_
  generalize frzV v (lm (lb m)) (lb m).length = v' at *
  generalize frzV w (lm (lb n)) (lb n).length = w' at *
  have hlv := len_s (hv' [])
  have hlw := len_s (hw' [])
  by_cases hle : (lb m).length = (lb n).length
  · have e1 : IntKind.i64.wrap (((lb n).length : Int) - 1) = ((lb n).length : Int) - 1 := by rw [wi (by omega) (by omega)]
    simp [go_sem, F_natural_compare, hlv, hlw, hle, e1]
    refine Bx_rounds (cmpI m n v' w') ?_ (lb m).length _ _ ⟨rfl, rfl, rfl, Nat.le_refl _, by simp [go_sem, hle], by simp [hle]⟩
    rintro k s X ⟨rfl, h0, h1, hk, h5, hd⟩
    refine wpB_ok ?_
    cases k with
    | zero =>
      have : m = n := lb_inj (by simpa using hd)
      subst this
      simp [go_sem, h0, h1, h5, sg]
    | succ k =>
      have w1 : IntKind.i64.wrap ((k : Int) - 1) = (k : Int) - 1 := by rw [wi (by omega) (by omega)]
      have i1 := fun K X => ia_s (K := K) (q := .i64) (n := ((k : Nat) : Int)) (hv' X) (by omega) (by omega)
      have i2 := fun K X => ld_s (K := K) (i := k) (k := 0) (hv' X) (by simp [lm_len]; omega)
      have i3 := fun K X => ia_s (K := K) (q := .i64) (n := ((k : Nat) : Int)) (hw' X) (by omega) (by omega)
      have i4 := fun K X => ld_s (K := K) (i := k) (k := 0) (hw' X) (by simp [lm_len]; omega)
      simp [lm_get] at i1 i2 i3 i4
      have hkm : k < (lb m).length := by omega
      have hkn : k < (lb n).length := by omega
      by_cases heq : (lb m)[k] = (lb n)[k]
      · simp [go_sem, h0, h1, h5, i1, i2, i3, i4, heq, w1]
        refine ⟨k, by omega, rfl, by simp [go_sem, h0], by simp [go_sem, h1], by omega, by simp [go_sem], ?_⟩
        rw [List.drop_eq_getElem_cons hkm, List.drop_eq_getElem_cons hkn, heq, hd]
      · have hb : (((lb m)[k] : Int) != ((lb n)[k] : Int)) = true := by simp; omega
        by_cases hlt : (lb m)[k] < (lb n)[k]
        · have := lv_less (lb_limbs m) hkm hkn hd hlt
          rw [lv_lb, lv_lb] at this
          simp [go_sem, h0, h1, h5, i1, i2, i3, i4, hb, hlt, sg, this]
        · have := lv_less (lb_limbs n) hkn hkm hd.symm (by omega)
          rw [lv_lb, lv_lb] at this
          have h2 : ¬ m < n := by omega
          simp [go_sem, h0, h1, h5, i1, i2, i3, i4, hb, hlt, sg, this, h2]
  · have hne : ¬ ((lb m).length : Int) = ((lb n).length : Int) := by omega
    have e1 : IntKind.i64.wrap (((lb m).length : Int) - ((lb n).length : Int)) = ((lb m).length : Int) - ((lb n).length : Int) := by rw [wi (by omega) (by omega)]
    have hb : (((lb m).length : Int) != ((lb n).length : Int)) = true := by simp; omega
    simp [go_sem, F_natural_compare, hlv, hlw, hb, e1]
    rw [c_sign]
    simp [go_sem]
    rcases Nat.lt_or_ge (lb m).length (lb n).length with h | h
    · have := lb_short h
      rw [if_pos (by omega)]; simp [sg, this]
    · have := lb_short (show (lb n).length < (lb m).length by omega)
      have h2 : ¬ m < n := by omega
      rw [if_neg (by omega), if_pos (by omega)]; simp [sg, this, h2]
end Go.Proofs.Vm
/-! The package natural: subtract, divideSmall. -/
namespace Go.Proofs.Vm
open Go Go.Proofs.Na

theorem lv_take_succ {l : List Nat} {i : Nat} (h : i < l.length) : lv (l.take (i + 1)) = lv (l.take i) + BB ^ i * l[i] := by
  have : l.take (i + 1) = l.take i ++ [l[i]] := by rw [List.take_add_one, List.getElem?_eq_getElem h]; rfl
  rw [this, lv_append, List.length_take, Nat.min_eq_left (by omega)]
  simp [lv]
theorem take_set_ge {l : List Nat} {i x : Nat} : (l.set i x).take i = l.take i := by
  rw [List.take_set_of_le (Nat.le_refl i)]

theorem lv_take_getD (l : List Nat) (i : Nat) : lv (l.take (i + 1)) = lv (l.take i) + BB ^ i * l.getD i 0 := by
  by_cases h : i < l.length
  · rw [lv_take_succ h, List.getD_eq_getElem?_getD, List.getElem?_eq_getElem h]; rfl
  · rw [List.take_of_length_le (by omega), List.take_of_length_le (by omega), List.getD_eq_getElem?_getD, List.getElem?_eq_none (by omega)]; simp
theorem lv_take_set {l : List Nat} {i x : Nat} (h : i < l.length) : lv ((l.set i x).take (i + 1)) = lv (l.take i) + BB ^ i * x := by
  rw [lv_take_succ (by simpa using h), take_set_ge]; simp
theorem sub_digit {x y c : Nat} (hx : x < BB) (hy : y < BB) (hc : c ≤ 1) : (x + 4294967296 - y + (4294967296 - c)) % 4294967296 + y + c = x + (if x < y + c then 1 else 0) * BB ∧ (x + 4294967296 - y + (4294967296 - c)) % 4294967296 < BB := by
  have : BB = 4294967296 := rfl
  split <;> omega
theorem sub_inv {A Bv Av c c' x y d P : Nat} (h : A + Bv = Av + c * P) (hd : d + y + c = x + c' * BB) : (A + P * d) + (Bv + P * y) = (Av + P * x) + c' * (P * BB) := by
  have h2 := congrArg (P * ·) hd
  simp only [Nat.mul_add] at h2
  have h3 : P * (c' * BB) = c' * (P * BB) := by grind
  have h4 : P * c = c * P := Nat.mul_comm _ _
  omega

def subI (a b : List Nat) (v w : V) (n : Nat) (s : Nat → V) (X : List O) : Prop :=
  ∃ i o c, n = a.length - i ∧ i ≤ a.length ∧ X = [.cells (lm o) ty_uint32 1] ∧ s 0 = v ∧ s 1 = w ∧ s 5 = .osl 0 0 a.length ∧ s 6 = u32 c ∧ s 13 = .int (a.length : Int) ∧ s 14 = .int (i : Int) ∧ o.length = a.length ∧ Limbs o ∧ c ≤ 1 ∧
    lv (o.take i) + lv (b.take i) = lv (a.take i) + c * BB ^ i
theorem c_subtract {H : List O} {v w : V} {a b : List Nat} (hv : SL H v a) (hw : SL H w b) (ha : Limbs a) (hb : Limbs b) (hba : b.length ≤ a.length) (hle : lv b ≤ lv a) (hm : a.length ≤ 70368744177664 / 65536) (K : V → List O → Prop) :
    Fx D0 fn_natural_subtract [v, w] H K = K (LV (lb (lv a - lv b))) H := by
  refine Fx_is ?_ K
  have hv' : ∀ X, SL X (frzV v (lm a) a.length) a := fun X => frzV_slice hv X
  have hw' : ∀ X, SL X (frzV w (lm b) b.length) b := fun X => frzV_slice hw X
  have has : [v, w].mapM (frz H depth) = some [frzV v (lm a) a.length, frzV w (lm b) b.length] := by
    simp only [mapM_cons', mapM_nil', frz_s hv (lm_lit _), frz_s hw (lm_lit _)]; rfl
  refine Fx_ofp d_natural_subtract has ?_
  generalize frzV v (lm a) a.length = v' at *
  generalize frzV w (lm b) b.length = w' at *
  have hlv := len_s (hv' [])
  have hlw := len_s (hw' [])
  have e4 : (a.length : Int) * 4 ≤ 140737488355328 := by omega
  simp [go_sem, F_natural_subtract, hlv, e4]
  refine Bx_rounds (subI a b v' w') ?_ a.length _ _ ⟨0, List.replicate a.length 0, 0, rfl, Nat.zero_le _, by simp [lm], rfl, rfl, rfl, rfl, rfl, rfl, by simp, limbs_zeros _, by omega, by simp [lv]⟩
  rintro n s X ⟨i, o, c, rfl, hi, rfl, h0, h1, h5, h6, h13, h14, hol, ho, hc, hinv⟩
  refine wpB_ok ?_
  by_cases hlt : i < a.length
  · have w4 : IntKind.i64.wrap ((i : Int) + 1) = ((i + 1 : Nat) : Int) := by rw [wi (by omega) (by omega)]; omega
    have i1 := fun K X => ia_s (K := K) (q := .i64) (n := ((i : Nat) : Int)) (hv' X) (by omega) (by omega)
    have i2 := fun K X => ld_s (K := K) (i := i) (k := 0) (hv' X) (by simp [lm_len]; omega)
    simp [lm_get] at i1 i2
    have hai := ha _ (List.getElem_mem hlt)
    have hBB : BB = 4294967296 := rfl
    generalize hy : b.getD i 0 = y
    have hyl : y < BB := by
      rw [← hy, List.getD_eq_getElem?_getD]
      cases hq : b[i]? with
      | none => exact BB_pos
      | some z => exact hb z (List.mem_of_getElem? hq)
    obtain ⟨d1, d2⟩ := sub_digit hai hyl hc
    have hcall := fun K X => c_sub32 (K := K) (H := X) (a := a[i]) (b := y) (c := c) (by omega) (by omega) hc
    generalize (a[i] + 4294967296 - y + (4294967296 - c)) % 4294967296 = d at d1 d2 hcall
    have hc' : (if a[i] < y + c then 1 else 0) ≤ 1 := by split <;> omega
    generalize (if a[i] < y + c then 1 else 0) = c' at d1 hcall hc'
    have next : ∀ s', s' 0 = v' → s' 1 = w' → s' 5 = .osl 0 0 a.length → s' 6 = u32 c' → s' 13 = .int (a.length : Int) → s' 14 = .int ((i + 1 : Nat) : Int) →
        ∃ m, m < a.length - i ∧ subI a b v' w' m s' [.cells ((lm o).take i ++ u32 d :: (lm o).drop (i + 1)) ty_uint32 1] := fun s' q0 q1 q5 q6 q13 q14 => by
      refine ⟨a.length - (i + 1), by omega, i + 1, o.set i d, c', rfl, by omega, ?_, q0, q1, q5, q6, q13, q14, by simp [hol], limbs_set ho d2, hc', ?_⟩
      · rw [← lm_set, ← set_eq _ _ (by simp [lm_len]; omega)]; simp
      · rw [lv_take_set (by omega), lv_take_getD b, hy, lv_take_succ hlt, Nat.pow_succ]
        exact sub_inv hinv d1
    by_cases hib : i < b.length
    · have i3 := fun K X => ia_s (K := K) (q := .i64) (n := ((i : Nat) : Int)) (hw' X) (by omega) (by omega)
      have i4 := fun K X => ld_s (K := K) (i := i) (k := 0) (hw' X) (by simp [lm_len]; omega)
      simp [lm_get] at i3 i4
      have hyb : b[i] = y := by rw [← hy, List.getD_eq_getElem?_getD, List.getElem?_eq_getElem hib]; rfl
      simp [go_sem, h0, h1, h5, h6, h13, h14, hlt, hlw, hib, -Int.natCast_add, w4, i1, i2, i3, i4, hyb, hcall]
      exact ⟨by simp [lm_len]; omega, next _ (by simp [go_sem, h0]) (by simp [go_sem, h1]) (by simp [go_sem, h5]) (by simp [go_sem]) (by simp [go_sem, h13]) (by simp [go_sem])⟩
    · have hy0 : y = 0 := by rw [← hy, List.getD_eq_getElem?_getD, List.getElem?_eq_none (by omega)]; rfl
      subst hy0
      simp only [u32, Int.natCast_zero] at hcall
      simp [go_sem, h0, h1, h5, h6, h13, h14, hlt, hlw, hib, -Int.natCast_add, w4, i1, i2, hcall]
      exact ⟨by simp [lm_len]; omega, next _ (by simp [go_sem, h0]) (by simp [go_sem, h1]) (by simp [go_sem, h5]) (by simp [go_sem]) (by simp [go_sem, h13]) (by simp [go_sem])⟩
  · have hi' : i = a.length := by omega
    subst hi'
    rw [List.take_of_length_le (by omega), List.take_of_length_le (l := b) (by omega), List.take_of_length_le (l := a) (by omega)] at hinv
    have hlo := lv_lt ho
    rw [hol] at hlo
    have hc0 : c = 0 := by
      rcases Nat.eq_zero_or_pos c with h | h
      · exact h
      · have : c = 1 := by omega
        subst this; omega
    have hlo2 : lv o = lv a - lv b := by rw [hc0] at hinv; omega
    have hs := own_SL (H := [.cells (lm o) ty_uint32 1]) (h := 0) (o := o) (t := ty_uint32) rfl (Nat.le_of_eq hol.symm)
    rw [← hol, List.take_length] at hs
    have hle := trimN_le o
    have hout := out_lm (H := [.cells (lm o) ty_uint32 1]) (h := 0) (o := o) (t := ty_uint32) rfl hle
    simp [go_sem, h0, h1, h5, h6, h13, h14]
    rw [← hol, c_trim hs (by omega)]
    simp [go_sem, takeV, hout]
    rw [← hlo2, ← take_trim ho]
end Go.Proofs.Vm
/-! The package natural: divideSmall. -/
namespace Go.Proofs.Vm
open Go Go.Proofs.Na

theorem shl_or {r a : Nat} (ha : a < 4294967296) (hr : r < 4294967296) : bits .or .u64 ((r * 4294967296 : Nat) : Int) (a : Int) = ((r * 4294967296 + a : Nat) : Int) := by
  rw [u64_or_nat _ _ (by omega) (by omega), Nat.or_comm, show (4294967296 : Nat) = 2 ^ 32 from rfl, or_add ha, Nat.add_comm]

def dsI (a : List Nat) (d : Nat) (v : V) (k : Nat) (s : Nat → V) (X : List O) : Prop :=
  ∃ o r, k ≤ a.length ∧ X = [.cells (lm o) ty_uint32 1] ∧ s 0 = v ∧ s 1 = u32 d ∧ s 6 = .osl 0 0 a.length ∧ s 7 = u64 r ∧ s 8 = .int ((k : Int) - 1) ∧ o.length = a.length ∧ Limbs o ∧ r < d ∧ lv (a.drop k) = lv (o.drop k) * d + r
theorem c_divideSmall {H : List O} {v : V} {a : List Nat} {d : Nat} (hv : SL H v a) (ha : Limbs a) (hd : 0 < d) (hdB : d < BB) (hm : a.length ≤ 70368744177664 / 65536) (K : V → List O → Prop) :
    Fx D0 fn_natural_divideSmall [v, u32 d] H K = K (.tup [LV (lb (lv a / d)), u32 (lv a % d)]) H := by
  refine Fx_is ?_ K
  have hv' : ∀ X, SL X (frzV v (lm a) a.length) a := fun X => frzV_slice hv X
  have has : [v, u32 d].mapM (frz H depth) = some [frzV v (lm a) a.length, u32 d] := by
    simp only [mapM_cons', mapM_nil', frz_s hv (lm_lit _)]; rfl
  refine Fx_ofp d_natural_divideSmall has ?_
  generalize frzV v (lm a) a.length = v' at *
  have hlv := len_s (hv' [])
  have e4 : (a.length : Int) * 4 ≤ 140737488355328 := by omega
  have e1 : IntKind.i64.wrap ((a.length : Int) - 1) = (a.length : Int) - 1 := by rw [wi (by omega) (by omega)]
  have hBB : BB = 4294967296 := rfl
  simp [go_sem, F_natural_divideSmall, hlv, e4, e1]
  refine Bx_rounds (dsI a d v') ?_ a.length _ _ ⟨List.replicate a.length 0, 0, Nat.le_refl _, by simp [lm], rfl, rfl, rfl, rfl, rfl, by simp, limbs_zeros _, hd, by simp [lv]⟩
  rintro k s X ⟨o, r, hk, rfl, h0, h1, h6, h7, h8, hol, ho, hr, hinv⟩
  refine wpB_ok ?_
  cases k with
  | zero =>
    have hs := own_SL (H := [.cells (lm o) ty_uint32 1]) (h := 0) (o := o) (t := ty_uint32) rfl (Nat.le_of_eq hol.symm)
    rw [← hol, List.take_length] at hs
    have hle := trimN_le o
    have hout1 := out1_lm (H := [.cells (lm o) ty_uint32 1]) (h := 0) (o := o) (t := ty_uint32) rfl hle
    have w9 : IntKind.u32.wrap (r : Int) = (r : Int) := by rw [w32 (by omega) (by omega)]
    simp [go_sem, h0, h1, h6, h7, h8, w9]
    rw [← hol, c_trim hs (by omega)]
    have hq : lv a / d = lv o ∧ lv a % d = r := by
      rw [List.drop_zero, List.drop_zero] at hinv
      rw [hinv]
      refine ⟨?_, ?_⟩
      · rw [Nat.mul_comm, Nat.mul_add_div hd, Nat.div_eq_of_lt hr]; omega
      · rw [Nat.mul_comm, Nat.mul_add_mod, Nat.mod_eq_of_lt hr]
    simp [go_sem, takeV, hout1, hq.1, hq.2, h7, w9]
    rw [take_trim ho]
  | succ k =>
    have hlt : k < a.length := by omega
    have hai := ha _ (List.getElem_mem hlt)
    have w1 : IntKind.i64.wrap ((k : Int) - 1) = (k : Int) - 1 := by rw [wi (by omega) (by omega)]
    have i1 := fun K X => ia_s (K := K) (q := .i64) (n := ((k : Nat) : Int)) (hv' X) (by omega) (by omega)
    have i2 := fun K X => ld_s (K := K) (i := k) (k := 0) (hv' X) (by simp [lm_len]; omega)
    simp [lm_get] at i1 i2
    have w2 : IntKind.u64.wrap ((r : Int) * 4294967296) = ((r * 4294967296 : Nat) : Int) := by rw [w64 (by omega) (by omega)]; omega
    have w3 : IntKind.u64.wrap (a[k] : Int) = (a[k] : Int) := by rw [w64 (by omega) (by omega)]
    have w4 : IntKind.u64.wrap (d : Int) = (d : Int) := by rw [w64 (by omega) (by omega)]
    have w5 := shl_or (r := r) (a := a[k]) (by omega) (by omega)
    have h8 : s 8 = .int (k : Int) := by rw [h8]; congr 3; omega
    have hinv2 : lv (a.drop k) = (r * BB + a[k]) + lv (o.drop (k + 1)) * d * BB := by
      rw [lv_drop hlt, hinv]; grind
    have htlt : r * 4294967296 + a[k] < 4294967296 * d := by
      have : (r + 1) * 4294967296 ≤ d * 4294967296 := Nat.mul_le_mul_right _ hr
      omega
    rw [hBB] at hinv2
    obtain ⟨t, ht⟩ : ∃ t, t = r * 4294967296 + a[k] := ⟨_, rfl⟩
    rw [← ht] at hinv2 htlt w5
    have hq : t / d < 4294967296 := Nat.div_lt_of_lt_mul (by rw [Nat.mul_comm]; exact htlt)
    have hr' := Nat.mod_lt t hd
    have h9 := Nat.mod_add_div t d
    have w8 : (t : Int).tmod (d : Int) = ((t % d : Nat) : Int) := tmodN t d
    have w6 : IntKind.u64.wrap ((t : Int) / (d : Int)) = ((t / d : Nat) : Int) := by
      rw [← Int.natCast_ediv]
      generalize t / d = q at hq
      rw [w64 (by omega) (by omega)]
    obtain ⟨q, hqe⟩ : ∃ q, q = t / d := ⟨_, rfl⟩
    obtain ⟨r', hre⟩ : ∃ r', r' = t % d := ⟨_, rfl⟩
    rw [← hqe] at hq h9 w6
    rw [← hre] at hr' h9 w8
    have w7 : IntKind.u32.wrap (q : Int) = (q : Int) := by rw [w32 (by omega) (by omega)]
    simp [go_sem, h0, h1, h6, h7, h8, -Int.natCast_mul, -Int.natCast_add, -Int.natCast_ediv, -Int.natCast_emod, w1, w2, w3, w4, w5, w6, w7, w8, i1, i2]
    have hd0 : ¬ d = 0 := by omega
    refine ⟨hd0, hlt, by simp [lm_len]; omega, hd0, k, by omega, o.set k q, r', by omega, ?_, by simp [go_sem, h0], by simp [go_sem, h1], by simp [go_sem, h6], by simp [go_sem], by simp [go_sem], by simp [hol], limbs_set ho hq, hr', ?_⟩
    · rw [← lm_set, ← set_eq _ _ (by simp [lm_len]; omega)]; simp
    · rw [hinv2, lv_drop (l := o.set k q) (i := k) (by simp; omega), List.drop_set_of_lt (by omega)]
      simp only [List.getElem_set_self]
      have e : (q + BB * lv (o.drop (k + 1))) * d = d * q + lv (o.drop (k + 1)) * d * BB := by grind
      rw [e, hBB]; omega
end Go.Proofs.Vm
/-! The package natural: Add. -/
namespace Go.Proofs.Vm
open Go Go.Proofs.Na

/-- The body of the first loop in a piece of code. -/
def B.loop1 : B → Option B
  | .loop b => some b
  | .seq a b => match a.loop1 with
    | some x => some x
    | none => b.loop1
  | .block _ b => b.loop1
  | .cond _ a b => match a.loop1 with
    | some x => some x
    | none => b.loop1
  | _ => none

def addB : B := (F_natural_Add.body.loop1).getD .skip
theorem add_digit {x y c : Nat} (hx : x < BB) (hy : y < BB) (hc : c ≤ 1) : (x + y + c) % 4294967296 + (x + y + c) / 4294967296 * BB = x + y + c ∧ (x + y + c) % 4294967296 < BB ∧ (x + y + c) / 4294967296 ≤ 1 := by
  unfold BB at *
  omega
theorem add_inv {A X Y c c' x y d P : Nat} (h : A + c * P = X + Y) (hd : d + c' * BB = x + y + c) : (A + P * d) + c' * (P * BB) = (X + P * x) + (Y + P * y) := by
  have h2 := congrArg (P * ·) hd
  simp only [Nat.mul_add] at h2
  have h3 : P * (c' * BB) = c' * (P * BB) := by grind
  have h4 : P * c = c * P := Nat.mul_comm _ _
  omega

def addI (a b : List Nat) (n : Nat) (s : Nat → V) (X : List O) : Prop :=
  ∃ i o c, n = a.length - i ∧ i ≤ a.length ∧ X = [.cells (lm o) ty_uint32 1] ∧ s 5 = LV a ∧ s 6 = LV b ∧ s 7 = .osl 0 0 (a.length + 1) ∧ s 8 = u32 c ∧ s 27 = .int (a.length : Int) ∧ s 28 = .int (i : Int) ∧ o.length = a.length + 1 ∧ Limbs o ∧ c ≤ 1 ∧ o[a.length]? = some 0 ∧
    lv (o.take i) + c * BB ^ i = lv (a.take i) + lv (b.take i)
theorem add_loop {a b : List Nat} (ha : Limbs a) (hb : Limbs b) (hba : b.length ≤ a.length) (hm : a.length ≤ 70368744177664 / 65536) {s : Nat → V} {R : Ex → (Nat → V) → List O → Prop}
    (h5 : s 5 = LV a) (h6 : s 6 = LV b) (h7 : s 7 = .osl 0 0 (a.length + 1)) (h8 : s 8 = u32 0) (h27 : s 27 = .int (a.length : Int)) (h28 : s 28 = .int 0)
    (hR : ∀ (s' : Nat → V) (o : List Nat) (c : Nat), s' 5 = LV a → s' 7 = .osl 0 0 (a.length + 1) → s' 8 = u32 c → o.length = a.length + 1 → Limbs o → c ≤ 1 → lv (o.set a.length c) = lv a + lv b → R (.exit 0) s' [.cells (lm o) ty_uint32 1]) :
    Bx D0 (.loop addB) s [.cells (lm (List.replicate (a.length + 1) 0)) ty_uint32 1] R := by
  refine Bx_rounds (addI a b) ?_ a.length _ _ ⟨0, List.replicate (a.length + 1) 0, 0, rfl, Nat.zero_le _, rfl, h5, h6, h7, h8, h27, h28, by simp, limbs_zeros _, by omega, by simp, by simp [lv]⟩
  clear h5 h6 h7 h8 h27 h28 s
  rintro n s X ⟨i, o, c, rfl, hi, rfl, h5, h6, h7, h8, h27, h28, hol, ho, hc, htop, hinv⟩
  refine wpB_ok ?_
  have hv' : ∀ X, SL X (LV a) a := fun X => LV_SL a
  have hw' : ∀ X, SL X (LV b) b := fun X => LV_SL b
  have hlw := len_s (hw' [])
  by_cases hlt : i < a.length
  · have w4 : IntKind.i64.wrap ((i : Int) + 1) = ((i + 1 : Nat) : Int) := by rw [wi (by omega) (by omega)]; omega
    have i1 := fun K X => ia_s (K := K) (q := .i64) (n := ((i : Nat) : Int)) (hv' X) (by omega) (by omega)
    have i2 := fun K X => ld_s (K := K) (i := i) (k := 0) (hv' X) (by simp [lm_len]; omega)
    simp [lm_get] at i1 i2
    have hai := ha _ (List.getElem_mem hlt)
    have hBB : BB = 4294967296 := rfl
    generalize hy : b.getD i 0 = y
    have hyl : y < BB := by
      rw [← hy, List.getD_eq_getElem?_getD]
      cases hq : b[i]? with
      | none => exact BB_pos
      | some z => exact hb z (List.mem_of_getElem? hq)
    obtain ⟨d1, d2, hc'⟩ := add_digit hai hyl hc
    have hcall := fun K X => c_add32 (K := K) (H := X) (a := a[i]) (b := y) (c := c) (by omega) (by omega) hc
    generalize (a[i] + y + c) % 4294967296 = d at d1 d2 hcall
    generalize (a[i] + y + c) / 4294967296 = c' at d1 hcall hc'
    have next : ∀ s', s' 5 = LV a → s' 6 = LV b → s' 7 = .osl 0 0 (a.length + 1) → s' 8 = u32 c' → s' 27 = .int (a.length : Int) → s' 28 = .int ((i + 1 : Nat) : Int) →
        ∃ m, m < a.length - i ∧ addI a b m s' [.cells ((lm o).take i ++ u32 d :: (lm o).drop (i + 1)) ty_uint32 1] := fun s' q5 q6 q7 q8 q13 q14 => by
      refine ⟨a.length - (i + 1), by omega, i + 1, o.set i d, c', rfl, by omega, ?_, q5, q6, q7, q8, q13, q14, by simp [hol], limbs_set ho d2, hc', by rw [List.getElem?_set, if_neg (by omega)]; exact htop, ?_⟩
      · rw [← lm_set, ← set_eq _ _ (by simp [lm_len]; omega)]; simp
      · rw [lv_take_set (by omega), lv_take_getD b, hy, lv_take_succ hlt, Nat.pow_succ]
        exact add_inv hinv d1
    have hlt1 : (i : Int) < (a.length : Int) + 1 := by omega
    by_cases hib : i < b.length
    · have i3 := fun K X => ia_s (K := K) (q := .i64) (n := ((i : Nat) : Int)) (hw' X) (by omega) (by omega)
      have i4 := fun K X => ld_s (K := K) (i := i) (k := 0) (hw' X) (by simp [lm_len]; omega)
      simp [lm_get] at i3 i4
      have hyb : b[i] = y := by rw [← hy, List.getD_eq_getElem?_getD, List.getElem?_eq_getElem hib]; rfl
      simp [addB, F_natural_Add, B.loop1, go_sem, h5, h6, h7, h8, h27, h28, hlt, hlw, hib, -Int.natCast_add, w4, i1, i2, i3, i4, hyb, hcall]
      exact ⟨by omega, by simp [lm_len]; omega, next _ (by simp [go_sem, h5]) (by simp [go_sem, h6]) (by simp [go_sem, h7]) (by simp [go_sem]) (by simp [go_sem, h27]) (by simp [go_sem])⟩
    · have hy0 : y = 0 := by rw [← hy, List.getD_eq_getElem?_getD, List.getElem?_eq_none (by omega)]; rfl
      subst hy0
      simp only [u32, Int.natCast_zero] at hcall
      simp [addB, F_natural_Add, B.loop1, go_sem, h5, h6, h7, h8, h27, h28, hlt, hlw, hib, -Int.natCast_add, w4, i1, i2, hcall]
      exact ⟨by omega, by simp [lm_len]; omega, next _ (by simp [go_sem, h5]) (by simp [go_sem, h6]) (by simp [go_sem, h7]) (by simp [go_sem]) (by simp [go_sem, h27]) (by simp [go_sem])⟩
  · have hi' : i = a.length := by omega
    subst hi'
    rw [List.take_of_length_le (l := b) (by omega), List.take_of_length_le (l := a) (by omega)] at hinv
    simp [addB, F_natural_Add, B.loop1, go_sem, h5, h6, h7, h8, h27, h28]
    refine hR _ o c (by simp [go_sem, h5]) (by simp [go_sem, h7]) (by simp [go_sem, h8]) hol ho hc ?_
    have h1 := lv_take_set (l := o) (i := a.length) (x := c) (by omega)
    rw [List.take_of_length_le (by simp; omega)] at h1
    rw [h1, ← hinv, Nat.mul_comm]

theorem rep32 (k : Nat) : List.replicate k (V.lit (.int .u32 0)) = lm (List.replicate k 0) := by simp [lm]
theorem lb_size {l : List UInt8} {k : Nat} (h : l.length ≤ k) : (lb (nv l)).length ≤ k := by
  rw [lb_len]
  exact Nat.lt_of_lt_of_le (nv_lt l) (Nat.le_trans (Nat.pow_le_pow_right (by omega) h) (Nat.pow_le_pow_left (by decide) _))
/-- Behind the loop: the last limb, the text. -/
theorem add_end {m n : Nat} {s : Nat → V} {o : List Nat} {c : Nat} (hm : (lb m).length ≤ 16777216) (h5 : s 5 = LV (lb m)) (h7 : s 7 = .osl 0 0 ((lb m).length + 1)) (h8 : s 8 = u32 c) (hol : o.length = (lb m).length + 1) (ho : Limbs o) (hc : c ≤ 1) (hN : lv (o.set (lb m).length c) = m + n) :
    wpB D0 (.seq (.ops [⟨some 53, none, .mv (.t 7)⟩, ⟨some 54, none, .mv (.t 5)⟩, ⟨some 55, none, .len (.t 54)⟩, ⟨some 56, none, .mv (.t 8)⟩, ⟨some 57, none, .ia 1 (.t 53) (.t 55)⟩, ⟨none, none, .st 1 (.t 57) (.t 56)⟩])
      (.seq (.ops [⟨some 58, none, .mv (.t 7)⟩, ⟨some 59, none, .call fn_natural_limbs_text [.t 58]⟩, ⟨some 4, none, .mv (.t 59)⟩]) .ret)) s [.cells (lm o) ty_uint32 1] (Rx [.t 4] fun r H1 => out H1 depth r = some (st (nbl (m + n)))) := by
  have la := len_s (LV_SL (H := []) (lb m))
  have hlt : ((lb m).length : Int) < ((lb m).length : Int) + 1 := by omega
  simp [go_sem, h5, h7, h8, la, hlt]
  refine ⟨by simp [lm_len]; omega, ?_⟩
  have e : (lm o).take (lb m).length ++ u32 c :: (lm o).drop ((lb m).length + 1) = lm (o.set (lb m).length c) := by
    rw [← lm_set, ← set_eq _ _ (by simp [lm_len]; omega)]; simp
  rw [e]
  have hl := limbs_set ho (i := (lb m).length) (x := c) (Nat.lt_of_le_of_lt hc (by decide))
  have hs := own_SL (H := [.cells (lm (o.set (lb m).length c)) ty_uint32 1]) (h := 0) (o := o.set (lb m).length c) (t := ty_uint32) rfl (Nat.le_refl _)
  rw [List.take_length, List.length_set, hol] at hs
  rw [c_text hs hl (by simp; omega), hN]
  simp [go_sem]

theorem c_Add {a b : List UInt8} (ha : a.length ≤ 16777216) (hb : b.length ≤ 16777216) {H : List O} (K : V → List O → Prop) : Fx D0 fn_natural_Add [st a, st b] H K = K (st (nbl (nv a + nv b))) H := by
  have sa := lb_size ha
  have sb := lb_size hb
  refine Fx_is ?_ K
  refine Fx_ofp d_natural_Add rfl ?_
  have p1 := fun K X => c_parse (K := K) (H := X) (l := a) (by omega)
  have p2 := fun K X => c_parse (K := K) (H := X) (l := b) (by omega)
  have la := len_s (LV_SL (H := []) (lb (nv a)))
  have lb' := len_s (LV_SL (H := []) (lb (nv b)))
  by_cases hlt : (lb (nv a)).length < (lb (nv b)).length
  · have e1 : IntKind.i64.wrap (((lb (nv b)).length : Int) + 1) = (((lb (nv b)).length + 1 : Nat) : Int) := by rw [wi (by omega) (by omega)]; omega
    have e2 : (((lb (nv b)).length + 1 : Nat) : Int) * 4 ≤ 140737488355328 := by omega
    have e3 : (0 : Int) ≤ (((lb (nv b)).length + 1 : Nat) : Int) := by omega
    simp [go_sem, F_natural_Add, p1, p2, la, lb', hlt, -Int.natCast_add, e1, e2, e3, lm_rep]
    rw [rep32]
    refine add_loop (a := lb (nv b)) (b := lb (nv a)) (lb_limbs _) (lb_limbs _) (by omega) (by omega) rfl rfl rfl rfl rfl rfl fun s' o c q5 q7 q8 hol ho hc hN => ?_
    rw [lv_lb, lv_lb] at hN
    rw [Nat.add_comm (nv a)]
    exact add_end sb q5 q7 q8 hol ho hc hN
  · have e1 : IntKind.i64.wrap (((lb (nv a)).length : Int) + 1) = (((lb (nv a)).length + 1 : Nat) : Int) := by rw [wi (by omega) (by omega)]; omega
    have e2 : (((lb (nv a)).length + 1 : Nat) : Int) * 4 ≤ 140737488355328 := by omega
    have e3 : (0 : Int) ≤ (((lb (nv a)).length + 1 : Nat) : Int) := by omega
    simp [go_sem, F_natural_Add, p1, p2, la, lb', hlt, -Int.natCast_add, e1, e2, e3, lm_rep]
    rw [rep32]
    refine add_loop (a := lb (nv a)) (b := lb (nv b)) (lb_limbs _) (lb_limbs _) (by omega) (by omega) rfl rfl rfl rfl rfl rfl fun s' o c q5 q7 q8 hol ho hc hN => ?_
    rw [lv_lb, lv_lb] at hN
    exact add_end sa q5 q7 q8 hol ho hc hN
end Go.Proofs.Vm
/-! The package natural: Multiply. -/
namespace Go.Proofs.Vm
open Go Go.Proofs.Na

def mulB1 : B := (F_natural_Multiply.body.loop1).getD .skip
def mulB2 : B := (mulB1.loop1).getD .skip

theorem mul_digit {u v o c : Nat} (hu : u < BB) (hv : v < BB) (ho : o < BB) (hc : c < BB) : u * v + o + c < 18446744073709551616 := by
  unfold BB at *
  have : u * v ≤ 4294967295 * 4294967295 := Nat.mul_le_mul (by omega) (by omega)
  omega
theorem mul_inv {lo lo' L0 T u v o c d c' Pi Pk : Nat} (hset : lo' + Pi * Pk * o = lo + Pi * Pk * d) (hinv : lo + c * (Pi * Pk) = L0 + Pi * (u * T)) (ht : d + c' * BB = u * v + o + c) : lo' + c' * (Pi * Pk * BB) = L0 + Pi * (u * (T + Pk * v)) := by
  have h := congrArg (Pi * Pk * ·) ht
  simp only [Nat.mul_add] at h
  have e1 : Pi * Pk * (c' * BB) = c' * (Pi * Pk * BB) := by grind
  have e2 : Pi * Pk * c = c * (Pi * Pk) := Nat.mul_comm _ _
  have e3 : Pi * (u * (T + Pk * v)) = Pi * (u * T) + Pi * Pk * (u * v) := by grind
  omega

def rowI (b o0 : List Nat) (i u n5 : Nat) (x : V) (N : Nat) (n : Nat) (s : Nat → V) (X : List O) : Prop :=
  ∃ k o c, n = b.length - k ∧ k ≤ b.length ∧ X = [.cells (lm o) ty_uint32 1] ∧ s 5 = x ∧ s 6 = LV b ∧ s 7 = .osl 0 0 N ∧ s 8 = .int (i : Int) ∧ s 9 = u32 u ∧ s 10 = u64 c ∧ s 24 = x ∧ s 25 = .int (n5 : Int) ∧ s 26 = .int (i : Int) ∧ s 31 = LV b ∧ s 32 = .int (b.length : Int) ∧ s 33 = .int (k : Int) ∧
    o.length = N ∧ Limbs o ∧ c < BB ∧ (∀ j, i + k ≤ j → o[j]? = o0[j]?) ∧ lv o + c * BB ^ (i + k) = lv o0 + BB ^ i * (u * lv (b.take k))
theorem mul_row {b o0 : List Nat} {i u n5 N : Nat} {x : V} (hb : Limbs b) (ho0 : Limbs o0) (hN : o0.length = N) (hu : u < BB) (hi : i + b.length < N) (hm : N ≤ 70368744177664 / 65536) {s : Nat → V} {R : Ex → (Nat → V) → List O → Prop}
    (h5 : s 5 = x) (h6 : s 6 = LV b) (h7 : s 7 = .osl 0 0 N) (h8 : s 8 = .int (i : Int)) (h9 : s 9 = u32 u) (h10 : s 10 = u64 0) (h24 : s 24 = x) (h25 : s 25 = .int (n5 : Int)) (h26 : s 26 = .int (i : Int)) (h31 : s 31 = LV b) (h32 : s 32 = .int (b.length : Int)) (h33 : s 33 = .int 0)
    (hR : ∀ (s' : Nat → V) (o : List Nat) (c : Nat), s' 5 = x → s' 6 = LV b → s' 7 = .osl 0 0 N → s' 8 = .int (i : Int) → s' 10 = u64 c → s' 24 = x → s' 25 = .int (n5 : Int) → s' 26 = .int (i : Int) → o.length = N → Limbs o → c < BB → (∀ j, i + b.length ≤ j → o[j]? = o0[j]?) → lv o + c * BB ^ (i + b.length) = lv o0 + BB ^ i * (u * lv b) → R (.exit 2) s' [.cells (lm o) ty_uint32 1]) :
    Bx D0 (.loop mulB2) s [.cells (lm o0) ty_uint32 1] R := by
  refine Bx_rounds (rowI b o0 i u n5 x N) ?_ b.length _ _ ⟨0, o0, 0, rfl, Nat.zero_le _, rfl, h5, h6, h7, h8, h9, h10, h24, h25, h26, h31, h32, h33, hN, ho0, BB_pos, fun j _ => rfl, by simp [lv]⟩
  clear h5 h6 h7 h8 h9 h10 h24 h25 h26 h31 h32 h33 s
  rintro n s X ⟨k, o, c, rfl, hk, rfl, h5, h6, h7, h8, h9, h10, h24, h25, h26, h31, h32, h33, hol, ho, hc, htop, hinv⟩
  refine wpB_ok ?_
  have hw' : ∀ X, SL X (LV b) b := fun X => LV_SL b
  by_cases hlt : k < b.length
  · have w4 : IntKind.i64.wrap ((k : Int) + 1) = ((k + 1 : Nat) : Int) := by rw [wi (by omega) (by omega)]; omega
    have w5 : IntKind.i64.wrap ((i : Int) + (k : Int)) = ((i + k : Nat) : Int) := by rw [wi (by omega) (by omega)]; omega
    have i1 := fun K X => ia_s (K := K) (q := .i64) (n := ((k : Nat) : Int)) (hw' X) (by omega) (by omega)
    have i2 := fun K X => ld_s (K := K) (i := k) (k := 0) (hw' X) (by simp [lm_len]; omega)
    simp [lm_get] at i1 i2
    have hik : i + k < o.length := by omega
    have hbk := hb _ (List.getElem_mem hlt)
    have hoj := ho _ (List.getElem_mem hik)
    have i3 := lm_at hik
    have ht := mul_digit hu hbk hoj hc
    have hset := fun x => lv_set (x := x) hik
    have hmul : u * b[k] < 18446744073709551616 := by omega
    have hmul2 : u * b[k] + o[i + k] < 18446744073709551616 := by omega
    have hBB : BB = 4294967296 := rfl
    have hbk2 := lv_take_succ hlt
    generalize b[k] = v at *
    generalize o[i + k] = w at *
    obtain ⟨uv, huv⟩ : ∃ uv, uv = u * v := ⟨_, rfl⟩
    have w6 : IntKind.u64.wrap (u : Int) = (u : Int) := by rw [w64 (by omega) (by omega)]
    have w7 : IntKind.u64.wrap (v : Int) = (v : Int) := by rw [w64 (by omega) (by omega)]
    have w8 : IntKind.u64.wrap (w : Int) = (w : Int) := by rw [w64 (by omega) (by omega)]
    have w9 : IntKind.u64.wrap ((u : Int) * (v : Int)) = (uv : Int) := by
      rw [← Int.natCast_mul, ← huv, w64 (by omega) (by omega)]
    rw [← huv] at ht hmul hmul2
    have w10 : IntKind.u64.wrap ((uv : Int) + (w : Int)) = ((uv + w : Nat) : Int) := by rw [w64 (by omega) (by omega)]; omega
    have w11 : IntKind.u64.wrap (((uv + w : Nat) : Int) + (c : Int)) = ((uv + w + c : Nat) : Int) := by rw [w64 (by omega) (by omega)]; omega
    have hdc : (uv + w + c) % BB + (uv + w + c) / BB * BB = uv + w + c := by rw [Nat.mul_comm]; exact Nat.mod_add_div _ _
    have hd := Nat.mod_lt (uv + w + c) BB_pos
    have hc' : (uv + w + c) / BB < BB := by rw [hBB] at *; omega
    have w12 : IntKind.u32.wrap ((uv + w + c : Nat) : Int) = (((uv + w + c) % BB : Nat) : Int) := by rw [w32m, hBB]; omega
    have w13 : ((uv + w + c : Nat) : Int).fdiv 4294967296 = (((uv + w + c) / BB : Nat) : Int) := by rw [show (4294967296 : Int) = ((4294967296 : Nat) : Int) from rfl, fdivN, hBB]; omega
    simp [mulB2, mulB1, F_natural_Multiply, B.loop1, go_sem, h5, h6, h7, h8, h9, h10, h24, h25, h26, h31, h32, h33, hlt, -Int.natCast_add, -Int.natCast_mul, -Int.natCast_ediv, -Int.natCast_emod, w4, w5, w6, w7, w8, w9, w10, w11, w12, w13, i1, i2, i3]
    obtain ⟨d, hde⟩ : ∃ d, d = (uv + w + c) % BB := ⟨_, rfl⟩
    obtain ⟨c', hce⟩ : ∃ c', c' = (uv + w + c) / BB := ⟨_, rfl⟩
    rw [← hde, ← hce] at hdc
    rw [← hde] at hd
    rw [← hce] at hc'
    rw [← hde, ← hce]
    refine ⟨by omega, by simp [lm_len]; omega, b.length - (k + 1), by omega, k + 1, o.set (i + k) d, c', rfl, by omega, ?_, by simp [go_sem, h5], by simp [go_sem, h6], by simp [go_sem, h7], by simp [go_sem, h8], by simp [go_sem, h9], by simp [go_sem], by simp [go_sem, h24], by simp [go_sem, h25], by simp [go_sem, h26], by simp [go_sem, h31], by simp [go_sem, h32], by simp [go_sem], by simp [hol], limbs_set ho hd, hc', fun j hj => by rw [List.getElem?_set, if_neg (by omega)]; exact htop j (by omega), ?_⟩
    · rw [← lm_set, ← set_eq _ _ (by simp [lm_len]; omega)]; simp
    · have h1 := hset d
      rw [Nat.pow_add] at h1 hinv
      rw [hbk2, ← Nat.add_assoc, Nat.pow_succ, Nat.pow_add]
      exact mul_inv h1 hinv (by rw [hdc, huv])
  · have hi' : k = b.length := by omega
    subst hi'
    rw [List.take_length] at hinv
    simp [mulB2, mulB1, F_natural_Multiply, B.loop1, go_sem, h5, h6, h7, h8, h9, h10, h24, h25, h26, h31, h32, h33]
    exact hR _ o c (by simp [go_sem, h5]) (by simp [go_sem, h6]) (by simp [go_sem, h7]) (by simp [go_sem, h8]) (by simp [go_sem, h10]) (by simp [go_sem, h24]) (by simp [go_sem, h25]) (by simp [go_sem, h26]) hol ho hc htop hinv

def mulI (a b : List Nat) (n : Nat) (s : Nat → V) (X : List O) : Prop :=
  ∃ i o, n = a.length - i ∧ i ≤ a.length ∧ X = [.cells (lm o) ty_uint32 1] ∧ s 5 = LV a ∧ s 6 = LV b ∧ s 7 = .osl 0 0 (a.length + b.length) ∧ s 24 = LV a ∧ s 25 = .int (a.length : Int) ∧ s 26 = .int (i : Int) ∧
    o.length = a.length + b.length ∧ Limbs o ∧ (∀ j, i + b.length ≤ j → j < a.length + b.length → o[j]? = some 0) ∧ lv o = lv (a.take i) * lv b
theorem c_Multiply {a b : List UInt8} (ha : a.length ≤ 16777216) (hb : b.length ≤ 16777216) {H : List O} (K : V → List O → Prop) : Fx D0 fn_natural_Multiply [st a, st b] H K = K (st (nbl (nv a * nv b))) H := by
  have sa := lb_size ha
  have sb := lb_size hb
  refine Fx_is ?_ K
  refine Fx_ofp d_natural_Multiply rfl ?_
  have p1 := fun K X => c_parse (K := K) (H := X) (l := a) (by omega)
  have p2 := fun K X => c_parse (K := K) (H := X) (l := b) (by omega)
  have la := len_s (LV_SL (H := []) (lb (nv a)))
  have lb' := len_s (LV_SL (H := []) (lb (nv b)))
  have hx := lb_limbs (nv a)
  have hy := lb_limbs (nv b)
  have hxv := lv_lb (nv a)
  have hyv := lv_lb (nv b)
  generalize lb (nv a) = x at *
  generalize lb (nv b) = y at *
  have e1 : IntKind.i64.wrap ((x.length : Int) + (y.length : Int)) = ((x.length + y.length : Nat) : Int) := by rw [wi (by omega) (by omega)]; omega
  have e2 : ((x.length + y.length : Nat) : Int) * 4 ≤ 140737488355328 := by omega
  have e3 : (0 : Int) ≤ ((x.length + y.length : Nat) : Int) := by omega
  simp [go_sem, F_natural_Multiply, p1, p2, la, lb', -Int.natCast_add, e1, e2, e3, lm_rep]
  rw [rep32]
  refine Bx_rounds (mulI x y) ?_ x.length _ _ ⟨0, List.replicate (x.length + y.length) 0, rfl, Nat.zero_le _, rfl, rfl, rfl, rfl, rfl, rfl, rfl, by simp, limbs_zeros _, fun j h1 h2 => by simp [h2], by simp [lv, lv_zeros]⟩
  rintro n s X ⟨i, o, rfl, hi, rfl, h5, h6, h7, h24, h25, h26, hol, ho, htop, hinv⟩
  refine wpB_ok ?_
  by_cases hlt : i < x.length
  · have w4 : IntKind.i64.wrap ((i : Int) + 1) = ((i + 1 : Nat) : Int) := by rw [wi (by omega) (by omega)]; omega
    have i1 := fun K X => ia_s (K := K) (q := .i64) (n := ((i : Nat) : Int)) (LV_SL (H := X) x) (by omega) (by omega)
    have i2 := fun K X => ld_s (K := K) (i := i) (k := 0) (LV_SL (H := X) x) (by simp [lm_len]; omega)
    simp [lm_get] at i1 i2
    have hxi := hx _ (List.getElem_mem hlt)
    have htake := lv_take_succ hlt
    generalize x[i] = u at *
    simp [go_sem, h5, h6, h7, h24, h25, h26, hlt, i1, i2, lb', -Int.natCast_add]
    refine mul_row (b := y) (o0 := o) (i := i) (u := u) (n5 := x.length) (N := x.length + y.length) (x := LV x) hy ho hol hxi (by omega) (by omega) (by simp [go_sem, h5]) (by simp [go_sem, h6]) (by simp [go_sem, h7]) (by simp [go_sem]) (by simp [go_sem]) (by simp [go_sem]) (by simp [go_sem, h24]) (by simp [go_sem, h25]) (by simp [go_sem, h26]) (by simp [go_sem]) (by simp [go_sem]) (by simp [go_sem])
      fun s' o' c q5 q6 q7 q8 q10 q24 q25 q26 hol' ho' hc hsame hN => ?_
    have w5 : IntKind.i64.wrap ((i : Int) + (y.length : Int)) = ((i + y.length : Nat) : Int) := by rw [wi (by omega) (by omega)]; omega
    have w6 : IntKind.u32.wrap (c : Int) = (c : Int) := by rw [w32 (by omega) (by unfold BB at hc; omega)]
    have hiy : i + y.length < o'.length := by omega
    have h0 : o'[i + y.length] = 0 := by
      have h1 := hsame (i + y.length) (Nat.le_refl _)
      rw [htop _ (Nat.le_refl _) (by omega), List.getElem?_eq_getElem hiy] at h1
      exact Option.some.inj h1
    simp [go_sem, q5, q6, q7, q8, q10, q24, q25, q26, lb', w5, w6, w4, -Int.natCast_add]
    refine ⟨by omega, by simp [lm_len]; omega, x.length - (i + 1), by omega, i + 1, o'.set (i + y.length) c, rfl, by omega, ?_, by simp [go_sem, q5], by simp [go_sem, q6], by simp [go_sem, q7], by simp [go_sem, q24], by simp [go_sem, q25], by simp [go_sem], by simp [hol'], limbs_set ho' hc, fun j hj hj2 => ?_, ?_⟩
    · rw [← lm_set, ← set_eq _ _ (by simp [lm_len]; omega)]; simp
    · rw [List.getElem?_set, if_neg (by omega), hsame j (by omega)]; exact htop j (by omega) hj2
    · have h1 := lv_set (x := c) hiy
      rw [h0, Nat.mul_zero, Nat.add_zero] at h1
      rw [h1, htake, Nat.mul_comm (BB ^ (i + y.length)), hN, hinv, Nat.add_mul]
      grind
  · have hi' : i = x.length := by omega
    subst hi'
    rw [List.take_length] at hinv
    have hs := own_SL (H := [.cells (lm o) ty_uint32 1]) (h := 0) (o := o) (t := ty_uint32) rfl (Nat.le_refl _)
    rw [List.take_length, hol] at hs
    simp [go_sem, h5, h6, h7, h24, h25, h26]
    rw [c_text hs ho (by omega), hinv, hxv, hyv]
    simp [go_sem]
end Go.Proofs.Vm
/-! The package natural: Subtract, FromUint; leading zeros. -/
namespace Go.Proofs.Vm
open Go Go.Proofs.Na

theorem c_Subtract {a b : List UInt8} (ha : a.length ≤ 16777216) (hb : b.length ≤ 16777216) {H : List O} (K : V → List O → Prop) :
    Fx D0 fn_natural_Subtract [st a, st b] H K = K (if nv b ≤ nv a then .tup [st (nbl (nv a - nv b)), .bool true] else .tup [st [], .bool false]) H := by
  have sa := lb_size ha
  have sb := lb_size hb
  refine Fx_is ?_ K
  refine Fx_ofp d_natural_Subtract rfl ?_
  have p1 := fun K X => c_parse (K := K) (H := X) (l := a) (by omega)
  have p2 := fun K X => c_parse (K := K) (H := X) (l := b) (by omega)
  have p3 := fun K X => c_compare (K := K) (H := X) (LV_SL (H := X) (lb (nv a))) (LV_SL (lb (nv b))) (by omega) (by omega)
  by_cases h : nv b ≤ nv a
  · have hlen : (lb (nv b)).length ≤ (lb (nv a)).length := lb_mono h (Nat.le_refl _)
    have hs : ¬ sg (nv a) (nv b) < 0 := by unfold sg; split <;> (try split) <;> omega
    have p4 := fun K X => c_subtract (K := K) (H := X) (LV_SL (H := X) (lb (nv a))) (LV_SL (lb (nv b))) (lb_limbs _) (lb_limbs _) hlen (by rw [lv_lb, lv_lb]; exact h) (by omega)
    simp only [lv_lb] at p4
    have hl5 : (lb (nv a - nv b)).length ≤ 16777216 := lb_mono (Nat.sub_le _ _) sa
    have p5 := fun K X => c_text (K := K) (H := X) (LV_SL (H := X) (lb (nv a - nv b))) (lb_limbs _) (by omega)
    simp only [lv_lb] at p5
    simp [go_sem, F_natural_Subtract, p1, p2, p3, p4, p5, h, hs]
  · have hs : sg (nv a) (nv b) < 0 := by unfold sg; rw [if_pos (by omega)]; omega
    simp [go_sem, F_natural_Subtract, p1, p2, p3, h, hs]

theorem c_FromUint {u : Nat} (hu : u < 18446744073709551616) {H : List O} (K : V → List O → Prop) : Fx D0 fn_natural_FromUint [u64 u] H K = K (st (nbl u)) H := by
  refine Fx_is ?_ K
  refine Fx_ofp d_natural_FromUint rfl ?_
  have w1 : IntKind.u32.wrap (u : Int) = ((u % BB : Nat) : Int) := by rw [w32m]; unfold BB; omega
  have w2 : IntKind.u32.wrap ((u : Int).fdiv 4294967296) = ((u / BB : Nat) : Int) := by
    rw [show (4294967296 : Int) = ((4294967296 : Nat) : Int) from rfl, fdivN, w32 (by omega) (by omega)]; unfold BB; omega
  have hl : Limbs [u % BB, u / BB] := fun x hx => by
    simp at hx
    rcases hx with rfl | rfl
    · exact Nat.mod_lt _ BB_pos
    · unfold BB; omega
  have hs := own_SL (H := [.cells (lm [u % BB, u / BB]) ty_uint32 1]) (h := 0) (o := [u % BB, u / BB]) (t := ty_uint32) rfl (Nat.le_refl _)
  simp only [List.take_length] at hs
  have p5 := fun K => c_text (K := K) hs hl (by simp)
  have hN : lv [u % BB, u / BB] = u := by simp [lv, Nat.mod_add_div]
  rw [hN] at p5
  simp [lm] at p5
  simp [go_sem, F_natural_FromUint, -Int.natCast_ediv, -Int.natCast_emod, w1, w2]
  exact (p5 _).2 (by simp [go_sem])

/-- Go's table of lengths. -/
def len8 : List UInt8 := [0] ++ [1] ++ List.replicate 2 2 ++ List.replicate 4 3 ++ List.replicate 8 4 ++ List.replicate 16 5 ++ List.replicate 32 6 ++ List.replicate 64 7 ++ List.replicate 128 8
theorem len8_spec : ∀ i, i < 256 → ∃ n, len8[i]? = some (UInt8.ofNat n) ∧ n ≤ 8 ∧ i < 2 ^ n ∧ (1 ≤ i → 2 ^ n ≤ 2 * i) := by
  have : (List.range 256).all (fun i => (List.range 9).any fun n => len8[i]? == some (UInt8.ofNat n) && decide (i < 2 ^ n) && (decide (i = 0) || decide (2 ^ n ≤ 2 * i))) = true := by decide +kernel
  intro i hi
  have h := List.all_eq_true.1 this i (List.mem_range.2 hi)
  obtain ⟨n, hn, h⟩ := List.any_eq_true.1 h
  simp only [Bool.and_eq_true, beq_iff_eq, decide_eq_true_eq, Bool.or_eq_true] at h
  exact ⟨n, h.1.1, by have := List.mem_range.1 hn; omega, h.1.2, fun h1 => h.2.resolve_left (by omega)⟩
theorem len8_len : len8.length = 256 := by decide +kernel

/-- How many bits a number has. -/
def Bits (x n : Nat) : Prop := x < 2 ^ n ∧ (1 ≤ x → 2 ^ n ≤ 2 * x)
theorem Bits.shift {x n : Nat} (k : Nat) (h : Bits (x / 2 ^ k) n) (hx : 2 ^ k ≤ x) : Bits x (n + k) := by
  have hp : 0 < 2 ^ k := Nat.pow_pos (by omega)
  have h1 : 1 ≤ x / 2 ^ k := Nat.div_pos hx hp
  refine ⟨?_, fun _ => ?_⟩
  · rw [Nat.pow_add]; exact (Nat.div_lt_iff_lt_mul hp).1 h.1
  · rw [Nat.pow_add]
    have h2 := Nat.mul_le_mul_right (2 ^ k) (h.2 h1)
    have h3 := Nat.div_mul_le_self x (2 ^ k)
    rw [Nat.mul_assoc] at h2
    omega

theorem F_len : F_bits_Len32 = ⟨19, .seq (.ops [⟨some 2, none, .mv (.c (.int 0))⟩]) (.seq (.seq (.ops [⟨some 3, none, .mv (.t 0)⟩, ⟨some 4, none, .bin .geq (.t 3) (.c (.lit (.int .u32 (Int.ofNat 65536))))⟩]) (.cond (.t 4) (.seq (.ops [⟨some 5, none, .mv (.t 0)⟩, ⟨some 6, none, .bin .shr (.t 5) (.c (.lit (.int .u64 (Int.ofNat 16))))⟩, ⟨some 0, none, .mv (.t 6)⟩]) (.ops [⟨some 2, none, .mv (.c (.int 16))⟩])) .skip)) (.seq (.seq (.ops [⟨some 7, none, .mv (.t 0)⟩, ⟨some 8, none, .bin .geq (.t 7) (.c (.lit (.int .u32 (Int.ofNat 256))))⟩]) (.cond (.t 8) (.seq (.ops [⟨some 9, none, .mv (.t 0)⟩, ⟨some 10, none, .bin .shr (.t 9) (.c (.lit (.int .u64 (Int.ofNat 8))))⟩, ⟨some 0, none, .mv (.t 10)⟩]) (.ops [⟨some 11, none, .mv (.t 2)⟩, ⟨some 12, none, .bin .add (.t 11) (.c (.int 8))⟩, ⟨some 2, none, .mv (.t 12)⟩])) .skip)) (.seq (.ops [⟨some 13, none, .mv (.t 2)⟩, ⟨some 14, none, .mv (.t 0)⟩, ⟨some 15, none, .wrap .u8 (.t 14)⟩, ⟨some 16, none, .idx (.c (st len8)) (.t 15)⟩, ⟨some 17, none, .wrap .i64 (.t 16)⟩, ⟨some 18, none, .bin .add (.t 13) (.t 17)⟩, ⟨some 2, none, .mv (.t 18)⟩]) .ret))), [.t 2]⟩ := rfl
theorem c_Len32 {x : Nat} (hx : x < 4294967296) : ∃ n, n ≤ 32 ∧ Bits x n ∧ ∀ H K, Fx D0 fn_bits_Len32 [u32 x] H K = K (.int (n : Int)) H := by
  -- the table's place
  have tab : ∀ y, y < 256 → ∃ n, n ≤ 8 ∧ Bits y n ∧ ∀ K H, idxK (st len8) (.lit (.int .u8 (y : Int))) H K = K (u8 n) H := fun y hy => by
    obtain ⟨n, h1, h2, h3, h4⟩ := len8_spec y hy
    refine ⟨n, h2, ⟨h3, h4⟩, fun K H => ?_⟩
    rw [idx_st (by rw [len8_len]; exact hy)]
    obtain ⟨h5, h6⟩ := List.getElem?_eq_some_iff.1 h1
    rw [h6]
    congr 3
    simp; omega
  have fin : ∀ n, (∀ H, Fx D0 fn_bits_Len32 [u32 x] H fun r X => r = .int (n : Int) ∧ X = H) → ∀ H K, Fx D0 fn_bits_Len32 [u32 x] H K = K (.int (n : Int)) H := fun n h H K => Fx_is (h H) K
  have e16 : (x : Int).fdiv 65536 = ((x / 65536 : Nat) : Int) := by rw [show (65536 : Int) = ((65536 : Nat) : Int) from rfl, fdivN]; omega
  have e8 : ∀ y : Nat, (y : Int).fdiv 256 = ((y / 256 : Nat) : Int) := fun y => by rw [show (256 : Int) = ((256 : Nat) : Int) from rfl, fdivN]; omega
  have w8' : ∀ y : Nat, y < 256 → IntKind.u8.wrap (y : Int) = (y : Int) := fun y hy => by rw [w8 (by omega) (by omega)]
  have wn : ∀ n : Nat, n ≤ 64 → IntKind.i64.wrap (n : Int) = (n : Int) := fun n hn => by rw [wi (by omega) (by omega)]
  have w24 : IntKind.i64.wrap 24 = 24 := by decide
  have w8l : IntKind.i64.wrap 8 = 8 := by decide
  by_cases h16 : 65536 ≤ x
  · have i16 : (65536 : Int) ≤ x := by omega
    by_cases h8 : 256 ≤ x / 65536
    · have i8 : (256 : Int) ≤ ((x / 65536 : Nat) : Int) := by omega
      obtain ⟨n, h1, h2, h3⟩ := tab (x / 65536 / 256) (by omega)
      refine ⟨n + 24, by omega, ?_, fin (n + 24 : Nat) fun H => ?_⟩
      · have h4 := h2.shift 8 (x := x / 65536) (by omega)
        exact (show Bits x (n + 8 + 16) from h4.shift 16 (x := x) (by omega))
      refine Fx_ofp d_bits_Len32 rfl ?_
      have w1 := w8' (x / 65536 / 256) (by omega)
      have w2 := wn n (by omega)
      have w3 : IntKind.i64.wrap (24 + (n : Int)) = ((n + 24 : Nat) : Int) := by rw [wi (by omega) (by omega)]; omega
      simp [go_sem, F_len, i16, i8, -Int.natCast_ediv, -Int.natCast_add, w1, w2, w3, h3, e16, e8, w24]
    · have i8 : ¬ (256 : Int) ≤ ((x / 65536 : Nat) : Int) := by omega
      obtain ⟨n, h1, h2, h3⟩ := tab (x / 65536) (by omega)
      refine ⟨n + 16, by omega, h2.shift 16 (x := x) (by omega), fin (n + 16 : Nat) fun H => ?_⟩
      refine Fx_ofp d_bits_Len32 rfl ?_
      have w1 := w8' (x / 65536) (by omega)
      have w2 := wn n (by omega)
      have w3 : IntKind.i64.wrap (16 + (n : Int)) = ((n + 16 : Nat) : Int) := by rw [wi (by omega) (by omega)]; omega
      simp [go_sem, F_len, i16, i8, -Int.natCast_ediv, -Int.natCast_add, w1, w2, w3, h3, e16]
  · have i16 : ¬ (65536 : Int) ≤ x := by omega
    by_cases h8 : 256 ≤ x
    · have i8 : (256 : Int) ≤ x := by omega
      obtain ⟨n, h1, h2, h3⟩ := tab (x / 256) (by omega)
      refine ⟨n + 8, by omega, h2.shift 8 (x := x) (by omega), fin (n + 8 : Nat) fun H => ?_⟩
      refine Fx_ofp d_bits_Len32 rfl ?_
      have w1 := w8' (x / 256) (by omega)
      have w2 := wn n (by omega)
      have w3 : IntKind.i64.wrap (8 + (n : Int)) = ((n + 8 : Nat) : Int) := by rw [wi (by omega) (by omega)]; omega
      simp [go_sem, F_len, i16, i8, -Int.natCast_ediv, -Int.natCast_add, w1, w2, w3, h3, e8, w8l]
    · have i8 : ¬ (256 : Int) ≤ x := by omega
      obtain ⟨n, h1, h2, h3⟩ := tab x (by omega)
      refine ⟨n, by omega, h2, fin n fun H => ?_⟩
      refine Fx_ofp d_bits_Len32 rfl ?_
      have w1 := w8' x (by omega)
      have w2 := wn n (by omega)
      simp [go_sem, F_len, i16, i8, w1, w2, h3]

theorem c_lz {x : Nat} (h1 : 1 ≤ x) (hx : x < 4294967296) : ∃ n : Nat, n ≤ 31 ∧ 2147483648 ≤ x * 2 ^ n ∧ x * 2 ^ n < 4294967296 ∧ ∀ H K, Fx D0 fn_bits_LeadingZeros32 [u32 x] H K = K (.int (n : Int)) H := by
  obtain ⟨n, hn, ⟨hb1, hb2⟩, h3⟩ := c_Len32 hx
  have hb2 := hb2 h1
  have hn0 : n ≠ 0 := fun e => by subst e; simp at hb1; omega
  have hp : 2 ^ n * 2 ^ (32 - n) = 4294967296 := by rw [← Nat.pow_add, show n + (32 - n) = 32 by omega]
  refine ⟨32 - n, by omega, ?_, ?_, fun H K => Fx_is ?_ K⟩
  · have := Nat.mul_le_mul_right (2 ^ (32 - n)) hb2
    rw [hp, Nat.mul_assoc] at this; omega
  · rw [← hp]; exact Nat.mul_lt_mul_of_pos_right hb1 (Nat.pow_pos (by omega))
  · refine Fx_ofp d_bits_LeadingZeros32 rfl ?_
    have w1 : IntKind.i64.wrap (32 - (n : Int)) = ((32 - n : Nat) : Int) := by rw [wi (by omega) (by omega)]; omega
    simp [go_sem, F_bits_LeadingZeros32, h3, w1]
    try omega
end Go.Proofs.Vm
/-! The package natural: shift. -/
namespace Go.Proofs.Vm
open Go Go.Proofs.Na

theorem SL_app {H : List O} {v : V} {l : List Nat} (h : SL H v l) (m : List O) : SL (H ++ m) v l := Keeps.app.sliceV h
theorem set_last {H : List O} {a b : O} : (H ++ [a]).set H.length b = H ++ [b] := by
  rw [List.set_append_right _ _ (Nat.le_refl _)]; simp
theorem get_last {H : List O} {a : O} : (H ++ [a])[H.length]? = some a := by simp

theorem shift_inv {a o : List Nat} {i by_ n : Nat} (ha : Limbs a) (ho : Limbs o) (hol : o.length = n) (hi : i < a.length) (hin : i < n) (hby : by_ ≤ 31) (hfit : lv a * 2 ^ by_ < BB ^ n) (hinv : lv o = lv (a.take i) * 2 ^ by_) :
    ∃ (h : i < o.length), o[i] ||| (a[i] * 2 ^ by_) % BB = o[i] + (a[i] * 2 ^ by_) % BB ∧ o[i] + (a[i] * 2 ^ by_) % BB < BB ∧
      (i + 1 < n → ∃ h1 : i + 1 < o.length, o[i + 1] = 0 ∧ lv ((o.set i (o[i] + (a[i] * 2 ^ by_) % BB)).set (i + 1) (a[i] * 2 ^ by_ / BB)) = lv (a.take (i + 1)) * 2 ^ by_) ∧
      (¬ i + 1 < n → lv (o.set i (o[i] + (a[i] * 2 ^ by_) % BB)) = lv (a.take (i + 1)) * 2 ^ by_) := by
  have h : i < o.length := by omega
  have htake := lv_take_succ hi
  have hlt := lv_take_lt ha (i := i) (by omega)
  have hP : 0 < 2 ^ by_ := Nat.pow_pos (by omega)
  have hPB : 2 ^ by_ ≤ BB := by rw [two_split hby]; exact Nat.le_mul_of_pos_right _ (Nat.pow_pos (by omega))
  have hlo : lv o < BB ^ i * 2 ^ by_ := by rw [hinv]; exact Nat.mul_lt_mul_of_pos_right hlt hP
  have h1 := get_small h hlo
  obtain ⟨h2, h3⟩ := shl_parts (u := a[i]) hby
  have hset := lv_set (x := o[i] + (a[i] * 2 ^ by_) % BB) h
  have htd := Nat.mod_add_div (a[i] * 2 ^ by_) BB
  have main : lv (a.take (i + 1)) * 2 ^ by_ = lv o + BB ^ i * ((a[i] * 2 ^ by_) % BB) + BB ^ (i + 1) * (a[i] * 2 ^ by_ / BB) := by
    rw [htake, hinv, Nat.add_mul, Nat.mul_assoc (BB ^ i), ← htd, Nat.mul_add (BB ^ i), Nat.pow_succ, htd]
    rw [Nat.mul_assoc (BB ^ i) BB]; omega
  refine ⟨h, ?_, ?_, fun hn => ?_, fun hn => ?_⟩
  · rw [h2]; exact or_add h1
  · rw [h2]; omega
  · have h4 : i + 1 < o.length := by omega
    have h5 := get_zero h4 (by omega) hPB hlo
    refine ⟨h4, h5, ?_⟩
    have h6 := lv_set (l := o.set i (o[i] + (a[i] * 2 ^ by_) % BB)) (i := i + 1) (x := a[i] * 2 ^ by_ / BB) (by simpa using h4)
    rw [List.getElem_set_ne (by omega), h5, Nat.mul_zero, Nat.add_zero] at h6
    rw [h6, main]
    rw [Nat.mul_add] at hset
    omega
  · have hz : a[i] * 2 ^ by_ / BB = 0 := by
      rw [Nat.div_eq_zero_iff]
      right
      have h4 : lv (a.take (i + 1)) ≤ lv a := by rw [lv_split a (i + 1) (by omega)]; omega
      have h5 := Nat.mul_le_mul_right (2 ^ by_) h4
      rw [htake, Nat.add_mul, Nat.mul_assoc (BB ^ i)] at h5
      have h6 : n = i + 1 := by omega
      rw [h6, Nat.pow_succ] at hfit
      rcases Nat.lt_or_ge (a[i] * 2 ^ by_) BB with h7 | h7
      · exact h7
      · have := Nat.mul_le_mul_left (BB ^ i) h7; omega
    rw [main, hz, Nat.mul_zero, Nat.add_zero]
    rw [Nat.mul_add] at hset
    omega

def shiftI (H : List O) (a : List Nat) (by_ n : Nat) (v : V) (m : Nat) (s : Nat → V) (X : List O) : Prop :=
  ∃ i o, m = a.length - i ∧ i ≤ a.length ∧ X = H ++ [.cells (lm o) ty_uint32 1] ∧ s 1 = u64 by_ ∧ s 2 = .int (n : Int) ∧ s 7 = .osl H.length 0 n ∧ s 13 = v ∧ s 14 = .int (a.length : Int) ∧ s 15 = .int (i : Int) ∧
    o.length = n ∧ Limbs o ∧ lv o = lv (a.take i) * 2 ^ by_
theorem c_shift {H : List O} {v : V} {a : List Nat} {by_ n : Nat} (hv : SL H v a) (ha : Limbs a) (hby : by_ ≤ 31) (hn : a.length ≤ n) (hfit : lv a * 2 ^ by_ < BB ^ n) (hm : n ≤ 70368744177664 / 65536) (K : V → List O → Prop) :
    Fx D0 fn_natural_shift [v, u64 by_, .int (n : Int)] H K = K (.osl H.length 0 n) (H ++ [.cells (lm (ln n (lv a * 2 ^ by_))) ty_uint32 1]) := by
  refine Fx_is ?_ K
  refine Fx_of d_natural_shift ?_
  have hle := len_s hv
  have e4 : (n : Int) * 4 ≤ 140737488355328 := by omega
  have e5 : (0 : Int) ≤ (n : Int) := by omega
  simp [go_sem, F_natural_shift, hle, e4, e5, lm_rep]
  rw [rep32]
  refine Bx_rounds (shiftI H a by_ n v) ?_ a.length _ _ ⟨0, List.replicate n 0, rfl, Nat.zero_le _, rfl, rfl, rfl, rfl, rfl, rfl, rfl, by simp, limbs_zeros _, by simp [lv, lv_zeros]⟩
  rintro m s X ⟨i, o, rfl, hi, rfl, h1, h2, h7, h13, h14, h15, hol, ho, hinv⟩
  refine wpB_ok ?_
  by_cases hlt : i < a.length
  · have hv' := SL_app hv [.cells (lm o) ty_uint32 1]
    have w4 : IntKind.i64.wrap ((i : Int) + 1) = ((i + 1 : Nat) : Int) := by rw [wi (by omega) (by omega)]; omega
    have i1 := fun K => ia_s (K := K) (q := .i64) (n := ((i : Nat) : Int)) hv' (by omega) (by omega)
    have i2 := fun K => ld_s (K := K) (i := i) (k := 0) hv' (by simp [lm_len]; omega)
    simp [lm_get] at i1 i2
    obtain ⟨h, g1, g2, g3, g4⟩ := shift_inv ha ho hol hlt (by omega) hby hfit hinv
    have i3 := lm_at h
    have hai := ha _ (List.getElem_mem hlt)
    have hoi := ho _ (List.getElem_mem h)
    have hPB : 2 ^ by_ ≤ 2147483648 := by rw [show 2147483648 = 2 ^ 31 from rfl]; exact Nat.pow_le_pow_right (by omega) hby
    generalize a[i] = u at *
    generalize hoe : o[i] = w at *
    have htl : u * 2 ^ by_ < 18446744073709551616 := by
      have := Nat.mul_le_mul (show u ≤ 4294967295 by unfold BB at hai; omega) hPB
      omega
    have w1 : IntKind.u64.wrap (u : Int) = (u : Int) := by rw [w64 (by omega) (by unfold BB at hai; omega)]
    have w2 : IntKind.u64.wrap ((u : Int) * 2 ^ min by_ 64) = ((u * 2 ^ by_ : Nat) : Int) := by
      rw [Nat.min_eq_left (by omega), show (2 : Int) ^ by_ = ((2 ^ by_ : Nat) : Int) by push_cast; rfl, ← Int.natCast_mul, w64 (by omega) (by omega)]
    obtain ⟨t, ht⟩ : ∃ t, t = u * 2 ^ by_ := ⟨_, rfl⟩
    rw [← ht] at w2 g1 g2 g3 g4 htl
    have w3 : IntKind.u32.wrap (t : Int) = ((t % BB : Nat) : Int) := by rw [w32m]; unfold BB; omega
    have hml := Nat.mod_lt t BB_pos
    have hdl : t / BB < BB := by unfold BB; omega
    have w5 : IntKind.u32.wrap ((t : Int).fdiv 4294967296) = ((t / BB : Nat) : Int) := by
      rw [show (4294967296 : Int) = ((4294967296 : Nat) : Int) from rfl, fdivN, w32 (by omega) (by omega)]; unfold BB; omega
    have w6 : bits .or .u32 (w : Int) ((t % BB : Nat) : Int) = ((w + t % BB : Nat) : Int) := by
      rw [u32_or_nat _ _ (by unfold BB at hoi; omega) (by unfold BB at hml ⊢; omega), g1]
    have hin : i < n := by omega
    have e : (lm o).take i ++ u32 (w + t % BB) :: (lm o).drop (i + 1) = lm (o.set i (w + t % BB)) := by
      rw [← lm_set, ← set_eq _ _ (by simp [lm_len]; omega)]; simp
    have ho1 := limbs_set ho (i := i) g2
    by_cases hi1 : i + 1 < n
    · obtain ⟨h9, h10, h11⟩ := g3 hi1
      have i4 : (lm (o.set i (w + t % BB)))[i + 1]? = some (u32 0) := by
        rw [lm_at (by simpa using h9)]; congr 2; rw [List.getElem_set_ne (by omega)]; exact h10
      have w7 : bits .or .u32 0 ((t / BB : Nat) : Int) = ((t / BB : Nat) : Int) := by
        have := u32_or_nat 0 (t / BB) (by omega) (by unfold BB at hdl ⊢; omega)
        simpa using this
      simp [go_sem, h1, h2, h7, h13, h14, h15, hlt, -Int.natCast_add, -Int.natCast_ediv, -Int.natCast_emod, -Int.natCast_mul, w1, w2, w3, w4, w5, w6, w7, i1, i2, i3, i4, get_last, set_last, hin, hi1, e]
      refine ⟨by simp [lm_len]; omega, by simp [lm_len]; omega, a.length - (i + 1), by omega, i + 1, (o.set i (w + t % BB)).set (i + 1) (t / BB), rfl, by omega, ?_, by simp [go_sem, h1], by simp [go_sem, h2], by simp [go_sem, h7], by simp [go_sem, h13], by simp [go_sem, h14], by simp [go_sem], by simp [hol], limbs_set ho1 hdl, h11⟩
      rw [← lm_set (o.set i (w + t % BB)) (i + 1), ← set_eq (lm (o.set i (w + t % BB))) (u32 (t / BB)) (by simp [lm_len]; omega)]; simp
    · simp [go_sem, h1, h2, h7, h13, h14, h15, hlt, -Int.natCast_add, -Int.natCast_ediv, -Int.natCast_emod, -Int.natCast_mul, w1, w2, w3, w4, w5, w6, i1, i2, i3, get_last, set_last, hin, hi1, e]
      exact ⟨by simp [lm_len]; omega, a.length - (i + 1), by omega, i + 1, o.set i (w + t % BB), rfl, by omega, rfl, by simp [go_sem, h1], by simp [go_sem, h2], by simp [go_sem, h7], by simp [go_sem, h13], by simp [go_sem, h14], by simp [go_sem], by simp [hol], ho1, g4 hi1⟩
  · have hi' : i = a.length := by omega
    subst hi'
    rw [List.take_length] at hinv
    simp [go_sem, h1, h2, h7, h13, h14, h15]
    rw [lv_uniq ho hol hinv]
end Go.Proofs.Vm
/-! The package natural: unshift. -/
namespace Go.Proofs.Vm
open Go Go.Proofs.Na

theorem getD_limb {a : List Nat} (ha : Limbs a) (i : Nat) : a.getD i 0 < BB := by
  rw [List.getD_eq_getElem?_getD]
  cases h : a[i]? with
  | none => exact BB_pos
  | some x => exact ha x (List.mem_of_getElem? h)
theorem getD_at {a : List Nat} {i : Nat} (h : i < a.length) : a.getD i 0 = a[i] := by
  rw [List.getD_eq_getElem?_getD, List.getElem?_eq_getElem h]; rfl

def unI (a : List Nat) (by_ : Nat) (v : V) (m : Nat) (s : Nat → V) (X : List O) : Prop :=
  ∃ i o, m = a.length - i ∧ i ≤ a.length ∧ X = [.cells (lm o) ty_uint32 1] ∧ s 0 = v ∧ s 1 = u64 by_ ∧ s 5 = .osl 0 0 a.length ∧ s 12 = .int (a.length : Int) ∧ s 13 = .int (i : Int) ∧
    o.length = a.length ∧ Limbs o ∧ ∀ j, j < i → o[j]? = (ln a.length (lv a / 2 ^ by_))[j]?
theorem c_unshift {H : List O} {v : V} {a : List Nat} {by_ : Nat} (hv : SL H v a) (ha : Limbs a) (hby : by_ ≤ 31) (hm : a.length ≤ 70368744177664 / 65536) (K : V → List O → Prop) :
    Fx D0 fn_natural_unshift [v, u64 by_] H K = K (LV (lb (lv a / 2 ^ by_))) H := by
  refine Fx_is ?_ K
  have hv' : ∀ X, SL X (frzV v (lm a) a.length) a := fun X => frzV_slice hv X
  have has : [v, u64 by_].mapM (frz H depth) = some [frzV v (lm a) a.length, u64 by_] := by
    simp only [mapM_cons', mapM_nil', frz_s hv (lm_lit _)]; rfl
  refine Fx_ofp d_natural_unshift has ?_
  generalize frzV v (lm a) a.length = v' at *
  have hlv := len_s (hv' [])
  have e4 : (a.length : Int) * 4 ≤ 140737488355328 := by omega
  simp [go_sem, F_natural_unshift, hlv, e4]
  rw [rep32]
  refine Bx_rounds (unI a by_ v') ?_ a.length _ _ ⟨0, List.replicate a.length 0, rfl, Nat.zero_le _, rfl, rfl, rfl, rfl, rfl, rfl, by simp, limbs_zeros _, fun j hj => by omega⟩
  rintro m s X ⟨i, o, rfl, hi, rfl, h0, h1, h5, h12, h13, hol, ho, hinv⟩
  refine wpB_ok ?_
  by_cases hlt : i < a.length
  · have w4 : IntKind.i64.wrap ((i : Int) + 1) = ((i + 1 : Nat) : Int) := by rw [wi (by omega) (by omega)]; omega
    have i1 := fun K X => ia_s (K := K) (q := .i64) (n := ((i : Nat) : Int)) (hv' X) (by omega) (by omega)
    have i2 := fun K X => ld_s (K := K) (i := i) (k := 0) (hv' X) (by simp [lm_len]; omega)
    simp [lm_get] at i1 i2
    have hdig := unshift_digit ha hlt hby
    have hai := ha _ (List.getElem_mem hlt)
    have hnx := getD_limb ha (i + 1)
    have hBB : BB = 4294967296 := rfl
    have hbyP : (2 : Int) ^ min by_ 64 = ((2 ^ by_ : Nat) : Int) := by rw [Nat.min_eq_left (by omega)]; push_cast; rfl
    -- the limb
    have next : ∀ d : Nat, d = lv a / 2 ^ by_ / BB ^ i % BB → ∀ s', s' 0 = v' → s' 1 = u64 by_ → s' 5 = .osl 0 0 a.length → s' 12 = .int (a.length : Int) → s' 13 = .int ((i + 1 : Nat) : Int) →
        ∃ m, m < a.length - i ∧ unI a by_ v' m s' [.cells ((lm o).take i ++ u32 d :: (lm o).drop (i + 1)) ty_uint32 1] := fun d hd s' q0 q1 q5 q12 q13 => by
      have hdB : d < BB := by rw [hd]; exact Nat.mod_lt _ BB_pos
      refine ⟨a.length - (i + 1), by omega, i + 1, o.set i d, rfl, by omega, ?_, q0, q1, q5, q12, q13, by simp [hol], limbs_set ho hdB, fun j hj => ?_⟩
      · rw [← lm_set, ← set_eq _ _ (by simp [lm_len]; omega)]; simp
      · by_cases e : i = j
        · subst e
          rw [List.getElem?_set_self (by omega), List.getElem?_eq_getElem (by rw [ln_len]; exact hlt), ln_get (by rw [ln_len]; exact hlt), hd]
        · rw [List.getElem?_set, if_neg e]; exact hinv j (by omega)
    by_cases hi1 : i + 1 < a.length
    · have hi1' : ((i + 1 : Nat) : Int) < (a.length : Int) := by omega
      have i3 := fun K X => ia_s (K := K) (q := .i64) (n := ((i + 1 : Nat) : Int)) (hv' X) (by omega) (by omega)
      have i4 := fun K X => ld_s (K := K) (i := i + 1) (k := 0) (hv' X) (by simp [lm_len]; omega)
      simp [lm_get, -Int.natCast_add] at i3 i4
      rw [getD_at hi1] at hdig hnx
      generalize a[i] = u at *
      generalize a[i + 1] = w at *
      have w1 : IntKind.u64.wrap (u : Int) = (u : Int) := by rw [w64 (by omega) (by omega)]
      have w2 : IntKind.u64.wrap (w : Int) = (w : Int) := by rw [w64 (by omega) (by omega)]
      have w3 : IntKind.u64.wrap ((w : Int) * 4294967296) = ((w * 4294967296 : Nat) : Int) := by rw [w64 (by omega) (by omega)]; omega
      have w5 : bits .or .u64 (u : Int) ((w * 4294967296 : Nat) : Int) = ((u + BB * w : Nat) : Int) := by
        rw [u64_or_nat _ _ (by omega) (by omega), show (4294967296 : Nat) = 2 ^ 32 from rfl, or_add (by omega), hBB]; congr 1; omega
      have w6 : IntKind.u32.wrap (((u + BB * w : Nat) : Int).fdiv (2 ^ min by_ 64)) = (((u + BB * w) / 2 ^ by_ % BB : Nat) : Int) := by
        rw [hbyP, fdivN, w32m, ← Int.natCast_ediv]; generalize (u + BB * w) / 2 ^ by_ = z; rw [hBB]; omega
      simp [go_sem, h0, h1, h5, h12, h13, hlt, hlv, hi1, -Int.natCast_add, -Int.natCast_ediv, -Int.natCast_emod, -Int.natCast_mul, w1, w2, w3, w4, w5, w6, i1, i2, i3, i4]
      exact ⟨by simp [lm_len]; omega, next _ hdig.symm _ (by simp [go_sem, h0]) (by simp [go_sem, h1]) (by simp [go_sem, h5]) (by simp [go_sem, h12]) (by simp [go_sem])⟩
    · have hz : a.getD (i + 1) 0 = 0 := by rw [List.getD_eq_getElem?_getD, List.getElem?_eq_none (by omega)]; rfl
      rw [hz, Nat.mul_zero, Nat.add_zero] at hdig
      generalize a[i] = u at *
      have w1 : IntKind.u64.wrap (u : Int) = (u : Int) := by rw [w64 (by omega) (by omega)]
      have w6 : IntKind.u32.wrap ((u : Int).fdiv (2 ^ min by_ 64)) = ((u / 2 ^ by_ % BB : Nat) : Int) := by
        rw [hbyP, fdivN, w32m, ← Int.natCast_ediv]; generalize u / 2 ^ by_ = z; rw [hBB]; omega
      simp [go_sem, h0, h1, h5, h12, h13, hlt, hlv, hi1, -Int.natCast_add, -Int.natCast_ediv, -Int.natCast_emod, -Int.natCast_mul, w1, w4, w6, i1, i2]
      exact ⟨by simp [lm_len]; omega, next _ hdig.symm _ (by simp [go_sem, h0]) (by simp [go_sem, h1]) (by simp [go_sem, h5]) (by simp [go_sem, h12]) (by simp [go_sem])⟩
  · have hi' : i = a.length := by omega
    subst hi'
    have hx : lv a / 2 ^ by_ < BB ^ a.length := Nat.lt_of_le_of_lt (Nat.div_le_self _ _) (lv_lt ha)
    have hoe : o = ln a.length (lv a / 2 ^ by_) := by
      apply List.ext_getElem?
      intro j
      by_cases hj : j < a.length
      · exact hinv j hj
      · rw [List.getElem?_eq_none (by omega), List.getElem?_eq_none (by rw [ln_len]; omega)]
    have hlo : lv o = lv a / 2 ^ by_ := by rw [hoe, lv_ln, Nat.mod_eq_of_lt hx]
    have hs := own_SL (H := [.cells (lm o) ty_uint32 1]) (h := 0) (o := o) (t := ty_uint32) rfl (Nat.le_of_eq hol.symm)
    rw [← hol, List.take_length] at hs
    have hle := trimN_le o
    have hout := out_lm (H := [.cells (lm o) ty_uint32 1]) (h := 0) (o := o) (t := ty_uint32) rfl hle
    simp [go_sem, h0, h1, h5, h12, h13]
    rw [← hol, c_trim hs (by omega)]
    simp [go_sem, takeV, hout]
    rw [← hlo, ← take_trim ho]
end Go.Proofs.Vm
