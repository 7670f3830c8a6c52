import Derived.Test.YtmihmgnjnedfcabBB
import Derived.Test.YtmihmgnjnedfcabBF
import Derived.Test.YtmihmgnjnedfcabBZ
import Derived.Test.YtmihmgnjnedfcabProg
import Derived.KernelRfl

section
/- Codes of the program, as the conversion gives them. -/
set_option maxRecDepth 100000
namespace Go.AM.Ytmihmgnjnedfcab
open Go Go.AM
-- field_GF_Add
abbrev c_field_GF_AddL0_1 : SC := (.block 1 (.seq (.reg [o 30 (.mv (.t 7)), o 31 (.mv (.t 1)), o 32 (.mv (.t 0)), o 33 (.nc (.t 32)), o 34 (.fadr (.t 33) 0), o 35 (.fadr (.t 34) 0), o 38 (.mv (.t 2)), o 39 (.mv (.t 0)), o 40 (.nc (.t 39)), o 41 (.fadr (.t 40) 0), o 42 (.fadr (.t 41) 0), o 46 (.mv (.t 0)), o 47 (.nc (.t 46)), o 48 (.fadr (.t 47) 0), o 49 (.fadr (.t 48) 0), o 52 (.mv (.t 8)), o 36 (.ld (.t 35) 1 false), o 37 (.bin .rem (.t 31) (.t 36)), o 43 (.ld (.t 42) 1 false), o 44 (.bin .rem (.t 38) (.t 43)), o 45 (.bin .add (.t 37) (.t 44)), o 50 (.ld (.t 49) 1 false), o 51 (.bin .rem (.t 45) (.t 50)), o 53 (.bin .mul (.t 51) (.t 52)), o 54 (.bin .add (.t 30) (.t 53)), o 7 (.mv (.t 54))]) (.seq (.reg [o 55 (.mv (.t 8)), o 56 (.mv (.t 0)), o 57 (.nc (.t 56)), o 58 (.fadr (.t 57) 0), o 59 (.fadr (.t 58) 0), o 60 (.ld (.t 59) 1 false), o 61 (.bin .mul (.t 55) (.t 60)), o 8 (.mv (.t 61))]) (.seq (.reg [o 62 (.mv (.t 1)), o 63 (.mv (.t 0)), o 64 (.nc (.t 63)), o 65 (.fadr (.t 64) 0), o 66 (.fadr (.t 65) 0), o 67 (.ld (.t 66) 1 false), o 68 (.bin .quo (.t 62) (.t 67)), o 1 (.mv (.t 68))]) (.reg [o 69 (.mv (.t 2)), o 70 (.mv (.t 0)), o 71 (.nc (.t 70)), o 72 (.fadr (.t 71) 0), o 73 (.fadr (.t 72) 0), o 74 (.ld (.t 73) 1 false), o 75 (.bin .quo (.t 69) (.t 74)), o 2 (.mv (.t 75))])))))
abbrev c_field_GF_AddL0_0 : SC := .seq (.seq (.reg [o 24 (.mv (.t 1)), o 25 (.bin .gtr (.t 24) (ki 0)), o 26 (.mv (.t 25)), og 26 false 0 27 (.mv (.t 2)), og 26 false 0 28 (.bin .gtr (.t 27) (ki 0)), o 29 (.pick (.t 26) (kb true) (.t 28))]) (.cond (.t 29) .skip (.exit 0))) c_field_GF_AddL0_1
abbrev c_field_GF_Add_6 : SC := .ret
abbrev c_field_GF_Add_5 : SC := .seq (.reg [o 76 (.mv (.t 7)), o 6 (.mv (.t 76))]) c_field_GF_Add_6
abbrev c_field_GF_Add_4 : SC := .seq (.block 0 (.loop c_field_GF_AddL0_0)) c_field_GF_Add_5
abbrev c_field_GF_Add_3 : SC := .seq (.reg [o 7 (.mv (ki 0)), o 8 (.mv (ki 1))]) c_field_GF_Add_4
abbrev c_field_GF_Add_2 : SC := .seq (.seq (.reg [o 15 (.mv (.t 0)), o 16 (.nc (.t 15)), o 17 (.fadr (.t 16) 0), o 18 (.fadr (.t 17) 0), o 19 (.ld (.t 18) 1 false), o 20 (.bin .eql (.t 19) (ki 2))]) (.cond (.t 20) (.seq (.reg [o 21 (.mv (.t 1)), o 22 (.mv (.t 2)), o 23 (.bin .xor (.t 21) (.t 22)), o 6 (.mv (.t 23))]) .ret) .skip)) c_field_GF_Add_3
abbrev c_field_GF_Add_1 : SC := .seq (.reg [o 9 (.mv (.t 0)), o 10 (.mv (.t 1)), o 11 (.call (.f n_field_GF_in) [.t 9, .t 10]), o 12 (.mv (.t 0)), o 13 (.mv (.t 2)), o 14 (.call (.f n_field_GF_in) [.t 12, .t 13]), o 1 (.mv (.t 11)), o 2 (.mv (.t 14))]) c_field_GF_Add_2
abbrev c_field_GF_Add_0 : SC := .seq (.reg [o 6 (.mv (ki 0))]) c_field_GF_Add_1
theorem cf_field_GF_Add : cfun Go.Proofs.Try.prog md n_field_GF_Add = some ⟨3, 77, c_field_GF_Add_0.erase, [.t 6]⟩ := by kernel_rfl
-- field_GF_Neg
abbrev c_field_GF_NegL0_1 : SC := (.block 1 (.seq (.reg [o 12 (.mv (.t 5)), o 13 (.mv (.t 0)), o 14 (.nc (.t 13)), o 15 (.fadr (.t 14) 0), o 16 (.fadr (.t 15) 0), o 18 (.mv (.t 1)), o 19 (.mv (.t 0)), o 20 (.nc (.t 19)), o 21 (.fadr (.t 20) 0), o 22 (.fadr (.t 21) 0), o 26 (.mv (.t 0)), o 27 (.nc (.t 26)), o 28 (.fadr (.t 27) 0), o 29 (.fadr (.t 28) 0), o 32 (.mv (.t 6)), o 17 (.ld (.t 16) 1 false), o 23 (.ld (.t 22) 1 false), o 24 (.bin .rem (.t 18) (.t 23)), o 25 (.bin .sub (.t 17) (.t 24)), o 30 (.ld (.t 29) 1 false), o 31 (.bin .rem (.t 25) (.t 30)), o 33 (.bin .mul (.t 31) (.t 32)), o 34 (.bin .add (.t 12) (.t 33)), o 5 (.mv (.t 34))]) (.seq (.reg [o 35 (.mv (.t 6)), o 36 (.mv (.t 0)), o 37 (.nc (.t 36)), o 38 (.fadr (.t 37) 0), o 39 (.fadr (.t 38) 0), o 40 (.ld (.t 39) 1 false), o 41 (.bin .mul (.t 35) (.t 40)), o 6 (.mv (.t 41))]) (.reg [o 42 (.mv (.t 1)), o 43 (.mv (.t 0)), o 44 (.nc (.t 43)), o 45 (.fadr (.t 44) 0), o 46 (.fadr (.t 45) 0), o 47 (.ld (.t 46) 1 false), o 48 (.bin .quo (.t 42) (.t 47)), o 1 (.mv (.t 48))]))))
abbrev c_field_GF_NegL0_0 : SC := .seq (.seq (.reg [o 10 (.mv (.t 1)), o 11 (.bin .gtr (.t 10) (ki 0))]) (.cond (.t 11) .skip (.exit 0))) c_field_GF_NegL0_1
abbrev c_field_GF_Neg_5 : SC := .ret
abbrev c_field_GF_Neg_4 : SC := .seq (.reg [o 49 (.mv (.t 5)), o 4 (.mv (.t 49))]) c_field_GF_Neg_5
abbrev c_field_GF_Neg_3 : SC := .seq (.block 0 (.loop c_field_GF_NegL0_0)) c_field_GF_Neg_4
abbrev c_field_GF_Neg_2 : SC := .seq (.reg [o 5 (.mv (ki 0)), o 6 (.mv (ki 1))]) c_field_GF_Neg_3
abbrev c_field_GF_Neg_1 : SC := .seq (.reg [o 7 (.mv (.t 0)), o 8 (.mv (.t 1)), o 9 (.call (.f n_field_GF_in) [.t 7, .t 8]), o 1 (.mv (.t 9))]) c_field_GF_Neg_2
abbrev c_field_GF_Neg_0 : SC := .seq (.reg [o 4 (.mv (ki 0))]) c_field_GF_Neg_1
theorem cf_field_GF_Neg : cfun Go.Proofs.Try.prog md n_field_GF_Neg = some ⟨2, 50, c_field_GF_Neg_0.erase, [.t 4]⟩ := by kernel_rfl
-- field_GF_Mul
abbrev c_field_GF_Mul_4 : SC := .ret
abbrev c_field_GF_Mul_3 : SC := .seq (.reg [o 19 (.mv (.t 0)), o 20 (.nc (.t 19)), o 21 (.fadr (.t 20) 4), o 23 (.mv (.t 0)), o 24 (.nc (.t 23)), o 25 (.fadr (.t 24) 5), o 27 (.mv (.t 1)), o 30 (.mv (.t 0)), o 31 (.nc (.t 30)), o 32 (.fadr (.t 31) 5), o 34 (.mv (.t 2)), o 38 (.mv (.t 0)), o 39 (.nc (.t 38)), o 40 (.fadr (.t 39) 3), o 22 (.ld (.t 21) 1 false), o 26 (.ld (.t 25) 1 false), o 28 (.iadr (.t 26) (.t 27) 1), o 29 (.ld (.t 28) 1 false), o 33 (.ld (.t 32) 1 false), o 35 (.iadr (.t 33) (.t 34) 1), o 36 (.ld (.t 35) 1 false), o 37 (.bin .add (.t 29) (.t 36)), o 41 (.ld (.t 40) 1 false), o 42 (.bin .sub (.t 41) (ki 1)), o 43 (.bin .rem (.t 37) (.t 42)), o 44 (.iadr (.t 22) (.t 43) 1), o 45 (.ld (.t 44) 1 false), o 6 (.mv (.t 45))]) c_field_GF_Mul_4
abbrev c_field_GF_Mul_2 : SC := .seq (.seq (.reg [o 13 (.mv (.t 1)), o 14 (.bin .eql (.t 13) (ki 0)), o 15 (.mv (.t 14)), og 15 false 0 16 (.mv (.t 2)), og 15 false 0 17 (.bin .eql (.t 16) (ki 0)), o 18 (.pick (.t 15) (kb true) (.t 17))]) (.cond (.t 18) (.seq (.reg [o 6 (.mv (ki 0))]) .ret) .skip)) c_field_GF_Mul_3
abbrev c_field_GF_Mul_1 : SC := .seq (.reg [o 7 (.mv (.t 0)), o 8 (.mv (.t 1)), o 9 (.call (.f n_field_GF_in) [.t 7, .t 8]), o 10 (.mv (.t 0)), o 11 (.mv (.t 2)), o 12 (.call (.f n_field_GF_in) [.t 10, .t 11]), o 1 (.mv (.t 9)), o 2 (.mv (.t 12))]) c_field_GF_Mul_2
abbrev c_field_GF_Mul_0 : SC := .seq (.reg [o 6 (.mv (ki 0))]) c_field_GF_Mul_1
theorem cf_field_GF_Mul : cfun Go.Proofs.Try.prog md n_field_GF_Mul = some ⟨3, 46, c_field_GF_Mul_0.erase, [.t 6]⟩ := by kernel_rfl
-- field_GF_Inv
abbrev c_field_GF_Inv_4 : SC := .ret
abbrev c_field_GF_Inv_3 : SC := .seq (.reg [o 11 (.mv (.t 0)), o 12 (.nc (.t 11)), o 13 (.fadr (.t 12) 4), o 15 (.mv (.t 0)), o 16 (.nc (.t 15)), o 17 (.fadr (.t 16) 3), o 20 (.mv (.t 0)), o 21 (.nc (.t 20)), o 22 (.fadr (.t 21) 5), o 24 (.mv (.t 1)), o 28 (.mv (.t 0)), o 29 (.nc (.t 28)), o 30 (.fadr (.t 29) 3), o 14 (.ld (.t 13) 1 false), o 18 (.ld (.t 17) 1 false), o 19 (.bin .sub (.t 18) (ki 1)), o 23 (.ld (.t 22) 1 false), o 25 (.iadr (.t 23) (.t 24) 1), o 26 (.ld (.t 25) 1 false), o 27 (.bin .sub (.t 19) (.t 26)), o 31 (.ld (.t 30) 1 false), o 32 (.bin .sub (.t 31) (ki 1)), o 33 (.bin .rem (.t 27) (.t 32)), o 34 (.iadr (.t 14) (.t 33) 1), o 35 (.ld (.t 34) 1 false), o 4 (.mv (.t 35)), o 5 (.mv (ki 0))]) c_field_GF_Inv_4
abbrev c_field_GF_Inv_2 : SC := .seq (.seq (.reg [o 9 (.mv (.t 1)), o 10 (.bin .eql (.t 9) (ki 0))]) (.cond (.t 10) (.seq (.reg [o 4 (.mv (ki 0)), o 5 (.mv (ki 7))]) .ret) .skip)) c_field_GF_Inv_3
abbrev c_field_GF_Inv_1 : SC := .seq (.reg [o 6 (.mv (.t 0)), o 7 (.mv (.t 1)), o 8 (.call (.f n_field_GF_in) [.t 6, .t 7]), o 1 (.mv (.t 8))]) c_field_GF_Inv_2
abbrev c_field_GF_Inv_0 : SC := .seq (.reg [o 4 (.mv (ki 0)), o 5 (.mv (ki 0))]) c_field_GF_Inv_1
theorem cf_field_GF_Inv : cfun Go.Proofs.Try.prog md n_field_GF_Inv = some ⟨2, 36, c_field_GF_Inv_0.erase, [.t 4, .t 5]⟩ := by kernel_rfl
-- field_GF_Scale
abbrev c_field_GF_ScaleL0_3 : SC := (.reg [o 27 (.bin .add (.t 15) (ki 1)), o 15 (.mv (.t 27))])
abbrev c_field_GF_ScaleL0_2 : SC := .seq (.block 1 (.seq (.reg [o 17 (.mv (.t 15)), o 18 (.iadr (.t 13) (.t 15) 1), o 19 (.ld (.t 18) 1 false), o 8 (.mv (.t 17)), o 9 (.mv (.t 19))]) (.reg [o 20 (.mv (.t 7)), o 21 (.mv (.t 8)), o 22 (.mv (.t 0)), o 23 (.mv (.t 1)), o 24 (.mv (.t 9)), o 25 (.call (.f n_field_GF_Mul) [.t 22, .t 23, .t 24]), o 26 (.iadr (.t 20) (.t 21) 1), os (.st (.t 26) (.t 25) 1)]))) c_field_GF_ScaleL0_3
abbrev c_field_GF_ScaleL0_1 : SC := .seq (.cond (.t 16) .skip (.exit 0)) c_field_GF_ScaleL0_2
abbrev c_field_GF_ScaleL0_0 : SC := .seq (.reg [o 16 (.bin .lss (.t 15) (.t 14))]) c_field_GF_ScaleL0_1
abbrev c_field_GF_Scale_4 : SC := .ret
abbrev c_field_GF_Scale_3 : SC := .seq (.reg [o 28 (.mv (.t 7)), o 6 (.mv (.t 28))]) c_field_GF_Scale_4
abbrev c_field_GF_Scale_2 : SC := .seq (.seq (.reg [o 13 (.mv (.t 2)), o 14 (.len (.t 13)), o 15 (.mv (ki 0))]) (.block 0 (.loop c_field_GF_ScaleL0_0))) c_field_GF_Scale_3
abbrev c_field_GF_Scale_1 : SC := .seq (.reg [o 10 (.mv (.t 2)), o 11 (.len (.t 10)), o 12 (.mks (.t 11) 1 [I 0]), o 7 (.mv (.t 12))]) c_field_GF_Scale_2
abbrev c_field_GF_Scale_0 : SC := .seq (.reg [o 6 (.mv (.k .nils))]) c_field_GF_Scale_1
theorem cf_field_GF_Scale : cfun Go.Proofs.Try.prog md n_field_GF_Scale = some ⟨3, 29, c_field_GF_Scale_0.erase, [.t 6]⟩ := by kernel_rfl
-- ref04_Add
abbrev c_ref04_AddL0_2 : SC := (.reg [o 20 (.mv (.t 9)), o 21 (.bin .add (.t 20) (ki 1)), o 9 (.mv (.t 21))])
abbrev c_ref04_AddL0_1 : SC := .seq (.block 1 (.reg [o 22 (.mv (.t 7)), o 23 (.mv (.t 9)), o 24 (.mv (.t 7)), o 25 (.mv (.t 9)), o 26 (.iadr (.t 24) (.t 25) 1), o 28 (.mv (.t 8)), o 29 (.mv (.t 9)), o 30 (.iadr (.t 28) (.t 29) 1), o 33 (.fadr (.t 3) 0), o 27 (.ld (.t 26) 1 false), o 31 (.ld (.t 30) 1 false), o 32 (.bin .add (.t 27) (.t 31)), o 34 (.ld (.t 33) 1 false), o 35 (.bin .rem (.t 32) (.t 34)), o 36 (.iadr (.t 22) (.t 23) 1), os (.st (.t 36) (.t 35) 1)])) c_ref04_AddL0_2
abbrev c_ref04_AddL0_0 : SC := .seq (.seq (.reg [o 16 (.mv (.t 9)), o 17 (.mv (.t 7)), o 18 (.len (.t 17)), o 19 (.bin .lss (.t 16) (.t 18))]) (.cond (.t 19) .skip (.exit 0))) c_ref04_AddL0_1
abbrev c_ref04_Add_5 : SC := .ret
abbrev c_ref04_Add_4 : SC := .fz [7] (.seq (.reg [o 37 (.ld (.t 3) 3 true), o 38 (.mv (.t 7)), o 39 (.call (.f n_ref04_Value) [.t 37, .t 38]), o 6 (.mv (.t 39))]) c_ref04_Add_5)
abbrev c_ref04_Add_3 : SC := .seq (.seq (.reg [o 9 (.mv (ki 0))]) (.block 0 (.loop c_ref04_AddL0_0))) c_ref04_Add_4
abbrev c_ref04_Add_2 : SC := .seq (.reg [o 13 (.ld (.t 3) 3 true), o 14 (.mv (.t 2)), o 15 (.call (.f n_ref04_Digits) [.t 13, .t 14]), o 8 (.mv (.t 15))]) c_ref04_Add_3
abbrev c_ref04_Add_1 : SC := .seq (.reg [o 10 (.ld (.t 3) 3 true), o 11 (.mv (.t 1)), o 12 (.call (.f n_ref04_Digits) [.t 10, .t 11]), o 7 (.mv (.t 12))]) c_ref04_Add_2
abbrev c_ref04_Add_0 : SC := .seq (.reg [o 3 (.box (.t 0)), o 6 (.mv (ki 0))]) c_ref04_Add_1
theorem cf_ref04_Add : cfun Go.Proofs.Try.prog md n_ref04_Add = some ⟨3, 40, c_ref04_Add_0.erase, [.t 6]⟩ := by kernel_rfl
-- ref04_Neg
abbrev c_ref04_NegL0_2 : SC := (.reg [o 14 (.mv (.t 6)), o 15 (.bin .add (.t 14) (ki 1)), o 6 (.mv (.t 15))])
abbrev c_ref04_NegL0_1 : SC := .seq (.block 1 (.reg [o 16 (.mv (.t 5)), o 17 (.mv (.t 6)), o 18 (.fadr (.t 2) 0), o 20 (.mv (.t 5)), o 21 (.mv (.t 6)), o 22 (.iadr (.t 20) (.t 21) 1), o 25 (.fadr (.t 2) 0), o 19 (.ld (.t 18) 1 false), o 23 (.ld (.t 22) 1 false), o 24 (.bin .sub (.t 19) (.t 23)), o 26 (.ld (.t 25) 1 false), o 27 (.bin .rem (.t 24) (.t 26)), o 28 (.iadr (.t 16) (.t 17) 1), os (.st (.t 28) (.t 27) 1)])) c_ref04_NegL0_2
abbrev c_ref04_NegL0_0 : SC := .seq (.seq (.reg [o 10 (.mv (.t 6)), o 11 (.mv (.t 5)), o 12 (.len (.t 11)), o 13 (.bin .lss (.t 10) (.t 12))]) (.cond (.t 13) .skip (.exit 0))) c_ref04_NegL0_1
abbrev c_ref04_Neg_4 : SC := .ret
abbrev c_ref04_Neg_3 : SC := .fz [5] (.seq (.reg [o 29 (.ld (.t 2) 3 true), o 30 (.mv (.t 5)), o 31 (.call (.f n_ref04_Value) [.t 29, .t 30]), o 4 (.mv (.t 31))]) c_ref04_Neg_4)
abbrev c_ref04_Neg_2 : SC := .seq (.seq (.reg [o 6 (.mv (ki 0))]) (.block 0 (.loop c_ref04_NegL0_0))) c_ref04_Neg_3
abbrev c_ref04_Neg_1 : SC := .seq (.reg [o 7 (.ld (.t 2) 3 true), o 8 (.mv (.t 1)), o 9 (.call (.f n_ref04_Digits) [.t 7, .t 8]), o 5 (.mv (.t 9))]) c_ref04_Neg_2
abbrev c_ref04_Neg_0 : SC := .seq (.reg [o 2 (.box (.t 0)), o 4 (.mv (ki 0))]) c_ref04_Neg_1
theorem cf_ref04_Neg : cfun Go.Proofs.Try.prog md n_ref04_Neg = some ⟨2, 32, c_ref04_Neg_0.erase, [.t 4]⟩ := by kernel_rfl
-- ref04_Inv
abbrev c_ref04_InvL0_2 : SC := (.reg [o 10 (.mv (.t 5)), o 11 (.bin .add (.t 10) (ki 1)), o 5 (.mv (.t 11))])
abbrev c_ref04_InvL0_1 : SC := .seq (.block 1 (.seq (.reg [o 12 (.ld (.t 2) 3 true), o 13 (.mv (.t 1)), o 14 (.mv (.t 5)), o 15 (.call (.f n_ref04_Mul) [.t 12, .t 13, .t 14]), o 16 (.bin .eql (.t 15) (ki 1))]) (.cond (.t 16) (.seq (.reg [o 17 (.mv (.t 5)), o 4 (.mv (.t 17))]) .ret) .skip))) c_ref04_InvL0_2
abbrev c_ref04_InvL0_0 : SC := .seq (.seq (.reg [o 6 (.mv (.t 5)), o 7 (.ld (.t 2) 3 true), o 8 (.call (.f n_ref04_Order) [.t 7]), o 9 (.bin .lss (.t 6) (.t 8))]) (.cond (.t 9) .skip (.exit 0))) c_ref04_InvL0_1
abbrev c_ref04_Inv_3 : SC := .ret
abbrev c_ref04_Inv_2 : SC := .seq (.reg [o 4 (.mv (ki 0))]) c_ref04_Inv_3
abbrev c_ref04_Inv_1 : SC := .seq (.seq (.reg [o 5 (.mv (ki 1))]) (.block 0 (.loop c_ref04_InvL0_0))) c_ref04_Inv_2
abbrev c_ref04_Inv_0 : SC := .seq (.reg [o 2 (.box (.t 0)), o 4 (.mv (ki 0))]) c_ref04_Inv_1
theorem cf_ref04_Inv : cfun Go.Proofs.Try.prog md n_ref04_Inv = some ⟨2, 18, c_ref04_Inv_0.erase, [.t 4]⟩ := by kernel_rfl
-- ref04_Dot
abbrev c_ref04_DotL0_2 : SC := (.reg [o 19 (.mv (.t 8)), o 20 (.bin .add (.t 19) (ki 1)), o 8 (.mv (.t 20))])
abbrev c_ref04_DotL0_1 : SC := .seq (.block 1 (.reg [o 22 (.mv (.t 7)), o 24 (.mv (.t 1)), o 25 (.mv (.t 8)), o 26 (.iadr (.t 24) (.t 25) 1), o 28 (.mv (.t 2)), o 29 (.mv (.t 8)), o 30 (.iadr (.t 28) (.t 29) 1), o 21 (.ld (.t 3) 3 true), o 23 (.ld (.t 3) 3 true), o 27 (.ld (.t 26) 1 false), o 31 (.ld (.t 30) 1 false), om 1 32 (.call (.f n_ref04_Mul) [.t 23, .t 27, .t 31]), om 1 33 (.call (.f n_ref04_Add) [.t 21, .t 22, .t 32]), o 7 (.mv (.t 33))])) c_ref04_DotL0_2
abbrev c_ref04_DotL0_0 : SC := .seq (.seq (.reg [o 9 (.mv (.t 8)), o 10 (.mv (.t 1)), o 11 (.len (.t 10)), o 12 (.bin .lss (.t 9) (.t 11)), o 13 (.mv (.t 12)), og 13 true 0 14 (.mv (.t 8)), og 13 true 0 15 (.mv (.t 2)), og 13 true 0 16 (.len (.t 15)), og 13 true 0 17 (.bin .lss (.t 14) (.t 16)), o 18 (.pick (.t 13) (.t 17) (kb false))]) (.cond (.t 18) .skip (.exit 0))) c_ref04_DotL0_1
abbrev c_ref04_Dot_4 : SC := .ret
abbrev c_ref04_Dot_3 : SC := .seq (.reg [o 34 (.mv (.t 7)), o 6 (.mv (.t 34))]) c_ref04_Dot_4
abbrev c_ref04_Dot_2 : SC := .seq (.seq (.reg [o 8 (.mv (ki 0))]) (.block 0 (.loop c_ref04_DotL0_0))) c_ref04_Dot_3
abbrev c_ref04_Dot_1 : SC := .seq (.reg [o 7 (.mv (ki 0))]) c_ref04_Dot_2
abbrev c_ref04_Dot_0 : SC := .seq (.reg [o 3 (.box (.t 0)), o 6 (.mv (ki 0))]) c_ref04_Dot_1
theorem cf_ref04_Dot : cfun Go.Proofs.Try.prog md n_ref04_Dot = some ⟨3, 35, c_ref04_Dot_0.erase, [.t 6]⟩ := by kernel_rfl
end Go.AM.Ytmihmgnjnedfcab
end

section
/- Contracts of functions: sums, negatives, products, inverses of the program. -/
set_option maxRecDepth 100000
set_option linter.unusedSimpArgs false
set_option linter.unusedVariables false
namespace Go.AM.Ytmihmgnjnedfcab
open Go Go.AM
attribute [local simp ↓] awp_seq awp_reg awp_skip awp_cond' awp_block awp_exit awp_ret awp_fz thenW_normal thenW_exit thenW_ret inBlk_normal inBlk_exit inBlk_ret aops_cons' contA_ap aops_nil e_mv e_guard' e_pick' e_ld' e_app e_cpy e_st' e_call callW_f updO_some updO_none e_bin' e_isnil' e_fadr' e_iadr' e_iarr' e_len' e_build' e_mkf' e_nc' e_not' e_neg' e_cvt' e_slc' e_fld' e_ext' e_min' e_eqs' e_new e_box e_mkl e_mks
attribute [local simp] upd_apply ev_t ev_k ev_f binA_add binA_sub binA_mul binA_quo binA_rem binA_eql binA_neq binA_lss binA_leq binA_gtr binA_geq det mem frame0 keeps_nil iadrA_sl fadrA_ref fadrA_fp ldv_agg ldv_one cells_base hset_same hset_hset lenA_fs lenA_sl lenA_nils zeros_ints ints_length one_base one_nilp one_nils one_ref one_sl one_fp one_fs one_fn gl_one resA resOf bound natOf afill splice AV.cells cells_agg bindR_some condR_true condR_false guardR_tup guardR_true guardR_true' guardR_false guardR_false' allocW_some pickA_true pickA_false
open Go.FM

theorem dv_zero {p : Int} (hp : 0 < p) : ∀ {m : Nat} {x : Int}, 0 ≤ x → x < p ^ m → dv p m x = 0
  | 0, x, h0, h1 => by simp at h1; show x = 0; omega
  | m + 1, x, h0, h1 => by
    have h2 : x / p < p ^ m := Int.ediv_lt_of_lt_mul hp (by rw [Int.pow_succ] at h1; exact h1)
    show dv p m (x / p) = 0
    exact dv_zero hp (Int.ediv_nonneg h0 (by omega)) h2
theorem vl_digs {p : Int} : ∀ {m k : Nat} {x : Int}, k < m → vl (digs p m x) k = dv p k x % p
  | m + 1, 0, x, _ => rfl
  | m + 1, k + 1, x, h => by
    show vl (digs p m (x / p)) k = _
    exact vl_digs (by omega)
theorem dv_stay {p : Int} : ∀ (j k : Nat) {x : Int}, dv p k x = 0 → k ≤ j → dv p j x = 0
  | 0, k, x, h, hk => by have : k = 0 := by omega
                         subst this; exact h
  | j + 1, k, x, h, hk => by
    by_cases hkj : k = j + 1
    · subst hkj; exact h
    · rw [dv_succ, dv_stay j k h (by omega)]; simp

/-- From here on the digits are zero. -/
theorem val_stop {p : Int} {m k : Nat} (hk : k ≤ m) {v : FM.V} (hz : ∀ j, k ≤ j → j < m → v j % p = 0) : val p (red p m v) = val p (red p k v) := by
  have h : ∀ n, k + n ≤ m → red p (k + n) v = red p k v ++ List.replicate n 0 := by
    intro n
    induction n with
    | zero => intro _; simp
    | succ n ih =>
      intro hn
      rw [← Nat.add_assoc, red_snoc, ih (by omega), hz (k + n) (by omega) (by omega)]
      simp [List.replicate_succ']
  have := h (m - k) (by omega)
  rw [show k + (m - k) = m by omega] at this
  rw [this, val_append, val_zeros]; simp

theorem val_red_le {p : Nat} (hp : 2 ≤ p) {m k : Nat} (hk : k ≤ m) (hq : (p : Int) ^ m ≤ 256) (v : FM.V) : 0 ≤ val p (red p k v) ∧ val p (red p k v) < 256 := by
  have h := val_range (p := p) (by omega) (red_Dg (by omega) k v)
  rw [red_length] at h
  have := pow_mono (p := p) (by omega) hk
  omega

theorem xor_wrap {a b : Int} (ha : 0 ≤ a ∧ a < 256) (hb : 0 ≤ b ∧ b < 256) : IntKind.i64.wrap ((BitVec.ofInt 64 a ^^^ BitVec.ofInt 64 b).toNat : Nat) = ((a.toNat ^^^ b.toNat : Nat) : Int) := by
  obtain ⟨x, rfl⟩ : ∃ n : Nat, a = n := ⟨a.toNat, by omega⟩
  obtain ⟨y, rfl⟩ : ∃ n : Nat, b = n := ⟨b.toNat, by omega⟩
  have h1 : x ^^^ y < 2 ^ 8 := Nat.xor_lt_two_pow (by omega) (by omega)
  have e : (BitVec.ofInt 64 (x : Int) ^^^ BitVec.ofInt 64 (y : Int)).toNat = x ^^^ y := by
    rw [BitVec.toNat_xor]
    simp [BitVec.toNat_ofNat]
    rw [Nat.mod_eq_of_lt (by omega), Nat.mod_eq_of_lt (by omega)]
  rw [e]
  simp
  exact w64 _ (by omega)

theorem binA_xor (a b : Int) : binA .xor (I a) (I b) = some (I (IntKind.i64.wrap ((BitVec.ofInt 64 a ^^^ BitVec.ofInt 64 b).toNat : Nat))) := by simp [binA]; rfl

/-- The cells of a field, as the reads give them. -/
theorem gf_ld' (D : Ds) (h : Hp) : cellsAt h (.fp (gfC D)) 1 = some [I D.p] := (gf_ld D h).2.2.2.1

set_option maxHeartbeats 2000000 in
theorem s_Add {D : Ds} (r : Fd D) (x y : Int) : Pure prog n_field_GF_Add [.fp (gfC D), I x, I y] (I (D.add x y)) := by
  refine pure_of cf_field_GF_Add rfl fun h => ?_
  have hp2 := r.p2
  have hm8 := r.m8
  have hp256 := r.p256
  have hq := r.pm
  have l0 := gf_ld' D
  simp
  refine (s_in r x).call ?_
  simp
  refine (s_in r y).call ?_
  have hRx := r.toOk.innR x
  have hRy := r.toOk.innR y
  have hadd : D.add x y = val D.p (red D.p D.m (fun j => vl (digs D.p D.m (D.inn x)) j + vl (digs D.p D.m (D.inn y)) j)) := rfl
  rw [hadd]
  clear hadd
  generalize D.inn x = a at *
  generalize D.inn y = b at *
  have ha := hRx
  have hb := hRy
  unfold Ds.R at ha hb
  rw [Ds.qI] at ha hb
  generalize gfC D = C at *
  by_cases h2 : D.p = 2
  · have h2' : (D.p : Int) = 2 := by omega
    have hx : binA .xor (I a) (I b) = some (I ((a.toNat ^^^ b.toNat : Nat) : Int)) := by rw [binA_xor, xor_wrap (by omega) (by omega)]
    have hres : ((a.toNat ^^^ b.toNat : Nat) : Int) = val D.p (red D.p D.m (fun j => vl (digs D.p D.m a) j + vl (digs D.p D.m b) j)) := by
      rw [h2']
      rw [h2'] at ha hb
      have hd := digs_xor D.m a.toNat b.toNat
      have e1 : ((a.toNat : Nat) : Int) = a := by omega
      have e2 : ((b.toNat : Nat) : Int) = b := by omega
      rw [e1, e2] at hd
      rw [← hd]
      have hlt : a.toNat ^^^ b.toNat < 2 ^ D.m := by
        have e3 : ((2 ^ D.m : Nat) : Int) = (2 : Int) ^ D.m := by simp
        exact Nat.xor_lt_two_pow (by omega) (by omega)
      rw [val_digs (by omega) (by omega) (by have e3 : ((2 ^ D.m : Nat) : Int) = (2 : Int) ^ D.m := by simp
                                             omega)]
    simp [isNil, l0, h2', hx]
    rw [hres, h2']
    exact RetP.same
  · have h2' : ¬ (D.p : Int) = 2 := by omega
    simp [isNil, l0, h2', h2]
    obtain ⟨v, hv⟩ : ∃ v : FM.V, v = fun j => vl (digs D.p D.m a) j + vl (digs D.p D.m b) j := ⟨_, rfl⟩
    have hvk : ∀ j, j < D.m → v j = dv D.p j a % D.p + dv D.p j b % D.p := fun j hj => by rw [hv]; simp only; rw [vl_digs hj, vl_digs hj]
    rw [← hv]
    clear hv
    have hpI : (2 : Int) ≤ D.p := by omega
    have hp0 : (D.p : Int) ≠ 0 := by omega
    have hp0' : D.p ≠ 0 := by omega
    refine awp_for D.m (fun k fr' h' => h' = h ∧ fr' 1 = I (dv D.p k a) ∧ fr' 2 = I (dv D.p k b) ∧ fr' 7 = I (val D.p (red D.p k v)) ∧ fr' 8 = I (D.p ^ k)) ⟨rfl, by simp [dv], by simp [dv], by simp [red, val], by simp⟩ ?_
    intro k fr' h' hkn hk ⟨hh, k1, k2, k7, k8⟩
    subst hh
    have k0 := hk 0 (by decide)
    simp at k0
    clear hk
    have ra := dv_range hpI k ha.1
    have rb := dv_range hpI k hb.1
    by_cases c : 0 < dv D.p k a ∨ 0 < dv D.p k b
    · have hlt : k < D.m := by
        apply Classical.byContradiction
        intro hc
        have : k = D.m := by omega
        subst this
        have z1 := dv_zero (p := D.p) (by omega) ha.1 ha.2
        have z2 := dv_zero (p := D.p) (by omega) hb.1 hb.2
        omega
      have hsn : val D.p (red D.p (k + 1) v) = val D.p (red D.p k v) + D.p ^ k * ((dv D.p k a % D.p + dv D.p k b % D.p) % D.p) := by
        rw [red_snoc, val_append, red_length, hvk k hlt]; simp [val]
      have hbd := val_red_le hp2 (show k + 1 ≤ D.m by omega) hq v
      have hbd2 := val_red_le hp2 (show k ≤ D.m by omega) hq v
      have t1 : (dv D.p k a).tmod D.p = dv D.p k a % D.p := Int.tmod_eq_emod_of_nonneg ra.1
      have t2 : (dv D.p k b).tmod D.p = dv D.p k b % D.p := Int.tmod_eq_emod_of_nonneg rb.1
      have t3 : (dv D.p k a).tdiv D.p = dv D.p (k + 1) a := by rw [dv_succ]; exact Int.tdiv_eq_ediv_of_nonneg ra.1
      have t4 : (dv D.p k b).tdiv D.p = dv D.p (k + 1) b := by rw [dv_succ]; exact Int.tdiv_eq_ediv_of_nonneg rb.1
      have ra2 := dv_range hpI (k + 1) ha.1
      have rb2 := dv_range hpI (k + 1) hb.1
      have e1 : 0 ≤ dv D.p k a % D.p ∧ dv D.p k a % D.p < D.p := ⟨Int.emod_nonneg _ hp0, Int.emod_lt_of_pos _ (by omega)⟩
      have e2 : 0 ≤ dv D.p k b % D.p ∧ dv D.p k b % D.p < D.p := ⟨Int.emod_nonneg _ hp0, Int.emod_lt_of_pos _ (by omega)⟩
      have hps : (D.p : Int) ^ (k + 1) = D.p ^ k * D.p := Int.pow_succ ..
      have hple := pow_mono hpI (show k + 1 ≤ D.m by omega)
      have hpp := pow_pos2 hpI (k + 1)
      have hpp2 := pow_pos2 hpI k
      have hple2 := pow_mono hpI (show k ≤ D.m by omega)
      rw [hsn] at hbd ⊢
      generalize dv D.p (k + 1) a = a2 at *
      generalize dv D.p (k + 1) b = b2 at *
      generalize hda : dv D.p k a % D.p = da at *
      generalize hdb : dv D.p k b % D.p = db at *
      generalize dv D.p k a = ak at *
      generalize dv D.p k b = bk at *
      generalize val D.p (red D.p k v) = sk at *
      have u1 : IntKind.i64.wrap (da + db) = da + db := w64 _ (by omega)
      have t5 : (da + db).tmod D.p = (da + db) % D.p := Int.tmod_eq_emod_of_nonneg (by omega)
      generalize (da + db) % (D.p : Int) = dk at *
      have u2 : IntKind.i64.wrap (dk * D.p ^ k) = D.p ^ k * dk := by rw [Int.mul_comm]; exact w64 _ (by omega)
      have u3 : IntKind.i64.wrap (sk + D.p ^ k * dk) = sk + D.p ^ k * dk := w64 _ (by omega)
      have u4 : IntKind.i64.wrap ((D.p : Int) ^ k * D.p) = D.p ^ (k + 1) := by rw [← hps]; exact w64 _ (by omega)
      have u5 : IntKind.i64.wrap a2 = a2 := w64 _ (by omega)
      have u6 : IntKind.i64.wrap b2 = b2 := w64 _ (by omega)
      generalize (D.p : Int) ^ (k + 1) = pk1 at *
      generalize (D.p : Int) ^ k = pk at *
      by_cases c1 : 0 < ak
      · simp [k0, k1, k2, k7, k8, c1, isNil, l0, hp0, hp0', t1, t2, t3, t4, t5, u1, u2, u3, u4, u5, u6]
        exact hlt
      · have c2 : 0 < bk := by omega
        simp [k0, k1, k2, k7, k8, c1, c2, isNil, l0, hp0, hp0', t1, t2, t3, t4, t5, u1, u2, u3, u4, u5, u6]
        exact hlt
    · have z1 : dv D.p k a = 0 := by omega
      have z2 : dv D.p k b = 0 := by omega
      have hst := val_stop (p := D.p) hkn (v := v) fun j hj hjm => by
        rw [hvk j hjm, dv_stay j k z1 hj, dv_stay j k z2 hj]; simp
      simp [k1, k2, k7, z1, z2, hst]
      exact RetP.same
end Go.AM.Ytmihmgnjnedfcab
end

section
/- Contracts of functions: negatives, differences, products, inverses, sums of products of the program. -/
set_option maxRecDepth 100000
set_option linter.unusedSimpArgs false
set_option linter.unusedVariables false
namespace Go.AM.Ytmihmgnjnedfcab
open Go Go.AM
attribute [local simp ↓] awp_seq awp_reg awp_skip awp_cond' awp_block awp_exit awp_ret awp_fz thenW_normal thenW_exit thenW_ret inBlk_normal inBlk_exit inBlk_ret aops_cons' contA_ap aops_nil e_mv e_guard' e_pick' e_ld' e_app e_cpy e_st' e_call callW_f updO_some updO_none e_bin' e_isnil' e_fadr' e_iadr' e_iarr' e_len' e_build' e_mkf' e_nc' e_not' e_neg' e_cvt' e_slc' e_fld' e_ext' e_min' e_eqs' e_new e_box e_mkl e_mks
attribute [local simp] upd_apply ev_t ev_k ev_f binA_add binA_sub binA_mul binA_quo binA_rem binA_eql binA_neq binA_lss binA_leq binA_gtr binA_geq det mem frame0 keeps_nil iadrA_sl fadrA_ref fadrA_fp ldv_agg ldv_one cells_base hset_same hset_hset lenA_fs lenA_sl lenA_nils zeros_ints ints_length one_base one_nilp one_nils one_ref one_sl one_fp one_fs one_fn gl_one resA resOf bound natOf afill splice AV.cells cells_agg bindR_some condR_true condR_false guardR_tup guardR_true guardR_true' guardR_false guardR_false' allocW_some pickA_true pickA_false
open Go.FM

set_option maxHeartbeats 2000000 in
theorem s_Neg {D : Ds} (r : Fd D) (x : Int) : Pure prog n_field_GF_Neg [.fp (gfC D), I x] (I (D.neg x)) := by
  refine pure_of cf_field_GF_Neg rfl fun h => ?_
  have hp2 := r.p2
  have hm8 := r.m8
  have hp256 := r.p256
  have hq := r.pm
  have l0 := gf_ld' D
  simp
  refine (s_in r x).call ?_
  have hRx := r.toOk.innR x
  have hneg : D.neg x = val D.p (red D.p D.m (fun j => -1 * vl (digs D.p D.m (D.inn x)) j)) := rfl
  rw [hneg]
  clear hneg
  generalize D.inn x = a at *
  have ha := hRx
  unfold Ds.R at ha
  rw [Ds.qI] at ha
  generalize gfC D = C at *
  obtain ⟨v, hv⟩ : ∃ v : FM.V, v = fun j => -1 * vl (digs D.p D.m a) j := ⟨_, rfl⟩
  have hvk : ∀ j, j < D.m → v j = -1 * (dv D.p j a % D.p) := fun j hj => by rw [hv]; simp only; rw [vl_digs hj]
  rw [← hv]
  clear hv
  simp
  have hpI : (2 : Int) ≤ D.p := by omega
  have hp0 : (D.p : Int) ≠ 0 := by omega
  have hp0' : D.p ≠ 0 := by omega
  refine awp_for D.m (fun k fr' h' => h' = h ∧ fr' 1 = I (dv D.p k a) ∧ fr' 5 = I (val D.p (red D.p k v)) ∧ fr' 6 = I (D.p ^ k)) ⟨rfl, by simp [dv], by simp [red, val], by simp⟩ ?_
  intro k fr' h' hkn hk ⟨hh, k1, k7, k8⟩
  subst hh
  have k0 := hk 0 (by decide)
  simp at k0
  clear hk
  have ra := dv_range hpI k ha.1
  by_cases c : 0 < dv D.p k a
  · have hlt : k < D.m := by
      apply Classical.byContradiction
      intro hc
      have : k = D.m := by omega
      subst this
      have z1 := dv_zero (p := D.p) (by omega) ha.1 ha.2
      omega
    have hdm : (-1 * (dv D.p k a % D.p)) % D.p = (D.p - dv D.p k a % D.p) % D.p := by
      rw [show -1 * (dv D.p k a % D.p) = (D.p - dv D.p k a % D.p) + (-1) * D.p by omega, Int.add_mul_emod_self_right]
    have hsn : val D.p (red D.p (k + 1) v) = val D.p (red D.p k v) + D.p ^ k * ((D.p - dv D.p k a % D.p) % D.p) := by
      rw [red_snoc, val_append, red_length, hvk k hlt, hdm]; simp [val]
    have hbd := val_red_le hp2 (show k + 1 ≤ D.m by omega) hq v
    have hbd2 := val_red_le hp2 (show k ≤ D.m by omega) hq v
    have t1 : (dv D.p k a).tmod D.p = dv D.p k a % D.p := Int.tmod_eq_emod_of_nonneg ra.1
    have t3 : (dv D.p k a).tdiv D.p = dv D.p (k + 1) a := by rw [dv_succ]; exact Int.tdiv_eq_ediv_of_nonneg ra.1
    have ra2 := dv_range hpI (k + 1) ha.1
    have e1 : 0 ≤ dv D.p k a % D.p ∧ dv D.p k a % D.p < D.p := ⟨Int.emod_nonneg _ hp0, Int.emod_lt_of_pos _ (by omega)⟩
    have hps : (D.p : Int) ^ (k + 1) = D.p ^ k * D.p := Int.pow_succ ..
    have hple := pow_mono hpI (show k + 1 ≤ D.m by omega)
    have hpp := pow_pos2 hpI (k + 1)
    have hpp2 := pow_pos2 hpI k
    have hple2 := pow_mono hpI (show k ≤ D.m by omega)
    rw [hsn] at hbd ⊢
    clear hdm hsn
    generalize dv D.p (k + 1) a = a2 at *
    generalize hda : dv D.p k a % D.p = da at *
    generalize dv D.p k a = ak at *
    generalize val D.p (red D.p k v) = sk at *
    have u1 : IntKind.i64.wrap (D.p - da) = D.p - da := w64 _ (by omega)
    have t5 : ((D.p : Int) - da).tmod D.p = (D.p - da) % D.p := Int.tmod_eq_emod_of_nonneg (by omega)
    generalize ((D.p : Int) - da) % (D.p : Int) = dk at *
    have u2 : IntKind.i64.wrap (dk * D.p ^ k) = D.p ^ k * dk := by rw [Int.mul_comm]; exact w64 _ (by omega)
    have u3 : IntKind.i64.wrap (sk + D.p ^ k * dk) = sk + D.p ^ k * dk := w64 _ (by omega)
    have u4 : IntKind.i64.wrap ((D.p : Int) ^ k * D.p) = D.p ^ (k + 1) := by rw [← hps]; exact w64 _ (by omega)
    have u5 : IntKind.i64.wrap a2 = a2 := w64 _ (by omega)
    generalize (D.p : Int) ^ (k + 1) = pk1 at *
    generalize (D.p : Int) ^ k = pk at *
    simp [k0, k1, k7, k8, c, isNil, l0, hp0, hp0', t1, t3, t5, u1, u2, u3, u4, u5]
    exact hlt
  · have z1 : dv D.p k a = 0 := by omega
    have hst := val_stop (p := D.p) hkn (v := v) fun j hj hjm => by
      rw [hvk j hjm, dv_stay j k z1 hj]; simp
    simp [k1, k7, z1, hst]
    exact RetP.same

/-- The exponent of an element. -/
noncomputable def lgD (D : Ds) (y : Int) : Nat := ((logK D (gen0 D) (D.q - 1)).getD y.toNat 0).toNat
theorem lgD_spec {D : Ds} (r : Fd D) {y : Int} (hy : D.R y) (h0 : y ≠ 0) : lgD D y < D.q - 1 ∧ D.pw (gen0 D) (lgD D y) = y ∧ (logK D (gen0 D) (D.q - 1)).getD y.toNat 0 = lgD D y := by
  obtain ⟨i, h1, h2, h3⟩ := log_ex r hy h0
  have e : lgD D y = i := by unfold lgD; rw [h3]; simp
  rw [e]
  exact ⟨h1, h2, h3⟩

/-- The inverse. -/
noncomputable def invD (D : Ds) (x : Int) : Int := if D.inn x = 0 then 0 else D.pw (gen0 D) ((D.q - 1 - lgD D (D.inn x)) % (D.q - 1))

theorem mul_inv {D : Ds} (r : Fd D) {x : Int} (h0 : D.inn x ≠ 0) : D.mul x (invD D x) = 1 := by
  have g1 := (gen0_spec r.toRg r.gen).1
  obtain ⟨h1, h2, _⟩ := lgD_spec r (r.toOk.innR x) h0
  unfold invD
  rw [if_neg h0, ← r.toOk.inn_mul', ← g1.mod r.toOk]
  conv => lhs; arg 2; rw [← h2]
  rw [← r.toOk.pw_add, show lgD D (D.inn x) + (D.q - 1 - lgD D (D.inn x)) = D.q - 1 by omega]
  exact g1.top
theorem invR {D : Ds} (o : D.Ok) (x : Int) : D.R (invD D x) := by
  unfold invD
  split
  · exact o.q0
  · exact o.pwR _ _

/-- What the tables are: a slice of powers, a slice of exponents. -/
theorem gf_tabs {D : Ds} (r : Fd D) : ∃ (C : List AV) (EX LG : List Int), gfC D = C ∧ (∀ h, cellsAt h (.fp (C.drop 3)) 1 = some [I D.q]) ∧ (∀ h, cellsAt h (.fp (C.drop 4)) 1 = some [.fs (D.q - 1) (ints EX)]) ∧ (∀ h, cellsAt h (.fp (C.drop 5)) 1 = some [.fs D.q (ints LG)]) ∧
    IL (.fs (D.q - 1) (ints EX)) EX ∧ IL (.fs D.q (ints LG)) LG ∧ EX.length = D.q - 1 ∧ LG.length = D.q ∧ (∀ k, k < D.q - 1 → EX.getD k 0 = D.pw (gen0 D) k) ∧ (∀ y, D.R y → y ≠ 0 → LG.getD y.toNat 0 = lgD D y) := by
  refine ⟨gfC D, pwL D (gen0 D) (D.q - 1), logK D (gen0 D) (D.q - 1), rfl, fun h => (gf_ld D h).1, fun h => (gf_ld D h).2.1, fun h => (gf_ld D h).2.2.1, ?_, ?_, pwL_len .., logK_len .., fun k hk => pwL_getD hk, fun y hy h0 => (lgD_spec r hy h0).2.2⟩
  · have := IL.fs (pwL D (gen0 D) (D.q - 1)); rwa [pwL_len] at this
  · have := IL.fs (logK D (gen0 D) (D.q - 1)); rwa [logK_len] at this

theorem s_Mul {D : Ds} (r : Fd D) (x y : Int) : Pure prog n_field_GF_Mul [.fp (gfC D), I x, I y] (I (D.mul x y)) := by
  refine pure_of cf_field_GF_Mul rfl fun h => ?_
  have hq := r.q256
  have hq2 := r.q2
  have fin : ∀ z, D.mul x y = z → RetP h (I (D.mul x y)) (I z) h := fun z hz => hz ▸ RetP.same
  simp
  refine (s_in r x).call ?_
  simp
  refine (s_in r y).call ?_
  have hRx := r.toOk.innR x
  have hRy := r.toOk.innR y
  have hxy : D.mul x y = D.mul (D.inn x) (D.inn y) := by rw [r.toOk.mul_inn, r.toOk.inn_mul']
  generalize D.inn x = a at *
  generalize D.inn y = b at *
  by_cases c1 : a = 0
  · simp [c1]
    exact fin 0 (by rw [hxy, c1, r.toOk.zero_mul])
  by_cases c2 : b = 0
  · simp [c1, c2]
    exact fin 0 (by rw [hxy, c2, r.toOk.mul_zero])
  have g1 := (gen0_spec r.toRg r.gen).1
  obtain ⟨i1, i2, _⟩ := lgD_spec r hRx c1
  obtain ⟨j1, j2, _⟩ := lgD_spec r hRy c2
  have hres : D.pw (gen0 D) ((lgD D a + lgD D b) % (D.q - 1)) = D.mul x y := by
    rw [← g1.mod r.toOk, r.toOk.pw_add, i2, j2, hxy]
  obtain ⟨C, EX, LG, hC, l3, l4, l5, hE, hL, hEl, hLl, hEg, hLg⟩ := gf_tabs r
  have ha1 := hRx.1
  have ha2 := hRx.2
  have hb1 := hRy.1
  have hb2 := hRy.2
  have hia := hL.iadr (i := a) ⟨ha1, by omega⟩
  have hib := hL.iadr (i := b) ⟨hb1, by omega⟩
  have hla := fun h' => ld_ints (h := h') (l := LG) (k := a.toNat) (by omega)
  have hlb := fun h' => ld_ints (h := h') (l := LG) (k := b.toNat) (by omega)
  rw [hLg a hRx c1] at hla
  rw [hLg b hRy c2] at hlb
  generalize lgD D a = i at *
  generalize lgD D b = j at *
  have u1 : IntKind.i64.wrap ((i : Int) + j) = ((i + j : Nat) : Int) := by rw [w64 _ (by omega)]; omega
  have u2 : IntKind.i64.wrap ((D.q : Int) - 1) = ((D.q - 1 : Nat) : Int) := by rw [w64 _ (by omega)]; omega
  have hk0 : ¬ ((D.q - 1 : Nat) : Int) = 0 := by omega
  have hk0' : ¬ D.q - 1 = 0 := by omega
  have t1 : ((i + j : Nat) : Int).tmod ((D.q - 1 : Nat) : Int) = (((i + j) % (D.q - 1) : Nat) : Int) := (Int.ofNat_tmod _ _).symm
  have hlt : (i + j) % (D.q - 1) < D.q - 1 := Nat.mod_lt _ (by omega)
  have hie := hE.iadr (i := (((i + j) % (D.q - 1) : Nat) : Int)) ⟨by omega, by omega⟩
  simp only [Int.toNat_natCast] at hie
  have hle := fun h' => ld_ints (h := h') (l := EX) (k := (i + j) % (D.q - 1)) (by omega)
  rw [hEg _ hlt, hres] at hle
  clear hres
  generalize (i + j) % (D.q - 1) = e at *
  generalize i + j = ij at *
  generalize D.q - 1 = Q1 at *
  rw [hC]
  simp [c1, c2, isNil, l3, l4, l5, hia, hib, hla, hlb, u1, u2, hk0, hk0', t1, hie, hle]
  exact RetP.same

theorem s_Inv {D : Ds} (r : Fd D) (x : Int) : Pure prog n_field_GF_Inv [.fp (gfC D), I x] (.tup [I (invD D x), I (if D.inn x = 0 then 7 else 0)]) := by
  refine pure_of cf_field_GF_Inv rfl fun h => ?_
  have hq := r.q256
  have hq2 := r.q2
  simp
  refine (s_in r x).call ?_
  have hRx := r.toOk.innR x
  unfold invD
  generalize D.inn x = a at *
  by_cases c1 : a = 0
  · simp [c1]
    exact RetP.same
  rw [if_neg c1, if_neg c1]
  obtain ⟨i1, i2, _⟩ := lgD_spec r hRx c1
  obtain ⟨C, EX, LG, hC, l3, l4, l5, hE, hL, hEl, hLl, hEg, hLg⟩ := gf_tabs r
  have ha1 := hRx.1
  have ha2 := hRx.2
  have hia := hL.iadr (i := a) ⟨ha1, by omega⟩
  have hla := fun h' => ld_ints (h := h') (l := LG) (k := a.toNat) (by omega)
  rw [hLg a hRx c1] at hla
  generalize lgD D a = i at *
  have u2 : IntKind.i64.wrap ((D.q : Int) - 1) = ((D.q - 1 : Nat) : Int) := by rw [w64 _ (by omega)]; omega
  have u1 : IntKind.i64.wrap (((D.q - 1 : Nat) : Int) - i) = ((D.q - 1 - i : Nat) : Int) := by rw [w64 _ (by omega)]; omega
  have hk0 : ¬ ((D.q - 1 : Nat) : Int) = 0 := by omega
  have hk0' : ¬ D.q - 1 = 0 := by omega
  have t1 : ((D.q - 1 - i : Nat) : Int).tmod ((D.q - 1 : Nat) : Int) = (((D.q - 1 - i) % (D.q - 1) : Nat) : Int) := (Int.ofNat_tmod _ _).symm
  have hlt : (D.q - 1 - i) % (D.q - 1) < D.q - 1 := Nat.mod_lt _ (by omega)
  have hie := hE.iadr (i := (((D.q - 1 - i) % (D.q - 1) : Nat) : Int)) ⟨by omega, by omega⟩
  simp only [Int.toNat_natCast] at hie
  have hle := fun h' => ld_ints (h := h') (l := EX) (k := (D.q - 1 - i) % (D.q - 1)) (by omega)
  rw [hEg _ hlt] at hle
  generalize (D.q - 1 - i) % (D.q - 1) = e at *
  generalize D.q - 1 - i = ij at *
  generalize D.q - 1 = Q1 at *
  rw [hC]
  generalize D.pw (gen0 D) e = z at *
  simp [c1, isNil, l3, l4, l5, hia, hla, u1, u2, hk0, hk0', t1, hie, hle]
  exact RetP.same

end Go.AM.Ytmihmgnjnedfcab
end

section
/- Contracts of functions: the reference's sums, sums of products on both sides. -/
set_option maxRecDepth 100000
set_option linter.unusedSimpArgs false
set_option linter.unusedVariables false
namespace Go.AM.Ytmihmgnjnedfcab
open Go Go.AM
attribute [local simp ↓] awp_seq awp_reg awp_skip awp_cond' awp_block awp_exit awp_ret awp_fz thenW_normal thenW_exit thenW_ret inBlk_normal inBlk_exit inBlk_ret aops_cons' contA_ap aops_nil e_mv e_guard' e_pick' e_ld' e_app e_cpy e_st' e_call callW_f updO_some updO_none e_bin' e_isnil' e_fadr' e_iadr' e_iarr' e_len' e_build' e_mkf' e_nc' e_not' e_neg' e_cvt' e_slc' e_fld' e_ext' e_min' e_eqs' e_new e_box e_mkl e_mks
attribute [local simp] upd_apply ev_t ev_k ev_f binA_add binA_sub binA_mul binA_quo binA_rem binA_eql binA_neq binA_lss binA_leq binA_gtr binA_geq det mem frame0 keeps_nil iadrA_sl fadrA_ref fadrA_fp ldv_agg ldv_one cells_base hset_same hset_hset lenA_fs lenA_sl lenA_nils zeros_ints ints_length one_base one_nilp one_nils one_ref one_sl one_fp one_fs one_fn gl_one resA resOf bound natOf afill splice AV.cells cells_agg bindR_some condR_true condR_false guardR_tup guardR_true guardR_true' guardR_false guardR_false' allocW_some pickA_true pickA_false
open Go.FM

/-- A function ends with a live block of whole numbers of its own. -/
def LiveR (h : Hp) (l : List Int) (v : AV) (h' : Hp) : Prop := Kp h h' ∧ ∃ b, h b = none ∧ v = .sl b 0 l.length 1 ∧ h' b = some (ints l)

theorem call0 {P : Program} {i : FuncId} {avs : List AV} {h : Hp} {R0 R : AV → Hp → Prop} (s : Spec P i avs h R0) (k : ∀ v h', R0 v h' → R v h') : CallP P 0 i avs h R := s.mono k
theorem call2 {P : Program} {i : FuncId} {avs : List AV} {h : Hp} {R0 R : AV → Hp → Prop} (s : Spec P i avs h R0) (k : ∀ v h', R0 v h' → Kp h h' ∧ R v h') : CallP P 2 i avs h R := s.mono fun v h' hr => k v h' hr

theorem w_digits {x p : Int} {m : Nat} (hx : 0 ≤ x ∧ x ≤ 9223372036854775807) (hp : 2 ≤ p) (hm : m ≤ 4294967296) (h : Hp) : Spec prog n_ref04_digits [I x, I p, I m] h (LiveR h (digs p m x)) := by
  refine spec_of cf_ref04_digits rfl ?_
  have hm' : (m : Int) ≤ 4294967296 := by omega
  simp [hm']
  intro b7 hb7
  have hk0 : Kp h (hset h b7 (ints (List.replicate m 0))) := (Kp.refl h).new hb7 _
  refine awp_for m (fun k fr' h' => Kp h h' ∧ h' b7 = some (ints (digs p k x ++ List.replicate (m - k) 0)) ∧ fr' 8 = I k ∧ fr' 0 = I (dv p k x)) ⟨hk0, by simp [hset_same, digs], by simp, by simp [dv]⟩ ?_
  intro k fr' h' hkn hk ⟨hkp, hb, h13, h0⟩
  have k1 := hk 1 (by decide)
  have k2 := hk 2 (by decide)
  have k7 := hk 7 (by decide)
  simp at k1 k2 k7
  clear hk
  by_cases hlt : k < m
  · have hdr := dv_range hp k hx.1
    have hp0 : p ≠ 0 := by omega
    have e1 : (dv p k x).tmod p = dv p k x % p := Int.tmod_eq_emod_of_nonneg hdr.1
    have e2 : (dv p k x).tdiv p = dv p (k + 1) x := by rw [dv_succ]; exact Int.tdiv_eq_ediv_of_nonneg hdr.1
    have hdr2 := dv_range hp (k + 1) hx.1
    have u1 : IntKind.i64.wrap (dv p (k + 1) x) = dv p (k + 1) x := w64 _ (by omega)
    have u2 : IntKind.i64.wrap ((k : Int) + 1) = k + 1 := w64 _ (by omega)
    have st := fun R => sr_ints (R := R) (v := dv p k x % p) hb (k := k) (by simp [digs_length]; omega)
    rw [set_mid (digs_length p k x) hlt] at st
    simp [h13, h0, k1, k2, k7, hlt, hp0, e1, e2, u1, u2, st]
    exact ⟨hkp.set hb7 _, by rw [digs_snoc]; simp⟩
  · have : k = m := by omega
    subst this
    simp [h13, k2, k7]
    rw [Nat.sub_self, List.replicate_zero, List.append_nil] at hb
    exact ⟨hkp, b7, hb7, by rw [digs_length], hb⟩

theorem w_refDigits {D : Ds} (r : Rg D) {mv : AV} (hone : one mv = true) (x : Int) (h : Hp) : Spec prog n_ref04_Digits [.agg [I D.p, I D.m, mv], I x] h (LiveR h (digs D.p D.m (D.inn x))) := by
  refine spec_of cf_ref04_Digits rfl ?_
  simp [hone]
  intro b2 hb2
  obtain ⟨l0, l1, l2, l3⟩ := ld3_at (hset_same h b2 [I D.p, I D.m, mv])
  have hkg : Kp h (hset h b2 [I D.p, I D.m, mv]) := (Kp.refl h).new hb2 _
  generalize hset h b2 [I D.p, I D.m, mv] = g at *
  have h1 := r.p2
  have h2 := r.m8
  have h3 := r.toOk.innR x
  have h4 := r.q256
  unfold Ds.R at h3
  simp [l0, l1, l3]
  refine (s_refIn r hone x).call ?_
  simp
  refine call2 (w_digits (x := D.inn x) (p := D.p) (m := D.m) ⟨by omega, by omega⟩ (by omega) (by omega) g) fun v h' ⟨c1, b, c2, c3, c4⟩ => ⟨c1, ?_⟩
  simp
  exact ⟨hkg.trans c1, b, hkg.no c2, c3, c4⟩

theorem zipAdd_len {xa xb : List Int} {p : Int} {m : Nat} : (red p m (fun j => vl xa j + vl xb j)).length = m := red_length ..

set_option maxHeartbeats 2000000 in
theorem s_refAdd {D : Ds} (r : Rg D) {mv : AV} (hmv : IL mv D.mo) (x y : Int) : Pure prog n_ref04_Add [.agg [I D.p, I D.m, mv], I x, I y] (I (D.add x y)) := by
  refine pure_of cf_ref04_Add rfl fun h => ?_
  have hone := hmv.one
  have hp2 := r.p2
  have hm1 := r.m1
  have hm8 := r.m8
  have hp256 := r.p256
  simp [hone]
  intro b3 hb3
  obtain ⟨l0, l1, l2, l3⟩ := ld3_at (hset_same h b3 [I D.p, I D.m, mv])
  have hkg : Kp h (hset h b3 [I D.p, I D.m, mv]) := (Kp.refl h).new hb3 _
  have hg3 : (hset h b3 [I D.p, I D.m, mv]) b3 = some [I D.p, I D.m, mv] := hset_same ..
  generalize hset h b3 [I D.p, I D.m, mv] = g at *
  have hadd : D.add x y = val D.p (red D.p D.m (fun j => vl (digs D.p D.m (D.inn x)) j + vl (digs D.p D.m (D.inn y)) j)) := rfl
  rw [hadd]
  clear hadd
  have hla := digs_length (D.p : Int) D.m (D.inn x)
  have hlb := digs_length (D.p : Int) D.m (D.inn y)
  have hda := digs_Dg r.p0 D.m (D.inn x)
  have hdb := digs_Dg r.p0 D.m (D.inn y)
  have hIb := IL.fs (digs (D.p : Int) D.m (D.inn y))
  rw [hlb] at hIb
  simp [l3]
  refine call0 (w_refDigits r hone x g) fun v h1 ⟨c1, b7, c2, c3, c4⟩ => ?_
  have hg31 := c1 b3 _ hg3
  obtain ⟨_, _, _, m3⟩ := ld3_at hg31
  simp [m3]
  refine (s_refDigits r hone y).call ?_
  subst c3
  generalize digs (D.p : Int) D.m (D.inn x) = xa at *
  generalize digs (D.p : Int) D.m (D.inn y) = xb at *
  obtain ⟨vv, hvv⟩ : ∃ vv : FM.V, vv = fun j => vl xa j + vl xb j := ⟨_, rfl⟩
  rw [← hvv]
  rw [hla]
  simp
  have hN := red_length (D.p : Int) D.m vv
  have hNd := red_Dg r.p0 D.m vv
  have hNg : ∀ j, j < D.m → (red D.p D.m vv).getD j 0 = (xa.getD j 0 + xb.getD j 0) % D.p := fun j hj => by
    have := vl_red (p := D.p) (v := vv) hj
    rw [vl_getD] at this
    rw [this, hvv]; rfl
  clear hvv
  generalize red (D.p : Int) D.m vv = N at *
  refine awp_for D.m (fun k fr' h' => Kp g h' ∧ h' b7 = some (ints (N.take k ++ xa.drop k)) ∧ fr' 9 = I k) ⟨c1, by simpa using c4, by simp⟩ ?_
  intro k fr' h' hkn hk ⟨hkp, hb, k9⟩
  have k3 := hk 3 (by decide)
  have k7 := hk 7 (by decide)
  have k8 := hk 8 (by decide)
  simp at k3 k7 k8
  clear hk
  obtain ⟨p0, p1, p2, p3⟩ := ld3_at (hkp b3 _ hg3)
  by_cases hlt : k < D.m
  · have hldo := ld_ints_at hb (k := k) (by rw [tk_len (by omega) (by omega)]; omega)
    rw [tk_get (by omega), if_neg (by omega)] at hldo
    have hst := fun R => sr_ints (R := R) (v := N.getD k 0) hb (k := k) (by rw [tk_len (by omega) (by omega)]; omega)
    rw [tk_set (by omega) (by omega)] at hst
    have hib := hIb.iadr (i := k) ⟨by omega, by omega⟩
    simp at hib
    have hldb := fun h' => ld_ints (h := h') (l := xb) (k := k) (by omega)
    have ra := Dg_getD hda (j := k) (by omega)
    have rb := Dg_getD hdb (j := k) (by omega)
    have hnk := hNg k hlt
    generalize N.getD k 0 = nk at *
    generalize xa.getD k 0 = ak at *
    generalize xb.getD k 0 = bk at *
    have u1 : IntKind.i64.wrap (ak + bk) = ak + bk := w64 _ (by omega)
    have t1 : (ak + bk).tmod D.p = nk := by rw [Int.tmod_eq_emod_of_nonneg (by omega), hnk]
    have u2 : IntKind.i64.wrap ((k : Int) + 1) = k + 1 := w64 _ (by omega)
    have hp0 : (D.p : Int) ≠ 0 := by omega
    have hp0' : D.p ≠ 0 := by omega
    simp [k3, k7, k8, k9, hlt, hldo, hib, hldb, p0, u1, t1, u2, hp0, hp0', hst]
    exact hkp.set c2 _
  · have : k = D.m := by omega
    subst this
    rw [List.take_of_length_le (by omega), List.drop_eq_nil_of_le (by omega), List.append_nil] at hb
    simp [k7, k9]
    refine Fz_one (g := g) (s := 7) (n := D.m) (sz := 1) (by simp [k7]) hb c2 hkp (by rw [ints_length]; omega) ?_
    have hIo := IL.fs N
    rw [hN] at hIo
    simp [k3, l3]
    refine (s_Value hIo hone (m := D.m) (p := D.p) (by omega) (by omega) hNd (by rw [hN]; exact r.pm) (by omega)).call ?_
    simp
    exact ⟨_, hkg.sub, .id _, rfl⟩

/-- The sum of the first k products. -/
def dotK (D : Ds) (a b : List Int) : Nat → Int
  | 0 => 0
  | k + 1 => D.add (dotK D a b k) (D.mul (a.getD k 0) (b.getD k 0))

theorem s_refDot {D : Ds} (r : Fd D) {mv v w : AV} (hmv : IL mv D.mo) {a b : List Int} (hv : IL v a) (hw : IL w b) (hla : a.length < 4611686018427387904) (hlb : b.length < 4611686018427387904) : Pure prog n_ref04_Dot [.agg [I D.p, I D.m, mv], v, w] (I (dotK D a b (min a.length b.length))) := by
  refine pure_of cf_ref04_Dot rfl fun h => ?_
  have hone := hmv.one
  simp [hone]
  intro b3 hb3
  obtain ⟨l0, l1, l2, l3⟩ := ld3_at (hset_same h b3 [I D.p, I D.m, mv])
  have hkg : Kp h (hset h b3 [I D.p, I D.m, mv]) := (Kp.refl h).new hb3 _
  generalize hset h b3 [I D.p, I D.m, mv] = g at *
  generalize hn : min a.length b.length = n at *
  refine awp_for n (fun k fr' h' => h' = g ∧ fr' 8 = I k ∧ fr' 7 = I (dotK D a b k)) ⟨rfl, by simp, by simp [dotK]⟩ ?_
  intro k fr' h' hkn hk ⟨hh, k8, k7⟩
  subst hh
  have k1 := hk 1 (by decide)
  have k2 := hk 2 (by decide)
  have k3 := hk 3 (by decide)
  simp at k1 k2 k3
  clear hk
  by_cases hlt : k < n
  · have hia := hv.iadr (i := k) ⟨by omega, by omega⟩
    have hib := hw.iadr (i := k) ⟨by omega, by omega⟩
    simp at hia hib
    have hlda := fun h' => ld_ints (h := h') (l := a) (k := k) (by omega)
    have hldb := fun h' => ld_ints (h := h') (l := b) (k := k) (by omega)
    have hs : dotK D a b (k + 1) = D.add (dotK D a b k) (D.mul (a.getD k 0) (b.getD k 0)) := rfl
    rw [hs]
    have u2 : IntKind.i64.wrap ((k : Int) + 1) = k + 1 := w64 _ (by omega)
    have c1 : k < a.length := by omega
    have c2 : k < b.length := by omega
    clear hs
    generalize a.getD k 0 = ak at *
    generalize b.getD k 0 = bk at *
    simp [k1, k2, k3, k7, k8, hv.len, hw.len, c1, c2, l3, hia, hib, hlda, hldb]
    refine (s_refMul r.toRg hmv ak bk).call ?_
    simp
    refine (s_refAdd r.toRg hmv _ _).call ?_
    simp [k8, u2]
    exact hlt
  · have : k = n := by omega
    subst this
    by_cases c1 : k < a.length
    · have c2 : ¬ k < b.length := by omega
      simp [k1, k2, k7, k8, hv.len, hw.len, c1, c2]
      exact ⟨_, hkg.sub, .id _, rfl⟩
    · simp [k1, k7, k8, hv.len, c1]
      exact ⟨_, hkg.sub, .id _, rfl⟩
end Go.AM.Ytmihmgnjnedfcab
end

section
/- Codes of the program, as the conversion gives them. -/
set_option maxRecDepth 100000
namespace Go.AM.Ytmihmgnjnedfcab
open Go Go.AM
-- matrix_Mul
abbrev c_matrix_MulL0_3 : SC := (.reg [o 54 (.bin .add (.t 38) (ki 1)), o 38 (.mv (.t 54))])
abbrev c_matrix_MulL0_2 : SC := .seq (.block 1 (.seq (.reg [o 40 (.iadr (.t 36) (.t 38) 1), o 41 (.ld (.t 40) 1 false), o 12 (.mv (.t 41))]) (.reg [o 42 (.fadr (.t 10) 1), o 44 (.mv (.t 8)), o 45 (.mv (.t 12)), o 46 (.fadr (.t 5) 1), o 48 (.fadr (.t 5) 0), o 43 (.ld (.t 42) 1 false), o 47 (.ld (.t 46) 1 false), o 49 (.ld (.t 48) 1 false), om 1 50 (.call (.f n_matrix_vec) [.t 44, .t 45, .t 47, .t 49]), o 51 (.mkl 1 1 [.nils] [(0, (1, .t 50))]), o 52 (.app (.t 43) (.t 51) 1), o 53 (.fadr (.t 10) 1), os (.st (.t 53) (.t 52) 1)]))) c_matrix_MulL0_3
abbrev c_matrix_MulL0_1 : SC := .seq (.cond (.t 39) .skip (.exit 0)) c_matrix_MulL0_2
abbrev c_matrix_MulL0_0 : SC := .seq (.reg [o 39 (.bin .lss (.t 38) (.t 37))]) c_matrix_MulL0_1
abbrev c_matrix_Mul_7 : SC := .ret
abbrev c_matrix_Mul_6 : SC := .seq (.reg [o 55 (.ld (.t 10) 2 true), os (.st (.t 6) (.t 55) 2), o 7 (.mv (ki 0))]) c_matrix_Mul_7
abbrev c_matrix_Mul_5 : SC := .seq (.seq (.reg [o 35 (.fadr (.t 4) 1), o 36 (.ld (.t 35) 1 false), o 37 (.len (.t 36)), o 38 (.mv (ki 0))]) (.block 0 (.loop c_matrix_MulL0_0))) c_matrix_Mul_6
abbrev c_matrix_Mul_4 : SC := .seq (.reg [o 32 (.fadr (.t 5) 0), o 33 (.ld (.t 32) 1 false), o 34 (.build [I 0, .nils] [(0, (1, .t 33))]), o 10 (.new [I 0, .nils]), os (.st (.t 10) (.t 34) 2)]) c_matrix_Mul_5
abbrev c_matrix_Mul_3 : SC := .seq (.seq (.reg [o 25 (.fadr (.t 4) 0), o 26 (.ld (.t 25) 1 false), o 27 (.fadr (.t 5) 1), o 28 (.ld (.t 27) 1 false), o 29 (.len (.t 28)), o 30 (.bin .neq (.t 26) (.t 29))]) (.cond (.t 30) (.seq (.reg [o 31 (.build [I 0, .nils] []), os (.st (.t 6) (.t 31) 2), o 7 (.mv (ki 10))]) .ret) .skip)) c_matrix_Mul_4
abbrev c_matrix_Mul_2 : SC := .seq (.seq (.reg [o 21 (.mv (.t 9)), o 22 (.bin .neq (.t 21) (ki 0))]) (.cond (.t 22) (.seq (.reg [o 23 (.build [I 0, .nils] []), o 24 (.mv (.t 9)), os (.st (.t 6) (.t 23) 2), o 7 (.mv (.t 24))]) .ret) .skip)) c_matrix_Mul_3
abbrev c_matrix_Mul_1 : SC := .seq (.reg [o 14 (.ld (.t 3) 3 true), o 15 (.ld (.t 4) 2 true), o 16 (.ld (.t 5) 2 true), o 17 (.mkl 2 2 [I 0, .nils, I 0, .nils] [(0, (2, .t 15)), (2, (2, .t 16))]), o 18 (.call (.f n_matrix_open) [.t 14, .t 17]), o 13 (.mv (.t 18)), o 19 (.ext (.t 13) 0), o 20 (.ext (.t 13) 1), o 8 (.mv (.t 19)), o 9 (.mv (.t 20))]) c_matrix_Mul_2
abbrev c_matrix_Mul_0 : SC := .seq (.reg [o 3 (.box (.t 0)), o 4 (.box (.t 1)), o 5 (.box (.t 2)), o 6 (.new [I 0, .nils]), o 7 (.mv (ki 0))]) c_matrix_Mul_1
theorem cf_matrix_Mul : cfun Go.Proofs.Try.prog md n_matrix_Mul = some ⟨3, 56, c_matrix_Mul_0.erase, [.c 6 2 true, .t 7]⟩ := by kernel_rfl
-- matrix_open
abbrev c_matrix_openL0_3 : SC := (.reg [o 30 (.bin .add (.t 20) (ki 1)), o 20 (.mv (.t 30))])
abbrev c_matrix_openL0_2 : SC := .seq (.block 1 (.seq (.reg [o 22 (.iadr (.t 18) (.t 20) 2), o 23 (.ld (.t 22) 2 true), o 9 (.new [I 0, .nils]), os (.st (.t 9) (.t 23) 2)]) (.seq (.reg [o 24 (.mv (.t 6)), o 25 (.ld (.t 9) 2 true), o 26 (.call (.f n_matrix_check) [.t 24, .t 25]), o 10 (.mv (.t 26))]) (.seq (.reg [o 27 (.mv (.t 10)), o 28 (.bin .neq (.t 27) (ki 0))]) (.cond (.t 28) (.seq (.reg [o 29 (.mv (.t 10)), o 4 (.mv (.k .nilp)), o 5 (.mv (.t 29))]) .ret) .skip))))) c_matrix_openL0_3
abbrev c_matrix_openL0_1 : SC := .seq (.cond (.t 21) .skip (.exit 0)) c_matrix_openL0_2
abbrev c_matrix_openL0_0 : SC := .seq (.reg [o 21 (.bin .lss (.t 20) (.t 19))]) c_matrix_openL0_1
abbrev c_matrix_open_5 : SC := .ret
abbrev c_matrix_open_4 : SC := .seq (.reg [o 31 (.mv (.t 6)), o 4 (.mv (.t 31)), o 5 (.mv (ki 0))]) c_matrix_open_5
abbrev c_matrix_open_3 : SC := .seq (.seq (.reg [o 18 (.mv (.t 1)), o 19 (.len (.t 18)), o 20 (.mv (ki 0))]) (.block 0 (.loop c_matrix_openL0_0))) c_matrix_open_4
abbrev c_matrix_open_2 : SC := .seq (.seq (.reg [o 16 (.mv (.t 7)), o 17 (.bin .neq (.t 16) (ki 0))]) (.cond (.t 17) (.seq (.reg [o 4 (.mv (.k .nilp)), o 5 (.mv (ki 1))]) .ret) .skip)) c_matrix_open_3
abbrev c_matrix_open_1 : SC := .seq (.reg [o 12 (.ld (.t 2) 3 true), o 13 (.call (.f n_field_New) [.t 12]), o 11 (.mv (.t 13)), o 14 (.ext (.t 11) 0), o 15 (.ext (.t 11) 1), o 6 (.mv (.t 14)), o 7 (.mv (.t 15))]) c_matrix_open_2
abbrev c_matrix_open_0 : SC := .seq (.reg [o 2 (.box (.t 0)), o 4 (.mv (.k .nilp)), o 5 (.mv (ki 0))]) c_matrix_open_1
theorem cf_matrix_open : cfun Go.Proofs.Try.prog md n_matrix_open = some ⟨2, 32, c_matrix_open_0.erase, [.t 4, .t 5]⟩ := by kernel_rfl
-- matrix_check
abbrev c_matrix_checkL0_3 : SC := (.reg [o 36 (.bin .add (.t 27) (ki 1)), o 27 (.mv (.t 36))])
abbrev c_matrix_checkL0_2 : SC := .seq (.block 1 (.seq (.reg [o 29 (.iadr (.t 25) (.t 27) 1), o 30 (.ld (.t 29) 1 false), o 6 (.mv (.t 30))]) (.seq (.reg [o 31 (.mv (.t 6)), o 32 (.len (.t 31)), o 33 (.fadr (.t 3) 0), o 34 (.ld (.t 33) 1 false), o 35 (.bin .neq (.t 32) (.t 34))]) (.cond (.t 35) (.seq (.reg [o 4 (.mv (ki 3))]) .ret) .skip)))) c_matrix_checkL0_3
abbrev c_matrix_checkL0_1 : SC := .seq (.cond (.t 28) .skip (.exit 0)) c_matrix_checkL0_2
abbrev c_matrix_checkL0_0 : SC := .seq (.reg [o 28 (.bin .lss (.t 27) (.t 26))]) c_matrix_checkL0_1
abbrev c_matrix_checkL1_3 : SC := (.reg [o 50 (.bin .add (.t 40) (ki 1)), o 40 (.mv (.t 50))])
abbrev c_matrix_checkL1_2 : SC := .seq (.block 3 (.seq (.reg [o 42 (.iadr (.t 38) (.t 40) 1), o 43 (.ld (.t 42) 1 false), o 8 (.mv (.t 43))]) (.seq (.reg [o 44 (.mv (.t 0)), o 45 (.mv (.t 8)), o 46 (.call (.f n_matrix_entries) [.t 44, .t 45]), o 9 (.mv (.t 46))]) (.seq (.reg [o 47 (.mv (.t 9)), o 48 (.bin .neq (.t 47) (ki 0))]) (.cond (.t 48) (.seq (.reg [o 49 (.mv (.t 9)), o 4 (.mv (.t 49))]) .ret) .skip))))) c_matrix_checkL1_3
abbrev c_matrix_checkL1_1 : SC := .seq (.cond (.t 41) .skip (.exit 2)) c_matrix_checkL1_2
abbrev c_matrix_checkL1_0 : SC := .seq (.reg [o 41 (.bin .lss (.t 40) (.t 39))]) c_matrix_checkL1_1
abbrev c_matrix_check_5 : SC := .ret
abbrev c_matrix_check_4 : SC := .seq (.reg [o 4 (.mv (ki 0))]) c_matrix_check_5
abbrev c_matrix_check_3 : SC := .seq (.seq (.reg [o 37 (.fadr (.t 3) 1), o 38 (.ld (.t 37) 1 false), o 39 (.len (.t 38)), o 40 (.mv (ki 0))]) (.block 2 (.loop c_matrix_checkL1_0))) c_matrix_check_4
abbrev c_matrix_check_2 : SC := .seq (.seq (.reg [o 24 (.fadr (.t 3) 1), o 25 (.ld (.t 24) 1 false), o 26 (.len (.t 25)), o 27 (.mv (ki 0))]) (.block 0 (.loop c_matrix_checkL0_0))) c_matrix_check_3
abbrev c_matrix_check_1 : SC := .seq (.seq (.reg [o 10 (.fadr (.t 3) 0), o 11 (.ld (.t 10) 1 false), o 12 (.bin .lss (.t 11) (ki 0)), o 13 (.mv (.t 12)), og 13 false 0 14 (.fadr (.t 3) 0), og 13 false 0 15 (.ld (.t 14) 1 false), og 13 false 0 16 (.bin .gtr (.t 15) (ki 256)), o 17 (.pick (.t 13) (kb true) (.t 16)), o 18 (.mv (.t 17)), og 18 false 0 19 (.fadr (.t 3) 1), og 18 false 0 20 (.ld (.t 19) 1 false), og 18 false 0 21 (.len (.t 20)), og 18 false 0 22 (.bin .gtr (.t 21) (ki 256)), o 23 (.pick (.t 18) (kb true) (.t 22))]) (.cond (.t 23) (.seq (.reg [o 4 (.mv (ki 3))]) .ret) .skip)) c_matrix_check_2
abbrev c_matrix_check_0 : SC := .seq (.reg [o 3 (.box (.t 1)), o 4 (.mv (ki 0))]) c_matrix_check_1
theorem cf_matrix_check : cfun Go.Proofs.Try.prog md n_matrix_check = some ⟨2, 51, c_matrix_check_0.erase, [.t 4]⟩ := by kernel_rfl
-- matrix_entries
abbrev c_matrix_entriesL0_3 : SC := (.reg [o 17 (.bin .add (.t 9) (ki 1)), o 9 (.mv (.t 17))])
abbrev c_matrix_entriesL0_2 : SC := .seq (.block 1 (.seq (.reg [o 11 (.iadr (.t 7) (.t 9) 1), o 12 (.ld (.t 11) 1 false), o 6 (.mv (.t 12))]) (.seq (.reg [o 13 (.mv (.t 0)), o 14 (.mv (.t 6)), o 15 (.call (.f n_field_GF_Is) [.t 13, .t 14]), o 16 (.not (.t 15))]) (.cond (.t 16) (.seq (.reg [o 4 (.mv (ki 2))]) .ret) .skip)))) c_matrix_entriesL0_3
abbrev c_matrix_entriesL0_1 : SC := .seq (.cond (.t 10) .skip (.exit 0)) c_matrix_entriesL0_2
abbrev c_matrix_entriesL0_0 : SC := .seq (.reg [o 10 (.bin .lss (.t 9) (.t 8))]) c_matrix_entriesL0_1
abbrev c_matrix_entries_3 : SC := .ret
abbrev c_matrix_entries_2 : SC := .seq (.reg [o 4 (.mv (ki 0))]) c_matrix_entries_3
abbrev c_matrix_entries_1 : SC := .seq (.seq (.reg [o 7 (.mv (.t 1)), o 8 (.len (.t 7)), o 9 (.mv (ki 0))]) (.block 0 (.loop c_matrix_entriesL0_0))) c_matrix_entries_2
abbrev c_matrix_entries_0 : SC := .seq (.reg [o 4 (.mv (ki 0))]) c_matrix_entries_1
theorem cf_matrix_entries : cfun Go.Proofs.Try.prog md n_matrix_entries = some ⟨2, 18, c_matrix_entries_0.erase, [.t 4]⟩ := by kernel_rfl
-- matrix_vec
abbrev c_matrix_vecL0_3 : SC := (.reg [o 31 (.bin .add (.t 16) (ki 1)), o 16 (.mv (.t 31))])
abbrev c_matrix_vecL0_2 : SC := .seq (.block 1 (.seq (.reg [o 18 (.mv (.t 16)), o 19 (.iadr (.t 14) (.t 16) 1), o 20 (.ld (.t 19) 1 false), o 10 (.mv (.t 18)), o 11 (.mv (.t 20))]) (.seq (.reg [o 21 (.mv (.t 11)), o 22 (.bin .neq (.t 21) (ki 0))]) (.cond (.t 22) (.reg [o 23 (.mv (.t 0)), o 24 (.mv (.t 9)), o 25 (.mv (.t 11)), o 26 (.mv (.t 2)), o 27 (.mv (.t 10)), o 28 (.iadr (.t 26) (.t 27) 1), o 29 (.ld (.t 28) 1 false), o 30 (.call (.f n_matrix_add) [.t 23, .t 24, .t 25, .t 29])]) .skip)))) c_matrix_vecL0_3
abbrev c_matrix_vecL0_1 : SC := .seq (.cond (.t 17) .skip (.exit 0)) c_matrix_vecL0_2
abbrev c_matrix_vecL0_0 : SC := .seq (.reg [o 17 (.bin .lss (.t 16) (.t 15))]) c_matrix_vecL0_1
abbrev c_matrix_vec_4 : SC := .ret
abbrev c_matrix_vec_3 : SC := .seq (.reg [o 32 (.mv (.t 9)), o 8 (.mv (.t 32))]) c_matrix_vec_4
abbrev c_matrix_vec_2 : SC := .seq (.seq (.reg [o 14 (.mv (.t 1)), o 15 (.len (.t 14)), o 16 (.mv (ki 0))]) (.block 0 (.loop c_matrix_vecL0_0))) c_matrix_vec_3
abbrev c_matrix_vec_1 : SC := .seq (.reg [o 12 (.mv (.t 3)), o 13 (.mks (.t 12) 1 [I 0]), o 9 (.mv (.t 13))]) c_matrix_vec_2
abbrev c_matrix_vec_0 : SC := .seq (.reg [o 8 (.mv (.k .nils))]) c_matrix_vec_1
theorem cf_matrix_vec : cfun Go.Proofs.Try.prog md n_matrix_vec = some ⟨4, 33, c_matrix_vec_0.erase, [.t 8]⟩ := by kernel_rfl
-- matrix_add
abbrev c_matrix_addL0_3 : SC := (.reg [o 32 (.bin .add (.t 12) (ki 1)), o 12 (.mv (.t 32))])
abbrev c_matrix_addL0_2 : SC := .seq (.block 1 (.seq (.reg [o 14 (.mv (.t 12)), o 15 (.iadr (.t 10) (.t 12) 1), o 16 (.ld (.t 15) 1 false), o 8 (.mv (.t 14)), o 9 (.mv (.t 16))]) (.seq (.reg [o 17 (.mv (.t 9)), o 18 (.bin .neq (.t 17) (ki 0))]) (.cond (.t 18) (.reg [o 19 (.mv (.t 1)), o 20 (.mv (.t 8)), o 21 (.mv (.t 0)), o 22 (.mv (.t 1)), o 23 (.mv (.t 8)), o 24 (.iadr (.t 22) (.t 23) 1), o 26 (.mv (.t 0)), o 27 (.mv (.t 2)), o 28 (.mv (.t 9)), o 25 (.ld (.t 24) 1 false), om 1 29 (.call (.f n_field_GF_Mul) [.t 26, .t 27, .t 28]), om 1 30 (.call (.f n_field_GF_Add) [.t 21, .t 25, .t 29]), o 31 (.iadr (.t 19) (.t 20) 1), os (.st (.t 31) (.t 30) 1)]) .skip)))) c_matrix_addL0_3
abbrev c_matrix_addL0_1 : SC := .seq (.cond (.t 13) .skip (.exit 0)) c_matrix_addL0_2
abbrev c_matrix_addL0_0 : SC := .seq (.reg [o 13 (.bin .lss (.t 12) (.t 11))]) c_matrix_addL0_1
abbrev c_matrix_add_1 : SC := (.block 0 (.loop c_matrix_addL0_0))
abbrev c_matrix_add_0 : SC := .seq (.reg [o 10 (.mv (.t 3)), o 11 (.len (.t 10)), o 12 (.mv (ki 0))]) c_matrix_add_1
theorem cf_matrix_add : cfun Go.Proofs.Try.prog md n_matrix_add = some ⟨4, 33, c_matrix_add_0.erase, []⟩ := by kernel_rfl
-- ref09_Combine
abbrev c_ref09_CombineL0_2 : SC := (.reg [o 23 (.mv (.t 10)), o 24 (.bin .add (.t 23) (ki 1)), o 10 (.mv (.t 24))])
abbrev c_ref09_CombineL0_1 : SC := .seq (.block 1 (.seq (.reg [o 25 (.mv (.t 1)), o 26 (.mv (.t 10)), o 27 (.iadr (.t 25) (.t 26) 1), o 28 (.ld (.t 27) 1 false), o 29 (.bin .neq (.t 28) (ki 0))]) (.cond (.t 29) (.reg [o 31 (.mv (.t 9)), o 32 (.mv (.t 1)), o 33 (.mv (.t 10)), o 34 (.iadr (.t 32) (.t 33) 1), o 36 (.mv (.t 2)), o 37 (.mv (.t 10)), o 38 (.iadr (.t 36) (.t 37) 1), o 30 (.ld (.t 4) 3 true), o 35 (.ld (.t 34) 1 false), o 39 (.ld (.t 38) 1 false), om 1 40 (.call (.f n_ref09_AddTo) [.t 30, .t 31, .t 35, .t 39]), o 9 (.mv (.t 40))]) .skip))) c_ref09_CombineL0_2
abbrev c_ref09_CombineL0_0 : SC := .seq (.seq (.reg [o 13 (.mv (.t 10)), o 14 (.mv (.t 2)), o 15 (.len (.t 14)), o 16 (.bin .lss (.t 13) (.t 15)), o 17 (.mv (.t 16)), og 17 true 0 18 (.mv (.t 10)), og 17 true 0 19 (.mv (.t 1)), og 17 true 0 20 (.len (.t 19)), og 17 true 0 21 (.bin .lss (.t 18) (.t 20)), o 22 (.pick (.t 17) (.t 21) (kb false))]) (.cond (.t 22) .skip (.exit 0))) c_ref09_CombineL0_1
abbrev c_ref09_Combine_4 : SC := .ret
abbrev c_ref09_Combine_3 : SC := .seq (.reg [o 41 (.mv (.t 9)), o 8 (.mv (.t 41))]) c_ref09_Combine_4
abbrev c_ref09_Combine_2 : SC := .seq (.seq (.reg [o 10 (.mv (ki 0))]) (.block 0 (.loop c_ref09_CombineL0_0))) c_ref09_Combine_3
abbrev c_ref09_Combine_1 : SC := .seq (.reg [o 11 (.mv (.t 3)), o 12 (.mks (.t 11) 1 [I 0]), o 9 (.mv (.t 12))]) c_ref09_Combine_2
abbrev c_ref09_Combine_0 : SC := .seq (.reg [o 4 (.box (.t 0)), o 8 (.mv (.k .nils))]) c_ref09_Combine_1
theorem cf_ref09_Combine : cfun Go.Proofs.Try.prog md n_ref09_Combine = some ⟨4, 42, c_ref09_Combine_0.erase, [.t 8]⟩ := by kernel_rfl
-- ref09_AddTo
abbrev c_ref09_AddToL0_2 : SC := (.reg [o 18 (.mv (.t 10)), o 19 (.bin .add (.t 18) (ki 1)), o 10 (.mv (.t 19))])
abbrev c_ref09_AddToL0_1 : SC := .seq (.block 1 (.seq (.reg [o 20 (.mv (.t 9)), o 21 (.mv (.t 10)), o 22 (.mv (.t 1)), o 23 (.mv (.t 10)), o 24 (.iadr (.t 22) (.t 23) 1), o 25 (.ld (.t 24) 1 false), o 26 (.iadr (.t 20) (.t 21) 1), os (.st (.t 26) (.t 25) 1)]) (.seq (.reg [o 27 (.mv (.t 3)), o 28 (.mv (.t 10)), o 29 (.iadr (.t 27) (.t 28) 1), o 30 (.ld (.t 29) 1 false), o 31 (.bin .neq (.t 30) (ki 0))]) (.cond (.t 31) (.reg [o 32 (.mv (.t 9)), o 33 (.mv (.t 10)), o 35 (.mv (.t 1)), o 36 (.mv (.t 10)), o 37 (.iadr (.t 35) (.t 36) 1), o 40 (.mv (.t 2)), o 41 (.mv (.t 3)), o 42 (.mv (.t 10)), o 43 (.iadr (.t 41) (.t 42) 1), o 34 (.ld (.t 4) 3 true), o 38 (.ld (.t 37) 1 false), o 39 (.ld (.t 4) 3 true), o 44 (.ld (.t 43) 1 false), om 1 45 (.call (.f n_ref04_Mul) [.t 39, .t 40, .t 44]), om 1 46 (.call (.f n_ref04_Add) [.t 34, .t 38, .t 45]), o 47 (.iadr (.t 32) (.t 33) 1), os (.st (.t 47) (.t 46) 1)]) .skip)))) c_ref09_AddToL0_2
abbrev c_ref09_AddToL0_0 : SC := .seq (.seq (.reg [o 14 (.mv (.t 10)), o 15 (.mv (.t 1)), o 16 (.len (.t 15)), o 17 (.bin .lss (.t 14) (.t 16))]) (.cond (.t 17) .skip (.exit 0))) c_ref09_AddToL0_1
abbrev c_ref09_AddTo_4 : SC := .ret
abbrev c_ref09_AddTo_3 : SC := .seq (.reg [o 48 (.mv (.t 9)), o 8 (.mv (.t 48))]) c_ref09_AddTo_4
abbrev c_ref09_AddTo_2 : SC := .seq (.seq (.reg [o 10 (.mv (ki 0))]) (.block 0 (.loop c_ref09_AddToL0_0))) c_ref09_AddTo_3
abbrev c_ref09_AddTo_1 : SC := .seq (.reg [o 11 (.mv (.t 1)), o 12 (.len (.t 11)), o 13 (.mks (.t 12) 1 [I 0]), o 9 (.mv (.t 13))]) c_ref09_AddTo_2
abbrev c_ref09_AddTo_0 : SC := .seq (.reg [o 4 (.box (.t 0)), o 8 (.mv (.k .nils))]) c_ref09_AddTo_1
theorem cf_ref09_AddTo : cfun Go.Proofs.Try.prog md n_ref09_AddTo = some ⟨4, 49, c_ref09_AddTo_0.erase, [.t 8]⟩ := by kernel_rfl
-- ref09_SameRows
abbrev c_ref09_SameRowsL0_2 : SC := (.reg [o 15 (.mv (.t 5)), o 16 (.bin .add (.t 15) (ki 1)), o 5 (.mv (.t 16))])
abbrev c_ref09_SameRowsL0_1 : SC := .seq (.block 1 (.seq (.reg [o 17 (.mv (.t 0)), o 18 (.mv (.t 5)), o 19 (.iadr (.t 17) (.t 18) 1), o 21 (.mv (.t 1)), o 22 (.mv (.t 5)), o 23 (.iadr (.t 21) (.t 22) 1), o 20 (.ld (.t 19) 1 false), o 24 (.ld (.t 23) 1 false), om 1 25 (.call (.f n_ref09_SameInts) [.t 20, .t 24]), o 26 (.not (.t 25))]) (.cond (.t 26) (.seq (.reg [o 4 (.mv (kb false))]) .ret) .skip))) c_ref09_SameRowsL0_2
abbrev c_ref09_SameRowsL0_0 : SC := .seq (.seq (.reg [o 11 (.mv (.t 5)), o 12 (.mv (.t 0)), o 13 (.len (.t 12)), o 14 (.bin .lss (.t 11) (.t 13))]) (.cond (.t 14) .skip (.exit 0))) c_ref09_SameRowsL0_1
abbrev c_ref09_SameRows_4 : SC := .ret
abbrev c_ref09_SameRows_3 : SC := .seq (.reg [o 4 (.mv (kb true))]) c_ref09_SameRows_4
abbrev c_ref09_SameRows_2 : SC := .seq (.seq (.reg [o 5 (.mv (ki 0))]) (.block 0 (.loop c_ref09_SameRowsL0_0))) c_ref09_SameRows_3
abbrev c_ref09_SameRows_1 : SC := .seq (.seq (.reg [o 6 (.mv (.t 0)), o 7 (.len (.t 6)), o 8 (.mv (.t 1)), o 9 (.len (.t 8)), o 10 (.bin .neq (.t 7) (.t 9))]) (.cond (.t 10) (.seq (.reg [o 4 (.mv (kb false))]) .ret) .skip)) c_ref09_SameRows_2
abbrev c_ref09_SameRows_0 : SC := .seq (.reg [o 4 (.mv (kb false))]) c_ref09_SameRows_1
theorem cf_ref09_SameRows : cfun Go.Proofs.Try.prog md n_ref09_SameRows = some ⟨2, 27, c_ref09_SameRows_0.erase, [.t 4]⟩ := by kernel_rfl
-- ref09_SameInts
abbrev c_ref09_SameIntsL0_2 : SC := (.reg [o 15 (.mv (.t 5)), o 16 (.bin .add (.t 15) (ki 1)), o 5 (.mv (.t 16))])
abbrev c_ref09_SameIntsL0_1 : SC := .seq (.block 1 (.seq (.reg [o 17 (.mv (.t 0)), o 18 (.mv (.t 5)), o 19 (.iadr (.t 17) (.t 18) 1), o 21 (.mv (.t 1)), o 22 (.mv (.t 5)), o 23 (.iadr (.t 21) (.t 22) 1), o 20 (.ld (.t 19) 1 false), o 24 (.ld (.t 23) 1 false), o 25 (.bin .neq (.t 20) (.t 24))]) (.cond (.t 25) (.seq (.reg [o 4 (.mv (kb false))]) .ret) .skip))) c_ref09_SameIntsL0_2
abbrev c_ref09_SameIntsL0_0 : SC := .seq (.seq (.reg [o 11 (.mv (.t 5)), o 12 (.mv (.t 0)), o 13 (.len (.t 12)), o 14 (.bin .lss (.t 11) (.t 13))]) (.cond (.t 14) .skip (.exit 0))) c_ref09_SameIntsL0_1
abbrev c_ref09_SameInts_4 : SC := .ret
abbrev c_ref09_SameInts_3 : SC := .seq (.reg [o 4 (.mv (kb true))]) c_ref09_SameInts_4
abbrev c_ref09_SameInts_2 : SC := .seq (.seq (.reg [o 5 (.mv (ki 0))]) (.block 0 (.loop c_ref09_SameIntsL0_0))) c_ref09_SameInts_3
abbrev c_ref09_SameInts_1 : SC := .seq (.seq (.reg [o 6 (.mv (.t 0)), o 7 (.len (.t 6)), o 8 (.mv (.t 1)), o 9 (.len (.t 8)), o 10 (.bin .neq (.t 7) (.t 9))]) (.cond (.t 10) (.seq (.reg [o 4 (.mv (kb false))]) .ret) .skip)) c_ref09_SameInts_2
abbrev c_ref09_SameInts_0 : SC := .seq (.reg [o 4 (.mv (kb false))]) c_ref09_SameInts_1
theorem cf_ref09_SameInts : cfun Go.Proofs.Try.prog md n_ref09_SameInts = some ⟨2, 26, c_ref09_SameInts_0.erase, [.t 4]⟩ := by kernel_rfl
end Go.AM.Ytmihmgnjnedfcab
end

section
/- Contracts of functions: adding a multiple of a row, combinations of rows. -/
set_option maxRecDepth 100000
set_option linter.unusedSimpArgs false
set_option linter.unusedVariables false
namespace Go.AM.Ytmihmgnjnedfcab
open Go Go.AM
attribute [local simp ↓] awp_seq awp_reg awp_skip awp_cond' awp_block awp_exit awp_ret awp_fz thenW_normal thenW_exit thenW_ret inBlk_normal inBlk_exit inBlk_ret aops_cons' contA_ap aops_nil e_mv e_guard' e_pick' e_ld' e_app e_cpy e_st' e_call callW_f updO_some updO_none e_bin' e_isnil' e_fadr' e_iadr' e_iarr' e_len' e_build' e_mkf' e_nc' e_not' e_neg' e_cvt' e_slc' e_fld' e_ext' e_min' e_eqs' e_new e_box e_mkl e_mks
attribute [local simp] upd_apply ev_t ev_k ev_f binA_add binA_sub binA_mul binA_quo binA_rem binA_eql binA_neq binA_lss binA_leq binA_gtr binA_geq det mem frame0 keeps_nil iadrA_sl fadrA_ref fadrA_fp ldv_agg ldv_one cells_base hset_same hset_hset lenA_fs lenA_sl lenA_nils zeros_ints ints_length one_base one_nilp one_nils one_ref one_sl one_fp one_fs one_fn gl_one resA resOf bound natOf afill splice AV.cells cells_agg bindR_some condR_true condR_false guardR_tup guardR_true guardR_true' guardR_false guardR_false' allocW_some pickA_true pickA_false
open Go.FM

/-- A slice of whole numbers that can be read: frozen, or a live block. -/
def RS (h : Hp) (v : AV) (l : List Int) : Prop := IL v l ∨ ∃ b, v = .sl b 0 l.length 1 ∧ h b = some (ints l)
theorem RS.of {h : Hp} {v : AV} {l : List Int} (hv : IL v l) : RS h v l := .inl hv
theorem RS.len {h : Hp} {v : AV} {l : List Int} (hv : RS h v l) : lenA v = some l.length := by
  rcases hv with hv | ⟨b, rfl, _⟩
  · exact hv.len
  · rfl
theorem RS.one {h : Hp} {v : AV} {l : List Int} (hv : RS h v l) : AM.one v = true := by
  rcases hv with hv | ⟨b, rfl, _⟩
  · exact hv.one
  · rfl
theorem RS.mono {h h' : Hp} {v : AV} {l : List Int} (hv : RS h v l) (k : Kp h h') : RS h' v l := by
  rcases hv with hv | ⟨b, h1, h2⟩
  · exact .inl hv
  · exact .inr ⟨b, h1, k b _ h2⟩
/-- Another block is written. -/
theorem RS.put {h : Hp} {v : AV} {l : List Int} (hv : RS h v l) {b : Nat} {n : Nat} (hb : v ≠ .sl b 0 n 1 ∨ n ≠ l.length) (hn : n = l.length) (xs : List AV) : RS (hset h b xs) v l := by
  rcases hv with hv | ⟨c, h1, h2⟩
  · exact .inl hv
  · refine .inr ⟨c, h1, ?_⟩
    have : c ≠ b := fun hc => by
      subst hc hn
      rcases hb with hb | hb
      · exact hb h1
      · exact hb rfl
    rw [hset_ne _ _ this]; exact h2
theorem RS.rd {h : Hp} {v : AV} {l : List Int} (hv : RS h v l) {i : Nat} (hi : i < l.length) : ∃ x, iadrA v (I i) 1 = some x ∧ cellsAt h x 1 = some [I (l.getD i 0)] := by
  rcases hv with hv | ⟨b, rfl, h2⟩
  · exact ⟨_, hv.iadr (i := i) ⟨by omega, by omega⟩, by simp only [Int.toNat_natCast]; exact ld_ints hi⟩
  · refine ⟨.ref b i, ?_, ld_ints_at h2 hi⟩
    rw [iadrA_sl, if_pos ⟨by omega, by omega⟩]; simp

theorem set_getD {l : List Int} {k : Nat} {x : Int} (h : l.getD k 0 = x) : l.set k x = l := by
  refine List.ext_getElem (by simp) fun i h1 h2 => ?_
  rw [List.getElem_set]
  split
  · rename_i hi
    subst hi
    rw [← h]
    simp only [List.getD, List.getElem?_eq_getElem h2, Option.getD_some]
  · rfl

theorem hset_id {h : Hp} {b : Nat} {cs : List AV} (hb : h b = some cs) : hset h b cs = h := by
  funext x
  simp only [hset]
  split
  · rename_i hx; rw [hx, hb]
  · rfl

/-- v plus a times u. -/
def addV (D : Ds) (v : List Int) (a : Int) (u : List Int) : List Int := (List.range v.length).map fun i => if u.getD i 0 ≠ 0 then D.add (v.getD i 0) (D.mul a (u.getD i 0)) else v.getD i 0
theorem addV_len (D : Ds) (v : List Int) (a : Int) (u : List Int) : (addV D v a u).length = v.length := by simp [addV]
theorem addV_get {D : Ds} {v : List Int} {a : Int} {u : List Int} {i : Nat} (hi : i < v.length) : (addV D v a u).getD i 0 = if u.getD i 0 ≠ 0 then D.add (v.getD i 0) (D.mul a (u.getD i 0)) else v.getD i 0 := by
  unfold addV
  simp only [List.getD, List.getElem?_map, List.getElem?_range hi, Option.map_some, Option.getD_some]

theorem s_add {D : Ds} (r : Fd D) {h : Hp} {b : Nat} {v : List Int} (hb : h b = some (ints v)) (a : Int) {u : AV} {ul : List Int} (hu : RS h u ul) (hul : ul.length = v.length) (hne : u ≠ .sl b 0 v.length 1) (hvl : v.length < 4611686018427387904) :
    Spec prog n_matrix_add [.fp (gfC D), .sl b 0 v.length 1, I a, u] h (fun r h' => r = .tup [] ∧ h' = hset h b (ints (addV D v a ul))) := by
  refine spec_of cf_matrix_add rfl ?_
  have hN := addV_len D v a ul
  have hNg := fun i hi => addV_get (D := D) (v := v) (a := a) (u := ul) (i := i) hi
  generalize addV D v a ul = N at *
  simp [hu.len]
  refine awp_for ul.length (fun k fr' h' => h' = hset h b (ints (N.take k ++ v.drop k)) ∧ fr' 12 = I k) ⟨by simp; exact (hset_id hb).symm, by simp⟩ ?_
  intro k fr' h' hkn hk ⟨hh, k12⟩
  have k0 := hk 0 (by decide)
  have k1 := hk 1 (by decide)
  have k2 := hk 2 (by decide)
  have k10 := hk 10 (by decide)
  have k11 := hk 11 (by decide)
  simp at k0 k1 k2 k10 k11
  clear hk
  have hu2 : RS h' u ul := hh ▸ hu.put (n := v.length) (.inl hne) hul.symm _
  by_cases hlt : k < ul.length
  · obtain ⟨x, hx1, hx2⟩ := hu2.rd hlt
    have hb2 : h' b = some (ints (N.take k ++ v.drop k)) := by rw [hh, hset_same]
    have hldo := ld_ints_at hb2 (k := k) (by rw [tk_len (by omega) (by omega)]; omega)
    rw [tk_get (by omega), if_neg (by omega)] at hldo
    have hst := fun R => sr_ints (R := R) (v := N.getD k 0) hb2 (k := k) (by rw [tk_len (by omega) (by omega)]; omega)
    rw [tk_set (by omega) (by omega)] at hst
    have hts := tk_set (a := N) (b := v) (j := k) (by omega) (by omega)
    have hnk := hNg k (by omega)
    have u1 : IntKind.i64.wrap ((k : Int) + 1) = k + 1 := w64 _ (by omega)
    have hkv : k < v.length := by omega
    have hkN : (N.take k ++ v.drop k).getD k 0 = v.getD k 0 := by rw [tk_get (by omega), if_neg (by omega)]
    generalize ul.getD k 0 = y at *
    generalize v.getD k 0 = z at *
    by_cases hy : y = 0
    · rw [if_neg (by simpa using hy)] at hnk
      have hsame : N.take (k + 1) ++ v.drop (k + 1) = N.take k ++ v.drop k := by
        rw [← hts, hnk]
        exact set_getD hkN
      rw [hsame]
      generalize N.getD k 0 = nk at *
      simp [k10, k11, k12, hlt, hx1, hx2, hy, u1]
      exact hh
    · rw [if_pos hy] at hnk
      rw [hnk] at hst
      generalize N.getD k 0 = nk at *
      simp [k0, k1, k2, k10, k11, k12, hlt, hx1, hx2, hy, hkv, hldo]
      refine (s_Mul r a y).call ?_
      simp
      refine (s_Add r z _).call ?_
      simp [k12, u1, hst, hlt, hkv]
      rw [hh, hset_hset]
  · have : k = ul.length := by omega
    subst this
    rw [List.take_of_length_le (by omega), List.drop_eq_nil_of_le (by omega), List.append_nil] at hh
    simp [k11, k12]
    exact hh
end Go.AM.Ytmihmgnjnedfcab
end

section
/- Contracts of functions: combinations of rows, equal rows. -/
set_option maxRecDepth 100000
set_option linter.unusedSimpArgs false
set_option linter.unusedVariables false
namespace Go.AM.Ytmihmgnjnedfcab
open Go Go.AM
attribute [local simp ↓] awp_seq awp_reg awp_skip awp_cond' awp_block awp_exit awp_ret awp_fz thenW_normal thenW_exit thenW_ret inBlk_normal inBlk_exit inBlk_ret aops_cons' contA_ap aops_nil e_mv e_guard' e_pick' e_ld' e_app e_cpy e_st' e_call callW_f updO_some updO_none e_bin' e_isnil' e_fadr' e_iadr' e_iarr' e_len' e_build' e_mkf' e_nc' e_not' e_neg' e_cvt' e_slc' e_fld' e_ext' e_min' e_eqs' e_new e_box e_mkl e_mks
attribute [local simp] upd_apply ev_t ev_k ev_f binA_add binA_sub binA_mul binA_quo binA_rem binA_eql binA_neq binA_lss binA_leq binA_gtr binA_geq det mem frame0 keeps_nil iadrA_sl fadrA_ref fadrA_fp ldv_agg ldv_one cells_base hset_same hset_hset lenA_fs lenA_sl lenA_nils zeros_ints ints_length one_base one_nilp one_nils one_ref one_sl one_fp one_fs one_fn gl_one resA resOf bound natOf afill splice AV.cells cells_agg bindR_some condR_true condR_false guardR_tup guardR_true guardR_true' guardR_false guardR_false' allocW_some pickA_true pickA_false
open Go.FM

/-- A frozen matrix. -/
def ML (v : AV) (L : List (List Int)) : Prop := ∃ cells, SV 1 v L.length cells ∧ ∀ i, i < L.length → IL (cells.getD i .nils) (L.getD i [])
theorem ML.len {v : AV} {L : List (List Int)} (hv : ML v L) : lenA v = some L.length := by
  obtain ⟨c, h1, _⟩ := hv; exact h1.len
theorem ML.one {v : AV} {L : List (List Int)} (hv : ML v L) : AM.one v = true := by
  obtain ⟨c, h1, _⟩ := hv; exact h1.one
theorem ML.rd {v : AV} {L : List (List Int)} (hv : ML v L) {i : Nat} (hi : i < L.length) : ∃ x y, iadrA v (I i) 1 = some x ∧ (∀ h, cellsAt h x 1 = some [y]) ∧ IL y (L.getD i []) := by
  obtain ⟨c, h1, h2⟩ := hv
  have hc := h1.1
  refine ⟨.fp (c.drop i), c.getD i .nils, ?_, fun h => ?_, h2 i hi⟩
  · have := h1.iadr (i := i) ⟨by omega, by omega⟩
    simpa using this
  · exact cellsAt_fp1 (by omega)

/-- A value in the memory h, which stays as it is. -/
def PureH (P : Program) (f : FuncId) (avs : List AV) (h : Hp) (r : AV) : Prop := Spec P f avs h (fun v h' => v = r ∧ h' = h)
theorem PureH.call {P : Program} {h : Hp} {m : Nat} {i : FuncId} {avs : List AV} {r : AV} (p : PureH P i avs h r) {R : AV → Hp → Prop} (hR : R r h) : CallP P m i avs h R := by
  unfold CallP
  split
  · exact p.mono fun v h' ⟨h1, h2⟩ => by subst h1 h2; exact hR
  · exact ⟨r, p, hR⟩
  · exact p.mono fun v h' ⟨h1, h2⟩ => by subst h1 h2; exact ⟨fun b cs hb => hb, hR⟩
theorem pureH_of {P : Program} {md : FuncId → Nat} {f : FuncId} {n N : Nat} {sc : SC} {res : List SR} (hc : cfun P md f = some ⟨n, N, sc.erase, res⟩) {avs : List AV} (hn : avs.length = n) {r : AV} {h : Hp}
    (hK : awp P sc (fun e fr' h' => (e = .normal ∨ e = .ret) ∧ ∃ v, resA fr' h' res = some v ∧ RetP h r v h') (frame0 avs) h) : PureH P f avs h r :=
  Spec.fz ((spec_of hc hn hK).mono fun v h' ⟨v2, h1, h2, h3⟩ => ⟨h, v2, h1, h2, h3, rfl⟩)

/-- The combination of the first k rows. -/
def combK (D : Ds) (x : List Int) (L : List (List Int)) (n : Nat) : Nat → List Int
  | 0 => List.replicate n 0
  | k + 1 => if x.getD k 0 ≠ 0 then addV D (combK D x L n k) (x.getD k 0) (L.getD k []) else combK D x L n k
theorem combK_len (D : Ds) (x : List Int) (L : List (List Int)) (n : Nat) : ∀ k, (combK D x L n k).length = n
  | 0 => by simp [combK]
  | k + 1 => by
    simp only [combK]
    split
    · rw [addV_len, combK_len D x L n k]
    · exact combK_len D x L n k

theorem s_vec {D : Ds} (r : Fd D) {xv rv : AV} {x : List Int} {L : List (List Int)} (hx : IL xv x) (hr : ML rv L) (hxl : x.length < 4611686018427387904) (hxL : x.length ≤ L.length) {n : Nat} (hn : n ≤ 4294967296) (hrow : ∀ i, i < L.length → (L.getD i []).length = n) :
    Pure prog n_matrix_vec [.fp (gfC D), xv, rv, I n] (.fs n (ints (combK D x L n x.length))) := by
  refine pure_of cf_matrix_vec rfl fun h => ?_
  have hn' : (n : Int) ≤ 4294967296 := by omega
  simp [hn', hx.len]
  intro b9 hb9
  refine awp_for x.length (fun k fr' h' => Kp h h' ∧ h' b9 = some (ints (combK D x L n k)) ∧ fr' 16 = I k) ⟨(Kp.refl h).new hb9 _, by simp [hset_same, combK], by simp⟩ ?_
  intro k fr' h' hkn hk ⟨hkp, hb, k16⟩
  have k0 := hk 0 (by decide)
  have k2 := hk 2 (by decide)
  have k9 := hk 9 (by decide)
  have k14 := hk 14 (by decide)
  have k15 := hk 15 (by decide)
  simp at k0 k2 k9 k14 k15
  clear hk
  by_cases hlt : k < x.length
  · have hia := hx.iadr (i := k) ⟨by omega, by omega⟩
    simp at hia
    have hld := fun h' => ld_ints (h := h') hlt
    obtain ⟨pa, row, hpa, hpl, hrl⟩ := hr.rd (i := k) (by omega)
    have hcl := combK_len D x L n k
    have hrk := hrow k (by omega)
    have hs : combK D x L n (k + 1) = if x.getD k 0 ≠ 0 then addV D (combK D x L n k) (x.getD k 0) (L.getD k []) else combK D x L n k := rfl
    rw [hs]
    clear hs
    generalize combK D x L n k = cur at *
    have u1 : IntKind.i64.wrap ((k : Int) + 1) = k + 1 := w64 _ (by omega)
    generalize x.getD k 0 = y at *
    by_cases hy : y = 0
    · simp [k14, k15, k16, hlt, hia, hld, hy, u1]
      exact ⟨hkp, hb⟩
    · have hadd := s_add r hb y (u := row) (ul := L.getD k []) (.of hrl) (by omega) (fun hc => by
        rcases hrl.2 with ⟨h1, _⟩ | h1 <;> rw [h1] at hc <;> cases hc) (by omega)
      rw [hcl] at hadd
      simp [k0, k2, k9, k14, k15, k16, hlt, hia, hld, hy, hpa, hpl]
      refine call0 hadd fun v h2 ⟨hv, hh⟩ => ?_
      subst hv hh
      simp [k16, u1, hlt]
      exact hkp.set hb9 _
  · have : k = x.length := by omega
    subst this
    simp [k9, k15, k16]
    exact ret_blk hb hb9 hkp (by rw [ints_length, combK_len]; omega) rfl

theorem RS.rdk {h : Hp} {v : AV} {l : List Int} (hv : RS h v l) {i : Nat} (hi : i < l.length) : ∃ x, iadrA v (I i) 1 = some x ∧ ∀ h', Kp h h' → cellsAt h' x 1 = some [I (l.getD i 0)] := by
  rcases hv with hv | ⟨b, rfl, h2⟩
  · exact ⟨_, hv.iadr (i := i) ⟨by omega, by omega⟩, fun h' _ => by simp only [Int.toNat_natCast]; exact ld_ints hi⟩
  · refine ⟨.ref b i, ?_, fun h' k => ld_ints_at (k b _ h2) hi⟩
    rw [iadrA_sl, if_pos ⟨by omega, by omega⟩]; simp

theorem s_AddTo {D : Ds} (r : Fd D) {mv : AV} (hmv : IL mv D.mo) {h : Hp} {v u : AV} {vl ul : List Int} (hv : RS h v vl) (hu : RS h u ul) (hul : vl.length ≤ ul.length) (hvl : vl.length ≤ 4294967296) (a : Int) :
    PureH prog n_ref09_AddTo [.agg [I D.p, I D.m, mv], v, I a, u] h (.fs vl.length (ints (addV D vl a ul))) := by
  refine pureH_of cf_ref09_AddTo rfl ?_
  have hone := hmv.one
  have hvl' : (vl.length : Int) ≤ 4294967296 := by omega
  have hN := addV_len D vl a ul
  have hNg := fun i hi => addV_get (D := D) (v := vl) (a := a) (u := ul) (i := i) hi
  generalize addV D vl a ul = N at *
  simp [hone]
  intro b4 hb4
  obtain ⟨l0, l1, l2, l3⟩ := ld3_at (hset_same h b4 [I D.p, I D.m, mv])
  have hkg : Kp h (hset h b4 [I D.p, I D.m, mv]) := (Kp.refl h).new hb4 _
  have hg4 : (hset h b4 [I D.p, I D.m, mv]) b4 = some [I D.p, I D.m, mv] := hset_same ..
  have hv2 := hv.mono hkg
  have hu2 := hu.mono hkg
  generalize hset h b4 [I D.p, I D.m, mv] = g at *
  simp [hv.len, hvl']
  intro b9 hb9
  refine awp_for vl.length (fun k fr' h' => Kp g h' ∧ h' b9 = some (ints (N.take k ++ (List.replicate vl.length 0).drop k)) ∧ fr' 10 = I k) ⟨(Kp.refl g).new hb9 _, by simp [hset_same], by simp⟩ ?_
  intro k fr' h' hkn hk ⟨hkp, hb, k10⟩
  have k1 := hk 1 (by decide)
  have k2 := hk 2 (by decide)
  have k3 := hk 3 (by decide)
  have k4 := hk 4 (by decide)
  have k9 := hk 9 (by decide)
  simp at k1 k2 k3 k4 k9
  clear hk
  have hzl : (List.replicate vl.length (0 : Int)).length = vl.length := by simp
  generalize List.replicate vl.length (0 : Int) = Z at *
  by_cases hlt : k < vl.length
  · obtain ⟨xv, hxv1, hxv2⟩ := hv2.rdk hlt
    obtain ⟨xu, hxu1, hxu2⟩ := hu2.rdk (show k < ul.length by omega)
    have hpl : (N.take k ++ Z.drop k).length = vl.length := by rw [tk_len (by omega) (by omega)]; omega
    have hst := fun R => sr_ints (R := R) (v := vl.getD k 0) hb (k := k) (by omega)
    have hk2 : Kp g (hset h' b9 (ints ((N.take k ++ Z.drop k).set k (vl.getD k 0)))) := hkp.set hb9 _
    have hb2 : (hset h' b9 (ints ((N.take k ++ Z.drop k).set k (vl.getD k 0)))) b9 = some (ints ((N.take k ++ Z.drop k).set k (vl.getD k 0))) := hset_same ..
    have hst2 := fun R => sr_ints (R := R) (v := N.getD k 0) hb2 (k := k) (by simp only [List.length_set]; omega)
    rw [List.set_set, hset_hset, tk_set (by omega) (by omega)] at hst2
    have hts := tk_set (a := N) (b := Z) (j := k) (by omega) (by omega)
    obtain ⟨_, _, _, m3⟩ := ld3_at (hk2 b4 _ hg4)
    have hnk := hNg k hlt
    have hr1 := hxv2 _ hkp
    have hr2 := hxv2 _ hk2
    have hr3 := hxu2 _ hk2
    have u1 : IntKind.i64.wrap ((k : Int) + 1) = k + 1 := w64 _ (by omega)
    generalize ul.getD k 0 = y at *
    generalize vl.getD k 0 = z at *
    by_cases hy : y = 0
    · rw [if_neg (by simpa using hy)] at hnk
      rw [hnk] at hts
      rw [hts] at hst hk2 hb2 hr2 hr3 m3
      simp [k1, k2, k3, k4, k9, k10, hv.len, hlt, hxv1, hxu1, hr1, hst, hr2, hr3, hy, u1]
      exact hk2
    · rw [if_pos hy] at hnk
      rw [hnk] at hst2
      have hk3 : Kp g (hset h' b9 (ints (N.take (k + 1) ++ Z.drop (k + 1)))) := hkp.set hb9 _
      generalize (N.take k ++ Z.drop k).set k z = mid at *
      simp [k1, k2, k3, k4, k9, k10, hv.len, hlt, hxv1, hxu1, hr1, hst, hr2, hr3, hy, m3]
      refine (s_refMul r.toRg hmv a y).call ?_
      simp
      refine (s_refAdd r.toRg hmv z _).call ?_
      simp [k10, u1, hst2, hlt]
      exact hk3
  · have : k = vl.length := by omega
    subst this
    simp [k1, k9, k10, hv.len]
    rw [List.take_of_length_le (by omega), List.drop_eq_nil_of_le (by omega), List.append_nil] at hb
    exact ret_blk hb (hkg.no hb9) (hkg.trans hkp) (by rw [ints_length]; omega) rfl

theorem s_Combine {D : Ds} (r : Fd D) {mv : AV} (hmv : IL mv D.mo) {xv rv : AV} {x : List Int} {L : List (List Int)} (hx : IL xv x) (hr : ML rv L) (hxl : x.length < 4611686018427387904) (hLl : L.length < 4611686018427387904) {n : Nat} (hn : n ≤ 4294967296) (hrow : ∀ i, i < L.length → n ≤ (L.getD i []).length) :
    Pure prog n_ref09_Combine [.agg [I D.p, I D.m, mv], xv, rv, I n] (.fs n (ints (combK D x L n (min L.length x.length)))) := by
  refine pure_of cf_ref09_Combine rfl fun h => ?_
  have hone := hmv.one
  have hn' : (n : Int) ≤ 4294967296 := by omega
  simp [hone]
  intro b4 hb4
  obtain ⟨l0, l1, l2, l3⟩ := ld3_at (hset_same h b4 [I D.p, I D.m, mv])
  have hkg : Kp h (hset h b4 [I D.p, I D.m, mv]) := (Kp.refl h).new hb4 _
  have hg4 : (hset h b4 [I D.p, I D.m, mv]) b4 = some [I D.p, I D.m, mv] := hset_same ..
  generalize hset h b4 [I D.p, I D.m, mv] = g at *
  simp [hn']
  intro b9 hb9
  generalize hmm : min L.length x.length = mm at *
  have hkg9 : Kp g (hset g b9 (ints (List.replicate n 0))) := (Kp.refl g).new hb9 _
  have hg9 : (hset g b9 (ints (List.replicate n 0))) b9 = some (ints (List.replicate n 0)) := hset_same ..
  generalize hset g b9 (ints (List.replicate n 0)) = g2 at *
  refine awp_for mm (fun k fr' h' => h' = g2 ∧ fr' 10 = I k ∧ (∃ v, fr' 9 = v ∧ ((v = .sl b9 0 n 1 ∧ combK D x L n k = List.replicate n 0) ∨ v = .fs n (ints (combK D x L n k))))) ⟨rfl, by simp, ⟨.sl b9 0 n 1, by simp, .inl ⟨rfl, rfl⟩⟩⟩ ?_
  intro k fr' h' hkn hk ⟨hh, k10, ⟨v, k9, hvv⟩⟩
  subst hh
  have k1 := hk 1 (by decide)
  have k2 := hk 2 (by decide)
  have k4 := hk 4 (by decide)
  simp at k1 k2 k4
  clear hk
  have hcl := combK_len D x L n k
  have hRS : RS h' v (combK D x L n k) := by
    rcases hvv with ⟨rfl, h2⟩ | rfl
    · rw [h2]; exact .inr ⟨b9, by simp, hg9⟩
    · refine .inl ?_
      have := IL.fs (combK D x L n k)
      rwa [hcl] at this
  by_cases hlt : k < mm
  · have c1 : k < L.length := by omega
    have c2 : k < x.length := by omega
    have hia := hx.iadr (i := k) ⟨by omega, by omega⟩
    simp at hia
    have hld := fun h' => ld_ints (h := h') c2
    obtain ⟨pa, row, hpa, hpl, hrl⟩ := hr.rd (i := k) c1
    have hrk := hrow k c1
    have hs : combK D x L n (k + 1) = if x.getD k 0 ≠ 0 then addV D (combK D x L n k) (x.getD k 0) (L.getD k []) else combK D x L n k := rfl
    rw [hs]
    clear hs
    generalize combK D x L n k = cur at *
    generalize L.getD k [] = rowl at *
    obtain ⟨_, _, _, m3⟩ := ld3_at (hkg9 b4 _ hg4)
    have u1 : IntKind.i64.wrap ((k : Int) + 1) = k + 1 := w64 _ (by omega)
    generalize x.getD k 0 = y at *
    by_cases hy : y = 0
    · simp [k1, k2, k10, k9, hr.len, hx.len, c1, c2, hia, hld, hy, u1, hlt]
      exact hvv
    · have hat := s_AddTo r hmv hRS (.of hrl) (by omega) (by omega) y
      rw [hcl] at hat
      simp [k1, k2, k4, k9, k10, hr.len, hx.len, c1, c2, hia, hld, hy, hpa, hpl, m3]
      refine hat.call ?_
      simp [k10, u1, hy, hlt]
  · have hke : k = mm := by omega
    subst hke
    have fin : RetP h (.fs n (ints (combK D x L n k))) v h' := by
      rcases hvv with ⟨rfl, h2⟩ | rfl
      · rw [h2]
        exact ret_blk hg9 (hkg.no hb9) (hkg.trans hkg9) (by simp [ints_length]) rfl
      · exact ⟨_, (hkg.trans hkg9).sub, .id _, rfl⟩
    by_cases c1 : k < L.length
    · have c2 : ¬ k < x.length := by omega
      simp [k1, k2, k9, k10, hr.len, hx.len, c1, c2]
      exact fin
    · simp [k2, k9, k10, hr.len, c1]
      exact fin

theorem s_SameInts {v w : AV} {a b : List Int} (hv : IL v a) (hw : IL w b) (hal : a.length < 4611686018427387904) : Pure prog n_ref09_SameInts [v, w] (B (decide (a = b))) := by
  refine pure_of cf_ref09_SameInts rfl fun h => ?_
  by_cases hl : a.length = b.length
  case neg =>
    have hl' : ¬ (a.length : Int) = b.length := by omega
    simp [hv.len, hw.len, hl, hl']
    rw [decide_eq_false fun hc => hl (by rw [hc])]
    exact RetP.same
  simp [hv.len, hw.len, hl]
  refine awp_for a.length (fun k fr' h' => h' = h ∧ fr' 5 = I k ∧ ∀ i, i < k → a.getD i 0 = b.getD i 0) ⟨rfl, by simp, fun i hi => by omega⟩ ?_
  intro k fr' h' hkn hk ⟨hh, k5, hx⟩
  subst hh
  have k0 := hk 0 (by decide)
  have k1 := hk 1 (by decide)
  simp at k0 k1
  clear hk
  by_cases hlt : k < a.length
  · have hlt2 : k < b.length := by omega
    have hia := hv.iadr (i := k) ⟨by omega, by omega⟩
    have hib := hw.iadr (i := k) ⟨by omega, by omega⟩
    simp at hia hib
    have hla := fun h' => ld_ints (h := h') hlt
    have hlb := fun h' => ld_ints (h := h') hlt2
    have u1 : IntKind.i64.wrap ((k : Int) + 1) = k + 1 := w64 _ (by omega)
    by_cases hc : a.getD k 0 = b.getD k 0
    · have hx2 : ∀ i, i < k + 1 → a.getD i 0 = b.getD i 0 := fun i hi => by
        by_cases hik : i = k
        · subst hik; exact hc
        · exact hx i (by omega)
      rw [hc] at hla
      generalize b.getD k 0 = y at *
      simp [k0, k1, k5, hv.len, hlt, hlt2, hia, hib, hla, hlb, u1]
      simpa using hx2
    · have hne : a ≠ b := fun h => hc (by rw [h])
      generalize a.getD k 0 = y at *
      generalize b.getD k 0 = z at *
      simp [k0, k1, k5, hv.len, hlt, hlt2, hia, hib, hla, hlb, hc]
      rw [decide_eq_false hne]
      exact RetP.same
  · have : k = a.length := by omega
    subst this
    simp [k0, k5, hv.len]
    have heq : a = b := List.ext_getElem hl fun i h1 h2 => by
      have := hx i h1
      simpa [List.getD, h1, h2] using this
    rw [decide_eq_true heq]
    exact RetP.same

theorem s_SameRows {v w : AV} {a b : List (List Int)} (hv : ML v a) (hw : ML w b) (hal : a.length < 4611686018427387904) (har : ∀ i, i < a.length → (a.getD i []).length < 4611686018427387904) : Pure prog n_ref09_SameRows [v, w] (B (decide (a = b))) := by
  refine pure_of cf_ref09_SameRows rfl fun h => ?_
  by_cases hl : a.length = b.length
  case neg =>
    have hl' : ¬ (a.length : Int) = b.length := by omega
    simp [hv.len, hw.len, hl, hl']
    rw [decide_eq_false fun hc => hl (by rw [hc])]
    exact RetP.same
  simp [hv.len, hw.len, hl]
  refine awp_for a.length (fun k fr' h' => h' = h ∧ fr' 5 = I k ∧ ∀ i, i < k → a.getD i [] = b.getD i []) ⟨rfl, by simp, fun i hi => by omega⟩ ?_
  intro k fr' h' hkn hk ⟨hh, k5, hx⟩
  subst hh
  have k0 := hk 0 (by decide)
  have k1 := hk 1 (by decide)
  simp at k0 k1
  clear hk
  by_cases hlt : k < a.length
  · have hlt2 : k < b.length := by omega
    obtain ⟨pa, ra, hpa1, hpa2, hra⟩ := hv.rd hlt
    obtain ⟨pb, rb, hpb1, hpb2, hrb⟩ := hw.rd hlt2
    have hsi := s_SameInts hra hrb (har k hlt)
    have u1 : IntKind.i64.wrap ((k : Int) + 1) = k + 1 := w64 _ (by omega)
    simp [k0, k1, k5, hv.len, hlt, hpa1, hpa2, hpb1, hpb2]
    refine hsi.call ?_
    by_cases hc : a.getD k [] = b.getD k []
    · have hx2 : ∀ i, i < k + 1 → a.getD i [] = b.getD i [] := fun i hi => by
        by_cases hik : i = k
        · subst hik; exact hc
        · exact hx i (by omega)
      rw [decide_eq_true hc]
      simp [k5, u1, hlt]
      simpa using hx2
    · rw [decide_eq_false hc]
      simp
      rw [decide_eq_false fun h => hc (by rw [h])]
      exact RetP.same
  · have : k = a.length := by omega
    subst this
    simp [k0, k5, hv.len]
    have heq : a = b := List.ext_getElem hl fun i h1 h2 => by
      have := hx i h1
      simpa [List.getD, h1, h2] using this
    rw [decide_eq_true heq]
    exact RetP.same
end Go.AM.Ytmihmgnjnedfcab
end

section
/- Contracts of functions: the checks of matrices. -/
set_option maxRecDepth 100000
set_option linter.unusedSimpArgs false
set_option linter.unusedVariables false
namespace Go.AM.Ytmihmgnjnedfcab
open Go Go.AM
attribute [local simp ↓] awp_seq awp_reg awp_skip awp_cond' awp_block awp_exit awp_ret awp_fz thenW_normal thenW_exit thenW_ret inBlk_normal inBlk_exit inBlk_ret aops_cons' contA_ap aops_nil e_mv e_guard' e_pick' e_ld' e_app e_cpy e_st' e_call callW_f updO_some updO_none e_bin' e_isnil' e_fadr' e_iadr' e_iarr' e_len' e_build' e_mkf' e_nc' e_not' e_neg' e_cvt' e_slc' e_fld' e_ext' e_min' e_eqs' e_new e_box e_mkl e_mks
attribute [local simp] upd_apply ev_t ev_k ev_f binA_add binA_sub binA_mul binA_quo binA_rem binA_eql binA_neq binA_lss binA_leq binA_gtr binA_geq det mem frame0 keeps_nil iadrA_sl fadrA_ref fadrA_fp ldv_agg ldv_one cells_base hset_same hset_hset lenA_fs lenA_sl lenA_nils zeros_ints ints_length one_base one_nilp one_nils one_ref one_sl one_fp one_fs one_fn gl_one resA resOf bound natOf afill splice AV.cells cells_agg bindR_some condR_true condR_false guardR_tup guardR_true guardR_true' guardR_false guardR_false' allocW_some pickA_true pickA_false
open Go.FM

theorem lq_fst {h : Hp} {b : Nat} {x y : AV} (hb : h b = some [x, y]) : cellsAt h (.ref b 0) 1 = some [x] := ld_one_at hb (by simp)
theorem lq_snd {h : Hp} {b : Nat} {x y : AV} (hb : h b = some [x, y]) : cellsAt h (.ref b 1) 1 = some [y] := ld_one_at hb (by simp)
theorem lq_both {h : Hp} {b : Nat} {x y : AV} (hb : h b = some [x, y]) : cellsAt h (.ref b 0) 2 = some [x, y] := ld_at hb (by simp)

open Classical in
noncomputable def entE (D : Ds) (l : List Int) : Int := if ∀ x ∈ l, D.R x then 0 else 2

theorem s_entries {D : Ds} (r : Fd D) {v : AV} {l : List Int} (hv : IL v l) (hl : l.length < 4611686018427387904) : Pure prog n_matrix_entries [.fp (gfC D), v] (I (entE D l)) := by
  classical
  refine pure_of cf_matrix_entries rfl fun h => ?_
  unfold entE
  simp [hv.len]
  refine awp_for l.length (fun k fr' h' => h' = h ∧ fr' 9 = I k ∧ ∀ x ∈ l.take k, D.R x) ⟨rfl, by simp, by simp⟩ ?_
  intro k fr' h' hkn hk ⟨hh, k9, hx⟩
  subst hh
  have k0 := hk 0 (by decide)
  have k7 := hk 7 (by decide)
  have k8 := hk 8 (by decide)
  simp at k0 k7 k8
  clear hk
  by_cases hlt : k < l.length
  · have hia := hv.iadr (i := k) ⟨by omega, by omega⟩
    simp at hia
    have hld := fun h' => ld_ints (h := h') hlt
    have hmem : l.getD k 0 ∈ l := by simp only [List.getD, List.getElem?_eq_getElem hlt, Option.getD_some]; exact List.getElem_mem hlt
    have htk : l.take (k + 1) = l.take k ++ [l.getD k 0] := by rw [List.take_succ_eq_append_getElem hlt]; simp [List.getD, hlt]
    rw [htk]
    generalize l.getD k 0 = y at *
    have u1 : IntKind.i64.wrap ((k : Int) + 1) = k + 1 := w64 _ (by omega)
    simp [k0, k7, k8, k9, hlt, hia, hld]
    refine (s_Is r y).call ?_
    by_cases c : 0 ≤ y ∧ y < D.q
    · rw [decide_eq_true c]
      simp [k9, u1, hlt]
      intro x hxx
      rcases hxx with hxx | rfl
      · exact hx x hxx
      · exact c
    · rw [decide_eq_false c]
      simp
      rw [if_neg fun hc => c (hc y hmem)]
      exact RetP.same
  · have : k = l.length := by omega
    subst this
    rw [List.take_length] at hx
    simp [k8, k9]
    rw [if_pos hx]
    exact RetP.same

open Classical in
/-- The answer on a matrix. -/
noncomputable def chkE (D : Ds) (cols : Int) (L : List (List Int)) : Int :=
  if cols < 0 ∨ 256 < cols ∨ 256 < (L.length : Int) then 3 else if ¬ (∀ row ∈ L, (row.length : Int) = cols) then 3 else if ∀ row ∈ L, ∀ x ∈ row, D.R x then 0 else 2

theorem mem_getD {α : Type} {l : List α} {d : α} {k : Nat} (hk : k < l.length) : l.getD k d ∈ l := by
  simp only [List.getD, List.getElem?_eq_getElem hk, Option.getD_some]; exact List.getElem_mem hk
theorem take_getD {α : Type} {l : List α} {d : α} {k : Nat} (hk : k < l.length) : l.take (k + 1) = l.take k ++ [l.getD k d] := by
  rw [List.take_succ_eq_append_getElem hk]; simp [List.getD, hk]

set_option maxHeartbeats 1000000 in
theorem s_check {D : Ds} (r : Fd D) {rv : AV} {L : List (List Int)} (hr : ML rv L) (hLl : L.length < 4611686018427387904) (hrl : ∀ row ∈ L, row.length < 4611686018427387904) (cols : Int) : Pure prog n_matrix_check [.fp (gfC D), .agg [I cols, rv]] (I (chkE D cols L)) := by
  classical
  refine pure_of cf_matrix_check rfl fun h => ?_
  have hone := hr.one
  simp [hone]
  intro b3 hb3
  have lf := lq_fst (hset_same h b3 [I cols, rv])
  have ls := lq_snd (hset_same h b3 [I cols, rv])
  have hkg : Kp h (hset h b3 [I cols, rv]) := (Kp.refl h).new hb3 _
  generalize hset h b3 [I cols, rv] = g at *
  have fin : ∀ e, chkE D cols L = e → RetP h (I (chkE D cols L)) (I e) g := fun e he => he ▸ ⟨_, hkg.sub, .id _, rfl⟩
  by_cases c1 : cols < 0
  · simp [lf, c1]
    exact fin 3 (by unfold chkE; rw [if_pos (.inl c1)])
  by_cases c2 : 256 < cols
  · simp [lf, c1, c2]
    exact fin 3 (by unfold chkE; rw [if_pos (.inr (.inl c2))])
  by_cases c3 : 256 < (L.length : Int)
  · simp [lf, ls, c1, c2, hr.len, c3]
    exact fin 3 (by unfold chkE; rw [if_pos (.inr (.inr c3))])
  have E1 : chkE D cols L = if ¬ (∀ row ∈ L, (row.length : Int) = cols) then 3 else if ∀ row ∈ L, ∀ x ∈ row, D.R x then 0 else 2 := by unfold chkE; rw [if_neg (by omega)]
  simp [lf, ls, c1, c2, hr.len, c3]
  refine awp_for L.length (fun k fr' h' => h' = g ∧ fr' 27 = I k ∧ ∀ row ∈ L.take k, (row.length : Int) = cols) ⟨rfl, by simp, by simp⟩ ?_
  intro k fr' h' hkn hk ⟨hh, k27, hx⟩
  subst hh
  have k0 := hk 0 (by decide)
  have k3 := hk 3 (by decide)
  have k25 := hk 25 (by decide)
  have k26 := hk 26 (by decide)
  simp at k0 k3 k25 k26
  clear hk
  by_cases hlt : k < L.length
  · obtain ⟨pa, row, hpa, hpl, hrow⟩ := hr.rd hlt
    have hm := mem_getD (d := []) hlt
    rw [take_getD (d := []) hlt]
    generalize L.getD k [] = rl at *
    have u1 : IntKind.i64.wrap ((k : Int) + 1) = k + 1 := w64 _ (by omega)
    by_cases hc : (rl.length : Int) = cols
    · simp [k3, k25, k26, k27, hlt, hpa, hpl, hrow.len, lf, hc, u1]
      intro x hxx
      rcases hxx with hxx | rfl
      · exact hx x hxx
      · exact hc
    · simp [k3, k25, k26, k27, hlt, hpa, hpl, hrow.len, lf, hc]
      exact fin 3 (by rw [E1, if_pos fun hall => hc (hall rl hm)])
  have : k = L.length := by omega
  subst this
  rw [List.take_length] at hx
  have E2 : chkE D cols L = if ∀ row ∈ L, ∀ x ∈ row, D.R x then 0 else 2 := by rw [E1, if_neg (by simpa using hx)]
  simp [k3, k26, k27, ls, hr.len]
  refine awp_for L.length (fun k fr2 h2 => h2 = h' ∧ fr2 40 = I k ∧ ∀ row ∈ L.take k, ∀ x ∈ row, D.R x) ⟨rfl, by simp, by simp⟩ ?_
  intro k fr2 h2 hkn hk2 ⟨hh, k40, hx2⟩
  subst hh
  have m0 := hk2 0 (by decide)
  have m38 := hk2 38 (by decide)
  have m39 := hk2 39 (by decide)
  simp [k0] at m0 m38 m39
  clear hk2
  by_cases hlt : k < L.length
  · obtain ⟨pa, row, hpa, hpl, hrow⟩ := hr.rd hlt
    have hm := mem_getD (d := []) hlt
    rw [take_getD (d := []) hlt]
    generalize L.getD k [] = rl at *
    have hen := s_entries r hrow (hrl rl hm)
    have u1 : IntKind.i64.wrap ((k : Int) + 1) = k + 1 := w64 _ (by omega)
    simp [m0, m38, m39, k40, hlt, hpa, hpl]
    refine hen.call ?_
    by_cases hc : ∀ x ∈ rl, D.R x
    · have he : entE D rl = 0 := by unfold entE; rw [if_pos hc]
      rw [he]
      simp [k40, u1, hlt]
      intro x hxx
      rcases hxx with hxx | rfl
      · exact hx2 x hxx
      · exact hc
    · have he : entE D rl = 2 := by unfold entE; rw [if_neg hc]
      rw [he]
      simp
      exact fin 2 (by rw [E2, if_neg fun hall => hc (hall rl hm)])
  · have : k = L.length := by omega
    subst this
    rw [List.take_length] at hx2
    simp [m39, k40]
    exact fin 0 (by rw [E2, if_pos hx2])

/-- Matrices side by side, in cells. -/
def MSC (cells : List AV) (M : List (Int × List (List Int))) : Prop := ∀ i, i < M.length → cells.getD (i * 2) .nils = I (M.getD i default).1 ∧ ML (cells.getD (i * 2 + 1) .nils) (M.getD i default).2

/-- Sizes that a machine can have. -/
def MSm (L : List (List Int)) : Prop := L.length < 4611686018427387904 ∧ ∀ row ∈ L, row.length < 4611686018427387904

/-- The first error. -/
noncomputable def chkAll (D : Ds) : List (Int × List (List Int)) → Int
  | [] => 0
  | m :: r => if chkE D m.1 m.2 ≠ 0 then chkE D m.1 m.2 else chkAll D r
theorem chkAll_append {D : Ds} : ∀ {a b : List (Int × List (List Int))}, chkAll D a = 0 → chkAll D (a ++ b) = chkAll D b
  | [], b, _ => rfl
  | m :: a, b, h => by
    simp only [chkAll] at h
    simp only [List.cons_append, chkAll]
    by_cases hm : chkE D m.1 m.2 = 0
    · rw [if_neg (by simpa using hm)] at h ⊢
      exact chkAll_append h
    · rw [if_pos hm] at h; exact (hm h).elim

open Classical in
noncomputable def openE (p m : Int) (mo : List Int) (M : List (Int × List (List Int))) : Int := if FieldP p m mo then chkAll (mkD p m mo) M else 1
noncomputable def openR (p m : Int) (mo : List Int) (M : List (Int × List (List Int))) : AV := if openE p m mo M = 0 then .tup [.fp (gfC (mkD p m mo)), I 0] else .tup [.nilp, I (openE p m mo M)]

theorem newR_pos' {p m : Int} {mo : List Int} (h : FieldP p m mo) : newR p m mo = .tup [.fp (gfC (mkD p m mo)), I 0] := by
  unfold newR; rw [if_pos h]

set_option maxHeartbeats 1000000 in
theorem s_open {p m : Int} {mv v : AV} {mo : List Int} (hmv : IL mv mo) (hml : mo.length < 4611686018427387904) {cells : List AV} {M : List (Int × List (List Int))} (hMl : M.length < 4611686018427387904) (hM : MSC cells M) (hMs : ∀ i, i < M.length → MSm (M.getD i default).2)
    {h : Hp} (hv : SV 2 v M.length cells ∨ ∃ b, v = .sl b 0 M.length 2 ∧ h b = some cells ∧ cells.length = M.length * 2) :
    PureH prog n_matrix_open [.agg [I p, I m, mv], v] h (openR p m mo M) := by
  classical
  refine pureH_of cf_matrix_open rfl ?_
  have hone := hmv.one
  simp [hone]
  intro b2 hb2
  obtain ⟨l0, l1, l2, l3⟩ := ld3_at (hset_same h b2 [I p, I m, mv])
  have hkg : Kp h (hset h b2 [I p, I m, mv]) := (Kp.refl h).new hb2 _
  generalize hset h b2 [I p, I m, mv] = g at *
  simp [l3]
  refine (s_New p m hmv hml).call ?_
  have hlen : lenA v = some M.length := by
    rcases hv with hv | ⟨b, rfl, _, _⟩
    · exact hv.len
    · rfl
  have hrd : ∀ i, i < M.length → ∃ x, iadrA v (I i) 2 = some x ∧ ∀ h', Kp g h' → cellsAt h' x 2 = some [cells.getD (i * 2) .nils, cells.getD (i * 2 + 1) .nils] := by
    intro i hi
    rcases hv with hv | ⟨b, rfl, hb, hcl⟩
    · have hcl := hv.1
      refine ⟨_, hv.iadr (i := i) ⟨by omega, by omega⟩, fun h' _ => ?_⟩
      simp only [Int.toNat_natCast]
      rw [cellsAt_fpd (by omega), take2 (by omega)]
    · refine ⟨.ref b (0 + i * 2), ?_, fun h' k => ?_⟩
      · rw [iadrA_sl, if_pos ⟨by omega, by omega⟩]; simp
      · rw [ld_at (hkg.trans k b _ hb) (by omega), Nat.zero_add, take2 (by omega)]
  by_cases hf : FieldP p m mo
  case neg =>
    unfold newR openR openE
    rw [if_neg hf, if_neg hf]
    simp
    exact ⟨_, hkg.sub, .id _, rfl⟩
  rw [newR_pos' hf]
  have r := hf.fd
  have hE : openE p m mo M = chkAll (mkD p m mo) M := by unfold openE; rw [if_pos hf]
  unfold openR
  rw [hE]
  generalize mkD p m mo = D at *
  simp [hlen]
  refine awp_for M.length (fun k fr' h' => Kp g h' ∧ fr' 20 = I k ∧ chkAll D (M.take k) = 0) ⟨Kp.refl g, by simp, by simp [chkAll]⟩ ?_
  intro k fr' h' hkn hk ⟨hkp, k20, hx⟩
  have k6 := hk 6 (by decide)
  have k18 := hk 18 (by decide)
  have k19 := hk 19 (by decide)
  simp at k6 k18 k19
  clear hk
  by_cases hlt : k < M.length
  · obtain ⟨x, hx1, hx2⟩ := hrd k hlt
    obtain ⟨e1, e2⟩ := hM k hlt
    have hsm := hMs k hlt
    have htk := take_getD (d := default) hlt
    have hsp : M = M.take k ++ M.getD k default :: M.drop (k + 1) := by
      have : M.getD k default = M[k] := by simp [List.getD, hlt]
      rw [this, ← List.drop_eq_getElem_cons hlt, List.take_append_drop]
    have hx3 := hx2 _ hkp
    rw [htk]
    generalize M.getD k default = P at *
    obtain ⟨cols, L⟩ := P
    simp only at e1 e2 hsm
    rw [e1] at hx3
    generalize cells.getD (k * 2 + 1) .nils = rv at *
    have hro := e2.one
    have hck := s_check r e2 hsm.1 hsm.2 cols
    have u1 : IntKind.i64.wrap ((k : Int) + 1) = k + 1 := w64 _ (by omega)
    simp [k18, k19, k20, hlt, hx1, hx3]
    intro b9 hb9
    have sra := fun R => sr_all (R := R) (cs' := [I cols, rv]) (hset_same h' b9 [I 0, .nils]) (n := 2) rfl rfl (by
      show (one (I cols) && (one rv && true)) = true
      rw [hro]; rfl)
    have hk9 : Kp g (hset h' b9 [I cols, rv]) := hkp.new hb9 _
    have lb := lq_both (hset_same h' b9 [I cols, rv])
    simp [sra, k6, lb]
    refine hck.call ?_
    by_cases hc : chkE D cols L = 0
    · have hnx : chkAll D (M.take k ++ [(cols, L)]) = 0 := by rw [chkAll_append hx]; simp [chkAll, hc]
      rw [hc]
      simp [k20, u1, hlt]
      exact ⟨hk9, hnx⟩
    · have hall : chkAll D M = chkE D cols L := by
        rw [hsp, chkAll_append hx]; simp [chkAll, hc]
      simp [hc]
      rw [hall, if_neg hc]
      exact ⟨_, (hkg.trans hk9).sub, .id _, rfl⟩
  · have : k = M.length := by omega
    subst this
    rw [List.take_length] at hx
    simp [k6, k19, k20]
    rw [hx, if_pos rfl]
    exact ⟨_, (hkg.trans hkp).sub, .id _, rfl⟩
end Go.AM.Ytmihmgnjnedfcab
end

section
/- Live matrices. -/
set_option maxRecDepth 100000
set_option linter.unusedSimpArgs false
set_option linter.unusedVariables false
namespace Go.AM.Ytmihmgnjnedfcab
open Go Go.AM
attribute [local simp ↓] awp_seq awp_reg awp_skip awp_cond' awp_block awp_exit awp_ret awp_fz thenW_normal thenW_exit thenW_ret inBlk_normal inBlk_exit inBlk_ret aops_cons' contA_ap aops_nil e_mv e_guard' e_pick' e_ld' e_app e_cpy e_st' e_call callW_f updO_some updO_none e_bin' e_isnil' e_fadr' e_iadr' e_iarr' e_len' e_build' e_mkf' e_nc' e_not' e_neg' e_cvt' e_slc' e_fld' e_ext' e_min' e_eqs' e_new e_box e_mkl e_mks
attribute [local simp] upd_apply ev_t ev_k ev_f binA_add binA_sub binA_mul binA_quo binA_rem binA_eql binA_neq binA_lss binA_leq binA_gtr binA_geq det mem frame0 keeps_nil iadrA_sl fadrA_ref fadrA_fp ldv_agg ldv_one cells_base hset_same hset_hset lenA_fs lenA_sl lenA_nils zeros_ints ints_length one_base one_nilp one_nils one_ref one_sl one_fp one_fs one_fn gl_one resA resOf bound natOf afill splice AV.cells cells_agg bindR_some condR_true condR_false guardR_tup guardR_true guardR_true' guardR_false guardR_false' allocW_some pickA_true pickA_false
open Go.FM

/-- A frozen row, a frozen list of rows. -/
def frow (l : List Int) : AV := .fs l.length (ints l)
def gml (L : List (List Int)) : AV := gl L.length (L.map frow)
theorem map_getD' {α β : Type} (f : α → β) (l : List α) (i : Nat) (d : α) (d' : β) (hi : i < l.length) : (l.map f).getD i d' = f (l.getD i d) := by
  simp [List.getD, hi]
theorem ML_fs (L : List (List Int)) : ML (.fs L.length (L.map frow)) L :=
  ⟨L.map frow, ⟨by simp, .inr rfl⟩, fun i hi => by rw [map_getD' frow L i [] .nils hi]; exact IL.fs _⟩
theorem ML_gml (L : List (List Int)) : ML (gml L) L := by
  unfold gml gl
  split
  · rename_i h
    have : L = [] := List.eq_nil_of_length_eq_zero h
    subst this
    exact ⟨[], ⟨rfl, .inl ⟨rfl, rfl⟩⟩, fun i hi => absurd hi (by simp)⟩
  · exact ML_fs L

/-- Live rows: the outer block o, the rows in the blocks bs. -/
structure LM (h : Hp) (o : Nat) (bs : Nat → Nat) (L : List (List Int)) : Prop where
  inj : ∀ i j, i < L.length → j < L.length → i ≠ j → bs i ≠ bs j
  ne : ∀ i, i < L.length → bs i ≠ o
  out : h o = some ((List.range L.length).map fun i => .sl (bs i) 0 (L.getD i []).length 1)
  row : ∀ i, i < L.length → h (bs i) = some (ints (L.getD i []))

/-- Nothing but these rows has changed. -/
def Only (bs : Nat → Nat) (n : Nat) (h h' : Hp) : Prop := ∀ b, (∀ i, i < n → b ≠ bs i) → h' b = h b
theorem Only.refl (bs : Nat → Nat) (n : Nat) (h : Hp) : Only bs n h h := fun _ _ => rfl
theorem Only.trans {bs : Nat → Nat} {n : Nat} {h h' h2 : Hp} (a : Only bs n h h') (b : Only bs n h' h2) : Only bs n h h2 := fun x hx => (b x hx).trans (a x hx)
theorem Only.put {bs : Nat → Nat} {n : Nat} {h h' : Hp} (a : Only bs n h h') {i : Nat} (hi : i < n) (xs : List AV) : Only bs n h (hset h' (bs i) xs) := fun x hx => by rw [hset_ne _ _ (hx i hi)]; exact a x hx
theorem Only.kp {bs : Nat → Nat} {n : Nat} {G h h' : Hp} (a : Only bs n h h') (k : Kp G h) (hg : ∀ i, i < n → G (bs i) = none) : Kp G h' := fun b xs hb => by
  rw [a b fun i hi he => by rw [he, hg i hi] at hb; cases hb]; exact k b xs hb

section
variable {G h : Hp} {o : Nat} {bs : Nat → Nat} {L : List (List Int)}
theorem LM.mono (m : LM h o bs L) {h' : Hp} (k : Kp h h') : LM h' o bs L := ⟨m.inj, m.ne, k _ _ m.out, fun i hi => k _ _ (m.row i hi)⟩
theorem LM.ld (m : LM h o bs L) {i : Nat} (hi : i < L.length) : cellsAt h (.ref o i) 1 = some [.sl (bs i) 0 (L.getD i []).length 1] := by
  rw [ld_one_at m.out (by simpa using hi)]
  simp [List.getD, hi]
theorem LM.put (m : LM h o bs L) {i : Nat} (hi : i < L.length) {l' : List Int} (hl : l'.length = (L.getD i []).length) : LM (hset h (bs i) (ints l')) o bs (L.set i l') := by
  refine ⟨fun a b ha hb => m.inj a b (by simpa using ha) (by simpa using hb), fun a ha => m.ne a (by simpa using ha), ?_, fun a ha => ?_⟩
  · rw [hset_ne _ _ (fun he => m.ne i hi he.symm), m.out, List.length_set]
    congr 1
    refine List.map_congr_left fun a ha => ?_
    by_cases hai : i = a
    · subst hai
      have : ((L.set i l').getD i []).length = (L.getD i []).length := by rw [← hl]; simp [List.getD, hi]
      rw [this]
    · have : ((L.set i l').getD a []) = (L.getD a []) := by simp [List.getD, List.getElem?_set, hai]
      rw [this]
  · have ha' : a < L.length := by simpa using ha
    by_cases hai : a = i
    · subst hai; rw [hset_same]; simp [List.getD, hi]
    · rw [hset_ne _ _ (m.inj a i ha' hi hai), m.row a ha']
      have : i ≠ a := fun he => hai he.symm
      simp [List.getD, List.getElem?_set, this]
/-- Frozen. -/
theorem LM.frz (m : LM h o bs L) (k : Kp G h) (ho : G o = none) (hg : ∀ i, i < L.length → G (bs i) = none) : Sub h G ∧ Frz h G (.sl o 0 L.length 1) (.fs L.length (L.map frow)) := by
  refine ⟨k.sub, .sl o 0 L.length 1 _ _ m.out ho (by simp) (by simp) fun j hj hk => ?_⟩
  have hj' : j < L.length := by simpa using hj
  have hf := Frz.slk (h := h) (h' := G) (len := (L.getD j []).length) (sz := 1) (m.row j hj') (hg j hj') (by rw [ints_length, Nat.mul_one])
  simp [List.getD, hj', Option.getD] at hf ⊢
  exact hf
end

/-- The matrix of a function of two indices. -/
def matF (r c : Nat) (e : Nat → Nat → Int) : List (List Int) := (List.range r).map fun i => (List.range c).map (e i)
theorem matF_len (r c : Nat) (e : Nat → Nat → Int) : (matF r c e).length = r := by simp [matF]
theorem matF_row {r c : Nat} {e : Nat → Nat → Int} {i : Nat} (hi : i < r) : (matF r c e).getD i [] = (List.range c).map (e i) := by
  simp [matF, List.getD, hi]
theorem matF_rlen {r c : Nat} {e : Nat → Nat → Int} {i : Nat} (hi : i < r) : ((matF r c e).getD i []).length = c := by rw [matF_row hi]; simp
theorem matF_congr {r c : Nat} {e e' : Nat → Nat → Int} (h : ∀ i j, i < r → j < c → e i j = e' i j) : matF r c e = matF r c e' := by
  unfold matF
  refine List.map_congr_left fun i hi => List.map_congr_left fun j hj => ?_
  exact h i j (by simpa using hi) (by simpa using hj)
theorem rmap_set {α : Type} {c : Nat} {f : Nat → α} {j : Nat} {y : α} : ((List.range c).map f).set j y = (List.range c).map fun a => if a = j then y else f a := by
  apply List.ext_getElem (by simp)
  intro a h1 h2
  simp only [List.length_set, List.length_map, List.length_range] at h1
  by_cases haj : j = a
  · subst haj; simp
  · have : ¬ a = j := fun he => haj he.symm
    simp [List.getElem_set, haj, this]
def upd2 (e : Nat → Nat → Int) (i j : Nat) (y : Int) : Nat → Nat → Int := fun a b => if a = i ∧ b = j then y else e a b
theorem matF_set {r c : Nat} {e : Nat → Nat → Int} {i j : Nat} {y : Int} (hi : i < r) : (matF r c e).set i (((matF r c e).getD i []).set j y) = matF r c (upd2 e i j y) := by
  rw [matF_row hi, rmap_set]
  unfold matF
  rw [rmap_set]
  refine List.map_congr_left fun a ha => ?_
  by_cases hai : a = i
  · subst hai
    rw [if_pos rfl]
    refine List.map_congr_left fun b hb => ?_
    simp [upd2]
  · rw [if_neg hai]
    refine List.map_congr_left fun b hb => ?_
    simp [upd2, hai]

theorem LM.setF {h : Hp} {o : Nat} {bs : Nat → Nat} {r c : Nat} {e : Nat → Nat → Int} (m : LM h o bs (matF r c e)) {i j : Nat} (hi : i < r) (hj : j < c) (y : Int) :
    ∃ l', LM (hset h (bs i) (ints l')) o bs (matF r c (upd2 e i j y)) ∧ ∀ R : AV → Hp → Prop, stR (.ref (bs i) j) (I y) 1 h R = R (.tup []) (hset h (bs i) (ints l')) := by
  refine ⟨((matF r c e).getD i []).set j y, ?_, fun R => sr_ints (m.row i (by rw [matF_len]; exact hi)) (by rw [matF_rlen hi]; exact hj)⟩
  rw [← matF_set hi]
  exact m.put (by rw [matF_len]; exact hi) (by simp)

/-- What square returns. -/
def LiveM (h : Hp) (L : List (List Int)) (v : AV) (h' : Hp) : Prop := Kp h h' ∧ ∃ o bs, v = .sl o 0 L.length 1 ∧ LM h' o bs L ∧ h o = none ∧ ∀ i, i < L.length → h (bs i) = none

def rowsC (bs : Nat → Nat) (L : List (List Int)) : List AV := (List.range L.length).map fun i => .sl (bs i) 0 (L.getD i []).length 1
theorem rowsC_len (bs : Nat → Nat) (L : List (List Int)) : (rowsC bs L).length = L.length := by simp [rowsC]
theorem getD_snoc {α : Type} {L : List α} {l d : α} (i : Nat) : (L ++ [l]).getD i d = if i < L.length then L.getD i d else if i = L.length then l else d := by
  simp only [List.getD, List.getElem?_append]
  by_cases h : i < L.length
  · simp [h]
  · rw [if_neg h, if_neg h]
    by_cases h2 : i = L.length
    · subst h2; simp
    · rw [if_neg h2, List.getElem?_eq_none (by simp; omega)]; rfl
theorem rowsC_snoc (bs : Nat → Nat) (L : List (List Int)) (l : List Int) (b : Nat) : rowsC (fun i => if i = L.length then b else bs i) (L ++ [l]) = rowsC bs L ++ [.sl b 0 l.length 1] := by
  unfold rowsC
  rw [List.length_append, List.length_singleton, List.range_succ, List.map_append]
  congr 1
  · refine List.map_congr_left fun i hi => ?_
    have hi' := List.mem_range.1 hi
    have hne : ¬ i = L.length := by omega
    simp only [if_neg hne, getD_snoc, if_pos hi']
  · have hne : ¬ L.length < L.length := by omega
    simp only [List.map_singleton, if_true, getD_snoc, if_neg hne]

/-- Rows of their own, in blocks that stand in F. -/
structure Rws (h F : Hp) (bs : Nat → Nat) (L : List (List Int)) : Prop where
  kp : Kp h F
  row : ∀ i, i < L.length → h (bs i) = none ∧ F (bs i) = some (ints (L.getD i []))
  inj : ∀ i j, i < L.length → j < L.length → i ≠ j → bs i ≠ bs j
/-- A list of rows that grows. -/
def GrM (h h' : Hp) (v : AV) (L : List (List Int)) : Prop := ∃ F bs, Own 1 F h' v L.length (rowsC bs L) ∧ Rws h F bs L
/-- Beside it a row, in the block b, that is being made. -/
def GrP (h h' : Hp) (v : AV) (L : List (List Int)) (b : Nat) (l : List Int) : Prop := ∃ F bs, Own 1 (hset F b (ints l)) h' v L.length (rowsC bs L) ∧ Rws h F bs L ∧ F b = none
section
variable {h h' : Hp} {v : AV} {L : List (List Int)} {b : Nat} {l : List Int}
theorem GrM.nils (h : Hp) : GrM h h .nils [] := ⟨h, fun _ => 0, Own.nils 1 h, Kp.refl h, fun i hi => absurd hi (by simp), fun i j hi => absurd hi (by simp)⟩
theorem GrM.kp (g : GrM h h' v L) : Kp h h' := by obtain ⟨F, bs, o, r⟩ := g; exact r.kp.trans o.kp
theorem GrP.kp (g : GrP h h' v L b l) : Kp h h' := by obtain ⟨F, bs, o, r, hb⟩ := g; exact (r.kp.new hb _).trans o.kp
theorem GrM.new (g : GrM h h' v L) (hb : h' b = none) (l : List Int) : GrP h (hset h' b (ints l)) v L b l := by
  obtain ⟨F, bs, o, r⟩ := g
  exact ⟨F, bs, o.add hb _, r, o.kp.no hb⟩
theorem GrP.ld (g : GrP h h' v L b l) : h' b = some (ints l) := by
  obtain ⟨F, bs, o, r, hb⟩ := g
  exact o.rd (hset_same ..)
theorem GrP.set (g : GrP h h' v L b l) (l' : List Int) : GrP h (hset h' b (ints l')) v L b l' := by
  obtain ⟨F, bs, o, r, hb⟩ := g
  refine ⟨F, bs, ?_, r, hb⟩
  have := o.put (b := b) (hset_same ..) (ints l')
  rwa [hset_hset] at this
theorem GrM.one (g : GrM h h' v L) : AM.one v = true := by obtain ⟨F, bs, o, r⟩ := g; exact o.one
theorem GrM.len (g : GrM h h' v L) : lenA v = some L.length := by obtain ⟨F, bs, o, r⟩ := g; exact o.len
theorem GrP.app (g : GrP h h' v L b l) {b2 : Nat} (hb2 : h' b2 = none) (hn : L.length + 1 ≤ 4294967296) {R : AV → Hp → Prop} (k : ∀ v' h3, GrM h h3 v' (L ++ [l]) → R v' h3) :
    appW v (.sl b2 0 1 1) 1 (hset h' b2 [.sl b 0 l.length 1]) R := by
  obtain ⟨F, bs, o, r, hb⟩ := g
  refine o.app1 (b := b2) (m := 1) hb2 (by simp) hn fun v' h3 o3 => k v' h3 ?_
  have hne : ∀ i, i < L.length → bs i ≠ b := fun i hi he => by have := (r.row i hi).2; rw [he, hb] at this; cases this
  refine ⟨hset F b (ints l), fun i => if i = L.length then b else bs i, ?_, r.kp.new hb _, fun i hi => ?_, fun i j hi hj hij => ?_⟩
  · rw [rowsC_snoc, List.length_append, List.length_singleton]; exact o3
  · rw [getD_snoc]
    rw [List.length_append, List.length_singleton] at hi
    by_cases hik : i = L.length
    · subst hik; simp only [if_pos]; exact ⟨r.kp.no hb, by rw [if_neg (by omega)]; exact hset_same ..⟩
    · have hi' : i < L.length := by omega
      simp only [if_neg hik, if_pos hi']
      exact ⟨(r.row i hi').1, by rw [hset_ne _ _ (hne i hi')]; exact (r.row i hi').2⟩
  · rw [List.length_append, List.length_singleton] at hi hj
    by_cases hik : i = L.length
    · have hj' : j < L.length := by omega
      simp only [if_pos hik, if_neg (show ¬ j = L.length by omega)]
      exact fun he => hne j hj' he.symm
    · have hi' : i < L.length := by omega
      by_cases hjk : j = L.length
      · simp only [if_pos hjk, if_neg hik]; exact hne i hi'
      · simp only [if_neg hik, if_neg hjk]; exact r.inj i j hi' (by omega) hij
theorem GrM.live (g : GrM h h' v L) (h0 : 0 < L.length) : LiveM h L v h' := by
  obtain ⟨F, bs, ⟨hk, hl, hh⟩, r⟩ := g
  rcases hh with ⟨h1, _⟩ | ⟨_, o, rfl, h1, h3⟩
  · omega
  · exact ⟨r.kp.trans hk, o, bs, rfl, ⟨r.inj, fun i hi he => (by have := (r.row i hi).2; rw [he, h3] at this; cases this), h1, fun i hi => hk _ _ (r.row i hi).2⟩, r.kp.no h3, fun i hi => (r.row i hi).1⟩
theorem LiveM.ret {G : Hp} (m : LiveM h L v h') (k : Kp G h) : RetP G (.fs L.length (L.map frow)) v h' := by
  obtain ⟨hk, o, bs, rfl, m, ho, hr⟩ := m
  have := m.frz (k.trans hk) (k.no ho) fun i hi => k.no (hr i hi)
  exact ⟨_, this.1, this.2, rfl⟩
theorem GrM.ret {G : Hp} (g : GrM h h' v L) (k : Kp G h) : RetP G (gml L) v h' := by
  by_cases h0 : L.length = 0
  · have : L = [] := List.eq_nil_of_length_eq_zero h0
    subst this
    obtain ⟨F, bs, ⟨hk, hl, hh⟩, r⟩ := g
    rcases hh with ⟨_, rfl⟩ | ⟨h1, _⟩
    · exact ⟨_, (k.trans (r.kp.trans hk)).sub, .id _, rfl⟩
    · exact absurd h1 (by simp)
  · have := (g.live (by omega)).ret k
    unfold gml gl
    rw [if_neg h0]; exact this
end

theorem matF_zero_snoc (c k : Nat) : List.replicate k (List.replicate c (0 : Int)) ++ [List.replicate c 0] = List.replicate (k + 1) (List.replicate c 0) := by
  rw [List.replicate_succ']
theorem matF_zero (r c : Nat) : matF r c (fun _ _ => 0) = List.replicate r (List.replicate c 0) := by
  unfold matF
  refine List.eq_replicate_iff.2 ⟨by simp, fun x hx => ?_⟩
  obtain ⟨i, _, rfl⟩ := List.mem_map.1 hx
  exact List.eq_replicate_iff.2 ⟨by simp, by simp⟩
end Go.AM.Ytmihmgnjnedfcab
end

section
/- Contracts of functions: Mul. -/
set_option maxRecDepth 100000
set_option linter.unusedSimpArgs false
set_option linter.unusedVariables false
namespace Go.AM.Ytmihmgnjnedfcab
open Go Go.AM
attribute [local simp ↓] awp_seq awp_reg awp_skip awp_cond' awp_block awp_exit awp_ret awp_fz thenW_normal thenW_exit thenW_ret inBlk_normal inBlk_exit inBlk_ret aops_cons' contA_ap aops_nil e_mv e_guard' e_pick' e_ld' e_app e_cpy e_st' e_call callW_f updO_some updO_none e_bin' e_isnil' e_fadr' e_iadr' e_iarr' e_len' e_build' e_mkf' e_nc' e_not' e_neg' e_cvt' e_slc' e_fld' e_ext' e_min' e_eqs' e_new e_box e_mkl e_mks
attribute [local simp] upd_apply ev_t ev_k ev_f binA_add binA_sub binA_mul binA_quo binA_rem binA_eql binA_neq binA_lss binA_leq binA_gtr binA_geq det mem frame0 keeps_nil iadrA_sl fadrA_ref fadrA_fp ldv_agg ldv_one cells_base hset_same hset_hset lenA_fs lenA_sl lenA_nils zeros_ints ints_length one_base one_nilp one_nils one_ref one_sl one_fp one_fs one_fn gl_one resA resOf bound natOf afill splice AV.cells cells_agg bindR_some condR_true condR_false guardR_tup guardR_true guardR_true' guardR_false guardR_false' allocW_some pickA_true pickA_false
open Go.FM

/-- A struct (x, slice) in the block b, whose slice grows. -/
def GrS (h G h' : Hp) (b : Nat) (x v : AV) (n : Nat) (cs : List AV) : Prop := Own 1 (hset G b [x, v]) h' v n cs ∧ Kp h G ∧ h b = none
section
variable {h G h' : Hp} {b : Nat} {x v : AV} {n : Nat} {cs : List AV}
theorem GrS.ld (g : GrS h G h' b x v n cs) : h' b = some [x, v] := g.1.rd (hset_same ..)
theorem GrS.kp (g : GrS h G h' b x v n cs) : Kp h h' := by
  have : Kp h (hset G b [x, v]) := g.2.1.set g.2.2 _
  exact this.trans g.1.kp
theorem GrS.start {g0 : Hp} (k : Kp h g0) (hb : h b = none) (hg : g0 b = some [x, .nils]) : GrS h g0 g0 b x .nils 0 [] := by
  refine ⟨?_, k, hb⟩
  rw [hset_id hg]; exact Own.nils 1 g0
theorem GrS.app (g : GrS h G h' b x v n cs) {b2 : Nat} {y : AV} (hb2 : h' b2 = none) (hn : n + 1 ≤ 4294967296) {R : AV → Hp → Prop}
    (k : ∀ v' h3, h3 b = some [x, v] → v'.cells = [v'] → AM.one v' = true → GrS h G (hset h3 b [x, v']) b x v' (n + 1) (cs ++ [y]) → R v' h3) : appW v (.sl b2 0 1 1) 1 (hset h' b2 [y]) R :=
  g.1.app1 (m := 1) hb2 (by simp) hn fun v' h3 o3 => k v' h3 (o3.rd (hset_same ..)) o3.cells o3.one ⟨by
    have := o3.put (b := b) (hset_same ..) [x, v']
    rwa [hset_hset] at this, g.2⟩
theorem GrS.fin (g : GrS h G h' b x v n cs) : Sub h' h ∧ Frz h' h v (gl n cs) := g.1.frz (g.2.1.set g.2.2 _)
end

/-- The product. -/
def mulL (D : Ds) (A B : List (List Int)) (n : Nat) : List (List Int) := A.map fun row => combK D row B n row.length
open Classical in
noncomputable def mulE (p m : Int) (mo : List Int) (ca : Int) (A : List (List Int)) (cb : Int) (B : List (List Int)) : Int :=
  if openE p m mo [(ca, A), (cb, B)] ≠ 0 then openE p m mo [(ca, A), (cb, B)] else if ca ≠ B.length then 10 else 0
open Classical in
noncomputable def mulR (p m : Int) (mo : List Int) (ca : Int) (A : List (List Int)) (cb : Int) (B : List (List Int)) : AV :=
  if mulE p m mo ca A cb B = 0 then .tup [.agg [I cb, gml (mulL (mkD p m mo) A B cb.toNat)], I 0] else .tup [.agg [I 0, .nils], I (mulE p m mo ca A cb B)]

theorem chkE_zero {D : Ds} {c : Int} {L : List (List Int)} (h : chkE D c L = 0) : 0 ≤ c ∧ c ≤ 256 ∧ L.length ≤ 256 ∧ (∀ row ∈ L, (row.length : Int) = c) ∧ ∀ row ∈ L, ∀ x ∈ row, D.R x := by
  unfold chkE at h
  split at h
  · omega
  · rename_i h1
    split at h
    · omega
    · rename_i h2
      split at h
      · rename_i h3; exact ⟨by omega, by omega, by omega, by simpa using h2, h3⟩
      · omega

theorem openE_two {p m : Int} {mo : List Int} {ca cb : Int} {A B : List (List Int)} (h : openE p m mo [(ca, A), (cb, B)] = 0) : FieldP p m mo ∧ chkE (mkD p m mo) ca A = 0 ∧ chkE (mkD p m mo) cb B = 0 := by
  classical
  unfold openE at h
  split at h
  · rename_i hf
    refine ⟨hf, ?_⟩
    simp only [chkAll] at h
    by_cases h1 : chkE (mkD p m mo) ca A = 0
    · rw [if_neg (by simpa using h1)] at h
      by_cases h2 : chkE (mkD p m mo) cb B = 0
      · exact ⟨h1, h2⟩
      · rw [if_pos h2] at h; exact (h2 h).elim
    · rw [if_pos h1] at h; exact (h1 h).elim
  · omega

set_option maxHeartbeats 2000000 in
theorem s_matMul {p m : Int} {mv va vb : AV} {mo : List Int} (hmv : IL mv mo) (hml : mo.length < 4611686018427387904) {ca cb : Int} {A B : List (List Int)} (hA : ML va A) (hB : ML vb B) (hAs : MSm A) (hBs : MSm B) :
    Pure prog n_matrix_Mul [.agg [I p, I m, mv], .agg [I ca, va], .agg [I cb, vb]] (mulR p m mo ca A cb B) := by
  classical
  refine pure_of cf_matrix_Mul rfl fun h => ?_
  have hone := hmv.one
  have honeA := hA.one
  have honeB := hB.one
  unfold c_matrix_Mul_0 c_matrix_Mul_1
  generalize hC : c_matrix_Mul_2 = C2
  simp [hone, honeA, honeB]
  intro b3 hb3 b4 hb4 b5 hb5 b6 hb6
  have hk6 : Kp h (hset (hset (hset (hset h b3 [I p, I m, mv]) b4 [I ca, va]) b5 [I cb, vb]) b6 [I 0, .nils]) := ((((Kp.refl h).new hb3 _).new hb4 _).new hb5 _).new hb6 _
  have n6 : h b6 = none := ((((Kp.refl h).new hb3 [I p, I m, mv]).new hb4 [I ca, va]).new hb5 [I cb, vb]).no hb6
  have g3 : (hset (hset (hset (hset h b3 [I p, I m, mv]) b4 [I ca, va]) b5 [I cb, vb]) b6 [I 0, .nils]) b3 = some [I p, I m, mv] :=
    (((Kp.refl _).new hb4 _).new hb5 _).new hb6 _ b3 _ (hset_same ..)
  have g4 : (hset (hset (hset (hset h b3 [I p, I m, mv]) b4 [I ca, va]) b5 [I cb, vb]) b6 [I 0, .nils]) b4 = some [I ca, va] :=
    ((Kp.refl _).new hb5 _).new hb6 _ b4 _ (hset_same ..)
  have g5 : (hset (hset (hset (hset h b3 [I p, I m, mv]) b4 [I ca, va]) b5 [I cb, vb]) b6 [I 0, .nils]) b5 = some [I cb, vb] :=
    (Kp.refl _).new hb6 _ b5 _ (hset_same ..)
  have g6 : (hset (hset (hset (hset h b3 [I p, I m, mv]) b4 [I ca, va]) b5 [I cb, vb]) b6 [I 0, .nils]) b6 = some [I 0, .nils] := hset_same ..
  generalize hset (hset (hset (hset h b3 [I p, I m, mv]) b4 [I ca, va]) b5 [I cb, vb]) b6 [I 0, .nils] = g at *
  obtain ⟨_, _, _, l3⟩ := ld3_at g3
  have l4 := lq_both g4
  have l5 := lq_both g5
  simp [l3, l4, l5, honeA, honeB]
  intro b17 hb17
  have hop := s_open (p := p) (m := m) (h := hset g b17 [I ca, va, I cb, vb]) (v := .sl b17 0 2 2) hmv hml (cells := [I ca, va, I cb, vb]) (M := [(ca, A), (cb, B)]) (by simp) (fun i hi => by
      match i, hi with
      | 0, _ => exact ⟨rfl, hA⟩
      | 1, _ => exact ⟨rfl, hB⟩) (fun i hi => by
      match i, hi with
      | 0, _ => exact hAs
      | 1, _ => exact hBs) (.inr ⟨b17, rfl, hset_same .., rfl⟩)
  refine hop.call ?_
  clear hop
  have hk17 : Kp g (hset g b17 [I ca, va, I cb, vb]) := (Kp.refl g).new hb17 _
  have g4' := hk17 _ _ g4
  have g5' := hk17 _ _ g5
  have g6' := hk17 _ _ g6
  have hkh := hk6.trans hk17
  clear g3 g4 g5 g6 hk6 hk17 hb17 hb6 l3 l4 l5
  generalize hset g b17 [I ca, va, I cb, vb] = G at *
  have st0 := fun R => sr_all (R := R) (cs' := [I 0, .nils]) g6' (n := 2) rfl rfl rfl
  rw [hset_id g6'] at st0
  have l6 := lq_both g6'
  have bad : ∀ e, mulE p m mo ca A cb B = e → e ≠ 0 → RetP h (mulR p m mo ca A cb B) (.tup [.agg [I 0, .nils], I e]) G := fun e he h0 => by
    rw [mulR, if_neg (by rw [he]; exact h0), he]; exact ⟨_, hkh.sub, .id _, rfl⟩
  by_cases hE : openE p m mo [(ca, A), (cb, B)] = 0
  case neg =>
    unfold openR
    rw [if_neg hE]
    have hb := bad _ (by rw [mulE, if_pos hE]) hE
    generalize openE p m mo [(ca, A), (cb, B)] = e at *
    simp
    subst hC
    simp [hE, st0, l6]
    exact hb
  have hE2 : mulE p m mo ca A cb B = if ca ≠ B.length then 10 else 0 := by rw [mulE, if_neg (by simpa using hE)]
  obtain ⟨hf, hcA, hcB⟩ := openE_two hE
  have r := hf.fd
  unfold openR
  rw [if_pos hE]
  simp
  subst hC
  unfold c_matrix_Mul_2 c_matrix_Mul_3
  generalize hC : c_matrix_Mul_4 = C2
  have l40 := lq_fst g4'
  have l51 := lq_snd g5'
  have l50 := lq_fst g5'
  have l41 := lq_snd g4'
  by_cases hc : ca = B.length
  case neg =>
    have hb := bad 10 (by rw [hE2, if_pos hc]) (by omega)
    simp [l40, l51, hB.len, hc, st0, l6]
    exact hb
  have hE3 : mulE p m mo ca A cb B = 0 := by rw [hE2, if_neg (by simpa using hc)]
  subst hc
  simp [l40, l51, hB.len]
  subst hC
  simp [l50]
  intro b10 hb10
  have sra := fun R => sr_all (R := R) (cs' := [I cb, .nils]) (hset_same G b10 [I 0, .nils]) (n := 2) rfl rfl rfl
  have h6 : (hset G b10 [I cb, .nils]) b6 = some [I 0, .nils] := (Kp.refl G).new hb10 _ _ _ g6'
  have h4 : (hset G b10 [I cb, .nils]) b4 = some [I (B.length : Int), va] := (Kp.refl G).new hb10 _ _ _ g4'
  have h5 : (hset G b10 [I cb, .nils]) b5 = some [I cb, vb] := (Kp.refl G).new hb10 _ _ _ g5'
  have hk0 : Kp h (hset G b10 [I cb, .nils]) := hkh.new hb10 _
  have gs := GrS.start hk0 (hkh.no hb10) (hset_same G b10 [I cb, .nils])
  have h610 : b6 ≠ b10 := fun he => by rw [he, hb10] at g6'; cases g6'
  have h410 : b4 ≠ b10 := fun he => by rw [he, hb10] at g4'; cases g4'
  have h510 : b5 ≠ b10 := fun he => by rw [he, hb10] at g5'; cases g5'
  have l41' := lq_snd h4
  simp [sra, l41', hA.len]
  clear sra st0 bad l6 l40 l41 l50 l51 l41' hb10
  generalize hset G b10 [I cb, .nils] = g at *
  obtain ⟨q1, q2, q3, q4, q5⟩ := chkE_zero hcB
  obtain ⟨a1, a2, a3, a4, a5⟩ := chkE_zero hcA
  obtain ⟨n, rfl⟩ : ∃ n : Nat, cb = n := ⟨cb.toNat, by omega⟩
  unfold mulR
  rw [if_pos hE3]
  generalize mkD p m mo = D at *
  refine awp_for A.length (fun k fr' h' => (∃ v, GrS h g h' b10 (I n) v k ((mulL D (A.take k) B n).map frow)) ∧ fr' 38 = I k) ⟨⟨.nils, by simpa [mulL] using gs⟩, by simp⟩ ?_
  intro k fr' h' hkn hk ⟨⟨v, gk⟩, k38⟩
  have k5 := hk 5 (by decide)
  have k6 := hk 6 (by decide)
  have k7 := hk 7 (by decide)
  have k8 := hk 8 (by decide)
  have k10 := hk 10 (by decide)
  have k36 := hk 36 (by decide)
  have k37 := hk 37 (by decide)
  simp at k5 k6 k7 k8 k10 k36 k37
  clear hk
  by_cases hlt : k < A.length
  · have u1 : IntKind.i64.wrap ((k : Int) + 1) = k + 1 := w64 _ (by omega)
    obtain ⟨pa, row, hpa, hpl, hrow⟩ := hA.rd hlt
    have l7 := lq_snd gk.ld
    have h5' : h' b5 = some [I n, vb] := gk.1.rd (by rw [hset_ne _ _ h510]; exact h5)
    have l50 := lq_fst h5'
    have l51 := lq_snd h5'
    have hm := mem_getD (d := []) hlt
    have hml : mulL D (A.take (k + 1)) B n = mulL D (A.take k) B n ++ [combK D (A.getD k []) B n (A.getD k []).length] := by
      rw [take_getD (d := []) hlt, mulL, List.map_append, List.map_singleton]; rfl
    rw [hml]
    generalize A.getD k [] = rl at *
    have hrl := a4 rl hm
    have e : [combK D rl B n rl.length].map frow = [AV.fs n (ints (combK D rl B n rl.length))] := by rw [List.map_singleton, frow, combK_len]
    rw [List.map_append, e]
    generalize (mulL D (A.take k) B n).map frow = cs at *
    simp [k5, k8, k10, k36, k37, k38, hlt, hpa, hpl, l7, l50, l51]
    refine (s_vec r hrow hB (by omega) (by omega) (by omega) (fun i hi => by
      have := q4 _ (mem_getD (d := []) hi); omega)).call ?_
    simp
    intro b hb
    refine gk.app hb (by omega) fun v' h3 hg hc1 ho g3 => ?_
    have st := fun R => sr_one (R := R) (v := v') (k := 1) hg hc1 ho (by simp)
    simp [st, k10, k38, u1, hlt]
    exact ⟨v', g3⟩
  · have : k = A.length := by omega
    subst this
    rw [List.take_length] at gk
    have l7 := lq_both gk.ld
    have h6' : h' b6 = some [I 0, .nils] := gk.1.rd (by rw [hset_ne _ _ h610]; exact h6)
    have hone := gk.1.one
    have st := fun R => sr_all (R := R) (cs' := [I n, v]) h6' (n := 2) rfl rfl (by show (one (I n) && (one v && true)) = true; rw [hone]; rfl)
    have l6 := lq_both (hset_same h' b6 [I n, v])
    simp [k6, k7, k10, k37, k38, l7, st, l6]
    have own6 : Own 1 (hset (hset g b10 [I n, v]) b6 [I n, v]) (hset h' b6 [I n, v]) v A.length ((mulL D A B n).map frow) :=
      gk.1.put (by rw [hset_ne _ _ h610]; exact h6) _
    have fz := own6.frz (G := h) ((gk.2.1.set gk.2.2 _).set n6 _)
    refine RetP.tup fz.1 rfl (frz2 (.agg _ _ rfl (frz2 (.id _) ?_)) (.id _))
    have := fz.2
    rw [gml, show (mulL D A B n).length = A.length by simp [mulL]]; exact this
end Go.AM.Ytmihmgnjnedfcab
end

section
/- How the arguments of the laws about matrices are opened. -/
namespace Go.AM.Ytmihmgnjnedfcab
open Go Go.AM Go.ChangeShapes
set_option linter.unusedVariables false
set_option maxRecDepth 100000
set_option linter.unusedSimpArgs false
open Go.Proofs

theorem c3m : Try.prog.cellsOf 3 = 1 := by kernel_rfl
theorem b3m : 0 < Try.prog.bytesOf 3 := of_decide_eq_true (by kernel_rfl)
theorem c29m : Try.prog.cellsOf 22 = 1 := by kernel_rfl
theorem b29m : 0 < Try.prog.bytesOf 22 := of_decide_eq_true (by kernel_rfl)

/-- A field's description, opened. -/
theorem open_fieldM {n : Nat} {avs : List AV} (h : OpenT Try.prog (n + 3) 24 avs) : ∃ (p m : Int) (mv : AV) (mo : List Int), avs = [I p, I m, mv] ∧ IL mv mo ∧ mo.length < 4611686018427387904 := by
  obtain ⟨l0, l1, l2, rfl, h0, h1, h2⟩ := OpenT.struct3 Try.underlying24 h
  obtain ⟨p, rfl, _⟩ := OpenT.int Try.underlying3 h0
  obtain ⟨m, rfl, _⟩ := OpenT.int Try.underlying3 h1
  obtain ⟨mv, mo, rfl, g1, g2, _⟩ := OpenT.ints Try.underlying22 Try.underlying3 c3m b3m h2
  exact ⟨p, m, mv, mo, rfl, g1, g2⟩

/-- Rows, opened. -/
theorem open_rowsM {n : Nat} {avs : List AV} (h : OpenT Try.prog (n + 3) 25 avs) : ∃ (x : AV) (L : List (List Int)), avs = [x] ∧ ML x L ∧ MSm L := by
  obtain ⟨x, m, cells, rfl, hsv, hm, hx⟩ := OpenT.slice Try.underlying25 h
  rw [c29m] at hsv hx
  have hcl := hsv.1
  have each : ∀ i, i < m → ∃ l : List Int, IL (cells.getD i .nils) l ∧ l.length < 4611686018427387904 := fun i hi => by
    have h1 := hx i hi
    rw [Nat.mul_one, List.drop_eq_getElem_cons (by omega), List.take_succ_cons, List.take_zero] at h1
    obtain ⟨y, l, e, h2, h3, _⟩ := OpenT.ints Try.underlying22 Try.underlying3 c3m b3m h1
    have e2 : cells[i] = y := by injection e
    refine ⟨l, ?_, h3⟩
    rw [show cells.getD i .nils = y by rw [← e2]; simp [List.getD, show i < cells.length by omega]]
    exact h2
  have hch : ∃ f : Nat → List Int, ∀ i, i < m → IL (cells.getD i .nils) (f i) ∧ (f i).length < 4611686018427387904 := by
    refine ⟨fun i => if hi : i < m then Classical.choose (each i hi) else [], fun i hi => ?_⟩
    simp only [hi, dite_true]
    exact Classical.choose_spec (each i hi)
  obtain ⟨f, hf⟩ := hch
  have hL : ((List.range m).map f).length = m := by simp
  refine ⟨x, (List.range m).map f, rfl, ⟨cells, by rw [hL]; exact hsv, fun i hi => ?_⟩, ?_, fun row hr => ?_⟩
  · rw [hL] at hi
    have : ((List.range m).map f).getD i [] = f i := by simp [List.getD, hi]
    rw [this]; exact (hf i hi).1
  · rw [hL]; exact small_of b29m hm
  · obtain ⟨i, hi, rfl⟩ := List.mem_map.1 hr
    exact (hf i (List.mem_range.1 hi)).2

/-- A matrix, opened. -/
theorem open_matrix {n : Nat} {avs : List AV} (h : OpenT Try.prog (n + 4) 27 avs) : ∃ (c : Int) (v : AV) (L : List (List Int)), avs = [I c, v] ∧ ML v L ∧ MSm L := by
  obtain ⟨l0, l1, rfl, h0, h1⟩ := OpenT.struct2 Try.underlying27 h
  obtain ⟨c, rfl, _⟩ := OpenT.int Try.underlying3 h0
  obtain ⟨v, L, rfl, g1, g2⟩ := open_rowsM h1
  exact ⟨c, v, L, rfl, g1, g2⟩
end Go.AM.Ytmihmgnjnedfcab
end
