/- Codes of the program, as the conversion gives them. -/
import Derived.Test.YtmihmgnjnedfcaaNum
set_option maxRecDepth 100000
namespace Go.AM.Ytmihmgnjnedfcaa
open Go Go.AM
-- field_GF_Add
abbrev c_field_GF_AddL0_1 : SC := (.block 1 (.seq (.reg [o 30 (.mv (.t 7)), o 31 (.mv (.t 1)), o 32 (.mv (.t 0)), o 33 (.nc (.t 32)), o 34 (.fadr (.t 33) 0), o 35 (.fadr (.t 34) 0), o 38 (.mv (.t 2)), o 39 (.mv (.t 0)), o 40 (.nc (.t 39)), o 41 (.fadr (.t 40) 0), o 42 (.fadr (.t 41) 0), o 46 (.mv (.t 0)), o 47 (.nc (.t 46)), o 48 (.fadr (.t 47) 0), o 49 (.fadr (.t 48) 0), o 52 (.mv (.t 8)), o 36 (.ld (.t 35) 1 false), o 37 (.bin .rem (.t 31) (.t 36)), o 43 (.ld (.t 42) 1 false), o 44 (.bin .rem (.t 38) (.t 43)), o 45 (.bin .add (.t 37) (.t 44)), o 50 (.ld (.t 49) 1 false), o 51 (.bin .rem (.t 45) (.t 50)), o 53 (.bin .mul (.t 51) (.t 52)), o 54 (.bin .add (.t 30) (.t 53)), o 7 (.mv (.t 54))]) (.seq (.reg [o 55 (.mv (.t 8)), o 56 (.mv (.t 0)), o 57 (.nc (.t 56)), o 58 (.fadr (.t 57) 0), o 59 (.fadr (.t 58) 0), o 60 (.ld (.t 59) 1 false), o 61 (.bin .mul (.t 55) (.t 60)), o 8 (.mv (.t 61))]) (.seq (.reg [o 62 (.mv (.t 1)), o 63 (.mv (.t 0)), o 64 (.nc (.t 63)), o 65 (.fadr (.t 64) 0), o 66 (.fadr (.t 65) 0), o 67 (.ld (.t 66) 1 false), o 68 (.bin .quo (.t 62) (.t 67)), o 1 (.mv (.t 68))]) (.reg [o 69 (.mv (.t 2)), o 70 (.mv (.t 0)), o 71 (.nc (.t 70)), o 72 (.fadr (.t 71) 0), o 73 (.fadr (.t 72) 0), o 74 (.ld (.t 73) 1 false), o 75 (.bin .quo (.t 69) (.t 74)), o 2 (.mv (.t 75))])))))
abbrev c_field_GF_AddL0_0 : SC := .seq (.seq (.reg [o 24 (.mv (.t 1)), o 25 (.bin .gtr (.t 24) (ki 0)), o 26 (.mv (.t 25)), og 26 false 0 27 (.mv (.t 2)), og 26 false 0 28 (.bin .gtr (.t 27) (ki 0)), o 29 (.pick (.t 26) (kb true) (.t 28))]) (.cond (.t 29) .skip (.exit 0))) c_field_GF_AddL0_1
abbrev c_field_GF_Add_6 : SC := .ret
abbrev c_field_GF_Add_5 : SC := .seq (.reg [o 76 (.mv (.t 7)), o 6 (.mv (.t 76))]) c_field_GF_Add_6
abbrev c_field_GF_Add_4 : SC := .seq (.block 0 (.loop c_field_GF_AddL0_0)) c_field_GF_Add_5
abbrev c_field_GF_Add_3 : SC := .seq (.reg [o 7 (.mv (ki 0)), o 8 (.mv (ki 1))]) c_field_GF_Add_4
abbrev c_field_GF_Add_2 : SC := .seq (.seq (.reg [o 15 (.mv (.t 0)), o 16 (.nc (.t 15)), o 17 (.fadr (.t 16) 0), o 18 (.fadr (.t 17) 0), o 19 (.ld (.t 18) 1 false), o 20 (.bin .eql (.t 19) (ki 2))]) (.cond (.t 20) (.seq (.reg [o 21 (.mv (.t 1)), o 22 (.mv (.t 2)), o 23 (.bin .xor (.t 21) (.t 22)), o 6 (.mv (.t 23))]) .ret) .skip)) c_field_GF_Add_3
abbrev c_field_GF_Add_1 : SC := .seq (.reg [o 9 (.mv (.t 0)), o 10 (.mv (.t 1)), o 11 (.call (.f n_field_GF_in) [.t 9, .t 10]), o 12 (.mv (.t 0)), o 13 (.mv (.t 2)), o 14 (.call (.f n_field_GF_in) [.t 12, .t 13]), o 1 (.mv (.t 11)), o 2 (.mv (.t 14))]) c_field_GF_Add_2
abbrev c_field_GF_Add_0 : SC := .seq (.reg [o 6 (.mv (ki 0))]) c_field_GF_Add_1
theorem cf_field_GF_Add : cfun Go.Proofs.Try.prog md n_field_GF_Add = some ⟨3, 77, c_field_GF_Add_0.erase, [.t 6]⟩ := by kernel_rfl
-- field_GF_Neg
abbrev c_field_GF_NegL0_1 : SC := (.block 1 (.seq (.reg [o 12 (.mv (.t 5)), o 13 (.mv (.t 0)), o 14 (.nc (.t 13)), o 15 (.fadr (.t 14) 0), o 16 (.fadr (.t 15) 0), o 18 (.mv (.t 1)), o 19 (.mv (.t 0)), o 20 (.nc (.t 19)), o 21 (.fadr (.t 20) 0), o 22 (.fadr (.t 21) 0), o 26 (.mv (.t 0)), o 27 (.nc (.t 26)), o 28 (.fadr (.t 27) 0), o 29 (.fadr (.t 28) 0), o 32 (.mv (.t 6)), o 17 (.ld (.t 16) 1 false), o 23 (.ld (.t 22) 1 false), o 24 (.bin .rem (.t 18) (.t 23)), o 25 (.bin .sub (.t 17) (.t 24)), o 30 (.ld (.t 29) 1 false), o 31 (.bin .rem (.t 25) (.t 30)), o 33 (.bin .mul (.t 31) (.t 32)), o 34 (.bin .add (.t 12) (.t 33)), o 5 (.mv (.t 34))]) (.seq (.reg [o 35 (.mv (.t 6)), o 36 (.mv (.t 0)), o 37 (.nc (.t 36)), o 38 (.fadr (.t 37) 0), o 39 (.fadr (.t 38) 0), o 40 (.ld (.t 39) 1 false), o 41 (.bin .mul (.t 35) (.t 40)), o 6 (.mv (.t 41))]) (.reg [o 42 (.mv (.t 1)), o 43 (.mv (.t 0)), o 44 (.nc (.t 43)), o 45 (.fadr (.t 44) 0), o 46 (.fadr (.t 45) 0), o 47 (.ld (.t 46) 1 false), o 48 (.bin .quo (.t 42) (.t 47)), o 1 (.mv (.t 48))]))))
abbrev c_field_GF_NegL0_0 : SC := .seq (.seq (.reg [o 10 (.mv (.t 1)), o 11 (.bin .gtr (.t 10) (ki 0))]) (.cond (.t 11) .skip (.exit 0))) c_field_GF_NegL0_1
abbrev c_field_GF_Neg_5 : SC := .ret
abbrev c_field_GF_Neg_4 : SC := .seq (.reg [o 49 (.mv (.t 5)), o 4 (.mv (.t 49))]) c_field_GF_Neg_5
abbrev c_field_GF_Neg_3 : SC := .seq (.block 0 (.loop c_field_GF_NegL0_0)) c_field_GF_Neg_4
abbrev c_field_GF_Neg_2 : SC := .seq (.reg [o 5 (.mv (ki 0)), o 6 (.mv (ki 1))]) c_field_GF_Neg_3
abbrev c_field_GF_Neg_1 : SC := .seq (.reg [o 7 (.mv (.t 0)), o 8 (.mv (.t 1)), o 9 (.call (.f n_field_GF_in) [.t 7, .t 8]), o 1 (.mv (.t 9))]) c_field_GF_Neg_2
abbrev c_field_GF_Neg_0 : SC := .seq (.reg [o 4 (.mv (ki 0))]) c_field_GF_Neg_1
theorem cf_field_GF_Neg : cfun Go.Proofs.Try.prog md n_field_GF_Neg = some ⟨2, 50, c_field_GF_Neg_0.erase, [.t 4]⟩ := by kernel_rfl
-- field_GF_Sub
abbrev c_field_GF_Sub_2 : SC := .ret
abbrev c_field_GF_Sub_1 : SC := .seq (.reg [o 7 (.mv (.t 0)), o 8 (.mv (.t 1)), o 9 (.mv (.t 0)), o 10 (.mv (.t 2)), o 11 (.call (.f n_field_GF_Neg) [.t 9, .t 10]), o 12 (.call (.f n_field_GF_Add) [.t 7, .t 8, .t 11]), o 6 (.mv (.t 12))]) c_field_GF_Sub_2
abbrev c_field_GF_Sub_0 : SC := .seq (.reg [o 6 (.mv (ki 0))]) c_field_GF_Sub_1
theorem cf_field_GF_Sub : cfun Go.Proofs.Try.prog md n_field_GF_Sub = some ⟨3, 13, c_field_GF_Sub_0.erase, [.t 6]⟩ := by kernel_rfl
-- field_GF_Mul
abbrev c_field_GF_Mul_4 : SC := .ret
abbrev c_field_GF_Mul_3 : SC := .seq (.reg [o 19 (.mv (.t 0)), o 20 (.nc (.t 19)), o 21 (.fadr (.t 20) 4), o 23 (.mv (.t 0)), o 24 (.nc (.t 23)), o 25 (.fadr (.t 24) 5), o 27 (.mv (.t 1)), o 30 (.mv (.t 0)), o 31 (.nc (.t 30)), o 32 (.fadr (.t 31) 5), o 34 (.mv (.t 2)), o 38 (.mv (.t 0)), o 39 (.nc (.t 38)), o 40 (.fadr (.t 39) 3), o 22 (.ld (.t 21) 1 false), o 26 (.ld (.t 25) 1 false), o 28 (.iadr (.t 26) (.t 27) 1), o 29 (.ld (.t 28) 1 false), o 33 (.ld (.t 32) 1 false), o 35 (.iadr (.t 33) (.t 34) 1), o 36 (.ld (.t 35) 1 false), o 37 (.bin .add (.t 29) (.t 36)), o 41 (.ld (.t 40) 1 false), o 42 (.bin .sub (.t 41) (ki 1)), o 43 (.bin .rem (.t 37) (.t 42)), o 44 (.iadr (.t 22) (.t 43) 1), o 45 (.ld (.t 44) 1 false), o 6 (.mv (.t 45))]) c_field_GF_Mul_4
abbrev c_field_GF_Mul_2 : SC := .seq (.seq (.reg [o 13 (.mv (.t 1)), o 14 (.bin .eql (.t 13) (ki 0)), o 15 (.mv (.t 14)), og 15 false 0 16 (.mv (.t 2)), og 15 false 0 17 (.bin .eql (.t 16) (ki 0)), o 18 (.pick (.t 15) (kb true) (.t 17))]) (.cond (.t 18) (.seq (.reg [o 6 (.mv (ki 0))]) .ret) .skip)) c_field_GF_Mul_3
abbrev c_field_GF_Mul_1 : SC := .seq (.reg [o 7 (.mv (.t 0)), o 8 (.mv (.t 1)), o 9 (.call (.f n_field_GF_in) [.t 7, .t 8]), o 10 (.mv (.t 0)), o 11 (.mv (.t 2)), o 12 (.call (.f n_field_GF_in) [.t 10, .t 11]), o 1 (.mv (.t 9)), o 2 (.mv (.t 12))]) c_field_GF_Mul_2
abbrev c_field_GF_Mul_0 : SC := .seq (.reg [o 6 (.mv (ki 0))]) c_field_GF_Mul_1
theorem cf_field_GF_Mul : cfun Go.Proofs.Try.prog md n_field_GF_Mul = some ⟨3, 46, c_field_GF_Mul_0.erase, [.t 6]⟩ := by kernel_rfl
-- field_GF_Inv
abbrev c_field_GF_Inv_4 : SC := .ret
abbrev c_field_GF_Inv_3 : SC := .seq (.reg [o 11 (.mv (.t 0)), o 12 (.nc (.t 11)), o 13 (.fadr (.t 12) 4), o 15 (.mv (.t 0)), o 16 (.nc (.t 15)), o 17 (.fadr (.t 16) 3), o 20 (.mv (.t 0)), o 21 (.nc (.t 20)), o 22 (.fadr (.t 21) 5), o 24 (.mv (.t 1)), o 28 (.mv (.t 0)), o 29 (.nc (.t 28)), o 30 (.fadr (.t 29) 3), o 14 (.ld (.t 13) 1 false), o 18 (.ld (.t 17) 1 false), o 19 (.bin .sub (.t 18) (ki 1)), o 23 (.ld (.t 22) 1 false), o 25 (.iadr (.t 23) (.t 24) 1), o 26 (.ld (.t 25) 1 false), o 27 (.bin .sub (.t 19) (.t 26)), o 31 (.ld (.t 30) 1 false), o 32 (.bin .sub (.t 31) (ki 1)), o 33 (.bin .rem (.t 27) (.t 32)), o 34 (.iadr (.t 14) (.t 33) 1), o 35 (.ld (.t 34) 1 false), o 4 (.mv (.t 35)), o 5 (.mv (ki 0))]) c_field_GF_Inv_4
abbrev c_field_GF_Inv_2 : SC := .seq (.seq (.reg [o 9 (.mv (.t 1)), o 10 (.bin .eql (.t 9) (ki 0))]) (.cond (.t 10) (.seq (.reg [o 4 (.mv (ki 0)), o 5 (.mv (ki 7))]) .ret) .skip)) c_field_GF_Inv_3
abbrev c_field_GF_Inv_1 : SC := .seq (.reg [o 6 (.mv (.t 0)), o 7 (.mv (.t 1)), o 8 (.call (.f n_field_GF_in) [.t 6, .t 7]), o 1 (.mv (.t 8))]) c_field_GF_Inv_2
abbrev c_field_GF_Inv_0 : SC := .seq (.reg [o 4 (.mv (ki 0)), o 5 (.mv (ki 0))]) c_field_GF_Inv_1
theorem cf_field_GF_Inv : cfun Go.Proofs.Try.prog md n_field_GF_Inv = some ⟨2, 36, c_field_GF_Inv_0.erase, [.t 4, .t 5]⟩ := by kernel_rfl
-- field_GF_Div
abbrev c_field_GF_Div_4 : SC := .ret
abbrev c_field_GF_Div_3 : SC := .seq (.reg [o 19 (.mv (.t 0)), o 20 (.mv (.t 1)), o 21 (.mv (.t 8)), o 22 (.call (.f n_field_GF_Mul) [.t 19, .t 20, .t 21]), o 6 (.mv (.t 22)), o 7 (.mv (ki 0))]) c_field_GF_Div_4
abbrev c_field_GF_Div_2 : SC := .seq (.seq (.reg [o 16 (.mv (.t 9)), o 17 (.bin .neq (.t 16) (ki 0))]) (.cond (.t 17) (.seq (.reg [o 18 (.mv (.t 9)), o 6 (.mv (ki 0)), o 7 (.mv (.t 18))]) .ret) .skip)) c_field_GF_Div_3
abbrev c_field_GF_Div_1 : SC := .seq (.reg [o 11 (.mv (.t 0)), o 12 (.mv (.t 2)), o 13 (.call (.f n_field_GF_Inv) [.t 11, .t 12]), o 10 (.mv (.t 13)), o 14 (.ext (.t 10) 0), o 15 (.ext (.t 10) 1), o 8 (.mv (.t 14)), o 9 (.mv (.t 15))]) c_field_GF_Div_2
abbrev c_field_GF_Div_0 : SC := .seq (.reg [o 6 (.mv (ki 0)), o 7 (.mv (ki 0))]) c_field_GF_Div_1
theorem cf_field_GF_Div : cfun Go.Proofs.Try.prog md n_field_GF_Div = some ⟨3, 23, c_field_GF_Div_0.erase, [.t 6, .t 7]⟩ := by kernel_rfl
-- field_GF_Dot
abbrev c_field_GF_DotL0_3 : SC := (.reg [o 30 (.bin .add (.t 14) (ki 1)), o 14 (.mv (.t 30))])
abbrev c_field_GF_DotL0_2 : SC := .seq (.block 1 (.seq (.reg [o 16 (.mv (.t 14)), o 8 (.mv (.t 16))]) (.reg [o 17 (.mv (.t 0)), o 18 (.mv (.t 7)), o 19 (.mv (.t 0)), o 20 (.mv (.t 1)), o 21 (.mv (.t 8)), o 22 (.iadr (.t 20) (.t 21) 1), o 24 (.mv (.t 2)), o 25 (.mv (.t 8)), o 26 (.iadr (.t 24) (.t 25) 1), o 23 (.ld (.t 22) 1 false), o 27 (.ld (.t 26) 1 false), om 1 28 (.call (.f n_field_GF_Mul) [.t 19, .t 23, .t 27]), om 1 29 (.call (.f n_field_GF_Add) [.t 17, .t 18, .t 28]), o 7 (.mv (.t 29))]))) c_field_GF_DotL0_3
abbrev c_field_GF_DotL0_1 : SC := .seq (.cond (.t 15) .skip (.exit 0)) c_field_GF_DotL0_2
abbrev c_field_GF_DotL0_0 : SC := .seq (.reg [o 15 (.bin .lss (.t 14) (.t 13))]) c_field_GF_DotL0_1
abbrev c_field_GF_Dot_4 : SC := .ret
abbrev c_field_GF_Dot_3 : SC := .seq (.reg [o 31 (.mv (.t 7)), o 6 (.mv (.t 31))]) c_field_GF_Dot_4
abbrev c_field_GF_Dot_2 : SC := .seq (.seq (.reg [o 9 (.mv (.t 1)), o 10 (.len (.t 9)), o 11 (.mv (.t 2)), o 12 (.len (.t 11)), o 13 (.min (.t 10) (.t 12)), o 14 (.mv (ki 0))]) (.block 0 (.loop c_field_GF_DotL0_0))) c_field_GF_Dot_3
abbrev c_field_GF_Dot_1 : SC := .seq (.reg [o 7 (.mv (ki 0))]) c_field_GF_Dot_2
abbrev c_field_GF_Dot_0 : SC := .seq (.reg [o 6 (.mv (ki 0))]) c_field_GF_Dot_1
theorem cf_field_GF_Dot : cfun Go.Proofs.Try.prog md n_field_GF_Dot = some ⟨3, 32, c_field_GF_Dot_0.erase, [.t 6]⟩ := by kernel_rfl
-- field_GF_Scale
abbrev c_field_GF_ScaleL0_3 : SC := (.reg [o 27 (.bin .add (.t 15) (ki 1)), o 15 (.mv (.t 27))])
abbrev c_field_GF_ScaleL0_2 : SC := .seq (.block 1 (.seq (.reg [o 17 (.mv (.t 15)), o 18 (.iadr (.t 13) (.t 15) 1), o 19 (.ld (.t 18) 1 false), o 8 (.mv (.t 17)), o 9 (.mv (.t 19))]) (.reg [o 20 (.mv (.t 7)), o 21 (.mv (.t 8)), o 22 (.mv (.t 0)), o 23 (.mv (.t 1)), o 24 (.mv (.t 9)), o 25 (.call (.f n_field_GF_Mul) [.t 22, .t 23, .t 24]), o 26 (.iadr (.t 20) (.t 21) 1), os (.st (.t 26) (.t 25) 1)]))) c_field_GF_ScaleL0_3
abbrev c_field_GF_ScaleL0_1 : SC := .seq (.cond (.t 16) .skip (.exit 0)) c_field_GF_ScaleL0_2
abbrev c_field_GF_ScaleL0_0 : SC := .seq (.reg [o 16 (.bin .lss (.t 15) (.t 14))]) c_field_GF_ScaleL0_1
abbrev c_field_GF_Scale_4 : SC := .ret
abbrev c_field_GF_Scale_3 : SC := .seq (.reg [o 28 (.mv (.t 7)), o 6 (.mv (.t 28))]) c_field_GF_Scale_4
abbrev c_field_GF_Scale_2 : SC := .seq (.seq (.reg [o 13 (.mv (.t 2)), o 14 (.len (.t 13)), o 15 (.mv (ki 0))]) (.block 0 (.loop c_field_GF_ScaleL0_0))) c_field_GF_Scale_3
abbrev c_field_GF_Scale_1 : SC := .seq (.reg [o 10 (.mv (.t 2)), o 11 (.len (.t 10)), o 12 (.mks (.t 11) 1 [I 0]), o 7 (.mv (.t 12))]) c_field_GF_Scale_2
abbrev c_field_GF_Scale_0 : SC := .seq (.reg [o 6 (.mv (.k .nils))]) c_field_GF_Scale_1
theorem cf_field_GF_Scale : cfun Go.Proofs.Try.prog md n_field_GF_Scale = some ⟨3, 29, c_field_GF_Scale_0.erase, [.t 6]⟩ := by kernel_rfl
-- ref04_Add
abbrev c_ref04_AddL0_2 : SC := (.reg [o 20 (.mv (.t 9)), o 21 (.bin .add (.t 20) (ki 1)), o 9 (.mv (.t 21))])
abbrev c_ref04_AddL0_1 : SC := .seq (.block 1 (.reg [o 22 (.mv (.t 7)), o 23 (.mv (.t 9)), o 24 (.mv (.t 7)), o 25 (.mv (.t 9)), o 26 (.iadr (.t 24) (.t 25) 1), o 28 (.mv (.t 8)), o 29 (.mv (.t 9)), o 30 (.iadr (.t 28) (.t 29) 1), o 33 (.fadr (.t 3) 0), o 27 (.ld (.t 26) 1 false), o 31 (.ld (.t 30) 1 false), o 32 (.bin .add (.t 27) (.t 31)), o 34 (.ld (.t 33) 1 false), o 35 (.bin .rem (.t 32) (.t 34)), o 36 (.iadr (.t 22) (.t 23) 1), os (.st (.t 36) (.t 35) 1)])) c_ref04_AddL0_2
abbrev c_ref04_AddL0_0 : SC := .seq (.seq (.reg [o 16 (.mv (.t 9)), o 17 (.mv (.t 7)), o 18 (.len (.t 17)), o 19 (.bin .lss (.t 16) (.t 18))]) (.cond (.t 19) .skip (.exit 0))) c_ref04_AddL0_1
abbrev c_ref04_Add_5 : SC := .ret
abbrev c_ref04_Add_4 : SC := .fz [7] (.seq (.reg [o 37 (.ld (.t 3) 3 true), o 38 (.mv (.t 7)), o 39 (.call (.f n_ref04_Value) [.t 37, .t 38]), o 6 (.mv (.t 39))]) c_ref04_Add_5)
abbrev c_ref04_Add_3 : SC := .seq (.seq (.reg [o 9 (.mv (ki 0))]) (.block 0 (.loop c_ref04_AddL0_0))) c_ref04_Add_4
abbrev c_ref04_Add_2 : SC := .seq (.reg [o 13 (.ld (.t 3) 3 true), o 14 (.mv (.t 2)), o 15 (.call (.f n_ref04_Digits) [.t 13, .t 14]), o 8 (.mv (.t 15))]) c_ref04_Add_3
abbrev c_ref04_Add_1 : SC := .seq (.reg [o 10 (.ld (.t 3) 3 true), o 11 (.mv (.t 1)), o 12 (.call (.f n_ref04_Digits) [.t 10, .t 11]), o 7 (.mv (.t 12))]) c_ref04_Add_2
abbrev c_ref04_Add_0 : SC := .seq (.reg [o 3 (.box (.t 0)), o 6 (.mv (ki 0))]) c_ref04_Add_1
theorem cf_ref04_Add : cfun Go.Proofs.Try.prog md n_ref04_Add = some ⟨3, 40, c_ref04_Add_0.erase, [.t 6]⟩ := by kernel_rfl
-- ref04_Neg
abbrev c_ref04_NegL0_2 : SC := (.reg [o 14 (.mv (.t 6)), o 15 (.bin .add (.t 14) (ki 1)), o 6 (.mv (.t 15))])
abbrev c_ref04_NegL0_1 : SC := .seq (.block 1 (.reg [o 16 (.mv (.t 5)), o 17 (.mv (.t 6)), o 18 (.fadr (.t 2) 0), o 20 (.mv (.t 5)), o 21 (.mv (.t 6)), o 22 (.iadr (.t 20) (.t 21) 1), o 25 (.fadr (.t 2) 0), o 19 (.ld (.t 18) 1 false), o 23 (.ld (.t 22) 1 false), o 24 (.bin .sub (.t 19) (.t 23)), o 26 (.ld (.t 25) 1 false), o 27 (.bin .rem (.t 24) (.t 26)), o 28 (.iadr (.t 16) (.t 17) 1), os (.st (.t 28) (.t 27) 1)])) c_ref04_NegL0_2
abbrev c_ref04_NegL0_0 : SC := .seq (.seq (.reg [o 10 (.mv (.t 6)), o 11 (.mv (.t 5)), o 12 (.len (.t 11)), o 13 (.bin .lss (.t 10) (.t 12))]) (.cond (.t 13) .skip (.exit 0))) c_ref04_NegL0_1
abbrev c_ref04_Neg_4 : SC := .ret
abbrev c_ref04_Neg_3 : SC := .fz [5] (.seq (.reg [o 29 (.ld (.t 2) 3 true), o 30 (.mv (.t 5)), o 31 (.call (.f n_ref04_Value) [.t 29, .t 30]), o 4 (.mv (.t 31))]) c_ref04_Neg_4)
abbrev c_ref04_Neg_2 : SC := .seq (.seq (.reg [o 6 (.mv (ki 0))]) (.block 0 (.loop c_ref04_NegL0_0))) c_ref04_Neg_3
abbrev c_ref04_Neg_1 : SC := .seq (.reg [o 7 (.ld (.t 2) 3 true), o 8 (.mv (.t 1)), o 9 (.call (.f n_ref04_Digits) [.t 7, .t 8]), o 5 (.mv (.t 9))]) c_ref04_Neg_2
abbrev c_ref04_Neg_0 : SC := .seq (.reg [o 2 (.box (.t 0)), o 4 (.mv (ki 0))]) c_ref04_Neg_1
theorem cf_ref04_Neg : cfun Go.Proofs.Try.prog md n_ref04_Neg = some ⟨2, 32, c_ref04_Neg_0.erase, [.t 4]⟩ := by kernel_rfl
-- ref04_Inv
abbrev c_ref04_InvL0_2 : SC := (.reg [o 10 (.mv (.t 5)), o 11 (.bin .add (.t 10) (ki 1)), o 5 (.mv (.t 11))])
abbrev c_ref04_InvL0_1 : SC := .seq (.block 1 (.seq (.reg [o 12 (.ld (.t 2) 3 true), o 13 (.mv (.t 1)), o 14 (.mv (.t 5)), o 15 (.call (.f n_ref04_Mul) [.t 12, .t 13, .t 14]), o 16 (.bin .eql (.t 15) (ki 1))]) (.cond (.t 16) (.seq (.reg [o 17 (.mv (.t 5)), o 4 (.mv (.t 17))]) .ret) .skip))) c_ref04_InvL0_2
abbrev c_ref04_InvL0_0 : SC := .seq (.seq (.reg [o 6 (.mv (.t 5)), o 7 (.ld (.t 2) 3 true), o 8 (.call (.f n_ref04_Order) [.t 7]), o 9 (.bin .lss (.t 6) (.t 8))]) (.cond (.t 9) .skip (.exit 0))) c_ref04_InvL0_1
abbrev c_ref04_Inv_3 : SC := .ret
abbrev c_ref04_Inv_2 : SC := .seq (.reg [o 4 (.mv (ki 0))]) c_ref04_Inv_3
abbrev c_ref04_Inv_1 : SC := .seq (.seq (.reg [o 5 (.mv (ki 1))]) (.block 0 (.loop c_ref04_InvL0_0))) c_ref04_Inv_2
abbrev c_ref04_Inv_0 : SC := .seq (.reg [o 2 (.box (.t 0)), o 4 (.mv (ki 0))]) c_ref04_Inv_1
theorem cf_ref04_Inv : cfun Go.Proofs.Try.prog md n_ref04_Inv = some ⟨2, 18, c_ref04_Inv_0.erase, [.t 4]⟩ := by kernel_rfl
-- ref04_Dot
abbrev c_ref04_DotL0_2 : SC := (.reg [o 19 (.mv (.t 8)), o 20 (.bin .add (.t 19) (ki 1)), o 8 (.mv (.t 20))])
abbrev c_ref04_DotL0_1 : SC := .seq (.block 1 (.reg [o 22 (.mv (.t 7)), o 24 (.mv (.t 1)), o 25 (.mv (.t 8)), o 26 (.iadr (.t 24) (.t 25) 1), o 28 (.mv (.t 2)), o 29 (.mv (.t 8)), o 30 (.iadr (.t 28) (.t 29) 1), o 21 (.ld (.t 3) 3 true), o 23 (.ld (.t 3) 3 true), o 27 (.ld (.t 26) 1 false), o 31 (.ld (.t 30) 1 false), om 1 32 (.call (.f n_ref04_Mul) [.t 23, .t 27, .t 31]), om 1 33 (.call (.f n_ref04_Add) [.t 21, .t 22, .t 32]), o 7 (.mv (.t 33))])) c_ref04_DotL0_2
abbrev c_ref04_DotL0_0 : SC := .seq (.seq (.reg [o 9 (.mv (.t 8)), o 10 (.mv (.t 1)), o 11 (.len (.t 10)), o 12 (.bin .lss (.t 9) (.t 11)), o 13 (.mv (.t 12)), og 13 true 0 14 (.mv (.t 8)), og 13 true 0 15 (.mv (.t 2)), og 13 true 0 16 (.len (.t 15)), og 13 true 0 17 (.bin .lss (.t 14) (.t 16)), o 18 (.pick (.t 13) (.t 17) (kb false))]) (.cond (.t 18) .skip (.exit 0))) c_ref04_DotL0_1
abbrev c_ref04_Dot_4 : SC := .ret
abbrev c_ref04_Dot_3 : SC := .seq (.reg [o 34 (.mv (.t 7)), o 6 (.mv (.t 34))]) c_ref04_Dot_4
abbrev c_ref04_Dot_2 : SC := .seq (.seq (.reg [o 8 (.mv (ki 0))]) (.block 0 (.loop c_ref04_DotL0_0))) c_ref04_Dot_3
abbrev c_ref04_Dot_1 : SC := .seq (.reg [o 7 (.mv (ki 0))]) c_ref04_Dot_2
abbrev c_ref04_Dot_0 : SC := .seq (.reg [o 3 (.box (.t 0)), o 6 (.mv (ki 0))]) c_ref04_Dot_1
theorem cf_ref04_Dot : cfun Go.Proofs.Try.prog md n_ref04_Dot = some ⟨3, 35, c_ref04_Dot_0.erase, [.t 6]⟩ := by kernel_rfl
end Go.AM.Ytmihmgnjnedfcaa
