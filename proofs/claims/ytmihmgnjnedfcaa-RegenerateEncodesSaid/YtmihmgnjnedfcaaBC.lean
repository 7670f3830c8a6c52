import Derived.Test.YtmihmgnjnedfcaaBB
import Derived.Test.YtmihmgnjnedfcaaBF
import Derived.Test.YtmihmgnjnedfcaaBZ

section
/- Codes of the program, as the conversion gives them. -/
set_option maxRecDepth 100000
namespace Go.AM.Ytmihmgnjnedfcaa
open Go Go.AM
-- field_GF_Add
abbrev c_field_GF_AddL0_1 : SC := (.block 1 (.seq (.reg [o 30 (.mv (.t 7)), o 31 (.mv (.t 1)), o 32 (.mv (.t 0)), o 33 (.nc (.t 32)), o 34 (.fadr (.t 33) 0), o 35 (.fadr (.t 34) 0), o 38 (.mv (.t 2)), o 39 (.mv (.t 0)), o 40 (.nc (.t 39)), o 41 (.fadr (.t 40) 0), o 42 (.fadr (.t 41) 0), o 46 (.mv (.t 0)), o 47 (.nc (.t 46)), o 48 (.fadr (.t 47) 0), o 49 (.fadr (.t 48) 0), o 52 (.mv (.t 8)), o 36 (.ld (.t 35) 1 false), o 37 (.bin .rem (.t 31) (.t 36)), o 43 (.ld (.t 42) 1 false), o 44 (.bin .rem (.t 38) (.t 43)), o 45 (.bin .add (.t 37) (.t 44)), o 50 (.ld (.t 49) 1 false), o 51 (.bin .rem (.t 45) (.t 50)), o 53 (.bin .mul (.t 51) (.t 52)), o 54 (.bin .add (.t 30) (.t 53)), o 7 (.mv (.t 54))]) (.seq (.reg [o 55 (.mv (.t 8)), o 56 (.mv (.t 0)), o 57 (.nc (.t 56)), o 58 (.fadr (.t 57) 0), o 59 (.fadr (.t 58) 0), o 60 (.ld (.t 59) 1 false), o 61 (.bin .mul (.t 55) (.t 60)), o 8 (.mv (.t 61))]) (.seq (.reg [o 62 (.mv (.t 1)), o 63 (.mv (.t 0)), o 64 (.nc (.t 63)), o 65 (.fadr (.t 64) 0), o 66 (.fadr (.t 65) 0), o 67 (.ld (.t 66) 1 false), o 68 (.bin .quo (.t 62) (.t 67)), o 1 (.mv (.t 68))]) (.reg [o 69 (.mv (.t 2)), o 70 (.mv (.t 0)), o 71 (.nc (.t 70)), o 72 (.fadr (.t 71) 0), o 73 (.fadr (.t 72) 0), o 74 (.ld (.t 73) 1 false), o 75 (.bin .quo (.t 69) (.t 74)), o 2 (.mv (.t 75))])))))
abbrev c_field_GF_AddL0_0 : SC := .seq (.seq (.reg [o 24 (.mv (.t 1)), o 25 (.bin .gtr (.t 24) (ki 0)), o 26 (.mv (.t 25)), og 26 false 0 27 (.mv (.t 2)), og 26 false 0 28 (.bin .gtr (.t 27) (ki 0)), o 29 (.pick (.t 26) (kb true) (.t 28))]) (.cond (.t 29) .skip (.exit 0))) c_field_GF_AddL0_1
abbrev c_field_GF_Add_6 : SC := .ret
abbrev c_field_GF_Add_5 : SC := .seq (.reg [o 76 (.mv (.t 7)), o 6 (.mv (.t 76))]) c_field_GF_Add_6
abbrev c_field_GF_Add_4 : SC := .seq (.block 0 (.loop c_field_GF_AddL0_0)) c_field_GF_Add_5
abbrev c_field_GF_Add_3 : SC := .seq (.reg [o 7 (.mv (ki 0)), o 8 (.mv (ki 1))]) c_field_GF_Add_4
abbrev c_field_GF_Add_2 : SC := .seq (.seq (.reg [o 15 (.mv (.t 0)), o 16 (.nc (.t 15)), o 17 (.fadr (.t 16) 0), o 18 (.fadr (.t 17) 0), o 19 (.ld (.t 18) 1 false), o 20 (.bin .eql (.t 19) (ki 2))]) (.cond (.t 20) (.seq (.reg [o 21 (.mv (.t 1)), o 22 (.mv (.t 2)), o 23 (.bin .xor (.t 21) (.t 22)), o 6 (.mv (.t 23))]) .ret) .skip)) c_field_GF_Add_3
abbrev c_field_GF_Add_1 : SC := .seq (.reg [o 9 (.mv (.t 0)), o 10 (.mv (.t 1)), o 11 (.call (.f n_field_GF_in) [.t 9, .t 10]), o 12 (.mv (.t 0)), o 13 (.mv (.t 2)), o 14 (.call (.f n_field_GF_in) [.t 12, .t 13]), o 1 (.mv (.t 11)), o 2 (.mv (.t 14))]) c_field_GF_Add_2
abbrev c_field_GF_Add_0 : SC := .seq (.reg [o 6 (.mv (ki 0))]) c_field_GF_Add_1
theorem cf_field_GF_Add : cfun Go.Proofs.Try.prog md n_field_GF_Add = some ⟨3, 77, c_field_GF_Add_0.erase, [.t 6]⟩ := by kernel_rfl
-- field_GF_Neg
abbrev c_field_GF_NegL0_1 : SC := (.block 1 (.seq (.reg [o 12 (.mv (.t 5)), o 13 (.mv (.t 0)), o 14 (.nc (.t 13)), o 15 (.fadr (.t 14) 0), o 16 (.fadr (.t 15) 0), o 18 (.mv (.t 1)), o 19 (.mv (.t 0)), o 20 (.nc (.t 19)), o 21 (.fadr (.t 20) 0), o 22 (.fadr (.t 21) 0), o 26 (.mv (.t 0)), o 27 (.nc (.t 26)), o 28 (.fadr (.t 27) 0), o 29 (.fadr (.t 28) 0), o 32 (.mv (.t 6)), o 17 (.ld (.t 16) 1 false), o 23 (.ld (.t 22) 1 false), o 24 (.bin .rem (.t 18) (.t 23)), o 25 (.bin .sub (.t 17) (.t 24)), o 30 (.ld (.t 29) 1 false), o 31 (.bin .rem (.t 25) (.t 30)), o 33 (.bin .mul (.t 31) (.t 32)), o 34 (.bin .add (.t 12) (.t 33)), o 5 (.mv (.t 34))]) (.seq (.reg [o 35 (.mv (.t 6)), o 36 (.mv (.t 0)), o 37 (.nc (.t 36)), o 38 (.fadr (.t 37) 0), o 39 (.fadr (.t 38) 0), o 40 (.ld (.t 39) 1 false), o 41 (.bin .mul (.t 35) (.t 40)), o 6 (.mv (.t 41))]) (.reg [o 42 (.mv (.t 1)), o 43 (.mv (.t 0)), o 44 (.nc (.t 43)), o 45 (.fadr (.t 44) 0), o 46 (.fadr (.t 45) 0), o 47 (.ld (.t 46) 1 false), o 48 (.bin .quo (.t 42) (.t 47)), o 1 (.mv (.t 48))]))))
abbrev c_field_GF_NegL0_0 : SC := .seq (.seq (.reg [o 10 (.mv (.t 1)), o 11 (.bin .gtr (.t 10) (ki 0))]) (.cond (.t 11) .skip (.exit 0))) c_field_GF_NegL0_1
abbrev c_field_GF_Neg_5 : SC := .ret
abbrev c_field_GF_Neg_4 : SC := .seq (.reg [o 49 (.mv (.t 5)), o 4 (.mv (.t 49))]) c_field_GF_Neg_5
abbrev c_field_GF_Neg_3 : SC := .seq (.block 0 (.loop c_field_GF_NegL0_0)) c_field_GF_Neg_4
abbrev c_field_GF_Neg_2 : SC := .seq (.reg [o 5 (.mv (ki 0)), o 6 (.mv (ki 1))]) c_field_GF_Neg_3
abbrev c_field_GF_Neg_1 : SC := .seq (.reg [o 7 (.mv (.t 0)), o 8 (.mv (.t 1)), o 9 (.call (.f n_field_GF_in) [.t 7, .t 8]), o 1 (.mv (.t 9))]) c_field_GF_Neg_2
abbrev c_field_GF_Neg_0 : SC := .seq (.reg [o 4 (.mv (ki 0))]) c_field_GF_Neg_1
theorem cf_field_GF_Neg : cfun Go.Proofs.Try.prog md n_field_GF_Neg = some ⟨2, 50, c_field_GF_Neg_0.erase, [.t 4]⟩ := by kernel_rfl
-- field_GF_Sub
abbrev c_field_GF_Sub_2 : SC := .ret
abbrev c_field_GF_Sub_1 : SC := .seq (.reg [o 7 (.mv (.t 0)), o 8 (.mv (.t 1)), o 9 (.mv (.t 0)), o 10 (.mv (.t 2)), o 11 (.call (.f n_field_GF_Neg) [.t 9, .t 10]), o 12 (.call (.f n_field_GF_Add) [.t 7, .t 8, .t 11]), o 6 (.mv (.t 12))]) c_field_GF_Sub_2
abbrev c_field_GF_Sub_0 : SC := .seq (.reg [o 6 (.mv (ki 0))]) c_field_GF_Sub_1
theorem cf_field_GF_Sub : cfun Go.Proofs.Try.prog md n_field_GF_Sub = some ⟨3, 13, c_field_GF_Sub_0.erase, [.t 6]⟩ := by kernel_rfl
-- field_GF_Mul
abbrev c_field_GF_Mul_4 : SC := .ret
abbrev c_field_GF_Mul_3 : SC := .seq (.reg [o 19 (.mv (.t 0)), o 20 (.nc (.t 19)), o 21 (.fadr (.t 20) 4), o 23 (.mv (.t 0)), o 24 (.nc (.t 23)), o 25 (.fadr (.t 24) 5), o 27 (.mv (.t 1)), o 30 (.mv (.t 0)), o 31 (.nc (.t 30)), o 32 (.fadr (.t 31) 5), o 34 (.mv (.t 2)), o 38 (.mv (.t 0)), o 39 (.nc (.t 38)), o 40 (.fadr (.t 39) 3), o 22 (.ld (.t 21) 1 false), o 26 (.ld (.t 25) 1 false), o 28 (.iadr (.t 26) (.t 27) 1), o 29 (.ld (.t 28) 1 false), o 33 (.ld (.t 32) 1 false), o 35 (.iadr (.t 33) (.t 34) 1), o 36 (.ld (.t 35) 1 false), o 37 (.bin .add (.t 29) (.t 36)), o 41 (.ld (.t 40) 1 false), o 42 (.bin .sub (.t 41) (ki 1)), o 43 (.bin .rem (.t 37) (.t 42)), o 44 (.iadr (.t 22) (.t 43) 1), o 45 (.ld (.t 44) 1 false), o 6 (.mv (.t 45))]) c_field_GF_Mul_4
abbrev c_field_GF_Mul_2 : SC := .seq (.seq (.reg [o 13 (.mv (.t 1)), o 14 (.bin .eql (.t 13) (ki 0)), o 15 (.mv (.t 14)), og 15 false 0 16 (.mv (.t 2)), og 15 false 0 17 (.bin .eql (.t 16) (ki 0)), o 18 (.pick (.t 15) (kb true) (.t 17))]) (.cond (.t 18) (.seq (.reg [o 6 (.mv (ki 0))]) .ret) .skip)) c_field_GF_Mul_3
abbrev c_field_GF_Mul_1 : SC := .seq (.reg [o 7 (.mv (.t 0)), o 8 (.mv (.t 1)), o 9 (.call (.f n_field_GF_in) [.t 7, .t 8]), o 10 (.mv (.t 0)), o 11 (.mv (.t 2)), o 12 (.call (.f n_field_GF_in) [.t 10, .t 11]), o 1 (.mv (.t 9)), o 2 (.mv (.t 12))]) c_field_GF_Mul_2
abbrev c_field_GF_Mul_0 : SC := .seq (.reg [o 6 (.mv (ki 0))]) c_field_GF_Mul_1
theorem cf_field_GF_Mul : cfun Go.Proofs.Try.prog md n_field_GF_Mul = some ⟨3, 46, c_field_GF_Mul_0.erase, [.t 6]⟩ := by kernel_rfl
-- field_GF_Inv
abbrev c_field_GF_Inv_4 : SC := .ret
abbrev c_field_GF_Inv_3 : SC := .seq (.reg [o 11 (.mv (.t 0)), o 12 (.nc (.t 11)), o 13 (.fadr (.t 12) 4), o 15 (.mv (.t 0)), o 16 (.nc (.t 15)), o 17 (.fadr (.t 16) 3), o 20 (.mv (.t 0)), o 21 (.nc (.t 20)), o 22 (.fadr (.t 21) 5), o 24 (.mv (.t 1)), o 28 (.mv (.t 0)), o 29 (.nc (.t 28)), o 30 (.fadr (.t 29) 3), o 14 (.ld (.t 13) 1 false), o 18 (.ld (.t 17) 1 false), o 19 (.bin .sub (.t 18) (ki 1)), o 23 (.ld (.t 22) 1 false), o 25 (.iadr (.t 23) (.t 24) 1), o 26 (.ld (.t 25) 1 false), o 27 (.bin .sub (.t 19) (.t 26)), o 31 (.ld (.t 30) 1 false), o 32 (.bin .sub (.t 31) (ki 1)), o 33 (.bin .rem (.t 27) (.t 32)), o 34 (.iadr (.t 14) (.t 33) 1), o 35 (.ld (.t 34) 1 false), o 4 (.mv (.t 35)), o 5 (.mv (ki 0))]) c_field_GF_Inv_4
abbrev c_field_GF_Inv_2 : SC := .seq (.seq (.reg [o 9 (.mv (.t 1)), o 10 (.bin .eql (.t 9) (ki 0))]) (.cond (.t 10) (.seq (.reg [o 4 (.mv (ki 0)), o 5 (.mv (ki 7))]) .ret) .skip)) c_field_GF_Inv_3
abbrev c_field_GF_Inv_1 : SC := .seq (.reg [o 6 (.mv (.t 0)), o 7 (.mv (.t 1)), o 8 (.call (.f n_field_GF_in) [.t 6, .t 7]), o 1 (.mv (.t 8))]) c_field_GF_Inv_2
abbrev c_field_GF_Inv_0 : SC := .seq (.reg [o 4 (.mv (ki 0)), o 5 (.mv (ki 0))]) c_field_GF_Inv_1
theorem cf_field_GF_Inv : cfun Go.Proofs.Try.prog md n_field_GF_Inv = some ⟨2, 36, c_field_GF_Inv_0.erase, [.t 4, .t 5]⟩ := by kernel_rfl
-- field_GF_Div
abbrev c_field_GF_Div_4 : SC := .ret
abbrev c_field_GF_Div_3 : SC := .seq (.reg [o 19 (.mv (.t 0)), o 20 (.mv (.t 1)), o 21 (.mv (.t 8)), o 22 (.call (.f n_field_GF_Mul) [.t 19, .t 20, .t 21]), o 6 (.mv (.t 22)), o 7 (.mv (ki 0))]) c_field_GF_Div_4
abbrev c_field_GF_Div_2 : SC := .seq (.seq (.reg [o 16 (.mv (.t 9)), o 17 (.bin .neq (.t 16) (ki 0))]) (.cond (.t 17) (.seq (.reg [o 18 (.mv (.t 9)), o 6 (.mv (ki 0)), o 7 (.mv (.t 18))]) .ret) .skip)) c_field_GF_Div_3
abbrev c_field_GF_Div_1 : SC := .seq (.reg [o 11 (.mv (.t 0)), o 12 (.mv (.t 2)), o 13 (.call (.f n_field_GF_Inv) [.t 11, .t 12]), o 10 (.mv (.t 13)), o 14 (.ext (.t 10) 0), o 15 (.ext (.t 10) 1), o 8 (.mv (.t 14)), o 9 (.mv (.t 15))]) c_field_GF_Div_2
abbrev c_field_GF_Div_0 : SC := .seq (.reg [o 6 (.mv (ki 0)), o 7 (.mv (ki 0))]) c_field_GF_Div_1
theorem cf_field_GF_Div : cfun Go.Proofs.Try.prog md n_field_GF_Div = some ⟨3, 23, c_field_GF_Div_0.erase, [.t 6, .t 7]⟩ := by kernel_rfl
-- field_GF_Dot
abbrev c_field_GF_DotL0_3 : SC := (.reg [o 30 (.bin .add (.t 14) (ki 1)), o 14 (.mv (.t 30))])
abbrev c_field_GF_DotL0_2 : SC := .seq (.block 1 (.seq (.reg [o 16 (.mv (.t 14)), o 8 (.mv (.t 16))]) (.reg [o 17 (.mv (.t 0)), o 18 (.mv (.t 7)), o 19 (.mv (.t 0)), o 20 (.mv (.t 1)), o 21 (.mv (.t 8)), o 22 (.iadr (.t 20) (.t 21) 1), o 24 (.mv (.t 2)), o 25 (.mv (.t 8)), o 26 (.iadr (.t 24) (.t 25) 1), o 23 (.ld (.t 22) 1 false), o 27 (.ld (.t 26) 1 false), om 1 28 (.call (.f n_field_GF_Mul) [.t 19, .t 23, .t 27]), om 1 29 (.call (.f n_field_GF_Add) [.t 17, .t 18, .t 28]), o 7 (.mv (.t 29))]))) c_field_GF_DotL0_3
abbrev c_field_GF_DotL0_1 : SC := .seq (.cond (.t 15) .skip (.exit 0)) c_field_GF_DotL0_2
abbrev c_field_GF_DotL0_0 : SC := .seq (.reg [o 15 (.bin .lss (.t 14) (.t 13))]) c_field_GF_DotL0_1
abbrev c_field_GF_Dot_4 : SC := .ret
abbrev c_field_GF_Dot_3 : SC := .seq (.reg [o 31 (.mv (.t 7)), o 6 (.mv (.t 31))]) c_field_GF_Dot_4
abbrev c_field_GF_Dot_2 : SC := .seq (.seq (.reg [o 9 (.mv (.t 1)), o 10 (.len (.t 9)), o 11 (.mv (.t 2)), o 12 (.len (.t 11)), o 13 (.min (.t 10) (.t 12)), o 14 (.mv (ki 0))]) (.block 0 (.loop c_field_GF_DotL0_0))) c_field_GF_Dot_3
abbrev c_field_GF_Dot_1 : SC := .seq (.reg [o 7 (.mv (ki 0))]) c_field_GF_Dot_2
abbrev c_field_GF_Dot_0 : SC := .seq (.reg [o 6 (.mv (ki 0))]) c_field_GF_Dot_1
theorem cf_field_GF_Dot : cfun Go.Proofs.Try.prog md n_field_GF_Dot = some ⟨3, 32, c_field_GF_Dot_0.erase, [.t 6]⟩ := by kernel_rfl
-- field_GF_Scale
abbrev c_field_GF_ScaleL0_3 : SC := (.reg [o 27 (.bin .add (.t 15) (ki 1)), o 15 (.mv (.t 27))])
abbrev c_field_GF_ScaleL0_2 : SC := .seq (.block 1 (.seq (.reg [o 17 (.mv (.t 15)), o 18 (.iadr (.t 13) (.t 15) 1), o 19 (.ld (.t 18) 1 false), o 8 (.mv (.t 17)), o 9 (.mv (.t 19))]) (.reg [o 20 (.mv (.t 7)), o 21 (.mv (.t 8)), o 22 (.mv (.t 0)), o 23 (.mv (.t 1)), o 24 (.mv (.t 9)), o 25 (.call (.f n_field_GF_Mul) [.t 22, .t 23, .t 24]), o 26 (.iadr (.t 20) (.t 21) 1), os (.st (.t 26) (.t 25) 1)]))) c_field_GF_ScaleL0_3
abbrev c_field_GF_ScaleL0_1 : SC := .seq (.cond (.t 16) .skip (.exit 0)) c_field_GF_ScaleL0_2
abbrev c_field_GF_ScaleL0_0 : SC := .seq (.reg [o 16 (.bin .lss (.t 15) (.t 14))]) c_field_GF_ScaleL0_1
abbrev c_field_GF_Scale_4 : SC := .ret
abbrev c_field_GF_Scale_3 : SC := .seq (.reg [o 28 (.mv (.t 7)), o 6 (.mv (.t 28))]) c_field_GF_Scale_4
abbrev c_field_GF_Scale_2 : SC := .seq (.seq (.reg [o 13 (.mv (.t 2)), o 14 (.len (.t 13)), o 15 (.mv (ki 0))]) (.block 0 (.loop c_field_GF_ScaleL0_0))) c_field_GF_Scale_3
abbrev c_field_GF_Scale_1 : SC := .seq (.reg [o 10 (.mv (.t 2)), o 11 (.len (.t 10)), o 12 (.mks (.t 11) 1 [I 0]), o 7 (.mv (.t 12))]) c_field_GF_Scale_2
abbrev c_field_GF_Scale_0 : SC := .seq (.reg [o 6 (.mv (.k .nils))]) c_field_GF_Scale_1
theorem cf_field_GF_Scale : cfun Go.Proofs.Try.prog md n_field_GF_Scale = some ⟨3, 29, c_field_GF_Scale_0.erase, [.t 6]⟩ := by kernel_rfl
-- ref04_Add
abbrev c_ref04_AddL0_2 : SC := (.reg [o 20 (.mv (.t 9)), o 21 (.bin .add (.t 20) (ki 1)), o 9 (.mv (.t 21))])
abbrev c_ref04_AddL0_1 : SC := .seq (.block 1 (.reg [o 22 (.mv (.t 7)), o 23 (.mv (.t 9)), o 24 (.mv (.t 7)), o 25 (.mv (.t 9)), o 26 (.iadr (.t 24) (.t 25) 1), o 28 (.mv (.t 8)), o 29 (.mv (.t 9)), o 30 (.iadr (.t 28) (.t 29) 1), o 33 (.fadr (.t 3) 0), o 27 (.ld (.t 26) 1 false), o 31 (.ld (.t 30) 1 false), o 32 (.bin .add (.t 27) (.t 31)), o 34 (.ld (.t 33) 1 false), o 35 (.bin .rem (.t 32) (.t 34)), o 36 (.iadr (.t 22) (.t 23) 1), os (.st (.t 36) (.t 35) 1)])) c_ref04_AddL0_2
abbrev c_ref04_AddL0_0 : SC := .seq (.seq (.reg [o 16 (.mv (.t 9)), o 17 (.mv (.t 7)), o 18 (.len (.t 17)), o 19 (.bin .lss (.t 16) (.t 18))]) (.cond (.t 19) .skip (.exit 0))) c_ref04_AddL0_1
abbrev c_ref04_Add_5 : SC := .ret
abbrev c_ref04_Add_4 : SC := .fz [7] (.seq (.reg [o 37 (.ld (.t 3) 3 true), o 38 (.mv (.t 7)), o 39 (.call (.f n_ref04_Value) [.t 37, .t 38]), o 6 (.mv (.t 39))]) c_ref04_Add_5)
abbrev c_ref04_Add_3 : SC := .seq (.seq (.reg [o 9 (.mv (ki 0))]) (.block 0 (.loop c_ref04_AddL0_0))) c_ref04_Add_4
abbrev c_ref04_Add_2 : SC := .seq (.reg [o 13 (.ld (.t 3) 3 true), o 14 (.mv (.t 2)), o 15 (.call (.f n_ref04_Digits) [.t 13, .t 14]), o 8 (.mv (.t 15))]) c_ref04_Add_3
abbrev c_ref04_Add_1 : SC := .seq (.reg [o 10 (.ld (.t 3) 3 true), o 11 (.mv (.t 1)), o 12 (.call (.f n_ref04_Digits) [.t 10, .t 11]), o 7 (.mv (.t 12))]) c_ref04_Add_2
abbrev c_ref04_Add_0 : SC := .seq (.reg [o 3 (.box (.t 0)), o 6 (.mv (ki 0))]) c_ref04_Add_1
theorem cf_ref04_Add : cfun Go.Proofs.Try.prog md n_ref04_Add = some ⟨3, 40, c_ref04_Add_0.erase, [.t 6]⟩ := by kernel_rfl
-- ref04_Neg
abbrev c_ref04_NegL0_2 : SC := (.reg [o 14 (.mv (.t 6)), o 15 (.bin .add (.t 14) (ki 1)), o 6 (.mv (.t 15))])
abbrev c_ref04_NegL0_1 : SC := .seq (.block 1 (.reg [o 16 (.mv (.t 5)), o 17 (.mv (.t 6)), o 18 (.fadr (.t 2) 0), o 20 (.mv (.t 5)), o 21 (.mv (.t 6)), o 22 (.iadr (.t 20) (.t 21) 1), o 25 (.fadr (.t 2) 0), o 19 (.ld (.t 18) 1 false), o 23 (.ld (.t 22) 1 false), o 24 (.bin .sub (.t 19) (.t 23)), o 26 (.ld (.t 25) 1 false), o 27 (.bin .rem (.t 24) (.t 26)), o 28 (.iadr (.t 16) (.t 17) 1), os (.st (.t 28) (.t 27) 1)])) c_ref04_NegL0_2
abbrev c_ref04_NegL0_0 : SC := .seq (.seq (.reg [o 10 (.mv (.t 6)), o 11 (.mv (.t 5)), o 12 (.len (.t 11)), o 13 (.bin .lss (.t 10) (.t 12))]) (.cond (.t 13) .skip (.exit 0))) c_ref04_NegL0_1
abbrev c_ref04_Neg_4 : SC := .ret
abbrev c_ref04_Neg_3 : SC := .fz [5] (.seq (.reg [o 29 (.ld (.t 2) 3 true), o 30 (.mv (.t 5)), o 31 (.call (.f n_ref04_Value) [.t 29, .t 30]), o 4 (.mv (.t 31))]) c_ref04_Neg_4)
abbrev c_ref04_Neg_2 : SC := .seq (.seq (.reg [o 6 (.mv (ki 0))]) (.block 0 (.loop c_ref04_NegL0_0))) c_ref04_Neg_3
abbrev c_ref04_Neg_1 : SC := .seq (.reg [o 7 (.ld (.t 2) 3 true), o 8 (.mv (.t 1)), o 9 (.call (.f n_ref04_Digits) [.t 7, .t 8]), o 5 (.mv (.t 9))]) c_ref04_Neg_2
abbrev c_ref04_Neg_0 : SC := .seq (.reg [o 2 (.box (.t 0)), o 4 (.mv (ki 0))]) c_ref04_Neg_1
theorem cf_ref04_Neg : cfun Go.Proofs.Try.prog md n_ref04_Neg = some ⟨2, 32, c_ref04_Neg_0.erase, [.t 4]⟩ := by kernel_rfl
-- ref04_Inv
abbrev c_ref04_InvL0_2 : SC := (.reg [o 10 (.mv (.t 5)), o 11 (.bin .add (.t 10) (ki 1)), o 5 (.mv (.t 11))])
abbrev c_ref04_InvL0_1 : SC := .seq (.block 1 (.seq (.reg [o 12 (.ld (.t 2) 3 true), o 13 (.mv (.t 1)), o 14 (.mv (.t 5)), o 15 (.call (.f n_ref04_Mul) [.t 12, .t 13, .t 14]), o 16 (.bin .eql (.t 15) (ki 1))]) (.cond (.t 16) (.seq (.reg [o 17 (.mv (.t 5)), o 4 (.mv (.t 17))]) .ret) .skip))) c_ref04_InvL0_2
abbrev c_ref04_InvL0_0 : SC := .seq (.seq (.reg [o 6 (.mv (.t 5)), o 7 (.ld (.t 2) 3 true), o 8 (.call (.f n_ref04_Order) [.t 7]), o 9 (.bin .lss (.t 6) (.t 8))]) (.cond (.t 9) .skip (.exit 0))) c_ref04_InvL0_1
abbrev c_ref04_Inv_3 : SC := .ret
abbrev c_ref04_Inv_2 : SC := .seq (.reg [o 4 (.mv (ki 0))]) c_ref04_Inv_3
abbrev c_ref04_Inv_1 : SC := .seq (.seq (.reg [o 5 (.mv (ki 1))]) (.block 0 (.loop c_ref04_InvL0_0))) c_ref04_Inv_2
abbrev c_ref04_Inv_0 : SC := .seq (.reg [o 2 (.box (.t 0)), o 4 (.mv (ki 0))]) c_ref04_Inv_1
theorem cf_ref04_Inv : cfun Go.Proofs.Try.prog md n_ref04_Inv = some ⟨2, 18, c_ref04_Inv_0.erase, [.t 4]⟩ := by kernel_rfl
-- ref04_Dot
abbrev c_ref04_DotL0_2 : SC := (.reg [o 19 (.mv (.t 8)), o 20 (.bin .add (.t 19) (ki 1)), o 8 (.mv (.t 20))])
abbrev c_ref04_DotL0_1 : SC := .seq (.block 1 (.reg [o 22 (.mv (.t 7)), o 24 (.mv (.t 1)), o 25 (.mv (.t 8)), o 26 (.iadr (.t 24) (.t 25) 1), o 28 (.mv (.t 2)), o 29 (.mv (.t 8)), o 30 (.iadr (.t 28) (.t 29) 1), o 21 (.ld (.t 3) 3 true), o 23 (.ld (.t 3) 3 true), o 27 (.ld (.t 26) 1 false), o 31 (.ld (.t 30) 1 false), om 1 32 (.call (.f n_ref04_Mul) [.t 23, .t 27, .t 31]), om 1 33 (.call (.f n_ref04_Add) [.t 21, .t 22, .t 32]), o 7 (.mv (.t 33))])) c_ref04_DotL0_2
abbrev c_ref04_DotL0_0 : SC := .seq (.seq (.reg [o 9 (.mv (.t 8)), o 10 (.mv (.t 1)), o 11 (.len (.t 10)), o 12 (.bin .lss (.t 9) (.t 11)), o 13 (.mv (.t 12)), og 13 true 0 14 (.mv (.t 8)), og 13 true 0 15 (.mv (.t 2)), og 13 true 0 16 (.len (.t 15)), og 13 true 0 17 (.bin .lss (.t 14) (.t 16)), o 18 (.pick (.t 13) (.t 17) (kb false))]) (.cond (.t 18) .skip (.exit 0))) c_ref04_DotL0_1
abbrev c_ref04_Dot_4 : SC := .ret
abbrev c_ref04_Dot_3 : SC := .seq (.reg [o 34 (.mv (.t 7)), o 6 (.mv (.t 34))]) c_ref04_Dot_4
abbrev c_ref04_Dot_2 : SC := .seq (.seq (.reg [o 8 (.mv (ki 0))]) (.block 0 (.loop c_ref04_DotL0_0))) c_ref04_Dot_3
abbrev c_ref04_Dot_1 : SC := .seq (.reg [o 7 (.mv (ki 0))]) c_ref04_Dot_2
abbrev c_ref04_Dot_0 : SC := .seq (.reg [o 3 (.box (.t 0)), o 6 (.mv (ki 0))]) c_ref04_Dot_1
theorem cf_ref04_Dot : cfun Go.Proofs.Try.prog md n_ref04_Dot = some ⟨3, 35, c_ref04_Dot_0.erase, [.t 6]⟩ := by kernel_rfl
end Go.AM.Ytmihmgnjnedfcaa
end

section
/- Contracts of functions: sums, negatives, products, inverses of the program. -/
set_option maxRecDepth 100000
set_option linter.unusedSimpArgs false
set_option linter.unusedVariables false
namespace Go.AM.Ytmihmgnjnedfcaa
open Go Go.AM
attribute [local simp ↓] awp_seq awp_reg awp_skip awp_cond' awp_block awp_exit awp_ret awp_fz thenW_normal thenW_exit thenW_ret inBlk_normal inBlk_exit inBlk_ret aops_cons' contA_ap aops_nil e_mv e_guard' e_pick' e_ld' e_app e_cpy e_st' e_call callW_f updO_some updO_none e_bin' e_isnil' e_fadr' e_iadr' e_iarr' e_len' e_build' e_mkf' e_nc' e_not' e_neg' e_cvt' e_slc' e_fld' e_ext' e_min' e_eqs' e_new e_box e_mkl e_mks
attribute [local simp] upd_apply ev_t ev_k ev_f binA_add binA_sub binA_mul binA_quo binA_rem binA_eql binA_neq binA_lss binA_leq binA_gtr binA_geq det mem frame0 keeps_nil iadrA_sl fadrA_ref fadrA_fp ldv_agg ldv_one cells_base hset_same hset_hset lenA_fs lenA_sl lenA_nils zeros_ints ints_length one_base one_nilp one_nils one_ref one_sl one_fp one_fs one_fn gl_one resA resOf bound natOf afill splice AV.cells cells_agg bindR_some condR_true condR_false guardR_tup guardR_true guardR_true' guardR_false guardR_false' allocW_some pickA_true pickA_false
open Go.FM

theorem dv_zero {p : Int} (hp : 0 < p) : ∀ {m : Nat} {x : Int}, 0 ≤ x → x < p ^ m → dv p m x = 0
  | 0, x, h0, h1 => by simp at h1; show x = 0; omega
  | m + 1, x, h0, h1 => by
    have h2 : x / p < p ^ m := Int.ediv_lt_of_lt_mul hp (by rw [Int.pow_succ] at h1; exact h1)
    show dv p m (x / p) = 0
    exact dv_zero hp (Int.ediv_nonneg h0 (by omega)) h2
theorem vl_digs {p : Int} : ∀ {m k : Nat} {x : Int}, k < m → vl (digs p m x) k = dv p k x % p
  | m + 1, 0, x, _ => rfl
  | m + 1, k + 1, x, h => by
    show vl (digs p m (x / p)) k = _
    exact vl_digs (by omega)
theorem dv_stay {p : Int} : ∀ (j k : Nat) {x : Int}, dv p k x = 0 → k ≤ j → dv p j x = 0
  | 0, k, x, h, hk => by have : k = 0 := by omega
                         subst this; exact h
  | j + 1, k, x, h, hk => by
    by_cases hkj : k = j + 1
    · subst hkj; exact h
    · rw [dv_succ, dv_stay j k h (by omega)]; simp

/-- From here on the digits are zero. -/
theorem val_stop {p : Int} {m k : Nat} (hk : k ≤ m) {v : FM.V} (hz : ∀ j, k ≤ j → j < m → v j % p = 0) : val p (red p m v) = val p (red p k v) := by
  have h : ∀ n, k + n ≤ m → red p (k + n) v = red p k v ++ List.replicate n 0 := by
    intro n
    induction n with
    | zero => intro _; simp
    | succ n ih =>
      intro hn
      rw [← Nat.add_assoc, red_snoc, ih (by omega), hz (k + n) (by omega) (by omega)]
      simp [List.replicate_succ']
  have := h (m - k) (by omega)
  rw [show k + (m - k) = m by omega] at this
  rw [this, val_append, val_zeros]; simp

theorem val_red_le {p : Nat} (hp : 2 ≤ p) {m k : Nat} (hk : k ≤ m) (hq : (p : Int) ^ m ≤ 256) (v : FM.V) : 0 ≤ val p (red p k v) ∧ val p (red p k v) < 256 := by
  have h := val_range (p := p) (by omega) (red_Dg (by omega) k v)
  rw [red_length] at h
  have := pow_mono (p := p) (by omega) hk
  omega

theorem xor_wrap {a b : Int} (ha : 0 ≤ a ∧ a < 256) (hb : 0 ≤ b ∧ b < 256) : IntKind.i64.wrap ((BitVec.ofInt 64 a ^^^ BitVec.ofInt 64 b).toNat : Nat) = ((a.toNat ^^^ b.toNat : Nat) : Int) := by
  obtain ⟨x, rfl⟩ : ∃ n : Nat, a = n := ⟨a.toNat, by omega⟩
  obtain ⟨y, rfl⟩ : ∃ n : Nat, b = n := ⟨b.toNat, by omega⟩
  have h1 : x ^^^ y < 2 ^ 8 := Nat.xor_lt_two_pow (by omega) (by omega)
  have e : (BitVec.ofInt 64 (x : Int) ^^^ BitVec.ofInt 64 (y : Int)).toNat = x ^^^ y := by
    rw [BitVec.toNat_xor]
    simp [BitVec.toNat_ofNat]
    rw [Nat.mod_eq_of_lt (by omega), Nat.mod_eq_of_lt (by omega)]
  rw [e]
  simp
  exact w64 _ (by omega)

theorem binA_xor (a b : Int) : binA .xor (I a) (I b) = some (I (IntKind.i64.wrap ((BitVec.ofInt 64 a ^^^ BitVec.ofInt 64 b).toNat : Nat))) := by simp [binA]; rfl

/-- The cells of a field, as the reads give them. -/
theorem gf_ld' (D : Ds) (h : Hp) : cellsAt h (.fp (gfC D)) 1 = some [I D.p] := (gf_ld D h).2.2.2.1

set_option maxHeartbeats 2000000 in
theorem s_Add {D : Ds} (r : Fd D) (x y : Int) : Pure prog n_field_GF_Add [.fp (gfC D), I x, I y] (I (D.add x y)) := by
  refine pure_of cf_field_GF_Add rfl fun h => ?_
  have hp2 := r.p2
  have hm8 := r.m8
  have hp256 := r.p256
  have hq := r.pm
  have l0 := gf_ld' D
  simp
  refine (s_in r x).call ?_
  simp
  refine (s_in r y).call ?_
  have hRx := r.toOk.innR x
  have hRy := r.toOk.innR y
  have hadd : D.add x y = val D.p (red D.p D.m (fun j => vl (digs D.p D.m (D.inn x)) j + vl (digs D.p D.m (D.inn y)) j)) := rfl
  rw [hadd]
  clear hadd
  generalize D.inn x = a at *
  generalize D.inn y = b at *
  have ha := hRx
  have hb := hRy
  unfold Ds.R at ha hb
  rw [Ds.qI] at ha hb
  generalize gfC D = C at *
  by_cases h2 : D.p = 2
  · have h2' : (D.p : Int) = 2 := by omega
    have hx : binA .xor (I a) (I b) = some (I ((a.toNat ^^^ b.toNat : Nat) : Int)) := by rw [binA_xor, xor_wrap (by omega) (by omega)]
    have hres : ((a.toNat ^^^ b.toNat : Nat) : Int) = val D.p (red D.p D.m (fun j => vl (digs D.p D.m a) j + vl (digs D.p D.m b) j)) := by
      rw [h2']
      rw [h2'] at ha hb
      have hd := digs_xor D.m a.toNat b.toNat
      have e1 : ((a.toNat : Nat) : Int) = a := by omega
      have e2 : ((b.toNat : Nat) : Int) = b := by omega
      rw [e1, e2] at hd
      rw [← hd]
      have hlt : a.toNat ^^^ b.toNat < 2 ^ D.m := by
        have e3 : ((2 ^ D.m : Nat) : Int) = (2 : Int) ^ D.m := by simp
        exact Nat.xor_lt_two_pow (by omega) (by omega)
      rw [val_digs (by omega) (by omega) (by have e3 : ((2 ^ D.m : Nat) : Int) = (2 : Int) ^ D.m := by simp
                                             omega)]
    simp [isNil, l0, h2', hx]
    rw [hres, h2']
    exact RetP.same
  · have h2' : ¬ (D.p : Int) = 2 := by omega
    simp [isNil, l0, h2', h2]
    obtain ⟨v, hv⟩ : ∃ v : FM.V, v = fun j => vl (digs D.p D.m a) j + vl (digs D.p D.m b) j := ⟨_, rfl⟩
    have hvk : ∀ j, j < D.m → v j = dv D.p j a % D.p + dv D.p j b % D.p := fun j hj => by rw [hv]; simp only; rw [vl_digs hj, vl_digs hj]
    rw [← hv]
    clear hv
    have hpI : (2 : Int) ≤ D.p := by omega
    have hp0 : (D.p : Int) ≠ 0 := by omega
    have hp0' : D.p ≠ 0 := by omega
    refine awp_for D.m (fun k fr' h' => h' = h ∧ fr' 1 = I (dv D.p k a) ∧ fr' 2 = I (dv D.p k b) ∧ fr' 7 = I (val D.p (red D.p k v)) ∧ fr' 8 = I (D.p ^ k)) ⟨rfl, by simp [dv], by simp [dv], by simp [red, val], by simp⟩ ?_
    intro k fr' h' hkn hk ⟨hh, k1, k2, k7, k8⟩
    subst hh
    have k0 := hk 0 (by decide)
    simp at k0
    clear hk
    have ra := dv_range hpI k ha.1
    have rb := dv_range hpI k hb.1
    by_cases c : 0 < dv D.p k a ∨ 0 < dv D.p k b
    · have hlt : k < D.m := by
        apply Classical.byContradiction
        intro hc
        have : k = D.m := by omega
        subst this
        have z1 := dv_zero (p := D.p) (by omega) ha.1 ha.2
        have z2 := dv_zero (p := D.p) (by omega) hb.1 hb.2
        omega
      have hsn : val D.p (red D.p (k + 1) v) = val D.p (red D.p k v) + D.p ^ k * ((dv D.p k a % D.p + dv D.p k b % D.p) % D.p) := by
        rw [red_snoc, val_append, red_length, hvk k hlt]; simp [val]
      have hbd := val_red_le hp2 (show k + 1 ≤ D.m by omega) hq v
      have hbd2 := val_red_le hp2 (show k ≤ D.m by omega) hq v
      have t1 : (dv D.p k a).tmod D.p = dv D.p k a % D.p := Int.tmod_eq_emod_of_nonneg ra.1
      have t2 : (dv D.p k b).tmod D.p = dv D.p k b % D.p := Int.tmod_eq_emod_of_nonneg rb.1
      have t3 : (dv D.p k a).tdiv D.p = dv D.p (k + 1) a := by rw [dv_succ]; exact Int.tdiv_eq_ediv_of_nonneg ra.1
      have t4 : (dv D.p k b).tdiv D.p = dv D.p (k + 1) b := by rw [dv_succ]; exact Int.tdiv_eq_ediv_of_nonneg rb.1
      have ra2 := dv_range hpI (k + 1) ha.1
      have rb2 := dv_range hpI (k + 1) hb.1
      have e1 : 0 ≤ dv D.p k a % D.p ∧ dv D.p k a % D.p < D.p := ⟨Int.emod_nonneg _ hp0, Int.emod_lt_of_pos _ (by omega)⟩
      have e2 : 0 ≤ dv D.p k b % D.p ∧ dv D.p k b % D.p < D.p := ⟨Int.emod_nonneg _ hp0, Int.emod_lt_of_pos _ (by omega)⟩
      have hps : (D.p : Int) ^ (k + 1) = D.p ^ k * D.p := Int.pow_succ ..
      have hple := pow_mono hpI (show k + 1 ≤ D.m by omega)
      have hpp := pow_pos2 hpI (k + 1)
      have hpp2 := pow_pos2 hpI k
      have hple2 := pow_mono hpI (show k ≤ D.m by omega)
      rw [hsn] at hbd ⊢
      generalize dv D.p (k + 1) a = a2 at *
      generalize dv D.p (k + 1) b = b2 at *
      generalize hda : dv D.p k a % D.p = da at *
      generalize hdb : dv D.p k b % D.p = db at *
      generalize dv D.p k a = ak at *
      generalize dv D.p k b = bk at *
      generalize val D.p (red D.p k v) = sk at *
      have u1 : IntKind.i64.wrap (da + db) = da + db := w64 _ (by omega)
      have t5 : (da + db).tmod D.p = (da + db) % D.p := Int.tmod_eq_emod_of_nonneg (by omega)
      generalize (da + db) % (D.p : Int) = dk at *
      have u2 : IntKind.i64.wrap (dk * D.p ^ k) = D.p ^ k * dk := by rw [Int.mul_comm]; exact w64 _ (by omega)
      have u3 : IntKind.i64.wrap (sk + D.p ^ k * dk) = sk + D.p ^ k * dk := w64 _ (by omega)
      have u4 : IntKind.i64.wrap ((D.p : Int) ^ k * D.p) = D.p ^ (k + 1) := by rw [← hps]; exact w64 _ (by omega)
      have u5 : IntKind.i64.wrap a2 = a2 := w64 _ (by omega)
      have u6 : IntKind.i64.wrap b2 = b2 := w64 _ (by omega)
      generalize (D.p : Int) ^ (k + 1) = pk1 at *
      generalize (D.p : Int) ^ k = pk at *
      by_cases c1 : 0 < ak
      · simp [k0, k1, k2, k7, k8, c1, isNil, l0, hp0, hp0', t1, t2, t3, t4, t5, u1, u2, u3, u4, u5, u6]
        exact hlt
      · have c2 : 0 < bk := by omega
        simp [k0, k1, k2, k7, k8, c1, c2, isNil, l0, hp0, hp0', t1, t2, t3, t4, t5, u1, u2, u3, u4, u5, u6]
        exact hlt
    · have z1 : dv D.p k a = 0 := by omega
      have z2 : dv D.p k b = 0 := by omega
      have hst := val_stop (p := D.p) hkn (v := v) fun j hj hjm => by
        rw [hvk j hjm, dv_stay j k z1 hj, dv_stay j k z2 hj]; simp
      simp [k1, k2, k7, z1, z2, hst]
      exact RetP.same
end Go.AM.Ytmihmgnjnedfcaa
end

section
/- Contracts of functions: negatives, differences, products, inverses, sums of products of the program. -/
set_option maxRecDepth 100000
set_option linter.unusedSimpArgs false
set_option linter.unusedVariables false
namespace Go.AM.Ytmihmgnjnedfcaa
open Go Go.AM
attribute [local simp ↓] awp_seq awp_reg awp_skip awp_cond' awp_block awp_exit awp_ret awp_fz thenW_normal thenW_exit thenW_ret inBlk_normal inBlk_exit inBlk_ret aops_cons' contA_ap aops_nil e_mv e_guard' e_pick' e_ld' e_app e_cpy e_st' e_call callW_f updO_some updO_none e_bin' e_isnil' e_fadr' e_iadr' e_iarr' e_len' e_build' e_mkf' e_nc' e_not' e_neg' e_cvt' e_slc' e_fld' e_ext' e_min' e_eqs' e_new e_box e_mkl e_mks
attribute [local simp] upd_apply ev_t ev_k ev_f binA_add binA_sub binA_mul binA_quo binA_rem binA_eql binA_neq binA_lss binA_leq binA_gtr binA_geq det mem frame0 keeps_nil iadrA_sl fadrA_ref fadrA_fp ldv_agg ldv_one cells_base hset_same hset_hset lenA_fs lenA_sl lenA_nils zeros_ints ints_length one_base one_nilp one_nils one_ref one_sl one_fp one_fs one_fn gl_one resA resOf bound natOf afill splice AV.cells cells_agg bindR_some condR_true condR_false guardR_tup guardR_true guardR_true' guardR_false guardR_false' allocW_some pickA_true pickA_false
open Go.FM

set_option maxHeartbeats 2000000 in
theorem s_Neg {D : Ds} (r : Fd D) (x : Int) : Pure prog n_field_GF_Neg [.fp (gfC D), I x] (I (D.neg x)) := by
  refine pure_of cf_field_GF_Neg rfl fun h => ?_
  have hp2 := r.p2
  have hm8 := r.m8
  have hp256 := r.p256
  have hq := r.pm
  have l0 := gf_ld' D
  simp
  refine (s_in r x).call ?_
  have hRx := r.toOk.innR x
  have hneg : D.neg x = val D.p (red D.p D.m (fun j => -1 * vl (digs D.p D.m (D.inn x)) j)) := rfl
  rw [hneg]
  clear hneg
  generalize D.inn x = a at *
  have ha := hRx
  unfold Ds.R at ha
  rw [Ds.qI] at ha
  generalize gfC D = C at *
  obtain ⟨v, hv⟩ : ∃ v : FM.V, v = fun j => -1 * vl (digs D.p D.m a) j := ⟨_, rfl⟩
  have hvk : ∀ j, j < D.m → v j = -1 * (dv D.p j a % D.p) := fun j hj => by rw [hv]; simp only; rw [vl_digs hj]
  rw [← hv]
  clear hv
  simp
  have hpI : (2 : Int) ≤ D.p := by omega
  have hp0 : (D.p : Int) ≠ 0 := by omega
  have hp0' : D.p ≠ 0 := by omega
  refine awp_for D.m (fun k fr' h' => h' = h ∧ fr' 1 = I (dv D.p k a) ∧ fr' 5 = I (val D.p (red D.p k v)) ∧ fr' 6 = I (D.p ^ k)) ⟨rfl, by simp [dv], by simp [red, val], by simp⟩ ?_
  intro k fr' h' hkn hk ⟨hh, k1, k7, k8⟩
  subst hh
  have k0 := hk 0 (by decide)
  simp at k0
  clear hk
  have ra := dv_range hpI k ha.1
  by_cases c : 0 < dv D.p k a
  · have hlt : k < D.m := by
      apply Classical.byContradiction
      intro hc
      have : k = D.m := by omega
      subst this
      have z1 := dv_zero (p := D.p) (by omega) ha.1 ha.2
      omega
    have hdm : (-1 * (dv D.p k a % D.p)) % D.p = (D.p - dv D.p k a % D.p) % D.p := by
      rw [show -1 * (dv D.p k a % D.p) = (D.p - dv D.p k a % D.p) + (-1) * D.p by omega, Int.add_mul_emod_self_right]
    have hsn : val D.p (red D.p (k + 1) v) = val D.p (red D.p k v) + D.p ^ k * ((D.p - dv D.p k a % D.p) % D.p) := by
      rw [red_snoc, val_append, red_length, hvk k hlt, hdm]; simp [val]
    have hbd := val_red_le hp2 (show k + 1 ≤ D.m by omega) hq v
    have hbd2 := val_red_le hp2 (show k ≤ D.m by omega) hq v
    have t1 : (dv D.p k a).tmod D.p = dv D.p k a % D.p := Int.tmod_eq_emod_of_nonneg ra.1
    have t3 : (dv D.p k a).tdiv D.p = dv D.p (k + 1) a := by rw [dv_succ]; exact Int.tdiv_eq_ediv_of_nonneg ra.1
    have ra2 := dv_range hpI (k + 1) ha.1
    have e1 : 0 ≤ dv D.p k a % D.p ∧ dv D.p k a % D.p < D.p := ⟨Int.emod_nonneg _ hp0, Int.emod_lt_of_pos _ (by omega)⟩
    have hps : (D.p : Int) ^ (k + 1) = D.p ^ k * D.p := Int.pow_succ ..
    have hple := pow_mono hpI (show k + 1 ≤ D.m by omega)
    have hpp := pow_pos2 hpI (k + 1)
    have hpp2 := pow_pos2 hpI k
    have hple2 := pow_mono hpI (show k ≤ D.m by omega)
    rw [hsn] at hbd ⊢
    clear hdm hsn
    generalize dv D.p (k + 1) a = a2 at *
    generalize hda : dv D.p k a % D.p = da at *
    generalize dv D.p k a = ak at *
    generalize val D.p (red D.p k v) = sk at *
    have u1 : IntKind.i64.wrap (D.p - da) = D.p - da := w64 _ (by omega)
    have t5 : ((D.p : Int) - da).tmod D.p = (D.p - da) % D.p := Int.tmod_eq_emod_of_nonneg (by omega)
    generalize ((D.p : Int) - da) % (D.p : Int) = dk at *
    have u2 : IntKind.i64.wrap (dk * D.p ^ k) = D.p ^ k * dk := by rw [Int.mul_comm]; exact w64 _ (by omega)
    have u3 : IntKind.i64.wrap (sk + D.p ^ k * dk) = sk + D.p ^ k * dk := w64 _ (by omega)
    have u4 : IntKind.i64.wrap ((D.p : Int) ^ k * D.p) = D.p ^ (k + 1) := by rw [← hps]; exact w64 _ (by omega)
    have u5 : IntKind.i64.wrap a2 = a2 := w64 _ (by omega)
    generalize (D.p : Int) ^ (k + 1) = pk1 at *
    generalize (D.p : Int) ^ k = pk at *
    simp [k0, k1, k7, k8, c, isNil, l0, hp0, hp0', t1, t3, t5, u1, u2, u3, u4, u5]
    exact hlt
  · have z1 : dv D.p k a = 0 := by omega
    have hst := val_stop (p := D.p) hkn (v := v) fun j hj hjm => by
      rw [hvk j hjm, dv_stay j k z1 hj]; simp
    simp [k1, k7, z1, hst]
    exact RetP.same

theorem s_Sub {D : Ds} (r : Fd D) (x y : Int) : Pure prog n_field_GF_Sub [.fp (gfC D), I x, I y] (I (D.sub x y)) := by
  refine pure_of cf_field_GF_Sub rfl fun h => ?_
  simp
  refine (s_Neg r y).call ?_
  simp
  refine (s_Add r x (D.neg y)).call ?_
  simp
  exact RetP.same

/-- The exponent of an element. -/
noncomputable def lgD (D : Ds) (y : Int) : Nat := ((logK D (gen0 D) (D.q - 1)).getD y.toNat 0).toNat
theorem lgD_spec {D : Ds} (r : Fd D) {y : Int} (hy : D.R y) (h0 : y ≠ 0) : lgD D y < D.q - 1 ∧ D.pw (gen0 D) (lgD D y) = y ∧ (logK D (gen0 D) (D.q - 1)).getD y.toNat 0 = lgD D y := by
  obtain ⟨i, h1, h2, h3⟩ := log_ex r hy h0
  have e : lgD D y = i := by unfold lgD; rw [h3]; simp
  rw [e]
  exact ⟨h1, h2, h3⟩

/-- The inverse. -/
noncomputable def invD (D : Ds) (x : Int) : Int := if D.inn x = 0 then 0 else D.pw (gen0 D) ((D.q - 1 - lgD D (D.inn x)) % (D.q - 1))

theorem mul_inv {D : Ds} (r : Fd D) {x : Int} (h0 : D.inn x ≠ 0) : D.mul x (invD D x) = 1 := by
  have g1 := (gen0_spec r.toRg r.gen).1
  obtain ⟨h1, h2, _⟩ := lgD_spec r (r.toOk.innR x) h0
  unfold invD
  rw [if_neg h0, ← r.toOk.inn_mul', ← g1.mod r.toOk]
  conv => lhs; arg 2; rw [← h2]
  rw [← r.toOk.pw_add, show lgD D (D.inn x) + (D.q - 1 - lgD D (D.inn x)) = D.q - 1 by omega]
  exact g1.top
theorem invR {D : Ds} (o : D.Ok) (x : Int) : D.R (invD D x) := by
  unfold invD
  split
  · exact o.q0
  · exact o.pwR _ _

/-- What the tables are: a slice of powers, a slice of exponents. -/
theorem gf_tabs {D : Ds} (r : Fd D) : ∃ (C : List AV) (EX LG : List Int), gfC D = C ∧ (∀ h, cellsAt h (.fp (C.drop 3)) 1 = some [I D.q]) ∧ (∀ h, cellsAt h (.fp (C.drop 4)) 1 = some [.fs (D.q - 1) (ints EX)]) ∧ (∀ h, cellsAt h (.fp (C.drop 5)) 1 = some [.fs D.q (ints LG)]) ∧
    IL (.fs (D.q - 1) (ints EX)) EX ∧ IL (.fs D.q (ints LG)) LG ∧ EX.length = D.q - 1 ∧ LG.length = D.q ∧ (∀ k, k < D.q - 1 → EX.getD k 0 = D.pw (gen0 D) k) ∧ (∀ y, D.R y → y ≠ 0 → LG.getD y.toNat 0 = lgD D y) := by
  refine ⟨gfC D, pwL D (gen0 D) (D.q - 1), logK D (gen0 D) (D.q - 1), rfl, fun h => (gf_ld D h).1, fun h => (gf_ld D h).2.1, fun h => (gf_ld D h).2.2.1, ?_, ?_, pwL_len .., logK_len .., fun k hk => pwL_getD hk, fun y hy h0 => (lgD_spec r hy h0).2.2⟩
  · have := IL.fs (pwL D (gen0 D) (D.q - 1)); rwa [pwL_len] at this
  · have := IL.fs (logK D (gen0 D) (D.q - 1)); rwa [logK_len] at this

theorem s_Mul {D : Ds} (r : Fd D) (x y : Int) : Pure prog n_field_GF_Mul [.fp (gfC D), I x, I y] (I (D.mul x y)) := by
  refine pure_of cf_field_GF_Mul rfl fun h => ?_
  have hq := r.q256
  have hq2 := r.q2
  have fin : ∀ z, D.mul x y = z → RetP h (I (D.mul x y)) (I z) h := fun z hz => hz ▸ RetP.same
  simp
  refine (s_in r x).call ?_
  simp
  refine (s_in r y).call ?_
  have hRx := r.toOk.innR x
  have hRy := r.toOk.innR y
  have hxy : D.mul x y = D.mul (D.inn x) (D.inn y) := by rw [r.toOk.mul_inn, r.toOk.inn_mul']
  generalize D.inn x = a at *
  generalize D.inn y = b at *
  by_cases c1 : a = 0
  · simp [c1]
    exact fin 0 (by rw [hxy, c1, r.toOk.zero_mul])
  by_cases c2 : b = 0
  · simp [c1, c2]
    exact fin 0 (by rw [hxy, c2, r.toOk.mul_zero])
  have g1 := (gen0_spec r.toRg r.gen).1
  obtain ⟨i1, i2, _⟩ := lgD_spec r hRx c1
  obtain ⟨j1, j2, _⟩ := lgD_spec r hRy c2
  have hres : D.pw (gen0 D) ((lgD D a + lgD D b) % (D.q - 1)) = D.mul x y := by
    rw [← g1.mod r.toOk, r.toOk.pw_add, i2, j2, hxy]
  obtain ⟨C, EX, LG, hC, l3, l4, l5, hE, hL, hEl, hLl, hEg, hLg⟩ := gf_tabs r
  have ha1 := hRx.1
  have ha2 := hRx.2
  have hb1 := hRy.1
  have hb2 := hRy.2
  have hia := hL.iadr (i := a) ⟨ha1, by omega⟩
  have hib := hL.iadr (i := b) ⟨hb1, by omega⟩
  have hla := fun h' => ld_ints (h := h') (l := LG) (k := a.toNat) (by omega)
  have hlb := fun h' => ld_ints (h := h') (l := LG) (k := b.toNat) (by omega)
  rw [hLg a hRx c1] at hla
  rw [hLg b hRy c2] at hlb
  generalize lgD D a = i at *
  generalize lgD D b = j at *
  have u1 : IntKind.i64.wrap ((i : Int) + j) = ((i + j : Nat) : Int) := by rw [w64 _ (by omega)]; omega
  have u2 : IntKind.i64.wrap ((D.q : Int) - 1) = ((D.q - 1 : Nat) : Int) := by rw [w64 _ (by omega)]; omega
  have hk0 : ¬ ((D.q - 1 : Nat) : Int) = 0 := by omega
  have hk0' : ¬ D.q - 1 = 0 := by omega
  have t1 : ((i + j : Nat) : Int).tmod ((D.q - 1 : Nat) : Int) = (((i + j) % (D.q - 1) : Nat) : Int) := (Int.ofNat_tmod _ _).symm
  have hlt : (i + j) % (D.q - 1) < D.q - 1 := Nat.mod_lt _ (by omega)
  have hie := hE.iadr (i := (((i + j) % (D.q - 1) : Nat) : Int)) ⟨by omega, by omega⟩
  simp only [Int.toNat_natCast] at hie
  have hle := fun h' => ld_ints (h := h') (l := EX) (k := (i + j) % (D.q - 1)) (by omega)
  rw [hEg _ hlt, hres] at hle
  clear hres
  generalize (i + j) % (D.q - 1) = e at *
  generalize i + j = ij at *
  generalize D.q - 1 = Q1 at *
  rw [hC]
  simp [c1, c2, isNil, l3, l4, l5, hia, hib, hla, hlb, u1, u2, hk0, hk0', t1, hie, hle]
  exact RetP.same

theorem s_Inv {D : Ds} (r : Fd D) (x : Int) : Pure prog n_field_GF_Inv [.fp (gfC D), I x] (.tup [I (invD D x), I (if D.inn x = 0 then 7 else 0)]) := by
  refine pure_of cf_field_GF_Inv rfl fun h => ?_
  have hq := r.q256
  have hq2 := r.q2
  simp
  refine (s_in r x).call ?_
  have hRx := r.toOk.innR x
  unfold invD
  generalize D.inn x = a at *
  by_cases c1 : a = 0
  · simp [c1]
    exact RetP.same
  rw [if_neg c1, if_neg c1]
  obtain ⟨i1, i2, _⟩ := lgD_spec r hRx c1
  obtain ⟨C, EX, LG, hC, l3, l4, l5, hE, hL, hEl, hLl, hEg, hLg⟩ := gf_tabs r
  have ha1 := hRx.1
  have ha2 := hRx.2
  have hia := hL.iadr (i := a) ⟨ha1, by omega⟩
  have hla := fun h' => ld_ints (h := h') (l := LG) (k := a.toNat) (by omega)
  rw [hLg a hRx c1] at hla
  generalize lgD D a = i at *
  have u2 : IntKind.i64.wrap ((D.q : Int) - 1) = ((D.q - 1 : Nat) : Int) := by rw [w64 _ (by omega)]; omega
  have u1 : IntKind.i64.wrap (((D.q - 1 : Nat) : Int) - i) = ((D.q - 1 - i : Nat) : Int) := by rw [w64 _ (by omega)]; omega
  have hk0 : ¬ ((D.q - 1 : Nat) : Int) = 0 := by omega
  have hk0' : ¬ D.q - 1 = 0 := by omega
  have t1 : ((D.q - 1 - i : Nat) : Int).tmod ((D.q - 1 : Nat) : Int) = (((D.q - 1 - i) % (D.q - 1) : Nat) : Int) := (Int.ofNat_tmod _ _).symm
  have hlt : (D.q - 1 - i) % (D.q - 1) < D.q - 1 := Nat.mod_lt _ (by omega)
  have hie := hE.iadr (i := (((D.q - 1 - i) % (D.q - 1) : Nat) : Int)) ⟨by omega, by omega⟩
  simp only [Int.toNat_natCast] at hie
  have hle := fun h' => ld_ints (h := h') (l := EX) (k := (D.q - 1 - i) % (D.q - 1)) (by omega)
  rw [hEg _ hlt] at hle
  generalize (D.q - 1 - i) % (D.q - 1) = e at *
  generalize D.q - 1 - i = ij at *
  generalize D.q - 1 = Q1 at *
  rw [hC]
  generalize D.pw (gen0 D) e = z at *
  simp [c1, isNil, l3, l4, l5, hia, hla, u1, u2, hk0, hk0', t1, hie, hle]
  exact RetP.same

theorem s_Div {D : Ds} (r : Fd D) (x y : Int) (h0 : D.inn y ≠ 0) : Pure prog n_field_GF_Div [.fp (gfC D), I x, I y] (.tup [I (D.mul x (invD D y)), I 0]) := by
  refine pure_of cf_field_GF_Div rfl fun h => ?_
  simp
  refine (s_Inv r y).call ?_
  rw [if_neg h0]
  simp
  refine (s_Mul r x (invD D y)).call ?_
  simp
  exact RetP.same

/-- The sum of products, from the left. -/
def dotD (D : Ds) : List Int → List Int → Int → Int
  | x :: xs, y :: ys, s => dotD D xs ys (D.add s (D.mul x y))
  | _, _, s => s
end Go.AM.Ytmihmgnjnedfcaa
end

section
/- Contracts of functions: the reference's sums, sums of products on both sides. -/
set_option maxRecDepth 100000
set_option linter.unusedSimpArgs false
set_option linter.unusedVariables false
namespace Go.AM.Ytmihmgnjnedfcaa
open Go Go.AM
attribute [local simp ↓] awp_seq awp_reg awp_skip awp_cond' awp_block awp_exit awp_ret awp_fz thenW_normal thenW_exit thenW_ret inBlk_normal inBlk_exit inBlk_ret aops_cons' contA_ap aops_nil e_mv e_guard' e_pick' e_ld' e_app e_cpy e_st' e_call callW_f updO_some updO_none e_bin' e_isnil' e_fadr' e_iadr' e_iarr' e_len' e_build' e_mkf' e_nc' e_not' e_neg' e_cvt' e_slc' e_fld' e_ext' e_min' e_eqs' e_new e_box e_mkl e_mks
attribute [local simp] upd_apply ev_t ev_k ev_f binA_add binA_sub binA_mul binA_quo binA_rem binA_eql binA_neq binA_lss binA_leq binA_gtr binA_geq det mem frame0 keeps_nil iadrA_sl fadrA_ref fadrA_fp ldv_agg ldv_one cells_base hset_same hset_hset lenA_fs lenA_sl lenA_nils zeros_ints ints_length one_base one_nilp one_nils one_ref one_sl one_fp one_fs one_fn gl_one resA resOf bound natOf afill splice AV.cells cells_agg bindR_some condR_true condR_false guardR_tup guardR_true guardR_true' guardR_false guardR_false' allocW_some pickA_true pickA_false
open Go.FM

/-- A function ends with a live block of whole numbers of its own. -/
def LiveR (h : Hp) (l : List Int) (v : AV) (h' : Hp) : Prop := Kp h h' ∧ ∃ b, h b = none ∧ v = .sl b 0 l.length 1 ∧ h' b = some (ints l)

theorem call0 {P : Program} {i : FuncId} {avs : List AV} {h : Hp} {R0 R : AV → Hp → Prop} (s : Spec P i avs h R0) (k : ∀ v h', R0 v h' → R v h') : CallP P 0 i avs h R := s.mono k
theorem call2 {P : Program} {i : FuncId} {avs : List AV} {h : Hp} {R0 R : AV → Hp → Prop} (s : Spec P i avs h R0) (k : ∀ v h', R0 v h' → Kp h h' ∧ R v h') : CallP P 2 i avs h R := s.mono fun v h' hr => k v h' hr

theorem w_digits {x p : Int} {m : Nat} (hx : 0 ≤ x ∧ x ≤ 9223372036854775807) (hp : 2 ≤ p) (hm : m ≤ 4294967296) (h : Hp) : Spec prog n_ref04_digits [I x, I p, I m] h (LiveR h (digs p m x)) := by
  refine spec_of cf_ref04_digits rfl ?_
  have hm' : (m : Int) ≤ 4294967296 := by omega
  simp [hm']
  intro b7 hb7
  have hk0 : Kp h (hset h b7 (ints (List.replicate m 0))) := (Kp.refl h).new hb7 _
  refine awp_for m (fun k fr' h' => Kp h h' ∧ h' b7 = some (ints (digs p k x ++ List.replicate (m - k) 0)) ∧ fr' 8 = I k ∧ fr' 0 = I (dv p k x)) ⟨hk0, by simp [hset_same, digs], by simp, by simp [dv]⟩ ?_
  intro k fr' h' hkn hk ⟨hkp, hb, h13, h0⟩
  have k1 := hk 1 (by decide)
  have k2 := hk 2 (by decide)
  have k7 := hk 7 (by decide)
  simp at k1 k2 k7
  clear hk
  by_cases hlt : k < m
  · have hdr := dv_range hp k hx.1
    have hp0 : p ≠ 0 := by omega
    have e1 : (dv p k x).tmod p = dv p k x % p := Int.tmod_eq_emod_of_nonneg hdr.1
    have e2 : (dv p k x).tdiv p = dv p (k + 1) x := by rw [dv_succ]; exact Int.tdiv_eq_ediv_of_nonneg hdr.1
    have hdr2 := dv_range hp (k + 1) hx.1
    have u1 : IntKind.i64.wrap (dv p (k + 1) x) = dv p (k + 1) x := w64 _ (by omega)
    have u2 : IntKind.i64.wrap ((k : Int) + 1) = k + 1 := w64 _ (by omega)
    have st := fun R => sr_ints (R := R) (v := dv p k x % p) hb (k := k) (by simp [digs_length]; omega)
    rw [set_mid (digs_length p k x) hlt] at st
    simp [h13, h0, k1, k2, k7, hlt, hp0, e1, e2, u1, u2, st]
    exact ⟨hkp.set hb7 _, by rw [digs_snoc]; simp⟩
  · have : k = m := by omega
    subst this
    simp [h13, k2, k7]
    rw [Nat.sub_self, List.replicate_zero, List.append_nil] at hb
    exact ⟨hkp, b7, hb7, by rw [digs_length], hb⟩

theorem w_refDigits {D : Ds} (r : Rg D) {mv : AV} (hone : one mv = true) (x : Int) (h : Hp) : Spec prog n_ref04_Digits [.agg [I D.p, I D.m, mv], I x] h (LiveR h (digs D.p D.m (D.inn x))) := by
  refine spec_of cf_ref04_Digits rfl ?_
  simp [hone]
  intro b2 hb2
  obtain ⟨l0, l1, l2, l3⟩ := ld3_at (hset_same h b2 [I D.p, I D.m, mv])
  have hkg : Kp h (hset h b2 [I D.p, I D.m, mv]) := (Kp.refl h).new hb2 _
  generalize hset h b2 [I D.p, I D.m, mv] = g at *
  have h1 := r.p2
  have h2 := r.m8
  have h3 := r.toOk.innR x
  have h4 := r.q256
  unfold Ds.R at h3
  simp [l0, l1, l3]
  refine (s_refIn r hone x).call ?_
  simp
  refine call2 (w_digits (x := D.inn x) (p := D.p) (m := D.m) ⟨by omega, by omega⟩ (by omega) (by omega) g) fun v h' ⟨c1, b, c2, c3, c4⟩ => ⟨c1, ?_⟩
  simp
  exact ⟨hkg.trans c1, b, hkg.no c2, c3, c4⟩

theorem zipAdd_len {xa xb : List Int} {p : Int} {m : Nat} : (red p m (fun j => vl xa j + vl xb j)).length = m := red_length ..

set_option maxHeartbeats 2000000 in
theorem s_refAdd {D : Ds} (r : Rg D) {mv : AV} (hmv : IL mv D.mo) (x y : Int) : Pure prog n_ref04_Add [.agg [I D.p, I D.m, mv], I x, I y] (I (D.add x y)) := by
  refine pure_of cf_ref04_Add rfl fun h => ?_
  have hone := hmv.one
  have hp2 := r.p2
  have hm1 := r.m1
  have hm8 := r.m8
  have hp256 := r.p256
  simp [hone]
  intro b3 hb3
  obtain ⟨l0, l1, l2, l3⟩ := ld3_at (hset_same h b3 [I D.p, I D.m, mv])
  have hkg : Kp h (hset h b3 [I D.p, I D.m, mv]) := (Kp.refl h).new hb3 _
  have hg3 : (hset h b3 [I D.p, I D.m, mv]) b3 = some [I D.p, I D.m, mv] := hset_same ..
  generalize hset h b3 [I D.p, I D.m, mv] = g at *
  have hadd : D.add x y = val D.p (red D.p D.m (fun j => vl (digs D.p D.m (D.inn x)) j + vl (digs D.p D.m (D.inn y)) j)) := rfl
  rw [hadd]
  clear hadd
  have hla := digs_length (D.p : Int) D.m (D.inn x)
  have hlb := digs_length (D.p : Int) D.m (D.inn y)
  have hda := digs_Dg r.p0 D.m (D.inn x)
  have hdb := digs_Dg r.p0 D.m (D.inn y)
  have hIb := IL.fs (digs (D.p : Int) D.m (D.inn y))
  rw [hlb] at hIb
  simp [l3]
  refine call0 (w_refDigits r hone x g) fun v h1 ⟨c1, b7, c2, c3, c4⟩ => ?_
  have hg31 := c1 b3 _ hg3
  obtain ⟨_, _, _, m3⟩ := ld3_at hg31
  simp [m3]
  refine (s_refDigits r hone y).call ?_
  subst c3
  generalize digs (D.p : Int) D.m (D.inn x) = xa at *
  generalize digs (D.p : Int) D.m (D.inn y) = xb at *
  obtain ⟨vv, hvv⟩ : ∃ vv : FM.V, vv = fun j => vl xa j + vl xb j := ⟨_, rfl⟩
  rw [← hvv]
  rw [hla]
  simp
  have hN := red_length (D.p : Int) D.m vv
  have hNd := red_Dg r.p0 D.m vv
  have hNg : ∀ j, j < D.m → (red D.p D.m vv).getD j 0 = (xa.getD j 0 + xb.getD j 0) % D.p := fun j hj => by
    have := vl_red (p := D.p) (v := vv) hj
    rw [vl_getD] at this
    rw [this, hvv]; rfl
  clear hvv
  generalize red (D.p : Int) D.m vv = N at *
  refine awp_for D.m (fun k fr' h' => Kp g h' ∧ h' b7 = some (ints (N.take k ++ xa.drop k)) ∧ fr' 9 = I k) ⟨c1, by simpa using c4, by simp⟩ ?_
  intro k fr' h' hkn hk ⟨hkp, hb, k9⟩
  have k3 := hk 3 (by decide)
  have k7 := hk 7 (by decide)
  have k8 := hk 8 (by decide)
  simp at k3 k7 k8
  clear hk
  obtain ⟨p0, p1, p2, p3⟩ := ld3_at (hkp b3 _ hg3)
  by_cases hlt : k < D.m
  · have hldo := ld_ints_at hb (k := k) (by rw [tk_len (by omega) (by omega)]; omega)
    rw [tk_get (by omega), if_neg (by omega)] at hldo
    have hst := fun R => sr_ints (R := R) (v := N.getD k 0) hb (k := k) (by rw [tk_len (by omega) (by omega)]; omega)
    rw [tk_set (by omega) (by omega)] at hst
    have hib := hIb.iadr (i := k) ⟨by omega, by omega⟩
    simp at hib
    have hldb := fun h' => ld_ints (h := h') (l := xb) (k := k) (by omega)
    have ra := Dg_getD hda (j := k) (by omega)
    have rb := Dg_getD hdb (j := k) (by omega)
    have hnk := hNg k hlt
    generalize N.getD k 0 = nk at *
    generalize xa.getD k 0 = ak at *
    generalize xb.getD k 0 = bk at *
    have u1 : IntKind.i64.wrap (ak + bk) = ak + bk := w64 _ (by omega)
    have t1 : (ak + bk).tmod D.p = nk := by rw [Int.tmod_eq_emod_of_nonneg (by omega), hnk]
    have u2 : IntKind.i64.wrap ((k : Int) + 1) = k + 1 := w64 _ (by omega)
    have hp0 : (D.p : Int) ≠ 0 := by omega
    have hp0' : D.p ≠ 0 := by omega
    simp [k3, k7, k8, k9, hlt, hldo, hib, hldb, p0, u1, t1, u2, hp0, hp0', hst]
    exact hkp.set c2 _
  · have : k = D.m := by omega
    subst this
    rw [List.take_of_length_le (by omega), List.drop_eq_nil_of_le (by omega), List.append_nil] at hb
    simp [k7, k9]
    refine Fz_one (g := g) (s := 7) (n := D.m) (sz := 1) (by simp [k7]) hb c2 hkp (by rw [ints_length]; omega) ?_
    have hIo := IL.fs N
    rw [hN] at hIo
    simp [k3, l3]
    refine (s_Value hIo hone (m := D.m) (p := D.p) (by omega) (by omega) hNd (by rw [hN]; exact r.pm) (by omega)).call ?_
    simp
    exact ⟨_, hkg.sub, .id _, rfl⟩

/-- The sum of the first k products. -/
def dotK (D : Ds) (a b : List Int) : Nat → Int
  | 0 => 0
  | k + 1 => D.add (dotK D a b k) (D.mul (a.getD k 0) (b.getD k 0))

theorem s_Dot {D : Ds} (r : Fd D) {v w : AV} {a b : List Int} (hv : IL v a) (hw : IL w b) (hla : a.length < 4611686018427387904) (hlb : b.length < 4611686018427387904) : Pure prog n_field_GF_Dot [.fp (gfC D), v, w] (I (dotK D a b (min a.length b.length))) := by
  refine pure_of cf_field_GF_Dot rfl fun h => ?_
  have hmin : (if (b.length : Int) < a.length then (b.length : Int) else a.length) = ((min a.length b.length : Nat) : Int) := by omega
  have hmin2 : (if b.length < a.length then (b.length : Int) else (a.length : Int)) = ((min a.length b.length : Nat) : Int) := by split <;> omega
  simp [hv.len, hw.len, hmin]
  generalize hn : min a.length b.length = n at *
  refine awp_for n (fun k fr' h' => h' = h ∧ fr' 14 = I k ∧ fr' 7 = I (dotK D a b k)) ⟨rfl, by simp, by simp [dotK]⟩ ?_
  intro k fr' h' hkn hk ⟨hh, k14, k7⟩
  subst hh
  have k0 := hk 0 (by decide)
  have k1 := hk 1 (by decide)
  have k2 := hk 2 (by decide)
  have k13 := hk 13 (by decide)
  simp at k0 k1 k2 k13
  rw [hmin2] at k13
  clear hk
  by_cases hlt : k < n
  · have hia := hv.iadr (i := k) ⟨by omega, by omega⟩
    have hib := hw.iadr (i := k) ⟨by omega, by omega⟩
    simp at hia hib
    have hlda := fun h' => ld_ints (h := h') (l := a) (k := k) (by omega)
    have hldb := fun h' => ld_ints (h := h') (l := b) (k := k) (by omega)
    have hs : dotK D a b (k + 1) = D.add (dotK D a b k) (D.mul (a.getD k 0) (b.getD k 0)) := rfl
    rw [hs]
    have u2 : IntKind.i64.wrap ((k : Int) + 1) = k + 1 := w64 _ (by omega)
    clear hs
    generalize a.getD k 0 = ak at *
    generalize b.getD k 0 = bk at *
    simp [k0, k1, k2, k7, k13, k14, hlt, hia, hib, hlda, hldb]
    refine (s_Mul r ak bk).call ?_
    simp
    refine (s_Add r _ _).call ?_
    simp [k14, u2]
  · have : k = n := by omega
    subst this
    simp [k7, k13, k14]
    exact RetP.same

theorem s_refDot {D : Ds} (r : Fd D) {mv v w : AV} (hmv : IL mv D.mo) {a b : List Int} (hv : IL v a) (hw : IL w b) (hla : a.length < 4611686018427387904) (hlb : b.length < 4611686018427387904) : Pure prog n_ref04_Dot [.agg [I D.p, I D.m, mv], v, w] (I (dotK D a b (min a.length b.length))) := by
  refine pure_of cf_ref04_Dot rfl fun h => ?_
  have hone := hmv.one
  simp [hone]
  intro b3 hb3
  obtain ⟨l0, l1, l2, l3⟩ := ld3_at (hset_same h b3 [I D.p, I D.m, mv])
  have hkg : Kp h (hset h b3 [I D.p, I D.m, mv]) := (Kp.refl h).new hb3 _
  generalize hset h b3 [I D.p, I D.m, mv] = g at *
  generalize hn : min a.length b.length = n at *
  refine awp_for n (fun k fr' h' => h' = g ∧ fr' 8 = I k ∧ fr' 7 = I (dotK D a b k)) ⟨rfl, by simp, by simp [dotK]⟩ ?_
  intro k fr' h' hkn hk ⟨hh, k8, k7⟩
  subst hh
  have k1 := hk 1 (by decide)
  have k2 := hk 2 (by decide)
  have k3 := hk 3 (by decide)
  simp at k1 k2 k3
  clear hk
  by_cases hlt : k < n
  · have hia := hv.iadr (i := k) ⟨by omega, by omega⟩
    have hib := hw.iadr (i := k) ⟨by omega, by omega⟩
    simp at hia hib
    have hlda := fun h' => ld_ints (h := h') (l := a) (k := k) (by omega)
    have hldb := fun h' => ld_ints (h := h') (l := b) (k := k) (by omega)
    have hs : dotK D a b (k + 1) = D.add (dotK D a b k) (D.mul (a.getD k 0) (b.getD k 0)) := rfl
    rw [hs]
    have u2 : IntKind.i64.wrap ((k : Int) + 1) = k + 1 := w64 _ (by omega)
    have c1 : k < a.length := by omega
    have c2 : k < b.length := by omega
    clear hs
    generalize a.getD k 0 = ak at *
    generalize b.getD k 0 = bk at *
    simp [k1, k2, k3, k7, k8, hv.len, hw.len, c1, c2, l3, hia, hib, hlda, hldb]
    refine (s_refMul r.toRg hmv ak bk).call ?_
    simp
    refine (s_refAdd r.toRg hmv _ _).call ?_
    simp [k8, u2]
    exact hlt
  · have : k = n := by omega
    subst this
    by_cases c1 : k < a.length
    · have c2 : ¬ k < b.length := by omega
      simp [k1, k2, k7, k8, hv.len, hw.len, c1, c2]
      exact ⟨_, hkg.sub, .id _, rfl⟩
    · simp [k1, k7, k8, hv.len, c1]
      exact ⟨_, hkg.sub, .id _, rfl⟩
end Go.AM.Ytmihmgnjnedfcaa
end

section
/- Codes of the program, as the conversion gives them. -/
set_option maxRecDepth 100000
namespace Go.AM.Ytmihmgnjnedfcaa
open Go Go.AM
-- regenerate_elements
abbrev c_regenerate_elementsL0_3 : SC := (.reg [o 23 (.bin .add (.t 15) (ki 1)), o 15 (.mv (.t 23))])
abbrev c_regenerate_elementsL0_2 : SC := .seq (.block 1 (.seq (.reg [o 17 (.iadr (.t 13) (.t 15) 1), o 18 (.ld (.t 17) 1 false), o 8 (.mv (.t 18))]) (.seq (.reg [o 19 (.mv (.t 0)), o 20 (.mv (.t 8)), o 21 (.call (.f n_field_GF_Is) [.t 19, .t 20]), o 22 (.not (.t 21))]) (.cond (.t 22) (.seq (.reg [o 6 (.mv (ki 2))]) .ret) .skip)))) c_regenerate_elementsL0_3
abbrev c_regenerate_elementsL0_1 : SC := .seq (.cond (.t 16) .skip (.exit 0)) c_regenerate_elementsL0_2
abbrev c_regenerate_elementsL0_0 : SC := .seq (.reg [o 16 (.bin .lss (.t 15) (.t 14))]) c_regenerate_elementsL0_1
abbrev c_regenerate_elements_4 : SC := .ret
abbrev c_regenerate_elements_3 : SC := .seq (.reg [o 6 (.mv (ki 0))]) c_regenerate_elements_4
abbrev c_regenerate_elements_2 : SC := .seq (.seq (.reg [o 13 (.mv (.t 1)), o 14 (.len (.t 13)), o 15 (.mv (ki 0))]) (.block 0 (.loop c_regenerate_elementsL0_0))) c_regenerate_elements_3
abbrev c_regenerate_elements_1 : SC := .seq (.seq (.reg [o 9 (.mv (.t 1)), o 10 (.len (.t 9)), o 11 (.mv (.t 2)), o 12 (.bin .neq (.t 10) (.t 11))]) (.cond (.t 12) (.seq (.reg [o 6 (.mv (ki 4))]) .ret) .skip)) c_regenerate_elements_2
abbrev c_regenerate_elements_0 : SC := .seq (.reg [o 6 (.mv (ki 0))]) c_regenerate_elements_1
theorem cf_regenerate_elements : cfun Go.Proofs.Try.prog md n_regenerate_elements = some ⟨3, 24, c_regenerate_elements_0.erase, [.t 6]⟩ := by kernel_rfl
-- regenerate_powers
abbrev c_regenerate_powersL0_3 : SC := (.reg [o 26 (.bin .add (.t 13) (ki 1)), o 13 (.mv (.t 26))])
abbrev c_regenerate_powersL0_2 : SC := .seq (.block 1 (.seq (.reg [o 15 (.mv (.t 13)), o 8 (.mv (.t 15))]) (.reg [o 17 (.mv (.t 7)), o 18 (.mv (.t 8)), o 19 (.mv (.t 0)), o 20 (.mv (.t 1)), o 21 (.mv (.t 8)), o 22 (.call (.f n_field_GF_Pow) [.t 19, .t 20, .t 21]), o 16 (.mv (.t 22)), o 23 (.ext (.t 16) 0), o 24 (.ext (.t 16) 1), o 25 (.iadr (.t 17) (.t 18) 1), os (.st (.t 25) (.t 23) 1)]))) c_regenerate_powersL0_3
abbrev c_regenerate_powersL0_1 : SC := .seq (.cond (.t 14) .skip (.exit 0)) c_regenerate_powersL0_2
abbrev c_regenerate_powersL0_0 : SC := .seq (.reg [o 14 (.bin .lss (.t 13) (.t 12))]) c_regenerate_powersL0_1
abbrev c_regenerate_powers_4 : SC := .ret
abbrev c_regenerate_powers_3 : SC := .seq (.reg [o 27 (.mv (.t 7)), o 6 (.mv (.t 27))]) c_regenerate_powers_4
abbrev c_regenerate_powers_2 : SC := .seq (.seq (.reg [o 11 (.mv (.t 7)), o 12 (.len (.t 11)), o 13 (.mv (ki 0))]) (.block 0 (.loop c_regenerate_powersL0_0))) c_regenerate_powers_3
abbrev c_regenerate_powers_1 : SC := .seq (.reg [o 9 (.mv (.t 2)), o 10 (.mks (.t 9) 1 [I 0]), o 7 (.mv (.t 10))]) c_regenerate_powers_2
abbrev c_regenerate_powers_0 : SC := .seq (.reg [o 6 (.mv (.k .nils))]) c_regenerate_powers_1
theorem cf_regenerate_powers : cfun Go.Proofs.Try.prog md n_regenerate_powers = some ⟨3, 28, c_regenerate_powers_0.erase, [.t 6]⟩ := by kernel_rfl
-- ref52_Vector
abbrev c_ref52_VectorL0_2 : SC := (.reg [o 11 (.mv (.t 6)), o 12 (.bin .add (.t 11) (ki 1)), o 6 (.mv (.t 12))])
abbrev c_ref52_VectorL0_1 : SC := .seq (.block 1 (.reg [o 13 (.mv (.t 5)), o 14 (.fadr (.t 2) 0), o 16 (.fadr (.t 2) 6), o 18 (.mv (.t 1)), o 21 (.mv (.t 6)), o 15 (.ld (.t 14) 3 true), o 17 (.ld (.t 16) 1 false), o 19 (.iadr (.t 17) (.t 18) 1), o 20 (.ld (.t 19) 1 false), om 1 22 (.call (.f n_ref52_power) [.t 15, .t 20, .t 21]), o 23 (.mkl 1 1 [I 0] [(0, (1, .t 22))]), o 24 (.app (.t 13) (.t 23) 1), o 5 (.mv (.t 24))])) c_ref52_VectorL0_2
abbrev c_ref52_VectorL0_0 : SC := .seq (.seq (.reg [o 7 (.mv (.t 6)), o 8 (.fadr (.t 2) 5), o 9 (.ld (.t 8) 1 false), o 10 (.bin .lss (.t 7) (.t 9))]) (.cond (.t 10) .skip (.exit 0))) c_ref52_VectorL0_1
abbrev c_ref52_Vector_4 : SC := .ret
abbrev c_ref52_Vector_3 : SC := .seq (.reg [o 25 (.mv (.t 5)), o 4 (.mv (.t 25))]) c_ref52_Vector_4
abbrev c_ref52_Vector_2 : SC := .seq (.seq (.reg [o 6 (.mv (ki 0))]) (.block 0 (.loop c_ref52_VectorL0_0))) c_ref52_Vector_3
abbrev c_ref52_Vector_1 : SC := .seq (.reg [o 5 (.mv (.k .nils))]) c_ref52_Vector_2
abbrev c_ref52_Vector_0 : SC := .seq (.reg [o 2 (.box (.t 0)), o 4 (.mv (.k .nils))]) c_ref52_Vector_1
theorem cf_ref52_Vector : cfun Go.Proofs.Try.prog md n_ref52_Vector = some ⟨2, 26, c_ref52_Vector_0.erase, [.t 4]⟩ := by kernel_rfl
-- ref12_List
abbrev c_ref12_List_3 : SC := .ret
abbrev c_ref12_List_2 : SC := .seq (.reg [o 11 (.ld (.t 3) 3 true), o 12 (.mv (.t 1)), o 13 (.call (.f n_ref09_Entries) [.t 11, .t 12]), o 6 (.mv (.t 13))]) c_ref12_List_3
abbrev c_ref12_List_1 : SC := .seq (.seq (.reg [o 7 (.mv (.t 1)), o 8 (.len (.t 7)), o 9 (.mv (.t 2)), o 10 (.bin .neq (.t 8) (.t 9))]) (.cond (.t 10) (.seq (.reg [o 6 (.mv (ki 4))]) .ret) .skip)) c_ref12_List_2
abbrev c_ref12_List_0 : SC := .seq (.reg [o 3 (.box (.t 0)), o 6 (.mv (ki 0))]) c_ref12_List_1
theorem cf_ref12_List : cfun Go.Proofs.Try.prog md n_ref12_List = some ⟨3, 14, c_ref12_List_0.erase, [.t 6]⟩ := by kernel_rfl
-- regenerate_Help
abbrev c_regenerate_Help_7 : SC := .ret
abbrev c_regenerate_Help_6 : SC := .seq (.reg [o 46 (.mv (.t 9)), o 47 (.mv (.t 2)), o 48 (.mv (.t 9)), o 49 (.fadr (.t 3) 6), o 50 (.ld (.t 49) 1 false), o 51 (.mv (.t 1)), o 52 (.iadr (.t 50) (.t 51) 1), o 53 (.ld (.t 52) 1 false), o 54 (.mv (.t 12)), o 55 (.call (.f n_regenerate_powers) [.t 48, .t 53, .t 54]), o 56 (.call (.f n_field_GF_Dot) [.t 46, .t 47, .t 55]), o 6 (.mv (.t 56)), o 7 (.mv (ki 0))]) c_regenerate_Help_7
abbrev c_regenerate_Help_5 : SC := .seq (.seq (.reg [o 39 (.mv (.t 9)), o 40 (.mv (.t 2)), o 41 (.mv (.t 12)), o 42 (.call (.f n_regenerate_elements) [.t 39, .t 40, .t 41]), o 13 (.mv (.t 42))]) (.seq (.reg [o 43 (.mv (.t 13)), o 44 (.bin .neq (.t 43) (ki 0))]) (.cond (.t 44) (.seq (.reg [o 45 (.mv (.t 13)), o 6 (.mv (ki 0)), o 7 (.mv (.t 45))]) .ret) .skip))) c_regenerate_Help_6
abbrev c_regenerate_Help_4 : SC := .seq (.reg [o 35 (.ld (.t 3) 7 true), o 36 (.call (.f n_regenerate_sizes) [.t 35]), o 34 (.mv (.t 36)), o 37 (.ext (.t 34) 0), o 38 (.ext (.t 34) 1), o 11 (.mv (.t 37)), o 12 (.mv (.t 38))]) c_regenerate_Help_5
abbrev c_regenerate_Help_3 : SC := .seq (.reg [o 29 (.fadr (.t 3) 0), o 30 (.ld (.t 29) 3 true), o 31 (.call (.f n_field_New) [.t 30]), o 28 (.mv (.t 31)), o 32 (.ext (.t 28) 0), o 33 (.ext (.t 28) 1), o 9 (.mv (.t 32)), o 10 (.mv (.t 33))]) c_regenerate_Help_4
abbrev c_regenerate_Help_2 : SC := .seq (.seq (.reg [o 19 (.mv (.t 1)), o 20 (.bin .lss (.t 19) (ki 0)), o 21 (.mv (.t 20)), og 21 false 0 22 (.mv (.t 1)), og 21 false 0 23 (.fadr (.t 3) 6), og 21 false 0 24 (.ld (.t 23) 1 false), og 21 false 0 25 (.len (.t 24)), og 21 false 0 26 (.bin .geq (.t 22) (.t 25)), o 27 (.pick (.t 21) (kb true) (.t 26))]) (.cond (.t 27) (.seq (.reg [o 6 (.mv (ki 0)), o 7 (.mv (ki 6))]) .ret) .skip)) c_regenerate_Help_3
abbrev c_regenerate_Help_1 : SC := .seq (.seq (.reg [o 14 (.ld (.t 3) 7 true), o 15 (.call (.f n_regenerate_Check) [.t 14]), o 8 (.mv (.t 15))]) (.seq (.reg [o 16 (.mv (.t 8)), o 17 (.bin .neq (.t 16) (ki 0))]) (.cond (.t 17) (.seq (.reg [o 18 (.mv (.t 8)), o 6 (.mv (ki 0)), o 7 (.mv (.t 18))]) .ret) .skip))) c_regenerate_Help_2
abbrev c_regenerate_Help_0 : SC := .seq (.reg [o 3 (.box (.t 0)), o 6 (.mv (ki 0)), o 7 (.mv (ki 0))]) c_regenerate_Help_1
theorem cf_regenerate_Help : cfun Go.Proofs.Try.prog md n_regenerate_Help = some ⟨3, 57, c_regenerate_Help_0.erase, [.t 6, .t 7]⟩ := by kernel_rfl
-- ref52_Help
abbrev c_ref52_Help_2 : SC := .ret
abbrev c_ref52_Help_1 : SC := .seq (.reg [o 7 (.fadr (.t 3) 0), o 9 (.mv (.t 2)), o 11 (.mv (.t 1)), o 8 (.ld (.t 7) 3 true), o 10 (.ld (.t 3) 7 true), om 1 12 (.call (.f n_ref52_Vector) [.t 10, .t 11]), om 1 13 (.call (.f n_ref04_Dot) [.t 8, .t 9, .t 12]), o 6 (.mv (.t 13))]) c_ref52_Help_2
abbrev c_ref52_Help_0 : SC := .seq (.reg [o 3 (.box (.t 0)), o 6 (.mv (ki 0))]) c_ref52_Help_1
theorem cf_ref52_Help : cfun Go.Proofs.Try.prog md n_ref52_Help = some ⟨3, 14, c_ref52_Help_0.erase, [.t 6]⟩ := by kernel_rfl
-- law52_RegenerateHelps
abbrev c_law52_RegenerateHelps_8 : SC := .ret
abbrev c_law52_RegenerateHelps_7 : SC := .seq (.reg [o 59 (.mv (.t 8)), o 60 (.bin .eql (.t 59) (ki 0)), o 61 (.mv (.t 60)), og 61 true 0 62 (.mv (.t 7)), og 61 true 0 63 (.ld (.t 3) 7 true), og 61 true 0 64 (.mv (.t 1)), og 61 true 0 65 (.mv (.t 2)), og 61 true 0 66 (.call (.f n_ref52_Help) [.t 63, .t 64, .t 65]), og 61 true 0 67 (.bin .eql (.t 62) (.t 66)), o 68 (.pick (.t 61) (.t 67) (kb false)), o 6 (.mv (.t 68))]) c_law52_RegenerateHelps_8
abbrev c_law52_RegenerateHelps_6 : SC := .seq (.seq (.reg [o 50 (.mv (.t 9)), o 51 (.bin .neq (.t 50) (ki 0))]) (.cond (.t 51) (.seq (.reg [o 52 (.mv (.t 8)), o 53 (.mv (.t 9)), o 54 (.bin .eql (.t 52) (.t 53)), o 55 (.mv (.t 54)), og 55 true 0 56 (.mv (.t 7)), og 55 true 0 57 (.bin .eql (.t 56) (ki 0)), o 58 (.pick (.t 55) (.t 57) (kb false)), o 6 (.mv (.t 58))]) .ret) .skip)) c_law52_RegenerateHelps_7
abbrev c_law52_RegenerateHelps_5 : SC := .seq (.seq (.reg [o 38 (.mv (.t 9)), o 39 (.bin .eql (.t 38) (ki 0))]) (.cond (.t 39) (.seq (.reg [o 41 (.ld (.t 3) 7 true), o 42 (.call (.f n_ref52_Size) [.t 41]), o 40 (.mv (.t 42)), o 43 (.ext (.t 40) 0), o 44 (.ext (.t 40) 1), o 10 (.mv (.t 43)), o 11 (.mv (.t 44))]) (.reg [o 45 (.fadr (.t 3) 0), o 46 (.ld (.t 45) 3 true), o 47 (.mv (.t 2)), o 48 (.mv (.t 11)), o 49 (.call (.f n_ref12_List) [.t 46, .t 47, .t 48]), o 9 (.mv (.t 49))])) .skip)) c_law52_RegenerateHelps_6
abbrev c_law52_RegenerateHelps_4 : SC := .seq (.seq (.reg [o 25 (.mv (.t 9)), o 26 (.bin .eql (.t 25) (ki 0)), o 27 (.mv (.t 26)), og 27 true 0 28 (.mv (.t 1)), og 27 true 0 29 (.bin .lss (.t 28) (ki 0)), og 27 true 0 30 (.mv (.t 29)), og 30 false 0 31 (.mv (.t 1)), og 30 false 0 32 (.fadr (.t 3) 6), og 30 false 0 33 (.ld (.t 32) 1 false), og 30 false 0 34 (.len (.t 33)), og 30 false 0 35 (.bin .geq (.t 31) (.t 34)), og 27 true 0 36 (.pick (.t 30) (kb true) (.t 35)), o 37 (.pick (.t 27) (.t 36) (kb false))]) (.cond (.t 37) (.reg [o 9 (.mv (ki 6))]) .skip)) c_law52_RegenerateHelps_5
abbrev c_law52_RegenerateHelps_3 : SC := .seq (.reg [o 23 (.ld (.t 3) 7 true), o 24 (.call (.f n_ref52_Check) [.t 23]), o 9 (.mv (.t 24))]) c_law52_RegenerateHelps_4
abbrev c_law52_RegenerateHelps_2 : SC := .seq (.reg [o 17 (.ld (.t 3) 7 true), o 18 (.mv (.t 1)), o 19 (.mv (.t 2)), o 20 (.call (.f n_regenerate_Help) [.t 17, .t 18, .t 19]), o 16 (.mv (.t 20)), o 21 (.ext (.t 16) 0), o 22 (.ext (.t 16) 1), o 7 (.mv (.t 21)), o 8 (.mv (.t 22))]) c_law52_RegenerateHelps_3
abbrev c_law52_RegenerateHelps_1 : SC := .seq (.seq (.reg [o 12 (.fadr (.t 3) 6), o 13 (.ld (.t 12) 1 false), o 14 (.len (.t 13)), o 15 (.bin .gtr (.t 14) (ki 12))]) (.cond (.t 15) (.seq (.reg [o 6 (.mv (kb true))]) .ret) .skip)) c_law52_RegenerateHelps_2
abbrev c_law52_RegenerateHelps_0 : SC := .seq (.reg [o 3 (.box (.t 0)), o 6 (.mv (kb false))]) c_law52_RegenerateHelps_1
theorem cf_law52_RegenerateHelps : cfun Go.Proofs.Try.prog md n_law52_RegenerateHelps = some ⟨3, 69, c_law52_RegenerateHelps_0.erase, [.t 6]⟩ := by kernel_rfl
end Go.AM.Ytmihmgnjnedfcaa
end

section
/- Contracts of functions: lists of elements, vectors of powers, the symbol of a helper. -/
set_option maxRecDepth 100000
set_option linter.unusedSimpArgs false
set_option linter.unusedVariables false
namespace Go.AM.Ytmihmgnjnedfcaa
open Go Go.AM
attribute [local simp ↓] awp_seq awp_reg awp_skip awp_cond' awp_block awp_exit awp_ret awp_fz thenW_normal thenW_exit thenW_ret inBlk_normal inBlk_exit inBlk_ret aops_cons' contA_ap aops_nil e_mv e_guard' e_pick' e_ld' e_app e_cpy e_st' e_call callW_f updO_some updO_none e_bin' e_isnil' e_fadr' e_iadr' e_iarr' e_len' e_build' e_mkf' e_nc' e_not' e_neg' e_cvt' e_slc' e_fld' e_ext' e_min' e_eqs' e_new e_box e_mkl e_mks
attribute [local simp] upd_apply ev_t ev_k ev_f binA_add binA_sub binA_mul binA_quo binA_rem binA_eql binA_neq binA_lss binA_leq binA_gtr binA_geq det mem frame0 keeps_nil iadrA_sl fadrA_ref fadrA_fp ldv_agg ldv_one cells_base hset_same hset_hset lenA_fs lenA_sl lenA_nils zeros_ints ints_length one_base one_nilp one_nils one_ref one_sl one_fp one_fs one_fn gl_one resA resOf bound natOf afill splice AV.cells cells_agg bindR_some condR_true condR_false guardR_tup guardR_true guardR_true' guardR_false guardR_false' allocW_some pickA_true pickA_false
open Go.FM

open Classical in
/-- The answer on a list that must have n elements. -/
noncomputable def elE (D : Ds) (l : List Int) (n : Int) : Int := if (l.length : Int) ≠ n then 4 else if ∀ x ∈ l, D.R x then 0 else 2

theorem s_elements {D : Ds} (r : Fd D) {v : AV} {l : List Int} (hv : IL v l) (hl : l.length < 4611686018427387904) (n : Int) : Pure prog n_regenerate_elements [.fp (gfC D), v, I n] (I (elE D l n)) := by
  classical
  refine pure_of cf_regenerate_elements rfl fun h => ?_
  unfold elE
  by_cases hn : (l.length : Int) = n
  case neg =>
    rw [if_pos hn]
    simp [hv.len, hn]
    exact RetP.same
  subst hn
  rw [if_neg (by simp)]
  simp [hv.len]
  refine awp_for l.length (fun k fr' h' => h' = h ∧ fr' 15 = I k ∧ ∀ x ∈ l.take k, D.R x) ⟨rfl, by simp, by simp⟩ ?_
  intro k fr' h' hkn hk ⟨hh, k15, hx⟩
  subst hh
  have k0 := hk 0 (by decide)
  have k13 := hk 13 (by decide)
  have k14 := hk 14 (by decide)
  simp at k0 k13 k14
  clear hk
  by_cases hlt : k < l.length
  · have hia := hv.iadr (i := k) ⟨by omega, by omega⟩
    simp at hia
    have hld := fun h' => ld_ints (h := h') hlt
    have hmem : l.getD k 0 ∈ l := by simp only [List.getD, List.getElem?_eq_getElem hlt, Option.getD_some]; exact List.getElem_mem hlt
    have htk : l.take (k + 1) = l.take k ++ [l.getD k 0] := by rw [List.take_succ_eq_append_getElem hlt]; simp [List.getD, hlt]
    rw [htk]
    generalize l.getD k 0 = y at *
    have u1 : IntKind.i64.wrap ((k : Int) + 1) = k + 1 := w64 _ (by omega)
    simp [k0, k13, k14, k15, hlt, hia, hld]
    refine (s_Is r y).call ?_
    by_cases c : 0 ≤ y ∧ y < D.q
    · rw [decide_eq_true c]
      simp [k15, u1, hlt]
      intro x hxx
      rcases hxx with hxx | rfl
      · exact hx x hxx
      · exact c
    · rw [decide_eq_false c]
      simp
      rw [if_neg fun hc => c (hc y hmem)]
      exact RetP.same
  · have : k = l.length := by omega
    subst this
    rw [List.take_length] at hx
    simp [k14, k15]
    rw [if_pos hx]
    exact RetP.same

theorem s_List {D : Ds} (r : Rg D) {mv v : AV} (hone : one mv = true) {l : List Int} (hv : IL v l) (hl : l.length < 4611686018427387904) (n : Int) : Pure prog n_ref12_List [.agg [I D.p, I D.m, mv], v, I n] (I (elE D l n)) := by
  classical
  refine pure_of cf_ref12_List rfl fun h => ?_
  simp [hone]
  intro b2 hb2
  obtain ⟨l0, l1, l2, l3⟩ := ld3_at (hset_same h b2 [I D.p, I D.m, mv])
  have hkg : Kp h (hset h b2 [I D.p, I D.m, mv]) := (Kp.refl h).new hb2 _
  generalize hset h b2 [I D.p, I D.m, mv] = g at *
  unfold elE
  by_cases hn : (l.length : Int) = n
  case neg =>
    rw [if_pos hn]
    simp [hv.len, hn]
    exact ⟨_, hkg.sub, .id _, rfl⟩
  rw [if_neg (by simpa using hn)]
  obtain ⟨e, he1, he2, hP⟩ := s_Entries r hone hv hl
  simp [hv.len, hn, l3]
  refine hP.call ?_
  simp
  refine ⟨_, hkg.sub, .id _, ?_⟩
  by_cases hx : ∀ x ∈ l, D.R x
  · rw [if_pos hx, he2.2 hx]
  · rw [if_neg hx, he1.resolve_left fun hc => hx (he2.1 hc)]

theorem pwL_set {D : Ds} {x : Int} {n k : Nat} (hk : k < n) : (pwL D x k ++ List.replicate (n - k) 0).set k (D.pw x k) = pwL D x (k + 1) ++ List.replicate (n - (k + 1)) 0 := by
  rw [set_mid (pwL_len D x k) hk, pwL_succ]

theorem s_powersR {D : Ds} (r : Fd D) (x : Int) (n : Nat) (hn : n ≤ 4294967296) : Pure prog n_regenerate_powers [.fp (gfC D), I x, I n] (.fs n (ints (pwL D x n))) := by
  refine pure_of cf_regenerate_powers rfl fun h => ?_
  have hn' : (n : Int) ≤ 4294967296 := by omega
  simp [hn']
  intro b7 hb7
  have hk0 : Kp h (hset h b7 (ints (List.replicate n 0))) := (Kp.refl h).new hb7 _
  refine awp_for n (fun k fr' h' => Kp h h' ∧ h' b7 = some (ints (pwL D x k ++ List.replicate (n - k) 0)) ∧ fr' 13 = I k) ⟨hk0, by simp [hset_same, pwL], by simp⟩ ?_
  intro k fr' h' hkn hk ⟨hkp, hb, k13⟩
  have k0 := hk 0 (by decide)
  have k1 := hk 1 (by decide)
  have k7 := hk 7 (by decide)
  have k12 := hk 12 (by decide)
  simp at k0 k1 k7 k12
  clear hk
  by_cases hlt : k < n
  · have u2 : IntKind.i64.wrap ((k : Int) + 1) = k + 1 := w64 _ (by omega)
    have st := fun R => sr_ints (R := R) (v := D.pw x k) hb (k := k) (by simp [pwL_len]; omega)
    rw [pwL_set hlt] at st
    simp [k0, k1, k7, k12, k13, hlt]
    refine (s_Pow r x k (by omega)).call ?_
    simp [k13, u2, hlt, st]
    exact hkp.set hb7 _
  · have : k = n := by omega
    subst this
    simp [k7, k12, k13]
    rw [Nat.sub_self, List.replicate_zero, List.append_nil] at hb
    exact ret_blk hb hb7 hkp (by simp [ints_length, pwL_len]) rfl

theorem s_Vector {R : Rc} (hf : FieldP R.p R.m R.mo) {mv pv : AV} (hmv : IL mv R.mo) (hpv : IL pv R.pts) {i : Int} (hi : 0 ≤ i ∧ i < R.pts.length) {d : Nat} (hd : R.d = d) (hd2 : d ≤ 64) :
    Pure prog n_ref52_Vector [.agg (R.cells mv pv), I i] (gl d (ints (pwL R.D (R.pts.getD i.toNat 0) d))) := by
  refine pure_of cf_ref52_Vector rfl fun h => ?_
  have hone := hmv.one
  have hone2 := hpv.one
  have r := hf.fd
  have hia := hpv.iadr hi
  have hld := fun h' => ld_ints (h := h') (l := R.pts) (k := i.toNat) (by omega)
  generalize R.pts.getD i.toNat 0 = x at *
  simp [hone, hone2]
  intro b1 hb1
  have hkg : Kp h (hset h b1 (R.cells mv pv)) := (Kp.refl h).new hb1 _
  have hg1 : (hset h b1 (R.cells mv pv)) b1 = some (R.cells mv pv) := hset_same ..
  generalize hset h b1 (R.cells mv pv) = g at *
  refine awp_for d (fun k fr' h' => (∃ v, fr' 5 = v ∧ Own 1 g h' v k (ints (pwL R.D x k))) ∧ fr' 6 = I k) ⟨⟨.nils, by simp, by simpa [pwL, ints] using Own.nils 1 g⟩, by simp⟩ ?_
  intro k fr' h' hkn hk ⟨⟨v, k5, o⟩, k6⟩
  have k1 := hk 1 (by decide)
  have k2 := hk 2 (by decide)
  simp at k1 k2
  clear hk
  obtain ⟨p0, p3, p4, p5, p6, p7⟩ := ld7_at (o.rd hg1)
  rw [hd] at p5
  by_cases hlt : k < d
  · have u2 : IntKind.i64.wrap ((k : Int) + 1) = k + 1 := w64 _ (by omega)
    have hp1 := s_power r hmv x k (by omega)
    rw [hf.1.dp, hf.1.dm] at hp1
    have hs : ints (pwL R.D x (k + 1)) = ints (pwL R.D x k) ++ [I (R.D.pw x k)] := by rw [pwL_succ, ints_append]; rfl
    rw [hs]
    simp [k1, k2, k5, k6, p0, p5, p6, hlt, hia, hld]
    refine hp1.call ?_
    simp
    intro b hb
    refine o.app1 (m := 1) hb (by simp) (by omega) fun v' h3 o3 => ?_
    simp [k6, u2]
    exact o3
  · have : k = d := by omega
    subst this
    simp [k2, k5, k6, p5]
    exact o.ret hkg rfl

theorem dotK_congr {D : Ds} {a b c : List Int} : ∀ k, (∀ i, i < k → b.getD i 0 = c.getD i 0) → dotK D a b k = dotK D a c k
  | 0, _ => rfl
  | k + 1, h => by
    simp only [dotK]
    rw [dotK_congr k fun i hi => h i (by omega), h k (by omega)]

open Classical in
noncomputable def Rc.helpE (R : Rc) (f : Int) (c : List Int) : Int := if R.E ≠ 0 then R.E else if f < 0 ∨ (R.pts.length : Int) ≤ f then 6 else elE R.D c R.szN
/-- The symbol. -/
noncomputable def Rc.helpV (R : Rc) (f : Int) (c : List Int) : Int := dotK R.D c (pwL R.D (R.pts.getD f.toNat 0) R.szN.toNat) R.szN.toNat
open Classical in
noncomputable def Rc.helpR (R : Rc) (f : Int) (c : List Int) : AV := if R.helpE f c = 0 then .tup [I (R.helpV f c), I 0] else .tup [I 0, I (R.helpE f c)]

theorem Rc.Okn.szN {R : Rc} (o : R.Okn) : 0 ≤ R.szN ∧ R.szN ≤ 63 ∧ R.szN ≤ R.d := by
  have h1 := o.k1
  have h2 := o.kd2
  have h3 := o.d
  unfold Rc.szN
  split <;> omega

theorem newR_pos {p m : Int} {mo : List Int} (h : FieldP p m mo) : newR p m mo = .tup [.fp (gfC (mkD p m mo)), I 0] := by
  unfold newR; rw [if_pos h]

set_option maxHeartbeats 2000000 in
theorem s_Help {R : Rc} {mv pv v : AV} (hmv : IL mv R.mo) (hml : R.mo.length < 4611686018427387904) (hpv : IL pv R.pts) (hpl : R.pts.length < 4611686018427387904) (f : Int) {c : List Int} (hv : IL v c) (hcl : c.length < 4611686018427387904) :
    Pure prog n_regenerate_Help [.agg (R.cells mv pv), I f, v] (R.helpR f c) := by
  classical
  refine pure_of cf_regenerate_Help rfl fun h => ?_
  have hone := hmv.one
  have hone2 := hpv.one
  simp [hone, hone2]
  intro b3 hb3
  obtain ⟨l0, l3, l4, l5, l6, l7⟩ := ld7_at (hset_same h b3 (R.cells mv pv))
  have hkg : Kp h (hset h b3 (R.cells mv pv)) := (Kp.refl h).new hb3 _
  generalize hset h b3 (R.cells mv pv) = g at *
  have bad : ∀ e, R.helpE f c = e → e ≠ 0 → RetP h (R.helpR f c) (.tup [I 0, I e]) g := fun e he h0 => by
    rw [Rc.helpR, if_neg (by rw [he]; exact h0), he]; exact ⟨_, hkg.sub, .id _, rfl⟩
  simp [l7]
  refine (s_regCheck hmv hml hpv hpl).call ?_
  by_cases hE : R.E = 0
  case neg =>
    simp [hE]
    exact bad _ (by rw [Rc.helpE, if_pos hE]) hE
  have hE2 : R.helpE f c = if f < 0 ∨ (R.pts.length : Int) ≤ f then 6 else elE R.D c R.szN := by rw [Rc.helpE, if_neg (by simpa using hE)]
  obtain ⟨hf, e2, e3, ok, e5, _⟩ := Rc.E0 hE
  rw [hE]
  by_cases c1 : f < 0
  · simp [c1]
    exact bad 6 (by rw [hE2, if_pos (.inl c1)]) (by omega)
  by_cases c2 : (R.pts.length : Int) ≤ f
  · simp [c1, c2, l6, hpv.len]
    exact bad 6 (by rw [hE2, if_pos (.inr c2)]) (by omega)
  rw [if_neg (by omega)] at hE2
  have r := hf.fd
  simp [c1, c2, l0, l6, hpv.len]
  refine (s_New R.p R.m hmv hml).call ?_
  rw [newR_pos hf]
  simp [l7]
  refine (s_sizes ok hone hone2).call ?_
  have hsn := ok.szN
  simp
  refine (s_elements r hv hcl R.szN).call ?_
  by_cases he : elE R.D c R.szN = 0
  case neg =>
    have he' := he
    rw [← hE2] at he'
    simp [he]
    exact bad _ hE2 he
  rw [he]
  have hlen : (c.length : Int) = R.szN := by
    unfold elE at he
    split at he
    · omega
    · rename_i hh; exact Classical.byContradiction fun hc => hh hc
  have hia := hpv.iadr (i := f) ⟨by omega, by omega⟩
  have hld := fun h' => ld_ints (h := h') (l := R.pts) (k := f.toNat) (by omega)
  have hV : R.helpR f c = .tup [I (R.helpV f c), I 0] := by rw [Rc.helpR, if_pos (by rw [hE2, he])]
  rw [hV]
  unfold Rc.helpV
  obtain ⟨n, hn⟩ : ∃ n : Nat, R.szN = n := ⟨R.szN.toNat, by omega⟩
  rw [hn] at hlen hsn ⊢
  have hnt : ((n : Int)).toNat = n := by omega
  rw [hnt]
  have hpw := s_powersR r (R.pts.getD f.toNat 0) n (by omega)
  have hIp := IL.fs (pwL R.D (R.pts.getD f.toNat 0) n)
  rw [pwL_len] at hIp
  have hdot := s_Dot r hv hIp hcl (by rw [pwL_len]; omega)
  rw [pwL_len, show min c.length n = n by omega] at hdot
  generalize R.pts.getD f.toNat 0 = x at *
  simp [l6, hia, hld]
  refine hpw.call ?_
  simp
  refine hdot.call ?_
  simp
  exact ⟨_, hkg.sub, .id _, rfl⟩

theorem s_refHelp {R : Rc} (hE : R.E = 0) {mv pv v : AV} (hmv : IL mv R.mo) (hpv : IL pv R.pts) {f : Int} (hf1 : 0 ≤ f ∧ f < R.pts.length) {c : List Int} (hv : IL v c) (hcl : (c.length : Int) = R.szN) :
    Pure prog n_ref52_Help [.agg (R.cells mv pv), I f, v] (I (R.helpV f c)) := by
  refine pure_of cf_ref52_Help rfl fun h => ?_
  have hone := hmv.one
  have hone2 := hpv.one
  obtain ⟨hf, e2, e3, ok, e5, _⟩ := Rc.E0 hE
  have r := hf.fd
  have hsn := ok.szN
  simp [hone, hone2]
  intro b3 hb3
  obtain ⟨l0, l3, l4, l5, l6, l7⟩ := ld7_at (hset_same h b3 (R.cells mv pv))
  have hkg : Kp h (hset h b3 (R.cells mv pv)) := (Kp.refl h).new hb3 _
  generalize hset h b3 (R.cells mv pv) = g at *
  obtain ⟨d, hd⟩ : ∃ d : Nat, R.d = d := ⟨R.d.toNat, by have := ok.k1; have := ok.kd2; omega⟩
  have hd63 := ok.d
  have hvec := s_Vector hf hmv hpv hf1 hd (by omega)
  have hIv := gl_SV (sz := 1) (n := d) (cs := ints (pwL R.D (R.pts.getD f.toNat 0) d)) (by rw [ints_length, pwL_len]; omega)
  have hIv2 : IL (gl d (ints (pwL R.D (R.pts.getD f.toNat 0) d))) (pwL R.D (R.pts.getD f.toNat 0) d) := by
    unfold IL; rw [pwL_len]; exact hIv
  have hdot := s_refDot r hmv hv hIv2 (by omega) (by rw [pwL_len]; omega)
  rw [hf.1.dp, hf.1.dm, pwL_len] at hdot
  unfold Rc.helpV
  obtain ⟨n, hn⟩ : ∃ n : Nat, R.szN = n := ⟨R.szN.toNat, by omega⟩
  rw [hn] at hcl hsn ⊢
  have hnt : ((n : Int)).toNat = n := by omega
  rw [hnt]
  rw [show min c.length d = n by omega] at hdot
  have hcg : dotK R.D c (pwL R.D (R.pts.getD f.toNat 0) d) n = dotK R.D c (pwL R.D (R.pts.getD f.toNat 0) n) n := dotK_congr n fun i hi => by
    rw [pwL_getD (by omega), pwL_getD hi]
  rw [hcg] at hdot
  generalize R.pts.getD f.toNat 0 = x at *
  simp [l0, l7]
  refine hvec.call ?_
  simp
  refine hdot.call ?_
  simp
  exact ⟨_, hkg.sub, .id _, rfl⟩
end Go.AM.Ytmihmgnjnedfcaa
end
