/- Codes of the program, as the conversion gives them. -/
import Derived.Test.YtmihmgnjnedfcaaNum
set_option maxRecDepth 100000
namespace Go.AM.Ytmihmgnjnedfcaa
open Go Go.AM
-- field_order
abbrev c_field_orderL0_3 : SC := (.reg [o 28 (.bin .add (.t 21) (ki 1)), o 21 (.mv (.t 28))])
abbrev c_field_orderL0_2 : SC := .seq (.block 1 (.seq (.reg [o 23 (.mv (.t 5)), o 24 (.mv (.t 0)), o 25 (.bin .mul (.t 23) (.t 24)), o 5 (.mv (.t 25))]) (.seq (.reg [o 26 (.mv (.t 5)), o 27 (.bin .gtr (.t 26) (ki 256))]) (.cond (.t 27) (.seq (.reg [o 4 (.mv (ki 0))]) .ret) .skip)))) c_field_orderL0_3
abbrev c_field_orderL0_1 : SC := .seq (.cond (.t 22) .skip (.exit 0)) c_field_orderL0_2
abbrev c_field_orderL0_0 : SC := .seq (.reg [o 22 (.bin .lss (.t 21) (.t 20))]) c_field_orderL0_1
abbrev c_field_order_5 : SC := .ret
abbrev c_field_order_4 : SC := .seq (.reg [o 29 (.mv (.t 5)), o 4 (.mv (.t 29))]) c_field_order_5
abbrev c_field_order_3 : SC := .seq (.seq (.reg [o 20 (.mv (.t 1)), o 21 (.mv (ki 0))]) (.block 0 (.loop c_field_orderL0_0))) c_field_order_4
abbrev c_field_order_2 : SC := .seq (.reg [o 5 (.mv (ki 1))]) c_field_order_3
abbrev c_field_order_1 : SC := .seq (.seq (.reg [o 6 (.mv (.t 0)), o 7 (.bin .lss (.t 6) (ki 2)), o 8 (.mv (.t 7)), og 8 false 0 9 (.mv (.t 0)), og 8 false 0 10 (.bin .gtr (.t 9) (ki 256)), o 11 (.pick (.t 8) (kb true) (.t 10)), o 12 (.mv (.t 11)), og 12 false 0 13 (.mv (.t 1)), og 12 false 0 14 (.bin .lss (.t 13) (ki 1)), o 15 (.pick (.t 12) (kb true) (.t 14)), o 16 (.mv (.t 15)), og 16 false 0 17 (.mv (.t 1)), og 16 false 0 18 (.bin .gtr (.t 17) (ki 8)), o 19 (.pick (.t 16) (kb true) (.t 18))]) (.cond (.t 19) (.seq (.reg [o 4 (.mv (ki 0))]) .ret) .skip)) c_field_order_2
abbrev c_field_order_0 : SC := .seq (.reg [o 4 (.mv (ki 0))]) c_field_order_1
theorem cf_field_order : cfun Go.Proofs.Try.prog md n_field_order = some ⟨2, 30, c_field_order_0.erase, [.t 4]⟩ := by kernel_rfl
-- field_isPrime
abbrev c_field_isPrimeL0_2 : SC := (.reg [o 9 (.mv (.t 3)), o 10 (.bin .add (.t 9) (ki 1)), o 3 (.mv (.t 10))])
abbrev c_field_isPrimeL0_1 : SC := .seq (.block 1 (.seq (.reg [o 11 (.mv (.t 0)), o 12 (.mv (.t 3)), o 13 (.bin .rem (.t 11) (.t 12)), o 14 (.bin .eql (.t 13) (ki 0))]) (.cond (.t 14) (.seq (.reg [o 2 (.mv (kb false))]) .ret) .skip))) c_field_isPrimeL0_2
abbrev c_field_isPrimeL0_0 : SC := .seq (.seq (.reg [o 4 (.mv (.t 3)), o 5 (.mv (.t 3)), o 6 (.bin .mul (.t 4) (.t 5)), o 7 (.mv (.t 0)), o 8 (.bin .leq (.t 6) (.t 7))]) (.cond (.t 8) .skip (.exit 0))) c_field_isPrimeL0_1
abbrev c_field_isPrime_3 : SC := .ret
abbrev c_field_isPrime_2 : SC := .seq (.reg [o 15 (.mv (.t 0)), o 16 (.bin .geq (.t 15) (ki 2)), o 2 (.mv (.t 16))]) c_field_isPrime_3
abbrev c_field_isPrime_1 : SC := .seq (.seq (.reg [o 3 (.mv (ki 2))]) (.block 0 (.loop c_field_isPrimeL0_0))) c_field_isPrime_2
abbrev c_field_isPrime_0 : SC := .seq (.reg [o 2 (.mv (kb false))]) c_field_isPrime_1
theorem cf_field_isPrime : cfun Go.Proofs.Try.prog md n_field_isPrime = some ⟨1, 17, c_field_isPrime_0.erase, [.t 2]⟩ := by kernel_rfl
-- field_digitsOf
abbrev c_field_digitsOfL0_3 : SC := (.reg [o 25 (.bin .add (.t 13) (ki 1)), o 13 (.mv (.t 25))])
abbrev c_field_digitsOfL0_2 : SC := .seq (.block 1 (.seq (.reg [o 15 (.mv (.t 13)), o 8 (.mv (.t 15))]) (.seq (.reg [o 16 (.mv (.t 7)), o 17 (.mv (.t 8)), o 18 (.mv (.t 0)), o 19 (.mv (.t 1)), o 20 (.bin .rem (.t 18) (.t 19)), o 21 (.iadr (.t 16) (.t 17) 1), os (.st (.t 21) (.t 20) 1)]) (.reg [o 22 (.mv (.t 0)), o 23 (.mv (.t 1)), o 24 (.bin .quo (.t 22) (.t 23)), o 0 (.mv (.t 24))])))) c_field_digitsOfL0_3
abbrev c_field_digitsOfL0_1 : SC := .seq (.cond (.t 14) .skip (.exit 0)) c_field_digitsOfL0_2
abbrev c_field_digitsOfL0_0 : SC := .seq (.reg [o 14 (.bin .lss (.t 13) (.t 12))]) c_field_digitsOfL0_1
abbrev c_field_digitsOf_4 : SC := .ret
abbrev c_field_digitsOf_3 : SC := .seq (.reg [o 26 (.mv (.t 7)), o 6 (.mv (.t 26))]) c_field_digitsOf_4
abbrev c_field_digitsOf_2 : SC := .seq (.seq (.reg [o 11 (.mv (.t 7)), o 12 (.len (.t 11)), o 13 (.mv (ki 0))]) (.block 0 (.loop c_field_digitsOfL0_0))) c_field_digitsOf_3
abbrev c_field_digitsOf_1 : SC := .seq (.reg [o 9 (.mv (.t 2)), o 10 (.mks (.t 9) 1 [I 0]), o 7 (.mv (.t 10))]) c_field_digitsOf_2
abbrev c_field_digitsOf_0 : SC := .seq (.reg [o 6 (.mv (.k .nils))]) c_field_digitsOf_1
theorem cf_field_digitsOf : cfun Go.Proofs.Try.prog md n_field_digitsOf = some ⟨3, 27, c_field_digitsOf_0.erase, [.t 6]⟩ := by kernel_rfl
-- field_valueOf
abbrev c_field_valueOfL0_2 : SC := (.reg [o 12 (.mv (.t 6)), o 13 (.bin .sub (.t 12) (ki 1)), o 6 (.mv (.t 13))])
abbrev c_field_valueOfL0_1 : SC := .seq (.block 1 (.reg [o 14 (.mv (.t 5)), o 15 (.mv (.t 1)), o 16 (.bin .mul (.t 14) (.t 15)), o 17 (.mv (.t 0)), o 18 (.mv (.t 6)), o 19 (.iadr (.t 17) (.t 18) 1), o 20 (.ld (.t 19) 1 false), o 21 (.bin .add (.t 16) (.t 20)), o 5 (.mv (.t 21))])) c_field_valueOfL0_2
abbrev c_field_valueOfL0_0 : SC := .seq (.seq (.reg [o 10 (.mv (.t 6)), o 11 (.bin .geq (.t 10) (ki 0))]) (.cond (.t 11) .skip (.exit 0))) c_field_valueOfL0_1
abbrev c_field_valueOf_4 : SC := .ret
abbrev c_field_valueOf_3 : SC := .seq (.reg [o 22 (.mv (.t 5)), o 4 (.mv (.t 22))]) c_field_valueOf_4
abbrev c_field_valueOf_2 : SC := .seq (.seq (.reg [o 7 (.mv (.t 0)), o 8 (.len (.t 7)), o 9 (.bin .sub (.t 8) (ki 1)), o 6 (.mv (.t 9))]) (.block 0 (.loop c_field_valueOfL0_0))) c_field_valueOf_3
abbrev c_field_valueOf_1 : SC := .seq (.reg [o 5 (.mv (ki 0))]) c_field_valueOf_2
abbrev c_field_valueOf_0 : SC := .seq (.reg [o 4 (.mv (ki 0))]) c_field_valueOf_1
theorem cf_field_valueOf : cfun Go.Proofs.Try.prog md n_field_valueOf = some ⟨2, 23, c_field_valueOf_0.erase, [.t 4]⟩ := by kernel_rfl
-- field_multiply
abbrev c_field_multiplyL1_3 : SC := (.reg [o 92 (.bin .add (.t 54) (ki 1)), o 54 (.mv (.t 92))])
abbrev c_field_multiplyL1_2 : SC := .seq (.block 3 (.seq (.reg [o 56 (.mv (.t 54)), o 12 (.mv (.t 56))]) (.seq (.reg [o 13 (.mv (ki 0))]) (.seq (.seq (.reg [o 57 (.fadr (.t 3) 1), o 58 (.ld (.t 57) 1 false), o 59 (.bin .gtr (.t 58) (ki 1))]) (.cond (.t 59) (.reg [o 60 (.fadr (.t 3) 2), o 61 (.ld (.t 60) 1 false), o 62 (.mv (.t 12)), o 63 (.iadr (.t 61) (.t 62) 1), o 64 (.ld (.t 63) 1 false), o 13 (.mv (.t 64))]) .skip)) (.reg [o 65 (.mv (.t 9)), o 66 (.mv (.t 12)), o 67 (.mv (.t 9)), o 68 (.mv (.t 12)), o 69 (.iadr (.t 67) (.t 68) 1), o 71 (.fadr (.t 3) 0), o 73 (.mv (.t 11)), o 75 (.mv (.t 13)), o 78 (.mv (.t 8)), o 79 (.mv (.t 10)), o 80 (.iadr (.t 78) (.t 79) 1), o 82 (.mv (.t 7)), o 83 (.mv (.t 12)), o 84 (.iadr (.t 82) (.t 83) 1), o 88 (.fadr (.t 3) 0), o 70 (.ld (.t 69) 1 false), o 72 (.ld (.t 71) 1 false), o 74 (.bin .sub (.t 72) (.t 73)), o 76 (.bin .mul (.t 74) (.t 75)), o 77 (.bin .add (.t 70) (.t 76)), o 81 (.ld (.t 80) 1 false), o 85 (.ld (.t 84) 1 false), o 86 (.bin .mul (.t 81) (.t 85)), o 87 (.bin .add (.t 77) (.t 86)), o 89 (.ld (.t 88) 1 false), o 90 (.bin .rem (.t 87) (.t 89)), o 91 (.iadr (.t 65) (.t 66) 1), os (.st (.t 91) (.t 90) 1)]))))) c_field_multiplyL1_3
abbrev c_field_multiplyL1_1 : SC := .seq (.cond (.t 55) .skip (.exit 2)) c_field_multiplyL1_2
abbrev c_field_multiplyL1_0 : SC := .seq (.reg [o 55 (.bin .lss (.t 54) (.t 53))]) c_field_multiplyL1_1
abbrev c_field_multiplyL0_2 : SC := (.reg [o 34 (.mv (.t 10)), o 35 (.bin .sub (.t 34) (ki 1)), o 10 (.mv (.t 35))])
abbrev c_field_multiplyL0_1 : SC := .seq (.block 1 (.seq (.reg [o 36 (.mv (.t 9)), o 37 (.fadr (.t 3) 1), o 38 (.ld (.t 37) 1 false), o 39 (.bin .sub (.t 38) (ki 1)), o 40 (.iadr (.t 36) (.t 39) 1), o 41 (.ld (.t 40) 1 false), o 11 (.mv (.t 41))]) (.seq (.reg [o 42 (.mv (.t 9)), o 43 (.slc (.t 42) (some (ki 1)) none none 1), o 44 (.mv (.t 9)), o 45 (.fadr (.t 3) 1), o 46 (.ld (.t 45) 1 false), o 47 (.bin .sub (.t 46) (ki 1)), o 48 (.slc (.t 44) none (some (.t 47)) none 1), o 49 (.cpy (.t 43) (.t 48) 1)]) (.seq (.reg [o 50 (.mv (.t 9)), o 51 (.iadr (.t 50) (ki 0) 1), os (.st (.t 51) (ki 0) 1)]) (.seq (.reg [o 52 (.mv (.t 9)), o 53 (.len (.t 52)), o 54 (.mv (ki 0))]) (.block 2 (.loop c_field_multiplyL1_0))))))) c_field_multiplyL0_2
abbrev c_field_multiplyL0_0 : SC := .seq (.seq (.reg [o 32 (.mv (.t 10)), o 33 (.bin .geq (.t 32) (ki 0))]) (.cond (.t 33) .skip (.exit 0))) c_field_multiplyL0_1
abbrev c_field_multiply_5 : SC := .ret
abbrev c_field_multiply_4 : SC := .fz [9] (.seq (.reg [o 93 (.mv (.t 9)), o 94 (.fadr (.t 3) 0), o 95 (.ld (.t 94) 1 false), o 96 (.call (.f n_field_valueOf) [.t 93, .t 95]), o 6 (.mv (.t 96))]) c_field_multiply_5)
abbrev c_field_multiply_3 : SC := .seq (.seq (.reg [o 29 (.fadr (.t 3) 1), o 30 (.ld (.t 29) 1 false), o 31 (.bin .sub (.t 30) (ki 1)), o 10 (.mv (.t 31))]) (.block 0 (.loop c_field_multiplyL0_0))) c_field_multiply_4
abbrev c_field_multiply_2 : SC := .seq (.reg [o 26 (.fadr (.t 3) 1), o 27 (.ld (.t 26) 1 false), o 28 (.mks (.t 27) 1 [I 0]), o 9 (.mv (.t 28))]) c_field_multiply_3
abbrev c_field_multiply_1 : SC := .seq (.reg [o 14 (.mv (.t 1)), o 15 (.fadr (.t 3) 0), o 17 (.fadr (.t 3) 1), o 20 (.mv (.t 2)), o 21 (.fadr (.t 3) 0), o 23 (.fadr (.t 3) 1), o 16 (.ld (.t 15) 1 false), o 18 (.ld (.t 17) 1 false), o 22 (.ld (.t 21) 1 false), o 24 (.ld (.t 23) 1 false), om 1 19 (.call (.f n_field_digitsOf) [.t 14, .t 16, .t 18]), om 1 25 (.call (.f n_field_digitsOf) [.t 20, .t 22, .t 24]), o 7 (.mv (.t 19)), o 8 (.mv (.t 25))]) c_field_multiply_2
abbrev c_field_multiply_0 : SC := .seq (.reg [o 3 (.box (.t 0)), o 6 (.mv (ki 0))]) c_field_multiply_1
theorem cf_field_multiply : cfun Go.Proofs.Try.prog md n_field_multiply = some ⟨3, 97, c_field_multiply_0.erase, [.t 6]⟩ := by kernel_rfl
-- field_powers
abbrev c_field_powersL0_2 : SC := (.reg [o 25 (.ld (.t 3) 3 true), o 26 (.mv (.t 9)), o 27 (.mv (.t 2)), o 28 (.call (.f n_field_multiply) [.t 25, .t 26, .t 27]), o 9 (.mv (.t 28))])
abbrev c_field_powersL0_1 : SC := .seq (.block 1 (.seq (.reg [o 29 (.mv (.t 8)), o 30 (.mv (.t 9)), o 31 (.iadr (.t 29) (.t 30) 1), os (.st (.t 31) (kb true) 1)]) (.reg [o 32 (.mv (.t 7)), o 33 (.mv (.t 9)), o 34 (.mkl 1 1 [I 0] [(0, (1, .t 33))]), o 35 (.app (.t 32) (.t 34) 1), o 7 (.mv (.t 35))]))) c_field_powersL0_2
abbrev c_field_powersL0_0 : SC := .seq (.seq (.reg [o 16 (.mv (.t 9)), o 17 (.bin .neq (.t 16) (ki 0)), o 18 (.mv (.t 17)), og 18 true 0 19 (.mv (.t 8)), og 18 true 0 20 (.mv (.t 9)), og 18 true 0 21 (.iadr (.t 19) (.t 20) 1), og 18 true 0 22 (.ld (.t 21) 1 false), og 18 true 0 23 (.not (.t 22)), o 24 (.pick (.t 18) (.t 23) (kb false))]) (.cond (.t 24) .skip (.exit 0))) c_field_powersL0_1
abbrev c_field_powers_6 : SC := .ret
abbrev c_field_powers_5 : SC := .seq (.reg [o 36 (.mv (.t 7)), o 6 (.mv (.t 36))]) c_field_powers_6
abbrev c_field_powers_4 : SC := .seq (.seq (.reg [o 15 (.mv (.t 2)), o 9 (.mv (.t 15))]) (.block 0 (.loop c_field_powersL0_0))) c_field_powers_5
abbrev c_field_powers_3 : SC := .seq (.reg [o 13 (.mv (.t 8)), o 14 (.iadr (.t 13) (ki 1) 1), os (.st (.t 14) (kb true) 1)]) c_field_powers_4
abbrev c_field_powers_2 : SC := .seq (.reg [o 11 (.mv (.t 1)), o 12 (.mks (.t 11) 1 [.base (.bool false)]), o 8 (.mv (.t 12))]) c_field_powers_3
abbrev c_field_powers_1 : SC := .seq (.reg [o 10 (.mkl 1 1 [I 0] [(0, (1, ki 1))]), o 7 (.mv (.t 10))]) c_field_powers_2
abbrev c_field_powers_0 : SC := .seq (.reg [o 3 (.box (.t 0)), o 6 (.mv (.k .nils))]) c_field_powers_1
theorem cf_field_powers : cfun Go.Proofs.Try.prog md n_field_powers = some ⟨3, 37, c_field_powers_0.erase, [.t 6]⟩ := by kernel_rfl
-- field_generator
abbrev c_field_generatorL0_2 : SC := (.reg [o 10 (.mv (.t 5)), o 11 (.bin .add (.t 10) (ki 1)), o 5 (.mv (.t 11))])
abbrev c_field_generatorL0_1 : SC := .seq (.block 1 (.seq (.reg [o 12 (.ld (.t 2) 3 true), o 13 (.mv (.t 1)), o 14 (.mv (.t 5)), o 15 (.call (.f n_field_powers) [.t 12, .t 13, .t 14]), o 6 (.mv (.t 15))]) (.seq (.reg [o 16 (.mv (.t 6)), o 17 (.len (.t 16)), o 18 (.mv (.t 1)), o 19 (.bin .sub (.t 18) (ki 1)), o 20 (.bin .eql (.t 17) (.t 19)), o 21 (.mv (.t 20)), og 21 true 0 23 (.mv (.t 6)), og 21 true 0 24 (.mv (.t 1)), og 21 true 0 25 (.bin .sub (.t 24) (ki 2)), og 21 true 0 26 (.iadr (.t 23) (.t 25) 1), og 21 true 0 28 (.mv (.t 5)), og 21 true 0 22 (.ld (.t 2) 3 true), og 21 true 0 27 (.ld (.t 26) 1 false), og 21 true 1 29 (.call (.f n_field_multiply) [.t 22, .t 27, .t 28]), og 21 true 0 30 (.bin .eql (.t 29) (ki 1)), o 31 (.pick (.t 21) (.t 30) (kb false))]) (.cond (.t 31) (.seq (.reg [o 32 (.mv (.t 6)), o 4 (.mv (.t 32))]) .ret) .skip)))) c_field_generatorL0_2
abbrev c_field_generatorL0_0 : SC := .seq (.seq (.reg [o 7 (.mv (.t 5)), o 8 (.mv (.t 1)), o 9 (.bin .lss (.t 7) (.t 8))]) (.cond (.t 9) .skip (.exit 0))) c_field_generatorL0_1
abbrev c_field_generator_3 : SC := .ret
abbrev c_field_generator_2 : SC := .seq (.reg [o 4 (.mv (.k .nils))]) c_field_generator_3
abbrev c_field_generator_1 : SC := .seq (.seq (.reg [o 5 (.mv (ki 1))]) (.block 0 (.loop c_field_generatorL0_0))) c_field_generator_2
abbrev c_field_generator_0 : SC := .seq (.reg [o 2 (.box (.t 0)), o 4 (.mv (.k .nils))]) c_field_generator_1
theorem cf_field_generator : cfun Go.Proofs.Try.prog md n_field_generator = some ⟨2, 33, c_field_generator_0.erase, [.t 4]⟩ := by kernel_rfl
-- field_shape
abbrev c_field_shapeL0_3 : SC := (.reg [o 45 (.bin .add (.t 33) (ki 1)), o 33 (.mv (.t 45))])
abbrev c_field_shapeL0_2 : SC := .seq (.block 1 (.seq (.reg [o 35 (.iadr (.t 31) (.t 33) 1), o 36 (.ld (.t 35) 1 false), o 4 (.mv (.t 36))]) (.seq (.reg [o 37 (.mv (.t 4)), o 38 (.bin .lss (.t 37) (ki 0)), o 39 (.mv (.t 38)), og 39 false 0 40 (.mv (.t 4)), og 39 false 0 41 (.fadr (.t 1) 0), og 39 false 0 42 (.ld (.t 41) 1 false), og 39 false 0 43 (.bin .geq (.t 40) (.t 42)), o 44 (.pick (.t 39) (kb true) (.t 43))]) (.cond (.t 44) (.seq (.reg [o 2 (.mv (kb false))]) .ret) .skip)))) c_field_shapeL0_3
abbrev c_field_shapeL0_1 : SC := .seq (.cond (.t 34) .skip (.exit 0)) c_field_shapeL0_2
abbrev c_field_shapeL0_0 : SC := .seq (.reg [o 34 (.bin .lss (.t 33) (.t 32))]) c_field_shapeL0_1
abbrev c_field_shape_6 : SC := .ret
abbrev c_field_shape_5 : SC := .seq (.reg [o 2 (.mv (kb true))]) c_field_shape_6
abbrev c_field_shape_4 : SC := .seq (.seq (.reg [o 30 (.fadr (.t 1) 2), o 31 (.ld (.t 30) 1 false), o 32 (.len (.t 31)), o 33 (.mv (ki 0))]) (.block 0 (.loop c_field_shapeL0_0))) c_field_shape_5
abbrev c_field_shape_3 : SC := .seq (.seq (.reg [o 24 (.fadr (.t 1) 2), o 25 (.ld (.t 24) 1 false), o 26 (.len (.t 25)), o 27 (.fadr (.t 1) 1), o 28 (.ld (.t 27) 1 false), o 29 (.bin .neq (.t 26) (.t 28))]) (.cond (.t 29) (.seq (.reg [o 2 (.mv (kb false))]) .ret) .skip)) c_field_shape_4
abbrev c_field_shape_2 : SC := .seq (.seq (.reg [o 17 (.fadr (.t 1) 1), o 18 (.ld (.t 17) 1 false), o 19 (.bin .eql (.t 18) (ki 1))]) (.cond (.t 19) (.seq (.reg [o 20 (.fadr (.t 1) 2), o 21 (.ld (.t 20) 1 false), o 22 (.len (.t 21)), o 23 (.bin .eql (.t 22) (ki 0)), o 2 (.mv (.t 23))]) .ret) .skip)) c_field_shape_3
abbrev c_field_shape_1 : SC := .seq (.seq (.reg [o 5 (.fadr (.t 1) 0), o 6 (.ld (.t 5) 1 false), o 7 (.fadr (.t 1) 1), o 8 (.ld (.t 7) 1 false), o 9 (.call (.f n_field_order) [.t 6, .t 8]), o 10 (.bin .eql (.t 9) (ki 0)), o 11 (.mv (.t 10)), og 11 false 0 12 (.fadr (.t 1) 0), og 11 false 0 13 (.ld (.t 12) 1 false), og 11 false 0 14 (.call (.f n_field_isPrime) [.t 13]), og 11 false 0 15 (.not (.t 14)), o 16 (.pick (.t 11) (kb true) (.t 15))]) (.cond (.t 16) (.seq (.reg [o 2 (.mv (kb false))]) .ret) .skip)) c_field_shape_2
abbrev c_field_shape_0 : SC := .seq (.reg [o 1 (.box (.t 0)), o 2 (.mv (kb false))]) c_field_shape_1
theorem cf_field_shape : cfun Go.Proofs.Try.prog md n_field_shape = some ⟨1, 46, c_field_shape_0.erase, [.t 2]⟩ := by kernel_rfl
-- field_New
abbrev c_field_NewL0_3 : SC := (.reg [o 51 (.bin .add (.t 39) (ki 1)), o 39 (.mv (.t 51))])
abbrev c_field_NewL0_2 : SC := .seq (.block 1 (.seq (.reg [o 41 (.mv (.t 39)), o 42 (.iadr (.t 37) (.t 39) 1), o 43 (.ld (.t 42) 1 false), o 7 (.mv (.t 41)), o 8 (.mv (.t 43))]) (.reg [o 44 (.mv (.t 6)), o 45 (.nc (.t 44)), o 46 (.fadr (.t 45) 5), o 47 (.ld (.t 46) 1 false), o 48 (.mv (.t 8)), o 49 (.mv (.t 7)), o 50 (.iadr (.t 47) (.t 48) 1), os (.st (.t 50) (.t 49) 1)]))) c_field_NewL0_3
abbrev c_field_NewL0_1 : SC := .seq (.cond (.t 40) .skip (.exit 0)) c_field_NewL0_2
abbrev c_field_NewL0_0 : SC := .seq (.reg [o 40 (.bin .lss (.t 39) (.t 38))]) c_field_NewL0_1
abbrev c_field_New_8 : SC := .ret
abbrev c_field_New_7 : SC := .seq (.reg [o 52 (.mv (.t 6)), o 2 (.mv (.t 52)), o 3 (.mv (ki 0))]) c_field_New_8
abbrev c_field_New_6 : SC := .seq (.seq (.reg [o 37 (.mv (.t 5)), o 38 (.len (.t 37)), o 39 (.mv (ki 0))]) (.block 0 (.loop c_field_NewL0_0))) c_field_New_7
abbrev c_field_New_5 : SC := .seq (.reg [o 22 (.fadr (.t 1) 0), o 24 (.fadr (.t 1) 1), o 27 (.fadr (.t 1) 2), o 31 (.mv (.t 4)), o 32 (.mv (.t 5)), o 33 (.mv (.t 4)), o 23 (.ld (.t 22) 1 false), o 25 (.ld (.t 24) 1 false), o 28 (.ld (.t 27) 1 false), o 26 (.mkl 0 1 [] []), o 29 (.app (.t 26) (.t 28) 1), o 30 (.build [I 0, I 0, .nils] [(0, (1, .t 23)), (1, (1, .t 25)), (2, (1, .t 29))]), o 34 (.mks (.t 33) 1 [I 0]), o 35 (.build [I 0, I 0, .nils, I 0, .nils, .nils] [(0, (3, .t 30)), (3, (1, .t 31)), (4, (1, .t 32)), (5, (1, .t 34))]), o 36 (.box (.t 35)), o 6 (.mv (.t 36))]) c_field_New_6
abbrev c_field_New_4 : SC := .seq (.seq (.reg [o 20 (.mv (.t 5)), o 21 (.isnil false (.t 20))]) (.cond (.t 21) (.seq (.reg [o 2 (.mv (.k .nilp)), o 3 (.mv (ki 1))]) .ret) .skip)) c_field_New_5
abbrev c_field_New_3 : SC := .seq (.reg [o 17 (.ld (.t 1) 3 true), o 18 (.mv (.t 4)), o 19 (.call (.f n_field_generator) [.t 17, .t 18]), o 5 (.mv (.t 19))]) c_field_New_4
abbrev c_field_New_2 : SC := .seq (.reg [o 12 (.fadr (.t 1) 0), o 13 (.ld (.t 12) 1 false), o 14 (.fadr (.t 1) 1), o 15 (.ld (.t 14) 1 false), o 16 (.call (.f n_field_order) [.t 13, .t 15]), o 4 (.mv (.t 16))]) c_field_New_3
abbrev c_field_New_1 : SC := .seq (.seq (.reg [o 9 (.ld (.t 1) 3 true), o 10 (.call (.f n_field_shape) [.t 9]), o 11 (.not (.t 10))]) (.cond (.t 11) (.seq (.reg [o 2 (.mv (.k .nilp)), o 3 (.mv (ki 1))]) .ret) .skip)) c_field_New_2
abbrev c_field_New_0 : SC := .seq (.reg [o 1 (.box (.t 0)), o 2 (.mv (.k .nilp)), o 3 (.mv (ki 0))]) c_field_New_1
theorem cf_field_New : cfun Go.Proofs.Try.prog md n_field_New = some ⟨1, 53, c_field_New_0.erase, [.t 2, .t 3]⟩ := by kernel_rfl
-- ref04_Order
abbrev c_ref04_OrderL0_2 : SC := (.reg [o 22 (.mv (.t 4)), o 23 (.bin .add (.t 22) (ki 1)), o 4 (.mv (.t 23))])
abbrev c_ref04_OrderL0_1 : SC := .seq (.block 1 (.seq (.seq (.reg [o 24 (.mv (.t 3)), o 25 (.fadr (.t 1) 0), o 26 (.ld (.t 25) 1 false), o 27 (.bin .quo (ki 256) (.t 26)), o 28 (.bin .gtr (.t 24) (.t 27))]) (.cond (.t 28) (.seq (.reg [o 2 (.mv (ki 0))]) .ret) .skip)) (.reg [o 29 (.mv (.t 3)), o 30 (.fadr (.t 1) 0), o 31 (.ld (.t 30) 1 false), o 32 (.bin .mul (.t 29) (.t 31)), o 3 (.mv (.t 32))]))) c_ref04_OrderL0_2
abbrev c_ref04_OrderL0_0 : SC := .seq (.seq (.reg [o 18 (.mv (.t 4)), o 19 (.fadr (.t 1) 1), o 20 (.ld (.t 19) 1 false), o 21 (.bin .lss (.t 18) (.t 20))]) (.cond (.t 21) .skip (.exit 0))) c_ref04_OrderL0_1
abbrev c_ref04_Order_5 : SC := .ret
abbrev c_ref04_Order_4 : SC := .seq (.reg [o 33 (.mv (.t 3)), o 2 (.mv (.t 33))]) c_ref04_Order_5
abbrev c_ref04_Order_3 : SC := .seq (.seq (.reg [o 4 (.mv (ki 0))]) (.block 0 (.loop c_ref04_OrderL0_0))) c_ref04_Order_4
abbrev c_ref04_Order_2 : SC := .seq (.reg [o 3 (.mv (ki 1))]) c_ref04_Order_3
abbrev c_ref04_Order_1 : SC := .seq (.seq (.reg [o 5 (.fadr (.t 1) 0), o 6 (.ld (.t 5) 1 false), o 7 (.bin .lss (.t 6) (ki 2)), o 8 (.mv (.t 7)), og 8 false 0 9 (.fadr (.t 1) 1), og 8 false 0 10 (.ld (.t 9) 1 false), og 8 false 0 11 (.bin .lss (.t 10) (ki 1)), o 12 (.pick (.t 8) (kb true) (.t 11)), o 13 (.mv (.t 12)), og 13 false 0 14 (.fadr (.t 1) 1), og 13 false 0 15 (.ld (.t 14) 1 false), og 13 false 0 16 (.bin .gtr (.t 15) (ki 8)), o 17 (.pick (.t 13) (kb true) (.t 16))]) (.cond (.t 17) (.seq (.reg [o 2 (.mv (ki 0))]) .ret) .skip)) c_ref04_Order_2
abbrev c_ref04_Order_0 : SC := .seq (.reg [o 1 (.box (.t 0)), o 2 (.mv (ki 0))]) c_ref04_Order_1
theorem cf_ref04_Order : cfun Go.Proofs.Try.prog md n_ref04_Order = some ⟨1, 34, c_ref04_Order_0.erase, [.t 2]⟩ := by kernel_rfl
-- ref04_prime
abbrev c_ref04_primeL0_2 : SC := (.reg [o 7 (.mv (.t 3)), o 8 (.bin .add (.t 7) (ki 1)), o 3 (.mv (.t 8))])
abbrev c_ref04_primeL0_1 : SC := .seq (.block 1 (.seq (.reg [o 9 (.mv (.t 0)), o 10 (.mv (.t 3)), o 11 (.bin .rem (.t 9) (.t 10)), o 12 (.bin .eql (.t 11) (ki 0))]) (.cond (.t 12) (.seq (.reg [o 2 (.mv (kb false))]) .ret) .skip))) c_ref04_primeL0_2
abbrev c_ref04_primeL0_0 : SC := .seq (.seq (.reg [o 4 (.mv (.t 3)), o 5 (.mv (.t 0)), o 6 (.bin .lss (.t 4) (.t 5))]) (.cond (.t 6) .skip (.exit 0))) c_ref04_primeL0_1
abbrev c_ref04_prime_3 : SC := .ret
abbrev c_ref04_prime_2 : SC := .seq (.reg [o 2 (.mv (kb true))]) c_ref04_prime_3
abbrev c_ref04_prime_1 : SC := .seq (.seq (.reg [o 3 (.mv (ki 2))]) (.block 0 (.loop c_ref04_primeL0_0))) c_ref04_prime_2
abbrev c_ref04_prime_0 : SC := .seq (.reg [o 2 (.mv (kb false))]) c_ref04_prime_1
theorem cf_ref04_prime : cfun Go.Proofs.Try.prog md n_ref04_prime = some ⟨1, 13, c_ref04_prime_0.erase, [.t 2]⟩ := by kernel_rfl
-- ref04_digits
abbrev c_ref04_digitsL0_2 : SC := (.reg [o 14 (.mv (.t 8)), o 15 (.bin .add (.t 14) (ki 1)), o 8 (.mv (.t 15))])
abbrev c_ref04_digitsL0_1 : SC := .seq (.block 1 (.seq (.reg [o 16 (.mv (.t 7)), o 17 (.mv (.t 8)), o 18 (.mv (.t 0)), o 19 (.mv (.t 1)), o 20 (.bin .rem (.t 18) (.t 19)), o 21 (.iadr (.t 16) (.t 17) 1), os (.st (.t 21) (.t 20) 1)]) (.reg [o 22 (.mv (.t 0)), o 23 (.mv (.t 1)), o 24 (.bin .quo (.t 22) (.t 23)), o 0 (.mv (.t 24))]))) c_ref04_digitsL0_2
abbrev c_ref04_digitsL0_0 : SC := .seq (.seq (.reg [o 11 (.mv (.t 8)), o 12 (.mv (.t 2)), o 13 (.bin .lss (.t 11) (.t 12))]) (.cond (.t 13) .skip (.exit 0))) c_ref04_digitsL0_1
abbrev c_ref04_digits_4 : SC := .ret
abbrev c_ref04_digits_3 : SC := .seq (.reg [o 25 (.mv (.t 7)), o 6 (.mv (.t 25))]) c_ref04_digits_4
abbrev c_ref04_digits_2 : SC := .seq (.seq (.reg [o 8 (.mv (ki 0))]) (.block 0 (.loop c_ref04_digitsL0_0))) c_ref04_digits_3
abbrev c_ref04_digits_1 : SC := .seq (.reg [o 9 (.mv (.t 2)), o 10 (.mks (.t 9) 1 [I 0]), o 7 (.mv (.t 10))]) c_ref04_digits_2
abbrev c_ref04_digits_0 : SC := .seq (.reg [o 6 (.mv (.k .nils))]) c_ref04_digits_1
theorem cf_ref04_digits : cfun Go.Proofs.Try.prog md n_ref04_digits = some ⟨3, 26, c_ref04_digits_0.erase, [.t 6]⟩ := by kernel_rfl
-- ref04_Value
abbrev c_ref04_ValueL0_2 : SC := (.reg [o 12 (.mv (.t 6)), o 13 (.bin .sub (.t 12) (ki 1)), o 6 (.mv (.t 13))])
abbrev c_ref04_ValueL0_1 : SC := .seq (.block 1 (.reg [o 14 (.mv (.t 5)), o 15 (.fadr (.t 2) 0), o 18 (.mv (.t 1)), o 19 (.mv (.t 6)), o 20 (.iadr (.t 18) (.t 19) 1), o 16 (.ld (.t 15) 1 false), o 17 (.bin .mul (.t 14) (.t 16)), o 21 (.ld (.t 20) 1 false), o 22 (.bin .add (.t 17) (.t 21)), o 5 (.mv (.t 22))])) c_ref04_ValueL0_2
abbrev c_ref04_ValueL0_0 : SC := .seq (.seq (.reg [o 10 (.mv (.t 6)), o 11 (.bin .geq (.t 10) (ki 0))]) (.cond (.t 11) .skip (.exit 0))) c_ref04_ValueL0_1
abbrev c_ref04_Value_4 : SC := .ret
abbrev c_ref04_Value_3 : SC := .seq (.reg [o 23 (.mv (.t 5)), o 4 (.mv (.t 23))]) c_ref04_Value_4
abbrev c_ref04_Value_2 : SC := .seq (.seq (.reg [o 7 (.mv (.t 1)), o 8 (.len (.t 7)), o 9 (.bin .sub (.t 8) (ki 1)), o 6 (.mv (.t 9))]) (.block 0 (.loop c_ref04_ValueL0_0))) c_ref04_Value_3
abbrev c_ref04_Value_1 : SC := .seq (.reg [o 5 (.mv (ki 0))]) c_ref04_Value_2
abbrev c_ref04_Value_0 : SC := .seq (.reg [o 2 (.box (.t 0)), o 4 (.mv (ki 0))]) c_ref04_Value_1
theorem cf_ref04_Value : cfun Go.Proofs.Try.prog md n_ref04_Value = some ⟨2, 24, c_ref04_Value_0.erase, [.t 4]⟩ := by kernel_rfl
-- ref04_divides
abbrev c_ref04_dividesL1_2 : SC := (.reg [o 36 (.mv (.t 11)), o 37 (.bin .add (.t 36) (ki 1)), o 11 (.mv (.t 37))])
abbrev c_ref04_dividesL1_1 : SC := .seq (.block 3 (.reg [o 38 (.mv (.t 8)), o 39 (.mv (.t 9)), o 40 (.mv (.t 7)), o 41 (.bin .sub (.t 39) (.t 40)), o 42 (.mv (.t 11)), o 43 (.bin .add (.t 41) (.t 42)), o 44 (.mv (.t 8)), o 45 (.mv (.t 9)), o 46 (.mv (.t 7)), o 47 (.bin .sub (.t 45) (.t 46)), o 48 (.mv (.t 11)), o 49 (.bin .add (.t 47) (.t 48)), o 50 (.iadr (.t 44) (.t 49) 1), o 52 (.mv (.t 2)), o 53 (.mv (.t 10)), o 54 (.bin .sub (.t 52) (.t 53)), o 55 (.mv (.t 0)), o 56 (.mv (.t 11)), o 57 (.iadr (.t 55) (.t 56) 1), o 61 (.mv (.t 2)), o 51 (.ld (.t 50) 1 false), o 58 (.ld (.t 57) 1 false), o 59 (.bin .mul (.t 54) (.t 58)), o 60 (.bin .add (.t 51) (.t 59)), o 62 (.bin .rem (.t 60) (.t 61)), o 63 (.iadr (.t 38) (.t 43) 1), os (.st (.t 63) (.t 62) 1)])) c_ref04_dividesL1_2
abbrev c_ref04_dividesL1_0 : SC := .seq (.seq (.reg [o 33 (.mv (.t 11)), o 34 (.mv (.t 7)), o 35 (.bin .lss (.t 33) (.t 34))]) (.cond (.t 35) .skip (.exit 2))) c_ref04_dividesL1_1
abbrev c_ref04_dividesL0_2 : SC := (.reg [o 27 (.mv (.t 9)), o 28 (.bin .sub (.t 27) (ki 1)), o 9 (.mv (.t 28))])
abbrev c_ref04_dividesL0_1 : SC := .seq (.block 1 (.seq (.reg [o 29 (.mv (.t 8)), o 30 (.mv (.t 9)), o 31 (.iadr (.t 29) (.t 30) 1), o 32 (.ld (.t 31) 1 false), o 10 (.mv (.t 32))]) (.seq (.seq (.reg [o 11 (.mv (ki 0))]) (.block 2 (.loop c_ref04_dividesL1_0))) (.reg [o 64 (.mv (.t 8)), o 65 (.mv (.t 9)), o 66 (.iadr (.t 64) (.t 65) 1), os (.st (.t 66) (ki 0) 1)])))) c_ref04_dividesL0_2
abbrev c_ref04_dividesL0_0 : SC := .seq (.seq (.reg [o 24 (.mv (.t 9)), o 25 (.mv (.t 7)), o 26 (.bin .geq (.t 24) (.t 25))]) (.cond (.t 26) .skip (.exit 0))) c_ref04_dividesL0_1
abbrev c_ref04_dividesL2_2 : SC := (.reg [o 71 (.mv (.t 12)), o 72 (.bin .add (.t 71) (ki 1)), o 12 (.mv (.t 72))])
abbrev c_ref04_dividesL2_1 : SC := .seq (.block 5 (.seq (.reg [o 73 (.mv (.t 8)), o 74 (.mv (.t 12)), o 75 (.iadr (.t 73) (.t 74) 1), o 76 (.ld (.t 75) 1 false), o 77 (.bin .neq (.t 76) (ki 0))]) (.cond (.t 77) (.seq (.reg [o 6 (.mv (kb false))]) .ret) .skip))) c_ref04_dividesL2_2
abbrev c_ref04_dividesL2_0 : SC := .seq (.seq (.reg [o 67 (.mv (.t 12)), o 68 (.mv (.t 8)), o 69 (.len (.t 68)), o 70 (.bin .lss (.t 67) (.t 69))]) (.cond (.t 70) .skip (.exit 4))) c_ref04_dividesL2_1
abbrev c_ref04_divides_7 : SC := .ret
abbrev c_ref04_divides_6 : SC := .seq (.reg [o 6 (.mv (kb true))]) c_ref04_divides_7
abbrev c_ref04_divides_5 : SC := .seq (.seq (.reg [o 12 (.mv (ki 0))]) (.block 4 (.loop c_ref04_dividesL2_0))) c_ref04_divides_6
abbrev c_ref04_divides_4 : SC := .seq (.seq (.reg [o 21 (.mv (.t 8)), o 22 (.len (.t 21)), o 23 (.bin .sub (.t 22) (ki 1)), o 9 (.mv (.t 23))]) (.block 0 (.loop c_ref04_dividesL0_0))) c_ref04_divides_5
abbrev c_ref04_divides_3 : SC := .seq (.reg [o 18 (.mv (.t 8)), o 19 (.mkl 1 1 [I 0] [(0, (1, ki 1))]), o 20 (.app (.t 18) (.t 19) 1), o 8 (.mv (.t 20))]) c_ref04_divides_4
abbrev c_ref04_divides_2 : SC := .seq (.reg [o 15 (.mkl 0 1 [] []), o 16 (.mv (.t 1)), o 17 (.app (.t 15) (.t 16) 1), o 8 (.mv (.t 17))]) c_ref04_divides_3
abbrev c_ref04_divides_1 : SC := .seq (.reg [o 13 (.mv (.t 0)), o 14 (.len (.t 13)), o 7 (.mv (.t 14))]) c_ref04_divides_2
abbrev c_ref04_divides_0 : SC := .seq (.reg [o 6 (.mv (kb false))]) c_ref04_divides_1
theorem cf_ref04_divides : cfun Go.Proofs.Try.prog md n_ref04_divides = some ⟨3, 78, c_ref04_divides_0.erase, [.t 6]⟩ := by kernel_rfl
-- ref04_irreducible
abbrev c_ref04_irreducibleL1_2 : SC := (.reg [o 21 (.mv (.t 7)), o 22 (.bin .add (.t 21) (ki 1)), o 7 (.mv (.t 22))])
abbrev c_ref04_irreducibleL1_1 : SC := .seq (.block 3 (.seq (.reg [o 23 (.mv (.t 7)), o 24 (.mv (.t 1)), o 25 (.mv (.t 6)), o 26 (.call (.f n_ref04_digits) [.t 23, .t 24, .t 25]), o 27 (.mv (.t 0)), o 28 (.mv (.t 1)), o 29 (.call (.f n_ref04_divides) [.t 26, .t 27, .t 28])]) (.cond (.t 29) (.seq (.reg [o 4 (.mv (kb false))]) .ret) .skip))) c_ref04_irreducibleL1_2
abbrev c_ref04_irreducibleL1_0 : SC := .seq (.seq (.reg [o 18 (.mv (.t 7)), o 19 (.mv (.t 5)), o 20 (.bin .lss (.t 18) (.t 19))]) (.cond (.t 20) .skip (.exit 2))) c_ref04_irreducibleL1_1
abbrev c_ref04_irreducibleL0_2 : SC := (.reg [o 13 (.mv (.t 6)), o 14 (.bin .add (.t 13) (ki 1)), o 6 (.mv (.t 14))])
abbrev c_ref04_irreducibleL0_1 : SC := .seq (.block 1 (.seq (.reg [o 15 (.mv (.t 5)), o 16 (.mv (.t 1)), o 17 (.bin .mul (.t 15) (.t 16)), o 5 (.mv (.t 17))]) (.seq (.reg [o 7 (.mv (ki 0))]) (.block 2 (.loop c_ref04_irreducibleL1_0))))) c_ref04_irreducibleL0_2
abbrev c_ref04_irreducibleL0_0 : SC := .seq (.seq (.reg [o 8 (.mv (.t 6)), o 9 (.bin .mul (ki 2) (.t 8)), o 10 (.mv (.t 0)), o 11 (.len (.t 10)), o 12 (.bin .leq (.t 9) (.t 11))]) (.cond (.t 12) .skip (.exit 0))) c_ref04_irreducibleL0_1
abbrev c_ref04_irreducible_4 : SC := .ret
abbrev c_ref04_irreducible_3 : SC := .seq (.reg [o 4 (.mv (kb true))]) c_ref04_irreducible_4
abbrev c_ref04_irreducible_2 : SC := .seq (.seq (.reg [o 6 (.mv (ki 1))]) (.block 0 (.loop c_ref04_irreducibleL0_0))) c_ref04_irreducible_3
abbrev c_ref04_irreducible_1 : SC := .seq (.reg [o 5 (.mv (ki 1))]) c_ref04_irreducible_2
abbrev c_ref04_irreducible_0 : SC := .seq (.reg [o 4 (.mv (kb false))]) c_ref04_irreducible_1
theorem cf_ref04_irreducible : cfun Go.Proofs.Try.prog md n_ref04_irreducible = some ⟨2, 30, c_ref04_irreducible_0.erase, [.t 4]⟩ := by kernel_rfl
-- ref04_Check
abbrev c_ref04_CheckL0_2 : SC := (.reg [o 30 (.mv (.t 3)), o 31 (.bin .add (.t 30) (ki 1)), o 3 (.mv (.t 31))])
abbrev c_ref04_CheckL0_1 : SC := .seq (.block 1 (.seq (.reg [o 32 (.fadr (.t 1) 2), o 34 (.mv (.t 3)), o 33 (.ld (.t 32) 1 false), o 35 (.iadr (.t 33) (.t 34) 1), o 36 (.ld (.t 35) 1 false), o 37 (.bin .lss (.t 36) (ki 0)), o 38 (.mv (.t 37)), og 38 false 0 39 (.fadr (.t 1) 2), og 38 false 0 41 (.mv (.t 3)), og 38 false 0 44 (.fadr (.t 1) 0), og 38 false 0 40 (.ld (.t 39) 1 false), og 38 false 0 42 (.iadr (.t 40) (.t 41) 1), og 38 false 0 43 (.ld (.t 42) 1 false), og 38 false 0 45 (.ld (.t 44) 1 false), og 38 false 0 46 (.bin .geq (.t 43) (.t 45)), o 47 (.pick (.t 38) (kb true) (.t 46))]) (.cond (.t 47) (.seq (.reg [o 2 (.mv (ki 1))]) .ret) .skip))) c_ref04_CheckL0_2
abbrev c_ref04_CheckL0_0 : SC := .seq (.seq (.reg [o 26 (.mv (.t 3)), o 27 (.fadr (.t 1) 1), o 28 (.ld (.t 27) 1 false), o 29 (.bin .lss (.t 26) (.t 28))]) (.cond (.t 29) .skip (.exit 0))) c_ref04_CheckL0_1
abbrev c_ref04_Check_7 : SC := .ret
abbrev c_ref04_Check_6 : SC := .seq (.reg [o 2 (.mv (ki 0))]) c_ref04_Check_7
abbrev c_ref04_Check_5 : SC := .seq (.seq (.reg [o 48 (.fadr (.t 1) 2), o 49 (.ld (.t 48) 1 false), o 50 (.fadr (.t 1) 0), o 51 (.ld (.t 50) 1 false), o 52 (.call (.f n_ref04_irreducible) [.t 49, .t 51]), o 53 (.not (.t 52))]) (.cond (.t 53) (.seq (.reg [o 2 (.mv (ki 1))]) .ret) .skip)) c_ref04_Check_6
abbrev c_ref04_Check_4 : SC := .seq (.seq (.reg [o 3 (.mv (ki 0))]) (.block 0 (.loop c_ref04_CheckL0_0))) c_ref04_Check_5
abbrev c_ref04_Check_3 : SC := .seq (.seq (.reg [o 20 (.fadr (.t 1) 2), o 21 (.ld (.t 20) 1 false), o 22 (.len (.t 21)), o 23 (.fadr (.t 1) 1), o 24 (.ld (.t 23) 1 false), o 25 (.bin .neq (.t 22) (.t 24))]) (.cond (.t 25) (.seq (.reg [o 2 (.mv (ki 1))]) .ret) .skip)) c_ref04_Check_4
abbrev c_ref04_Check_2 : SC := .seq (.seq (.reg [o 13 (.fadr (.t 1) 1), o 14 (.ld (.t 13) 1 false), o 15 (.bin .eql (.t 14) (ki 1))]) (.cond (.t 15) (.seq (.seq (.reg [o 16 (.fadr (.t 1) 2), o 17 (.ld (.t 16) 1 false), o 18 (.len (.t 17)), o 19 (.bin .neq (.t 18) (ki 0))]) (.cond (.t 19) (.seq (.reg [o 2 (.mv (ki 1))]) .ret) .skip)) (.seq (.reg [o 2 (.mv (ki 0))]) .ret)) .skip)) c_ref04_Check_3
abbrev c_ref04_Check_1 : SC := .seq (.seq (.reg [o 4 (.ld (.t 1) 3 true), o 5 (.call (.f n_ref04_Order) [.t 4]), o 6 (.bin .eql (.t 5) (ki 0)), o 7 (.mv (.t 6)), og 7 false 0 8 (.fadr (.t 1) 0), og 7 false 0 9 (.ld (.t 8) 1 false), og 7 false 0 10 (.call (.f n_ref04_prime) [.t 9]), og 7 false 0 11 (.not (.t 10)), o 12 (.pick (.t 7) (kb true) (.t 11))]) (.cond (.t 12) (.seq (.reg [o 2 (.mv (ki 1))]) .ret) .skip)) c_ref04_Check_2
abbrev c_ref04_Check_0 : SC := .seq (.reg [o 1 (.box (.t 0)), o 2 (.mv (ki 0))]) c_ref04_Check_1
theorem cf_ref04_Check : cfun Go.Proofs.Try.prog md n_ref04_Check = some ⟨1, 54, c_ref04_Check_0.erase, [.t 2]⟩ := by kernel_rfl
end Go.AM.Ytmihmgnjnedfcaa
