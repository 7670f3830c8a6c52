import Derived.Test.YtmihmgnjnedfcaaBB
import Derived.Test.YtmihmgnjnedfcaaBC

section
/- Codes of the program, as the conversion gives them. -/
set_option maxRecDepth 100000
namespace Go.AM.Ytmihmgnjnedfcaa
open Go Go.AM
-- regenerate_rows
abbrev c_regenerate_rowsL0_3 : SC := (.reg [o 27 (.bin .add (.t 14) (ki 1)), o 14 (.mv (.t 27))])
abbrev c_regenerate_rowsL0_2 : SC := .seq (.block 1 (.seq (.reg [o 16 (.iadr (.t 12) (.t 14) 1), o 17 (.ld (.t 16) 1 false), o 9 (.mv (.t 17))]) (.reg [o 18 (.fadr (.t 7) 1), o 20 (.mv (.t 0)), o 21 (.mv (.t 9)), o 22 (.mv (.t 2)), o 19 (.ld (.t 18) 1 false), om 1 23 (.call (.f n_regenerate_powers) [.t 20, .t 21, .t 22]), o 24 (.mkl 1 1 [.nils] [(0, (1, .t 23))]), o 25 (.app (.t 19) (.t 24) 1), o 26 (.fadr (.t 7) 1), os (.st (.t 26) (.t 25) 1)]))) c_regenerate_rowsL0_3
abbrev c_regenerate_rowsL0_1 : SC := .seq (.cond (.t 15) .skip (.exit 0)) c_regenerate_rowsL0_2
abbrev c_regenerate_rowsL0_0 : SC := .seq (.reg [o 15 (.bin .lss (.t 14) (.t 13))]) c_regenerate_rowsL0_1
abbrev c_regenerate_rows_4 : SC := .ret
abbrev c_regenerate_rows_3 : SC := .seq (.reg [o 28 (.ld (.t 7) 2 true), os (.st (.t 6) (.t 28) 2)]) c_regenerate_rows_4
abbrev c_regenerate_rows_2 : SC := .seq (.seq (.reg [o 12 (.mv (.t 1)), o 13 (.len (.t 12)), o 14 (.mv (ki 0))]) (.block 0 (.loop c_regenerate_rowsL0_0))) c_regenerate_rows_3
abbrev c_regenerate_rows_1 : SC := .seq (.reg [o 10 (.mv (.t 2)), o 11 (.build [I 0, .nils] [(0, (1, .t 10))]), o 7 (.new [I 0, .nils]), os (.st (.t 7) (.t 11) 2)]) c_regenerate_rows_2
abbrev c_regenerate_rows_0 : SC := .seq (.reg [o 6 (.new [I 0, .nils])]) c_regenerate_rows_1
theorem cf_regenerate_rows : cfun Go.Proofs.Try.prog md n_regenerate_rows = some ⟨3, 29, c_regenerate_rows_0.erase, [.c 6 2 true]⟩ := by kernel_rfl
-- regenerate_square
abbrev c_regenerate_squareL0_3 : SC := (.reg [o 14 (.bin .add (.t 7) (ki 1)), o 7 (.mv (.t 14))])
abbrev c_regenerate_squareL0_2 : SC := .seq (.block 1 (.reg [o 9 (.mv (.t 5)), o 10 (.mv (.t 1)), o 11 (.mks (.t 10) 1 [I 0]), o 12 (.mkl 1 1 [.nils] [(0, (1, .t 11))]), o 13 (.app (.t 9) (.t 12) 1), o 5 (.mv (.t 13))])) c_regenerate_squareL0_3
abbrev c_regenerate_squareL0_1 : SC := .seq (.cond (.t 8) .skip (.exit 0)) c_regenerate_squareL0_2
abbrev c_regenerate_squareL0_0 : SC := .seq (.reg [o 8 (.bin .lss (.t 7) (.t 6))]) c_regenerate_squareL0_1
abbrev c_regenerate_square_4 : SC := .ret
abbrev c_regenerate_square_3 : SC := .seq (.reg [o 15 (.mv (.t 5)), o 4 (.mv (.t 15))]) c_regenerate_square_4
abbrev c_regenerate_square_2 : SC := .seq (.seq (.reg [o 6 (.mv (.t 0)), o 7 (.mv (ki 0))]) (.block 0 (.loop c_regenerate_squareL0_0))) c_regenerate_square_3
abbrev c_regenerate_square_1 : SC := .seq (.reg [o 5 (.mv (.k .nils))]) c_regenerate_square_2
abbrev c_regenerate_square_0 : SC := .seq (.reg [o 4 (.mv (.k .nils))]) c_regenerate_square_1
theorem cf_regenerate_square : cfun Go.Proofs.Try.prog md n_regenerate_square = some ⟨2, 16, c_regenerate_square_0.erase, [.t 4]⟩ := by kernel_rfl
-- regenerate_symmetric
abbrev c_regenerate_symmetricL1_2 : SC := (.reg [o 17 (.mv (.t 8)), o 18 (.bin .add (.t 17) (ki 1)), o 8 (.mv (.t 18))])
abbrev c_regenerate_symmetricL1_1 : SC := .seq (.block 3 (.seq (.reg [o 19 (.mv (.t 0)), o 20 (.mv (.t 7)), o 21 (.iadr (.t 19) (.t 20) 1), o 23 (.mv (.t 8)), o 24 (.mv (.t 0)), o 25 (.mv (.t 8)), o 26 (.iadr (.t 24) (.t 25) 1), o 28 (.mv (.t 7)), o 29 (.mv (.t 2)), o 30 (.iadr (.t 29) (ki 0) 1), o 32 (.mv (.t 2)), o 33 (.iadr (.t 32) (ki 0) 1), o 22 (.ld (.t 21) 1 false), o 27 (.ld (.t 26) 1 false), o 31 (.ld (.t 30) 1 false), o 34 (.ld (.t 33) 1 false), o 35 (.iadr (.t 22) (.t 23) 1), os (.st (.t 35) (.t 31) 1), o 36 (.iadr (.t 27) (.t 28) 1), os (.st (.t 36) (.t 34) 1)]) (.reg [o 37 (.mv (.t 2)), o 38 (.slc (.t 37) (some (ki 1)) none none 1), o 2 (.mv (.t 38))]))) c_regenerate_symmetricL1_2
abbrev c_regenerate_symmetricL1_0 : SC := .seq (.seq (.reg [o 14 (.mv (.t 8)), o 15 (.mv (.t 1)), o 16 (.bin .lss (.t 14) (.t 15))]) (.cond (.t 16) .skip (.exit 2))) c_regenerate_symmetricL1_1
abbrev c_regenerate_symmetricL0_3 : SC := (.reg [o 39 (.bin .add (.t 10) (ki 1)), o 10 (.mv (.t 39))])
abbrev c_regenerate_symmetricL0_2 : SC := .seq (.block 1 (.seq (.reg [o 12 (.mv (.t 10)), o 7 (.mv (.t 12))]) (.seq (.reg [o 13 (.mv (.t 7)), o 8 (.mv (.t 13))]) (.block 2 (.loop c_regenerate_symmetricL1_0))))) c_regenerate_symmetricL0_3
abbrev c_regenerate_symmetricL0_1 : SC := .seq (.cond (.t 11) .skip (.exit 0)) c_regenerate_symmetricL0_2
abbrev c_regenerate_symmetricL0_0 : SC := .seq (.reg [o 11 (.bin .lss (.t 10) (.t 9))]) c_regenerate_symmetricL0_1
abbrev c_regenerate_symmetric_3 : SC := .ret
abbrev c_regenerate_symmetric_2 : SC := .seq (.reg [o 40 (.mv (.t 2)), o 6 (.mv (.t 40))]) c_regenerate_symmetric_3
abbrev c_regenerate_symmetric_1 : SC := .seq (.seq (.reg [o 9 (.mv (.t 1)), o 10 (.mv (ki 0))]) (.block 0 (.loop c_regenerate_symmetricL0_0))) c_regenerate_symmetric_2
abbrev c_regenerate_symmetric_0 : SC := .seq (.reg [o 6 (.mv (.k .nils))]) c_regenerate_symmetric_1
theorem cf_regenerate_symmetric : cfun Go.Proofs.Try.prog md n_regenerate_symmetric = some ⟨3, 41, c_regenerate_symmetric_0.erase, [.t 6]⟩ := by kernel_rfl
-- regenerate_message
abbrev c_regenerate_messageL1_2 : SC := (.reg [o 58 (.mv (.t 12)), o 59 (.bin .add (.t 58) (ki 1)), o 12 (.mv (.t 59))])
abbrev c_regenerate_messageL1_1 : SC := .seq (.block 3 (.seq (.reg [o 60 (.mv (.t 9)), o 61 (.mv (.t 11)), o 62 (.iadr (.t 60) (.t 61) 1), o 64 (.mv (.t 12)), o 65 (.mv (.t 9)), o 66 (.mv (.t 12)), o 67 (.iadr (.t 65) (.t 66) 1), o 69 (.mv (.t 11)), o 70 (.mv (.t 10)), o 71 (.iadr (.t 70) (ki 0) 1), o 73 (.mv (.t 10)), o 74 (.iadr (.t 73) (ki 0) 1), o 63 (.ld (.t 62) 1 false), o 68 (.ld (.t 67) 1 false), o 72 (.ld (.t 71) 1 false), o 75 (.ld (.t 74) 1 false), o 76 (.iadr (.t 63) (.t 64) 1), os (.st (.t 76) (.t 72) 1), o 77 (.iadr (.t 68) (.t 69) 1), os (.st (.t 77) (.t 75) 1)]) (.reg [o 78 (.mv (.t 10)), o 79 (.slc (.t 78) (some (ki 1)) none none 1), o 10 (.mv (.t 79))]))) c_regenerate_messageL1_2
abbrev c_regenerate_messageL1_0 : SC := .seq (.seq (.reg [o 54 (.mv (.t 12)), o 55 (.fadr (.t 2) 5), o 56 (.ld (.t 55) 1 false), o 57 (.bin .lss (.t 54) (.t 56))]) (.cond (.t 57) .skip (.exit 2))) c_regenerate_messageL1_1
abbrev c_regenerate_messageL0_3 : SC := (.reg [o 80 (.bin .add (.t 49) (ki 1)), o 49 (.mv (.t 80))])
abbrev c_regenerate_messageL0_2 : SC := .seq (.block 1 (.seq (.reg [o 51 (.mv (.t 49)), o 11 (.mv (.t 51))]) (.seq (.reg [o 52 (.fadr (.t 2) 4), o 53 (.ld (.t 52) 1 false), o 12 (.mv (.t 53))]) (.block 2 (.loop c_regenerate_messageL1_0))))) c_regenerate_messageL0_3
abbrev c_regenerate_messageL0_1 : SC := .seq (.cond (.t 50) .skip (.exit 0)) c_regenerate_messageL0_2
abbrev c_regenerate_messageL0_0 : SC := .seq (.reg [o 50 (.bin .lss (.t 49) (.t 48))]) c_regenerate_messageL0_1
abbrev c_regenerate_message_6 : SC := .ret
abbrev c_regenerate_message_5 : SC := .seq (.reg [o 81 (.mv (.t 9)), o 4 (.mv (.t 81))]) c_regenerate_message_6
abbrev c_regenerate_message_4 : SC := .seq (.seq (.reg [o 47 (.fadr (.t 2) 4), o 48 (.ld (.t 47) 1 false), o 49 (.mv (ki 0))]) (.block 0 (.loop c_regenerate_messageL0_0))) c_regenerate_message_5
abbrev c_regenerate_message_3 : SC := .seq (.reg [o 42 (.mv (.t 9)), o 43 (.fadr (.t 2) 4), o 44 (.ld (.t 43) 1 false), o 45 (.mv (.t 1)), o 46 (.call (.f n_regenerate_symmetric) [.t 42, .t 44, .t 45]), o 10 (.mv (.t 46))]) c_regenerate_message_4
abbrev c_regenerate_message_2 : SC := .seq (.reg [o 37 (.fadr (.t 2) 5), o 38 (.ld (.t 37) 1 false), o 39 (.fadr (.t 2) 5), o 40 (.ld (.t 39) 1 false), o 41 (.call (.f n_regenerate_square) [.t 38, .t 40]), o 9 (.mv (.t 41))]) c_regenerate_message_3
abbrev c_regenerate_message_1 : SC := .seq (.seq (.reg [o 13 (.fadr (.t 2) 3), o 14 (.ld (.t 13) 1 false), o 15 (.bin .eql (.t 14) (ki 1))]) (.cond (.t 15) (.seq (.reg [o 17 (.ld (.t 2) 7 true), o 18 (.call (.f n_regenerate_sizes) [.t 17]), o 16 (.mv (.t 18)), o 19 (.ext (.t 16) 0), o 20 (.ext (.t 16) 1), o 5 (.mv (.t 19)), o 6 (.mv (.t 20))]) (.seq (.reg [o 21 (.mv (.t 6)), o 22 (.mv (.t 6)), o 23 (.call (.f n_regenerate_square) [.t 21, .t 22]), o 24 (.mv (.t 6)), o 25 (.mv (.t 6)), o 26 (.call (.f n_regenerate_square) [.t 24, .t 25]), o 7 (.mv (.t 23)), o 8 (.mv (.t 26))]) (.seq (.reg [o 27 (.mv (.t 8)), o 28 (.mv (.t 6)), o 29 (.mv (.t 7)), o 30 (.mv (.t 6)), o 31 (.mv (.t 1)), o 32 (.call (.f n_regenerate_symmetric) [.t 29, .t 30, .t 31]), o 33 (.call (.f n_regenerate_symmetric) [.t 27, .t 28, .t 32])]) (.seq (.reg [o 34 (.mv (.t 7)), o 35 (.mv (.t 8)), o 36 (.app (.t 34) (.t 35) 1), o 4 (.mv (.t 36))]) .ret)))) .skip)) c_regenerate_message_2
abbrev c_regenerate_message_0 : SC := .seq (.reg [o 2 (.box (.t 0)), o 4 (.mv (.k .nils))]) c_regenerate_message_1
theorem cf_regenerate_message : cfun Go.Proofs.Try.prog md n_regenerate_message = some ⟨2, 82, c_regenerate_message_0.erase, [.t 4]⟩ := by kernel_rfl
-- regenerate_Encode
abbrev c_regenerate_Encode_7 : SC := .ret
abbrev c_regenerate_Encode_6 : SC := .seq (.reg [o 54 (.fadr (.t 12) 1), o 55 (.ld (.t 54) 1 false), o 56 (.mv (.t 13)), o 4 (.mv (.t 55)), o 5 (.mv (.t 56))]) c_regenerate_Encode_7
abbrev c_regenerate_Encode_5 : SC := .seq (.reg [o 38 (.fadr (.t 2) 0), o 40 (.mv (.t 7)), o 41 (.fadr (.t 2) 6), o 43 (.fadr (.t 2) 5), o 46 (.mv (.t 10)), o 48 (.mv (.t 1)), o 39 (.ld (.t 38) 3 true), o 42 (.ld (.t 41) 1 false), o 44 (.ld (.t 43) 1 false), o 47 (.ld (.t 2) 7 true), om 1 45 (.call (.f n_regenerate_rows) [.t 40, .t 42, .t 44]), om 1 49 (.call (.f n_regenerate_message) [.t 47, .t 48]), o 50 (.build [I 0, .nils] [(0, (1, .t 46)), (1, (1, .t 49))]), om 1 51 (.call (.f n_matrix_Mul) [.t 39, .t 45, .t 50]), o 37 (.mv (.t 51)), o 52 (.ext (.t 37) 0), o 53 (.ext (.t 37) 1), o 12 (.new [I 0, .nils]), os (.st (.t 12) (.t 52) 2), o 13 (.mv (.t 53))]) c_regenerate_Encode_6
abbrev c_regenerate_Encode_4 : SC := .seq (.seq (.reg [o 30 (.mv (.t 7)), o 31 (.mv (.t 1)), o 32 (.mv (.t 9)), o 33 (.call (.f n_regenerate_elements) [.t 30, .t 31, .t 32]), o 11 (.mv (.t 33))]) (.seq (.reg [o 34 (.mv (.t 11)), o 35 (.bin .neq (.t 34) (ki 0))]) (.cond (.t 35) (.seq (.reg [o 36 (.mv (.t 11)), o 4 (.mv (.k .nils)), o 5 (.mv (.t 36))]) .ret) .skip))) c_regenerate_Encode_5
abbrev c_regenerate_Encode_3 : SC := .seq (.reg [o 26 (.ld (.t 2) 7 true), o 27 (.call (.f n_regenerate_sizes) [.t 26]), o 25 (.mv (.t 27)), o 28 (.ext (.t 25) 0), o 29 (.ext (.t 25) 1), o 9 (.mv (.t 28)), o 10 (.mv (.t 29))]) c_regenerate_Encode_4
abbrev c_regenerate_Encode_2 : SC := .seq (.reg [o 20 (.fadr (.t 2) 0), o 21 (.ld (.t 20) 3 true), o 22 (.call (.f n_field_New) [.t 21]), o 19 (.mv (.t 22)), o 23 (.ext (.t 19) 0), o 24 (.ext (.t 19) 1), o 7 (.mv (.t 23)), o 8 (.mv (.t 24))]) c_regenerate_Encode_3
abbrev c_regenerate_Encode_1 : SC := .seq (.seq (.reg [o 14 (.ld (.t 2) 7 true), o 15 (.call (.f n_regenerate_Check) [.t 14]), o 6 (.mv (.t 15))]) (.seq (.reg [o 16 (.mv (.t 6)), o 17 (.bin .neq (.t 16) (ki 0))]) (.cond (.t 17) (.seq (.reg [o 18 (.mv (.t 6)), o 4 (.mv (.k .nils)), o 5 (.mv (.t 18))]) .ret) .skip))) c_regenerate_Encode_2
abbrev c_regenerate_Encode_0 : SC := .seq (.reg [o 2 (.box (.t 0)), o 4 (.mv (.k .nils)), o 5 (.mv (ki 0))]) c_regenerate_Encode_1
theorem cf_regenerate_Encode : cfun Go.Proofs.Try.prog md n_regenerate_Encode = some ⟨2, 57, c_regenerate_Encode_0.erase, [.t 4, .t 5]⟩ := by kernel_rfl
-- matrix_Mul
abbrev c_matrix_MulL0_3 : SC := (.reg [o 54 (.bin .add (.t 38) (ki 1)), o 38 (.mv (.t 54))])
abbrev c_matrix_MulL0_2 : SC := .seq (.block 1 (.seq (.reg [o 40 (.iadr (.t 36) (.t 38) 1), o 41 (.ld (.t 40) 1 false), o 12 (.mv (.t 41))]) (.reg [o 42 (.fadr (.t 10) 1), o 44 (.mv (.t 8)), o 45 (.mv (.t 12)), o 46 (.fadr (.t 5) 1), o 48 (.fadr (.t 5) 0), o 43 (.ld (.t 42) 1 false), o 47 (.ld (.t 46) 1 false), o 49 (.ld (.t 48) 1 false), om 1 50 (.call (.f n_matrix_vec) [.t 44, .t 45, .t 47, .t 49]), o 51 (.mkl 1 1 [.nils] [(0, (1, .t 50))]), o 52 (.app (.t 43) (.t 51) 1), o 53 (.fadr (.t 10) 1), os (.st (.t 53) (.t 52) 1)]))) c_matrix_MulL0_3
abbrev c_matrix_MulL0_1 : SC := .seq (.cond (.t 39) .skip (.exit 0)) c_matrix_MulL0_2
abbrev c_matrix_MulL0_0 : SC := .seq (.reg [o 39 (.bin .lss (.t 38) (.t 37))]) c_matrix_MulL0_1
abbrev c_matrix_Mul_7 : SC := .ret
abbrev c_matrix_Mul_6 : SC := .seq (.reg [o 55 (.ld (.t 10) 2 true), os (.st (.t 6) (.t 55) 2), o 7 (.mv (ki 0))]) c_matrix_Mul_7
abbrev c_matrix_Mul_5 : SC := .seq (.seq (.reg [o 35 (.fadr (.t 4) 1), o 36 (.ld (.t 35) 1 false), o 37 (.len (.t 36)), o 38 (.mv (ki 0))]) (.block 0 (.loop c_matrix_MulL0_0))) c_matrix_Mul_6
abbrev c_matrix_Mul_4 : SC := .seq (.reg [o 32 (.fadr (.t 5) 0), o 33 (.ld (.t 32) 1 false), o 34 (.build [I 0, .nils] [(0, (1, .t 33))]), o 10 (.new [I 0, .nils]), os (.st (.t 10) (.t 34) 2)]) c_matrix_Mul_5
abbrev c_matrix_Mul_3 : SC := .seq (.seq (.reg [o 25 (.fadr (.t 4) 0), o 26 (.ld (.t 25) 1 false), o 27 (.fadr (.t 5) 1), o 28 (.ld (.t 27) 1 false), o 29 (.len (.t 28)), o 30 (.bin .neq (.t 26) (.t 29))]) (.cond (.t 30) (.seq (.reg [o 31 (.build [I 0, .nils] []), os (.st (.t 6) (.t 31) 2), o 7 (.mv (ki 10))]) .ret) .skip)) c_matrix_Mul_4
abbrev c_matrix_Mul_2 : SC := .seq (.seq (.reg [o 21 (.mv (.t 9)), o 22 (.bin .neq (.t 21) (ki 0))]) (.cond (.t 22) (.seq (.reg [o 23 (.build [I 0, .nils] []), o 24 (.mv (.t 9)), os (.st (.t 6) (.t 23) 2), o 7 (.mv (.t 24))]) .ret) .skip)) c_matrix_Mul_3
abbrev c_matrix_Mul_1 : SC := .seq (.reg [o 14 (.ld (.t 3) 3 true), o 15 (.ld (.t 4) 2 true), o 16 (.ld (.t 5) 2 true), o 17 (.mkl 2 2 [I 0, .nils, I 0, .nils] [(0, (2, .t 15)), (2, (2, .t 16))]), o 18 (.call (.f n_matrix_open) [.t 14, .t 17]), o 13 (.mv (.t 18)), o 19 (.ext (.t 13) 0), o 20 (.ext (.t 13) 1), o 8 (.mv (.t 19)), o 9 (.mv (.t 20))]) c_matrix_Mul_2
abbrev c_matrix_Mul_0 : SC := .seq (.reg [o 3 (.box (.t 0)), o 4 (.box (.t 1)), o 5 (.box (.t 2)), o 6 (.new [I 0, .nils]), o 7 (.mv (ki 0))]) c_matrix_Mul_1
theorem cf_matrix_Mul : cfun Go.Proofs.Try.prog md n_matrix_Mul = some ⟨3, 56, c_matrix_Mul_0.erase, [.c 6 2 true, .t 7]⟩ := by kernel_rfl
-- matrix_open
abbrev c_matrix_openL0_3 : SC := (.reg [o 30 (.bin .add (.t 20) (ki 1)), o 20 (.mv (.t 30))])
abbrev c_matrix_openL0_2 : SC := .seq (.block 1 (.seq (.reg [o 22 (.iadr (.t 18) (.t 20) 2), o 23 (.ld (.t 22) 2 true), o 9 (.new [I 0, .nils]), os (.st (.t 9) (.t 23) 2)]) (.seq (.reg [o 24 (.mv (.t 6)), o 25 (.ld (.t 9) 2 true), o 26 (.call (.f n_matrix_check) [.t 24, .t 25]), o 10 (.mv (.t 26))]) (.seq (.reg [o 27 (.mv (.t 10)), o 28 (.bin .neq (.t 27) (ki 0))]) (.cond (.t 28) (.seq (.reg [o 29 (.mv (.t 10)), o 4 (.mv (.k .nilp)), o 5 (.mv (.t 29))]) .ret) .skip))))) c_matrix_openL0_3
abbrev c_matrix_openL0_1 : SC := .seq (.cond (.t 21) .skip (.exit 0)) c_matrix_openL0_2
abbrev c_matrix_openL0_0 : SC := .seq (.reg [o 21 (.bin .lss (.t 20) (.t 19))]) c_matrix_openL0_1
abbrev c_matrix_open_5 : SC := .ret
abbrev c_matrix_open_4 : SC := .seq (.reg [o 31 (.mv (.t 6)), o 4 (.mv (.t 31)), o 5 (.mv (ki 0))]) c_matrix_open_5
abbrev c_matrix_open_3 : SC := .seq (.seq (.reg [o 18 (.mv (.t 1)), o 19 (.len (.t 18)), o 20 (.mv (ki 0))]) (.block 0 (.loop c_matrix_openL0_0))) c_matrix_open_4
abbrev c_matrix_open_2 : SC := .seq (.seq (.reg [o 16 (.mv (.t 7)), o 17 (.bin .neq (.t 16) (ki 0))]) (.cond (.t 17) (.seq (.reg [o 4 (.mv (.k .nilp)), o 5 (.mv (ki 1))]) .ret) .skip)) c_matrix_open_3
abbrev c_matrix_open_1 : SC := .seq (.reg [o 12 (.ld (.t 2) 3 true), o 13 (.call (.f n_field_New) [.t 12]), o 11 (.mv (.t 13)), o 14 (.ext (.t 11) 0), o 15 (.ext (.t 11) 1), o 6 (.mv (.t 14)), o 7 (.mv (.t 15))]) c_matrix_open_2
abbrev c_matrix_open_0 : SC := .seq (.reg [o 2 (.box (.t 0)), o 4 (.mv (.k .nilp)), o 5 (.mv (ki 0))]) c_matrix_open_1
theorem cf_matrix_open : cfun Go.Proofs.Try.prog md n_matrix_open = some ⟨2, 32, c_matrix_open_0.erase, [.t 4, .t 5]⟩ := by kernel_rfl
-- matrix_check
abbrev c_matrix_checkL0_3 : SC := (.reg [o 36 (.bin .add (.t 27) (ki 1)), o 27 (.mv (.t 36))])
abbrev c_matrix_checkL0_2 : SC := .seq (.block 1 (.seq (.reg [o 29 (.iadr (.t 25) (.t 27) 1), o 30 (.ld (.t 29) 1 false), o 6 (.mv (.t 30))]) (.seq (.reg [o 31 (.mv (.t 6)), o 32 (.len (.t 31)), o 33 (.fadr (.t 3) 0), o 34 (.ld (.t 33) 1 false), o 35 (.bin .neq (.t 32) (.t 34))]) (.cond (.t 35) (.seq (.reg [o 4 (.mv (ki 3))]) .ret) .skip)))) c_matrix_checkL0_3
abbrev c_matrix_checkL0_1 : SC := .seq (.cond (.t 28) .skip (.exit 0)) c_matrix_checkL0_2
abbrev c_matrix_checkL0_0 : SC := .seq (.reg [o 28 (.bin .lss (.t 27) (.t 26))]) c_matrix_checkL0_1
abbrev c_matrix_checkL1_3 : SC := (.reg [o 50 (.bin .add (.t 40) (ki 1)), o 40 (.mv (.t 50))])
abbrev c_matrix_checkL1_2 : SC := .seq (.block 3 (.seq (.reg [o 42 (.iadr (.t 38) (.t 40) 1), o 43 (.ld (.t 42) 1 false), o 8 (.mv (.t 43))]) (.seq (.reg [o 44 (.mv (.t 0)), o 45 (.mv (.t 8)), o 46 (.call (.f n_matrix_entries) [.t 44, .t 45]), o 9 (.mv (.t 46))]) (.seq (.reg [o 47 (.mv (.t 9)), o 48 (.bin .neq (.t 47) (ki 0))]) (.cond (.t 48) (.seq (.reg [o 49 (.mv (.t 9)), o 4 (.mv (.t 49))]) .ret) .skip))))) c_matrix_checkL1_3
abbrev c_matrix_checkL1_1 : SC := .seq (.cond (.t 41) .skip (.exit 2)) c_matrix_checkL1_2
abbrev c_matrix_checkL1_0 : SC := .seq (.reg [o 41 (.bin .lss (.t 40) (.t 39))]) c_matrix_checkL1_1
abbrev c_matrix_check_5 : SC := .ret
abbrev c_matrix_check_4 : SC := .seq (.reg [o 4 (.mv (ki 0))]) c_matrix_check_5
abbrev c_matrix_check_3 : SC := .seq (.seq (.reg [o 37 (.fadr (.t 3) 1), o 38 (.ld (.t 37) 1 false), o 39 (.len (.t 38)), o 40 (.mv (ki 0))]) (.block 2 (.loop c_matrix_checkL1_0))) c_matrix_check_4
abbrev c_matrix_check_2 : SC := .seq (.seq (.reg [o 24 (.fadr (.t 3) 1), o 25 (.ld (.t 24) 1 false), o 26 (.len (.t 25)), o 27 (.mv (ki 0))]) (.block 0 (.loop c_matrix_checkL0_0))) c_matrix_check_3
abbrev c_matrix_check_1 : SC := .seq (.seq (.reg [o 10 (.fadr (.t 3) 0), o 11 (.ld (.t 10) 1 false), o 12 (.bin .lss (.t 11) (ki 0)), o 13 (.mv (.t 12)), og 13 false 0 14 (.fadr (.t 3) 0), og 13 false 0 15 (.ld (.t 14) 1 false), og 13 false 0 16 (.bin .gtr (.t 15) (ki 256)), o 17 (.pick (.t 13) (kb true) (.t 16)), o 18 (.mv (.t 17)), og 18 false 0 19 (.fadr (.t 3) 1), og 18 false 0 20 (.ld (.t 19) 1 false), og 18 false 0 21 (.len (.t 20)), og 18 false 0 22 (.bin .gtr (.t 21) (ki 256)), o 23 (.pick (.t 18) (kb true) (.t 22))]) (.cond (.t 23) (.seq (.reg [o 4 (.mv (ki 3))]) .ret) .skip)) c_matrix_check_2
abbrev c_matrix_check_0 : SC := .seq (.reg [o 3 (.box (.t 1)), o 4 (.mv (ki 0))]) c_matrix_check_1
theorem cf_matrix_check : cfun Go.Proofs.Try.prog md n_matrix_check = some ⟨2, 51, c_matrix_check_0.erase, [.t 4]⟩ := by kernel_rfl
-- matrix_entries
abbrev c_matrix_entriesL0_3 : SC := (.reg [o 17 (.bin .add (.t 9) (ki 1)), o 9 (.mv (.t 17))])
abbrev c_matrix_entriesL0_2 : SC := .seq (.block 1 (.seq (.reg [o 11 (.iadr (.t 7) (.t 9) 1), o 12 (.ld (.t 11) 1 false), o 6 (.mv (.t 12))]) (.seq (.reg [o 13 (.mv (.t 0)), o 14 (.mv (.t 6)), o 15 (.call (.f n_field_GF_Is) [.t 13, .t 14]), o 16 (.not (.t 15))]) (.cond (.t 16) (.seq (.reg [o 4 (.mv (ki 2))]) .ret) .skip)))) c_matrix_entriesL0_3
abbrev c_matrix_entriesL0_1 : SC := .seq (.cond (.t 10) .skip (.exit 0)) c_matrix_entriesL0_2
abbrev c_matrix_entriesL0_0 : SC := .seq (.reg [o 10 (.bin .lss (.t 9) (.t 8))]) c_matrix_entriesL0_1
abbrev c_matrix_entries_3 : SC := .ret
abbrev c_matrix_entries_2 : SC := .seq (.reg [o 4 (.mv (ki 0))]) c_matrix_entries_3
abbrev c_matrix_entries_1 : SC := .seq (.seq (.reg [o 7 (.mv (.t 1)), o 8 (.len (.t 7)), o 9 (.mv (ki 0))]) (.block 0 (.loop c_matrix_entriesL0_0))) c_matrix_entries_2
abbrev c_matrix_entries_0 : SC := .seq (.reg [o 4 (.mv (ki 0))]) c_matrix_entries_1
theorem cf_matrix_entries : cfun Go.Proofs.Try.prog md n_matrix_entries = some ⟨2, 18, c_matrix_entries_0.erase, [.t 4]⟩ := by kernel_rfl
-- matrix_vec
abbrev c_matrix_vecL0_3 : SC := (.reg [o 31 (.bin .add (.t 16) (ki 1)), o 16 (.mv (.t 31))])
abbrev c_matrix_vecL0_2 : SC := .seq (.block 1 (.seq (.reg [o 18 (.mv (.t 16)), o 19 (.iadr (.t 14) (.t 16) 1), o 20 (.ld (.t 19) 1 false), o 10 (.mv (.t 18)), o 11 (.mv (.t 20))]) (.seq (.reg [o 21 (.mv (.t 11)), o 22 (.bin .neq (.t 21) (ki 0))]) (.cond (.t 22) (.reg [o 23 (.mv (.t 0)), o 24 (.mv (.t 9)), o 25 (.mv (.t 11)), o 26 (.mv (.t 2)), o 27 (.mv (.t 10)), o 28 (.iadr (.t 26) (.t 27) 1), o 29 (.ld (.t 28) 1 false), o 30 (.call (.f n_matrix_add) [.t 23, .t 24, .t 25, .t 29])]) .skip)))) c_matrix_vecL0_3
abbrev c_matrix_vecL0_1 : SC := .seq (.cond (.t 17) .skip (.exit 0)) c_matrix_vecL0_2
abbrev c_matrix_vecL0_0 : SC := .seq (.reg [o 17 (.bin .lss (.t 16) (.t 15))]) c_matrix_vecL0_1
abbrev c_matrix_vec_4 : SC := .ret
abbrev c_matrix_vec_3 : SC := .seq (.reg [o 32 (.mv (.t 9)), o 8 (.mv (.t 32))]) c_matrix_vec_4
abbrev c_matrix_vec_2 : SC := .seq (.seq (.reg [o 14 (.mv (.t 1)), o 15 (.len (.t 14)), o 16 (.mv (ki 0))]) (.block 0 (.loop c_matrix_vecL0_0))) c_matrix_vec_3
abbrev c_matrix_vec_1 : SC := .seq (.reg [o 12 (.mv (.t 3)), o 13 (.mks (.t 12) 1 [I 0]), o 9 (.mv (.t 13))]) c_matrix_vec_2
abbrev c_matrix_vec_0 : SC := .seq (.reg [o 8 (.mv (.k .nils))]) c_matrix_vec_1
theorem cf_matrix_vec : cfun Go.Proofs.Try.prog md n_matrix_vec = some ⟨4, 33, c_matrix_vec_0.erase, [.t 8]⟩ := by kernel_rfl
-- matrix_add
abbrev c_matrix_addL0_3 : SC := (.reg [o 32 (.bin .add (.t 12) (ki 1)), o 12 (.mv (.t 32))])
abbrev c_matrix_addL0_2 : SC := .seq (.block 1 (.seq (.reg [o 14 (.mv (.t 12)), o 15 (.iadr (.t 10) (.t 12) 1), o 16 (.ld (.t 15) 1 false), o 8 (.mv (.t 14)), o 9 (.mv (.t 16))]) (.seq (.reg [o 17 (.mv (.t 9)), o 18 (.bin .neq (.t 17) (ki 0))]) (.cond (.t 18) (.reg [o 19 (.mv (.t 1)), o 20 (.mv (.t 8)), o 21 (.mv (.t 0)), o 22 (.mv (.t 1)), o 23 (.mv (.t 8)), o 24 (.iadr (.t 22) (.t 23) 1), o 26 (.mv (.t 0)), o 27 (.mv (.t 2)), o 28 (.mv (.t 9)), o 25 (.ld (.t 24) 1 false), om 1 29 (.call (.f n_field_GF_Mul) [.t 26, .t 27, .t 28]), om 1 30 (.call (.f n_field_GF_Add) [.t 21, .t 25, .t 29]), o 31 (.iadr (.t 19) (.t 20) 1), os (.st (.t 31) (.t 30) 1)]) .skip)))) c_matrix_addL0_3
abbrev c_matrix_addL0_1 : SC := .seq (.cond (.t 13) .skip (.exit 0)) c_matrix_addL0_2
abbrev c_matrix_addL0_0 : SC := .seq (.reg [o 13 (.bin .lss (.t 12) (.t 11))]) c_matrix_addL0_1
abbrev c_matrix_add_1 : SC := (.block 0 (.loop c_matrix_addL0_0))
abbrev c_matrix_add_0 : SC := .seq (.reg [o 10 (.mv (.t 3)), o 11 (.len (.t 10)), o 12 (.mv (ki 0))]) c_matrix_add_1
theorem cf_matrix_add : cfun Go.Proofs.Try.prog md n_matrix_add = some ⟨4, 33, c_matrix_add_0.erase, []⟩ := by kernel_rfl
-- ref52_symmetric
abbrev c_ref52_symmetricL0_2 : SC := (.reg [o 13 (.mv (.t 6)), o 14 (.bin .add (.t 13) (ki 1)), o 6 (.mv (.t 14))])
abbrev c_ref52_symmetricL0_1 : SC := .seq (.block 1 (.reg [o 15 (.mv (.t 5)), o 16 (.mv (.t 0)), o 17 (.mks (.t 16) 1 [I 0]), o 18 (.mkl 1 1 [.nils] [(0, (1, .t 17))]), o 19 (.app (.t 15) (.t 18) 1), o 5 (.mv (.t 19))])) c_ref52_symmetricL0_2
abbrev c_ref52_symmetricL0_0 : SC := .seq (.seq (.reg [o 10 (.mv (.t 6)), o 11 (.mv (.t 0)), o 12 (.bin .lss (.t 10) (.t 11))]) (.cond (.t 12) .skip (.exit 0))) c_ref52_symmetricL0_1
abbrev c_ref52_symmetricL2_2 : SC := (.reg [o 29 (.mv (.t 9)), o 30 (.bin .add (.t 29) (ki 1)), o 9 (.mv (.t 30))])
abbrev c_ref52_symmetricL2_1 : SC := .seq (.block 5 (.seq (.reg [o 31 (.mv (.t 5)), o 32 (.mv (.t 8)), o 33 (.iadr (.t 31) (.t 32) 1), o 35 (.mv (.t 9)), o 36 (.mv (.t 1)), o 37 (.mv (.t 7)), o 38 (.iadr (.t 36) (.t 37) 1), o 34 (.ld (.t 33) 1 false), o 39 (.ld (.t 38) 1 false), o 40 (.iadr (.t 34) (.t 35) 1), os (.st (.t 40) (.t 39) 1)]) (.seq (.reg [o 41 (.mv (.t 5)), o 42 (.mv (.t 9)), o 43 (.iadr (.t 41) (.t 42) 1), o 45 (.mv (.t 8)), o 46 (.mv (.t 1)), o 47 (.mv (.t 7)), o 48 (.iadr (.t 46) (.t 47) 1), o 44 (.ld (.t 43) 1 false), o 49 (.ld (.t 48) 1 false), o 50 (.iadr (.t 44) (.t 45) 1), os (.st (.t 50) (.t 49) 1)]) (.reg [o 51 (.mv (.t 7)), o 52 (.bin .add (.t 51) (ki 1)), o 7 (.mv (.t 52))])))) c_ref52_symmetricL2_2
abbrev c_ref52_symmetricL2_0 : SC := .seq (.seq (.reg [o 26 (.mv (.t 9)), o 27 (.mv (.t 0)), o 28 (.bin .lss (.t 26) (.t 27))]) (.cond (.t 28) .skip (.exit 4))) c_ref52_symmetricL2_1
abbrev c_ref52_symmetricL1_2 : SC := (.reg [o 23 (.mv (.t 8)), o 24 (.bin .add (.t 23) (ki 1)), o 8 (.mv (.t 24))])
abbrev c_ref52_symmetricL1_1 : SC := .seq (.block 3 (.seq (.reg [o 25 (.mv (.t 8)), o 9 (.mv (.t 25))]) (.block 4 (.loop c_ref52_symmetricL2_0)))) c_ref52_symmetricL1_2
abbrev c_ref52_symmetricL1_0 : SC := .seq (.seq (.reg [o 20 (.mv (.t 8)), o 21 (.mv (.t 0)), o 22 (.bin .lss (.t 20) (.t 21))]) (.cond (.t 22) .skip (.exit 2))) c_ref52_symmetricL1_1
abbrev c_ref52_symmetric_6 : SC := .ret
abbrev c_ref52_symmetric_5 : SC := .seq (.reg [o 53 (.mv (.t 5)), o 4 (.mv (.t 53))]) c_ref52_symmetric_6
abbrev c_ref52_symmetric_4 : SC := .seq (.seq (.reg [o 8 (.mv (ki 0))]) (.block 2 (.loop c_ref52_symmetricL1_0))) c_ref52_symmetric_5
abbrev c_ref52_symmetric_3 : SC := .seq (.reg [o 7 (.mv (ki 0))]) c_ref52_symmetric_4
abbrev c_ref52_symmetric_2 : SC := .seq (.seq (.reg [o 6 (.mv (ki 0))]) (.block 0 (.loop c_ref52_symmetricL0_0))) c_ref52_symmetric_3
abbrev c_ref52_symmetric_1 : SC := .seq (.reg [o 5 (.mv (.k .nils))]) c_ref52_symmetric_2
abbrev c_ref52_symmetric_0 : SC := .seq (.reg [o 4 (.mv (.k .nils))]) c_ref52_symmetric_1
theorem cf_ref52_symmetric : cfun Go.Proofs.Try.prog md n_ref52_symmetric = some ⟨2, 54, c_ref52_symmetric_0.erase, [.t 4]⟩ := by kernel_rfl
-- ref52_Message
abbrev c_ref52_MessageL1_2 : SC := (.reg [o 67 (.mv (.t 11)), o 68 (.bin .add (.t 67) (ki 1)), o 11 (.mv (.t 68))])
abbrev c_ref52_MessageL1_1 : SC := .seq (.block 3 (.seq (.reg [o 69 (.mv (.t 9)), o 70 (.fadr (.t 2) 4), o 71 (.ld (.t 70) 1 false), o 72 (.bin .lss (.t 69) (.t 71)), o 73 (.mv (.t 72)), og 73 true 0 74 (.mv (.t 11)), og 73 true 0 75 (.fadr (.t 2) 4), og 73 true 0 76 (.ld (.t 75) 1 false), og 73 true 0 77 (.bin .lss (.t 74) (.t 76)), o 78 (.pick (.t 73) (.t 77) (kb false))]) (.cond (.t 78) (.reg [o 79 (.mv (.t 10)), o 80 (.mv (.t 11)), o 81 (.mv (.t 6)), o 82 (.mv (.t 9)), o 83 (.iadr (.t 81) (.t 82) 1), o 84 (.ld (.t 83) 1 false), o 85 (.mv (.t 11)), o 86 (.iadr (.t 84) (.t 85) 1), o 87 (.ld (.t 86) 1 false), o 88 (.iadr (.t 79) (.t 80) 1), os (.st (.t 88) (.t 87) 1)]) (.seq (.reg [o 89 (.mv (.t 9)), o 90 (.fadr (.t 2) 4), o 91 (.ld (.t 90) 1 false), o 92 (.bin .lss (.t 89) (.t 91))]) (.cond (.t 92) (.reg [o 93 (.mv (.t 10)), o 94 (.mv (.t 11)), o 95 (.mv (.t 7)), o 96 (.mv (.t 9)), o 97 (.fadr (.t 2) 5), o 98 (.ld (.t 97) 1 false), o 99 (.fadr (.t 2) 4), o 100 (.ld (.t 99) 1 false), o 101 (.bin .sub (.t 98) (.t 100)), o 102 (.bin .mul (.t 96) (.t 101)), o 103 (.mv (.t 11)), o 104 (.bin .add (.t 102) (.t 103)), o 105 (.fadr (.t 2) 4), o 106 (.ld (.t 105) 1 false), o 107 (.bin .sub (.t 104) (.t 106)), o 108 (.iadr (.t 95) (.t 107) 1), o 109 (.ld (.t 108) 1 false), o 110 (.iadr (.t 93) (.t 94) 1), os (.st (.t 110) (.t 109) 1)]) (.seq (.reg [o 111 (.mv (.t 11)), o 112 (.fadr (.t 2) 4), o 113 (.ld (.t 112) 1 false), o 114 (.bin .lss (.t 111) (.t 113))]) (.cond (.t 114) (.reg [o 115 (.mv (.t 10)), o 116 (.mv (.t 11)), o 117 (.mv (.t 7)), o 118 (.mv (.t 11)), o 119 (.fadr (.t 2) 5), o 120 (.ld (.t 119) 1 false), o 121 (.fadr (.t 2) 4), o 122 (.ld (.t 121) 1 false), o 123 (.bin .sub (.t 120) (.t 122)), o 124 (.bin .mul (.t 118) (.t 123)), o 125 (.mv (.t 9)), o 126 (.bin .add (.t 124) (.t 125)), o 127 (.fadr (.t 2) 4), o 128 (.ld (.t 127) 1 false), o 129 (.bin .sub (.t 126) (.t 128)), o 130 (.iadr (.t 117) (.t 129) 1), o 131 (.ld (.t 130) 1 false), o 132 (.iadr (.t 115) (.t 116) 1), os (.st (.t 132) (.t 131) 1)]) .skip))))))) c_ref52_MessageL1_2
abbrev c_ref52_MessageL1_0 : SC := .seq (.seq (.reg [o 63 (.mv (.t 11)), o 64 (.fadr (.t 2) 5), o 65 (.ld (.t 64) 1 false), o 66 (.bin .lss (.t 63) (.t 65))]) (.cond (.t 66) .skip (.exit 2))) c_ref52_MessageL1_1
abbrev c_ref52_MessageL0_2 : SC := (.reg [o 58 (.mv (.t 9)), o 59 (.bin .add (.t 58) (ki 1)), o 9 (.mv (.t 59))])
abbrev c_ref52_MessageL0_1 : SC := .seq (.block 1 (.seq (.reg [o 60 (.fadr (.t 2) 5), o 61 (.ld (.t 60) 1 false), o 62 (.mks (.t 61) 1 [I 0]), o 10 (.mv (.t 62))]) (.seq (.seq (.reg [o 11 (.mv (ki 0))]) (.block 2 (.loop c_ref52_MessageL1_0))) (.reg [o 133 (.mv (.t 8)), o 134 (.mv (.t 10)), o 135 (.mkl 1 1 [.nils] [(0, (1, .t 134))]), o 136 (.app (.t 133) (.t 135) 1), o 8 (.mv (.t 136))])))) c_ref52_MessageL0_2
abbrev c_ref52_MessageL0_0 : SC := .seq (.seq (.reg [o 54 (.mv (.t 9)), o 55 (.fadr (.t 2) 5), o 56 (.ld (.t 55) 1 false), o 57 (.bin .lss (.t 54) (.t 56))]) (.cond (.t 57) .skip (.exit 0))) c_ref52_MessageL0_1
abbrev c_ref52_Message_7 : SC := .ret
abbrev c_ref52_Message_6 : SC := .seq (.reg [o 137 (.mv (.t 8)), o 4 (.mv (.t 137))]) c_ref52_Message_7
abbrev c_ref52_Message_5 : SC := .seq (.seq (.reg [o 9 (.mv (ki 0))]) (.block 0 (.loop c_ref52_MessageL0_0))) c_ref52_Message_6
abbrev c_ref52_Message_4 : SC := .seq (.reg [o 8 (.mv (.k .nils))]) c_ref52_Message_5
abbrev c_ref52_Message_3 : SC := .seq (.reg [o 45 (.mv (.t 1)), o 46 (.fadr (.t 2) 4), o 47 (.ld (.t 46) 1 false), o 48 (.fadr (.t 2) 4), o 49 (.ld (.t 48) 1 false), o 50 (.bin .add (.t 49) (ki 1)), o 51 (.bin .mul (.t 47) (.t 50)), o 52 (.bin .quo (.t 51) (ki 2)), o 53 (.slc (.t 45) (some (.t 52)) none none 1), o 7 (.mv (.t 53))]) c_ref52_Message_4
abbrev c_ref52_Message_2 : SC := .seq (.reg [o 33 (.fadr (.t 2) 4), o 35 (.mv (.t 1)), o 36 (.fadr (.t 2) 4), o 38 (.fadr (.t 2) 4), o 34 (.ld (.t 33) 1 false), o 37 (.ld (.t 36) 1 false), o 39 (.ld (.t 38) 1 false), o 40 (.bin .add (.t 39) (ki 1)), o 41 (.bin .mul (.t 37) (.t 40)), o 42 (.bin .quo (.t 41) (ki 2)), o 43 (.slc (.t 35) none (some (.t 42)) none 1), om 2 44 (.call (.f n_ref52_symmetric) [.t 34, .t 43]), o 6 (.mv (.t 44))]) c_ref52_Message_3
abbrev c_ref52_Message_1 : SC := .seq (.seq (.reg [o 12 (.fadr (.t 2) 3), o 13 (.ld (.t 12) 1 false), o 14 (.bin .eql (.t 13) (ki 1))]) (.cond (.t 14) (.seq (.reg [o 15 (.mv (.t 1)), o 16 (.len (.t 15)), o 17 (.bin .quo (.t 16) (ki 2)), o 5 (.mv (.t 17))]) (.seq (.reg [o 18 (.fadr (.t 2) 4), o 21 (.mv (.t 1)), o 22 (.mv (.t 5)), o 23 (.slc (.t 21) none (some (.t 22)) none 1), o 25 (.fadr (.t 2) 4), o 28 (.mv (.t 1)), o 29 (.mv (.t 5)), o 30 (.slc (.t 28) (some (.t 29)) none none 1), o 19 (.ld (.t 18) 1 false), o 20 (.bin .sub (.t 19) (ki 1)), o 26 (.ld (.t 25) 1 false), o 27 (.bin .sub (.t 26) (ki 1)), om 2 24 (.call (.f n_ref52_symmetric) [.t 20, .t 23]), om 2 31 (.call (.f n_ref52_symmetric) [.t 27, .t 30]), o 32 (.app (.t 24) (.t 31) 1), o 4 (.mv (.t 32))]) .ret)) .skip)) c_ref52_Message_2
abbrev c_ref52_Message_0 : SC := .seq (.reg [o 2 (.box (.t 0)), o 4 (.mv (.k .nils))]) c_ref52_Message_1
theorem cf_ref52_Message : cfun Go.Proofs.Try.prog md n_ref52_Message = some ⟨2, 138, c_ref52_Message_0.erase, [.t 4]⟩ := by kernel_rfl
-- ref52_Encode
abbrev c_ref52_EncodeL0_2 : SC := (.reg [o 23 (.mv (.t 9)), o 24 (.bin .add (.t 23) (ki 1)), o 9 (.mv (.t 24))])
abbrev c_ref52_EncodeL0_1 : SC := .seq (.block 1 (.reg [o 25 (.mv (.t 8)), o 26 (.fadr (.t 2) 0), o 29 (.mv (.t 9)), o 31 (.mv (.t 5)), o 32 (.mv (.t 7)), o 27 (.ld (.t 26) 3 true), o 28 (.ld (.t 2) 7 true), om 1 30 (.call (.f n_ref52_Vector) [.t 28, .t 29]), om 1 33 (.call (.f n_ref09_Combine) [.t 27, .t 30, .t 31, .t 32]), o 34 (.mkl 1 1 [.nils] [(0, (1, .t 33))]), o 35 (.app (.t 25) (.t 34) 1), o 8 (.mv (.t 35))])) c_ref52_EncodeL0_2
abbrev c_ref52_EncodeL0_0 : SC := .seq (.seq (.reg [o 18 (.mv (.t 9)), o 19 (.fadr (.t 2) 6), o 20 (.ld (.t 19) 1 false), o 21 (.len (.t 20)), o 22 (.bin .lss (.t 18) (.t 21))]) (.cond (.t 22) .skip (.exit 0))) c_ref52_EncodeL0_1
abbrev c_ref52_Encode_6 : SC := .ret
abbrev c_ref52_Encode_5 : SC := .seq (.reg [o 36 (.mv (.t 8)), o 4 (.mv (.t 36))]) c_ref52_Encode_6
abbrev c_ref52_Encode_4 : SC := .seq (.seq (.reg [o 9 (.mv (ki 0))]) (.block 0 (.loop c_ref52_EncodeL0_0))) c_ref52_Encode_5
abbrev c_ref52_Encode_3 : SC := .seq (.reg [o 8 (.mv (.k .nils))]) c_ref52_Encode_4
abbrev c_ref52_Encode_2 : SC := .seq (.reg [o 14 (.ld (.t 2) 7 true), o 15 (.call (.f n_ref52_Size) [.t 14]), o 13 (.mv (.t 15)), o 16 (.ext (.t 13) 0), o 17 (.ext (.t 13) 1), o 6 (.mv (.t 16)), o 7 (.mv (.t 17))]) c_ref52_Encode_3
abbrev c_ref52_Encode_1 : SC := .seq (.reg [o 10 (.ld (.t 2) 7 true), o 11 (.mv (.t 1)), o 12 (.call (.f n_ref52_Message) [.t 10, .t 11]), o 5 (.mv (.t 12))]) c_ref52_Encode_2
abbrev c_ref52_Encode_0 : SC := .seq (.reg [o 2 (.box (.t 0)), o 4 (.mv (.k .nils))]) c_ref52_Encode_1
theorem cf_ref52_Encode : cfun Go.Proofs.Try.prog md n_ref52_Encode = some ⟨2, 37, c_ref52_Encode_0.erase, [.t 4]⟩ := by kernel_rfl
-- ref09_Combine
abbrev c_ref09_CombineL0_2 : SC := (.reg [o 23 (.mv (.t 10)), o 24 (.bin .add (.t 23) (ki 1)), o 10 (.mv (.t 24))])
abbrev c_ref09_CombineL0_1 : SC := .seq (.block 1 (.seq (.reg [o 25 (.mv (.t 1)), o 26 (.mv (.t 10)), o 27 (.iadr (.t 25) (.t 26) 1), o 28 (.ld (.t 27) 1 false), o 29 (.bin .neq (.t 28) (ki 0))]) (.cond (.t 29) (.reg [o 31 (.mv (.t 9)), o 32 (.mv (.t 1)), o 33 (.mv (.t 10)), o 34 (.iadr (.t 32) (.t 33) 1), o 36 (.mv (.t 2)), o 37 (.mv (.t 10)), o 38 (.iadr (.t 36) (.t 37) 1), o 30 (.ld (.t 4) 3 true), o 35 (.ld (.t 34) 1 false), o 39 (.ld (.t 38) 1 false), om 1 40 (.call (.f n_ref09_AddTo) [.t 30, .t 31, .t 35, .t 39]), o 9 (.mv (.t 40))]) .skip))) c_ref09_CombineL0_2
abbrev c_ref09_CombineL0_0 : SC := .seq (.seq (.reg [o 13 (.mv (.t 10)), o 14 (.mv (.t 2)), o 15 (.len (.t 14)), o 16 (.bin .lss (.t 13) (.t 15)), o 17 (.mv (.t 16)), og 17 true 0 18 (.mv (.t 10)), og 17 true 0 19 (.mv (.t 1)), og 17 true 0 20 (.len (.t 19)), og 17 true 0 21 (.bin .lss (.t 18) (.t 20)), o 22 (.pick (.t 17) (.t 21) (kb false))]) (.cond (.t 22) .skip (.exit 0))) c_ref09_CombineL0_1
abbrev c_ref09_Combine_4 : SC := .ret
abbrev c_ref09_Combine_3 : SC := .seq (.reg [o 41 (.mv (.t 9)), o 8 (.mv (.t 41))]) c_ref09_Combine_4
abbrev c_ref09_Combine_2 : SC := .seq (.seq (.reg [o 10 (.mv (ki 0))]) (.block 0 (.loop c_ref09_CombineL0_0))) c_ref09_Combine_3
abbrev c_ref09_Combine_1 : SC := .seq (.reg [o 11 (.mv (.t 3)), o 12 (.mks (.t 11) 1 [I 0]), o 9 (.mv (.t 12))]) c_ref09_Combine_2
abbrev c_ref09_Combine_0 : SC := .seq (.reg [o 4 (.box (.t 0)), o 8 (.mv (.k .nils))]) c_ref09_Combine_1
theorem cf_ref09_Combine : cfun Go.Proofs.Try.prog md n_ref09_Combine = some ⟨4, 42, c_ref09_Combine_0.erase, [.t 8]⟩ := by kernel_rfl
-- ref09_AddTo
abbrev c_ref09_AddToL0_2 : SC := (.reg [o 18 (.mv (.t 10)), o 19 (.bin .add (.t 18) (ki 1)), o 10 (.mv (.t 19))])
abbrev c_ref09_AddToL0_1 : SC := .seq (.block 1 (.seq (.reg [o 20 (.mv (.t 9)), o 21 (.mv (.t 10)), o 22 (.mv (.t 1)), o 23 (.mv (.t 10)), o 24 (.iadr (.t 22) (.t 23) 1), o 25 (.ld (.t 24) 1 false), o 26 (.iadr (.t 20) (.t 21) 1), os (.st (.t 26) (.t 25) 1)]) (.seq (.reg [o 27 (.mv (.t 3)), o 28 (.mv (.t 10)), o 29 (.iadr (.t 27) (.t 28) 1), o 30 (.ld (.t 29) 1 false), o 31 (.bin .neq (.t 30) (ki 0))]) (.cond (.t 31) (.reg [o 32 (.mv (.t 9)), o 33 (.mv (.t 10)), o 35 (.mv (.t 1)), o 36 (.mv (.t 10)), o 37 (.iadr (.t 35) (.t 36) 1), o 40 (.mv (.t 2)), o 41 (.mv (.t 3)), o 42 (.mv (.t 10)), o 43 (.iadr (.t 41) (.t 42) 1), o 34 (.ld (.t 4) 3 true), o 38 (.ld (.t 37) 1 false), o 39 (.ld (.t 4) 3 true), o 44 (.ld (.t 43) 1 false), om 1 45 (.call (.f n_ref04_Mul) [.t 39, .t 40, .t 44]), om 1 46 (.call (.f n_ref04_Add) [.t 34, .t 38, .t 45]), o 47 (.iadr (.t 32) (.t 33) 1), os (.st (.t 47) (.t 46) 1)]) .skip)))) c_ref09_AddToL0_2
abbrev c_ref09_AddToL0_0 : SC := .seq (.seq (.reg [o 14 (.mv (.t 10)), o 15 (.mv (.t 1)), o 16 (.len (.t 15)), o 17 (.bin .lss (.t 14) (.t 16))]) (.cond (.t 17) .skip (.exit 0))) c_ref09_AddToL0_1
abbrev c_ref09_AddTo_4 : SC := .ret
abbrev c_ref09_AddTo_3 : SC := .seq (.reg [o 48 (.mv (.t 9)), o 8 (.mv (.t 48))]) c_ref09_AddTo_4
abbrev c_ref09_AddTo_2 : SC := .seq (.seq (.reg [o 10 (.mv (ki 0))]) (.block 0 (.loop c_ref09_AddToL0_0))) c_ref09_AddTo_3
abbrev c_ref09_AddTo_1 : SC := .seq (.reg [o 11 (.mv (.t 1)), o 12 (.len (.t 11)), o 13 (.mks (.t 12) 1 [I 0]), o 9 (.mv (.t 13))]) c_ref09_AddTo_2
abbrev c_ref09_AddTo_0 : SC := .seq (.reg [o 4 (.box (.t 0)), o 8 (.mv (.k .nils))]) c_ref09_AddTo_1
theorem cf_ref09_AddTo : cfun Go.Proofs.Try.prog md n_ref09_AddTo = some ⟨4, 49, c_ref09_AddTo_0.erase, [.t 8]⟩ := by kernel_rfl
-- ref09_SameRows
abbrev c_ref09_SameRowsL0_2 : SC := (.reg [o 15 (.mv (.t 5)), o 16 (.bin .add (.t 15) (ki 1)), o 5 (.mv (.t 16))])
abbrev c_ref09_SameRowsL0_1 : SC := .seq (.block 1 (.seq (.reg [o 17 (.mv (.t 0)), o 18 (.mv (.t 5)), o 19 (.iadr (.t 17) (.t 18) 1), o 21 (.mv (.t 1)), o 22 (.mv (.t 5)), o 23 (.iadr (.t 21) (.t 22) 1), o 20 (.ld (.t 19) 1 false), o 24 (.ld (.t 23) 1 false), om 1 25 (.call (.f n_ref09_SameInts) [.t 20, .t 24]), o 26 (.not (.t 25))]) (.cond (.t 26) (.seq (.reg [o 4 (.mv (kb false))]) .ret) .skip))) c_ref09_SameRowsL0_2
abbrev c_ref09_SameRowsL0_0 : SC := .seq (.seq (.reg [o 11 (.mv (.t 5)), o 12 (.mv (.t 0)), o 13 (.len (.t 12)), o 14 (.bin .lss (.t 11) (.t 13))]) (.cond (.t 14) .skip (.exit 0))) c_ref09_SameRowsL0_1
abbrev c_ref09_SameRows_4 : SC := .ret
abbrev c_ref09_SameRows_3 : SC := .seq (.reg [o 4 (.mv (kb true))]) c_ref09_SameRows_4
abbrev c_ref09_SameRows_2 : SC := .seq (.seq (.reg [o 5 (.mv (ki 0))]) (.block 0 (.loop c_ref09_SameRowsL0_0))) c_ref09_SameRows_3
abbrev c_ref09_SameRows_1 : SC := .seq (.seq (.reg [o 6 (.mv (.t 0)), o 7 (.len (.t 6)), o 8 (.mv (.t 1)), o 9 (.len (.t 8)), o 10 (.bin .neq (.t 7) (.t 9))]) (.cond (.t 10) (.seq (.reg [o 4 (.mv (kb false))]) .ret) .skip)) c_ref09_SameRows_2
abbrev c_ref09_SameRows_0 : SC := .seq (.reg [o 4 (.mv (kb false))]) c_ref09_SameRows_1
theorem cf_ref09_SameRows : cfun Go.Proofs.Try.prog md n_ref09_SameRows = some ⟨2, 27, c_ref09_SameRows_0.erase, [.t 4]⟩ := by kernel_rfl
-- ref09_SameInts
abbrev c_ref09_SameIntsL0_2 : SC := (.reg [o 15 (.mv (.t 5)), o 16 (.bin .add (.t 15) (ki 1)), o 5 (.mv (.t 16))])
abbrev c_ref09_SameIntsL0_1 : SC := .seq (.block 1 (.seq (.reg [o 17 (.mv (.t 0)), o 18 (.mv (.t 5)), o 19 (.iadr (.t 17) (.t 18) 1), o 21 (.mv (.t 1)), o 22 (.mv (.t 5)), o 23 (.iadr (.t 21) (.t 22) 1), o 20 (.ld (.t 19) 1 false), o 24 (.ld (.t 23) 1 false), o 25 (.bin .neq (.t 20) (.t 24))]) (.cond (.t 25) (.seq (.reg [o 4 (.mv (kb false))]) .ret) .skip))) c_ref09_SameIntsL0_2
abbrev c_ref09_SameIntsL0_0 : SC := .seq (.seq (.reg [o 11 (.mv (.t 5)), o 12 (.mv (.t 0)), o 13 (.len (.t 12)), o 14 (.bin .lss (.t 11) (.t 13))]) (.cond (.t 14) .skip (.exit 0))) c_ref09_SameIntsL0_1
abbrev c_ref09_SameInts_4 : SC := .ret
abbrev c_ref09_SameInts_3 : SC := .seq (.reg [o 4 (.mv (kb true))]) c_ref09_SameInts_4
abbrev c_ref09_SameInts_2 : SC := .seq (.seq (.reg [o 5 (.mv (ki 0))]) (.block 0 (.loop c_ref09_SameIntsL0_0))) c_ref09_SameInts_3
abbrev c_ref09_SameInts_1 : SC := .seq (.seq (.reg [o 6 (.mv (.t 0)), o 7 (.len (.t 6)), o 8 (.mv (.t 1)), o 9 (.len (.t 8)), o 10 (.bin .neq (.t 7) (.t 9))]) (.cond (.t 10) (.seq (.reg [o 4 (.mv (kb false))]) .ret) .skip)) c_ref09_SameInts_2
abbrev c_ref09_SameInts_0 : SC := .seq (.reg [o 4 (.mv (kb false))]) c_ref09_SameInts_1
theorem cf_ref09_SameInts : cfun Go.Proofs.Try.prog md n_ref09_SameInts = some ⟨2, 26, c_ref09_SameInts_0.erase, [.t 4]⟩ := by kernel_rfl
-- law52_RegenerateEncodes
abbrev c_law52_RegenerateEncodes_7 : SC := .ret
abbrev c_law52_RegenerateEncodes_6 : SC := .seq (.reg [o 44 (.mv (.t 6)), o 45 (.bin .eql (.t 44) (ki 0)), o 46 (.mv (.t 45)), og 46 true 0 47 (.mv (.t 5)), og 46 true 0 48 (.ld (.t 2) 7 true), og 46 true 0 49 (.mv (.t 1)), og 46 true 0 50 (.call (.f n_ref52_Encode) [.t 48, .t 49]), og 46 true 0 51 (.call (.f n_ref09_SameRows) [.t 47, .t 50]), o 52 (.pick (.t 46) (.t 51) (kb false)), o 4 (.mv (.t 52))]) c_law52_RegenerateEncodes_7
abbrev c_law52_RegenerateEncodes_5 : SC := .seq (.seq (.reg [o 34 (.mv (.t 7)), o 35 (.bin .neq (.t 34) (ki 0))]) (.cond (.t 35) (.seq (.reg [o 36 (.mv (.t 6)), o 37 (.mv (.t 7)), o 38 (.bin .eql (.t 36) (.t 37)), o 39 (.mv (.t 38)), og 39 true 0 40 (.mv (.t 5)), og 39 true 0 41 (.len (.t 40)), og 39 true 0 42 (.bin .eql (.t 41) (ki 0)), o 43 (.pick (.t 39) (.t 42) (kb false)), o 4 (.mv (.t 43))]) .ret) .skip)) c_law52_RegenerateEncodes_6
abbrev c_law52_RegenerateEncodes_4 : SC := .seq (.seq (.reg [o 22 (.mv (.t 7)), o 23 (.bin .eql (.t 22) (ki 0))]) (.cond (.t 23) (.seq (.reg [o 25 (.ld (.t 2) 7 true), o 26 (.call (.f n_ref52_Size) [.t 25]), o 24 (.mv (.t 26)), o 27 (.ext (.t 24) 0), o 28 (.ext (.t 24) 1), o 8 (.mv (.t 27)), o 9 (.mv (.t 28))]) (.reg [o 29 (.fadr (.t 2) 0), o 30 (.ld (.t 29) 3 true), o 31 (.mv (.t 1)), o 32 (.mv (.t 8)), o 33 (.call (.f n_ref12_List) [.t 30, .t 31, .t 32]), o 7 (.mv (.t 33))])) .skip)) c_law52_RegenerateEncodes_5
abbrev c_law52_RegenerateEncodes_3 : SC := .seq (.reg [o 20 (.ld (.t 2) 7 true), o 21 (.call (.f n_ref52_Check) [.t 20]), o 7 (.mv (.t 21))]) c_law52_RegenerateEncodes_4
abbrev c_law52_RegenerateEncodes_2 : SC := .seq (.reg [o 15 (.ld (.t 2) 7 true), o 16 (.mv (.t 1)), o 17 (.call (.f n_regenerate_Encode) [.t 15, .t 16]), o 14 (.mv (.t 17)), o 18 (.ext (.t 14) 0), o 19 (.ext (.t 14) 1), o 5 (.mv (.t 18)), o 6 (.mv (.t 19))]) c_law52_RegenerateEncodes_3
abbrev c_law52_RegenerateEncodes_1 : SC := .seq (.seq (.reg [o 10 (.fadr (.t 2) 6), o 11 (.ld (.t 10) 1 false), o 12 (.len (.t 11)), o 13 (.bin .gtr (.t 12) (ki 12))]) (.cond (.t 13) (.seq (.reg [o 4 (.mv (kb true))]) .ret) .skip)) c_law52_RegenerateEncodes_2
abbrev c_law52_RegenerateEncodes_0 : SC := .seq (.reg [o 2 (.box (.t 0)), o 4 (.mv (kb false))]) c_law52_RegenerateEncodes_1
theorem cf_law52_RegenerateEncodes : cfun Go.Proofs.Try.prog md n_law52_RegenerateEncodes = some ⟨2, 53, c_law52_RegenerateEncodes_0.erase, [.t 4]⟩ := by kernel_rfl
end Go.AM.Ytmihmgnjnedfcaa
end

section
/- Contracts of functions: adding a multiple of a row, combinations of rows. -/
set_option maxRecDepth 100000
set_option linter.unusedSimpArgs false
set_option linter.unusedVariables false
namespace Go.AM.Ytmihmgnjnedfcaa
open Go Go.AM
attribute [local simp ↓] awp_seq awp_reg awp_skip awp_cond' awp_block awp_exit awp_ret awp_fz thenW_normal thenW_exit thenW_ret inBlk_normal inBlk_exit inBlk_ret aops_cons' contA_ap aops_nil e_mv e_guard' e_pick' e_ld' e_app e_cpy e_st' e_call callW_f updO_some updO_none e_bin' e_isnil' e_fadr' e_iadr' e_iarr' e_len' e_build' e_mkf' e_nc' e_not' e_neg' e_cvt' e_slc' e_fld' e_ext' e_min' e_eqs' e_new e_box e_mkl e_mks
attribute [local simp] upd_apply ev_t ev_k ev_f binA_add binA_sub binA_mul binA_quo binA_rem binA_eql binA_neq binA_lss binA_leq binA_gtr binA_geq det mem frame0 keeps_nil iadrA_sl fadrA_ref fadrA_fp ldv_agg ldv_one cells_base hset_same hset_hset lenA_fs lenA_sl lenA_nils zeros_ints ints_length one_base one_nilp one_nils one_ref one_sl one_fp one_fs one_fn gl_one resA resOf bound natOf afill splice AV.cells cells_agg bindR_some condR_true condR_false guardR_tup guardR_true guardR_true' guardR_false guardR_false' allocW_some pickA_true pickA_false
open Go.FM

/-- A slice of whole numbers that can be read: frozen, or a live block. -/
def RS (h : Hp) (v : AV) (l : List Int) : Prop := IL v l ∨ ∃ b, v = .sl b 0 l.length 1 ∧ h b = some (ints l)
theorem RS.of {h : Hp} {v : AV} {l : List Int} (hv : IL v l) : RS h v l := .inl hv
theorem RS.len {h : Hp} {v : AV} {l : List Int} (hv : RS h v l) : lenA v = some l.length := by
  rcases hv with hv | ⟨b, rfl, _⟩
  · exact hv.len
  · rfl
theorem RS.one {h : Hp} {v : AV} {l : List Int} (hv : RS h v l) : AM.one v = true := by
  rcases hv with hv | ⟨b, rfl, _⟩
  · exact hv.one
  · rfl
theorem RS.mono {h h' : Hp} {v : AV} {l : List Int} (hv : RS h v l) (k : Kp h h') : RS h' v l := by
  rcases hv with hv | ⟨b, h1, h2⟩
  · exact .inl hv
  · exact .inr ⟨b, h1, k b _ h2⟩
/-- Another block is written. -/
theorem RS.put {h : Hp} {v : AV} {l : List Int} (hv : RS h v l) {b : Nat} {n : Nat} (hb : v ≠ .sl b 0 n 1 ∨ n ≠ l.length) (hn : n = l.length) (xs : List AV) : RS (hset h b xs) v l := by
  rcases hv with hv | ⟨c, h1, h2⟩
  · exact .inl hv
  · refine .inr ⟨c, h1, ?_⟩
    have : c ≠ b := fun hc => by
      subst hc hn
      rcases hb with hb | hb
      · exact hb h1
      · exact hb rfl
    rw [hset_ne _ _ this]; exact h2
theorem RS.rd {h : Hp} {v : AV} {l : List Int} (hv : RS h v l) {i : Nat} (hi : i < l.length) : ∃ x, iadrA v (I i) 1 = some x ∧ cellsAt h x 1 = some [I (l.getD i 0)] := by
  rcases hv with hv | ⟨b, rfl, h2⟩
  · exact ⟨_, hv.iadr (i := i) ⟨by omega, by omega⟩, by simp only [Int.toNat_natCast]; exact ld_ints hi⟩
  · refine ⟨.ref b i, ?_, ld_ints_at h2 hi⟩
    rw [iadrA_sl, if_pos ⟨by omega, by omega⟩]; simp

theorem set_getD {l : List Int} {k : Nat} {x : Int} (h : l.getD k 0 = x) : l.set k x = l := by
  refine List.ext_getElem (by simp) fun i h1 h2 => ?_
  rw [List.getElem_set]
  split
  · rename_i hi
    subst hi
    rw [← h]
    simp only [List.getD, List.getElem?_eq_getElem h2, Option.getD_some]
  · rfl

theorem hset_id {h : Hp} {b : Nat} {cs : List AV} (hb : h b = some cs) : hset h b cs = h := by
  funext x
  simp only [hset]
  split
  · rename_i hx; rw [hx, hb]
  · rfl

/-- v plus a times u. -/
def addV (D : Ds) (v : List Int) (a : Int) (u : List Int) : List Int := (List.range v.length).map fun i => if u.getD i 0 ≠ 0 then D.add (v.getD i 0) (D.mul a (u.getD i 0)) else v.getD i 0
theorem addV_len (D : Ds) (v : List Int) (a : Int) (u : List Int) : (addV D v a u).length = v.length := by simp [addV]
theorem addV_get {D : Ds} {v : List Int} {a : Int} {u : List Int} {i : Nat} (hi : i < v.length) : (addV D v a u).getD i 0 = if u.getD i 0 ≠ 0 then D.add (v.getD i 0) (D.mul a (u.getD i 0)) else v.getD i 0 := by
  unfold addV
  simp only [List.getD, List.getElem?_map, List.getElem?_range hi, Option.map_some, Option.getD_some]

theorem s_add {D : Ds} (r : Fd D) {h : Hp} {b : Nat} {v : List Int} (hb : h b = some (ints v)) (a : Int) {u : AV} {ul : List Int} (hu : RS h u ul) (hul : ul.length = v.length) (hne : u ≠ .sl b 0 v.length 1) (hvl : v.length < 4611686018427387904) :
    Spec prog n_matrix_add [.fp (gfC D), .sl b 0 v.length 1, I a, u] h (fun r h' => r = .tup [] ∧ h' = hset h b (ints (addV D v a ul))) := by
  refine spec_of cf_matrix_add rfl ?_
  have hN := addV_len D v a ul
  have hNg := fun i hi => addV_get (D := D) (v := v) (a := a) (u := ul) (i := i) hi
  generalize addV D v a ul = N at *
  simp [hu.len]
  refine awp_for ul.length (fun k fr' h' => h' = hset h b (ints (N.take k ++ v.drop k)) ∧ fr' 12 = I k) ⟨by simp; exact (hset_id hb).symm, by simp⟩ ?_
  intro k fr' h' hkn hk ⟨hh, k12⟩
  have k0 := hk 0 (by decide)
  have k1 := hk 1 (by decide)
  have k2 := hk 2 (by decide)
  have k10 := hk 10 (by decide)
  have k11 := hk 11 (by decide)
  simp at k0 k1 k2 k10 k11
  clear hk
  have hu2 : RS h' u ul := hh ▸ hu.put (n := v.length) (.inl hne) hul.symm _
  by_cases hlt : k < ul.length
  · obtain ⟨x, hx1, hx2⟩ := hu2.rd hlt
    have hb2 : h' b = some (ints (N.take k ++ v.drop k)) := by rw [hh, hset_same]
    have hldo := ld_ints_at hb2 (k := k) (by rw [tk_len (by omega) (by omega)]; omega)
    rw [tk_get (by omega), if_neg (by omega)] at hldo
    have hst := fun R => sr_ints (R := R) (v := N.getD k 0) hb2 (k := k) (by rw [tk_len (by omega) (by omega)]; omega)
    rw [tk_set (by omega) (by omega)] at hst
    have hts := tk_set (a := N) (b := v) (j := k) (by omega) (by omega)
    have hnk := hNg k (by omega)
    have u1 : IntKind.i64.wrap ((k : Int) + 1) = k + 1 := w64 _ (by omega)
    have hkv : k < v.length := by omega
    have hkN : (N.take k ++ v.drop k).getD k 0 = v.getD k 0 := by rw [tk_get (by omega), if_neg (by omega)]
    generalize ul.getD k 0 = y at *
    generalize v.getD k 0 = z at *
    by_cases hy : y = 0
    · rw [if_neg (by simpa using hy)] at hnk
      have hsame : N.take (k + 1) ++ v.drop (k + 1) = N.take k ++ v.drop k := by
        rw [← hts, hnk]
        exact set_getD hkN
      rw [hsame]
      generalize N.getD k 0 = nk at *
      simp [k10, k11, k12, hlt, hx1, hx2, hy, u1]
      exact hh
    · rw [if_pos hy] at hnk
      rw [hnk] at hst
      generalize N.getD k 0 = nk at *
      simp [k0, k1, k2, k10, k11, k12, hlt, hx1, hx2, hy, hkv, hldo]
      refine (s_Mul r a y).call ?_
      simp
      refine (s_Add r z _).call ?_
      simp [k12, u1, hst, hlt, hkv]
      rw [hh, hset_hset]
  · have : k = ul.length := by omega
    subst this
    rw [List.take_of_length_le (by omega), List.drop_eq_nil_of_le (by omega), List.append_nil] at hh
    simp [k11, k12]
    exact hh
end Go.AM.Ytmihmgnjnedfcaa
end

section
/- Contracts of functions: combinations of rows, equal rows. -/
set_option maxRecDepth 100000
set_option linter.unusedSimpArgs false
set_option linter.unusedVariables false
namespace Go.AM.Ytmihmgnjnedfcaa
open Go Go.AM
attribute [local simp ↓] awp_seq awp_reg awp_skip awp_cond' awp_block awp_exit awp_ret awp_fz thenW_normal thenW_exit thenW_ret inBlk_normal inBlk_exit inBlk_ret aops_cons' contA_ap aops_nil e_mv e_guard' e_pick' e_ld' e_app e_cpy e_st' e_call callW_f updO_some updO_none e_bin' e_isnil' e_fadr' e_iadr' e_iarr' e_len' e_build' e_mkf' e_nc' e_not' e_neg' e_cvt' e_slc' e_fld' e_ext' e_min' e_eqs' e_new e_box e_mkl e_mks
attribute [local simp] upd_apply ev_t ev_k ev_f binA_add binA_sub binA_mul binA_quo binA_rem binA_eql binA_neq binA_lss binA_leq binA_gtr binA_geq det mem frame0 keeps_nil iadrA_sl fadrA_ref fadrA_fp ldv_agg ldv_one cells_base hset_same hset_hset lenA_fs lenA_sl lenA_nils zeros_ints ints_length one_base one_nilp one_nils one_ref one_sl one_fp one_fs one_fn gl_one resA resOf bound natOf afill splice AV.cells cells_agg bindR_some condR_true condR_false guardR_tup guardR_true guardR_true' guardR_false guardR_false' allocW_some pickA_true pickA_false
open Go.FM

/-- A frozen matrix. -/
def ML (v : AV) (L : List (List Int)) : Prop := ∃ cells, SV 1 v L.length cells ∧ ∀ i, i < L.length → IL (cells.getD i .nils) (L.getD i [])
theorem ML.len {v : AV} {L : List (List Int)} (hv : ML v L) : lenA v = some L.length := by
  obtain ⟨c, h1, _⟩ := hv; exact h1.len
theorem ML.one {v : AV} {L : List (List Int)} (hv : ML v L) : AM.one v = true := by
  obtain ⟨c, h1, _⟩ := hv; exact h1.one
theorem ML.rd {v : AV} {L : List (List Int)} (hv : ML v L) {i : Nat} (hi : i < L.length) : ∃ x y, iadrA v (I i) 1 = some x ∧ (∀ h, cellsAt h x 1 = some [y]) ∧ IL y (L.getD i []) := by
  obtain ⟨c, h1, h2⟩ := hv
  have hc := h1.1
  refine ⟨.fp (c.drop i), c.getD i .nils, ?_, fun h => ?_, h2 i hi⟩
  · have := h1.iadr (i := i) ⟨by omega, by omega⟩
    simpa using this
  · exact cellsAt_fp1 (by omega)

/-- A value in the memory h, which stays as it is. -/
def PureH (P : Program) (f : FuncId) (avs : List AV) (h : Hp) (r : AV) : Prop := Spec P f avs h (fun v h' => v = r ∧ h' = h)
theorem PureH.call {P : Program} {h : Hp} {m : Nat} {i : FuncId} {avs : List AV} {r : AV} (p : PureH P i avs h r) {R : AV → Hp → Prop} (hR : R r h) : CallP P m i avs h R := by
  unfold CallP
  split
  · exact p.mono fun v h' ⟨h1, h2⟩ => by subst h1 h2; exact hR
  · exact ⟨r, p, hR⟩
  · exact p.mono fun v h' ⟨h1, h2⟩ => by subst h1 h2; exact ⟨fun b cs hb => hb, hR⟩
theorem pureH_of {P : Program} {md : FuncId → Nat} {f : FuncId} {n N : Nat} {sc : SC} {res : List SR} (hc : cfun P md f = some ⟨n, N, sc.erase, res⟩) {avs : List AV} (hn : avs.length = n) {r : AV} {h : Hp}
    (hK : awp P sc (fun e fr' h' => (e = .normal ∨ e = .ret) ∧ ∃ v, resA fr' h' res = some v ∧ RetP h r v h') (frame0 avs) h) : PureH P f avs h r :=
  Spec.fz ((spec_of hc hn hK).mono fun v h' ⟨v2, h1, h2, h3⟩ => ⟨h, v2, h1, h2, h3, rfl⟩)

/-- The combination of the first k rows. -/
def combK (D : Ds) (x : List Int) (L : List (List Int)) (n : Nat) : Nat → List Int
  | 0 => List.replicate n 0
  | k + 1 => if x.getD k 0 ≠ 0 then addV D (combK D x L n k) (x.getD k 0) (L.getD k []) else combK D x L n k
theorem combK_len (D : Ds) (x : List Int) (L : List (List Int)) (n : Nat) : ∀ k, (combK D x L n k).length = n
  | 0 => by simp [combK]
  | k + 1 => by
    simp only [combK]
    split
    · rw [addV_len, combK_len D x L n k]
    · exact combK_len D x L n k

theorem s_vec {D : Ds} (r : Fd D) {xv rv : AV} {x : List Int} {L : List (List Int)} (hx : IL xv x) (hr : ML rv L) (hxl : x.length < 4611686018427387904) (hxL : x.length ≤ L.length) {n : Nat} (hn : n ≤ 4294967296) (hrow : ∀ i, i < L.length → (L.getD i []).length = n) :
    Pure prog n_matrix_vec [.fp (gfC D), xv, rv, I n] (.fs n (ints (combK D x L n x.length))) := by
  refine pure_of cf_matrix_vec rfl fun h => ?_
  have hn' : (n : Int) ≤ 4294967296 := by omega
  simp [hn', hx.len]
  intro b9 hb9
  refine awp_for x.length (fun k fr' h' => Kp h h' ∧ h' b9 = some (ints (combK D x L n k)) ∧ fr' 16 = I k) ⟨(Kp.refl h).new hb9 _, by simp [hset_same, combK], by simp⟩ ?_
  intro k fr' h' hkn hk ⟨hkp, hb, k16⟩
  have k0 := hk 0 (by decide)
  have k2 := hk 2 (by decide)
  have k9 := hk 9 (by decide)
  have k14 := hk 14 (by decide)
  have k15 := hk 15 (by decide)
  simp at k0 k2 k9 k14 k15
  clear hk
  by_cases hlt : k < x.length
  · have hia := hx.iadr (i := k) ⟨by omega, by omega⟩
    simp at hia
    have hld := fun h' => ld_ints (h := h') hlt
    obtain ⟨pa, row, hpa, hpl, hrl⟩ := hr.rd (i := k) (by omega)
    have hcl := combK_len D x L n k
    have hrk := hrow k (by omega)
    have hs : combK D x L n (k + 1) = if x.getD k 0 ≠ 0 then addV D (combK D x L n k) (x.getD k 0) (L.getD k []) else combK D x L n k := rfl
    rw [hs]
    clear hs
    generalize combK D x L n k = cur at *
    have u1 : IntKind.i64.wrap ((k : Int) + 1) = k + 1 := w64 _ (by omega)
    generalize x.getD k 0 = y at *
    by_cases hy : y = 0
    · simp [k14, k15, k16, hlt, hia, hld, hy, u1]
      exact ⟨hkp, hb⟩
    · have hadd := s_add r hb y (u := row) (ul := L.getD k []) (.of hrl) (by omega) (fun hc => by
        rcases hrl.2 with ⟨h1, _⟩ | h1 <;> rw [h1] at hc <;> cases hc) (by omega)
      rw [hcl] at hadd
      simp [k0, k2, k9, k14, k15, k16, hlt, hia, hld, hy, hpa, hpl]
      refine call0 hadd fun v h2 ⟨hv, hh⟩ => ?_
      subst hv hh
      simp [k16, u1, hlt]
      exact hkp.set hb9 _
  · have : k = x.length := by omega
    subst this
    simp [k9, k15, k16]
    exact ret_blk hb hb9 hkp (by rw [ints_length, combK_len]; omega) rfl

theorem RS.rdk {h : Hp} {v : AV} {l : List Int} (hv : RS h v l) {i : Nat} (hi : i < l.length) : ∃ x, iadrA v (I i) 1 = some x ∧ ∀ h', Kp h h' → cellsAt h' x 1 = some [I (l.getD i 0)] := by
  rcases hv with hv | ⟨b, rfl, h2⟩
  · exact ⟨_, hv.iadr (i := i) ⟨by omega, by omega⟩, fun h' _ => by simp only [Int.toNat_natCast]; exact ld_ints hi⟩
  · refine ⟨.ref b i, ?_, fun h' k => ld_ints_at (k b _ h2) hi⟩
    rw [iadrA_sl, if_pos ⟨by omega, by omega⟩]; simp

theorem s_AddTo {D : Ds} (r : Fd D) {mv : AV} (hmv : IL mv D.mo) {h : Hp} {v u : AV} {vl ul : List Int} (hv : RS h v vl) (hu : RS h u ul) (hul : vl.length ≤ ul.length) (hvl : vl.length ≤ 4294967296) (a : Int) :
    PureH prog n_ref09_AddTo [.agg [I D.p, I D.m, mv], v, I a, u] h (.fs vl.length (ints (addV D vl a ul))) := by
  refine pureH_of cf_ref09_AddTo rfl ?_
  have hone := hmv.one
  have hvl' : (vl.length : Int) ≤ 4294967296 := by omega
  have hN := addV_len D vl a ul
  have hNg := fun i hi => addV_get (D := D) (v := vl) (a := a) (u := ul) (i := i) hi
  generalize addV D vl a ul = N at *
  simp [hone]
  intro b4 hb4
  obtain ⟨l0, l1, l2, l3⟩ := ld3_at (hset_same h b4 [I D.p, I D.m, mv])
  have hkg : Kp h (hset h b4 [I D.p, I D.m, mv]) := (Kp.refl h).new hb4 _
  have hg4 : (hset h b4 [I D.p, I D.m, mv]) b4 = some [I D.p, I D.m, mv] := hset_same ..
  have hv2 := hv.mono hkg
  have hu2 := hu.mono hkg
  generalize hset h b4 [I D.p, I D.m, mv] = g at *
  simp [hv.len, hvl']
  intro b9 hb9
  refine awp_for vl.length (fun k fr' h' => Kp g h' ∧ h' b9 = some (ints (N.take k ++ (List.replicate vl.length 0).drop k)) ∧ fr' 10 = I k) ⟨(Kp.refl g).new hb9 _, by simp [hset_same], by simp⟩ ?_
  intro k fr' h' hkn hk ⟨hkp, hb, k10⟩
  have k1 := hk 1 (by decide)
  have k2 := hk 2 (by decide)
  have k3 := hk 3 (by decide)
  have k4 := hk 4 (by decide)
  have k9 := hk 9 (by decide)
  simp at k1 k2 k3 k4 k9
  clear hk
  have hzl : (List.replicate vl.length (0 : Int)).length = vl.length := by simp
  generalize List.replicate vl.length (0 : Int) = Z at *
  by_cases hlt : k < vl.length
  · obtain ⟨xv, hxv1, hxv2⟩ := hv2.rdk hlt
    obtain ⟨xu, hxu1, hxu2⟩ := hu2.rdk (show k < ul.length by omega)
    have hpl : (N.take k ++ Z.drop k).length = vl.length := by rw [tk_len (by omega) (by omega)]; omega
    have hst := fun R => sr_ints (R := R) (v := vl.getD k 0) hb (k := k) (by omega)
    have hk2 : Kp g (hset h' b9 (ints ((N.take k ++ Z.drop k).set k (vl.getD k 0)))) := hkp.set hb9 _
    have hb2 : (hset h' b9 (ints ((N.take k ++ Z.drop k).set k (vl.getD k 0)))) b9 = some (ints ((N.take k ++ Z.drop k).set k (vl.getD k 0))) := hset_same ..
    have hst2 := fun R => sr_ints (R := R) (v := N.getD k 0) hb2 (k := k) (by simp only [List.length_set]; omega)
    rw [List.set_set, hset_hset, tk_set (by omega) (by omega)] at hst2
    have hts := tk_set (a := N) (b := Z) (j := k) (by omega) (by omega)
    obtain ⟨_, _, _, m3⟩ := ld3_at (hk2 b4 _ hg4)
    have hnk := hNg k hlt
    have hr1 := hxv2 _ hkp
    have hr2 := hxv2 _ hk2
    have hr3 := hxu2 _ hk2
    have u1 : IntKind.i64.wrap ((k : Int) + 1) = k + 1 := w64 _ (by omega)
    generalize ul.getD k 0 = y at *
    generalize vl.getD k 0 = z at *
    by_cases hy : y = 0
    · rw [if_neg (by simpa using hy)] at hnk
      rw [hnk] at hts
      rw [hts] at hst hk2 hb2 hr2 hr3 m3
      simp [k1, k2, k3, k4, k9, k10, hv.len, hlt, hxv1, hxu1, hr1, hst, hr2, hr3, hy, u1]
      exact hk2
    · rw [if_pos hy] at hnk
      rw [hnk] at hst2
      have hk3 : Kp g (hset h' b9 (ints (N.take (k + 1) ++ Z.drop (k + 1)))) := hkp.set hb9 _
      generalize (N.take k ++ Z.drop k).set k z = mid at *
      simp [k1, k2, k3, k4, k9, k10, hv.len, hlt, hxv1, hxu1, hr1, hst, hr2, hr3, hy, m3]
      refine (s_refMul r.toRg hmv a y).call ?_
      simp
      refine (s_refAdd r.toRg hmv z _).call ?_
      simp [k10, u1, hst2, hlt]
      exact hk3
  · have : k = vl.length := by omega
    subst this
    simp [k1, k9, k10, hv.len]
    rw [List.take_of_length_le (by omega), List.drop_eq_nil_of_le (by omega), List.append_nil] at hb
    exact ret_blk hb (hkg.no hb9) (hkg.trans hkp) (by rw [ints_length]; omega) rfl

theorem s_Combine {D : Ds} (r : Fd D) {mv : AV} (hmv : IL mv D.mo) {xv rv : AV} {x : List Int} {L : List (List Int)} (hx : IL xv x) (hr : ML rv L) (hxl : x.length < 4611686018427387904) (hLl : L.length < 4611686018427387904) {n : Nat} (hn : n ≤ 4294967296) (hrow : ∀ i, i < L.length → n ≤ (L.getD i []).length) :
    Pure prog n_ref09_Combine [.agg [I D.p, I D.m, mv], xv, rv, I n] (.fs n (ints (combK D x L n (min L.length x.length)))) := by
  refine pure_of cf_ref09_Combine rfl fun h => ?_
  have hone := hmv.one
  have hn' : (n : Int) ≤ 4294967296 := by omega
  simp [hone]
  intro b4 hb4
  obtain ⟨l0, l1, l2, l3⟩ := ld3_at (hset_same h b4 [I D.p, I D.m, mv])
  have hkg : Kp h (hset h b4 [I D.p, I D.m, mv]) := (Kp.refl h).new hb4 _
  have hg4 : (hset h b4 [I D.p, I D.m, mv]) b4 = some [I D.p, I D.m, mv] := hset_same ..
  generalize hset h b4 [I D.p, I D.m, mv] = g at *
  simp [hn']
  intro b9 hb9
  generalize hmm : min L.length x.length = mm at *
  have hkg9 : Kp g (hset g b9 (ints (List.replicate n 0))) := (Kp.refl g).new hb9 _
  have hg9 : (hset g b9 (ints (List.replicate n 0))) b9 = some (ints (List.replicate n 0)) := hset_same ..
  generalize hset g b9 (ints (List.replicate n 0)) = g2 at *
  refine awp_for mm (fun k fr' h' => h' = g2 ∧ fr' 10 = I k ∧ (∃ v, fr' 9 = v ∧ ((v = .sl b9 0 n 1 ∧ combK D x L n k = List.replicate n 0) ∨ v = .fs n (ints (combK D x L n k))))) ⟨rfl, by simp, ⟨.sl b9 0 n 1, by simp, .inl ⟨rfl, rfl⟩⟩⟩ ?_
  intro k fr' h' hkn hk ⟨hh, k10, ⟨v, k9, hvv⟩⟩
  subst hh
  have k1 := hk 1 (by decide)
  have k2 := hk 2 (by decide)
  have k4 := hk 4 (by decide)
  simp at k1 k2 k4
  clear hk
  have hcl := combK_len D x L n k
  have hRS : RS h' v (combK D x L n k) := by
    rcases hvv with ⟨rfl, h2⟩ | rfl
    · rw [h2]; exact .inr ⟨b9, by simp, hg9⟩
    · refine .inl ?_
      have := IL.fs (combK D x L n k)
      rwa [hcl] at this
  by_cases hlt : k < mm
  · have c1 : k < L.length := by omega
    have c2 : k < x.length := by omega
    have hia := hx.iadr (i := k) ⟨by omega, by omega⟩
    simp at hia
    have hld := fun h' => ld_ints (h := h') c2
    obtain ⟨pa, row, hpa, hpl, hrl⟩ := hr.rd (i := k) c1
    have hrk := hrow k c1
    have hs : combK D x L n (k + 1) = if x.getD k 0 ≠ 0 then addV D (combK D x L n k) (x.getD k 0) (L.getD k []) else combK D x L n k := rfl
    rw [hs]
    clear hs
    generalize combK D x L n k = cur at *
    generalize L.getD k [] = rowl at *
    obtain ⟨_, _, _, m3⟩ := ld3_at (hkg9 b4 _ hg4)
    have u1 : IntKind.i64.wrap ((k : Int) + 1) = k + 1 := w64 _ (by omega)
    generalize x.getD k 0 = y at *
    by_cases hy : y = 0
    · simp [k1, k2, k10, k9, hr.len, hx.len, c1, c2, hia, hld, hy, u1, hlt]
      exact hvv
    · have hat := s_AddTo r hmv hRS (.of hrl) (by omega) (by omega) y
      rw [hcl] at hat
      simp [k1, k2, k4, k9, k10, hr.len, hx.len, c1, c2, hia, hld, hy, hpa, hpl, m3]
      refine hat.call ?_
      simp [k10, u1, hy, hlt]
  · have hke : k = mm := by omega
    subst hke
    have fin : RetP h (.fs n (ints (combK D x L n k))) v h' := by
      rcases hvv with ⟨rfl, h2⟩ | rfl
      · rw [h2]
        exact ret_blk hg9 (hkg.no hb9) (hkg.trans hkg9) (by simp [ints_length]) rfl
      · exact ⟨_, (hkg.trans hkg9).sub, .id _, rfl⟩
    by_cases c1 : k < L.length
    · have c2 : ¬ k < x.length := by omega
      simp [k1, k2, k9, k10, hr.len, hx.len, c1, c2]
      exact fin
    · simp [k2, k9, k10, hr.len, c1]
      exact fin

theorem s_SameInts {v w : AV} {a b : List Int} (hv : IL v a) (hw : IL w b) (hal : a.length < 4611686018427387904) : Pure prog n_ref09_SameInts [v, w] (B (decide (a = b))) := by
  refine pure_of cf_ref09_SameInts rfl fun h => ?_
  by_cases hl : a.length = b.length
  case neg =>
    have hl' : ¬ (a.length : Int) = b.length := by omega
    simp [hv.len, hw.len, hl, hl']
    rw [decide_eq_false fun hc => hl (by rw [hc])]
    exact RetP.same
  simp [hv.len, hw.len, hl]
  refine awp_for a.length (fun k fr' h' => h' = h ∧ fr' 5 = I k ∧ ∀ i, i < k → a.getD i 0 = b.getD i 0) ⟨rfl, by simp, fun i hi => by omega⟩ ?_
  intro k fr' h' hkn hk ⟨hh, k5, hx⟩
  subst hh
  have k0 := hk 0 (by decide)
  have k1 := hk 1 (by decide)
  simp at k0 k1
  clear hk
  by_cases hlt : k < a.length
  · have hlt2 : k < b.length := by omega
    have hia := hv.iadr (i := k) ⟨by omega, by omega⟩
    have hib := hw.iadr (i := k) ⟨by omega, by omega⟩
    simp at hia hib
    have hla := fun h' => ld_ints (h := h') hlt
    have hlb := fun h' => ld_ints (h := h') hlt2
    have u1 : IntKind.i64.wrap ((k : Int) + 1) = k + 1 := w64 _ (by omega)
    by_cases hc : a.getD k 0 = b.getD k 0
    · have hx2 : ∀ i, i < k + 1 → a.getD i 0 = b.getD i 0 := fun i hi => by
        by_cases hik : i = k
        · subst hik; exact hc
        · exact hx i (by omega)
      rw [hc] at hla
      generalize b.getD k 0 = y at *
      simp [k0, k1, k5, hv.len, hlt, hlt2, hia, hib, hla, hlb, u1]
      simpa using hx2
    · have hne : a ≠ b := fun h => hc (by rw [h])
      generalize a.getD k 0 = y at *
      generalize b.getD k 0 = z at *
      simp [k0, k1, k5, hv.len, hlt, hlt2, hia, hib, hla, hlb, hc]
      rw [decide_eq_false hne]
      exact RetP.same
  · have : k = a.length := by omega
    subst this
    simp [k0, k5, hv.len]
    have heq : a = b := List.ext_getElem hl fun i h1 h2 => by
      have := hx i h1
      simpa [List.getD, h1, h2] using this
    rw [decide_eq_true heq]
    exact RetP.same

theorem s_SameRows {v w : AV} {a b : List (List Int)} (hv : ML v a) (hw : ML w b) (hal : a.length < 4611686018427387904) (har : ∀ i, i < a.length → (a.getD i []).length < 4611686018427387904) : Pure prog n_ref09_SameRows [v, w] (B (decide (a = b))) := by
  refine pure_of cf_ref09_SameRows rfl fun h => ?_
  by_cases hl : a.length = b.length
  case neg =>
    have hl' : ¬ (a.length : Int) = b.length := by omega
    simp [hv.len, hw.len, hl, hl']
    rw [decide_eq_false fun hc => hl (by rw [hc])]
    exact RetP.same
  simp [hv.len, hw.len, hl]
  refine awp_for a.length (fun k fr' h' => h' = h ∧ fr' 5 = I k ∧ ∀ i, i < k → a.getD i [] = b.getD i []) ⟨rfl, by simp, fun i hi => by omega⟩ ?_
  intro k fr' h' hkn hk ⟨hh, k5, hx⟩
  subst hh
  have k0 := hk 0 (by decide)
  have k1 := hk 1 (by decide)
  simp at k0 k1
  clear hk
  by_cases hlt : k < a.length
  · have hlt2 : k < b.length := by omega
    obtain ⟨pa, ra, hpa1, hpa2, hra⟩ := hv.rd hlt
    obtain ⟨pb, rb, hpb1, hpb2, hrb⟩ := hw.rd hlt2
    have hsi := s_SameInts hra hrb (har k hlt)
    have u1 : IntKind.i64.wrap ((k : Int) + 1) = k + 1 := w64 _ (by omega)
    simp [k0, k1, k5, hv.len, hlt, hpa1, hpa2, hpb1, hpb2]
    refine hsi.call ?_
    by_cases hc : a.getD k [] = b.getD k []
    · have hx2 : ∀ i, i < k + 1 → a.getD i [] = b.getD i [] := fun i hi => by
        by_cases hik : i = k
        · subst hik; exact hc
        · exact hx i (by omega)
      rw [decide_eq_true hc]
      simp [k5, u1, hlt]
      simpa using hx2
    · rw [decide_eq_false hc]
      simp
      rw [decide_eq_false fun h => hc (by rw [h])]
      exact RetP.same
  · have : k = a.length := by omega
    subst this
    simp [k0, k5, hv.len]
    have heq : a = b := List.ext_getElem hl fun i h1 h2 => by
      have := hx i h1
      simpa [List.getD, h1, h2] using this
    rw [decide_eq_true heq]
    exact RetP.same
end Go.AM.Ytmihmgnjnedfcaa
end

section
/- Contracts of functions: the checks of matrices. -/
set_option maxRecDepth 100000
set_option linter.unusedSimpArgs false
set_option linter.unusedVariables false
namespace Go.AM.Ytmihmgnjnedfcaa
open Go Go.AM
attribute [local simp ↓] awp_seq awp_reg awp_skip awp_cond' awp_block awp_exit awp_ret awp_fz thenW_normal thenW_exit thenW_ret inBlk_normal inBlk_exit inBlk_ret aops_cons' contA_ap aops_nil e_mv e_guard' e_pick' e_ld' e_app e_cpy e_st' e_call callW_f updO_some updO_none e_bin' e_isnil' e_fadr' e_iadr' e_iarr' e_len' e_build' e_mkf' e_nc' e_not' e_neg' e_cvt' e_slc' e_fld' e_ext' e_min' e_eqs' e_new e_box e_mkl e_mks
attribute [local simp] upd_apply ev_t ev_k ev_f binA_add binA_sub binA_mul binA_quo binA_rem binA_eql binA_neq binA_lss binA_leq binA_gtr binA_geq det mem frame0 keeps_nil iadrA_sl fadrA_ref fadrA_fp ldv_agg ldv_one cells_base hset_same hset_hset lenA_fs lenA_sl lenA_nils zeros_ints ints_length one_base one_nilp one_nils one_ref one_sl one_fp one_fs one_fn gl_one resA resOf bound natOf afill splice AV.cells cells_agg bindR_some condR_true condR_false guardR_tup guardR_true guardR_true' guardR_false guardR_false' allocW_some pickA_true pickA_false
open Go.FM

theorem lq_fst {h : Hp} {b : Nat} {x y : AV} (hb : h b = some [x, y]) : cellsAt h (.ref b 0) 1 = some [x] := ld_one_at hb (by simp)
theorem lq_snd {h : Hp} {b : Nat} {x y : AV} (hb : h b = some [x, y]) : cellsAt h (.ref b 1) 1 = some [y] := ld_one_at hb (by simp)
theorem lq_both {h : Hp} {b : Nat} {x y : AV} (hb : h b = some [x, y]) : cellsAt h (.ref b 0) 2 = some [x, y] := ld_at hb (by simp)

open Classical in
noncomputable def entE (D : Ds) (l : List Int) : Int := if ∀ x ∈ l, D.R x then 0 else 2

theorem s_entries {D : Ds} (r : Fd D) {v : AV} {l : List Int} (hv : IL v l) (hl : l.length < 4611686018427387904) : Pure prog n_matrix_entries [.fp (gfC D), v] (I (entE D l)) := by
  classical
  refine pure_of cf_matrix_entries rfl fun h => ?_
  unfold entE
  simp [hv.len]
  refine awp_for l.length (fun k fr' h' => h' = h ∧ fr' 9 = I k ∧ ∀ x ∈ l.take k, D.R x) ⟨rfl, by simp, by simp⟩ ?_
  intro k fr' h' hkn hk ⟨hh, k9, hx⟩
  subst hh
  have k0 := hk 0 (by decide)
  have k7 := hk 7 (by decide)
  have k8 := hk 8 (by decide)
  simp at k0 k7 k8
  clear hk
  by_cases hlt : k < l.length
  · have hia := hv.iadr (i := k) ⟨by omega, by omega⟩
    simp at hia
    have hld := fun h' => ld_ints (h := h') hlt
    have hmem : l.getD k 0 ∈ l := by simp only [List.getD, List.getElem?_eq_getElem hlt, Option.getD_some]; exact List.getElem_mem hlt
    have htk : l.take (k + 1) = l.take k ++ [l.getD k 0] := by rw [List.take_succ_eq_append_getElem hlt]; simp [List.getD, hlt]
    rw [htk]
    generalize l.getD k 0 = y at *
    have u1 : IntKind.i64.wrap ((k : Int) + 1) = k + 1 := w64 _ (by omega)
    simp [k0, k7, k8, k9, hlt, hia, hld]
    refine (s_Is r y).call ?_
    by_cases c : 0 ≤ y ∧ y < D.q
    · rw [decide_eq_true c]
      simp [k9, u1, hlt]
      intro x hxx
      rcases hxx with hxx | rfl
      · exact hx x hxx
      · exact c
    · rw [decide_eq_false c]
      simp
      rw [if_neg fun hc => c (hc y hmem)]
      exact RetP.same
  · have : k = l.length := by omega
    subst this
    rw [List.take_length] at hx
    simp [k8, k9]
    rw [if_pos hx]
    exact RetP.same

open Classical in
/-- The answer on a matrix. -/
noncomputable def chkE (D : Ds) (cols : Int) (L : List (List Int)) : Int :=
  if cols < 0 ∨ 256 < cols ∨ 256 < (L.length : Int) then 3 else if ¬ (∀ row ∈ L, (row.length : Int) = cols) then 3 else if ∀ row ∈ L, ∀ x ∈ row, D.R x then 0 else 2

theorem mem_getD {α : Type} {l : List α} {d : α} {k : Nat} (hk : k < l.length) : l.getD k d ∈ l := by
  simp only [List.getD, List.getElem?_eq_getElem hk, Option.getD_some]; exact List.getElem_mem hk
theorem take_getD {α : Type} {l : List α} {d : α} {k : Nat} (hk : k < l.length) : l.take (k + 1) = l.take k ++ [l.getD k d] := by
  rw [List.take_succ_eq_append_getElem hk]; simp [List.getD, hk]

set_option maxHeartbeats 1000000 in
theorem s_check {D : Ds} (r : Fd D) {rv : AV} {L : List (List Int)} (hr : ML rv L) (hLl : L.length < 4611686018427387904) (hrl : ∀ row ∈ L, row.length < 4611686018427387904) (cols : Int) : Pure prog n_matrix_check [.fp (gfC D), .agg [I cols, rv]] (I (chkE D cols L)) := by
  classical
  refine pure_of cf_matrix_check rfl fun h => ?_
  have hone := hr.one
  simp [hone]
  intro b3 hb3
  have lf := lq_fst (hset_same h b3 [I cols, rv])
  have ls := lq_snd (hset_same h b3 [I cols, rv])
  have hkg : Kp h (hset h b3 [I cols, rv]) := (Kp.refl h).new hb3 _
  generalize hset h b3 [I cols, rv] = g at *
  have fin : ∀ e, chkE D cols L = e → RetP h (I (chkE D cols L)) (I e) g := fun e he => he ▸ ⟨_, hkg.sub, .id _, rfl⟩
  by_cases c1 : cols < 0
  · simp [lf, c1]
    exact fin 3 (by unfold chkE; rw [if_pos (.inl c1)])
  by_cases c2 : 256 < cols
  · simp [lf, c1, c2]
    exact fin 3 (by unfold chkE; rw [if_pos (.inr (.inl c2))])
  by_cases c3 : 256 < (L.length : Int)
  · simp [lf, ls, c1, c2, hr.len, c3]
    exact fin 3 (by unfold chkE; rw [if_pos (.inr (.inr c3))])
  have E1 : chkE D cols L = if ¬ (∀ row ∈ L, (row.length : Int) = cols) then 3 else if ∀ row ∈ L, ∀ x ∈ row, D.R x then 0 else 2 := by unfold chkE; rw [if_neg (by omega)]
  simp [lf, ls, c1, c2, hr.len, c3]
  refine awp_for L.length (fun k fr' h' => h' = g ∧ fr' 27 = I k ∧ ∀ row ∈ L.take k, (row.length : Int) = cols) ⟨rfl, by simp, by simp⟩ ?_
  intro k fr' h' hkn hk ⟨hh, k27, hx⟩
  subst hh
  have k0 := hk 0 (by decide)
  have k3 := hk 3 (by decide)
  have k25 := hk 25 (by decide)
  have k26 := hk 26 (by decide)
  simp at k0 k3 k25 k26
  clear hk
  by_cases hlt : k < L.length
  · obtain ⟨pa, row, hpa, hpl, hrow⟩ := hr.rd hlt
    have hm := mem_getD (d := []) hlt
    rw [take_getD (d := []) hlt]
    generalize L.getD k [] = rl at *
    have u1 : IntKind.i64.wrap ((k : Int) + 1) = k + 1 := w64 _ (by omega)
    by_cases hc : (rl.length : Int) = cols
    · simp [k3, k25, k26, k27, hlt, hpa, hpl, hrow.len, lf, hc, u1]
      intro x hxx
      rcases hxx with hxx | rfl
      · exact hx x hxx
      · exact hc
    · simp [k3, k25, k26, k27, hlt, hpa, hpl, hrow.len, lf, hc]
      exact fin 3 (by rw [E1, if_pos fun hall => hc (hall rl hm)])
  have : k = L.length := by omega
  subst this
  rw [List.take_length] at hx
  have E2 : chkE D cols L = if ∀ row ∈ L, ∀ x ∈ row, D.R x then 0 else 2 := by rw [E1, if_neg (by simpa using hx)]
  simp [k3, k26, k27, ls, hr.len]
  refine awp_for L.length (fun k fr2 h2 => h2 = h' ∧ fr2 40 = I k ∧ ∀ row ∈ L.take k, ∀ x ∈ row, D.R x) ⟨rfl, by simp, by simp⟩ ?_
  intro k fr2 h2 hkn hk2 ⟨hh, k40, hx2⟩
  subst hh
  have m0 := hk2 0 (by decide)
  have m38 := hk2 38 (by decide)
  have m39 := hk2 39 (by decide)
  simp [k0] at m0 m38 m39
  clear hk2
  by_cases hlt : k < L.length
  · obtain ⟨pa, row, hpa, hpl, hrow⟩ := hr.rd hlt
    have hm := mem_getD (d := []) hlt
    rw [take_getD (d := []) hlt]
    generalize L.getD k [] = rl at *
    have hen := s_entries r hrow (hrl rl hm)
    have u1 : IntKind.i64.wrap ((k : Int) + 1) = k + 1 := w64 _ (by omega)
    simp [m0, m38, m39, k40, hlt, hpa, hpl]
    refine hen.call ?_
    by_cases hc : ∀ x ∈ rl, D.R x
    · have he : entE D rl = 0 := by unfold entE; rw [if_pos hc]
      rw [he]
      simp [k40, u1, hlt]
      intro x hxx
      rcases hxx with hxx | rfl
      · exact hx2 x hxx
      · exact hc
    · have he : entE D rl = 2 := by unfold entE; rw [if_neg hc]
      rw [he]
      simp
      exact fin 2 (by rw [E2, if_neg fun hall => hc (hall rl hm)])
  · have : k = L.length := by omega
    subst this
    rw [List.take_length] at hx2
    simp [m39, k40]
    exact fin 0 (by rw [E2, if_pos hx2])

/-- Matrices side by side, in cells. -/
def MSC (cells : List AV) (M : List (Int × List (List Int))) : Prop := ∀ i, i < M.length → cells.getD (i * 2) .nils = I (M.getD i default).1 ∧ ML (cells.getD (i * 2 + 1) .nils) (M.getD i default).2

/-- Sizes that a machine can have. -/
def MSm (L : List (List Int)) : Prop := L.length < 4611686018427387904 ∧ ∀ row ∈ L, row.length < 4611686018427387904

/-- The first error. -/
noncomputable def chkAll (D : Ds) : List (Int × List (List Int)) → Int
  | [] => 0
  | m :: r => if chkE D m.1 m.2 ≠ 0 then chkE D m.1 m.2 else chkAll D r
theorem chkAll_append {D : Ds} : ∀ {a b : List (Int × List (List Int))}, chkAll D a = 0 → chkAll D (a ++ b) = chkAll D b
  | [], b, _ => rfl
  | m :: a, b, h => by
    simp only [chkAll] at h
    simp only [List.cons_append, chkAll]
    by_cases hm : chkE D m.1 m.2 = 0
    · rw [if_neg (by simpa using hm)] at h ⊢
      exact chkAll_append h
    · rw [if_pos hm] at h; exact (hm h).elim

open Classical in
noncomputable def openE (p m : Int) (mo : List Int) (M : List (Int × List (List Int))) : Int := if FieldP p m mo then chkAll (mkD p m mo) M else 1
noncomputable def openR (p m : Int) (mo : List Int) (M : List (Int × List (List Int))) : AV := if openE p m mo M = 0 then .tup [.fp (gfC (mkD p m mo)), I 0] else .tup [.nilp, I (openE p m mo M)]

theorem newR_pos' {p m : Int} {mo : List Int} (h : FieldP p m mo) : newR p m mo = .tup [.fp (gfC (mkD p m mo)), I 0] := by
  unfold newR; rw [if_pos h]

set_option maxHeartbeats 1000000 in
theorem s_open {p m : Int} {mv v : AV} {mo : List Int} (hmv : IL mv mo) (hml : mo.length < 4611686018427387904) {cells : List AV} {M : List (Int × List (List Int))} (hMl : M.length < 4611686018427387904) (hM : MSC cells M) (hMs : ∀ i, i < M.length → MSm (M.getD i default).2)
    {h : Hp} (hv : SV 2 v M.length cells ∨ ∃ b, v = .sl b 0 M.length 2 ∧ h b = some cells ∧ cells.length = M.length * 2) :
    PureH prog n_matrix_open [.agg [I p, I m, mv], v] h (openR p m mo M) := by
  classical
  refine pureH_of cf_matrix_open rfl ?_
  have hone := hmv.one
  simp [hone]
  intro b2 hb2
  obtain ⟨l0, l1, l2, l3⟩ := ld3_at (hset_same h b2 [I p, I m, mv])
  have hkg : Kp h (hset h b2 [I p, I m, mv]) := (Kp.refl h).new hb2 _
  generalize hset h b2 [I p, I m, mv] = g at *
  simp [l3]
  refine (s_New p m hmv hml).call ?_
  have hlen : lenA v = some M.length := by
    rcases hv with hv | ⟨b, rfl, _, _⟩
    · exact hv.len
    · rfl
  have hrd : ∀ i, i < M.length → ∃ x, iadrA v (I i) 2 = some x ∧ ∀ h', Kp g h' → cellsAt h' x 2 = some [cells.getD (i * 2) .nils, cells.getD (i * 2 + 1) .nils] := by
    intro i hi
    rcases hv with hv | ⟨b, rfl, hb, hcl⟩
    · have hcl := hv.1
      refine ⟨_, hv.iadr (i := i) ⟨by omega, by omega⟩, fun h' _ => ?_⟩
      simp only [Int.toNat_natCast]
      rw [cellsAt_fpd (by omega), take2 (by omega)]
    · refine ⟨.ref b (0 + i * 2), ?_, fun h' k => ?_⟩
      · rw [iadrA_sl, if_pos ⟨by omega, by omega⟩]; simp
      · rw [ld_at (hkg.trans k b _ hb) (by omega), Nat.zero_add, take2 (by omega)]
  by_cases hf : FieldP p m mo
  case neg =>
    unfold newR openR openE
    rw [if_neg hf, if_neg hf]
    simp
    exact ⟨_, hkg.sub, .id _, rfl⟩
  rw [newR_pos' hf]
  have r := hf.fd
  have hE : openE p m mo M = chkAll (mkD p m mo) M := by unfold openE; rw [if_pos hf]
  unfold openR
  rw [hE]
  generalize mkD p m mo = D at *
  simp [hlen]
  refine awp_for M.length (fun k fr' h' => Kp g h' ∧ fr' 20 = I k ∧ chkAll D (M.take k) = 0) ⟨Kp.refl g, by simp, by simp [chkAll]⟩ ?_
  intro k fr' h' hkn hk ⟨hkp, k20, hx⟩
  have k6 := hk 6 (by decide)
  have k18 := hk 18 (by decide)
  have k19 := hk 19 (by decide)
  simp at k6 k18 k19
  clear hk
  by_cases hlt : k < M.length
  · obtain ⟨x, hx1, hx2⟩ := hrd k hlt
    obtain ⟨e1, e2⟩ := hM k hlt
    have hsm := hMs k hlt
    have htk := take_getD (d := default) hlt
    have hsp : M = M.take k ++ M.getD k default :: M.drop (k + 1) := by
      have : M.getD k default = M[k] := by simp [List.getD, hlt]
      rw [this, ← List.drop_eq_getElem_cons hlt, List.take_append_drop]
    have hx3 := hx2 _ hkp
    rw [htk]
    generalize M.getD k default = P at *
    obtain ⟨cols, L⟩ := P
    simp only at e1 e2 hsm
    rw [e1] at hx3
    generalize cells.getD (k * 2 + 1) .nils = rv at *
    have hro := e2.one
    have hck := s_check r e2 hsm.1 hsm.2 cols
    have u1 : IntKind.i64.wrap ((k : Int) + 1) = k + 1 := w64 _ (by omega)
    simp [k18, k19, k20, hlt, hx1, hx3]
    intro b9 hb9
    have sra := fun R => sr_all (R := R) (cs' := [I cols, rv]) (hset_same h' b9 [I 0, .nils]) (n := 2) rfl rfl (by
      show (one (I cols) && (one rv && true)) = true
      rw [hro]; rfl)
    have hk9 : Kp g (hset h' b9 [I cols, rv]) := hkp.new hb9 _
    have lb := lq_both (hset_same h' b9 [I cols, rv])
    simp [sra, k6, lb]
    refine hck.call ?_
    by_cases hc : chkE D cols L = 0
    · have hnx : chkAll D (M.take k ++ [(cols, L)]) = 0 := by rw [chkAll_append hx]; simp [chkAll, hc]
      rw [hc]
      simp [k20, u1, hlt]
      exact ⟨hk9, hnx⟩
    · have hall : chkAll D M = chkE D cols L := by
        rw [hsp, chkAll_append hx]; simp [chkAll, hc]
      simp [hc]
      rw [hall, if_neg hc]
      exact ⟨_, (hkg.trans hk9).sub, .id _, rfl⟩
  · have : k = M.length := by omega
    subst this
    rw [List.take_length] at hx
    simp [k6, k19, k20]
    rw [hx, if_pos rfl]
    exact ⟨_, (hkg.trans hkp).sub, .id _, rfl⟩
end Go.AM.Ytmihmgnjnedfcaa
end

section
/- Live matrices; contracts of functions: square, symmetric. -/
set_option maxRecDepth 100000
set_option linter.unusedSimpArgs false
set_option linter.unusedVariables false
namespace Go.AM.Ytmihmgnjnedfcaa
open Go Go.AM
attribute [local simp ↓] awp_seq awp_reg awp_skip awp_cond' awp_block awp_exit awp_ret awp_fz thenW_normal thenW_exit thenW_ret inBlk_normal inBlk_exit inBlk_ret aops_cons' contA_ap aops_nil e_mv e_guard' e_pick' e_ld' e_app e_cpy e_st' e_call callW_f updO_some updO_none e_bin' e_isnil' e_fadr' e_iadr' e_iarr' e_len' e_build' e_mkf' e_nc' e_not' e_neg' e_cvt' e_slc' e_fld' e_ext' e_min' e_eqs' e_new e_box e_mkl e_mks
attribute [local simp] upd_apply ev_t ev_k ev_f binA_add binA_sub binA_mul binA_quo binA_rem binA_eql binA_neq binA_lss binA_leq binA_gtr binA_geq det mem frame0 keeps_nil iadrA_sl fadrA_ref fadrA_fp ldv_agg ldv_one cells_base hset_same hset_hset lenA_fs lenA_sl lenA_nils zeros_ints ints_length one_base one_nilp one_nils one_ref one_sl one_fp one_fs one_fn gl_one resA resOf bound natOf afill splice AV.cells cells_agg bindR_some condR_true condR_false guardR_tup guardR_true guardR_true' guardR_false guardR_false' allocW_some pickA_true pickA_false
open Go.FM

/-- A frozen row, a frozen list of rows. -/
def frow (l : List Int) : AV := .fs l.length (ints l)
def gml (L : List (List Int)) : AV := gl L.length (L.map frow)
theorem map_getD' {α β : Type} (f : α → β) (l : List α) (i : Nat) (d : α) (d' : β) (hi : i < l.length) : (l.map f).getD i d' = f (l.getD i d) := by
  simp [List.getD, hi]
theorem ML_fs (L : List (List Int)) : ML (.fs L.length (L.map frow)) L :=
  ⟨L.map frow, ⟨by simp, .inr rfl⟩, fun i hi => by rw [map_getD' frow L i [] .nils hi]; exact IL.fs _⟩
theorem ML_gml (L : List (List Int)) : ML (gml L) L := by
  unfold gml gl
  split
  · rename_i h
    have : L = [] := List.eq_nil_of_length_eq_zero h
    subst this
    exact ⟨[], ⟨rfl, .inl ⟨rfl, rfl⟩⟩, fun i hi => absurd hi (by simp)⟩
  · exact ML_fs L

/-- Live rows: the outer block o, the rows in the blocks bs. -/
structure LM (h : Hp) (o : Nat) (bs : Nat → Nat) (L : List (List Int)) : Prop where
  inj : ∀ i j, i < L.length → j < L.length → i ≠ j → bs i ≠ bs j
  ne : ∀ i, i < L.length → bs i ≠ o
  out : h o = some ((List.range L.length).map fun i => .sl (bs i) 0 (L.getD i []).length 1)
  row : ∀ i, i < L.length → h (bs i) = some (ints (L.getD i []))

/-- Nothing but these rows has changed. -/
def Only (bs : Nat → Nat) (n : Nat) (h h' : Hp) : Prop := ∀ b, (∀ i, i < n → b ≠ bs i) → h' b = h b
theorem Only.refl (bs : Nat → Nat) (n : Nat) (h : Hp) : Only bs n h h := fun _ _ => rfl
theorem Only.trans {bs : Nat → Nat} {n : Nat} {h h' h2 : Hp} (a : Only bs n h h') (b : Only bs n h' h2) : Only bs n h h2 := fun x hx => (b x hx).trans (a x hx)
theorem Only.put {bs : Nat → Nat} {n : Nat} {h h' : Hp} (a : Only bs n h h') {i : Nat} (hi : i < n) (xs : List AV) : Only bs n h (hset h' (bs i) xs) := fun x hx => by rw [hset_ne _ _ (hx i hi)]; exact a x hx
theorem Only.kp {bs : Nat → Nat} {n : Nat} {G h h' : Hp} (a : Only bs n h h') (k : Kp G h) (hg : ∀ i, i < n → G (bs i) = none) : Kp G h' := fun b xs hb => by
  rw [a b fun i hi he => by rw [he, hg i hi] at hb; cases hb]; exact k b xs hb

section
variable {G h : Hp} {o : Nat} {bs : Nat → Nat} {L : List (List Int)}
theorem LM.mono (m : LM h o bs L) {h' : Hp} (k : Kp h h') : LM h' o bs L := ⟨m.inj, m.ne, k _ _ m.out, fun i hi => k _ _ (m.row i hi)⟩
theorem LM.ld (m : LM h o bs L) {i : Nat} (hi : i < L.length) : cellsAt h (.ref o i) 1 = some [.sl (bs i) 0 (L.getD i []).length 1] := by
  rw [ld_one_at m.out (by simpa using hi)]
  simp [List.getD, hi]
theorem LM.put (m : LM h o bs L) {i : Nat} (hi : i < L.length) {l' : List Int} (hl : l'.length = (L.getD i []).length) : LM (hset h (bs i) (ints l')) o bs (L.set i l') := by
  refine ⟨fun a b ha hb => m.inj a b (by simpa using ha) (by simpa using hb), fun a ha => m.ne a (by simpa using ha), ?_, fun a ha => ?_⟩
  · rw [hset_ne _ _ (fun he => m.ne i hi he.symm), m.out, List.length_set]
    congr 1
    refine List.map_congr_left fun a ha => ?_
    by_cases hai : i = a
    · subst hai
      have : ((L.set i l').getD i []).length = (L.getD i []).length := by rw [← hl]; simp [List.getD, hi]
      rw [this]
    · have : ((L.set i l').getD a []) = (L.getD a []) := by simp [List.getD, List.getElem?_set, hai]
      rw [this]
  · have ha' : a < L.length := by simpa using ha
    by_cases hai : a = i
    · subst hai; rw [hset_same]; simp [List.getD, hi]
    · rw [hset_ne _ _ (m.inj a i ha' hi hai), m.row a ha']
      have : i ≠ a := fun he => hai he.symm
      simp [List.getD, List.getElem?_set, this]
/-- Frozen. -/
theorem LM.frz (m : LM h o bs L) (k : Kp G h) (ho : G o = none) (hg : ∀ i, i < L.length → G (bs i) = none) : Sub h G ∧ Frz h G (.sl o 0 L.length 1) (.fs L.length (L.map frow)) := by
  refine ⟨k.sub, .sl o 0 L.length 1 _ _ m.out ho (by simp) (by simp) fun j hj hk => ?_⟩
  have hj' : j < L.length := by simpa using hj
  have hf := Frz.slk (h := h) (h' := G) (len := (L.getD j []).length) (sz := 1) (m.row j hj') (hg j hj') (by rw [ints_length, Nat.mul_one])
  simp [List.getD, hj', Option.getD] at hf ⊢
  exact hf
end

/-- The matrix of a function of two indices. -/
def matF (r c : Nat) (e : Nat → Nat → Int) : List (List Int) := (List.range r).map fun i => (List.range c).map (e i)
theorem matF_len (r c : Nat) (e : Nat → Nat → Int) : (matF r c e).length = r := by simp [matF]
theorem matF_row {r c : Nat} {e : Nat → Nat → Int} {i : Nat} (hi : i < r) : (matF r c e).getD i [] = (List.range c).map (e i) := by
  simp [matF, List.getD, hi]
theorem matF_rlen {r c : Nat} {e : Nat → Nat → Int} {i : Nat} (hi : i < r) : ((matF r c e).getD i []).length = c := by rw [matF_row hi]; simp
theorem matF_congr {r c : Nat} {e e' : Nat → Nat → Int} (h : ∀ i j, i < r → j < c → e i j = e' i j) : matF r c e = matF r c e' := by
  unfold matF
  refine List.map_congr_left fun i hi => List.map_congr_left fun j hj => ?_
  exact h i j (by simpa using hi) (by simpa using hj)
theorem rmap_set {α : Type} {c : Nat} {f : Nat → α} {j : Nat} {y : α} : ((List.range c).map f).set j y = (List.range c).map fun a => if a = j then y else f a := by
  apply List.ext_getElem (by simp)
  intro a h1 h2
  simp only [List.length_set, List.length_map, List.length_range] at h1
  by_cases haj : j = a
  · subst haj; simp
  · have : ¬ a = j := fun he => haj he.symm
    simp [List.getElem_set, haj, this]
def upd2 (e : Nat → Nat → Int) (i j : Nat) (y : Int) : Nat → Nat → Int := fun a b => if a = i ∧ b = j then y else e a b
theorem matF_set {r c : Nat} {e : Nat → Nat → Int} {i j : Nat} {y : Int} (hi : i < r) : (matF r c e).set i (((matF r c e).getD i []).set j y) = matF r c (upd2 e i j y) := by
  rw [matF_row hi, rmap_set]
  unfold matF
  rw [rmap_set]
  refine List.map_congr_left fun a ha => ?_
  by_cases hai : a = i
  · subst hai
    rw [if_pos rfl]
    refine List.map_congr_left fun b hb => ?_
    simp [upd2]
  · rw [if_neg hai]
    refine List.map_congr_left fun b hb => ?_
    simp [upd2, hai]

theorem LM.setF {h : Hp} {o : Nat} {bs : Nat → Nat} {r c : Nat} {e : Nat → Nat → Int} (m : LM h o bs (matF r c e)) {i j : Nat} (hi : i < r) (hj : j < c) (y : Int) :
    ∃ l', LM (hset h (bs i) (ints l')) o bs (matF r c (upd2 e i j y)) ∧ ∀ R : AV → Hp → Prop, stR (.ref (bs i) j) (I y) 1 h R = R (.tup []) (hset h (bs i) (ints l')) := by
  refine ⟨((matF r c e).getD i []).set j y, ?_, fun R => sr_ints (m.row i (by rw [matF_len]; exact hi)) (by rw [matF_rlen hi]; exact hj)⟩
  rw [← matF_set hi]
  exact m.put (by rw [matF_len]; exact hi) (by simp)

/-- What square returns. -/
def LiveM (h : Hp) (L : List (List Int)) (v : AV) (h' : Hp) : Prop := Kp h h' ∧ ∃ o bs, v = .sl o 0 L.length 1 ∧ LM h' o bs L ∧ h o = none ∧ ∀ i, i < L.length → h (bs i) = none

def rowsC (bs : Nat → Nat) (L : List (List Int)) : List AV := (List.range L.length).map fun i => .sl (bs i) 0 (L.getD i []).length 1
theorem rowsC_len (bs : Nat → Nat) (L : List (List Int)) : (rowsC bs L).length = L.length := by simp [rowsC]
theorem getD_snoc {α : Type} {L : List α} {l d : α} (i : Nat) : (L ++ [l]).getD i d = if i < L.length then L.getD i d else if i = L.length then l else d := by
  simp only [List.getD, List.getElem?_append]
  by_cases h : i < L.length
  · simp [h]
  · rw [if_neg h, if_neg h]
    by_cases h2 : i = L.length
    · subst h2; simp
    · rw [if_neg h2, List.getElem?_eq_none (by simp; omega)]; rfl
theorem rowsC_snoc (bs : Nat → Nat) (L : List (List Int)) (l : List Int) (b : Nat) : rowsC (fun i => if i = L.length then b else bs i) (L ++ [l]) = rowsC bs L ++ [.sl b 0 l.length 1] := by
  unfold rowsC
  rw [List.length_append, List.length_singleton, List.range_succ, List.map_append]
  congr 1
  · refine List.map_congr_left fun i hi => ?_
    have hi' := List.mem_range.1 hi
    have hne : ¬ i = L.length := by omega
    simp only [if_neg hne, getD_snoc, if_pos hi']
  · have hne : ¬ L.length < L.length := by omega
    simp only [List.map_singleton, if_true, getD_snoc, if_neg hne]

/-- Rows of their own, in blocks that stand in F. -/
structure Rws (h F : Hp) (bs : Nat → Nat) (L : List (List Int)) : Prop where
  kp : Kp h F
  row : ∀ i, i < L.length → h (bs i) = none ∧ F (bs i) = some (ints (L.getD i []))
  inj : ∀ i j, i < L.length → j < L.length → i ≠ j → bs i ≠ bs j
/-- A list of rows that grows. -/
def GrM (h h' : Hp) (v : AV) (L : List (List Int)) : Prop := ∃ F bs, Own 1 F h' v L.length (rowsC bs L) ∧ Rws h F bs L
/-- Beside it a row, in the block b, that is being made. -/
def GrP (h h' : Hp) (v : AV) (L : List (List Int)) (b : Nat) (l : List Int) : Prop := ∃ F bs, Own 1 (hset F b (ints l)) h' v L.length (rowsC bs L) ∧ Rws h F bs L ∧ F b = none
section
variable {h h' : Hp} {v : AV} {L : List (List Int)} {b : Nat} {l : List Int}
theorem GrM.nils (h : Hp) : GrM h h .nils [] := ⟨h, fun _ => 0, Own.nils 1 h, Kp.refl h, fun i hi => absurd hi (by simp), fun i j hi => absurd hi (by simp)⟩
theorem GrM.kp (g : GrM h h' v L) : Kp h h' := by obtain ⟨F, bs, o, r⟩ := g; exact r.kp.trans o.kp
theorem GrP.kp (g : GrP h h' v L b l) : Kp h h' := by obtain ⟨F, bs, o, r, hb⟩ := g; exact (r.kp.new hb _).trans o.kp
theorem GrM.new (g : GrM h h' v L) (hb : h' b = none) (l : List Int) : GrP h (hset h' b (ints l)) v L b l := by
  obtain ⟨F, bs, o, r⟩ := g
  exact ⟨F, bs, o.add hb _, r, o.kp.no hb⟩
theorem GrP.ld (g : GrP h h' v L b l) : h' b = some (ints l) := by
  obtain ⟨F, bs, o, r, hb⟩ := g
  exact o.rd (hset_same ..)
theorem GrP.set (g : GrP h h' v L b l) (l' : List Int) : GrP h (hset h' b (ints l')) v L b l' := by
  obtain ⟨F, bs, o, r, hb⟩ := g
  refine ⟨F, bs, ?_, r, hb⟩
  have := o.put (b := b) (hset_same ..) (ints l')
  rwa [hset_hset] at this
theorem GrM.one (g : GrM h h' v L) : AM.one v = true := by obtain ⟨F, bs, o, r⟩ := g; exact o.one
theorem GrM.len (g : GrM h h' v L) : lenA v = some L.length := by obtain ⟨F, bs, o, r⟩ := g; exact o.len
theorem GrP.app (g : GrP h h' v L b l) {b2 : Nat} (hb2 : h' b2 = none) (hn : L.length + 1 ≤ 4294967296) {R : AV → Hp → Prop} (k : ∀ v' h3, GrM h h3 v' (L ++ [l]) → R v' h3) :
    appW v (.sl b2 0 1 1) 1 (hset h' b2 [.sl b 0 l.length 1]) R := by
  obtain ⟨F, bs, o, r, hb⟩ := g
  refine o.app1 (b := b2) (m := 1) hb2 (by simp) hn fun v' h3 o3 => k v' h3 ?_
  have hne : ∀ i, i < L.length → bs i ≠ b := fun i hi he => by have := (r.row i hi).2; rw [he, hb] at this; cases this
  refine ⟨hset F b (ints l), fun i => if i = L.length then b else bs i, ?_, r.kp.new hb _, fun i hi => ?_, fun i j hi hj hij => ?_⟩
  · rw [rowsC_snoc, List.length_append, List.length_singleton]; exact o3
  · rw [getD_snoc]
    rw [List.length_append, List.length_singleton] at hi
    by_cases hik : i = L.length
    · subst hik; simp only [if_pos]; exact ⟨r.kp.no hb, by rw [if_neg (by omega)]; exact hset_same ..⟩
    · have hi' : i < L.length := by omega
      simp only [if_neg hik, if_pos hi']
      exact ⟨(r.row i hi').1, by rw [hset_ne _ _ (hne i hi')]; exact (r.row i hi').2⟩
  · rw [List.length_append, List.length_singleton] at hi hj
    by_cases hik : i = L.length
    · have hj' : j < L.length := by omega
      simp only [if_pos hik, if_neg (show ¬ j = L.length by omega)]
      exact fun he => hne j hj' he.symm
    · have hi' : i < L.length := by omega
      by_cases hjk : j = L.length
      · simp only [if_pos hjk, if_neg hik]; exact hne i hi'
      · simp only [if_neg hik, if_neg hjk]; exact r.inj i j hi' (by omega) hij
theorem GrM.live (g : GrM h h' v L) (h0 : 0 < L.length) : LiveM h L v h' := by
  obtain ⟨F, bs, ⟨hk, hl, hh⟩, r⟩ := g
  rcases hh with ⟨h1, _⟩ | ⟨_, o, rfl, h1, h3⟩
  · omega
  · exact ⟨r.kp.trans hk, o, bs, rfl, ⟨r.inj, fun i hi he => (by have := (r.row i hi).2; rw [he, h3] at this; cases this), h1, fun i hi => hk _ _ (r.row i hi).2⟩, r.kp.no h3, fun i hi => (r.row i hi).1⟩
theorem LiveM.ret {G : Hp} (m : LiveM h L v h') (k : Kp G h) : RetP G (.fs L.length (L.map frow)) v h' := by
  obtain ⟨hk, o, bs, rfl, m, ho, hr⟩ := m
  have := m.frz (k.trans hk) (k.no ho) fun i hi => k.no (hr i hi)
  exact ⟨_, this.1, this.2, rfl⟩
theorem GrM.ret {G : Hp} (g : GrM h h' v L) (k : Kp G h) : RetP G (gml L) v h' := by
  by_cases h0 : L.length = 0
  · have : L = [] := List.eq_nil_of_length_eq_zero h0
    subst this
    obtain ⟨F, bs, ⟨hk, hl, hh⟩, r⟩ := g
    rcases hh with ⟨_, rfl⟩ | ⟨h1, _⟩
    · exact ⟨_, (k.trans (r.kp.trans hk)).sub, .id _, rfl⟩
    · exact absurd h1 (by simp)
  · have := (g.live (by omega)).ret k
    unfold gml gl
    rw [if_neg h0]; exact this
end

theorem matF_zero_snoc (c k : Nat) : List.replicate k (List.replicate c (0 : Int)) ++ [List.replicate c 0] = List.replicate (k + 1) (List.replicate c 0) := by
  rw [List.replicate_succ']
theorem matF_zero (r c : Nat) : matF r c (fun _ _ => 0) = List.replicate r (List.replicate c 0) := by
  unfold matF
  refine List.eq_replicate_iff.2 ⟨by simp, fun x hx => ?_⟩
  obtain ⟨i, _, rfl⟩ := List.mem_map.1 hx
  exact List.eq_replicate_iff.2 ⟨by simp, by simp⟩

theorem w_square {r c : Nat} (hr : 0 < r) (hr2 : r ≤ 65536) (hc : c ≤ 65536) (h : Hp) : Spec prog n_regenerate_square [I r, I c] h (LiveM h (matF r c fun _ _ => 0)) := by
  refine spec_of cf_regenerate_square rfl ?_
  have hc4 : (c : Int) ≤ 4294967296 := by omega
  simp
  refine awp_for r (fun k fr' h' => GrM h h' (fr' 5) (List.replicate k (List.replicate c 0)) ∧ fr' 7 = I k) ⟨by simpa using GrM.nils h, by simp⟩ ?_
  intro k fr' h' hkn hk ⟨g, k7⟩
  have k1 := hk 1 (by decide)
  have k6 := hk 6 (by decide)
  simp at k1 k6
  clear hk
  by_cases hlt : k < r
  · have u1 : IntKind.i64.wrap ((k : Int) + 1) = k + 1 := w64 _ (by omega)
    simp [k1, k6, k7, hlt, hc4]
    intro b1 hb1 b2 hb2
    have ap := fun R => (g.new hb1 (List.replicate c 0)).app (R := R) hb2 (by simp; omega)
    rw [List.length_replicate] at ap
    refine ap _ fun v' h3 g3 => ?_
    rw [matF_zero_snoc] at g3
    simp [k7, u1, hlt]
    exact g3
  · have : k = r := by omega
    subst this
    simp [k6, k7]
    rw [matF_zero]
    exact g.live (by simpa using hr)

/-- Where the row k of a symmetric matrix begins in the list of its entries. -/
def bas (n : Nat) : Nat → Nat
  | 0 => 0
  | k + 1 => bas n k + (n - k)
theorem bas_mono {n : Nat} {a b : Nat} (h : a ≤ b) : bas n a ≤ bas n b := by
  induction h with
  | refl => exact Nat.le_refl _
  | step _ ih => simp only [bas]; omega
def ixS (n i j : Nat) : Nat := bas n i + (j - i)
/-- The symmetric matrix filled up to the entry (k, j). -/
def eS (n : Nat) (l : List Int) (e : Nat → Nat → Int) (k j : Nat) : Nat → Nat → Int := fun a b =>
  if a < n ∧ b < n ∧ (min a b < k ∨ (min a b = k ∧ max a b < j)) then l.getD (ixS n (min a b) (max a b)) 0 else e a b

theorem eS_step {n : Nat} {l : List Int} {e : Nat → Nat → Int} {k j : Nat} (hk : k ≤ j) (hj : j < n) (a b : Nat) :
    upd2 (upd2 (eS n l e k j) k j (l.getD (ixS n k j) 0)) j k (l.getD (ixS n k j) 0) a b = eS n l e k (j + 1) a b := by
  unfold upd2 eS
  by_cases h1 : a = j ∧ b = k
  · obtain ⟨rfl, rfl⟩ := h1
    have e1 : min a b = b := by omega
    have e2 : max a b = a := by omega
    rw [if_pos ⟨rfl, rfl⟩, e1, e2, if_pos (by omega)]
  · rw [if_neg h1]
    by_cases h2 : a = k ∧ b = j
    · obtain ⟨rfl, rfl⟩ := h2
      have e1 : min a b = a := by omega
      have e2 : max a b = b := by omega
      rw [if_pos ⟨rfl, rfl⟩, e1, e2, if_pos (by omega)]
    · rw [if_neg h2]
      by_cases h3 : a < n ∧ b < n ∧ (min a b < k ∨ (min a b = k ∧ max a b < j))
      · rw [if_pos h3, if_pos (by omega)]
      · rw [if_neg h3, if_neg (by omega)]
theorem eS_row {n : Nat} {l : List Int} {e : Nat → Nat → Int} {k : Nat} (hk : k < n) (a b : Nat) : eS n l e k n a b = eS n l e (k + 1) (k + 1) a b := by
  unfold eS
  by_cases h3 : a < n ∧ b < n ∧ (min a b < k ∨ (min a b = k ∧ max a b < n))
  · rw [if_pos h3, if_pos (by omega)]
  · rw [if_neg h3, if_neg (by omega)]
theorem eS_row0 {n : Nat} {l : List Int} {e : Nat → Nat → Int} {k : Nat} (a b : Nat) : eS n l e k k a b = if a < n ∧ b < n ∧ min a b < k then l.getD (ixS n (min a b) (max a b)) 0 else e a b := by
  unfold eS
  by_cases h3 : a < n ∧ b < n ∧ min a b < k
  · rw [if_pos h3, if_pos (by omega)]
  · rw [if_neg h3, if_neg (by omega)]

set_option maxHeartbeats 2000000 in
theorem w_symmetric {h : Hp} {o : Nat} {bs : Nat → Nat} {r c : Nat} {e : Nat → Nat → Int} (m : LM h o bs (matF r c e)) {n : Nat} (hn : n ≤ r) (hn2 : n ≤ c) (hn3 : n ≤ 65536) {v : AV} {l : List Int} (hv : IL v l) (hl : bas n n ≤ l.length) (hl2 : l.length < 4611686018427387904) :
    Spec prog n_regenerate_symmetric [.sl o 0 r 1, I n, v] h (fun w h' => IL w (l.drop (bas n n)) ∧ Only bs r h h' ∧ LM h' o bs (matF r c (eS n l e n n))) := by
  refine spec_of cf_regenerate_symmetric rfl ?_
  unfold c_regenerate_symmetric_0 c_regenerate_symmetric_1
  generalize hC : c_regenerate_symmetric_2 = C2
  simp
  refine awp_for n (fun k fr' h' => ∃ w, IL w (l.drop (bas n k)) ∧ Only bs r h h' ∧ LM h' o bs (matF r c (eS n l e k k)) ∧ fr' 2 = w ∧ fr' 10 = I k)
    ⟨v, by simpa [bas] using hv, Only.refl _ _ _, by rw [matF_congr (e' := e) fun a b _ _ => by rw [eS_row0, if_neg (by omega)]]; exact m, by simp, by simp⟩ ?_
  intro k fr' h' hkn hk ⟨w, hw, ho, hm, k2, k10⟩
  have k0 := hk 0 (by decide)
  have k1 := hk 1 (by decide)
  have k9 := hk 9 (by decide)
  simp at k0 k1 k9
  clear hk
  by_cases hlt : k < n
  · have u1 : IntKind.i64.wrap ((k : Int) + 1) = k + 1 := w64 _ (by omega)
    unfold c_regenerate_symmetricL0_0 c_regenerate_symmetricL0_1 c_regenerate_symmetricL0_2
    generalize hC3 : c_regenerate_symmetricL0_3 = C3
    simp [k0, k1, k9, k10, hlt]
    refine awp_for (n - k) (fun t fr2 h2 => ∃ w, IL w (l.drop (bas n k + t)) ∧ Only bs r h h2 ∧ LM h2 o bs (matF r c (eS n l e k (k + t))) ∧ fr2 2 = w ∧ fr2 8 = I ((k + t : Nat) : Int))
      ⟨w, hw, ho, hm, by simp [k2], by simp [k10]⟩ ?_
    intro t fr2 h2 htn hk2 ⟨w2, hw2, ho2, hm2, m2, m8⟩
    have m0 := hk2 0 (by decide)
    have m1 := hk2 1 (by decide)
    have m7 := hk2 7 (by decide)
    have m9 := hk2 9 (by decide)
    have m10 := hk2 10 (by decide)
    simp [k0, k1, k9, k10] at m0 m1 m7 m9 m10
    clear hk2
    have hbl : bas n k + (n - k) ≤ bas n n := bas_mono (n := n) (a := k + 1) (b := n) (by omega)
    by_cases htl : t < n - k
    · have hj : k + t < n := by omega
      have hjc : ((k + t : Nat) : Int) < (n : Int) := by omega
      have hjc2 : (k : Int) + (t : Int) < (n : Int) := by omega
      have hrl1 := hm2.ld (i := k) (by rw [matF_len]; omega)
      have hrl2 := hm2.ld (i := k + t) (by rw [matF_len]; omega)
      rw [matF_rlen (by omega)] at hrl1 hrl2
      have hwl : (l.drop (bas n k + t)).length = l.length - (bas n k + t) := by simp
      have hia := hw2.iadr (i := 0) ⟨by omega, by omega⟩
      have hld := fun h' => ld_ints (h := h') (l := l.drop (bas n k + t)) (k := 0) (by omega)
      have hval : (l.drop (bas n k + t)).getD 0 0 = l.getD (ixS n k (k + t)) 0 := by
        simp [List.getD, ixS]
      rw [hval] at hld
      simp only [Int.toNat_zero] at hia
      obtain ⟨l1, hm3, hst1⟩ := hm2.setF (i := k) (j := k + t) (by omega) (by omega) (l.getD (ixS n k (k + t)) 0)
      obtain ⟨l2, hm4, hst2⟩ := hm3.setF (i := k + t) (j := k) (by omega) (by omega) (l.getD (ixS n k (k + t)) 0)
      rw [matF_congr fun a b _ _ => eS_step (by omega) hj a b] at hm4
      have ho4 := (ho2.put (i := k) (by omega) (ints l1)).put (i := k + t) (by omega) (ints l2)
      have hsl := hw2.slcN (lo := 1) (hi := (l.drop (bas n k + t)).length) (by omega) (Nat.le_refl _)
      have hsv := hw2.slv (lo := 1) (hi := (l.drop (bas n k + t)).length) (by omega) (Nat.le_refl _)
      rw [List.take_of_length_le (by simp; omega), List.drop_drop] at hsv
      have hln := hw2.len
      have u2 : IntKind.i64.wrap ((k : Int) + (t : Int) + 1) = ((k + (t + 1) : Nat) : Int) := by rw [w64 _ (by omega)]; omega
      have hkr : k < r := by omega
      have hkr2 : (k : Int) + (t : Int) < r := by omega
      have hkc : k < c := by omega
      have hkc2 : (k : Int) + (t : Int) < c := by omega
      have hnn : (0 : Int) ≤ (k : Int) + (t : Int) := by omega
      have hnt : ((k : Int) + (t : Int)).toNat = k + t := by omega
      have hlen1 : (1 : Int) ≤ ((l.drop (bas n k + t)).length : Int) := by omega
      generalize l.getD (ixS n k (k + t)) 0 = y at *
      generalize l.drop (bas n k + t) = lw at *
      have hwlen : lw.length = l.length - (bas n k + t) := hwl
      clear hwl hval
      simp only [List.drop_zero] at hia hld
      simp [m0, m1, m2, m7, m8, hjc, hjc2, hkr, hkr2, hkc, hkc2, hnn, hnt, hrl1, hrl2, hia, hld, hst1, hst2, htl, hln, hlen1, hsl, u2]
      exact ⟨_, hsv, ho4, hm4, rfl⟩
    · have : t = n - k := by omega
      subst this
      have e1 : k + (n - k) = n := by omega
      rw [e1] at hm2 m8
      simp [m1, m8]
      subst hC3
      simp [m10, u1, hlt]
      refine ⟨w2, by simpa [bas] using hw2, ho2, ?_, by simpa using m2⟩
      rw [matF_congr fun a b _ _ => eS_row hlt a b] at hm2
      exact hm2
  · have : k = n := by omega
    subst this
    subst hC
    simp [k9, k10, k2]
    exact ⟨hw, ho, hm⟩
end Go.AM.Ytmihmgnjnedfcaa
end

section
/- Contracts of functions: the reference's symmetric; rows, Mul. -/
set_option maxRecDepth 100000
set_option linter.unusedSimpArgs false
set_option linter.unusedVariables false
namespace Go.AM.Ytmihmgnjnedfcaa
open Go Go.AM
attribute [local simp ↓] awp_seq awp_reg awp_skip awp_cond' awp_block awp_exit awp_ret awp_fz thenW_normal thenW_exit thenW_ret inBlk_normal inBlk_exit inBlk_ret aops_cons' contA_ap aops_nil e_mv e_guard' e_pick' e_ld' e_app e_cpy e_st' e_call callW_f updO_some updO_none e_bin' e_isnil' e_fadr' e_iadr' e_iarr' e_len' e_build' e_mkf' e_nc' e_not' e_neg' e_cvt' e_slc' e_fld' e_ext' e_min' e_eqs' e_new e_box e_mkl e_mks
attribute [local simp] upd_apply ev_t ev_k ev_f binA_add binA_sub binA_mul binA_quo binA_rem binA_eql binA_neq binA_lss binA_leq binA_gtr binA_geq det mem frame0 keeps_nil iadrA_sl fadrA_ref fadrA_fp ldv_agg ldv_one cells_base hset_same hset_hset lenA_fs lenA_sl lenA_nils zeros_ints ints_length one_base one_nilp one_nils one_ref one_sl one_fp one_fs one_fn gl_one resA resOf bound natOf afill splice AV.cells cells_agg bindR_some condR_true condR_false guardR_tup guardR_true guardR_true' guardR_false guardR_false' allocW_some pickA_true pickA_false
open Go.FM

/-- The symmetric matrix of a list. -/
def symL (n : Nat) (l : List Int) : List (List Int) := matF n n fun a b => l.getD (ixS n (min a b) (max a b)) 0

set_option maxHeartbeats 2000000 in
theorem w_refSymmetric {n : Nat} (hn : 0 < n) (hn3 : n ≤ 65536) {v : AV} {l : List Int} (hv : IL v l) (hl : bas n n ≤ l.length) (hl2 : l.length < 4611686018427387904) (h : Hp) :
    Spec prog n_ref52_symmetric [I n, v] h (LiveM h (symL n l)) := by
  refine spec_of cf_ref52_symmetric rfl ?_
  have hn4 : (n : Int) ≤ 4294967296 := by omega
  unfold c_ref52_symmetric_0 c_ref52_symmetric_1 c_ref52_symmetric_2
  generalize hC : c_ref52_symmetric_3 = C2
  simp
  refine awp_for n (fun k fr' h' => GrM h h' (fr' 5) (List.replicate k (List.replicate n 0)) ∧ fr' 6 = I k) ⟨by simpa using GrM.nils h, by simp⟩ ?_
  intro k fr' h' hkn hk ⟨g, k6⟩
  have k0 := hk 0 (by decide)
  have k1 := hk 1 (by decide)
  simp at k0 k1
  clear hk
  by_cases hlt : k < n
  · have u1 : IntKind.i64.wrap ((k : Int) + 1) = k + 1 := w64 _ (by omega)
    simp [k0, k6, hlt, hn4]
    intro b1 hb1 b2 hb2
    have ap := fun R => (g.new hb1 (List.replicate n 0)).app (R := R) hb2 (by simp; omega)
    rw [List.length_replicate] at ap
    refine ap _ fun v' h3 g3 => ?_
    rw [matF_zero_snoc] at g3
    simp [k6, u1, hlt]
    exact g3
  have : k = n := by omega
  subst this
  have lv := g.live (by simpa using hn)
  rw [← matF_zero] at lv
  obtain ⟨hkp, o, bs, hv5, hm, ho, hbs⟩ := lv
  rw [matF_len] at hv5 hbs
  generalize hA : h' = A at *
  clear hA
  simp [k0, k6]
  subst hC
  unfold c_ref52_symmetric_3 c_ref52_symmetric_4
  generalize hC : c_ref52_symmetric_5 = C2
  simp
  refine awp_for k (fun i fr' h' => Only bs k A h' ∧ LM h' o bs (matF k k (eS k l (fun _ _ => 0) i i)) ∧ fr' 7 = I (bas k i) ∧ fr' 8 = I i)
    ⟨Only.refl _ _ _, by rw [matF_congr (e' := fun _ _ => 0) fun a b _ _ => by rw [eS_row0, if_neg (by omega)]]; exact hm, by simp [bas], by simp⟩ ?_
  intro i fr2 h2 hin hk2 ⟨ho2, hm2, k7, k8⟩
  have m0 := hk2 0 (by decide)
  have m1 := hk2 1 (by decide)
  have m5 := hk2 5 (by decide)
  simp [k0, k1, hv5] at m0 m1 m5
  clear hk2
  by_cases hlt : i < k
  · have u1 : IntKind.i64.wrap ((i : Int) + 1) = i + 1 := w64 _ (by omega)
    unfold c_ref52_symmetricL1_0 c_ref52_symmetricL1_1
    generalize hC3 : c_ref52_symmetricL1_2 = C3
    simp [m0, m1, k8, hlt]
    refine awp_for (k - i) (fun t fr2 h2 => Only bs k A h2 ∧ LM h2 o bs (matF k k (eS k l (fun _ _ => 0) i (i + t))) ∧ fr2 7 = I ((bas k i + t : Nat) : Int) ∧ fr2 9 = I ((i + t : Nat) : Int))
      ⟨ho2, hm2, by simp [k7], by simp⟩ ?_
    intro t fr3 h3 htn hk3 ⟨ho3, hm3, n7, n9⟩
    have n0 := hk3 0 (by decide)
    have n1 := hk3 1 (by decide)
    have n5 := hk3 5 (by decide)
    have n8 := hk3 8 (by decide)
    simp [m0, m1, m5, k8] at n0 n1 n5 n8
    clear hk3
    have hbl : bas k i + (k - i) ≤ bas k k := bas_mono (n := k) (a := i + 1) (b := k) (by omega)
    by_cases htl : t < k - i
    · have hj : i + t < k := by omega
      have hjc2 : (i : Int) + (t : Int) < (k : Int) := by omega
      have hrl1 := hm3.ld (i := i) (by rw [matF_len]; omega)
      rw [matF_rlen (by omega)] at hrl1
      have hia := hv.iadr (i := ((bas k i + t : Nat) : Int)) ⟨by omega, by omega⟩
      have hld := fun h' => ld_ints (h := h') (l := l) (k := bas k i + t) (by omega)
      have hval : l.getD (bas k i + t) 0 = l.getD (ixS k i (i + t)) 0 := by
        simp [ixS]
      rw [hval] at hld
      rw [Int.toNat_natCast] at hia
      obtain ⟨l1, hm4, hst1⟩ := hm3.setF (i := i) (j := i + t) (by omega) (by omega) (l.getD (ixS k i (i + t)) 0)
      have hrl2 := hm4.ld (i := i + t) (by rw [matF_len]; omega)
      rw [matF_rlen (by omega)] at hrl2
      obtain ⟨l2, hm5, hst2⟩ := hm4.setF (i := i + t) (j := i) (by omega) (by omega) (l.getD (ixS k i (i + t)) 0)
      rw [matF_congr fun a b _ _ => eS_step (by omega) hj a b] at hm5
      have ho4 := (ho3.put (i := i) (by omega) (ints l1)).put (i := i + t) (by omega) (ints l2)
      have u2 : IntKind.i64.wrap ((i : Int) + (t : Int) + 1) = ((i + (t + 1) : Nat) : Int) := by rw [w64 _ (by omega)]; omega
      have u3 : IntKind.i64.wrap ((bas k i : Int) + (t : Int) + 1) = ((bas k i + (t + 1) : Nat) : Int) := by rw [w64 _ (by omega)]; omega
      have hnn : (0 : Int) ≤ (i : Int) + (t : Int) := by omega
      have hnt : ((i : Int) + (t : Int)).toNat = i + t := by omega
      push_cast at hia
      generalize l.getD (ixS k i (i + t)) 0 = y at *
      clear hval
      simp [n0, n1, n5, n7, n8, n9, hjc2, hlt, hnn, hnt, hrl1, hrl2, hia, hld, hst1, hst2, htl, u2, u3]
      exact ⟨ho4, hm5⟩
    · have : t = k - i := by omega
      subst this
      have e1 : i + (k - i) = k := by omega
      rw [e1] at hm3 n9
      simp [n0, n9]
      subst hC3
      simp [n8, u1, hlt]
      refine ⟨ho3, ?_, by simpa [bas] using n7⟩
      rw [matF_congr fun a b _ _ => eS_row hlt a b] at hm3
      exact hm3
  · have : i = k := by omega
    subst this
    subst hC
    simp [k8, m0, m5]
    rw [matF_congr (e' := fun a b => l.getD (ixS i (min a b) (max a b)) 0) fun a b ha hb => by rw [eS_row0, if_pos (by omega)]] at hm2
    exact ⟨ho2.kp hkp hbs, o, bs, by simp [symL, matF_len], hm2, ho, by simpa [symL, matF_len] using hbs⟩

/-- A struct (x, slice) in the block b, whose slice grows. -/
def GrS (h G h' : Hp) (b : Nat) (x v : AV) (n : Nat) (cs : List AV) : Prop := Own 1 (hset G b [x, v]) h' v n cs ∧ Kp h G ∧ h b = none
section
variable {h G h' : Hp} {b : Nat} {x v : AV} {n : Nat} {cs : List AV}
theorem GrS.ld (g : GrS h G h' b x v n cs) : h' b = some [x, v] := g.1.rd (hset_same ..)
theorem GrS.kp (g : GrS h G h' b x v n cs) : Kp h h' := by
  have : Kp h (hset G b [x, v]) := g.2.1.set g.2.2 _
  exact this.trans g.1.kp
theorem GrS.start {g0 : Hp} (k : Kp h g0) (hb : h b = none) (hg : g0 b = some [x, .nils]) : GrS h g0 g0 b x .nils 0 [] := by
  refine ⟨?_, k, hb⟩
  rw [hset_id hg]; exact Own.nils 1 g0
theorem GrS.app (g : GrS h G h' b x v n cs) {b2 : Nat} {y : AV} (hb2 : h' b2 = none) (hn : n + 1 ≤ 4294967296) {R : AV → Hp → Prop}
    (k : ∀ v' h3, h3 b = some [x, v] → v'.cells = [v'] → AM.one v' = true → GrS h G (hset h3 b [x, v']) b x v' (n + 1) (cs ++ [y]) → R v' h3) : appW v (.sl b2 0 1 1) 1 (hset h' b2 [y]) R :=
  g.1.app1 (m := 1) hb2 (by simp) hn fun v' h3 o3 => k v' h3 (o3.rd (hset_same ..)) o3.cells o3.one ⟨by
    have := o3.put (b := b) (hset_same ..) [x, v']
    rwa [hset_hset] at this, g.2⟩
theorem GrS.fin (g : GrS h G h' b x v n cs) : Sub h' h ∧ Frz h' h v (gl n cs) := g.1.frz (g.2.1.set g.2.2 _)
end

theorem s_rows {D : Ds} (r : Fd D) {pv : AV} {pts : List Int} (hpv : IL pv pts) (hpl : pts.length ≤ 65536) (n : Nat) (hn : n ≤ 65536) : Pure prog n_regenerate_rows [.fp (gfC D), pv, I n] (.agg [I n, gml (pts.map fun x => pwL D x n)]) := by
  refine pure_of cf_regenerate_rows rfl fun h => ?_
  simp
  intro b6 hb6 b7 hb7
  have sra := fun R => sr_all (R := R) (cs' := [I n, .nils]) (hset_same (hset h b6 [I 0, .nils]) b7 [I 0, .nils]) (n := 2) rfl rfl rfl
  have h6 : (hset (hset h b6 [I 0, .nils]) b7 [I n, .nils]) b6 = some [I 0, .nils] := by
    have : b6 ≠ b7 := fun he => by rw [← he, hset_same] at hb7; cases hb7
    rw [hset_ne _ _ this, hset_same]
  have hk0 : Kp h (hset (hset h b6 [I 0, .nils]) b7 [I n, .nils]) := ((Kp.refl h).new hb6 _).new hb7 _
  have hb7' : h b7 = none := ((Kp.refl h).new hb6 [I 0, .nils]).no hb7
  have gs := GrS.start hk0 hb7' (hset_same (hset h b6 [I 0, .nils]) b7 [I n, .nils])
  have h67 : b6 ≠ b7 := fun he => by rw [← he, hset_same] at hb7; cases hb7
  simp [sra, hpv.len]
  generalize hset (hset h b6 [I 0, .nils]) b7 [I n, .nils] = g at *
  refine awp_for pts.length (fun k fr' h' => (∃ v, GrS h g h' b7 (I n) v k (((pts.take k).map fun x => pwL D x n).map frow)) ∧ fr' 14 = I k) ⟨⟨.nils, by simpa using gs⟩, by simp⟩ ?_
  intro k fr' h' hkn hk ⟨⟨v, gk⟩, k14⟩
  have k0 := hk 0 (by decide)
  have k2 := hk 2 (by decide)
  have k6 := hk 6 (by decide)
  have k7 := hk 7 (by decide)
  have k12 := hk 12 (by decide)
  have k13 := hk 13 (by decide)
  simp at k0 k2 k6 k7 k12 k13
  clear hk
  by_cases hlt : k < pts.length
  · have u1 : IntKind.i64.wrap ((k : Int) + 1) = k + 1 := w64 _ (by omega)
    have hia := hpv.iadr (i := k) ⟨by omega, by omega⟩
    simp at hia
    have hld := fun h' => ld_ints (h := h') hlt
    have l7 := lq_snd gk.ld
    rw [take_getD (d := 0) hlt, List.map_append, List.map_append]
    generalize pts.getD k 0 = y at *
    have e : [pwL D y n].map frow = [AV.fs n (ints (pwL D y n))] := by rw [List.map_singleton, frow, pwL_len]
    rw [List.map_singleton, e]
    generalize ((pts.take k).map fun x => pwL D x n).map frow = cs at *
    simp [k0, k2, k7, k12, k13, k14, hlt, hia, hld, l7]
    refine (s_powersR r y n (by omega)).call ?_
    simp
    intro b hb
    refine gk.app hb (by omega) fun v' h3 hg hc1 ho g3 => ?_
    have st := fun R => sr_one (R := R) (v := v') (k := 1) hg hc1 ho (by simp)
    simp [st, k7, k14, u1, hlt]
    exact ⟨v', g3⟩
  · have : k = pts.length := by omega
    subst this
    rw [List.take_length] at gk
    have l7 := lq_both gk.ld
    have h6' : h' b6 = some [I 0, .nils] := gk.1.rd (by rw [hset_ne _ _ h67]; exact h6)
    have hone := gk.1.one
    have st := fun R => sr_all (R := R) (cs' := [I n, v]) h6' (n := 2) rfl rfl (by show (one (I n) && (one v && true)) = true; rw [hone]; rfl)
    have l6 := lq_both (hset_same h' b6 [I n, v])
    simp [k6, k7, k13, k14, l7, st, l6]
    have fin := (gk.1.frz (gk.2.1.set gk.2.2 _))
    have hkk := gk.kp.set hb6 [I n, v]
    have own6 : Own 1 (hset (hset g b7 [I n, v]) b6 [I n, v]) (hset h' b6 [I n, v]) v pts.length ((pts.map fun x => pwL D x n).map frow) := by
      exact gk.1.put (by rw [hset_ne _ _ h67]; exact h6) _
    have fz := own6.frz (G := h) ((gk.2.1.set gk.2.2 _).set hb6 _)
    refine RetP.agg fz.1 rfl (frz2 (.id _) ?_)
    have := fz.2
    rw [gml, List.length_map]; exact this

/-- The product. -/
def mulL (D : Ds) (A B : List (List Int)) (n : Nat) : List (List Int) := A.map fun row => combK D row B n row.length
open Classical in
noncomputable def mulE (p m : Int) (mo : List Int) (ca : Int) (A : List (List Int)) (cb : Int) (B : List (List Int)) : Int :=
  if openE p m mo [(ca, A), (cb, B)] ≠ 0 then openE p m mo [(ca, A), (cb, B)] else if ca ≠ B.length then 10 else 0
open Classical in
noncomputable def mulR (p m : Int) (mo : List Int) (ca : Int) (A : List (List Int)) (cb : Int) (B : List (List Int)) : AV :=
  if mulE p m mo ca A cb B = 0 then .tup [.agg [I cb, gml (mulL (mkD p m mo) A B cb.toNat)], I 0] else .tup [.agg [I 0, .nils], I (mulE p m mo ca A cb B)]

theorem chkE_zero {D : Ds} {c : Int} {L : List (List Int)} (h : chkE D c L = 0) : 0 ≤ c ∧ c ≤ 256 ∧ L.length ≤ 256 ∧ (∀ row ∈ L, (row.length : Int) = c) ∧ ∀ row ∈ L, ∀ x ∈ row, D.R x := by
  unfold chkE at h
  split at h
  · omega
  · rename_i h1
    split at h
    · omega
    · rename_i h2
      split at h
      · rename_i h3; exact ⟨by omega, by omega, by omega, by simpa using h2, h3⟩
      · omega

theorem openE_two {p m : Int} {mo : List Int} {ca cb : Int} {A B : List (List Int)} (h : openE p m mo [(ca, A), (cb, B)] = 0) : FieldP p m mo ∧ chkE (mkD p m mo) ca A = 0 ∧ chkE (mkD p m mo) cb B = 0 := by
  classical
  unfold openE at h
  split at h
  · rename_i hf
    refine ⟨hf, ?_⟩
    simp only [chkAll] at h
    by_cases h1 : chkE (mkD p m mo) ca A = 0
    · rw [if_neg (by simpa using h1)] at h
      by_cases h2 : chkE (mkD p m mo) cb B = 0
      · exact ⟨h1, h2⟩
      · rw [if_pos h2] at h; exact (h2 h).elim
    · rw [if_pos h1] at h; exact (h1 h).elim
  · omega

set_option maxHeartbeats 2000000 in
theorem s_matMul {p m : Int} {mv va vb : AV} {mo : List Int} (hmv : IL mv mo) (hml : mo.length < 4611686018427387904) {ca cb : Int} {A B : List (List Int)} (hA : ML va A) (hB : ML vb B) (hAs : MSm A) (hBs : MSm B) :
    Pure prog n_matrix_Mul [.agg [I p, I m, mv], .agg [I ca, va], .agg [I cb, vb]] (mulR p m mo ca A cb B) := by
  classical
  refine pure_of cf_matrix_Mul rfl fun h => ?_
  have hone := hmv.one
  have honeA := hA.one
  have honeB := hB.one
  unfold c_matrix_Mul_0 c_matrix_Mul_1
  generalize hC : c_matrix_Mul_2 = C2
  simp [hone, honeA, honeB]
  intro b3 hb3 b4 hb4 b5 hb5 b6 hb6
  have hk6 : Kp h (hset (hset (hset (hset h b3 [I p, I m, mv]) b4 [I ca, va]) b5 [I cb, vb]) b6 [I 0, .nils]) := ((((Kp.refl h).new hb3 _).new hb4 _).new hb5 _).new hb6 _
  have n6 : h b6 = none := ((((Kp.refl h).new hb3 [I p, I m, mv]).new hb4 [I ca, va]).new hb5 [I cb, vb]).no hb6
  have g3 : (hset (hset (hset (hset h b3 [I p, I m, mv]) b4 [I ca, va]) b5 [I cb, vb]) b6 [I 0, .nils]) b3 = some [I p, I m, mv] :=
    (((Kp.refl _).new hb4 _).new hb5 _).new hb6 _ b3 _ (hset_same ..)
  have g4 : (hset (hset (hset (hset h b3 [I p, I m, mv]) b4 [I ca, va]) b5 [I cb, vb]) b6 [I 0, .nils]) b4 = some [I ca, va] :=
    ((Kp.refl _).new hb5 _).new hb6 _ b4 _ (hset_same ..)
  have g5 : (hset (hset (hset (hset h b3 [I p, I m, mv]) b4 [I ca, va]) b5 [I cb, vb]) b6 [I 0, .nils]) b5 = some [I cb, vb] :=
    (Kp.refl _).new hb6 _ b5 _ (hset_same ..)
  have g6 : (hset (hset (hset (hset h b3 [I p, I m, mv]) b4 [I ca, va]) b5 [I cb, vb]) b6 [I 0, .nils]) b6 = some [I 0, .nils] := hset_same ..
  generalize hset (hset (hset (hset h b3 [I p, I m, mv]) b4 [I ca, va]) b5 [I cb, vb]) b6 [I 0, .nils] = g at *
  obtain ⟨_, _, _, l3⟩ := ld3_at g3
  have l4 := lq_both g4
  have l5 := lq_both g5
  simp [l3, l4, l5, honeA, honeB]
  intro b17 hb17
  have hop := s_open (p := p) (m := m) (h := hset g b17 [I ca, va, I cb, vb]) (v := .sl b17 0 2 2) hmv hml (cells := [I ca, va, I cb, vb]) (M := [(ca, A), (cb, B)]) (by simp) (fun i hi => by
      match i, hi with
      | 0, _ => exact ⟨rfl, hA⟩
      | 1, _ => exact ⟨rfl, hB⟩) (fun i hi => by
      match i, hi with
      | 0, _ => exact hAs
      | 1, _ => exact hBs) (.inr ⟨b17, rfl, hset_same .., rfl⟩)
  refine hop.call ?_
  clear hop
  have hk17 : Kp g (hset g b17 [I ca, va, I cb, vb]) := (Kp.refl g).new hb17 _
  have g4' := hk17 _ _ g4
  have g5' := hk17 _ _ g5
  have g6' := hk17 _ _ g6
  have hkh := hk6.trans hk17
  clear g3 g4 g5 g6 hk6 hk17 hb17 hb6 l3 l4 l5
  generalize hset g b17 [I ca, va, I cb, vb] = G at *
  have st0 := fun R => sr_all (R := R) (cs' := [I 0, .nils]) g6' (n := 2) rfl rfl rfl
  rw [hset_id g6'] at st0
  have l6 := lq_both g6'
  have bad : ∀ e, mulE p m mo ca A cb B = e → e ≠ 0 → RetP h (mulR p m mo ca A cb B) (.tup [.agg [I 0, .nils], I e]) G := fun e he h0 => by
    rw [mulR, if_neg (by rw [he]; exact h0), he]; exact ⟨_, hkh.sub, .id _, rfl⟩
  by_cases hE : openE p m mo [(ca, A), (cb, B)] = 0
  case neg =>
    unfold openR
    rw [if_neg hE]
    have hb := bad _ (by rw [mulE, if_pos hE]) hE
    generalize openE p m mo [(ca, A), (cb, B)] = e at *
    simp
    subst hC
    simp [hE, st0, l6]
    exact hb
  have hE2 : mulE p m mo ca A cb B = if ca ≠ B.length then 10 else 0 := by rw [mulE, if_neg (by simpa using hE)]
  obtain ⟨hf, hcA, hcB⟩ := openE_two hE
  have r := hf.fd
  unfold openR
  rw [if_pos hE]
  simp
  subst hC
  unfold c_matrix_Mul_2 c_matrix_Mul_3
  generalize hC : c_matrix_Mul_4 = C2
  have l40 := lq_fst g4'
  have l51 := lq_snd g5'
  have l50 := lq_fst g5'
  have l41 := lq_snd g4'
  by_cases hc : ca = B.length
  case neg =>
    have hb := bad 10 (by rw [hE2, if_pos hc]) (by omega)
    simp [l40, l51, hB.len, hc, st0, l6]
    exact hb
  have hE3 : mulE p m mo ca A cb B = 0 := by rw [hE2, if_neg (by simpa using hc)]
  subst hc
  simp [l40, l51, hB.len]
  subst hC
  simp [l50]
  intro b10 hb10
  have sra := fun R => sr_all (R := R) (cs' := [I cb, .nils]) (hset_same G b10 [I 0, .nils]) (n := 2) rfl rfl rfl
  have h6 : (hset G b10 [I cb, .nils]) b6 = some [I 0, .nils] := (Kp.refl G).new hb10 _ _ _ g6'
  have h4 : (hset G b10 [I cb, .nils]) b4 = some [I (B.length : Int), va] := (Kp.refl G).new hb10 _ _ _ g4'
  have h5 : (hset G b10 [I cb, .nils]) b5 = some [I cb, vb] := (Kp.refl G).new hb10 _ _ _ g5'
  have hk0 : Kp h (hset G b10 [I cb, .nils]) := hkh.new hb10 _
  have gs := GrS.start hk0 (hkh.no hb10) (hset_same G b10 [I cb, .nils])
  have h610 : b6 ≠ b10 := fun he => by rw [he, hb10] at g6'; cases g6'
  have h410 : b4 ≠ b10 := fun he => by rw [he, hb10] at g4'; cases g4'
  have h510 : b5 ≠ b10 := fun he => by rw [he, hb10] at g5'; cases g5'
  have l41' := lq_snd h4
  simp [sra, l41', hA.len]
  clear sra st0 bad l6 l40 l41 l50 l51 l41' hb10
  generalize hset G b10 [I cb, .nils] = g at *
  obtain ⟨q1, q2, q3, q4, q5⟩ := chkE_zero hcB
  obtain ⟨a1, a2, a3, a4, a5⟩ := chkE_zero hcA
  obtain ⟨n, rfl⟩ : ∃ n : Nat, cb = n := ⟨cb.toNat, by omega⟩
  unfold mulR
  rw [if_pos hE3]
  generalize mkD p m mo = D at *
  refine awp_for A.length (fun k fr' h' => (∃ v, GrS h g h' b10 (I n) v k ((mulL D (A.take k) B n).map frow)) ∧ fr' 38 = I k) ⟨⟨.nils, by simpa [mulL] using gs⟩, by simp⟩ ?_
  intro k fr' h' hkn hk ⟨⟨v, gk⟩, k38⟩
  have k5 := hk 5 (by decide)
  have k6 := hk 6 (by decide)
  have k7 := hk 7 (by decide)
  have k8 := hk 8 (by decide)
  have k10 := hk 10 (by decide)
  have k36 := hk 36 (by decide)
  have k37 := hk 37 (by decide)
  simp at k5 k6 k7 k8 k10 k36 k37
  clear hk
  by_cases hlt : k < A.length
  · have u1 : IntKind.i64.wrap ((k : Int) + 1) = k + 1 := w64 _ (by omega)
    obtain ⟨pa, row, hpa, hpl, hrow⟩ := hA.rd hlt
    have l7 := lq_snd gk.ld
    have h5' : h' b5 = some [I n, vb] := gk.1.rd (by rw [hset_ne _ _ h510]; exact h5)
    have l50 := lq_fst h5'
    have l51 := lq_snd h5'
    have hm := mem_getD (d := []) hlt
    have hml : mulL D (A.take (k + 1)) B n = mulL D (A.take k) B n ++ [combK D (A.getD k []) B n (A.getD k []).length] := by
      rw [take_getD (d := []) hlt, mulL, List.map_append, List.map_singleton]; rfl
    rw [hml]
    generalize A.getD k [] = rl at *
    have hrl := a4 rl hm
    have e : [combK D rl B n rl.length].map frow = [AV.fs n (ints (combK D rl B n rl.length))] := by rw [List.map_singleton, frow, combK_len]
    rw [List.map_append, e]
    generalize (mulL D (A.take k) B n).map frow = cs at *
    simp [k5, k8, k10, k36, k37, k38, hlt, hpa, hpl, l7, l50, l51]
    refine (s_vec r hrow hB (by omega) (by omega) (by omega) (fun i hi => by
      have := q4 _ (mem_getD (d := []) hi); omega)).call ?_
    simp
    intro b hb
    refine gk.app hb (by omega) fun v' h3 hg hc1 ho g3 => ?_
    have st := fun R => sr_one (R := R) (v := v') (k := 1) hg hc1 ho (by simp)
    simp [st, k10, k38, u1, hlt]
    exact ⟨v', g3⟩
  · have : k = A.length := by omega
    subst this
    rw [List.take_length] at gk
    have l7 := lq_both gk.ld
    have h6' : h' b6 = some [I 0, .nils] := gk.1.rd (by rw [hset_ne _ _ h610]; exact h6)
    have hone := gk.1.one
    have st := fun R => sr_all (R := R) (cs' := [I n, v]) h6' (n := 2) rfl rfl (by show (one (I n) && (one v && true)) = true; rw [hone]; rfl)
    have l6 := lq_both (hset_same h' b6 [I n, v])
    simp [k6, k7, k10, k37, k38, l7, st, l6]
    have own6 : Own 1 (hset (hset g b10 [I n, v]) b6 [I n, v]) (hset h' b6 [I n, v]) v A.length ((mulL D A B n).map frow) :=
      gk.1.put (by rw [hset_ne _ _ h610]; exact h6) _
    have fz := own6.frz (G := h) ((gk.2.1.set gk.2.2 _).set n6 _)
    refine RetP.tup fz.1 rfl (frz2 (.agg _ _ rfl (frz2 (.id _) ?_)) (.id _))
    have := fz.2
    rw [gml, show (mulL D A B n).length = A.length by simp [mulL]]; exact this
end Go.AM.Ytmihmgnjnedfcaa
end

section
/- Contracts of functions: the message matrix, on both sides. -/
set_option maxRecDepth 100000
set_option linter.unusedSimpArgs false
set_option linter.unusedVariables false
namespace Go.AM.Ytmihmgnjnedfcaa
open Go Go.AM
attribute [local simp ↓] awp_seq awp_reg awp_skip awp_cond' awp_block awp_exit awp_ret awp_fz thenW_normal thenW_exit thenW_ret inBlk_normal inBlk_exit inBlk_ret aops_cons' contA_ap aops_nil e_mv e_guard' e_pick' e_ld' e_app e_cpy e_st' e_call callW_f updO_some updO_none e_bin' e_isnil' e_fadr' e_iadr' e_iarr' e_len' e_build' e_mkf' e_nc' e_not' e_neg' e_cvt' e_slc' e_fld' e_ext' e_min' e_eqs' e_new e_box e_mkl e_mks
attribute [local simp] upd_apply ev_t ev_k ev_f binA_add binA_sub binA_mul binA_quo binA_rem binA_eql binA_neq binA_lss binA_leq binA_gtr binA_geq det mem frame0 keeps_nil iadrA_sl fadrA_ref fadrA_fp ldv_agg ldv_one cells_base hset_same hset_hset lenA_fs lenA_sl lenA_nils zeros_ints ints_length one_base one_nilp one_nils one_ref one_sl one_fp one_fs one_fn gl_one resA resOf bound natOf afill splice AV.cells cells_agg bindR_some condR_true condR_false guardR_tup guardR_true guardR_true' guardR_false guardR_false' allocW_some pickA_true pickA_false
open Go.FM

theorem bas_two {n : Nat} : ∀ k, k ≤ n → 2 * bas n k + k * k = 2 * (k * n) + k
  | 0, _ => by simp [bas]
  | k + 1, h => by
    have ih := bas_two (n := n) k (by omega)
    have e1 : (k + 1) * (k + 1) = k * k + 2 * k + 1 := by simp [Nat.add_mul, Nat.mul_add]; omega
    have e2 : (k + 1) * n = k * n + n := by simp [Nat.add_mul]
    simp only [bas]
    rw [e1, e2]
    omega
theorem bas_all (n : Nat) : 2 * bas n n = n * n + n := by
  have := bas_two (n := n) n (Nat.le_refl _); omega
theorem ixS_lt {n i j : Nat} (hi : i < n) (hj : j < n) (hij : i ≤ j) : ixS n i j < bas n n := by
  have : bas n i + (n - i) ≤ bas n n := bas_mono (n := n) (a := i + 1) (b := n) (by omega)
  unfold ixS; omega

theorem symL_congr {n : Nat} {l l' : List Int} (h : ∀ i, i < bas n n → l.getD i 0 = l'.getD i 0) : symL n l = symL n l' := by
  unfold symL
  refine matF_congr fun i j hi hj => ?_
  exact h _ (ixS_lt (by omega) (by omega) (by omega))

/-- The message matrix. -/
def msgB (k d : Nat) (l : List Int) : Nat → Nat → Int := fun a b =>
  if a < k ∧ b < k then l.getD (ixS k (min a b) (max a b)) 0 else if a < k then l.getD (bas k k + (a * (d - k) + (b - k))) 0 else if b < k then l.getD (bas k k + (b * (d - k) + (a - k))) 0 else 0
def msgL (st : Bool) (k d : Nat) (l : List Int) : List (List Int) :=
  if st then symL (k - 1) l ++ symL (k - 1) (l.drop (bas (k - 1) (k - 1))) else matF d d (msgB k d l)
/-- Filled up to the entry (i, j). -/
def msgS (k d : Nat) (l : List Int) (i j : Nat) : Nat → Nat → Int := fun a b =>
  if min a b < i ∨ (min a b = i ∧ max a b < j) ∨ (a < k ∧ b < k) then msgB k d l a b else 0
theorem msgS_step {k d : Nat} {l : List Int} {i j : Nat} (hi : i < k) (hj : k ≤ j) (a b : Nat) :
    upd2 (upd2 (msgS k d l i j) i j (l.getD (bas k k + (i * (d - k) + (j - k))) 0)) j i (l.getD (bas k k + (i * (d - k) + (j - k))) 0) a b = msgS k d l i (j + 1) a b := by
  unfold upd2 msgS
  by_cases h1 : a = j ∧ b = i
  · obtain ⟨rfl, rfl⟩ := h1
    rw [if_pos ⟨rfl, rfl⟩, if_pos (by omega), msgB, if_neg (by omega), if_neg (by omega), if_pos hi]
  · rw [if_neg h1]
    by_cases h2 : a = i ∧ b = j
    · obtain ⟨rfl, rfl⟩ := h2
      rw [if_pos ⟨rfl, rfl⟩, if_pos (by omega), msgB, if_neg (by omega), if_pos hi]
    · rw [if_neg h2]
      by_cases h3 : min a b < i ∨ (min a b = i ∧ max a b < j) ∨ (a < k ∧ b < k)
      · rw [if_pos h3, if_pos (by omega)]
      · rw [if_neg h3, if_neg (by omega)]
theorem msgS_row {k d : Nat} {l : List Int} {i : Nat} (hi : i < k) {a b : Nat} (ha : a < d) (hb : b < d) : msgS k d l i d a b = msgS k d l (i + 1) k a b := by
  unfold msgS
  by_cases h3 : min a b < i ∨ (min a b = i ∧ max a b < d) ∨ (a < k ∧ b < k)
  · rw [if_pos h3, if_pos (by omega)]
  · rw [if_neg h3, if_neg (by omega)]

theorem LM.only {h h' : Hp} {o : Nat} {bs : Nat → Nat} {L : List (List Int)} (m : LM h o bs L) {cs : Nat → Nat} {n : Nat} (a : Only cs n h h') (h1 : ∀ j, j < n → cs j ≠ o) (h2 : ∀ i j, i < L.length → j < n → bs i ≠ cs j) : LM h' o bs L :=
  ⟨m.inj, m.ne, by rw [a o fun i hi he => h1 i hi he.symm]; exact m.out, fun i hi => by rw [a (bs i) fun j hj => h2 i j hi hj]; exact m.row i hi⟩

/-- One list of rows behind another. -/
theorem LM.app2 {G h : Hp} {o1 o2 : Nat} {bs1 bs2 : Nat → Nat} {L1 L2 : List (List Int)} (kp : Kp G h) (m1 : LM h o1 bs1 L1) (m2 : LM h o2 bs2 L2) (g1 : G o1 = none) (r1 : ∀ i, i < L1.length → G (bs1 i) = none) (r2 : ∀ i, i < L2.length → G (bs2 i) = none)
    (hd : ∀ i j, i < L1.length → j < L2.length → bs1 i ≠ bs2 j) (ho : ∀ j, j < L2.length → bs2 j ≠ o1) (hn : L1.length + L2.length ≤ 4294967296) {R : AV → Hp → Prop}
    (k : ∀ v h', RetP G (.fs (L1.length + L2.length) ((L1 ++ L2).map frow)) v h' → R v h') : appW (.sl o1 0 L1.length 1) (.sl o2 0 L2.length 1) 1 h R := by
  have hr : readS h (.sl o2 0 L2.length 1) 1 = some (L2.length, rowsC bs2 L2) := by
    have : h o2 = some (rowsC bs2 L2) := m2.out
    simp only [readS, this, rowsC_len, Nat.zero_add, Nat.mul_one, Nat.le_refl, and_self, if_true, List.drop_zero]
    rw [List.take_of_length_le (by rw [rowsC_len]; exact Nat.le_refl _)]
  have h1 : h o1 = some (rowsC bs1 L1) := m1.out
  unfold appW
  rw [hr]
  simp only [h1]
  refine ⟨trivial, trivial, by rw [rowsC_len]; omega, hn, fun b hb => ?_⟩
  have hb2 : ∀ i, i < L1.length → bs1 i ≠ b := by
    rintro i hi he
    rcases hb with rfl | hb
    · exact m1.ne i hi he
    · rw [← he, m1.row i hi] at hb; cases hb
  have hb3 : ∀ i, i < L2.length → bs2 i ≠ b := by
    rintro i hi he
    rcases hb with rfl | hb
    · exact ho i hi he
    · rw [← he, m2.row i hi] at hb; cases hb
  have hgb : G b = none := by
    rcases hb with rfl | hb
    · exact g1
    · exact kp.no hb
  have e : rowsC bs1 L1 ++ rowsC bs2 L2 = rowsC (fun i => if i < L1.length then bs1 i else bs2 (i - L1.length)) (L1 ++ L2) := by
    apply List.ext_getElem
    · simp [rowsC_len]
    · intro i h1 h2
      simp only [rowsC_len, List.length_append] at h2
      by_cases hi : i < L1.length
      · rw [List.getElem_append_left (by rw [rowsC_len]; exact hi)]
        simp [rowsC, hi, List.getElem?_append]
      · rw [List.getElem_append_right (by rw [rowsC_len]; omega)]
        simp [rowsC, hi, List.getElem?_append, rowsC_len]
  rw [e]
  refine k _ _ ?_
  have m3 : LM (hset h b (rowsC (fun i => if i < L1.length then bs1 i else bs2 (i - L1.length)) (L1 ++ L2))) b (fun i => if i < L1.length then bs1 i else bs2 (i - L1.length)) (L1 ++ L2) := by
    refine ⟨fun i j hi hj hij => ?_, fun i hi => ?_, hset_same .., fun i hi => ?_⟩
    · rw [List.length_append] at hi hj
      by_cases c1 : i < L1.length <;> by_cases c2 : j < L1.length
      · simp only [if_pos c1, if_pos c2]; exact m1.inj i j c1 c2 hij
      · simp only [if_pos c1, if_neg c2]; exact hd i _ c1 (by omega)
      · simp only [if_neg c1, if_pos c2]; exact fun he => hd j _ c2 (by omega) he.symm
      · simp only [if_neg c1, if_neg c2]; exact m2.inj _ _ (by omega) (by omega) (by omega)
    · rw [List.length_append] at hi
      by_cases c1 : i < L1.length
      · simp only [if_pos c1]; exact hb2 i c1
      · simp only [if_neg c1]; exact hb3 _ (by omega)
    · rw [List.length_append] at hi
      by_cases c1 : i < L1.length
      · simp only [if_pos c1]
        rw [hset_ne _ _ (hb2 i c1), m1.row i c1]
        simp [List.getD, List.getElem?_append, c1]
      · simp only [if_neg c1]
        rw [hset_ne _ _ (hb3 _ (by omega)), m2.row _ (by omega)]
        simp [List.getD, List.getElem?_append, c1]
  have fz := m3.frz (G := G) (kp.set hgb _) hgb fun i hi => by
    rw [List.length_append] at hi
    by_cases c1 : i < L1.length
    · simp only [if_pos c1]; exact r1 i c1
    · simp only [if_neg c1]; exact r2 _ (by omega)
  rw [List.length_append] at fz
  exact ⟨_, fz.1, fz.2, rfl⟩

theorem symL_len (n : Nat) (l : List Int) : (symL n l).length = n := matF_len ..
theorem msgL_st {k d : Nat} {l : List Int} : msgL true k d l = symL (k - 1) l ++ symL (k - 1) (l.drop (bas (k - 1) (k - 1))) := by simp [msgL]
theorem msgL_bw {k d : Nat} {l : List Int} : msgL false k d l = matF d d (msgB k d l) := by simp [msgL]

/-- What the numbers of a code are. -/
theorem Rc.Okn.nums {R : Rc} (o : R.Okn) : ∃ k d : Nat, R.k = k ∧ R.d = d ∧ 1 ≤ k ∧ k ≤ d ∧ d ≤ 63 ∧ (R.kd = 1 → d = 2 * k - 2 ∧ 2 ≤ k ∧ R.szF = ((2 * bas (k - 1) (k - 1) : Nat) : Int) ∧ R.szN = ((k - 1 : Nat) : Int)) ∧
    (R.kd = 0 → R.szF = ((bas k k + k * (d - k) : Nat) : Int) ∧ R.szN = (d : Int)) := by
  have h1 := o.k1
  have h2 := o.kd2
  have h3 := o.d
  refine ⟨R.k.toNat, R.d.toNat, by omega, by omega, by omega, by omega, by omega, fun hk => ?_, fun hk => ?_⟩
  · have h4 := o.st hk
    refine ⟨by omega, by omega, ?_, ?_⟩
    · unfold Rc.szF
      rw [if_pos hk, bas_all]
      obtain ⟨a, ha⟩ : ∃ a : Nat, R.k = a + 1 := ⟨(R.k - 1).toNat, by omega⟩
      have : R.k.toNat - 1 = a := by omega
      rw [this, ha]
      push_cast
      rw [Int.add_mul]
      have : (a : Int) + 1 - 1 = a := by omega
      rw [this]; omega
    · unfold Rc.szN
      rw [if_pos hk]; omega
  · have hk1 : ¬ R.kd = 1 := by omega
    refine ⟨?_, ?_⟩
    · unfold Rc.szF
      rw [if_neg hk1]
      obtain ⟨a, ha⟩ : ∃ a : Nat, R.k = a := ⟨R.k.toNat, by omega⟩
      obtain ⟨b, hb⟩ : ∃ b : Nat, R.d = (a : Int) + b := ⟨(R.d - R.k).toNat, by omega⟩
      have e1 : R.k.toNat = a := by omega
      have e2 : R.d.toNat - a = b := by omega
      rw [e1, e2, ha, hb]
      have hba := bas_all a
      push_cast
      rw [Int.mul_add, Int.mul_sub, Int.mul_one]
      have c1 : ((a * a : Nat) : Int) = (a : Int) * a := by push_cast; rfl
      have c2 : ((a * b : Nat) : Int) = (a : Int) * b := by push_cast; rfl
      rw [← c1, ← c2]
      have : a ≤ a * a := Nat.le_mul_of_pos_left a (by omega)
      omega
    · unfold Rc.szN
      rw [if_neg hk1]; omega

set_option maxHeartbeats 4000000 in
theorem s_message {R : Rc} (ok : R.Okn) {mv pv fv : AV} (hone : one mv = true) (hone2 : one pv = true) {l : List Int} (hv : IL fv l) (hl : (l.length : Int) = R.szF) {k d : Nat} (hk : R.k = k) (hd : R.d = d) :
    Pure prog n_regenerate_message [.agg (R.cells mv pv), fv] (.fs (msgL (decide (R.kd = 1)) k d l).length ((msgL (decide (R.kd = 1)) k d l).map frow)) := by
  obtain ⟨k', d', e1, e2, e3, e4, e5, e6, e7⟩ := ok.nums
  obtain rfl : k' = k := by omega
  obtain rfl : d' = d := by omega
  have hl2 : l.length ≤ 64 * 64 := by
    have := ok.bd
    unfold Rc.szF at hl
    split at hl
    · omega
    · have := ok.k1; have : 0 ≤ R.k * (R.k - 1) / 2 := by omega
      omega
  refine pure_of cf_regenerate_message rfl fun h => ?_
  unfold c_regenerate_message_0 c_regenerate_message_1
  generalize hC : c_regenerate_message_2 = C2
  simp [hone, hone2]
  intro b2 hb2
  obtain ⟨l0, l3, l4, l5, l6, l7⟩ := ld7_at (hset_same h b2 (R.cells mv pv))
  have hkg : Kp h (hset h b2 (R.cells mv pv)) := (Kp.refl h).new hb2 _
  have hg2 : (hset h b2 (R.cells mv pv)) b2 = some (R.cells mv pv) := hset_same ..
  generalize hset h b2 (R.cells mv pv) = g at *
  by_cases kd : R.kd = 1
  · obtain ⟨f1, f2, f3, f4⟩ := e6 kd
    rw [decide_eq_true kd, msgL_st]
    have hsz := s_sizes ok hone hone2
    rw [f4] at hsz
    generalize ha : k' - 1 = a at *
    simp [l3, kd, l7]
    rw [← kd]
    refine hsz.call ?_
    simp
    refine call0 (w_square (r := a) (c := a) (by omega) (by omega) (by omega) g) fun v1 h1 ⟨q1, o1, bs1, q2, q3, q4, q5⟩ => ?_
    subst q2
    simp
    refine call0 (w_square (r := a) (c := a) (by omega) (by omega) (by omega) h1) fun v2 h2 ⟨t1, o2, bs2, t2, t3, t4, t5⟩ => ?_
    subst t2
    rw [matF_len] at q5 t5
    have q3' := q3.mono t1
    simp [matF_len]
    refine call0 (w_symmetric q3' (n := a) (by omega) (by omega) (by omega) hv (by omega) (by omega)) fun w h3 ⟨r1, r2, r3⟩ => ?_
    have hl3 : bas a a ≤ (l.drop (bas a a)).length := by rw [List.length_drop]; omega
    have d1 : ∀ i j, i < a → j < a → bs1 i ≠ bs2 j := fun i j hi hj he => by
      have := q3.row i (by rw [matF_len]; exact hi)
      rw [he, t5 j hj] at this; cases this
    have d2 : ∀ j, j < a → bs2 j ≠ o1 := fun j hj he => by
      have := q3.out
      rw [← he, t5 j hj] at this; cases this
    have d3 : ∀ j, j < a → bs1 j ≠ o2 := fun j hj he => by
      have := q3.row j (by rw [matF_len]; exact hj)
      rw [he, t4] at this; cases this
    have d4 : o1 ≠ o2 := fun he => by
      have := q3.out
      rw [he, t4] at this; cases this
    have t3' := t3.only r2 (fun j hj => d3 j hj) (fun i j hi hj => by rw [matF_len] at hi; exact (d1 j i hj hi).symm)
    simp
    refine call0 (w_symmetric t3' (n := a) (by omega) (by omega) (by omega) r1 hl3 (by rw [List.length_drop]; omega)) fun w2 h4 ⟨u1, u2, u3⟩ => ?_
    have r3' := r3.only u2 (fun j hj => d2 j hj) (fun i j hi hj => by rw [matF_len] at hi; exact d1 i j hi hj)
    have es : ∀ l', matF a a (eS a l' (fun _ _ => 0) a a) = symL a l' := fun l' => matF_congr fun i j hi hj => by rw [eS_row0, if_pos (by omega)]
    rw [es] at r3' u3
    have kp3 : Kp g h3 := r2.kp (q1.trans t1) q5
    have kp4 : Kp g h4 := u2.kp kp3 fun i hi => q1.no (t5 i hi)
    simp
    have ap := fun R => LM.app2 (R := R) (hkg.trans kp4) r3' u3 (hkg.no q4) (by rw [symL_len]; exact fun i hi => hkg.no (q5 i hi)) (by rw [symL_len]; exact fun i hi => hkg.no (q1.no (t5 i hi))) (by rw [symL_len, symL_len]; exact d1) (by rw [symL_len]; exact d2) (by rw [symL_len, symL_len]; omega)
    rw [symL_len, symL_len] at ap
    refine ap _ fun v h5 hr => ?_
    simp [symL_len]
    rw [List.map_append] at hr
    exact hr
  · have hkd : R.kd = 0 := by rcases ok.kd with hh | hh <;> omega
    obtain ⟨f3, f4⟩ := e7 hkd
    rw [decide_eq_false kd, msgL_bw, matF_len]
    rw [e2] at l5
    rw [e1] at l4
    generalize hcs : R.cells mv pv = cs at *
    simp [l3, kd]
    subst hC
    unfold c_regenerate_message_2 c_regenerate_message_3
    generalize hC : c_regenerate_message_4 = C2
    simp [l5]
    refine call0 (w_square (r := d') (c := d') (by omega) (by omega) (by omega) g) fun v1 h1 ⟨q1, o1, bs1, q2, q3, q4, q5⟩ => ?_
    subst q2
    have l4' := ld_one_at (q1 _ _ hg2) (k := 4) (by rw [← hcs]; simp)
    rw [matF_len] at q5
    subst hcs
    simp [e1] at l4'
    simp [matF_len, l4']
    refine call0 (w_symmetric q3 (n := k') (by omega) (by omega) (by omega) hv (by omega) (by omega)) fun w h3 ⟨r1, r2, r3⟩ => ?_
    have kp3 := (hkg.trans q1)
    have g2' := r2.kp q1 q5 _ _ hg2
    have ne2 : ∀ i, i < d' → bs1 i ≠ b2 := fun i hi he => by have := q5 i hi; rw [he, hg2] at this; cases this
    subst hC
    unfold c_regenerate_message_4
    generalize hC : c_regenerate_message_5 = C2
    obtain ⟨l0', l3', l4', l5', l6', l7'⟩ := ld7_at g2'
    rw [e1] at l4'
    rw [e2] at l5'
    have r3' : LM h3 o1 bs1 (matF d' d' (msgS k' d' l 0 k')) := by
      rw [matF_congr (e' := eS k' l (fun _ _ => 0) k' k') fun i j hi hj => ?_]
      · exact r3
      · rw [eS_row0]
        unfold msgS msgB
        by_cases c : i < k' ∧ j < k'
        · rw [if_pos (by omega), if_pos c, if_pos (by omega)]
        · rw [if_neg (by omega), if_neg (by omega)]
    clear r3
    simp [l4']
    refine awp_for k' (fun i fr' h' => ∃ w, IL w (l.drop (bas k' k' + i * (d' - k'))) ∧ Only bs1 d' h3 h' ∧ LM h' o1 bs1 (matF d' d' (msgS k' d' l i k')) ∧ fr' 10 = w ∧ fr' 49 = I i)
      ⟨w, by simpa using r1, Only.refl _ _ _, r3', by simp, by simp⟩ ?_
    intro i fr' h' hkn hk ⟨w1, hw, ho, hm, k10, k49⟩
    have k2 := hk 2 (by decide)
    have k9 := hk 9 (by decide)
    have k48 := hk 48 (by decide)
    simp at k2 k9 k48
    clear hk
    have g2h := (ho b2 fun i hi => (ne2 i hi).symm).trans g2'
    obtain ⟨_, _, m4, m5, _, _⟩ := ld7_at g2h
    rw [e1] at m4
    rw [e2] at m5
    by_cases hlt : i < k'
    · have u1 : IntKind.i64.wrap ((i : Int) + 1) = i + 1 := w64 _ (by omega)
      unfold c_regenerate_messageL0_0 c_regenerate_messageL0_1 c_regenerate_messageL0_2
      generalize hC3 : c_regenerate_messageL0_3 = C3
      simp [k2, k9, k48, k49, hlt, m4]
      refine awp_for (d' - k') (fun t fr2 h2 => ∃ w, IL w (l.drop (bas k' k' + (i * (d' - k') + t))) ∧ Only bs1 d' h3 h2 ∧ LM h2 o1 bs1 (matF d' d' (msgS k' d' l i (k' + t))) ∧ fr2 10 = w ∧ fr2 12 = I ((k' + t : Nat) : Int))
        ⟨w1, hw, ho, hm, by simp [k10], by simp⟩ ?_
      intro t fr2 h2 htn hk2 ⟨w2, hw2, ho2, hm2, m10, m12⟩
      have n2 := hk2 2 (by decide)
      have n9 := hk2 9 (by decide)
      have n11 := hk2 11 (by decide)
      have n48 := hk2 48 (by decide)
      have n49 := hk2 49 (by decide)
      simp [k2, k9, k48, k49] at n2 n9 n11 n48 n49
      clear hk2
      have g2h := (ho2 b2 fun i hi => (ne2 i hi).symm).trans g2'
      obtain ⟨_, _, _, m5', _, _⟩ := ld7_at g2h
      rw [e2] at m5'
      have hle : i * (d' - k') + (d' - k') ≤ k' * (d' - k') := by
        have : (i + 1) * (d' - k') ≤ k' * (d' - k') := Nat.mul_le_mul_right _ (by omega)
        rwa [Nat.add_mul, Nat.one_mul] at this
      by_cases htl : t < d' - k'
      · have hj : k' + t < d' := by omega
        have hjc2 : (k' : Int) + (t : Int) < (d' : Int) := by omega
        have hrl1 := hm2.ld (i := i) (by rw [matF_len]; omega)
        have hrl2 := hm2.ld (i := k' + t) (by rw [matF_len]; omega)
        rw [matF_rlen (by omega)] at hrl1 hrl2
        have hwl : (l.drop (bas k' k' + (i * (d' - k') + t))).length = l.length - (bas k' k' + (i * (d' - k') + t)) := by simp
        have hia := hw2.iadr (i := 0) ⟨by omega, by omega⟩
        have hld := fun h' => ld_ints (h := h') (l := l.drop (bas k' k' + (i * (d' - k') + t))) (k := 0) (by omega)
        have hval : (l.drop (bas k' k' + (i * (d' - k') + t))).getD 0 0 = l.getD (bas k' k' + (i * (d' - k') + (k' + t - k'))) 0 := by
          have : k' + t - k' = t := by omega
          rw [this]
          simp [List.getD]
        rw [hval] at hld
        simp only [Int.toNat_zero] at hia
        obtain ⟨l1, hm3, hst1⟩ := hm2.setF (i := i) (j := k' + t) (by omega) (by omega) (l.getD (bas k' k' + (i * (d' - k') + (k' + t - k'))) 0)
        obtain ⟨l2, hm4, hst2⟩ := hm3.setF (i := k' + t) (j := i) (by omega) (by omega) (l.getD (bas k' k' + (i * (d' - k') + (k' + t - k'))) 0)
        rw [matF_congr fun a b _ _ => msgS_step hlt (by omega) a b] at hm4
        have ho4 := (ho2.put (i := i) (by omega) (ints l1)).put (i := k' + t) (by omega) (ints l2)
        have hsl := hw2.slcN (lo := 1) (hi := (l.drop (bas k' k' + (i * (d' - k') + t))).length) (by omega) (Nat.le_refl _)
        have hsv := hw2.slv (lo := 1) (hi := (l.drop (bas k' k' + (i * (d' - k') + t))).length) (by omega) (Nat.le_refl _)
        rw [List.take_of_length_le (by simp; omega), List.drop_drop] at hsv
        have hln := hw2.len
        have u2 : IntKind.i64.wrap ((k' : Int) + (t : Int) + 1) = ((k' + (t + 1) : Nat) : Int) := by rw [w64 _ (by omega)]; omega
        have hkr : i < d' := by omega
        have hnn : (0 : Int) ≤ (k' : Int) + (t : Int) := by omega
        have hnt : ((k' : Int) + (t : Int)).toNat = k' + t := by omega
        have hlen1 : (1 : Int) ≤ ((l.drop (bas k' k' + (i * (d' - k') + t))).length : Int) := by omega
        generalize l.getD (bas k' k' + (i * (d' - k') + (k' + t - k'))) 0 = y at *
        generalize l.drop (bas k' k' + (i * (d' - k') + t)) = lw at *
        have hwlen : lw.length = l.length - (bas k' k' + (i * (d' - k') + t)) := hwl
        clear hwl hval
        simp only [List.drop_zero] at hia hld
        simp [n2, n9, n11, m10, m12, m5', hjc2, hkr, hnn, hnt, hrl1, hrl2, hia, hld, hst1, hst2, htl, hln, hlen1, hsl, u2]
        exact ⟨_, by simpa [Nat.add_assoc] using hsv, ho4, hm4, rfl⟩
      · have : t = d' - k' := by omega
        subst this
        have e1' : k' + (d' - k') = d' := by omega
        rw [e1'] at hm2 m12
        simp [n2, m12, m5']
        subst hC3
        simp [n49, u1, hlt]
        refine ⟨w2, by simpa [Nat.add_mul] using hw2, ho2, ?_, by simpa using m10⟩
        rw [matF_congr fun a b ha hb => msgS_row hlt ha hb] at hm2
        exact hm2
    · have : i = k' := by omega
      subst this
      subst hC
      simp [k48, k49, k9]
      rw [matF_congr (e' := msgB i d' l) fun a b ha hb => ?_] at hm
      · have kpn : Kp h h' := ho.kp (hkg.trans (r2.kp q1 q5)) fun j hj => hkg.no (q5 j hj)
        have fz := hm.frz kpn (hkg.no q4) (by rw [matF_len]; exact fun j hj => hkg.no (q5 j hj))
        rw [matF_len] at fz
        exact ⟨_, fz.1, fz.2, rfl⟩
      · unfold msgS
        by_cases c : min a b < i
        · rw [if_pos (.inl c)]
        · rw [if_neg (by omega), msgB, if_neg (by omega), if_neg (by omega), if_neg (by omega)]
end Go.AM.Ytmihmgnjnedfcaa
end

section
/- Contracts of functions: the reference's message matrix. -/
set_option maxRecDepth 100000
set_option linter.unusedSimpArgs false
set_option linter.unusedVariables false
namespace Go.AM.Ytmihmgnjnedfcaa
open Go Go.AM
attribute [local simp ↓] awp_seq awp_reg awp_skip awp_cond' awp_block awp_exit awp_ret awp_fz thenW_normal thenW_exit thenW_ret inBlk_normal inBlk_exit inBlk_ret aops_cons' contA_ap aops_nil e_mv e_guard' e_pick' e_ld' e_app e_cpy e_st' e_call callW_f updO_some updO_none e_bin' e_isnil' e_fadr' e_iadr' e_iarr' e_len' e_build' e_mkf' e_nc' e_not' e_neg' e_cvt' e_slc' e_fld' e_ext' e_min' e_eqs' e_new e_box e_mkl e_mks
attribute [local simp] upd_apply ev_t ev_k ev_f binA_add binA_sub binA_mul binA_quo binA_rem binA_eql binA_neq binA_lss binA_leq binA_gtr binA_geq det mem frame0 keeps_nil iadrA_sl fadrA_ref fadrA_fp ldv_agg ldv_one cells_base hset_same hset_hset lenA_fs lenA_sl lenA_nils zeros_ints ints_length one_base one_nilp one_nils one_ref one_sl one_fp one_fs one_fn gl_one resA resOf bound natOf afill splice AV.cells cells_agg bindR_some condR_true condR_false guardR_tup guardR_true guardR_true' guardR_false guardR_false' allocW_some pickA_true pickA_false
open Go.FM

/-- A row, as far as it is made. -/
def rowP (d : Nat) (e : Nat → Int) (j : Nat) : List Int := (List.range d).map fun c => if c < j then e c else 0
theorem rowP_set {d : Nat} {e : Nat → Int} {j : Nat} : (rowP d e j).set j (e j) = rowP d e (j + 1) := by
  unfold rowP
  rw [rmap_set]
  refine List.map_congr_left fun c _ => ?_
  by_cases h : c = j
  · subst h; simp
  · by_cases h2 : c < j
    · rw [if_neg h, if_pos h2, if_pos (by omega)]
    · rw [if_neg h, if_neg h2, if_neg (by omega)]
theorem rowP_zero {d : Nat} {e : Nat → Int} : rowP d e 0 = List.replicate d 0 := by
  refine List.eq_replicate_iff.2 ⟨by simp [rowP], fun x hx => ?_⟩
  obtain ⟨i, _, rfl⟩ := List.mem_map.1 hx
  simp
theorem rowP_len {d : Nat} {e : Nat → Int} {j : Nat} : (rowP d e j).length = d := by simp [rowP]
theorem rowP_skip {d : Nat} {e : Nat → Int} {j : Nat} (h : e j = 0) : rowP d e (j + 1) = rowP d e j := by
  unfold rowP
  refine List.map_congr_left fun c _ => ?_
  by_cases h2 : c < j
  · rw [if_pos h2, if_pos (by omega)]
  · by_cases h3 : c = j
    · subst h3; rw [if_neg h2, if_pos (by omega), h]
    · rw [if_neg h2, if_neg (by omega)]
theorem rowP_all {d : Nat} {e : Nat → Int} : rowP d e d = (List.range d).map e := by
  unfold rowP
  refine List.map_congr_left fun c hc => ?_
  rw [if_pos (List.mem_range.1 hc)]
theorem matF_snoc (k d : Nat) (e : Nat → Nat → Int) : matF (k + 1) d e = matF k d e ++ [(List.range d).map (e k)] := by
  simp [matF, List.range_succ]

theorem GrP.ldx {h h' : Hp} {v : AV} {L : List (List Int)} {b : Nat} {l : List Int} (g : GrP h h' v L b l) : h' b = some (ints l) := g.ld

set_option maxHeartbeats 8000000 in
theorem s_refMessage {R : Rc} (ok : R.Okn) {mv pv fv : AV} (hone : one mv = true) (hone2 : one pv = true) {l : List Int} (hv : IL fv l) (hl : (l.length : Int) = R.szF) {k d : Nat} (hk : R.k = k) (hd : R.d = d) :
    Pure prog n_ref52_Message [.agg (R.cells mv pv), fv] (.fs (msgL (decide (R.kd = 1)) k d l).length ((msgL (decide (R.kd = 1)) k d l).map frow)) := by
  obtain ⟨k', d', e1, e2, e3, e4, e5, e6, e7⟩ := ok.nums
  obtain rfl : k' = k := by omega
  obtain rfl : d' = d := by omega
  have hl2 : l.length ≤ 64 * 64 := by
    have := ok.bd
    unfold Rc.szF at hl
    split at hl
    · omega
    · have := ok.k1; have : 0 ≤ R.k * (R.k - 1) / 2 := by omega
      omega
  refine pure_of cf_ref52_Message rfl fun h => ?_
  unfold c_ref52_Message_0 c_ref52_Message_1
  generalize hC : c_ref52_Message_2 = C2
  simp [hone, hone2]
  intro b2 hb2
  obtain ⟨l0, l3, l4, l5, l6, l7⟩ := ld7_at (hset_same h b2 (R.cells mv pv))
  have hkg : Kp h (hset h b2 (R.cells mv pv)) := (Kp.refl h).new hb2 _
  have hg2 : (hset h b2 (R.cells mv pv)) b2 = some (R.cells mv pv) := hset_same ..
  generalize hset h b2 (R.cells mv pv) = g at *
  rw [e2] at l5
  rw [e1] at l4
  by_cases kd : R.kd = 1
  · obtain ⟨f1, f2, f3, f4⟩ := e6 kd
    rw [decide_eq_true kd, msgL_st]
    generalize ha : k' - 1 = a at *
    have hka : (k' : Int) - 1 = a := by omega
    have u1 : IntKind.i64.wrap ((k' : Int) - 1) = a := by rw [w64 _ (by omega)]; exact hka
    have hlen : (l.length : Int) = ((2 * bas a a : Nat) : Int) := by omega
    have u2 : (l.length : Int).tdiv 2 = ((bas a a : Nat) : Int) := by rw [Int.tdiv_eq_ediv_of_nonneg (by omega)]; omega
    have u3 : IntKind.i64.wrap ((bas a a : Nat) : Int) = ((bas a a : Nat) : Int) := w64 _ (by omega)
    have s1 := hv.slcN (lo := 0) (hi := bas a a) (by omega) (by omega)
    have s2 := hv.slcN (lo := bas a a) (hi := l.length) (by omega) (Nat.le_refl _)
    have i1 := hv.slv (lo := 0) (hi := bas a a) (by omega) (by omega)
    have i2 := hv.slv (lo := bas a a) (hi := l.length) (by omega) (Nat.le_refl _)
    rw [List.drop_zero, Nat.sub_zero] at i1
    rw [List.take_of_length_le (by simp)] at i2
    have hbl : ((bas a a : Nat) : Int) ≤ l.length := by omega
    have hbl' : bas a a ≤ l.length := by omega
    simp [l3, kd, hv.len, u2, u3, l4, u1, s1, s2, hbl, hbl']
    refine call2 (w_refSymmetric (n := a) (by omega) (by omega) i1 (by rw [List.length_take]; omega) (by rw [List.length_take]; omega) g) fun v1 h1 ⟨q1, o1, bs1, q2, q3, q4, q5⟩ => ⟨q1, ?_⟩
    subst q2
    simp
    refine call2 (w_refSymmetric (n := a) (by omega) (by omega) i2 (by rw [List.length_drop]; omega) (by rw [List.length_drop]; omega) h1) fun v2 h2 ⟨t1, o2, bs2, t2, t3, t4, t5⟩ => ⟨t1, ?_⟩
    subst t2
    rw [symL_len] at q5 t5
    have q3' := q3.mono t1
    have d1 : ∀ i j, i < a → j < a → bs1 i ≠ bs2 j := fun i j hi hj he => by
      have := q3.row i (by rw [symL_len]; exact hi)
      rw [he, t5 j hj] at this; cases this
    have d2 : ∀ j, j < a → bs2 j ≠ o1 := fun j hj he => by
      have := q3.out
      rw [← he, t5 j hj] at this; cases this
    have hs : symL a (l.take (bas a a)) = symL a l := symL_congr fun i hi => by simp [List.getD, hi]
    rw [hs] at q3'
    simp [symL_len]
    have ap := fun R => LM.app2 (R := R) (hkg.trans (q1.trans t1)) q3' t3 (hkg.no q4) (by rw [symL_len]; exact fun i hi => hkg.no (q5 i hi)) (by rw [symL_len]; exact fun i hi => hkg.no (q1.no (t5 i hi))) (by rw [symL_len, symL_len]; exact d1) (by rw [symL_len]; exact d2) (by rw [symL_len, symL_len]; omega)
    rw [symL_len, symL_len] at ap
    refine ap _ fun v h5 hr => ?_
    simp
    rw [List.map_append] at hr
    exact hr
  · have hkd : R.kd = 0 := by rcases ok.kd with hh | hh <;> omega
    obtain ⟨f3, f4⟩ := e7 hkd
    rw [decide_eq_false kd, msgL_bw, matF_len]
    have hkk : ((k' : Int) * (k' + 1)) = ((2 * bas k' k' : Nat) : Int) := by rw [bas_all]; push_cast; rw [Int.mul_add, Int.mul_one]
    have hbs : 2 * bas k' k' ≤ 64 * 64 + 64 := by
      rw [bas_all]
      have : k' * k' ≤ 64 * 64 := Nat.mul_le_mul (by omega) (by omega)
      omega
    have u1 : IntKind.i64.wrap ((k' : Int) + 1) = k' + 1 := w64 _ (by omega)
    have u2 : IntKind.i64.wrap (((2 * bas k' k' : Nat) : Int)) = ((2 * bas k' k' : Nat) : Int) := w64 _ (by omega)
    have u3 : (((2 * bas k' k' : Nat) : Int)).tdiv 2 = ((bas k' k' : Nat) : Int) := by rw [Int.tdiv_eq_ediv_of_nonneg (by omega)]; omega
    have u4 : IntKind.i64.wrap ((bas k' k' : Nat) : Int) = ((bas k' k' : Nat) : Int) := w64 _ (by omega)
    have s1 := hv.slcN (lo := 0) (hi := bas k' k') (by omega) (by omega)
    have s2 := hv.slcN (lo := bas k' k') (hi := l.length) (by omega) (Nat.le_refl _)
    have i1 := hv.slv (lo := 0) (hi := bas k' k') (by omega) (by omega)
    have i2 := hv.slv (lo := bas k' k') (hi := l.length) (by omega) (Nat.le_refl _)
    rw [List.drop_zero, Nat.sub_zero] at i1
    rw [List.take_of_length_le (by simp)] at i2
    have hbl : ((bas k' k' : Nat) : Int) ≤ l.length := by omega
    have hbl' : bas k' k' ≤ l.length := by omega
    generalize hcs : R.cells mv pv = cs at *
    simp [l3, kd]
    subst hC
    unfold c_ref52_Message_2
    generalize hC : c_ref52_Message_3 = C2
    simp [l4, u1, hkk]
    push_cast at u2 u3
    simp [u2, u3, u4, s1, hbl, hbl', hv.len]
    refine call2 (w_refSymmetric (n := k') (by omega) (by omega) i1 (by rw [List.length_take]; omega) (by rw [List.length_take]; omega) g) fun v1 h1 ⟨q1, o1, bs1, q2, q3, q4, q5⟩ => ⟨q1, ?_⟩
    subst q2
    have hs : symL k' (l.take (bas k' k')) = symL k' l := symL_congr fun i hi => by simp [List.getD, hi]
    rw [hs] at q3
    subst hcs
    have g2' := q1 _ _ hg2
    obtain ⟨l0', l3', l4', l5', l6', l7'⟩ := ld7_at g2'
    rw [e1] at l4'
    rw [e2] at l5'
    subst hC
    unfold c_ref52_Message_3 c_ref52_Message_4 c_ref52_Message_5
    generalize hC : c_ref52_Message_6 = C2
    simp [l4', u1, hkk]
    simp [u2, u3, u4, s2, hbl, hbl', symL_len, hv.len]
    generalize slv fv (bas k' k') l.length 1 = w7 at *
    refine awp_for d' (fun i fr' h' => GrM h1 h' (fr' 8) (matF i d' (msgB k' d' l)) ∧ fr' 9 = I i) ⟨by simpa [matF] using GrM.nils h1, by simp⟩ ?_
    intro i fr' h' hkn hk ⟨gr, k9⟩
    have k2 := hk 2 (by decide)
    have k6 := hk 6 (by decide)
    have k7 := hk 7 (by decide)
    simp at k2 k6 k7
    clear hk
    obtain ⟨_, _, _, m5, _, _⟩ := ld7_at (gr.kp _ _ g2')
    rw [e2] at m5
    by_cases hlt : i < d'
    · have u5 : IntKind.i64.wrap ((i : Int) + 1) = i + 1 := w64 _ (by omega)
      have hd4 : (d' : Int) ≤ 4294967296 := by omega
      unfold c_ref52_MessageL0_0 c_ref52_MessageL0_1
      generalize hC3 : c_ref52_MessageL0_2 = C3
      rw [matF_snoc]
      simp [k2, k9, m5, hlt, hd4]
      intro b hb
      have gp := gr.new hb (List.replicate d' 0)
      rw [← rowP_zero (e := msgB k' d' l i)] at gp
      refine awp_for d' (fun j fr2 h2 => GrP h1 h2 (fr2 8) (matF i d' (msgB k' d' l)) b (rowP d' (msgB k' d' l i) j) ∧ fr2 11 = I j) ⟨by simpa [rowP_zero] using gp, by simp⟩ ?_
      clear gp hb gr m5
      intro j fr2 h2 hjn hk2 ⟨gp, m11⟩
      have n2 := hk2 2 (by decide)
      have n6 := hk2 6 (by decide)
      have n7 := hk2 7 (by decide)
      have n9 := hk2 9 (by decide)
      have n10 := hk2 10 (by decide)
      simp [k2, k6, k7, k9] at n2 n6 n7 n9 n10
      clear hk2
      obtain ⟨_, _, m4, m5, _, _⟩ := ld7_at (gp.kp _ _ g2')
      rw [e1] at m4
      rw [e2] at m5
      by_cases hjt : j < d'
      · have u6 : IntKind.i64.wrap ((j : Int) + 1) = j + 1 := w64 _ (by omega)
        have hdk : (d' : Int) - k' = ((d' - k' : Nat) : Int) := by omega
        have u7 : IntKind.i64.wrap ((d' : Int) - k') = ((d' - k' : Nat) : Int) := by rw [w64 _ (by omega)]; omega
        have hst := fun R => sr_ints (R := R) (v := msgB k' d' l i j) gp.ld (k := j) (by rw [rowP_len]; exact hjt)
        rw [rowP_set] at hst
        have gs := gp.set (rowP d' (msgB k' d' l i) (j + 1))
        by_cases ci : i < k'
        · by_cases cj : j < k'
          · have hrl := (q3.mono gp.kp).ld (i := i) (by rw [symL_len]; exact ci)
            rw [show ((symL k' l).getD i []).length = k' from matF_rlen ci] at hrl
            have hld := ld_ints_at ((q3.mono gp.kp).row i (by rw [symL_len]; exact ci)) (k := j) (by rw [show ((symL k' l).getD i []).length = k' from matF_rlen ci]; exact cj)
            have hval : ((symL k' l).getD i []).getD j 0 = msgB k' d' l i j := by
              rw [msgB, if_pos ⟨ci, cj⟩, symL, matF_row ci]
              simp [List.getD, cj]
            rw [hval] at hld
            generalize msgB k' d' l i j = y at *
            simp [n2, n6, n9, n10, m4, m5, m11, hjt, ci, cj, hrl, hld, hst, u6]
            exact gs
          · have hmul : i * (d' - k') + (d' - k') ≤ k' * (d' - k') := by
              have : (i + 1) * (d' - k') ≤ k' * (d' - k') := Nat.mul_le_mul_right _ (by omega)
              rwa [Nat.add_mul, Nat.one_mul] at this
            have hmm : (i : Int) * ((d' - k' : Nat) : Int) = ((i * (d' - k') : Nat) : Int) := by push_cast; rfl
            have v1 : IntKind.i64.wrap (((i * (d' - k') : Nat) : Int)) = ((i * (d' - k') : Nat) : Int) := w64 _ (by omega)
            have v2 : IntKind.i64.wrap (((i * (d' - k') : Nat) : Int) + j) = ((i * (d' - k') : Nat) : Int) + j := w64 _ (by omega)
            have v3 : IntKind.i64.wrap (((i * (d' - k') : Nat) : Int) + j - k') = ((i * (d' - k') + (j - k') : Nat) : Int) := by rw [w64 _ (by omega)]; omega
            have hdl : (l.drop (bas k' k')).length = l.length - bas k' k' := by simp
            have hia := i2.iadr (i := ((i * (d' - k') + (j - k') : Nat) : Int)) ⟨by omega, by omega⟩
            have hld := fun h' => ld_ints (h := h') (l := l.drop (bas k' k')) (k := i * (d' - k') + (j - k')) (by omega)
            have hval : (l.drop (bas k' k')).getD (i * (d' - k') + (j - k')) 0 = msgB k' d' l i j := by
              rw [msgB, if_neg (by omega), if_pos ci]; simp [List.getD]
            rw [hval] at hld
            rw [Int.toNat_natCast] at hia
            generalize msgB k' d' l i j = y at *
            generalize i * (d' - k') + (j - k') = ix at *
            generalize i * (d' - k') = im at *
            generalize d' - k' = dk at *
            simp [n2, n7, n9, n10, m4, m5, m11, hjt, ci, cj, hst, u6, u7, hmm, v1, v2, v3, hia, hld]
            exact gs
        · by_cases cj : j < k'
          · have hmul : j * (d' - k') + (d' - k') ≤ k' * (d' - k') := by
              have : (j + 1) * (d' - k') ≤ k' * (d' - k') := Nat.mul_le_mul_right _ (by omega)
              rwa [Nat.add_mul, Nat.one_mul] at this
            have hmm : (j : Int) * ((d' - k' : Nat) : Int) = ((j * (d' - k') : Nat) : Int) := by push_cast; rfl
            have v1 : IntKind.i64.wrap (((j * (d' - k') : Nat) : Int)) = ((j * (d' - k') : Nat) : Int) := w64 _ (by omega)
            have v2 : IntKind.i64.wrap (((j * (d' - k') : Nat) : Int) + i) = ((j * (d' - k') : Nat) : Int) + i := w64 _ (by omega)
            have v3 : IntKind.i64.wrap (((j * (d' - k') : Nat) : Int) + i - k') = ((j * (d' - k') + (i - k') : Nat) : Int) := by rw [w64 _ (by omega)]; omega
            have hdl : (l.drop (bas k' k')).length = l.length - bas k' k' := by simp
            have hia := i2.iadr (i := ((j * (d' - k') + (i - k') : Nat) : Int)) ⟨by omega, by omega⟩
            have hld := fun h' => ld_ints (h := h') (l := l.drop (bas k' k')) (k := j * (d' - k') + (i - k')) (by omega)
            have hval : (l.drop (bas k' k')).getD (j * (d' - k') + (i - k')) 0 = msgB k' d' l i j := by
              rw [msgB, if_neg (by omega), if_neg ci, if_pos cj]; simp [List.getD]
            rw [hval] at hld
            rw [Int.toNat_natCast] at hia
            generalize msgB k' d' l i j = y at *
            generalize j * (d' - k') + (i - k') = ix at *
            generalize j * (d' - k') = im at *
            generalize d' - k' = dk at *
            simp [n2, n7, n9, n10, m4, m5, m11, hjt, ci, cj, hst, u6, u7, hmm, v1, v2, v3, hia, hld]
            exact gs
          · have hz : msgB k' d' l i j = 0 := by rw [msgB, if_neg (by omega), if_neg ci, if_neg cj]
            rw [rowP_skip hz]
            simp [n2, n9, n10, m4, m5, m11, hjt, ci, cj, u6]
            exact gp
      · have : j = d' := by omega
        subst this
        subst hC3
        rw [rowP_all] at gp
        simp [n2, n9, n10, m5, m11]
        intro b5 hb5
        have ap := fun R => gp.app (R := R) hb5 (by rw [matF_len]; omega)
        rw [List.length_map, List.length_range] at ap
        refine ap _ fun v' h5 g5 => ?_
        simp [n9, u5, hlt]
        exact g5
    · have : i = d' := by omega
      subst this
      subst hC
      simp [k2, k9, m5]
      have := gr.ret (hkg.trans q1)
      unfold gml gl at this
      rw [if_neg (by rw [matF_len]; omega), matF_len] at this
      exact this
end Go.AM.Ytmihmgnjnedfcaa
end

section
/- Contracts of functions: Encode, on both sides. -/
set_option maxRecDepth 100000
set_option linter.unusedSimpArgs false
set_option linter.unusedVariables false
namespace Go.AM.Ytmihmgnjnedfcaa
open Go Go.AM
attribute [local simp ↓] awp_seq awp_reg awp_skip awp_cond' awp_block awp_exit awp_ret awp_fz thenW_normal thenW_exit thenW_ret inBlk_normal inBlk_exit inBlk_ret aops_cons' contA_ap aops_nil e_mv e_guard' e_pick' e_ld' e_app e_cpy e_st' e_call callW_f updO_some updO_none e_bin' e_isnil' e_fadr' e_iadr' e_iarr' e_len' e_build' e_mkf' e_nc' e_not' e_neg' e_cvt' e_slc' e_fld' e_ext' e_min' e_eqs' e_new e_box e_mkl e_mks
attribute [local simp] upd_apply ev_t ev_k ev_f binA_add binA_sub binA_mul binA_quo binA_rem binA_eql binA_neq binA_lss binA_leq binA_gtr binA_geq det mem frame0 keeps_nil iadrA_sl fadrA_ref fadrA_fp ldv_agg ldv_one cells_base hset_same hset_hset lenA_fs lenA_sl lenA_nils zeros_ints ints_length one_base one_nilp one_nils one_ref one_sl one_fp one_fs one_fn gl_one resA resOf bound natOf afill splice AV.cells cells_agg bindR_some condR_true condR_false guardR_tup guardR_true guardR_true' guardR_false guardR_false' allocW_some pickA_true pickA_false
open Go.FM

theorem msgL_len {R : Rc} (ok : R.Okn) {k d : Nat} (hk : R.k = k) (hd : R.d = d) (l : List Int) : (msgL (decide (R.kd = 1)) k d l).length = d := by
  obtain ⟨k', d', e1, e2, e3, e4, e5, e6, e7⟩ := ok.nums
  obtain rfl : k' = k := by omega
  obtain rfl : d' = d := by omega
  by_cases kd : R.kd = 1
  · obtain ⟨f1, f2, f3, f4⟩ := e6 kd
    rw [decide_eq_true kd, msgL_st, List.length_append, symL_len, symL_len]; omega
  · rw [decide_eq_false kd, msgL_bw, matF_len]

theorem matF_mem {r c : Nat} {e : Nat → Nat → Int} {row : List Int} (h : row ∈ matF r c e) : row.length = c ∧ ∀ x ∈ row, ∃ i j, x = e i j := by
  obtain ⟨i, _, rfl⟩ := List.mem_map.1 h
  refine ⟨by simp, fun x hx => ?_⟩
  obtain ⟨j, _, rfl⟩ := List.mem_map.1 hx
  exact ⟨i, j, rfl⟩

theorem msgL_row {R : Rc} (ok : R.Okn) {k d : Nat} (hk : R.k = k) (hd : R.d = d) {l : List Int} {row : List Int} (h : row ∈ msgL (decide (R.kd = 1)) k d l) : (row.length : Int) = R.szN ∧ ∀ x ∈ row, x = 0 ∨ ∃ i, x = l.getD i 0 := by
  obtain ⟨k', d', e1, e2, e3, e4, e5, e6, e7⟩ := ok.nums
  obtain rfl : k' = k := by omega
  obtain rfl : d' = d := by omega
  by_cases kd : R.kd = 1
  · obtain ⟨f1, f2, f3, f4⟩ := e6 kd
    rw [decide_eq_true kd, msgL_st] at h
    rcases List.mem_append.1 h with h | h
    · obtain ⟨h1, h2⟩ := matF_mem h
      refine ⟨by omega, fun x hx => ?_⟩
      obtain ⟨i, j, rfl⟩ := h2 x hx
      exact .inr ⟨_, rfl⟩
    · obtain ⟨h1, h2⟩ := matF_mem h
      refine ⟨by omega, fun x hx => ?_⟩
      obtain ⟨i, j, rfl⟩ := h2 x hx
      refine .inr ⟨bas (k' - 1) (k' - 1) + ixS (k' - 1) (min i j) (max i j), ?_⟩
      simp [List.getD]
  · have hkd : R.kd = 0 := by rcases ok.kd with hh | hh <;> omega
    obtain ⟨f3, f4⟩ := e7 hkd
    rw [decide_eq_false kd, msgL_bw] at h
    obtain ⟨h1, h2⟩ := matF_mem h
    refine ⟨by omega, fun x hx => ?_⟩
    obtain ⟨i, j, rfl⟩ := h2 x hx
    unfold msgB
    split
    · exact .inr ⟨_, rfl⟩
    · split
      · exact .inr ⟨_, rfl⟩
      · split
        · exact .inr ⟨_, rfl⟩
        · exact .inl rfl

/-- The message matrix of a code. -/
def Rc.msg (R : Rc) (l : List Int) : List (List Int) := msgL (decide (R.kd = 1)) R.k.toNat R.d.toNat l
/-- The contents of all nodes. -/
def Rc.enc (R : Rc) (l : List Int) : List (List Int) := R.pts.map fun x => combK R.D (pwL R.D x R.d.toNat) (R.msg l) R.szN.toNat R.d.toNat
open Classical in
noncomputable def Rc.encE (R : Rc) (l : List Int) : Int := if R.E ≠ 0 then R.E else elE R.D l R.szF
open Classical in
noncomputable def Rc.encR (R : Rc) (l : List Int) : AV := if R.encE l = 0 then .tup [gml (R.enc l), I 0] else .tup [.nils, I (R.encE l)]

theorem elE_zero {D : Ds} {l : List Int} {n : Int} (h : elE D l n = 0) : (l.length : Int) = n ∧ ∀ x ∈ l, D.R x := by
  unfold elE at h
  split at h
  · omega
  · rename_i h1
    split at h
    · rename_i h2; exact ⟨by omega, h2⟩
    · omega

theorem R_zero {D : Ds} (r : Rg D) : D.R 0 := ⟨by omega, by have := r.toOk.q2; omega⟩
theorem getD_R {D : Ds} (r : Rg D) {l : List Int} (h : ∀ x ∈ l, D.R x) (i : Nat) : D.R (l.getD i 0) := by
  by_cases hi : i < l.length
  · exact h _ (mem_getD hi)
  · rw [show l.getD i 0 = 0 by simp [List.getD, List.getElem?_eq_none (show l.length ≤ i by omega)]]; exact R_zero r

theorem mulE_enc {R : Rc} (hE : R.E = 0) {l : List Int} (hl : ∀ x ∈ l, R.D.R x) : mulR R.p R.m R.mo R.d (R.pts.map fun x => pwL R.D x R.d.toNat) R.szN (R.msg l) = .tup [.agg [I R.szN, gml (R.enc l)], I 0] := by
  classical
  obtain ⟨hf, e2, e3, ok, e5, e6, _⟩ := Rc.E0 hE
  have r := hf.fd
  obtain ⟨k, d, n1, n2, n3, n4, n5, _⟩ := ok.nums
  have hk : R.k.toNat = k := by omega
  have hd : R.d.toNat = d := by omega
  have hsn := ok.szN
  have hml := msgL_len ok n1 n2 l
  have c1 : chkE R.D R.d (R.pts.map fun x => pwL R.D x R.d.toNat) = 0 := by
    unfold chkE
    rw [if_neg (by rw [List.length_map]; omega), if_neg, if_pos]
    · intro row hr x hx
      obtain ⟨y, hy, rfl⟩ := List.mem_map.1 hr
      obtain ⟨i, _, rfl⟩ := pwL_mem.1 hx
      exact r.toOk.pwR y i
    · intro hc
      apply hc
      intro row hr
      obtain ⟨y, hy, rfl⟩ := List.mem_map.1 hr
      rw [pwL_len]; omega
  have c2 : chkE R.D R.szN (R.msg l) = 0 := by
    unfold chkE Rc.msg
    rw [hk, hd, if_neg (by rw [hml]; omega), if_neg, if_pos]
    · intro row hr x hx
      rcases (msgL_row ok n1 n2 hr).2 x hx with rfl | ⟨i, rfl⟩
      · exact R_zero r.toRg
      · exact getD_R r.toRg hl i
    · intro hc
      apply hc
      intro row hr
      exact (msgL_row ok n1 n2 hr).1
  have ho : openE R.p R.m R.mo [(R.d, R.pts.map fun x => pwL R.D x R.d.toNat), (R.szN, R.msg l)] = 0 := by
    unfold openE
    rw [if_pos hf]
    simp only [chkAll]
    rw [if_neg (by simpa using c1), if_neg (by simpa using c2)]
  have he : mulE R.p R.m R.mo R.d (R.pts.map fun x => pwL R.D x R.d.toNat) R.szN (R.msg l) = 0 := by
    unfold mulE
    rw [if_neg (by simpa using ho), if_neg]
    unfold Rc.msg
    rw [hk, hd, hml]; omega
  unfold mulR
  rw [if_pos he]
  have : mulL R.D (R.pts.map fun x => pwL R.D x R.d.toNat) (R.msg l) R.szN.toNat = R.enc l := by
    unfold mulL Rc.enc
    rw [List.map_map]
    refine List.map_congr_left fun x _ => ?_
    simp only [Function.comp_apply, pwL_len]
  rw [this]

set_option maxHeartbeats 4000000 in
theorem s_Encode {R : Rc} {mv pv v : AV} (hmv : IL mv R.mo) (hml : R.mo.length < 4611686018427387904) (hpv : IL pv R.pts) (hpl : R.pts.length < 4611686018427387904) {l : List Int} (hv : IL v l) (hll : l.length < 4611686018427387904) :
    Pure prog n_regenerate_Encode [.agg (R.cells mv pv), v] (R.encR l) := by
  classical
  refine pure_of cf_regenerate_Encode rfl fun h => ?_
  have hone := hmv.one
  have hone2 := hpv.one
  simp [hone, hone2]
  intro b2 hb2
  obtain ⟨l0, l3, l4, l5, l6, l7⟩ := ld7_at (hset_same h b2 (R.cells mv pv))
  have hkg : Kp h (hset h b2 (R.cells mv pv)) := (Kp.refl h).new hb2 _
  generalize hset h b2 (R.cells mv pv) = g at *
  have bad : ∀ e, R.encE l = e → e ≠ 0 → RetP h (R.encR l) (.tup [.nils, I e]) g := fun e he h0 => by
    rw [Rc.encR, if_neg (by rw [he]; exact h0), he]; exact ⟨_, hkg.sub, .id _, rfl⟩
  simp [l7]
  refine (s_regCheck hmv hml hpv hpl).call ?_
  by_cases hE : R.E = 0
  case neg =>
    simp [hE]
    exact bad _ (by rw [Rc.encE, if_pos hE]) hE
  have hE2 : R.encE l = elE R.D l R.szF := by rw [Rc.encE, if_neg (by simpa using hE)]
  obtain ⟨hf, e2, e3, ok, e5, _⟩ := Rc.E0 hE
  have r := hf.fd
  rw [hE]
  simp [l0]
  refine (s_New R.p R.m hmv hml).call ?_
  rw [newR_pos hf]
  simp [l7]
  refine (s_sizes ok hone hone2).call ?_
  simp
  refine (s_elements r hv hll R.szF).call ?_
  by_cases he : elE R.D l R.szF = 0
  case neg =>
    simp [he]
    exact bad _ hE2 he
  rw [he]
  obtain ⟨hlen, hlR⟩ := elE_zero he
  have hV : R.encR l = .tup [gml (R.enc l), I 0] := by rw [Rc.encR, if_pos (by rw [hE2, he])]
  rw [hV]
  obtain ⟨k, d, n1, n2, n3, n4, n5, _⟩ := ok.nums
  have hk : R.k.toNat = k := by omega
  have hd : R.d.toNat = d := by omega
  have hrw := s_rows r hpv (by omega) d (by omega)
  have hms := s_message ok hone hone2 hv hlen n1 n2
  have hmu := s_matMul (p := R.p) (m := R.m) hmv hml (ca := R.d) (cb := R.szN) (ML_gml (R.pts.map fun x => pwL R.D x R.d.toNat)) (ML_fs (R.msg l)) ⟨by rw [List.length_map]; omega, fun row hr => by
      obtain ⟨y, hy, rfl⟩ := List.mem_map.1 hr
      rw [pwL_len]; omega⟩ ⟨by unfold Rc.msg; rw [hk, hd, msgL_len ok n1 n2]; omega, fun row hr => by
      unfold Rc.msg at hr
      rw [hk, hd] at hr
      have := (msgL_row ok n1 n2 hr).1
      have := ok.szN
      omega⟩
  rw [mulE_enc hE hlR] at hmu
  unfold Rc.msg at hmu
  rw [hk, hd] at hmu
  rw [n2] at hmu
  rw [n2] at l5
  generalize hcs : R.cells mv pv = cs at *
  have l7' : cellsAt g (.ref b2 0) 7 = some cs := by rw [← hcs]; exact l7
  simp [l0, l6, l5, l7']
  refine hrw.call ?_
  simp
  refine hms.call ?_
  simp
  refine hmu.call ?_
  simp
  intro b12 hb12
  have sra := fun R' => sr_all (R := R') (cs' := [I R.szN, gml (R.enc l)]) (hset_same g b12 [I 0, .nils]) (n := 2) rfl rfl (by
    show (one (I R.szN) && (one (gml (R.enc l)) && true)) = true
    rw [show one (gml (R.enc l)) = true from gl_one ..]; rfl)
  have ls := lq_snd (hset_same g b12 [I R.szN, gml (R.enc l)])
  simp [sra, ls]
  exact ⟨_, (hkg.new hb12 _).sub, .id _, rfl⟩
set_option maxHeartbeats 4000000 in
theorem s_refEncode {R : Rc} (hE : R.E = 0) {mv pv v : AV} (hmv : IL mv R.mo) (hpv : IL pv R.pts) {l : List Int} (hv : IL v l) (hlen : (l.length : Int) = R.szF) :
    Pure prog n_ref52_Encode [.agg (R.cells mv pv), v] (gml (R.enc l)) := by
  refine pure_of cf_ref52_Encode rfl fun h => ?_
  have hone := hmv.one
  have hone2 := hpv.one
  obtain ⟨hf, e2, e3, ok, e5, _⟩ := Rc.E0 hE
  have r := hf.fd
  obtain ⟨k, d, n1, n2, n3, n4, n5, _⟩ := ok.nums
  have hsn := ok.szN
  have hms := s_refMessage ok hone hone2 hv hlen n1 n2
  have hM : ML (.fs (msgL (decide (R.kd = 1)) k d l).length ((msgL (decide (R.kd = 1)) k d l).map frow)) (msgL (decide (R.kd = 1)) k d l) := ML_fs _
  have hm1 := msgL_len ok n1 n2 l
  have hm2 := fun row hr => (msgL_row (row := row) ok n1 n2 (l := l) hr).1
  obtain ⟨a, ha⟩ : ∃ a : Nat, R.szN = a := ⟨R.szN.toNat, by omega⟩
  have hen : R.enc l = R.pts.map fun x => combK R.D (pwL R.D x d) (msgL (decide (R.kd = 1)) k d l) a d := by
    have hk : R.k.toNat = k := by omega
    have hd : R.d.toNat = d := by omega
    have ha' : R.szN.toNat = a := by omega
    unfold Rc.enc Rc.msg
    rw [hk, hd, ha']
  rw [hen]
  have hsz := s_refSize ok hone hone2
  rw [ha] at hsz hm2
  generalize msgL (decide (R.kd = 1)) k d l = M at *
  simp [hone, hone2]
  intro b2 hb2
  obtain ⟨l0, l3, l4, l5, l6, l7⟩ := ld7_at (hset_same h b2 (R.cells mv pv))
  have hkg : Kp h (hset h b2 (R.cells mv pv)) := (Kp.refl h).new hb2 _
  have hg2 : (hset h b2 (R.cells mv pv)) b2 = some (R.cells mv pv) := hset_same ..
  generalize hset h b2 (R.cells mv pv) = g at *
  simp [l7]
  refine hms.call ?_
  simp [l7]
  refine hsz.call ?_
  simp
  refine awp_for R.pts.length (fun i fr' h' => (∃ v, fr' 8 = v ∧ Own 1 g h' v i (((R.pts.take i).map fun x => combK R.D (pwL R.D x d) M a d).map frow)) ∧ fr' 9 = I i) ⟨⟨.nils, by simp, by simpa using Own.nils 1 g⟩, by simp⟩ ?_
  intro i fr' h' hkn hk ⟨⟨va, k8, own⟩, k9⟩
  have k2 := hk 2 (by decide)
  have k5 := hk 5 (by decide)
  have k7 := hk 7 (by decide)
  simp at k2 k5 k7
  clear hk
  obtain ⟨m0, _, _, _, m6, m7⟩ := ld7_at (own.rd hg2)
  by_cases hlt : i < R.pts.length
  · have u1 : IntKind.i64.wrap ((i : Int) + 1) = i + 1 := w64 _ (by omega)
    have hvc := s_Vector hf hmv hpv (i := i) ⟨by omega, by omega⟩ n2 (by omega)
    rw [Int.toNat_natCast] at hvc
    rw [take_getD (d := 0) hlt, List.map_append, List.map_append]
    generalize R.pts.getD i 0 = x at *
    have hIv2 : IL (gl d (ints (pwL R.D x d))) (pwL R.D x d) := by
      unfold IL; rw [pwL_len]; exact gl_SV (by rw [ints_length, pwL_len]; omega)
    have hco := s_Combine r hmv hIv2 hM (by rw [pwL_len]; omega) (by omega) (n := a) (by omega) (fun j hj => by have := hm2 _ (mem_getD (d := []) hj); omega)
    rw [hf.1.dp, hf.1.dm, pwL_len, show min M.length d = d by omega] at hco
    have e : ([x].map fun x => combK R.D (pwL R.D x d) M a d).map frow = [AV.fs a (ints (combK R.D (pwL R.D x d) M a d))] := by
      rw [List.map_singleton, List.map_singleton, frow, combK_len]
    rw [e]
    generalize ((R.pts.take i).map fun x => combK R.D (pwL R.D x d) M a d).map frow = cs at *
    generalize hcs : R.cells mv pv = rc at *
    have m7' : cellsAt h' (.ref b2 0) 7 = some rc := by rw [← hcs]; exact m7
    simp [k2, k5, k7, k8, k9, m0, m6, m7', hpv.len, hlt]
    refine hvc.call ?_
    simp
    refine hco.call ?_
    simp
    intro b hb
    refine own.app1 (m := 1) hb (by simp) (by omega) fun v' h3 o3 => ?_
    simp [k9, u1, hlt]
    exact o3
  · have : i = R.pts.length := by omega
    subst this
    rw [List.take_length] at own
    simp [k2, k8, k9, m6, hpv.len]
    exact own.ret hkg (by rw [gml, List.length_map])

/-- The law of the contents of all nodes. -/
theorem enc_rows {R : Rc} {l : List Int} {row : List Int} (h : row ∈ R.enc l) : row.length = R.szN.toNat := by
  obtain ⟨x, _, rfl⟩ := List.mem_map.1 h
  rw [combK_len]

set_option maxHeartbeats 2000000 in
theorem s_RegenerateEncodes {R : Rc} {mv pv v : AV} (hmv : IL mv R.mo) (hml : R.mo.length < 4611686018427387904) (hpv : IL pv R.pts) (hpl : R.pts.length < 4611686018427387904) {l : List Int} (hv : IL v l) (hll : l.length < 4611686018427387904) :
    Pure prog n_law52_RegenerateEncodes [.agg (R.cells mv pv), v] (B true) := by
  classical
  refine pure_of cf_law52_RegenerateEncodes rfl fun h => ?_
  have hone := hmv.one
  have hone2 := hpv.one
  simp [hone, hone2]
  intro b3 hb3
  obtain ⟨l0, l3, l4, l5, l6, l7⟩ := ld7_at (hset_same h b3 (R.cells mv pv))
  have hkg : Kp h (hset h b3 (R.cells mv pv)) := (Kp.refl h).new hb3 _
  generalize hset h b3 (R.cells mv pv) = g at *
  have fin : RetP h (B true) (B true) g := ⟨_, hkg.sub, .id _, rfl⟩
  by_cases n1 : 12 < R.pts.length
  · have n1' : 12 < (R.pts.length : Int) := by omega
    simp [l6, hpv.len, n1, n1']
    exact fin
  have n1' : ¬ 12 < (R.pts.length : Int) := by omega
  simp [l6, l7, hpv.len, n1, n1']
  refine (s_Encode hmv hml hpv hpl hv hll).call ?_
  by_cases hE : R.E = 0
  case neg =>
    have h1 : R.encE l = R.E := by rw [Rc.encE, if_pos hE]
    rw [Rc.encR, if_neg (by rw [h1]; exact hE), h1]
    simp [l7]
    refine (s_refCheck52 hmv hml hpv hpl).call ?_
    simp [hE]
    exact fin
  have hE2 : R.encE l = elE R.D l R.szF := by rw [Rc.encE, if_neg (by simpa using hE)]
  obtain ⟨hf, e2, e3, ok, e5, _⟩ := Rc.E0 hE
  have hck := s_refCheck52 hmv hml hpv hpl
  rw [hE] at hck
  have r := hf.fd
  have hli := s_List r.toRg hone hv hll R.szF
  rw [hf.1.dp, hf.1.dm] at hli
  by_cases he : elE R.D l R.szF = 0
  case neg =>
    rw [Rc.encR, if_neg (by rw [hE2]; exact he), hE2]
    simp [l7]
    refine hck.call ?_
    simp [l7]
    refine (s_refSize ok hone hone2).call ?_
    simp [l0]
    refine hli.call ?_
    simp [he]
    exact fin
  rw [he] at hE2 hli
  obtain ⟨hlen, hlR⟩ := elE_zero he
  rw [Rc.encR, if_pos hE2]
  have hre := s_refEncode hE hmv hpv hv hlen
  have hM := ML_gml (R.enc l)
  have hsame := s_SameRows hM hM (by unfold Rc.enc; rw [List.length_map]; omega) (fun i hi => by rw [enc_rows (mem_getD hi)]; have := ok.szN; omega)
  rw [decide_eq_true rfl] at hsame
  generalize gml (R.enc l) = x at *
  simp [l7]
  refine hck.call ?_
  simp [l7]
  refine (s_refSize ok hone hone2).call ?_
  simp [l0]
  refine hli.call ?_
  simp [l7]
  refine hre.call ?_
  simp
  refine hsame.call ?_
  simp
  exact fin
end Go.AM.Ytmihmgnjnedfcaa
end
