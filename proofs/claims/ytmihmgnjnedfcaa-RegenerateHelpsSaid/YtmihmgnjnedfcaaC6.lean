/- Codes of the program, as the conversion gives them. -/
import Derived.Test.YtmihmgnjnedfcaaNum
set_option maxRecDepth 100000
namespace Go.AM.Ytmihmgnjnedfcaa
open Go Go.AM
-- regenerate_elements
abbrev c_regenerate_elementsL0_3 : SC := (.reg [o 23 (.bin .add (.t 15) (ki 1)), o 15 (.mv (.t 23))])
abbrev c_regenerate_elementsL0_2 : SC := .seq (.block 1 (.seq (.reg [o 17 (.iadr (.t 13) (.t 15) 1), o 18 (.ld (.t 17) 1 false), o 8 (.mv (.t 18))]) (.seq (.reg [o 19 (.mv (.t 0)), o 20 (.mv (.t 8)), o 21 (.call (.f n_field_GF_Is) [.t 19, .t 20]), o 22 (.not (.t 21))]) (.cond (.t 22) (.seq (.reg [o 6 (.mv (ki 2))]) .ret) .skip)))) c_regenerate_elementsL0_3
abbrev c_regenerate_elementsL0_1 : SC := .seq (.cond (.t 16) .skip (.exit 0)) c_regenerate_elementsL0_2
abbrev c_regenerate_elementsL0_0 : SC := .seq (.reg [o 16 (.bin .lss (.t 15) (.t 14))]) c_regenerate_elementsL0_1
abbrev c_regenerate_elements_4 : SC := .ret
abbrev c_regenerate_elements_3 : SC := .seq (.reg [o 6 (.mv (ki 0))]) c_regenerate_elements_4
abbrev c_regenerate_elements_2 : SC := .seq (.seq (.reg [o 13 (.mv (.t 1)), o 14 (.len (.t 13)), o 15 (.mv (ki 0))]) (.block 0 (.loop c_regenerate_elementsL0_0))) c_regenerate_elements_3
abbrev c_regenerate_elements_1 : SC := .seq (.seq (.reg [o 9 (.mv (.t 1)), o 10 (.len (.t 9)), o 11 (.mv (.t 2)), o 12 (.bin .neq (.t 10) (.t 11))]) (.cond (.t 12) (.seq (.reg [o 6 (.mv (ki 4))]) .ret) .skip)) c_regenerate_elements_2
abbrev c_regenerate_elements_0 : SC := .seq (.reg [o 6 (.mv (ki 0))]) c_regenerate_elements_1
theorem cf_regenerate_elements : cfun Go.Proofs.Try.prog md n_regenerate_elements = some ⟨3, 24, c_regenerate_elements_0.erase, [.t 6]⟩ := by kernel_rfl
-- regenerate_powers
abbrev c_regenerate_powersL0_3 : SC := (.reg [o 26 (.bin .add (.t 13) (ki 1)), o 13 (.mv (.t 26))])
abbrev c_regenerate_powersL0_2 : SC := .seq (.block 1 (.seq (.reg [o 15 (.mv (.t 13)), o 8 (.mv (.t 15))]) (.reg [o 17 (.mv (.t 7)), o 18 (.mv (.t 8)), o 19 (.mv (.t 0)), o 20 (.mv (.t 1)), o 21 (.mv (.t 8)), o 22 (.call (.f n_field_GF_Pow) [.t 19, .t 20, .t 21]), o 16 (.mv (.t 22)), o 23 (.ext (.t 16) 0), o 24 (.ext (.t 16) 1), o 25 (.iadr (.t 17) (.t 18) 1), os (.st (.t 25) (.t 23) 1)]))) c_regenerate_powersL0_3
abbrev c_regenerate_powersL0_1 : SC := .seq (.cond (.t 14) .skip (.exit 0)) c_regenerate_powersL0_2
abbrev c_regenerate_powersL0_0 : SC := .seq (.reg [o 14 (.bin .lss (.t 13) (.t 12))]) c_regenerate_powersL0_1
abbrev c_regenerate_powers_4 : SC := .ret
abbrev c_regenerate_powers_3 : SC := .seq (.reg [o 27 (.mv (.t 7)), o 6 (.mv (.t 27))]) c_regenerate_powers_4
abbrev c_regenerate_powers_2 : SC := .seq (.seq (.reg [o 11 (.mv (.t 7)), o 12 (.len (.t 11)), o 13 (.mv (ki 0))]) (.block 0 (.loop c_regenerate_powersL0_0))) c_regenerate_powers_3
abbrev c_regenerate_powers_1 : SC := .seq (.reg [o 9 (.mv (.t 2)), o 10 (.mks (.t 9) 1 [I 0]), o 7 (.mv (.t 10))]) c_regenerate_powers_2
abbrev c_regenerate_powers_0 : SC := .seq (.reg [o 6 (.mv (.k .nils))]) c_regenerate_powers_1
theorem cf_regenerate_powers : cfun Go.Proofs.Try.prog md n_regenerate_powers = some ⟨3, 28, c_regenerate_powers_0.erase, [.t 6]⟩ := by kernel_rfl
-- ref52_Vector
abbrev c_ref52_VectorL0_2 : SC := (.reg [o 11 (.mv (.t 6)), o 12 (.bin .add (.t 11) (ki 1)), o 6 (.mv (.t 12))])
abbrev c_ref52_VectorL0_1 : SC := .seq (.block 1 (.reg [o 13 (.mv (.t 5)), o 14 (.fadr (.t 2) 0), o 16 (.fadr (.t 2) 6), o 18 (.mv (.t 1)), o 21 (.mv (.t 6)), o 15 (.ld (.t 14) 3 true), o 17 (.ld (.t 16) 1 false), o 19 (.iadr (.t 17) (.t 18) 1), o 20 (.ld (.t 19) 1 false), om 1 22 (.call (.f n_ref52_power) [.t 15, .t 20, .t 21]), o 23 (.mkl 1 1 [I 0] [(0, (1, .t 22))]), o 24 (.app (.t 13) (.t 23) 1), o 5 (.mv (.t 24))])) c_ref52_VectorL0_2
abbrev c_ref52_VectorL0_0 : SC := .seq (.seq (.reg [o 7 (.mv (.t 6)), o 8 (.fadr (.t 2) 5), o 9 (.ld (.t 8) 1 false), o 10 (.bin .lss (.t 7) (.t 9))]) (.cond (.t 10) .skip (.exit 0))) c_ref52_VectorL0_1
abbrev c_ref52_Vector_4 : SC := .ret
abbrev c_ref52_Vector_3 : SC := .seq (.reg [o 25 (.mv (.t 5)), o 4 (.mv (.t 25))]) c_ref52_Vector_4
abbrev c_ref52_Vector_2 : SC := .seq (.seq (.reg [o 6 (.mv (ki 0))]) (.block 0 (.loop c_ref52_VectorL0_0))) c_ref52_Vector_3
abbrev c_ref52_Vector_1 : SC := .seq (.reg [o 5 (.mv (.k .nils))]) c_ref52_Vector_2
abbrev c_ref52_Vector_0 : SC := .seq (.reg [o 2 (.box (.t 0)), o 4 (.mv (.k .nils))]) c_ref52_Vector_1
theorem cf_ref52_Vector : cfun Go.Proofs.Try.prog md n_ref52_Vector = some ⟨2, 26, c_ref52_Vector_0.erase, [.t 4]⟩ := by kernel_rfl
-- ref12_List
abbrev c_ref12_List_3 : SC := .ret
abbrev c_ref12_List_2 : SC := .seq (.reg [o 11 (.ld (.t 3) 3 true), o 12 (.mv (.t 1)), o 13 (.call (.f n_ref09_Entries) [.t 11, .t 12]), o 6 (.mv (.t 13))]) c_ref12_List_3
abbrev c_ref12_List_1 : SC := .seq (.seq (.reg [o 7 (.mv (.t 1)), o 8 (.len (.t 7)), o 9 (.mv (.t 2)), o 10 (.bin .neq (.t 8) (.t 9))]) (.cond (.t 10) (.seq (.reg [o 6 (.mv (ki 4))]) .ret) .skip)) c_ref12_List_2
abbrev c_ref12_List_0 : SC := .seq (.reg [o 3 (.box (.t 0)), o 6 (.mv (ki 0))]) c_ref12_List_1
theorem cf_ref12_List : cfun Go.Proofs.Try.prog md n_ref12_List = some ⟨3, 14, c_ref12_List_0.erase, [.t 6]⟩ := by kernel_rfl
-- regenerate_Help
abbrev c_regenerate_Help_7 : SC := .ret
abbrev c_regenerate_Help_6 : SC := .seq (.reg [o 46 (.mv (.t 9)), o 47 (.mv (.t 2)), o 48 (.mv (.t 9)), o 49 (.fadr (.t 3) 6), o 50 (.ld (.t 49) 1 false), o 51 (.mv (.t 1)), o 52 (.iadr (.t 50) (.t 51) 1), o 53 (.ld (.t 52) 1 false), o 54 (.mv (.t 12)), o 55 (.call (.f n_regenerate_powers) [.t 48, .t 53, .t 54]), o 56 (.call (.f n_field_GF_Dot) [.t 46, .t 47, .t 55]), o 6 (.mv (.t 56)), o 7 (.mv (ki 0))]) c_regenerate_Help_7
abbrev c_regenerate_Help_5 : SC := .seq (.seq (.reg [o 39 (.mv (.t 9)), o 40 (.mv (.t 2)), o 41 (.mv (.t 12)), o 42 (.call (.f n_regenerate_elements) [.t 39, .t 40, .t 41]), o 13 (.mv (.t 42))]) (.seq (.reg [o 43 (.mv (.t 13)), o 44 (.bin .neq (.t 43) (ki 0))]) (.cond (.t 44) (.seq (.reg [o 45 (.mv (.t 13)), o 6 (.mv (ki 0)), o 7 (.mv (.t 45))]) .ret) .skip))) c_regenerate_Help_6
abbrev c_regenerate_Help_4 : SC := .seq (.reg [o 35 (.ld (.t 3) 7 true), o 36 (.call (.f n_regenerate_sizes) [.t 35]), o 34 (.mv (.t 36)), o 37 (.ext (.t 34) 0), o 38 (.ext (.t 34) 1), o 11 (.mv (.t 37)), o 12 (.mv (.t 38))]) c_regenerate_Help_5
abbrev c_regenerate_Help_3 : SC := .seq (.reg [o 29 (.fadr (.t 3) 0), o 30 (.ld (.t 29) 3 true), o 31 (.call (.f n_field_New) [.t 30]), o 28 (.mv (.t 31)), o 32 (.ext (.t 28) 0), o 33 (.ext (.t 28) 1), o 9 (.mv (.t 32)), o 10 (.mv (.t 33))]) c_regenerate_Help_4
abbrev c_regenerate_Help_2 : SC := .seq (.seq (.reg [o 19 (.mv (.t 1)), o 20 (.bin .lss (.t 19) (ki 0)), o 21 (.mv (.t 20)), og 21 false 0 22 (.mv (.t 1)), og 21 false 0 23 (.fadr (.t 3) 6), og 21 false 0 24 (.ld (.t 23) 1 false), og 21 false 0 25 (.len (.t 24)), og 21 false 0 26 (.bin .geq (.t 22) (.t 25)), o 27 (.pick (.t 21) (kb true) (.t 26))]) (.cond (.t 27) (.seq (.reg [o 6 (.mv (ki 0)), o 7 (.mv (ki 6))]) .ret) .skip)) c_regenerate_Help_3
abbrev c_regenerate_Help_1 : SC := .seq (.seq (.reg [o 14 (.ld (.t 3) 7 true), o 15 (.call (.f n_regenerate_Check) [.t 14]), o 8 (.mv (.t 15))]) (.seq (.reg [o 16 (.mv (.t 8)), o 17 (.bin .neq (.t 16) (ki 0))]) (.cond (.t 17) (.seq (.reg [o 18 (.mv (.t 8)), o 6 (.mv (ki 0)), o 7 (.mv (.t 18))]) .ret) .skip))) c_regenerate_Help_2
abbrev c_regenerate_Help_0 : SC := .seq (.reg [o 3 (.box (.t 0)), o 6 (.mv (ki 0)), o 7 (.mv (ki 0))]) c_regenerate_Help_1
theorem cf_regenerate_Help : cfun Go.Proofs.Try.prog md n_regenerate_Help = some ⟨3, 57, c_regenerate_Help_0.erase, [.t 6, .t 7]⟩ := by kernel_rfl
-- ref52_Help
abbrev c_ref52_Help_2 : SC := .ret
abbrev c_ref52_Help_1 : SC := .seq (.reg [o 7 (.fadr (.t 3) 0), o 9 (.mv (.t 2)), o 11 (.mv (.t 1)), o 8 (.ld (.t 7) 3 true), o 10 (.ld (.t 3) 7 true), om 1 12 (.call (.f n_ref52_Vector) [.t 10, .t 11]), om 1 13 (.call (.f n_ref04_Dot) [.t 8, .t 9, .t 12]), o 6 (.mv (.t 13))]) c_ref52_Help_2
abbrev c_ref52_Help_0 : SC := .seq (.reg [o 3 (.box (.t 0)), o 6 (.mv (ki 0))]) c_ref52_Help_1
theorem cf_ref52_Help : cfun Go.Proofs.Try.prog md n_ref52_Help = some ⟨3, 14, c_ref52_Help_0.erase, [.t 6]⟩ := by kernel_rfl
-- law52_RegenerateHelps
abbrev c_law52_RegenerateHelps_8 : SC := .ret
abbrev c_law52_RegenerateHelps_7 : SC := .seq (.reg [o 59 (.mv (.t 8)), o 60 (.bin .eql (.t 59) (ki 0)), o 61 (.mv (.t 60)), og 61 true 0 62 (.mv (.t 7)), og 61 true 0 63 (.ld (.t 3) 7 true), og 61 true 0 64 (.mv (.t 1)), og 61 true 0 65 (.mv (.t 2)), og 61 true 0 66 (.call (.f n_ref52_Help) [.t 63, .t 64, .t 65]), og 61 true 0 67 (.bin .eql (.t 62) (.t 66)), o 68 (.pick (.t 61) (.t 67) (kb false)), o 6 (.mv (.t 68))]) c_law52_RegenerateHelps_8
abbrev c_law52_RegenerateHelps_6 : SC := .seq (.seq (.reg [o 50 (.mv (.t 9)), o 51 (.bin .neq (.t 50) (ki 0))]) (.cond (.t 51) (.seq (.reg [o 52 (.mv (.t 8)), o 53 (.mv (.t 9)), o 54 (.bin .eql (.t 52) (.t 53)), o 55 (.mv (.t 54)), og 55 true 0 56 (.mv (.t 7)), og 55 true 0 57 (.bin .eql (.t 56) (ki 0)), o 58 (.pick (.t 55) (.t 57) (kb false)), o 6 (.mv (.t 58))]) .ret) .skip)) c_law52_RegenerateHelps_7
abbrev c_law52_RegenerateHelps_5 : SC := .seq (.seq (.reg [o 38 (.mv (.t 9)), o 39 (.bin .eql (.t 38) (ki 0))]) (.cond (.t 39) (.seq (.reg [o 41 (.ld (.t 3) 7 true), o 42 (.call (.f n_ref52_Size) [.t 41]), o 40 (.mv (.t 42)), o 43 (.ext (.t 40) 0), o 44 (.ext (.t 40) 1), o 10 (.mv (.t 43)), o 11 (.mv (.t 44))]) (.reg [o 45 (.fadr (.t 3) 0), o 46 (.ld (.t 45) 3 true), o 47 (.mv (.t 2)), o 48 (.mv (.t 11)), o 49 (.call (.f n_ref12_List) [.t 46, .t 47, .t 48]), o 9 (.mv (.t 49))])) .skip)) c_law52_RegenerateHelps_6
abbrev c_law52_RegenerateHelps_4 : SC := .seq (.seq (.reg [o 25 (.mv (.t 9)), o 26 (.bin .eql (.t 25) (ki 0)), o 27 (.mv (.t 26)), og 27 true 0 28 (.mv (.t 1)), og 27 true 0 29 (.bin .lss (.t 28) (ki 0)), og 27 true 0 30 (.mv (.t 29)), og 30 false 0 31 (.mv (.t 1)), og 30 false 0 32 (.fadr (.t 3) 6), og 30 false 0 33 (.ld (.t 32) 1 false), og 30 false 0 34 (.len (.t 33)), og 30 false 0 35 (.bin .geq (.t 31) (.t 34)), og 27 true 0 36 (.pick (.t 30) (kb true) (.t 35)), o 37 (.pick (.t 27) (.t 36) (kb false))]) (.cond (.t 37) (.reg [o 9 (.mv (ki 6))]) .skip)) c_law52_RegenerateHelps_5
abbrev c_law52_RegenerateHelps_3 : SC := .seq (.reg [o 23 (.ld (.t 3) 7 true), o 24 (.call (.f n_ref52_Check) [.t 23]), o 9 (.mv (.t 24))]) c_law52_RegenerateHelps_4
abbrev c_law52_RegenerateHelps_2 : SC := .seq (.reg [o 17 (.ld (.t 3) 7 true), o 18 (.mv (.t 1)), o 19 (.mv (.t 2)), o 20 (.call (.f n_regenerate_Help) [.t 17, .t 18, .t 19]), o 16 (.mv (.t 20)), o 21 (.ext (.t 16) 0), o 22 (.ext (.t 16) 1), o 7 (.mv (.t 21)), o 8 (.mv (.t 22))]) c_law52_RegenerateHelps_3
abbrev c_law52_RegenerateHelps_1 : SC := .seq (.seq (.reg [o 12 (.fadr (.t 3) 6), o 13 (.ld (.t 12) 1 false), o 14 (.len (.t 13)), o 15 (.bin .gtr (.t 14) (ki 12))]) (.cond (.t 15) (.seq (.reg [o 6 (.mv (kb true))]) .ret) .skip)) c_law52_RegenerateHelps_2
abbrev c_law52_RegenerateHelps_0 : SC := .seq (.reg [o 3 (.box (.t 0)), o 6 (.mv (kb false))]) c_law52_RegenerateHelps_1
theorem cf_law52_RegenerateHelps : cfun Go.Proofs.Try.prog md n_law52_RegenerateHelps = some ⟨3, 69, c_law52_RegenerateHelps_0.erase, [.t 6]⟩ := by kernel_rfl
end Go.AM.Ytmihmgnjnedfcaa
