import Derived.Test.YtmihmgnjnedfcabBB
import Derived.Test.YtmihmgnjnedfcabBE
import Derived.KernelRfl
import Derived.Test.YtmihmgnjnedfcabBZ

section
/- Codes of the program, as the conversion gives them. -/
set_option maxRecDepth 100000
namespace Go.AM.Ytmihmgnjnedfcab
open Go Go.AM
-- matrix_Kernel
abbrev c_matrix_KernelL1_3 : SC := (.reg [o 68 (.bin .add (.t 51) (ki 1)), o 51 (.mv (.t 68))])
abbrev c_matrix_KernelL1_2 : SC := .seq (.block 3 (.seq (.reg [o 53 (.mv (.t 51)), o 54 (.iadr (.t 49) (.t 51) 1), o 55 (.ld (.t 54) 1 false), o 13 (.mv (.t 53)), o 14 (.mv (.t 55))]) (.reg [o 56 (.mv (.t 12)), o 57 (.mv (.t 14)), o 58 (.mv (.t 6)), o 59 (.mv (.t 8)), o 60 (.mv (.t 13)), o 61 (.iadr (.t 59) (.t 60) 1), o 62 (.ld (.t 61) 1 false), o 63 (.mv (.t 11)), o 64 (.iadr (.t 62) (.t 63) 1), o 65 (.ld (.t 64) 1 false), o 66 (.call (.f n_field_GF_Neg) [.t 58, .t 65]), o 67 (.iadr (.t 56) (.t 57) 1), os (.st (.t 67) (.t 66) 1)]))) c_matrix_KernelL1_3
abbrev c_matrix_KernelL1_1 : SC := .seq (.cond (.t 52) .skip (.exit 2)) c_matrix_KernelL1_2
abbrev c_matrix_KernelL1_0 : SC := .seq (.reg [o 52 (.bin .lss (.t 51) (.t 50))]) c_matrix_KernelL1_1
abbrev c_matrix_KernelL0_3 : SC := (.reg [o 73 (.bin .add (.t 37) (ki 1)), o 37 (.mv (.t 73))])
abbrev c_matrix_KernelL0_2 : SC := .seq (.block 1 (.seq (.reg [o 39 (.mv (.t 37)), o 11 (.mv (.t 39))]) (.seq (.seq (.reg [o 40 (.mv (.t 9)), o 41 (.mv (.t 11)), o 42 (.call (.f n_slices_Contains_int_int) [.t 40, .t 41])]) (.cond (.t 42) (.exit 1) .skip)) (.seq (.reg [o 43 (.fadr (.t 3) 0), o 44 (.ld (.t 43) 1 false), o 45 (.mks (.t 44) 1 [I 0]), o 12 (.mv (.t 45))]) (.seq (.reg [o 46 (.mv (.t 12)), o 47 (.mv (.t 11)), o 48 (.iadr (.t 46) (.t 47) 1), os (.st (.t 48) (ki 1) 1)]) (.seq (.seq (.reg [o 49 (.mv (.t 9)), o 50 (.len (.t 49)), o 51 (.mv (ki 0))]) (.block 2 (.loop c_matrix_KernelL1_0))) (.reg [o 69 (.mv (.t 10)), o 70 (.mv (.t 12)), o 71 (.mkl 1 1 [.nils] [(0, (1, .t 70))]), o 72 (.app (.t 69) (.t 71) 1), o 10 (.mv (.t 72))]))))))) c_matrix_KernelL0_3
abbrev c_matrix_KernelL0_1 : SC := .seq (.cond (.t 38) .skip (.exit 0)) c_matrix_KernelL0_2
abbrev c_matrix_KernelL0_0 : SC := .seq (.reg [o 38 (.bin .lss (.t 37) (.t 36))]) c_matrix_KernelL0_1
abbrev c_matrix_Kernel_8 : SC := .ret
abbrev c_matrix_Kernel_7 : SC := .seq (.reg [o 82 (.fadr (.t 3) 0), o 83 (.ld (.t 82) 1 false), o 84 (.mv (.t 10)), o 85 (.build [I 0, .nils] [(0, (1, .t 83)), (1, (1, .t 84))]), os (.st (.t 4) (.t 85) 2), o 5 (.mv (ki 0))]) c_matrix_Kernel_8
abbrev c_matrix_Kernel_6 : SC := .fz [10] (.seq (.reg [o 75 (.mv (.t 6)), o 76 (.mv (.t 10)), o 77 (.fadr (.t 3) 0), o 78 (.ld (.t 77) 1 false), o 79 (.call (.f n_matrix_canon) [.t 75, .t 76, .t 78]), o 74 (.mv (.t 79)), o 80 (.ext (.t 74) 0), o 81 (.ext (.t 74) 1), o 10 (.mv (.t 80))]) c_matrix_Kernel_7)
abbrev c_matrix_Kernel_5 : SC := .seq (.seq (.reg [o 35 (.fadr (.t 3) 0), o 36 (.ld (.t 35) 1 false), o 37 (.mv (ki 0))]) (.block 0 (.loop c_matrix_KernelL0_0))) c_matrix_Kernel_6
abbrev c_matrix_Kernel_4 : SC := .seq (.reg [o 10 (.mv (.k .nils))]) c_matrix_Kernel_5
abbrev c_matrix_Kernel_3 : SC := .seq (.reg [o 27 (.mv (.t 6)), o 28 (.fadr (.t 3) 1), o 29 (.ld (.t 28) 1 false), o 30 (.fadr (.t 3) 0), o 31 (.ld (.t 30) 1 false), o 32 (.call (.f n_matrix_canon) [.t 27, .t 29, .t 31]), o 26 (.mv (.t 32)), o 33 (.ext (.t 26) 0), o 34 (.ext (.t 26) 1), o 8 (.mv (.t 33)), o 9 (.mv (.t 34))]) c_matrix_Kernel_4
abbrev c_matrix_Kernel_2 : SC := .seq (.seq (.reg [o 22 (.mv (.t 7)), o 23 (.bin .neq (.t 22) (ki 0))]) (.cond (.t 23) (.seq (.reg [o 24 (.build [I 0, .nils] []), o 25 (.mv (.t 7)), os (.st (.t 4) (.t 24) 2), o 5 (.mv (.t 25))]) .ret) .skip)) c_matrix_Kernel_3
abbrev c_matrix_Kernel_1 : SC := .seq (.reg [o 16 (.ld (.t 2) 3 true), o 17 (.ld (.t 3) 2 true), o 18 (.mkl 1 2 [I 0, .nils] [(0, (2, .t 17))]), o 19 (.call (.f n_matrix_open) [.t 16, .t 18]), o 15 (.mv (.t 19)), o 20 (.ext (.t 15) 0), o 21 (.ext (.t 15) 1), o 6 (.mv (.t 20)), o 7 (.mv (.t 21))]) c_matrix_Kernel_2
abbrev c_matrix_Kernel_0 : SC := .seq (.reg [o 2 (.box (.t 0)), o 3 (.box (.t 1)), o 4 (.new [I 0, .nils]), o 5 (.mv (ki 0))]) c_matrix_Kernel_1
theorem cf_matrix_Kernel : cfun Go.Proofs.Try.prog md n_matrix_Kernel = some ⟨2, 86, c_matrix_Kernel_0.erase, [.c 4 2 true, .t 5]⟩ := by kernel_rfl
-- matrix_Det
abbrev c_matrix_Det_7 : SC := .ret
abbrev c_matrix_Det_6 : SC := .seq (.reg [o 41 (.mv (.t 9)), o 4 (.mv (.t 41)), o 5 (.mv (ki 0))]) c_matrix_Det_7
abbrev c_matrix_Det_5 : SC := .seq (.seq (.reg [o 36 (.mv (.t 8)), o 37 (.len (.t 36)), o 38 (.fadr (.t 3) 0), o 39 (.ld (.t 38) 1 false), o 40 (.bin .lss (.t 37) (.t 39))]) (.cond (.t 40) (.seq (.reg [o 4 (.mv (ki 0)), o 5 (.mv (ki 0))]) .ret) .skip)) c_matrix_Det_6
abbrev c_matrix_Det_4 : SC := .seq (.reg [o 27 (.mv (.t 6)), o 28 (.fadr (.t 3) 1), o 31 (.fadr (.t 3) 0), o 29 (.ld (.t 28) 1 false), o 32 (.ld (.t 31) 1 false), om 2 30 (.call (.f n_matrix_clone) [.t 29]), o 33 (.call (.f n_matrix_eliminate) [.t 27, .t 30, .t 32, .k .nils]), o 26 (.mv (.t 33)), o 34 (.ext (.t 26) 0), o 35 (.ext (.t 26) 1), o 8 (.mv (.t 34)), o 9 (.mv (.t 35))]) c_matrix_Det_5
abbrev c_matrix_Det_3 : SC := .seq (.seq (.reg [o 20 (.fadr (.t 3) 1), o 21 (.ld (.t 20) 1 false), o 22 (.len (.t 21)), o 23 (.fadr (.t 3) 0), o 24 (.ld (.t 23) 1 false), o 25 (.bin .neq (.t 22) (.t 24))]) (.cond (.t 25) (.seq (.reg [o 4 (.mv (ki 0)), o 5 (.mv (ki 3))]) .ret) .skip)) c_matrix_Det_4
abbrev c_matrix_Det_2 : SC := .seq (.seq (.reg [o 17 (.mv (.t 7)), o 18 (.bin .neq (.t 17) (ki 0))]) (.cond (.t 18) (.seq (.reg [o 19 (.mv (.t 7)), o 4 (.mv (ki 0)), o 5 (.mv (.t 19))]) .ret) .skip)) c_matrix_Det_3
abbrev c_matrix_Det_1 : SC := .seq (.reg [o 11 (.ld (.t 2) 3 true), o 12 (.ld (.t 3) 2 true), o 13 (.mkl 1 2 [I 0, .nils] [(0, (2, .t 12))]), o 14 (.call (.f n_matrix_open) [.t 11, .t 13]), o 10 (.mv (.t 14)), o 15 (.ext (.t 10) 0), o 16 (.ext (.t 10) 1), o 6 (.mv (.t 15)), o 7 (.mv (.t 16))]) c_matrix_Det_2
abbrev c_matrix_Det_0 : SC := .seq (.reg [o 2 (.box (.t 0)), o 3 (.box (.t 1)), o 4 (.mv (ki 0)), o 5 (.mv (ki 0))]) c_matrix_Det_1
theorem cf_matrix_Det : cfun Go.Proofs.Try.prog md n_matrix_Det = some ⟨2, 42, c_matrix_Det_0.erase, [.t 4, .t 5]⟩ := by kernel_rfl
-- matrix_Inverse
abbrev c_matrix_Inverse_8 : SC := .ret
abbrev c_matrix_Inverse_7 : SC := .seq (.reg [o 49 (.fadr (.t 3) 0), o 50 (.ld (.t 49) 1 false), o 51 (.mv (.t 8)), o 52 (.build [I 0, .nils] [(0, (1, .t 50)), (1, (1, .t 51))]), os (.st (.t 4) (.t 52) 2), o 5 (.mv (ki 0))]) c_matrix_Inverse_8
abbrev c_matrix_Inverse_6 : SC := .seq (.seq (.reg [o 43 (.mv (.t 9)), o 44 (.len (.t 43)), o 45 (.fadr (.t 3) 0), o 46 (.ld (.t 45) 1 false), o 47 (.bin .lss (.t 44) (.t 46))]) (.cond (.t 47) (.seq (.reg [o 48 (.build [I 0, .nils] []), os (.st (.t 4) (.t 48) 2), o 5 (.mv (ki 9))]) .ret) .skip)) c_matrix_Inverse_7
abbrev c_matrix_Inverse_5 : SC := .seq (.reg [o 33 (.mv (.t 6)), o 34 (.fadr (.t 3) 1), o 37 (.fadr (.t 3) 0), o 39 (.mv (.t 8)), o 35 (.ld (.t 34) 1 false), o 38 (.ld (.t 37) 1 false), om 2 36 (.call (.f n_matrix_clone) [.t 35]), o 40 (.call (.f n_matrix_eliminate) [.t 33, .t 36, .t 38, .t 39]), o 32 (.mv (.t 40)), o 41 (.ext (.t 32) 0), o 42 (.ext (.t 32) 1), o 9 (.mv (.t 41)), o 10 (.mv (.t 42))]) c_matrix_Inverse_6
abbrev c_matrix_Inverse_4 : SC := .seq (.reg [o 29 (.fadr (.t 3) 0), o 30 (.ld (.t 29) 1 false), o 31 (.call (.f n_matrix_unit) [.t 30]), o 8 (.mv (.t 31))]) c_matrix_Inverse_5
abbrev c_matrix_Inverse_3 : SC := .seq (.seq (.reg [o 22 (.fadr (.t 3) 1), o 23 (.ld (.t 22) 1 false), o 24 (.len (.t 23)), o 25 (.fadr (.t 3) 0), o 26 (.ld (.t 25) 1 false), o 27 (.bin .neq (.t 24) (.t 26))]) (.cond (.t 27) (.seq (.reg [o 28 (.build [I 0, .nils] []), os (.st (.t 4) (.t 28) 2), o 5 (.mv (ki 3))]) .ret) .skip)) c_matrix_Inverse_4
abbrev c_matrix_Inverse_2 : SC := .seq (.seq (.reg [o 18 (.mv (.t 7)), o 19 (.bin .neq (.t 18) (ki 0))]) (.cond (.t 19) (.seq (.reg [o 20 (.build [I 0, .nils] []), o 21 (.mv (.t 7)), os (.st (.t 4) (.t 20) 2), o 5 (.mv (.t 21))]) .ret) .skip)) c_matrix_Inverse_3
abbrev c_matrix_Inverse_1 : SC := .seq (.reg [o 12 (.ld (.t 2) 3 true), o 13 (.ld (.t 3) 2 true), o 14 (.mkl 1 2 [I 0, .nils] [(0, (2, .t 13))]), o 15 (.call (.f n_matrix_open) [.t 12, .t 14]), o 11 (.mv (.t 15)), o 16 (.ext (.t 11) 0), o 17 (.ext (.t 11) 1), o 6 (.mv (.t 16)), o 7 (.mv (.t 17))]) c_matrix_Inverse_2
abbrev c_matrix_Inverse_0 : SC := .seq (.reg [o 2 (.box (.t 0)), o 3 (.box (.t 1)), o 4 (.new [I 0, .nils]), o 5 (.mv (ki 0))]) c_matrix_Inverse_1
theorem cf_matrix_Inverse : cfun Go.Proofs.Try.prog md n_matrix_Inverse = some ⟨2, 53, c_matrix_Inverse_0.erase, [.c 4 2 true, .t 5]⟩ := by kernel_rfl
-- matrix_Vec
abbrev c_matrix_Vec_6 : SC := .ret
abbrev c_matrix_Vec_5 : SC := .seq (.reg [o 33 (.mv (.t 8)), o 34 (.mv (.t 1)), o 35 (.fadr (.t 5) 1), o 36 (.ld (.t 35) 1 false), o 37 (.fadr (.t 5) 0), o 38 (.ld (.t 37) 1 false), o 39 (.call (.f n_matrix_vec) [.t 33, .t 34, .t 36, .t 38]), o 6 (.mv (.t 39)), o 7 (.mv (ki 0))]) c_matrix_Vec_6
abbrev c_matrix_Vec_4 : SC := .seq (.seq (.reg [o 27 (.mv (.t 8)), o 28 (.mv (.t 1)), o 29 (.call (.f n_matrix_entries) [.t 27, .t 28]), o 10 (.mv (.t 29))]) (.seq (.reg [o 30 (.mv (.t 10)), o 31 (.bin .neq (.t 30) (ki 0))]) (.cond (.t 31) (.seq (.reg [o 32 (.mv (.t 10)), o 6 (.mv (.k .nils)), o 7 (.mv (.t 32))]) .ret) .skip))) c_matrix_Vec_5
abbrev c_matrix_Vec_3 : SC := .seq (.seq (.reg [o 21 (.mv (.t 1)), o 22 (.len (.t 21)), o 23 (.fadr (.t 5) 1), o 24 (.ld (.t 23) 1 false), o 25 (.len (.t 24)), o 26 (.bin .neq (.t 22) (.t 25))]) (.cond (.t 26) (.seq (.reg [o 6 (.mv (.k .nils)), o 7 (.mv (ki 3))]) .ret) .skip)) c_matrix_Vec_4
abbrev c_matrix_Vec_2 : SC := .seq (.seq (.reg [o 18 (.mv (.t 9)), o 19 (.bin .neq (.t 18) (ki 0))]) (.cond (.t 19) (.seq (.reg [o 20 (.mv (.t 9)), o 6 (.mv (.k .nils)), o 7 (.mv (.t 20))]) .ret) .skip)) c_matrix_Vec_3
abbrev c_matrix_Vec_1 : SC := .seq (.reg [o 12 (.ld (.t 3) 3 true), o 13 (.ld (.t 5) 2 true), o 14 (.mkl 1 2 [I 0, .nils] [(0, (2, .t 13))]), o 15 (.call (.f n_matrix_open) [.t 12, .t 14]), o 11 (.mv (.t 15)), o 16 (.ext (.t 11) 0), o 17 (.ext (.t 11) 1), o 8 (.mv (.t 16)), o 9 (.mv (.t 17))]) c_matrix_Vec_2
abbrev c_matrix_Vec_0 : SC := .seq (.reg [o 3 (.box (.t 0)), o 5 (.box (.t 2)), o 6 (.mv (.k .nils)), o 7 (.mv (ki 0))]) c_matrix_Vec_1
theorem cf_matrix_Vec : cfun Go.Proofs.Try.prog md n_matrix_Vec = some ⟨3, 40, c_matrix_Vec_0.erase, [.t 6, .t 7]⟩ := by kernel_rfl
-- matrix_Solve
abbrev c_matrix_SolveL0_3 : SC := (.reg [o 63 (.bin .add (.t 47) (ki 1)), o 47 (.mv (.t 63))])
abbrev c_matrix_SolveL0_2 : SC := .seq (.block 1 (.seq (.reg [o 49 (.mv (.t 47)), o 12 (.mv (.t 49))]) (.reg [o 50 (.mv (.t 11)), o 51 (.mv (.t 12)), o 52 (.mv (.t 11)), o 53 (.mv (.t 12)), o 54 (.iadr (.t 52) (.t 53) 1), o 56 (.mv (.t 2)), o 57 (.mv (.t 12)), o 58 (.iadr (.t 56) (.t 57) 1), o 55 (.ld (.t 54) 1 false), o 59 (.ld (.t 58) 1 false), o 60 (.mkl 1 1 [I 0] [(0, (1, .t 59))]), o 61 (.app (.t 55) (.t 60) 1), o 62 (.iadr (.t 50) (.t 51) 1), os (.st (.t 62) (.t 61) 1)]))) c_matrix_SolveL0_3
abbrev c_matrix_SolveL0_1 : SC := .seq (.cond (.t 48) .skip (.exit 0)) c_matrix_SolveL0_2
abbrev c_matrix_SolveL0_0 : SC := .seq (.reg [o 48 (.bin .lss (.t 47) (.t 46))]) c_matrix_SolveL0_1
abbrev c_matrix_SolveL1_3 : SC := (.reg [o 87 (.bin .add (.t 77) (ki 1)), o 77 (.mv (.t 87))])
abbrev c_matrix_SolveL1_2 : SC := .seq (.block 3 (.seq (.reg [o 79 (.iadr (.t 75) (.t 77) 1), o 80 (.ld (.t 79) 1 false), o 16 (.mv (.t 80))]) (.seq (.reg [o 81 (.mv (.t 16)), o 82 (.fadr (.t 4) 0), o 83 (.ld (.t 82) 1 false), o 84 (.iadr (.t 81) (.t 83) 1), o 85 (.ld (.t 84) 1 false), o 86 (.bin .neq (.t 85) (ki 0))]) (.cond (.t 86) (.seq (.reg [o 6 (.mv (.k .nils)), o 7 (.mv (ki 11))]) .ret) .skip)))) c_matrix_SolveL1_3
abbrev c_matrix_SolveL1_1 : SC := .seq (.cond (.t 78) .skip (.exit 2)) c_matrix_SolveL1_2
abbrev c_matrix_SolveL1_0 : SC := .seq (.reg [o 78 (.bin .lss (.t 77) (.t 76))]) c_matrix_SolveL1_1
abbrev c_matrix_SolveL2_3 : SC := (.reg [o 109 (.bin .add (.t 93) (ki 1)), o 93 (.mv (.t 109))])
abbrev c_matrix_SolveL2_2 : SC := .seq (.block 5 (.seq (.reg [o 95 (.mv (.t 93)), o 96 (.iadr (.t 91) (.t 93) 1), o 97 (.ld (.t 96) 1 false), o 18 (.mv (.t 95)), o 19 (.mv (.t 97))]) (.reg [o 98 (.mv (.t 17)), o 99 (.mv (.t 19)), o 100 (.mv (.t 11)), o 101 (.mv (.t 18)), o 102 (.iadr (.t 100) (.t 101) 1), o 104 (.fadr (.t 4) 0), o 103 (.ld (.t 102) 1 false), o 105 (.ld (.t 104) 1 false), o 106 (.iadr (.t 103) (.t 105) 1), o 107 (.ld (.t 106) 1 false), o 108 (.iadr (.t 98) (.t 99) 1), os (.st (.t 108) (.t 107) 1)]))) c_matrix_SolveL2_3
abbrev c_matrix_SolveL2_1 : SC := .seq (.cond (.t 94) .skip (.exit 4)) c_matrix_SolveL2_2
abbrev c_matrix_SolveL2_0 : SC := .seq (.reg [o 94 (.bin .lss (.t 93) (.t 92))]) c_matrix_SolveL2_1
abbrev c_matrix_Solve_12 : SC := .ret
abbrev c_matrix_Solve_11 : SC := .seq (.reg [o 110 (.mv (.t 17)), o 6 (.mv (.t 110)), o 7 (.mv (ki 0))]) c_matrix_Solve_12
abbrev c_matrix_Solve_10 : SC := .seq (.seq (.reg [o 91 (.mv (.t 13)), o 92 (.len (.t 91)), o 93 (.mv (ki 0))]) (.block 4 (.loop c_matrix_SolveL2_0))) c_matrix_Solve_11
abbrev c_matrix_Solve_9 : SC := .seq (.reg [o 88 (.fadr (.t 4) 0), o 89 (.ld (.t 88) 1 false), o 90 (.mks (.t 89) 1 [I 0]), o 17 (.mv (.t 90))]) c_matrix_Solve_10
abbrev c_matrix_Solve_8 : SC := .seq (.seq (.reg [o 72 (.mv (.t 11)), o 73 (.mv (.t 13)), o 74 (.len (.t 73)), o 75 (.slc (.t 72) (some (.t 74)) none none 1), o 76 (.len (.t 75)), o 77 (.mv (ki 0))]) (.block 2 (.loop c_matrix_SolveL1_0))) c_matrix_Solve_9
abbrev c_matrix_Solve_7 : SC := .seq (.reg [o 65 (.mv (.t 8)), o 66 (.mv (.t 11)), o 67 (.fadr (.t 4) 0), o 68 (.ld (.t 67) 1 false), o 69 (.call (.f n_matrix_eliminate) [.t 65, .t 66, .t 68, .k .nils]), o 64 (.mv (.t 69)), o 70 (.ext (.t 64) 0), o 71 (.ext (.t 64) 1), o 13 (.mv (.t 70)), o 14 (.mv (.t 71))]) c_matrix_Solve_8
abbrev c_matrix_Solve_6 : SC := .seq (.seq (.reg [o 45 (.mv (.t 11)), o 46 (.len (.t 45)), o 47 (.mv (ki 0))]) (.block 0 (.loop c_matrix_SolveL0_0))) c_matrix_Solve_7
abbrev c_matrix_Solve_5 : SC := .seq (.reg [o 42 (.fadr (.t 4) 1), o 43 (.ld (.t 42) 1 false), o 44 (.call (.f n_matrix_clone) [.t 43]), o 11 (.mv (.t 44))]) c_matrix_Solve_6
abbrev c_matrix_Solve_4 : SC := .seq (.seq (.reg [o 36 (.mv (.t 8)), o 37 (.mv (.t 2)), o 38 (.call (.f n_matrix_entries) [.t 36, .t 37]), o 10 (.mv (.t 38))]) (.seq (.reg [o 39 (.mv (.t 10)), o 40 (.bin .neq (.t 39) (ki 0))]) (.cond (.t 40) (.seq (.reg [o 41 (.mv (.t 10)), o 6 (.mv (.k .nils)), o 7 (.mv (.t 41))]) .ret) .skip))) c_matrix_Solve_5
abbrev c_matrix_Solve_3 : SC := .seq (.seq (.reg [o 30 (.mv (.t 2)), o 31 (.len (.t 30)), o 32 (.fadr (.t 4) 1), o 33 (.ld (.t 32) 1 false), o 34 (.len (.t 33)), o 35 (.bin .neq (.t 31) (.t 34))]) (.cond (.t 35) (.seq (.reg [o 6 (.mv (.k .nils)), o 7 (.mv (ki 3))]) .ret) .skip)) c_matrix_Solve_4
abbrev c_matrix_Solve_2 : SC := .seq (.seq (.reg [o 27 (.mv (.t 9)), o 28 (.bin .neq (.t 27) (ki 0))]) (.cond (.t 28) (.seq (.reg [o 29 (.mv (.t 9)), o 6 (.mv (.k .nils)), o 7 (.mv (.t 29))]) .ret) .skip)) c_matrix_Solve_3
abbrev c_matrix_Solve_1 : SC := .seq (.reg [o 21 (.ld (.t 3) 3 true), o 22 (.ld (.t 4) 2 true), o 23 (.mkl 1 2 [I 0, .nils] [(0, (2, .t 22))]), o 24 (.call (.f n_matrix_open) [.t 21, .t 23]), o 20 (.mv (.t 24)), o 25 (.ext (.t 20) 0), o 26 (.ext (.t 20) 1), o 8 (.mv (.t 25)), o 9 (.mv (.t 26))]) c_matrix_Solve_2
abbrev c_matrix_Solve_0 : SC := .seq (.reg [o 3 (.box (.t 0)), o 4 (.box (.t 1)), o 6 (.mv (.k .nils)), o 7 (.mv (ki 0))]) c_matrix_Solve_1
theorem cf_matrix_Solve : cfun Go.Proofs.Try.prog md n_matrix_Solve = some ⟨3, 111, c_matrix_Solve_0.erase, [.t 6, .t 7]⟩ := by kernel_rfl
end Go.AM.Ytmihmgnjnedfcab
end

section
/- Contracts of functions: Vec, Det, Inverse. -/
set_option maxRecDepth 100000
set_option linter.unusedSimpArgs false
set_option linter.unusedVariables false
namespace Go.AM.Ytmihmgnjnedfcab
open Go Go.AM
attribute [local simp ↓] awp_seq awp_reg awp_skip awp_cond' awp_block awp_exit awp_ret awp_fz thenW_normal thenW_exit thenW_ret inBlk_normal inBlk_exit inBlk_ret aops_cons' contA_ap aops_nil e_mv e_guard' e_pick' e_ld' e_app e_cpy e_st' e_call callW_f updO_some updO_none e_bin' e_isnil' e_fadr' e_iadr' e_iarr' e_len' e_build' e_mkf' e_nc' e_not' e_neg' e_cvt' e_slc' e_fld' e_ext' e_min' e_eqs' e_new e_box e_mkl e_mks
attribute [local simp] upd_apply ev_t ev_k ev_f binA_add binA_sub binA_mul binA_quo binA_rem binA_eql binA_neq binA_lss binA_leq binA_gtr binA_geq det mem frame0 keeps_nil iadrA_sl fadrA_ref fadrA_fp ldv_agg ldv_one cells_base hset_same hset_hset lenA_fs lenA_sl lenA_nils zeros_ints ints_length one_base one_nilp one_nils one_ref one_sl one_fp one_fs one_fn gl_one resA resOf bound natOf afill splice AV.cells cells_agg bindR_some condR_true condR_false guardR_tup guardR_true guardR_true' guardR_false guardR_false' allocW_some pickA_true pickA_false
open Go.FM

/-- Errors of a matrix and of what goes with it. -/
noncomputable def vecE (p m : Int) (mo : List Int) (c : Int) (L : List (List Int)) (x : List Int) : Int :=
  if openE p m mo [(c, L)] ≠ 0 then openE p m mo [(c, L)] else if (x.length : Int) ≠ L.length then 3 else entE (mkD p m mo) x
noncomputable def vecR (p m : Int) (mo : List Int) (c : Int) (L : List (List Int)) (x : List Int) : AV :=
  if vecE p m mo c L x = 0 then .tup [.fs c.toNat (ints (combK (mkD p m mo) x L c.toNat x.length)), I 0] else .tup [.nils, I (vecE p m mo c L x)]

theorem two_boxes {h : Hp} {b2 b3 : Nat} {xs ys : List AV} (hb2 : h b2 = none) (hb3 : hset h b2 xs b3 = none) : (hset (hset h b2 xs) b3 ys) b2 = some xs ∧ (hset (hset h b2 xs) b3 ys) b3 = some ys ∧ Kp h (hset (hset h b2 xs) b3 ys) :=
  ⟨(Kp.refl _).new hb3 _ b2 _ (hset_same ..), hset_same .., ((Kp.refl h).new hb2 _).new hb3 _⟩
theorem three_boxes {h : Hp} {b2 b3 b4 : Nat} {xs ys zs : List AV} (hb2 : h b2 = none) (hb3 : hset h b2 xs b3 = none) (hb4 : hset (hset h b2 xs) b3 ys b4 = none) :
    (hset (hset (hset h b2 xs) b3 ys) b4 zs) b2 = some xs ∧ (hset (hset (hset h b2 xs) b3 ys) b4 zs) b3 = some ys ∧ (hset (hset (hset h b2 xs) b3 ys) b4 zs) b4 = some zs ∧ Kp h (hset (hset (hset h b2 xs) b3 ys) b4 zs) ∧ h b4 = none :=
  ⟨((Kp.refl _).new hb3 _).new hb4 _ b2 _ (hset_same ..), (Kp.refl _).new hb4 _ b3 _ (hset_same ..), hset_same .., (((Kp.refl h).new hb2 _).new hb3 _).new hb4 _, (((Kp.refl h).new hb2 xs).new hb3 ys).no hb4⟩

theorem s_Vec {p m : Int} {mv v xv : AV} {mo : List Int} (hmv : IL mv mo) (hml : mo.length < 4611686018427387904) {c : Int} {L : List (List Int)} (hv : ML v L) (hs : MSm L) {x : List Int} (hx : IL xv x) (hxl : x.length < 4611686018427387904) :
    Pure prog n_matrix_Vec [.agg [I p, I m, mv], xv, .agg [I c, v]] (vecR p m mo c L x) := by
  refine pure_of cf_matrix_Vec rfl fun h => ?_
  have hone := hmv.one
  have hone2 := hv.one
  unfold c_matrix_Vec_0 c_matrix_Vec_1
  generalize hC : c_matrix_Vec_2 = C2
  simp [hone, hone2]
  intro b3 hb3 b5 hb5
  obtain ⟨g3, g5, hk⟩ := two_boxes (ys := [I c, v]) hb3 hb5
  generalize hset (hset h b3 [I p, I m, mv]) b5 [I c, v] = g at *
  obtain ⟨_, _, _, l3⟩ := ld3_at g3
  have l5 := lq_both g5
  simp [l3, l5, hone2]
  intro b hb
  refine (open1 (p := p) (m := m) hmv hml hv hs (hset_same ..)).call ?_
  have hkb : Kp g (hset g b [I c, v]) := (Kp.refl g).new hb _
  have g5 := hkb _ _ g5
  have hk := hk.trans hkb
  generalize hset g b [I c, v] = G at *
  have l50 := lq_fst g5
  have l51 := lq_snd g5
  have bad : ∀ e, vecE p m mo c L x = e → e ≠ 0 → RetP h (vecR p m mo c L x) (.tup [.nils, I e]) G := fun e he h0 => by
    rw [vecR, if_neg (by rw [he]; exact h0), he]; exact ⟨_, hk.sub, .id _, rfl⟩
  unfold openR
  by_cases he : openE p m mo [(c, L)] = 0
  case neg =>
    rw [if_neg he]
    have hb := bad _ (by rw [vecE, if_pos he]) he
    generalize openE p m mo [(c, L)] = e at *
    simp
    subst hC
    simp [he]
    exact hb
  rw [if_pos he]
  have hE2 : vecE p m mo c L x = if (x.length : Int) ≠ L.length then 3 else entE (mkD p m mo) x := by rw [vecE, if_neg (by simpa using he)]
  obtain ⟨hf, n, rfl, hn, hLn, hM⟩ := openE_one he
  have r := hf.fd
  simp
  subst hC
  unfold c_matrix_Vec_2 c_matrix_Vec_3
  generalize hC : c_matrix_Vec_4 = C4
  by_cases hxL : (x.length : Int) = L.length
  case neg =>
    have hb := bad 3 (by rw [hE2, if_pos hxL]) (by omega)
    have hxL' : ¬ x.length = L.length := by omega
    simp [hx.len, l51, hv.len, hxL', hxL]
    exact hb
  have hxL' : x.length = L.length := by omega
  rw [if_neg (by simpa using hxL)] at hE2
  simp [hx.len, l51, hv.len, hxL']
  subst hC
  unfold c_matrix_Vec_4
  generalize hC : c_matrix_Vec_5 = C5
  simp
  refine (s_entries r hx hxl).call ?_
  by_cases hen : entE (mkD p m mo) x = 0
  case neg =>
    have hb := bad _ hE2 hen
    generalize entE (mkD p m mo) x = e at *
    simp [hen]
    exact hb
  rw [hen]
  have hV : vecR p m mo n L x = .tup [.fs n (ints (combK (mkD p m mo) x L n x.length)), I 0] := by rw [vecR, if_pos (by rw [hE2, hen]), Int.toNat_natCast]
  rw [hV]
  simp
  subst hC
  simp [l50, l51]
  refine (s_vec r hx hv hxl (by omega) (by omega) (fun i hi => hM.len hi)).call ?_
  simp
  exact ⟨_, hk.sub, .id _, rfl⟩

noncomputable def detE (p m : Int) (mo : List Int) (c : Int) (L : List (List Int)) : Int :=
  if openE p m mo [(c, L)] ≠ 0 then openE p m mo [(c, L)] else if (L.length : Int) ≠ c then 3 else 0
noncomputable def detV (p m : Int) (mo : List Int) (c : Int) (L : List (List Int)) : Int := if (rkN (mkD p m mo) L c.toNat : Int) < c then 0 else (elim (mkD p m mo) L c.toNat).det
noncomputable def detR (p m : Int) (mo : List Int) (c : Int) (L : List (List Int)) : AV :=
  if detE p m mo c L = 0 then .tup [I (detV p m mo c L), I 0] else .tup [I 0, I (detE p m mo c L)]

theorem s_Det {p m : Int} {mv v : AV} {mo : List Int} (hmv : IL mv mo) (hml : mo.length < 4611686018427387904) {c : Int} {L : List (List Int)} (hv : ML v L) (hs : MSm L) :
    Pure prog n_matrix_Det [.agg [I p, I m, mv], .agg [I c, v]] (detR p m mo c L) := by
  refine pure_of cf_matrix_Det rfl fun h => ?_
  have hone := hmv.one
  have hone2 := hv.one
  unfold c_matrix_Det_0 c_matrix_Det_1
  generalize hC : c_matrix_Det_2 = C2
  simp [hone, hone2]
  intro b2 hb2 b3 hb3
  obtain ⟨g2, g3, hk⟩ := two_boxes (ys := [I c, v]) hb2 hb3
  generalize hset (hset h b2 [I p, I m, mv]) b3 [I c, v] = g at *
  obtain ⟨_, _, _, l2⟩ := ld3_at g2
  have l3 := lq_both g3
  simp [l2, l3, hone2]
  intro b hb
  refine (open1 (p := p) (m := m) hmv hml hv hs (hset_same ..)).call ?_
  have hkb : Kp g (hset g b [I c, v]) := (Kp.refl g).new hb _
  have g3 := hkb _ _ g3
  have hk := hk.trans hkb
  generalize hset g b [I c, v] = G at *
  have l30 := lq_fst g3
  have l31 := lq_snd g3
  have bad : ∀ e, detE p m mo c L = e → e ≠ 0 → RetP h (detR p m mo c L) (.tup [I 0, I e]) G := fun e he h0 => by
    rw [detR, if_neg (by rw [he]; exact h0), he]; exact ⟨_, hk.sub, .id _, rfl⟩
  unfold openR
  by_cases he : openE p m mo [(c, L)] = 0
  case neg =>
    rw [if_neg he]
    have hb := bad _ (by rw [detE, if_pos he]) he
    generalize openE p m mo [(c, L)] = e at *
    simp
    subst hC
    simp [he]
    exact hb
  rw [if_pos he]
  have hE2 : detE p m mo c L = if (L.length : Int) ≠ c then 3 else 0 := by rw [detE, if_neg (by simpa using he)]
  obtain ⟨hf, n, rfl, hn, hLn, hM⟩ := openE_one he
  have r := hf.fd
  simp
  subst hC
  unfold c_matrix_Det_2 c_matrix_Det_3
  generalize hC : c_matrix_Det_4 = C4
  by_cases hLc : L.length = n
  case neg =>
    have hb := bad 3 (by rw [hE2, if_pos (by omega)]) (by omega)
    have hLc' : ¬ (L.length : Int) = n := by omega
    simp [l30, l31, hv.len, hLc, hLc']
    exact hb
  rw [if_neg (by omega)] at hE2
  simp [l30, l31, hv.len, hLc]
  subst hC
  unfold c_matrix_Det_4
  generalize hC : c_matrix_Det_5 = C5
  simp [l30, l31]
  refine call2 (w_clone hv (by omega) (fun row hr => by
    have := (hM row hr).1
    have : 0 < L.length := List.length_pos_of_mem hr
    omega) G) fun v1 h1 ⟨o, bs, hv1, a⟩ => ⟨a.kp, ?_⟩
  subst hv1
  have hel := w_eliminate r (E2.of (w := n) a fun row hr => by rw [(hM row hr).1]; exact Nat.le_refl _) hM (by omega) (Nat.le_refl _) (by omega) (Nat.le_refl _)
  simp
  refine call0 hel fun v2 h2 ⟨hv2, e2⟩ => ?_
  subst hv2
  have hk2 := hk.trans e2.kp
  have l30 := lq_fst (e2.kp _ _ g3)
  have hpo := (gil_IL (pivL (mkD p m mo) L n)).len
  rw [pivL_len] at hpo
  have hpv : up (elim (mkD p m mo) L n).pv = pivL (mkD p m mo) L n := rfl
  rw [hpv]
  have hV : detR p m mo n L = .tup [I (if (rkN (mkD p m mo) L n : Int) < n then 0 else (elim (mkD p m mo) L n).det), I 0] := by rw [detR, if_pos hE2, detV, Int.toNat_natCast]
  rw [hV]
  generalize gil (pivL (mkD p m mo) L n) = pv at *
  generalize (elim (mkD p m mo) L n).det = dt at *
  generalize rkN (mkD p m mo) L n = rk at *
  subst hC
  by_cases hlt : rk < n
  · have hlt' : (rk : Int) < n := by omega
    simp [l30, hpo, hlt]
    exact ⟨_, hk2.sub, .id _, rfl⟩
  · have hlt' : ¬ (rk : Int) < n := by omega
    simp [l30, hpo, hlt]
    exact ⟨_, hk2.sub, .id _, rfl⟩

/-- Two matrices side by side. -/
def joinL (A B : List (List Int)) : List (List Int) := List.zipWith (· ++ ·) A B
theorem joinL_len {A B : List (List Int)} (h : A.length = B.length) : (joinL A B).length = A.length := by simp [joinL, h]
theorem joinL_get {A B : List (List Int)} (h : A.length = B.length) {i : Nat} (hi : i < A.length) : (joinL A B).getD i [] = A.getD i [] ++ B.getD i [] := by
  have hb : i < B.length := by omega
  have hj : i < (joinL A B).length := by rw [joinL_len h]; exact hi
  have e : (joinL A B)[i] = A[i] ++ B[i] := by simp [joinL]
  simp [List.getD, hi, hb, hj, e]
theorem list_ext {A B : List (List Int)} (h : A.length = B.length) (e : ∀ i, i < A.length → A.getD i [] = B.getD i []) : A = B := by
  refine List.ext_getElem h fun i h1 h2 => ?_
  have := e i h1
  simpa [List.getD, h1, h2] using this
theorem joinL_tk {A B : List (List Int)} (h : A.length = B.length) {w : Nat} (hw : ∀ row ∈ A, row.length = w) : tkL w (joinL A B) = A := by
  have hl := joinL_len h
  refine list_ext (by rw [tkL_len, hl]) fun i hi => ?_
  rw [tkL_len, hl] at hi
  rw [cutL_get (tk_nil w), joinL_get h hi, List.take_left' (hw _ (mem_getD hi))]
theorem joinL_dp {A B : List (List Int)} (h : A.length = B.length) {w : Nat} (hw : ∀ row ∈ A, row.length = w) : dpL w (joinL A B) = B := by
  have hl := joinL_len h
  refine list_ext (by rw [dpL_len, hl, h]) fun i hi => ?_
  rw [dpL_len, hl] at hi
  rw [cutL_get (dp_nil w), joinL_get h hi, List.drop_left' (hw _ (mem_getD hi))]
theorem joinL_mat {D : Ds} {A B : List (List Int)} (h : A.length = B.length) {w w2 : Nat} (hA : Mat D w A) (hB : Mat D w2 B) : Mat D (w + w2) (joinL A B) := fun row hr => by
  obtain ⟨i, hi, rfl⟩ := List.mem_iff_getElem.1 hr
  have hl := joinL_len h
  have e := joinL_get h (show i < A.length by omega)
  have e2 : (joinL A B)[i] = (joinL A B).getD i [] := by simp [List.getD, hi]
  rw [e2, e]
  have hA1 := hA.len (i := i) (by omega)
  have hB1 := hB.len (i := i) (by omega)
  refine ⟨by rw [List.length_append, hA1, hB1], fun x hx => ?_⟩
  rcases List.mem_append.1 hx with hx | hx
  · exact hA.R (by omega) x hx
  · exact hB.R (by omega) x hx
theorem unitL_mat {D : Ds} (o : D.Ok) (n : Nat) : Mat D n (unitL n) := fun row hr => by
  obtain ⟨i, _, rfl⟩ := List.mem_map.1 hr
  refine ⟨by simp, fun x hx => ?_⟩
  obtain ⟨j, _, rfl⟩ := List.mem_map.1 hx
  dsimp only
  split
  · exact o.q1
  · exact o.q0

theorem Dj.of {G h : Hp} {o o2 : Nat} {bs bs2 : Nat → Nat} {L U : List (List Int)} (a : LV G h o bs L) (b : LM G o2 bs2 U) : Dj o bs L.length o2 bs2 U.length :=
  ⟨(fun he => by have := b.out; rw [← he, a.no] at this; cases this), (fun i hi he => by have := b.out; rw [← he, a.nr i hi] at this; cases this),
    (fun j hj he => by have := b.row j hj; rw [he, a.no] at this; cases this), (fun i j hi hj he => by have := b.row j hj; rw [← he, a.nr i hi] at this; cases this)⟩

/-- The elimination of a matrix beside the identity. -/
noncomputable def elimU (D : Ds) (L : List (List Int)) (c : Nat) : ES := elim D (joinL L (unitL L.length)) c
theorem elimU_tk {D : Ds} {L : List (List Int)} {w c : Nat} (hw : ∀ row ∈ L, row.length = w) (hc : c ≤ w) : elim D L c = (elimU D L c).tk w := by
  have := elim_tk (D := D) (w := w) (joinL L (unitL L.length)) c hc
  rw [joinL_tk (unitL_len _).symm hw] at this
  exact this
theorem elimU_pv {D : Ds} {L : List (List Int)} {w c : Nat} (hw : ∀ row ∈ L, row.length = w) (hc : c ≤ w) : (elimU D L c).pv = (elim D L c).pv := by rw [elimU_tk hw hc]; rfl

noncomputable def invE (p m : Int) (mo : List Int) (c : Int) (L : List (List Int)) : Int :=
  if openE p m mo [(c, L)] ≠ 0 then openE p m mo [(c, L)] else if (L.length : Int) ≠ c then 3 else if (rkN (mkD p m mo) L c.toNat : Int) < c then 9 else 0
noncomputable def invL (D : Ds) (L : List (List Int)) (n : Nat) : List (List Int) := dpL n (elimU D L n).L
theorem invL_len (D : Ds) (L : List (List Int)) (n : Nat) : (invL D L n).length = L.length := by
  unfold invL elimU
  rw [dpL_len, elim_len, joinL_len (unitL_len _).symm]
noncomputable def invVR (p m : Int) (mo : List Int) (c : Int) (L : List (List Int)) : AV :=
  if invE p m mo c L = 0 then .tup [.agg [I c, .fs c.toNat ((invL (mkD p m mo) L c.toNat).map frow)], I 0] else .tup [.agg [I 0, .nils], I (invE p m mo c L)]

set_option maxHeartbeats 1000000 in
theorem s_Inverse {p m : Int} {mv v : AV} {mo : List Int} (hmv : IL mv mo) (hml : mo.length < 4611686018427387904) {c : Int} {L : List (List Int)} (hv : ML v L) (hs : MSm L) :
    Pure prog n_matrix_Inverse [.agg [I p, I m, mv], .agg [I c, v]] (invVR p m mo c L) := by
  refine pure_of cf_matrix_Inverse rfl fun h => ?_
  have hone := hmv.one
  have hone2 := hv.one
  unfold c_matrix_Inverse_0 c_matrix_Inverse_1
  generalize hC : c_matrix_Inverse_2 = C2
  simp [hone, hone2]
  intro b2 hb2 b3 hb3 b4 hb4
  obtain ⟨g2, g3, g4, hk, n4⟩ := three_boxes (zs := [I 0, .nils]) hb2 hb3 hb4
  generalize hset (hset (hset h b2 [I p, I m, mv]) b3 [I c, v]) b4 [I 0, .nils] = g at *
  obtain ⟨_, _, _, l2⟩ := ld3_at g2
  have l3 := lq_both g3
  simp [l2, l3, hone2]
  intro b hb
  refine (open1 (p := p) (m := m) hmv hml hv hs (hset_same ..)).call ?_
  have hkb : Kp g (hset g b [I c, v]) := (Kp.refl g).new hb _
  have g3 := hkb _ _ g3
  have g4 := hkb _ _ g4
  have hk := hk.trans hkb
  generalize hset g b [I c, v] = G at *
  have l30 := lq_fst g3
  have l31 := lq_snd g3
  have st0 := fun R => sr_all (R := R) (cs' := [I 0, .nils]) g4 (n := 2) rfl rfl rfl
  rw [hset_id g4] at st0
  have l4 := lq_both g4
  have bad : ∀ e, invE p m mo c L = e → e ≠ 0 → RetP h (invVR p m mo c L) (.tup [.agg [I 0, .nils], I e]) G := fun e he h0 => by
    rw [invVR, if_neg (by rw [he]; exact h0), he]; exact ⟨_, hk.sub, .id _, rfl⟩
  unfold openR
  by_cases he : openE p m mo [(c, L)] = 0
  case neg =>
    rw [if_neg he]
    have hb := bad _ (by rw [invE, if_pos he]) he
    generalize openE p m mo [(c, L)] = e at *
    simp
    subst hC
    simp [he, st0, l4]
    exact hb
  rw [if_pos he]
  have hE2 : invE p m mo c L = if (L.length : Int) ≠ c then 3 else if (rkN (mkD p m mo) L c.toNat : Int) < c then 9 else 0 := by rw [invE, if_neg (by simpa using he)]
  obtain ⟨hf, n, rfl, hn, hLn, hM⟩ := openE_one he
  have r := hf.fd
  simp
  subst hC
  unfold c_matrix_Inverse_2 c_matrix_Inverse_3
  generalize hC : c_matrix_Inverse_4 = C4
  by_cases hLc : L.length = n
  case neg =>
    have hb := bad 3 (by rw [hE2, if_pos (by omega)]) (by omega)
    have hLc' : ¬ (L.length : Int) = n := by omega
    simp [l30, l31, hv.len, hLc, hLc', st0, l4]
    exact hb
  rw [if_neg (by omega), Int.toNat_natCast] at hE2
  simp [l30, l31, hv.len, hLc]
  subst hC
  unfold c_matrix_Inverse_4 c_matrix_Inverse_5
  generalize hC : c_matrix_Inverse_6 = C6
  simp [l30]
  have hu := w_unit (n := n) (by omega) G
  refine call0 hu fun v1 h1 ⟨o2, bs2, hv1, a2⟩ => ?_
  subst hv1
  rw [unitL_len]
  have l30 := lq_fst (a2.kp _ _ g3)
  have l31 := lq_snd (a2.kp _ _ g3)
  simp [l30, l31]
  refine call2 (w_clone hv (by omega) (fun row hr => by
    have := (hM row hr).1
    have : 0 < L.length := List.length_pos_of_mem hr
    omega) h1) fun v1 h2 ⟨o, bs, hv1, a⟩ => ⟨a.kp, ?_⟩
  subst hv1
  have hul : L.length = (unitL L.length).length := (unitL_len _).symm
  have hrow : ∀ row ∈ L, row.length = n := fun row hr => (hM row hr).1
  have hJ := joinL_mat hul hM (unitL_mat r.toOk L.length)
  have hJl := joinL_len hul
  have a2' : LV G h2 o2 bs2 (unitL n) := a2.grow a.kp
  have dj := Dj.of a a2.lm
  have e2 : E2 G h2 o n (.sl o2 0 n 1) (joinL L (unitL L.length)) := by
    refine ⟨bs, by rw [joinL_tk hul hrow]; exact a.mono a2.kp, .inr ⟨o2, bs2, by rw [hJl, hLc], by rw [joinL_dp hul hrow, hLc]; exact a2', ?_⟩⟩
    rw [hJl]
    rw [unitL_len, ← hLc] at dj
    exact dj
  have hel := w_eliminate r e2 hJ (by omega) (by omega) (by omega) (Nat.le_refl n)
  rw [hJl] at hel
  simp
  refine call0 hel fun v2 h3 ⟨hv2, e3⟩ => ?_
  subst hv2
  have hpv : (elim (mkD p m mo) (joinL L (unitL L.length)) n).pv = (elim (mkD p m mo) L n).pv := elimU_pv hrow (Nat.le_refl n)
  have hpv2 : up (elim (mkD p m mo) L n).pv = pivL (mkD p m mo) L n := rfl
  rw [hpv, hpv2]
  have hpo := (gil_IL (pivL (mkD p m mo) L n)).len
  rw [pivL_len] at hpo
  have hln := elim_len (mkD p m mo) (joinL L (unitL L.length)) n
  have hfz : Sub h3 h ∧ Frz h3 h (.sl o2 0 n 1) (.fs n ((invL (mkD p m mo) L n).map frow)) := by
    obtain ⟨bs', _, ha⟩ := e3
    rcases ha with ha | ⟨o2', bs2', ha, lv, _⟩
    · cases ha
    · injection ha with e1
      subst e1
      have hdl : (dpL n (elim (mkD p m mo) (joinL L (unitL L.length)) n).L).length = n := by rw [dpL_len, hln, hJl, hLc]
      have := (lv.mono hk).frzP (r := n) (by rw [hdl]; exact Nat.le_refl n)
      rw [List.take_of_length_le (by rw [hdl]; exact Nat.le_refl n)] at this
      exact this
  have l30 := lq_fst (e3.kp _ _ g3)
  have g4' := e3.kp _ _ g4
  have hk3 := hk.trans e3.kp
  have st0 := fun R => sr_all (R := R) (cs' := [I 0, .nils]) g4' (n := 2) rfl rfl rfl
  rw [hset_id g4'] at st0
  have l4 := lq_both g4'
  have st := fun R => sr_all (R := R) (cs' := [I n, .sl o2 0 n 1]) g4' (n := 2) rfl rfl rfl
  have l4' := lq_both (hset_same h3 b4 [I n, .sl o2 0 n 1])
  have hfin : invE p m mo n L = 0 → RetP h (invVR p m mo n L) (.tup [.agg [I n, .sl o2 0 n 1], I 0]) (hset h3 b4 [I n, .sl o2 0 n 1]) := fun h0 => by
    rw [invVR, if_pos h0, Int.toNat_natCast]
    obtain ⟨bs', _, ha⟩ := e3
    rcases ha with ha | ⟨o2', bs2', ha, lv, _⟩
    · cases ha
    · injection ha with e1
      subst e1
      have hdl : (dpL n (elim (mkD p m mo) (joinL L (unitL L.length)) n).L).length = n := by rw [dpL_len, hln, hJl, hLc]
      have := ((lv.set g4 [I n, .sl o2 0 n 1]).mono (hk.set n4 _)).frzP (r := n) (by rw [hdl]; exact Nat.le_refl n)
      rw [List.take_of_length_le (by rw [hdl]; exact Nat.le_refl n)] at this
      exact RetP.tup this.1 rfl (frz2 (.agg _ _ rfl (frz2 (.id _) this.2)) (.id _))
  generalize gil (pivL (mkD p m mo) L n) = pv at *
  subst hC
  by_cases hlt : rkN (mkD p m mo) L n < n
  · have hlt' : (rkN (mkD p m mo) L n : Int) < n := by omega
    rw [if_pos hlt'] at hE2
    have hbad : RetP h (invVR p m mo n L) (.tup [.agg [I 0, .nils], I 9]) h3 := by
      rw [invVR, if_neg (by rw [hE2]; omega), hE2]; exact ⟨_, hk3.sub, .id _, rfl⟩
    generalize rkN (mkD p m mo) L n = rk at *
    simp [l30, hpo, hlt, st0, l4]
    exact hbad
  · have hlt' : ¬ (rkN (mkD p m mo) L n : Int) < n := by omega
    rw [if_neg hlt'] at hE2
    have hgood := hfin hE2
    generalize rkN (mkD p m mo) L n = rk at *
    simp [l30, hpo, hlt, st, l4']
    exact hgood
end Go.AM.Ytmihmgnjnedfcab
end

section
/- Contracts of functions: Solve. -/
set_option maxRecDepth 100000
set_option linter.unusedSimpArgs false
set_option linter.unusedVariables false
namespace Go.AM.Ytmihmgnjnedfcab
open Go Go.AM
attribute [local simp ↓] awp_seq awp_reg awp_skip awp_cond' awp_block awp_exit awp_ret awp_fz thenW_normal thenW_exit thenW_ret inBlk_normal inBlk_exit inBlk_ret aops_cons' contA_ap aops_nil e_mv e_guard' e_pick' e_ld' e_app e_cpy e_st' e_call callW_f updO_some updO_none e_bin' e_isnil' e_fadr' e_iadr' e_iarr' e_len' e_build' e_mkf' e_nc' e_not' e_neg' e_cvt' e_slc' e_fld' e_ext' e_min' e_eqs' e_new e_box e_mkl e_mks
attribute [local simp] upd_apply ev_t ev_k ev_f binA_add binA_sub binA_mul binA_quo binA_rem binA_eql binA_neq binA_lss binA_leq binA_gtr binA_geq det mem frame0 keeps_nil iadrA_sl fadrA_ref fadrA_fp ldv_agg ldv_one cells_base hset_same hset_hset lenA_fs lenA_sl lenA_nils zeros_ints ints_length one_base one_nilp one_nils one_ref one_sl one_fp one_fs one_fn gl_one resA resOf bound natOf afill splice AV.cells cells_agg bindR_some condR_true condR_false guardR_tup guardR_true guardR_true' guardR_false guardR_false' allocW_some pickA_true pickA_false
open Go.FM

/-- What a cell of an outer block is: nil, or a row of its own. -/
def CO (h h' : Hp) (o b : Nat) (c : AV) (l : List Int) : Prop := (c = .nils ∧ l = []) ∨ (c = .sl b 0 l.length 1 ∧ h' b = some (ints l) ∧ h b = none ∧ b ≠ o)
structure QM (h h' : Hp) (o : Nat) (bs : Nat → Nat) (n : Nat) (cs : List AV) (X : Nat → List Int) : Prop where
  kp : Kp h h'
  ho : h o = none
  out : h' o = some cs
  len : cs.length = n
  cell : ∀ i, i < n → CO h h' o (bs i) (cs.getD i .nils) (X i)
  inj : ∀ i j, i < n → j < n → i ≠ j → cs.getD i .nils ≠ .nils → cs.getD j .nils ≠ .nils → bs i ≠ bs j
section
variable {h h' : Hp} {o n : Nat} {bs : Nat → Nat} {cs : List AV} {X : Nat → List Int}
theorem CO.one {b : Nat} {c : AV} {l : List Int} (q : CO h h' o b c l) : one c = true ∧ c.cells = [c] := by
  rcases q with ⟨rfl, _⟩ | ⟨rfl, _⟩ <;> exact ⟨rfl, rfl⟩
theorem QM.start (hb : h o = none) (n : Nat) : QM h (hset h o (List.replicate n .nils)) o (fun _ => 0) n (List.replicate n .nils) (fun _ => []) :=
  ⟨(Kp.refl h).new hb _, hb, hset_same .., by simp, fun i hi => .inl ⟨by simp [List.getD, hi], rfl⟩, fun i j hi hj hij h1 => absurd (by simp [List.getD, hi]) h1⟩
/-- A cell is put in place. -/
theorem QM.upd (q : QM h h' o bs n cs X) {k : Nat} (hk : k < n) {h2 : Hp} {b : Nat} {c : AV} {l : List Int} (kp : Kp h h2) (ho2 : h2 o = some cs) (same : ∀ i, i < n → i ≠ k → cs.getD i .nils ≠ .nils → h2 (bs i) = h' (bs i)) (hc : CO h h2 o b c l)
    (new : c ≠ .nils → ∀ i, i < n → i ≠ k → cs.getD i .nils ≠ .nils → bs i ≠ b) :
    (∀ R : AV → Hp → Prop, stR (.ref o k) c 1 h2 R = R (.tup []) (hset h2 o (cs.set k c))) ∧ QM h (hset h2 o (cs.set k c)) o (fun i => if i = k then b else bs i) n (cs.set k c) (fun i => if i = k then l else X i) := by
  have hl := q.len
  have hgk : (cs.set k c).getD k .nils = c := by rw [getD_set, if_pos ⟨rfl, by omega⟩]
  have hgi : ∀ i, i ≠ k → (cs.set k c).getD i .nils = cs.getD i .nils := fun i hi => by rw [getD_set, if_neg (by omega)]
  refine ⟨fun R => sr_one ho2 hc.one.2 hc.one.1 (by omega), ⟨kp.set q.ho _, q.ho, hset_same .., by simpa using hl, fun i hi => ?_, fun i j hi hj hij h1 h2' => ?_⟩⟩
  · by_cases e : i = k
    · subst e
      rw [hgk, if_pos rfl, if_pos rfl]
      rcases hc with hc | ⟨c1, c2, c3, c4⟩
      · exact .inl hc
      · exact .inr ⟨c1, by rw [hset_ne _ _ c4]; exact c2, c3, c4⟩
    · rw [hgi i e, if_neg e, if_neg e]
      rcases q.cell i hi with hc | ⟨c1, c2, c3, c4⟩
      · exact .inl hc
      · refine .inr ⟨c1, ?_, c3, c4⟩
        rw [hset_ne _ _ c4, same i hi e (by rw [c1]; exact fun h => by cases h)]
        exact c2
  · by_cases e : i = k
    · rw [e, hgk] at h1
      rw [hgi j (by omega)] at h2'
      rw [if_pos e, if_neg (by omega)]
      exact Ne.symm (new h1 j hj (by omega) h2')
    · rw [hgi i e] at h1
      rw [if_neg e]
      by_cases e2 : j = k
      · rw [e2, hgk] at h2'
        rw [if_pos e2]
        exact new h2' i hi e h1
      · rw [hgi j e2] at h2'
        rw [if_neg e2]
        exact q.inj i j hi hj hij h1 h2'
theorem QM.lv {J : List (List Int)} (q : QM h h' o bs n cs X) (hJ : J.length = n) (hX : ∀ i, i < n → X i = J.getD i [] ∧ X i ≠ []) : LV h h' o bs J := by
  have hc : ∀ i, i < n → cs.getD i .nils = .sl (bs i) 0 (J.getD i []).length 1 ∧ h' (bs i) = some (ints (J.getD i [])) ∧ h (bs i) = none ∧ bs i ≠ o := fun i hi => by
    obtain ⟨x1, x2⟩ := hX i hi
    rcases q.cell i hi with ⟨_, hc⟩ | hc
    · exact absurd hc x2
    · rw [x1] at hc; exact hc
  have hn : ∀ i, i < n → cs.getD i .nils ≠ .nils := fun i hi => by rw [(hc i hi).1]; exact fun h => by cases h
  refine ⟨⟨fun i j hi hj hij => q.inj i j (by omega) (by omega) hij (hn i (by omega)) (hn j (by omega)), fun i hi => (hc i (by omega)).2.2.2, ?_, fun i hi => (hc i (by omega)).2.1⟩, q.kp, q.ho, fun i hi => (hc i (by omega)).2.2.1⟩
  rw [q.out]
  congr 1
  have hl := q.len
  refine List.ext_getElem (by simp; omega) fun i h1 h2 => ?_
  have := (hc i (by omega)).1
  simp only [List.getElem_map, List.getElem_range]
  rw [← this]
  simp [List.getD, h1]
end

theorem w_CloneG {v : AV} {l : List Int} (hv : IL v l) (hl : l.length ≤ 4294967296) (h : Hp) : Spec prog n_slices_Clone_int_int [v] h (fun v' h' => (v' = .nils ∧ l = [] ∧ h' = h) ∨ LiveR h l v' h') := by
  refine spec_of cf_slices_Clone_int_int rfl ?_
  by_cases hn : v = .nils
  · have hl0 : l = [] := by
      rcases hv.2 with ⟨_, h1⟩ | h1
      · exact List.eq_nil_of_length_eq_zero h1
      · rw [hn] at h1; cases h1
    subst hn hl0
    simp [isNil]
  · have hnil : isNil v = some false := by
      rcases hv.2 with ⟨h1, _⟩ | rfl
      · exact absurd h1 hn
      · rfl
    simp [hnil]
    intro b5 hb5
    refine app_empty (hset_same ..) hv hl fun b' hb' => ?_
    have hb2 : h b' = none := by
      rcases hb' with rfl | hb'
      · exact hb5
      · by_cases e : b' = b5
        · rw [e]; exact hb5
        · rwa [hset_ne _ _ e] at hb'
    simp
    exact ⟨((Kp.refl h).new hb5 _).set hb2 _, b', hb2, rfl, hset_same ..⟩

theorem w_cloneG {v : AV} {L : List (List Int)} (hv : ML v L) (hL : L.length ≤ 4294967296) (hw : ∀ row ∈ L, row.length ≤ 4294967296) (h : Hp) :
    Spec prog n_matrix_clone [v] h (fun v' h' => ∃ o bs cs X, v' = .sl o 0 L.length 1 ∧ QM h h' o bs L.length cs X ∧ ∀ i, i < L.length → X i = L.getD i []) := by
  refine spec_of cf_matrix_clone rfl ?_
  have hL' : (L.length : Int) ≤ 4294967296 := by omega
  simp [hv.len, hL', one_nils]
  intro b hb
  rw [zeros_nils]
  refine awp_for L.length (fun k fr' h' => (∃ bs cs X, QM h h' b bs L.length cs X ∧ (∀ i, i < k → X i = L.getD i []) ∧ ∀ i, k ≤ i → i < L.length → cs.getD i .nils = .nils) ∧ fr' 11 = I k) ⟨⟨_, _, _, QM.start hb _, fun i hi => by omega, fun i _ hi => by simp [List.getD, hi]⟩, by simp⟩ ?_
  intro k fr' h' hkn hk ⟨⟨bs, cs, X, q, hX, hN⟩, k11⟩
  have k3 := hk 3 (by decide)
  have k9 := hk 9 (by decide)
  have k10 := hk 10 (by decide)
  simp at k3 k9 k10
  clear hk
  by_cases hlt : k < L.length
  · have u1 : IntKind.i64.wrap ((k : Int) + 1) = k + 1 := w64 _ (by omega)
    obtain ⟨pa, row, hpa, hpl, hrow⟩ := hv.rd hlt
    have hm := hw _ (mem_getD (d := []) hlt)
    have hcl := w_CloneG hrow hm h'
    have hfin : ∀ (cs' : List AV) (X' : Nat → List Int) (c : AV) (l : List Int), cs' = cs.set k c → X' = (fun i => if i = k then l else X i) → l = L.getD k [] → (∀ i, i < k + 1 → X' i = L.getD i []) ∧ ∀ i, k + 1 ≤ i → i < L.length → cs'.getD i .nils = .nils := by
      intro cs' X' c l e1 e2 e3
      subst e1 e2 e3
      refine ⟨fun i hi => ?_, fun i h1 h2 => ?_⟩
      · by_cases e : i = k
        · simp only [e, if_pos]
        · simp only [e, if_false]; exact hX i (by omega)
      · rw [getD_set, if_neg (by omega)]; exact hN i (by omega) h2
    have hall : ∀ (c : AV) (l : List Int), l = L.getD k [] → (∀ i, i < k + 1 → (fun i => if i = k then l else X i) i = L.getD i []) ∧ ∀ i, k + 1 ≤ i → i < L.length → (cs.set k c).getD i .nils = .nils := fun c l e => hfin _ _ c l rfl rfl e
    generalize hlk : L.getD k [] = lk at *
    simp [k3, k9, k10, k11, hlt, hpa, hpl]
    refine call0 hcl fun v' h2 hres => ?_
    rcases hres with ⟨rfl, hl0, rfl⟩ | ⟨kp, b2, hb2, hv', hb3⟩
    · obtain ⟨s1, s2⟩ := q.upd hlt (h2 := h2) (b := 0) (c := .nils) (l := lk) q.kp q.out (fun i _ _ _ => rfl) (.inl ⟨rfl, hl0⟩) (fun h => absurd rfl h)
      simp [k11, u1, hlt, s1]
      exact ⟨_, _, _, s2, by simpa using (hall .nils lk rfl)⟩
    · subst hv'
      have hbo : b2 ≠ b := fun he => by rw [he, q.out] at hb2; cases hb2
      obtain ⟨s1, s2⟩ := q.upd hlt (h2 := h2) (b := b2) (c := .sl b2 0 lk.length 1) (l := lk) (q.kp.trans kp) (kp _ _ q.out) (fun i hi _ hne => by
          rcases q.cell i hi with ⟨hc, _⟩ | ⟨_, hc, _⟩
          · exact absurd hc hne
          · rw [hc, kp _ _ hc]) (.inr ⟨rfl, hb3, q.kp.no hb2, hbo⟩) (fun _ i hi _ hne he => by
          rcases q.cell i hi with ⟨hc, _⟩ | ⟨_, hc, _⟩
          · exact absurd hc hne
          · rw [he, hb2] at hc; cases hc)
      simp [k11, u1, hlt, s1]
      exact ⟨_, _, _, s2, by simpa using (hall (.sl b2 0 lk.length 1) lk rfl)⟩
  · have : k = L.length := by omega
    subst this
    simp [k3, k10, k11]
    exact ⟨bs, cs, X, q, hX⟩

theorem CO.app {h h' : Hp} {o b b60 : Nat} {c : AV} {l : List Int} {x : Int} (q : CO h h' o b c l) (hb : h' b60 = none) (hl : l.length + 1 ≤ 4294967296) {R : AV → Hp → Prop}
    (k : ∀ b2, (b2 = b ∧ c ≠ .nils ∨ h' b2 = none) → R (.sl b2 0 (l.length + 1) 1) (hset (hset h' b60 [I x]) b2 (ints (l ++ [x])))) : appW c (.sl b60 0 1 1) 1 (hset h' b60 [I x]) R := by
  have hr : readS (hset h' b60 [I x]) (.sl b60 0 1 1) 1 = some (1, [I x]) := readS_new rfl
  have hnone : ∀ b2, hset h' b60 [I x] b2 = none → h' b2 = none := fun b2 hb2 => by
    by_cases e : b2 = b60
    · rw [e, hset_same] at hb2; cases hb2
    · rwa [hset_ne _ _ e] at hb2
  unfold appW
  rw [hr]
  rcases q with ⟨rfl, rfl⟩ | ⟨rfl, h1, _, _⟩
  · refine ⟨by omega, fun h => by omega, fun _ b2 hb2 => ?_⟩
    exact k b2 (.inr (hnone b2 hb2))
  · have hbb : b ≠ b60 := fun he => by rw [he, hb] at h1; cases h1
    simp only
    rw [hset_ne _ _ hbb, h1]
    refine ⟨trivial, trivial, by rw [ints_length, Nat.mul_one], hl, fun b2 hb2 => ?_⟩
    have e : ints l ++ [I x] = ints (l ++ [x]) := by rw [ints_append]; rfl
    rw [e]
    rcases hb2 with hb2 | hb2
    · exact k b2 (.inl ⟨hb2, fun h => by cases h⟩)
    · exact k b2 (.inr (hnone b2 hb2))

/-- The rows with one more number each. -/
def augL (L : List (List Int)) (b : List Int) : List (List Int) := joinL L (b.map fun x => [x])
theorem augL_len {L : List (List Int)} {b : List Int} (h : b.length = L.length) : (augL L b).length = L.length := joinL_len (by simp [h])
theorem augL_get {L : List (List Int)} {b : List Int} (h : b.length = L.length) {i : Nat} (hi : i < L.length) : (augL L b).getD i [] = L.getD i [] ++ [b.getD i 0] := by
  unfold augL
  rw [joinL_get (by simp [h]) hi, map_getD' (fun x => [x]) b i 0 [] (by omega)]

/-- The solution at the pivots, filled as far as i. -/
def solK (rows : List (List Int)) (pv : List Nat) (n : Nat) : Nat → List Int
  | 0 => List.replicate n 0
  | i + 1 => (solK rows pv n i).set (pv.getD i 0) ((rows.getD i []).getD n 0)
theorem solK_len (rows : List (List Int)) (pv : List Nat) (n : Nat) : ∀ i, (solK rows pv n i).length = n
  | 0 => by simp [solK]
  | i + 1 => by simp only [solK, List.length_set, solK_len]
noncomputable def elimA (D : Ds) (L : List (List Int)) (b : List Int) (n : Nat) : ES := elim D (augL L b) n
noncomputable def solX (D : Ds) (L : List (List Int)) (b : List Int) (n : Nat) : List Int := solK (elimA D L b n).L (elimA D L b n).pv n (elimA D L b n).pv.length
open Classical in
noncomputable def solE (p m : Int) (mo : List Int) (c : Int) (L : List (List Int)) (b : List Int) : Int :=
  if vecE p m mo c L b ≠ 0 then vecE p m mo c L b else if ∃ i, (elimA (mkD p m mo) L b c.toNat).pv.length ≤ i ∧ i < L.length ∧ ((elimA (mkD p m mo) L b c.toNat).L.getD i []).getD c.toNat 0 ≠ 0 then 11 else 0
noncomputable def solR (p m : Int) (mo : List Int) (c : Int) (L : List (List Int)) (b : List Int) : AV :=
  if solE p m mo c L b = 0 then .tup [.fs c.toNat (ints (solX (mkD p m mo) L b c.toNat)), I 0] else .tup [.nils, I (solE p m mo c L b)]

set_option maxHeartbeats 4000000 in
theorem s_Solve {p m : Int} {mv v bv : AV} {mo : List Int} (hmv : IL mv mo) (hml : mo.length < 4611686018427387904) {c : Int} {L : List (List Int)} (hv : ML v L) (hs : MSm L) {b : List Int} (hb : IL bv b) (hbl : b.length < 4611686018427387904) :
    Pure prog n_matrix_Solve [.agg [I p, I m, mv], .agg [I c, v], bv] (solR p m mo c L b) := by
  classical
  refine pure_of cf_matrix_Solve rfl fun h => ?_
  have hone := hmv.one
  have hone2 := hv.one
  unfold c_matrix_Solve_0 c_matrix_Solve_1
  generalize hC : c_matrix_Solve_2 = C2
  simp [hone, hone2]
  intro b3 hb3 b4 hb4
  obtain ⟨g3, g4, hk⟩ := two_boxes (ys := [I c, v]) hb3 hb4
  generalize hset (hset h b3 [I p, I m, mv]) b4 [I c, v] = g at *
  obtain ⟨_, _, _, l3⟩ := ld3_at g3
  have l4 := lq_both g4
  simp [l3, l4, hone2]
  intro bb hbb
  refine (open1 (p := p) (m := m) hmv hml hv hs (hset_same ..)).call ?_
  have hkb : Kp g (hset g bb [I c, v]) := (Kp.refl g).new hbb _
  have g4 := hkb _ _ g4
  have hk := hk.trans hkb
  generalize hset g bb [I c, v] = G at *
  have l40 := lq_fst g4
  have l41 := lq_snd g4
  have bad : ∀ e h', Kp h h' → solE p m mo c L b = e → e ≠ 0 → RetP h (solR p m mo c L b) (.tup [.nils, I e]) h' := fun e h' hk he h0 => by
    rw [solR, if_neg (by rw [he]; exact h0), he]; exact ⟨_, hk.sub, .id _, rfl⟩
  unfold openR
  by_cases he : openE p m mo [(c, L)] = 0
  case neg =>
    rw [if_neg he]
    have hv : vecE p m mo c L b = openE p m mo [(c, L)] := by rw [vecE, if_pos he]
    have hb := bad _ _ hk (by rw [solE, if_pos (by rw [hv]; exact he), hv]) he
    generalize openE p m mo [(c, L)] = e at *
    simp
    subst hC
    simp [he]
    exact hb
  rw [if_pos he]
  have hE2 : vecE p m mo c L b = if (b.length : Int) ≠ L.length then 3 else entE (mkD p m mo) b := by rw [vecE, if_neg (by simpa using he)]
  obtain ⟨hf, n, rfl, hn, hLn, hM⟩ := openE_one he
  have r := hf.fd
  simp
  subst hC
  unfold c_matrix_Solve_2 c_matrix_Solve_3
  generalize hC : c_matrix_Solve_4 = C4
  by_cases hbL : b.length = L.length
  case neg =>
    rw [if_pos (by omega)] at hE2
    have hb' := bad 3 _ hk (by rw [solE, if_pos (by rw [hE2]; omega), hE2]) (by omega)
    have hbL' : ¬ (b.length : Int) = L.length := by omega
    simp [hb.len, l41, hv.len, hbL, hbL']
    exact hb'
  rw [if_neg (by omega)] at hE2
  simp [hb.len, l41, hv.len, hbL]
  subst hC
  unfold c_matrix_Solve_4
  generalize hC : c_matrix_Solve_5 = C5
  simp
  refine (s_entries r hb hbl).call ?_
  by_cases hen : entE (mkD p m mo) b = 0
  case neg =>
    have hb' := bad _ _ hk (by rw [solE, if_pos (by rw [hE2]; exact hen), hE2]) hen
    generalize entE (mkD p m mo) b = e at *
    simp [hen]
    exact hb'
  rw [hen]
  rw [hen] at hE2
  have hbR : ∀ x ∈ b, (mkD p m mo).R x := by
    unfold entE at hen
    split at hen
    · assumption
    · omega
  simp
  subst hC
  unfold c_matrix_Solve_5
  generalize hC : c_matrix_Solve_6 = C6
  simp [l41]
  refine call0 (w_cloneG hv (by omega) (fun row hr => by rw [(hM row hr).1]; omega) G) fun v1 h1 ⟨o, bs, cs, X, hv1, q, hX⟩ => ?_
  subst hv1
  subst hC
  unfold c_matrix_Solve_6
  generalize hC : c_matrix_Solve_7 = C7
  have hJl := augL_len hbL
  simp
  refine awp_for L.length (fun k fr' h' => (∃ bs cs X, QM G h' o bs L.length cs X ∧ (∀ i, i < k → X i = (augL L b).getD i []) ∧ ∀ i, k ≤ i → i < L.length → X i = L.getD i []) ∧ fr' 47 = I k) ⟨⟨bs, cs, X, q, fun i hi => by omega, fun i _ hi => hX i hi⟩, by simp⟩ ?_
  clear q hX
  intro k fr' h' hkn hk0 ⟨⟨bs, cs, X, q, hX1, hX2⟩, k47⟩
  have k2 := hk0 2 (by decide)
  have k4 := hk0 4 (by decide)
  have k8 := hk0 8 (by decide)
  have k11 := hk0 11 (by decide)
  have k46 := hk0 46 (by decide)
  simp at k2 k4 k8 k11 k46
  clear hk0
  by_cases hlt : k < L.length
  · have u1 : IntKind.i64.wrap ((k : Int) + 1) = k + 1 := w64 _ (by omega)
    have hlt' : (k : Int) < L.length := by omega
    have hib := hb.iadr (i := k) ⟨by omega, by omega⟩
    rw [Int.toNat_natCast] at hib
    have hldb := fun h' => ld_ints (h := h') (l := b) (k := k) (by omega)
    have hJk := augL_get hbL hlt
    have hXk := hX2 k (Nat.le_refl _) hlt
    have hcell := q.cell k hlt
    have hlo : cellsAt h' (.ref o k) 1 = some [cs.getD k .nils] := ld_one_at q.out (by rw [q.len]; exact hlt)
    have hrl : (L.getD k []).length = n := hM.len hlt
    have hnext : ∀ (l : List Int), l = (augL L b).getD k [] → (∀ i, i < k + 1 → (fun i => if i = k then l else X i) i = (augL L b).getD i []) ∧ ∀ i, k + 1 ≤ i → i < L.length → (fun i => if i = k then l else X i) i = L.getD i [] := fun l e => by
      refine ⟨fun i hi => ?_, fun i h1 h2 => ?_⟩
      · by_cases e2 : i = k
        · simp only [e2, if_pos, e]
        · simp only [e2, if_false]; exact hX1 i (by omega)
      · have hik : ¬ i = k := by omega
        simp only [hik, if_false]; exact hX2 i (by omega) h2
    rw [hXk] at hcell
    obtain ⟨hc1, hc2⟩ := hcell.one
    generalize hlk : L.getD k [] = lk at *
    generalize hxk : b.getD k 0 = xk at *
    generalize hck : cs.getD k .nils = ck at *
    simp [k2, k11, k46, k47, hlt, hlt', hlo, hib, hldb, hbL]
    intro b60 hb60
    refine CO.app hcell hb60 (x := xk) (by omega) fun b2 hb2 => ?_
    have hGb2 : G b2 = none := by
      rcases hb2 with ⟨e, hne⟩ | e
      · rcases hcell with ⟨hc, _⟩ | ⟨_, _, hc, _⟩
        · exact absurd hc hne
        · rw [e]; exact hc
      · exact q.kp.no e
    have hob : o ≠ b60 := fun he => by have := q.out; rw [he, hb60] at this; cases this
    have hob2 : o ≠ b2 := by
      rcases hb2 with ⟨e, hne⟩ | e
      · rcases hcell with ⟨hc, _⟩ | ⟨_, _, _, hc⟩
        · exact absurd hc hne
        · rw [e]; exact Ne.symm hc
      · exact fun he => by have := q.out; rw [he, e] at this; cases this
    have hsome : ∀ i, i < L.length → cs.getD i .nils ≠ .nils → h' (bs i) ≠ none := fun i hi hne hh => by
      rcases q.cell i hi with ⟨hc, _⟩ | ⟨_, hc, _⟩
      · exact hne hc
      · rw [hc] at hh; cases hh
    have hdis : ∀ i, i < L.length → i ≠ k → cs.getD i .nils ≠ .nils → bs i ≠ b2 := fun i hi hik hne => by
      rcases hb2 with ⟨e, hne2⟩ | e
      · rw [e]; exact q.inj i k hi hlt hik hne (by rw [hck]; exact hne2)
      · exact fun he => hsome i hi hne (by rw [he]; exact e)
    obtain ⟨s1, s2⟩ := q.upd hlt (h2 := hset (hset h' b60 [I xk]) b2 (ints (lk ++ [xk]))) (b := b2) (c := .sl b2 0 (lk.length + 1) 1) (l := lk ++ [xk])
      ((q.kp.new hb60 _).set hGb2 _) (by rw [hset_ne _ _ hob2, hset_ne _ _ hob]; exact q.out)
      (fun i hi hik hne => by rw [hset_ne _ _ (hdis i hi hik hne), hset_ne _ _ (fun he => hsome i hi hne (by rw [he]; exact hb60))])
      (.inr ⟨by simp, hset_same .., hGb2, Ne.symm hob2⟩) (fun _ i hi hik hne => hdis i hi hik hne)
    simp [k11, hlt, s1, k47, u1]
    exact ⟨_, _, _, s2, by simpa using hnext (lk ++ [xk]) hJk.symm⟩
  have hkL : k = L.length := by omega
  subst hkL
  have hX : ∀ i, i < L.length → X i = (augL L b).getD i [] ∧ X i ≠ [] := fun i hi => by
    have h1 := hX1 i hi
    refine ⟨h1, ?_⟩
    rw [h1, augL_get hbL hi]; simp
  have lv := q.lv hJl hX
  clear q hX hX1 hX2
  have hJM : Mat (mkD p m mo) (n + 1) (augL L b) := joinL_mat (by simp [hbL]) hM fun row hr => by
    obtain ⟨x, hx, rfl⟩ := List.mem_map.1 hr
    exact ⟨rfl, fun y hy => by rw [List.mem_singleton] at hy; rw [hy]; exact hbR x hx⟩
  have hel := w_eliminate r (E2.of (w := n + 1) lv fun row hr => by rw [(hJM row hr).1]; exact Nat.le_refl _) hJM (by omega) (Nat.le_refl _) (by omega) (show n ≤ n + 1 by omega)
  rw [hJl] at hel
  have l40' := lq_fst (lv.kp _ _ g4)
  subst hC
  unfold c_matrix_Solve_7
  generalize hC : c_matrix_Solve_8 = C8
  simp [k46, k47]
  simp [k4, k8, k11, l40']
  refine call0 hel fun v2 h2 ⟨hv2, e2⟩ => ?_
  subst hv2
  have hk2 := hk.trans e2.kp
  have l40 := lq_fst (e2.kp _ _ g4)
  have hA : elim (mkD p m mo) (augL L b) n = elimA (mkD p m mo) L b n := rfl
  rw [hA] at e2 ⊢
  have hln : (elimA (mkD p m mo) L b n).L.length = L.length := by rw [← hA, elim_len, hJl]
  have hmE : Mat (mkD p m mo) (n + 1) (elimA (mkD p m mo) L b n).L := hJM.elim r.toOk n
  have hes := elim_spec (F := ⟨mkD p m mo, r⟩) hJM n
  rw [hA] at hes
  have hrk := hes.red.le
  rw [hJl] at hrk
  have hplt := hes.lt
  have hpI := gil_IL (up (elimA (mkD p m mo) L b n).pv)
  have hpl : (up (elimA (mkD p m mo) L b n).pv).length = (elimA (mkD p m mo) L b n).pv.length := by simp [up]
  have hE3 : solE p m mo n L b = if ∃ i, (elimA (mkD p m mo) L b n).pv.length ≤ i ∧ i < L.length ∧ ((elimA (mkD p m mo) L b n).L.getD i []).getD n 0 ≠ 0 then 11 else 0 := by
    rw [solE, if_neg (by rw [hE2]; omega), Int.toNat_natCast]
  have hsX : solX (mkD p m mo) L b n = solK (elimA (mkD p m mo) L b n).L (elimA (mkD p m mo) L b n).pv n (elimA (mkD p m mo) L b n).pv.length := rfl
  have hrd : ∀ i, i < L.length → ∃ br, (∀ h', Kp h2 h' → cellsAt h' (.ref o i) 1 = some [.sl br 0 (n + 1) 1]) ∧ ∀ h', Kp h2 h' → cellsAt h' (.ref br n) 1 = some [I (((elimA (mkD p m mo) L b n).L.getD i []).getD n 0)] := fun i hi => by
    have hl := hmE.len (i := i) (by omega)
    obtain ⟨bs, lv, _⟩ := e2
    have hti : i < (tkL (n + 1) (elimA (mkD p m mo) L b n).L).length := by rw [tkL_len]; omega
    refine ⟨bs i, fun h' k => ?_, fun h' k => ?_⟩
    · have := (lv.grow k).lm.ld hti
      rw [cutL_get (tk_nil _), List.length_take, hl] at this
      rw [this]; simp
    · have := ld_ints_at ((lv.grow k).lm.row i hti) (k := n) (by rw [cutL_get (tk_nil _), List.length_take, hl]; omega)
      rwa [cutL_get (tk_nil _), take_get (by omega)] at this
  have hgood : (¬ ∃ i, (elimA (mkD p m mo) L b n).pv.length ≤ i ∧ i < L.length ∧ ((elimA (mkD p m mo) L b n).L.getD i []).getD n 0 ≠ 0) → solR p m mo n L b = .tup [.fs n (ints (solX (mkD p m mo) L b n)), I 0] := fun hh => by
    rw [solR, if_pos (by rw [hE3, if_neg hh]), Int.toNat_natCast]
  rw [hsX] at hgood
  clear hes hA hel hsX
  generalize elimA (mkD p m mo) L b n = ES at *
  obtain ⟨LE, pv, dt⟩ := ES
  simp only at *
  subst hC
  unfold c_matrix_Solve_8
  generalize hC : c_matrix_Solve_9 = C9
  have hpo := hpI.len
  rw [hpl] at hpo
  have hrk' : (pv.length : Int) ≤ L.length := by omega
  have hsl : slcA (.sl o 0 L.length 1) pv.length L.length none 1 = some (.sl o pv.length (L.length - pv.length) 1) := by
    unfold slcA; simp; omega
  generalize hgp : gil (up pv) = pvv at *
  simp [k11, hpo, hsl]
  refine awp_for (L.length - pv.length) (fun i fr' h' => h' = h2 ∧ fr' 77 = I i ∧ fr' 13 = pvv ∧ ∀ j, pv.length ≤ j → j < pv.length + i → (LE.getD j []).getD n 0 = 0) ⟨rfl, by simp, by simp, fun j h1 h2 => by omega⟩ ?_
  intro i fr2 h3 hin hk1 ⟨hh, k77, k13, hz⟩
  subst hh
  have m4 := hk1 4 (by decide)
  have m11 := hk1 11 (by decide)
  have m75 := hk1 75 (by decide)
  have m76 := hk1 76 (by decide)
  simp [k4, k11] at m4 m11 m75 m76
  clear hk1
  by_cases hlt2 : i < L.length - pv.length
  · have u1 : IntKind.i64.wrap ((i : Int) + 1) = i + 1 := w64 _ (by omega)
    obtain ⟨br, q1, q2⟩ := hrd (pv.length + i) (by omega)
    have q1 := q1 _ (Kp.refl _)
    have q2 := q2 _ (Kp.refl _)
    have hbad2 := fun (hy : (LE.getD (pv.length + i) []).getD n 0 ≠ 0) => bad 11 h3 hk2 (by rw [hE3, if_pos ⟨pv.length + i, by omega, by omega, hy⟩]) (by omega)
    have hstep := fun (hy : (LE.getD (pv.length + i) []).getD n 0 = 0) => (fun j h1 h2 => by
      by_cases e : j = pv.length + i
      · rw [e]; exact hy
      · exact hz j h1 (by omega) : ∀ j, pv.length ≤ j → j < pv.length + (i + 1) → (LE.getD j []).getD n 0 = 0)
    have hlt3 : (i : Int) < ((L.length - pv.length : Nat) : Int) := by omega
    generalize (LE.getD (pv.length + i) []).getD n 0 = y at *
    have hn1 : (n : Int) < (n : Int) + 1 := by omega
    by_cases hy : y = 0
    · simp [m4, m75, m76, k77, hlt2, hlt3, q1, l40, q2, hy, u1, hn1, k13]
      simpa using hstep hy
    · simp [m4, m75, m76, k77, hlt2, hlt3, q1, l40, q2, hy, hn1]
      exact hbad2 hy
  have hil : i = L.length - pv.length := by omega
  have hnone : ¬ ∃ i, pv.length ≤ i ∧ i < L.length ∧ (LE.getD i []).getD n 0 ≠ 0 := by
    rintro ⟨j, h1, h2, h3⟩
    exact h3 (hz j h1 (by omega))
  rw [hgood hnone]
  have hlt3 : ¬ (i : Int) < ((L.length - pv.length : Nat) : Int) := by omega
  simp [m76, k77, hlt3, hil]
  subst hC
  unfold c_matrix_Solve_9 c_matrix_Solve_10
  generalize hC : c_matrix_Solve_11 = C11
  have hn' : (n : Int) ≤ 4294967296 := by omega
  simp [m4, l40, hn']
  intro b90 hb90
  simp [k13, hpo]
  refine awp_for pv.length (fun i fr' h' => Kp h3 h' ∧ h' b90 = some (ints (solK LE pv n i)) ∧ fr' 93 = I i) ⟨(Kp.refl _).new hb90 _, by rw [hset_same]; rfl, by simp⟩ ?_
  clear hin k77 hlt2 hil hlt3
  intro i fr3 h4 hin hk1 ⟨hkp, hbx, k93⟩
  have z4 := hk1 4 (by decide)
  have z11 := hk1 11 (by decide)
  have z17 := hk1 17 (by decide)
  have z91 := hk1 91 (by decide)
  have z92 := hk1 92 (by decide)
  simp [m4, m11] at z4 z11 z17 z91 z92
  clear hk1
  by_cases hlt2 : i < pv.length
  · have u1 : IntKind.i64.wrap ((i : Int) + 1) = i + 1 := w64 _ (by omega)
    obtain ⟨br, q1, q2⟩ := hrd i (by omega)
    have hr1 := q1 _ hkp
    have hr2 := q2 _ hkp
    have l40'' := lq_fst ((e2.kp.trans hkp) _ _ g4)
    have hpi := hpI.iadr (i := i) ⟨by omega, by omega⟩
    rw [Int.toNat_natCast] at hpi
    have hpd := fun h' => ld_ints (h := h') (l := up pv) (k := i) (by omega)
    have hpg : (up pv).getD i 0 = (pv.getD i 0 : Nat) := map_getD' Int.ofNat pv i 0 0 hlt2
    have hpb : pv.getD i 0 < n := hplt _ (mem_getD hlt2)
    have hst := fun R => sr_ints (R := R) (v := (LE.getD i []).getD n 0) hbx (k := pv.getD i 0) (by rw [solK_len]; exact hpb)
    have hsk : solK LE pv n (i + 1) = (solK LE pv n i).set (pv.getD i 0) ((LE.getD i []).getD n 0) := rfl
    rw [← hsk] at hst
    rw [hpg] at hpd
    have hil : (i : Int) < L.length := by omega
    have hil2 : i < L.length := by omega
    have hpb' : (pv.getD i 0 : Int) < n := by omega
    have hn1 : (n : Int) < (n : Int) + 1 := by omega
    generalize (LE.getD i []).getD n 0 = y at *
    generalize pv.getD i 0 = pi at *
    simp [z4, z11, z17, z91, z92, k93, hlt2, hpi, hpd, hil, hil2, hr1, l40'', hn1, hr2, hpb, hpb', hst, u1]
    exact hkp.set hb90 _
  · have : i = pv.length := by omega
    subst this
    simp [z92, k93]
    subst hC
    simp [z17]
    refine RetP.tup (hk2.trans hkp).sub rfl (frz2 ?_ (.id _))
    exact Frz.slk hbx (hk2.no hb90) (by rw [ints_length, solK_len]; omega)
end Go.AM.Ytmihmgnjnedfcab
end

section
/- Contracts of functions: Kernel. -/
set_option maxRecDepth 100000
set_option linter.unusedSimpArgs false
set_option linter.unusedVariables false
namespace Go.AM.Ytmihmgnjnedfcab
open Go Go.AM
attribute [local simp ↓] awp_seq awp_reg awp_skip awp_cond' awp_block awp_exit awp_ret awp_fz thenW_normal thenW_exit thenW_ret inBlk_normal inBlk_exit inBlk_ret aops_cons' contA_ap aops_nil e_mv e_guard' e_pick' e_ld' e_app e_cpy e_st' e_call callW_f updO_some updO_none e_bin' e_isnil' e_fadr' e_iadr' e_iarr' e_len' e_build' e_mkf' e_nc' e_not' e_neg' e_cvt' e_slc' e_fld' e_ext' e_min' e_eqs' e_new e_box e_mkl e_mks
attribute [local simp] upd_apply ev_t ev_k ev_f binA_add binA_sub binA_mul binA_quo binA_rem binA_eql binA_neq binA_lss binA_leq binA_gtr binA_geq det mem frame0 keeps_nil iadrA_sl fadrA_ref fadrA_fp ldv_agg ldv_one cells_base hset_same hset_hset lenA_fs lenA_sl lenA_nils zeros_ints ints_length one_base one_nilp one_nils one_ref one_sl one_fp one_fs one_fn gl_one resA resOf bound natOf afill splice AV.cells cells_agg bindR_some condR_true condR_false guardR_tup guardR_true guardR_true' guardR_false guardR_false' allocW_some pickA_true pickA_false
open Go.FM

/-- The kernel's vector of the column c, filled as far as the pivot i. -/
def kvK (D : Ds) (rows : List (List Int)) (pv : List Nat) (n c : Nat) : Nat → List Int
  | 0 => (List.replicate n 0).set c 1
  | i + 1 => (kvK D rows pv n c i).set (pv.getD i 0) (D.neg ((rows.getD i []).getD c 0))
def kerK (D : Ds) (rows : List (List Int)) (pv : List Nat) (n : Nat) : Nat → List (List Int)
  | 0 => []
  | c + 1 => if c ∈ pv then kerK D rows pv n c else kerK D rows pv n c ++ [kvK D rows pv n c pv.length]
theorem kvK_len (D : Ds) (rows : List (List Int)) (pv : List Nat) (n c : Nat) : ∀ i, (kvK D rows pv n c i).length = n
  | 0 => by simp [kvK]
  | i + 1 => by simp only [kvK, List.length_set, kvK_len]
theorem kvK_R {D : Ds} (o : D.Ok) (rows : List (List Int)) (pv : List Nat) (n c : Nat) : ∀ i, ∀ x ∈ kvK D rows pv n c i, D.R x
  | 0, x, hx => by
    simp only [kvK] at hx
    rcases List.mem_or_eq_of_mem_set hx with h | h
    · rw [List.eq_of_mem_replicate h]; exact o.q0
    · rw [h]; exact o.q1
  | i + 1, x, hx => by
    simp only [kvK] at hx
    rcases List.mem_or_eq_of_mem_set hx with h | h
    · exact kvK_R o rows pv n c i x h
    · rw [h]; exact o.negR _
theorem kerK_mat {D : Ds} (o : D.Ok) (rows : List (List Int)) (pv : List Nat) (n : Nat) : ∀ c, Mat D n (kerK D rows pv n c)
  | 0 => fun row hr => by cases hr
  | c + 1 => by
    simp only [kerK]
    split
    · exact kerK_mat o rows pv n c
    · intro row hr
      rcases List.mem_append.1 hr with hr | hr
      · exact kerK_mat o rows pv n c row hr
      · rw [List.mem_singleton] at hr
        rw [hr]; exact ⟨kvK_len .., kvK_R o rows pv n c pv.length⟩
theorem kerK_len (D : Ds) (rows : List (List Int)) (pv : List Nat) (n : Nat) : ∀ c, (kerK D rows pv n c).length ≤ c
  | 0 => by simp [kerK]
  | c + 1 => by
    simp only [kerK]
    have := kerK_len D rows pv n c
    split
    · omega
    · rw [List.length_append, List.length_singleton]; omega
noncomputable def kerL (D : Ds) (L : List (List Int)) (n : Nat) : List (List Int) := kerK D (canL D L n) (elim D L n).pv n n
theorem up_mem {pv : List Nat} {c : Nat} : (c : Int) ∈ up pv ↔ c ∈ pv := by
  unfold up
  rw [List.mem_map]
  constructor
  · rintro ⟨x, hx, e⟩
    have : x = c := by have : (x : Int) = c := e; omega
    rw [← this]; exact hx
  · exact fun h => ⟨c, h, rfl⟩

noncomputable def kerR (p m : Int) (mo : List Int) (c : Int) (L : List (List Int)) : AV :=
  if openE p m mo [(c, L)] = 0 then .tup [.agg [I c, .fs (rkN (mkD p m mo) (kerL (mkD p m mo) L c.toNat) c.toNat) ((canL (mkD p m mo) (kerL (mkD p m mo) L c.toNat) c.toNat).map frow)], I 0] else .tup [.agg [I 0, .nils], I (openE p m mo [(c, L)])]

set_option maxHeartbeats 4000000 in
theorem s_Kernel {p m : Int} {mv v : AV} {mo : List Int} (hmv : IL mv mo) (hml : mo.length < 4611686018427387904) {c : Int} {L : List (List Int)} (hv : ML v L) (hs : MSm L) :
    Pure prog n_matrix_Kernel [.agg [I p, I m, mv], .agg [I c, v]] (kerR p m mo c L) := by
  refine pure_of cf_matrix_Kernel rfl fun h => ?_
  have hone := hmv.one
  have hone2 := hv.one
  unfold c_matrix_Kernel_0 c_matrix_Kernel_1
  generalize hC : c_matrix_Kernel_2 = C2
  simp [hone, hone2]
  intro b2 hb2 b3 hb3 b4 hb4
  obtain ⟨g2, g3, g4, hk, n4⟩ := three_boxes (zs := [I 0, .nils]) hb2 hb3 hb4
  generalize hset (hset (hset h b2 [I p, I m, mv]) b3 [I c, v]) b4 [I 0, .nils] = g at *
  obtain ⟨_, _, _, l2⟩ := ld3_at g2
  have l3 := lq_both g3
  simp [l2, l3, hone2]
  intro b hb
  refine (open1 (p := p) (m := m) hmv hml hv hs (hset_same ..)).call ?_
  have hkb : Kp g (hset g b [I c, v]) := (Kp.refl g).new hb _
  have g3 := hkb _ _ g3
  have g4 := hkb _ _ g4
  have hk := hk.trans hkb
  generalize hset g b [I c, v] = G at *
  have l30 := lq_fst g3
  have l31 := lq_snd g3
  unfold openR
  by_cases he : openE p m mo [(c, L)] = 0
  case neg =>
    unfold kerR
    rw [if_neg he, if_neg he]
    have st0 := fun R => sr_all (R := R) (cs' := [I 0, .nils]) g4 (n := 2) rfl rfl rfl
    rw [hset_id g4] at st0
    have l4 := lq_both g4
    generalize openE p m mo [(c, L)] = e at *
    simp
    subst hC
    simp [he, st0, l4]
    exact ⟨_, hk.sub, .id _, rfl⟩
  rw [if_pos he]
  obtain ⟨hf, n, rfl, hn, hLn, hM⟩ := openE_one he
  have r := hf.fd
  have hker : kerR p m mo n L = .tup [.agg [I n, .fs (rkN (mkD p m mo) (kerL (mkD p m mo) L n) n) ((canL (mkD p m mo) (kerL (mkD p m mo) L n) n).map frow)], I 0] := by
    unfold kerR; rw [if_pos he, Int.toNat_natCast]
  rw [hker]
  have hcan := s_canon r hv hM (by omega) (by omega)
  have hrl := canL_len r hM n
  have hpI := gil_IL (pivL (mkD p m mo) L n)
  have hpl := pivL_len (mkD p m mo) L n
  have hes := elim_spec (F := ⟨mkD p m mo, r⟩) hM n
  have hplt := hes.lt
  have hle2 := elim_le2 r hM n
  have hcm : ∀ i, i < rkN (mkD p m mo) L n → ((canL (mkD p m mo) L n).getD i []).length = n := fun i hi => by
    have hle := elim_le r hM n
    have hm := hM.elim r.toOk n
    have : (canL (mkD p m mo) L n).getD i [] = (elim (mkD p m mo) L n).L.getD i [] := by
      unfold canL rkN at *
      simp [List.getD, List.getElem?_take, hi]
    rw [this]
    exact hm.len (by rw [elim_len]; omega)
  have hML : ML (.fs (rkN (mkD p m mo) L n) ((canL (mkD p m mo) L n).map frow)) (canL (mkD p m mo) L n) := by rw [← hrl]; exact ML_fs _
  have hpv : pivL (mkD p m mo) L n = up (elim (mkD p m mo) L n).pv := rfl
  have hpvl : (elim (mkD p m mo) L n).pv.length = rkN (mkD p m mo) L n := rfl
  have hkl : kerL (mkD p m mo) L n = kerK (mkD p m mo) (canL (mkD p m mo) L n) (elim (mkD p m mo) L n).pv n n := rfl
  rw [hkl]
  clear hes hker hkl
  generalize canL (mkD p m mo) L n = CL at *
  generalize (elim (mkD p m mo) L n).pv = pv at *
  generalize rkN (mkD p m mo) L n = rk at *
  rw [hpv] at hpI hpl hcan
  have hpo := hpI.len
  rw [hpl] at hpo
  generalize hRV : AV.fs rk (CL.map frow) = RV at *
  generalize gil (up pv) = PV at *
  simp
  subst hC
  unfold c_matrix_Kernel_2 c_matrix_Kernel_3
  generalize hC : c_matrix_Kernel_4 = C4
  simp [l30, l31]
  refine hcan.call ?_
  simp
  subst hC
  unfold c_matrix_Kernel_4 c_matrix_Kernel_5
  generalize hC : c_matrix_Kernel_6 = C6
  simp [l30]
  refine awp_for n (fun c fr' h' => GrM G h' (fr' 10) (kerK (mkD p m mo) CL pv n c) ∧ fr' 37 = I c) ⟨by simpa [kerK] using GrM.nils G, by simp⟩ ?_
  intro c fr' h' hcn hk0 ⟨gm, k37⟩
  have k2 := hk0 2 (by decide)
  have k3 := hk0 3 (by decide)
  have k4 := hk0 4 (by decide)
  have k6 := hk0 6 (by decide)
  have k8 := hk0 8 (by decide)
  have k9 := hk0 9 (by decide)
  have k36 := hk0 36 (by decide)
  simp at k2 k3 k4 k6 k8 k9 k36
  clear hk0
  by_cases hlt : c < n
  · have u1 : IntKind.i64.wrap ((c : Int) + 1) = c + 1 := w64 _ (by omega)
    have hcont := s_Contains hpI (by omega) (c : Int)
    have hks : kerK (mkD p m mo) CL pv n (c + 1) = if c ∈ pv then kerK (mkD p m mo) CL pv n c else kerK (mkD p m mo) CL pv n c ++ [kvK (mkD p m mo) CL pv n c pv.length] := rfl
    have hkll := kerK_len (mkD p m mo) CL pv n c
    rw [hks]
    generalize kerK (mkD p m mo) CL pv n c = KC at *
    unfold c_matrix_KernelL0_0 c_matrix_KernelL0_1 c_matrix_KernelL0_2
    generalize hD : c_matrix_KernelL0_3 = D3
    simp [k36, k37, hlt, k9]
    refine hcont.call ?_
    by_cases hmem : c ∈ pv
    · rw [decide_eq_true (up_mem.2 hmem)]
      simp
      subst hD
      simp [k37, u1, hlt, hmem]
      exact gm
    · rw [decide_eq_false (fun h => hmem (up_mem.1 h))]
      have l30' := lq_fst (gm.kp _ _ g3)
      have hn' : (n : Int) ≤ 4294967296 := by omega
      simp [k3, l30', hn']
      intro b12 hb12
      have gp := gm.new hb12 (List.replicate n 0)
      have st1 := fun R => sr_ints (R := R) (v := 1) gp.ld (k := c) (by simpa using hlt)
      have gp1 := gp.set ((List.replicate n 0).set c 1)
      rw [hset_hset] at gp1 st1
      have hkv0 : kvK (mkD p m mo) CL pv n c 0 = (List.replicate n 0).set c 1 := rfl
      rw [← hkv0] at gp1 st1
      simp [hlt, st1, hpo, k9]
      refine awp_for pv.length (fun i fr2 h2 => GrP G h2 (fr' 10) KC b12 (kvK (mkD p m mo) CL pv n c i) ∧ fr2 51 = I i ∧ fr2 10 = fr' 10) ⟨gp1, by simp, by simp⟩ ?_
      intro i fr2 h2 hin hk1 ⟨gpi, k51, k10⟩
      have m6 := hk1 6 (by decide)
      have m8 := hk1 8 (by decide)
      have m11 := hk1 11 (by decide)
      have m12 := hk1 12 (by decide)
      have m37 := hk1 37 (by decide)
      have m49 := hk1 49 (by decide)
      have m50 := hk1 50 (by decide)
      simp [k6, k8, k37] at m6 m8 m11 m12 m37 m49 m50
      clear hk1
      by_cases hlt2 : i < pv.length
      · have u2 : IntKind.i64.wrap ((i : Int) + 1) = i + 1 := w64 _ (by omega)
        obtain ⟨pa, row, hpa, hpl2, hrow⟩ := hML.rd (i := i) (by omega)
        have hrowl := hcm i (by omega)
        have hia := hrow.iadr (i := c) ⟨by omega, by omega⟩
        rw [Int.toNat_natCast] at hia
        have hld := fun h' => ld_ints (h := h') (l := CL.getD i []) (k := c) (by omega)
        have hpi := hpI.iadr (i := i) ⟨by omega, by omega⟩
        rw [Int.toNat_natCast] at hpi
        have hpd := fun h' => ld_ints (h := h') (l := up pv) (k := i) (by omega)
        have hpg : (up pv).getD i 0 = (pv.getD i 0 : Nat) := map_getD' Int.ofNat pv i 0 0 hlt2
        have hpb : pv.getD i 0 < n := hplt _ (mem_getD hlt2)
        have hst := fun R => sr_ints (R := R) (v := (mkD p m mo).neg ((CL.getD i []).getD c 0)) gpi.ld (k := pv.getD i 0) (by rw [kvK_len]; exact hpb)
        have hsk : kvK (mkD p m mo) CL pv n c (i + 1) = (kvK (mkD p m mo) CL pv n c i).set (pv.getD i 0) ((mkD p m mo).neg ((CL.getD i []).getD c 0)) := rfl
        rw [← hsk] at hst
        rw [hpg] at hpd
        have gpn := gpi.set (kvK (mkD p m mo) CL pv n c (i + 1))
        have hneg := s_Neg r ((CL.getD i []).getD c 0)
        have hpb' : (pv.getD i 0 : Int) < n := by omega
        have hirk : i < rk := by omega
        generalize (mkD p m mo).neg ((CL.getD i []).getD c 0) = ny at *
        generalize (CL.getD i []).getD c 0 = y at *
        generalize CL.getD i [] = ri at *
        generalize pv.getD i 0 = pi at *
        simp [m49, m50, k51, hirk, hpi, hpd, m6, m8, m11, m12, hpa, hpl2, hia, hld]
        refine hneg.call ?_
        simp [hpb, hpb', hst, k51, u2, hlt2, k10]
        exact gpn
      · have hil : i = pv.length := by omega
        subst hil
        have hprk : pv.length = rk := by omega
        have ap := fun R b2 hb2 => gpi.app (R := R) (b2 := b2) hb2 (by omega)
        rw [kvK_len] at ap
        simp [m50, k51, hprk, m12, k10]
        intro b71 hb71
        refine ap _ _ hb71 fun v' h3 g3' => ?_
        rw [if_neg hmem]
        subst hD
        simp [m37, u1, hlt]
        rw [hprk] at g3'
        exact g3'
  · have : c = n := by omega
    subst this
    have hKl := kerK_len (mkD p m mo) CL pv c c
    have hKM := kerK_mat r.toOk CL pv c c
    have hcan2 := s_canon r (ML_gml (kerK (mkD p m mo) CL pv c c)) hKM (by omega) (by omega)
    obtain ⟨v2, hsub, hfz, hv2⟩ := gm.ret (Kp.refl G)
    generalize kerK (mkD p m mo) CL pv c c = KC at *
    simp [k36, k37]
    subst hC
    simp
    refine ⟨G, [v2], hsub, ⟨by simpa using hfz, trivial⟩, ?_⟩
    subst hv2
    generalize rkN (mkD p m mo) KC c = rk2 at *
    generalize (canL (mkD p m mo) KC c).map frow = cl2 at *
    generalize gil (pivL (mkD p m mo) KC c) = pv2 at *
    have st := fun R => sr_all (R := R) (cs' := [I c, .fs rk2 cl2]) g4 (n := 2) rfl rfl rfl
    have l4 := lq_both (hset_same G b4 [I c, .fs rk2 cl2])
    simp [updL, k3, k6, l30]
    refine hcan2.call ?_
    simp [k3, k4, l30, st, l4]
    exact ⟨_, (hk.set n4 _).sub, .id _, rfl⟩
end Go.AM.Ytmihmgnjnedfcab
end

section
/- The examples of chapter 9: what they come to. No code is walked here. -/
set_option maxRecDepth 100000
set_option linter.unusedSimpArgs false
set_option linter.unusedVariables false
namespace Go.AM.Ytmihmgnjnedfcab
open Go Go.AM Go.FM

/-! ### The elimination with a given inverse -/

def pvtI (D : Ds) (iv : Int → Int) (L : List (List Int)) (at' c : Nat) : List (List Int) :=
  if (L.getD at' []).getD c 0 ≠ 1 then L.set at' (scV D (iv ((L.getD at' []).getD c 0)) (L.getD at' [])) else L
def estI (D : Ds) (iv : Int → Int) (c : Nat) (s : ES) : ES :=
  if s.pv.length < s.L.length ∧ fnd s.L c (s.L.length - s.pv.length) s.pv.length < s.L.length then
    ⟨clrL D (pvtI D iv (swL s.L s.pv.length (fnd s.L c (s.L.length - s.pv.length) s.pv.length)) s.pv.length c) c s.pv.length s.L.length, s.pv ++ [c],
      D.mul (if fnd s.L c (s.L.length - s.pv.length) s.pv.length ≠ s.pv.length then D.neg s.det else s.det) (((swL s.L s.pv.length (fnd s.L c (s.L.length - s.pv.length) s.pv.length)).getD s.pv.length []).getD c 0)⟩
  else s
def elimI (D : Ds) (iv : Int → Int) (L : List (List Int)) : Nat → ES
  | 0 => ⟨L, [], 1⟩
  | c + 1 => estI D iv c (elimI D iv L c)
theorem elim_I {D : Ds} {iv : Int → Int} (h : ∀ x, invD D x = iv x) (L : List (List Int)) : ∀ c, elim D L c = elimI D iv L c
  | 0 => rfl
  | c + 1 => by
    simp only [elim, elimI]
    rw [elim_I h L c]
    unfold est estI pvt pvtI
    simp only [h]

theorem f2 : FieldP 2 1 [] := ⟨⟨by decide, ⟨by decide, fun d h1 h2 => by have : (2 : Int).toNat = 2 := rfl; omega⟩, by rw [if_pos rfl]⟩, .inl rfl⟩
theorem f5 : FieldP 5 1 [] := by
  refine ⟨⟨by decide, ⟨by decide, fun d h1 h2 => ?_⟩, by rw [if_pos rfl]⟩, .inl rfl⟩
  have h3 : (5 : Int).toNat = 5 := rfl
  have : d = 2 ∨ d = 3 ∨ d = 4 := by omega
  rcases this with rfl | rfl | rfl <;> decide
abbrev D2 : Ds := mkD 2 1 []
abbrev D5 : Ds := mkD 5 1 []
def iv2 (x : Int) : Int := D2.inn x
def iv5 (x : Int) : Int := if D5.inn x = 2 then 3 else if D5.inn x = 3 then 2 else D5.inn x

theorem inv_inn {D : Ds} (o : D.Ok) (x : Int) : invD D (D.inn x) = invD D x := by
  unfold invD; rw [o.inn_inn]
theorem inv2 (x : Int) : invD D2 x = iv2 x := by
  have r := f2.fd
  have hR := r.toOk.innR x
  rw [← inv_inn r.toOk]
  unfold iv2
  have hq : D2.q = 2 := by decide
  have h1 := hR.1
  have h2 := hR.2
  rw [hq] at h2
  generalize D2.inn x = y at *
  have : y = 0 ∨ y = 1 := by omega
  rcases this with rfl | rfl
  · unfold invD; rw [if_pos (by decide)]
  · exact (inv_unique r hR (by decide +kernel)).symm
theorem inv5 (x : Int) : invD D5 x = iv5 x := by
  have r := f5.fd
  have hR := r.toOk.innR x
  rw [← inv_inn r.toOk]
  unfold iv5
  have hq : D5.q = 5 := by decide
  have h1 := hR.1
  have h2 := hR.2
  rw [hq] at h2
  generalize D5.inn x = y at *
  have : y = 0 ∨ y = 1 ∨ y = 2 ∨ y = 3 ∨ y = 4 := by omega
  rcases this with rfl | rfl | rfl | rfl | rfl
  · unfold invD; rw [if_pos (by decide), if_neg (by decide), if_neg (by decide)]
  · rw [if_neg (by decide), if_neg (by decide)]; exact (inv_unique r r.toOk.q1 (by decide +kernel)).symm
  · rw [if_pos rfl]; exact (inv_unique r ⟨by decide, by decide⟩ (by decide +kernel)).symm
  · rw [if_neg (by decide), if_pos rfl]; exact (inv_unique r ⟨by decide, by decide⟩ (by decide +kernel)).symm
  · rw [if_neg (by decide), if_neg (by decide)]; exact (inv_unique r ⟨by decide, by decide⟩ (by decide +kernel)).symm

abbrev wM : List (List Int) := [[1, 1, 0], [0, 1, 1], [1, 0, 1]]
abbrev wS : List (List Int) := [[1, 2], [3, 4]]

theorem chk_of {D : Ds} {c : Int} {L : List (List Int)} (h1 : 0 ≤ c ∧ c ≤ 256 ∧ L.length ≤ 256) (h2 : ∀ row ∈ L, (row.length : Int) = c) (h3 : ∀ row ∈ L, ∀ x ∈ row, D.R x) : chkE D c L = 0 := by
  unfold chkE
  rw [if_neg (by omega), if_neg (by simpa using h2), if_pos h3]
theorem open_of {p m : Int} {mo : List Int} (hf : FieldP p m mo) {c : Int} {L : List (List Int)} (h : chkE (mkD p m mo) c L = 0) : openE p m mo [(c, L)] = 0 := by
  unfold openE
  rw [if_pos hf]
  simp only [chkAll]
  rw [if_neg (by simpa using h)]
theorem wo2 : openE 2 1 [] [(3, wM)] = 0 := open_of f2 (chk_of (by decide) (by decide) (by unfold Ds.R; decide +kernel))
theorem wo5 : openE 5 1 [] [(2, wS)] = 0 := open_of f5 (chk_of (by decide) (by decide) (by unfold Ds.R; decide +kernel))
theorem wo25 : openE 2 1 [] [(2, wS)] = 2 := by
  unfold openE
  rw [if_pos f2]
  have : chkE (mkD 2 1 []) 2 wS = 2 := by
    unfold chkE
    rw [if_neg (by decide), if_neg (by decide), if_neg (by unfold Ds.R; decide +kernel)]
  simp only [chkAll]
  rw [this, if_pos (by decide)]

theorem we2 : elim D2 wM 3 = ⟨[[1, 0, 1], [0, 1, 1], [0, 0, 0]], [0, 1], 1⟩ := by rw [elim_I inv2]; kernel_rfl
theorem we2k : elim D2 [[1, 1, 1]] 3 = ⟨[[1, 1, 1]], [0], 1⟩ := by rw [elim_I inv2]; kernel_rfl
theorem we5 : elim D5 wS 2 = ⟨[[1, 0], [0, 1]], [0, 1], 3⟩ := by rw [elim_I inv5]; kernel_rfl
theorem we5u : elimU D5 wS 2 = ⟨[[1, 0, 3, 1], [0, 1, 4, 2]], [0, 1], 3⟩ := by unfold elimU; rw [elim_I inv5]; kernel_rfl
theorem we5a : elimA D5 wS [3, 2] 2 = ⟨[[1, 0, 1], [0, 1, 1]], [0, 1], 3⟩ := by unfold elimA; rw [elim_I inv5]; kernel_rfl

theorem w_can : canR 2 1 [] 3 wM = .tup [.agg [I 3, .fs 2 [.fs 3 (ints [1, 0, 1]), .fs 3 (ints [0, 1, 1])]], .fs 2 (ints [0, 1]), I 0] := by
  unfold canR
  rw [if_pos wo2]
  unfold canL rkN pivL
  rw [show (3 : Int).toNat = 3 from rfl, we2]
  rfl
theorem w_rank : rankR 2 1 [] 3 wM = .tup [I 2, I 0] := by
  unfold rankR
  rw [if_pos wo2]
  unfold rkN
  rw [show (3 : Int).toNat = 3 from rfl, we2]
  rfl
theorem w_kerL : kerL D2 wM 3 = [[1, 1, 1]] := by
  unfold kerL canL
  rw [we2]
  kernel_rfl
theorem w_ker : kerR 2 1 [] 3 wM = .tup [.agg [I 3, .fs 1 [.fs 3 (ints [1, 1, 1])]], I 0] := by
  unfold kerR
  rw [if_pos wo2, show (3 : Int).toNat = 3 from rfl, w_kerL]
  unfold canL rkN
  rw [we2k]
  rfl
theorem w_det : detR 5 1 [] 2 wS = .tup [I 3, I 0] := by
  have : detE 5 1 [] 2 wS = 0 := by
    unfold detE; rw [if_neg (by simpa using wo5), if_neg (by decide)]
  unfold detR
  rw [if_pos this]
  unfold detV rkN
  rw [show (2 : Int).toNat = 2 from rfl, we5]
  rfl
theorem w_inv : invVR 5 1 [] 2 wS = .tup [.agg [I 2, .fs 2 [.fs 2 (ints [3, 1]), .fs 2 (ints [4, 2])]], I 0] := by
  have : invE 5 1 [] 2 wS = 0 := by
    unfold invE rkN; rw [if_neg (by simpa using wo5), if_neg (by decide), show (2 : Int).toNat = 2 from rfl, we5]; rfl
  unfold invVR
  rw [if_pos this]
  unfold invL
  rw [show (2 : Int).toNat = 2 from rfl, we5u]
  rfl
theorem w_vecE (x : List Int) (h : x.length = 2) (hx : ∀ y ∈ x, D5.R y) : vecE 5 1 [] 2 wS x = 0 := by
  unfold vecE
  rw [if_neg (by simpa using wo5), if_neg (by simp [h])]
  unfold entE
  rw [if_pos hx]
theorem w_vec : vecR 5 1 [] 2 wS [1, 1] = .tup [.fs 2 (ints [4, 1]), I 0] := by
  unfold vecR
  rw [if_pos (w_vecE _ rfl (by unfold Ds.R; decide +kernel))]
  have : combK (mkD 5 1 []) [1, 1] wS (2 : Int).toNat ([1, 1] : List Int).length = [4, 1] := by kernel_rfl
  rw [this]
  rfl
theorem w_sol : solR 5 1 [] 2 wS [3, 2] = .tup [.fs 2 (ints [1, 1]), I 0] := by
  have h0 := w_vecE [3, 2] rfl (by unfold Ds.R; decide +kernel)
  have : solE 5 1 [] 2 wS [3, 2] = 0 := by
    unfold solE
    rw [if_neg (by simpa using h0), if_neg]
    rw [show (2 : Int).toNat = 2 from rfl, we5a]
    rintro ⟨i, h1, h2, _⟩
    simp at h1 h2
    omega
  unfold solR
  rw [if_pos this]
  unfold solX
  rw [show (2 : Int).toNat = 2 from rfl, we5a]
  rfl
end Go.AM.Ytmihmgnjnedfcab
end

section
/- Codes of the program, as the conversion gives them. -/
set_option maxRecDepth 100000
namespace Go.AM.Ytmihmgnjnedfcab
open Go Go.AM
-- law09_awake
abbrev c_law09_awake_14 : SC := .ret
abbrev c_law09_awake_13 : SC := .seq (.reg [o 103 (.mv (.t 20)), o 104 (.mv (.t 103)), og 104 true 0 105 (.ld (.t 4) 2 true), og 104 true 0 106 (.mkl 3 1 [I 0, I 0, I 0] [(0, (1, ki 1)), (1, (1, ki 0)), (2, (1, ki 1))]), og 104 true 0 107 (.mkl 3 1 [I 0, I 0, I 0] [(0, (1, ki 0)), (1, (1, ki 1)), (2, (1, ki 1))]), og 104 true 0 108 (.mkl 2 1 [.nils, .nils] [(0, (1, .t 106)), (1, (1, .t 107))]), og 104 true 0 109 (.build [I 0, .nils] [(0, (1, ki 3)), (1, (1, .t 108))]), og 104 true 0 110 (.call (.f n_ref09_Same) [.t 105, .t 109]), o 111 (.pick (.t 104) (.t 110) (kb false)), o 112 (.mv (.t 111)), og 112 true 0 113 (.mv (.t 5)), og 112 true 0 114 (.mkl 2 1 [I 0, I 0] [(0, (1, ki 0)), (1, (1, ki 1))]), og 112 true 0 115 (.call (.f n_ref09_SameInts) [.t 113, .t 114]), o 116 (.pick (.t 112) (.t 115) (kb false)), o 117 (.mv (.t 116)), og 117 true 0 118 (.mv (.t 7)), og 117 true 0 119 (.bin .eql (.t 118) (ki 2)), o 120 (.pick (.t 117) (.t 119) (kb false)), o 121 (.mv (.t 120)), og 121 true 0 122 (.ld (.t 9) 2 true), og 121 true 0 123 (.mkl 3 1 [I 0, I 0, I 0] [(0, (1, ki 1)), (1, (1, ki 1)), (2, (1, ki 1))]), og 121 true 0 124 (.mkl 1 1 [.nils] [(0, (1, .t 123))]), og 121 true 0 125 (.build [I 0, .nils] [(0, (1, ki 3)), (1, (1, .t 124))]), og 121 true 0 126 (.call (.f n_ref09_Same) [.t 122, .t 125]), o 127 (.pick (.t 121) (.t 126) (kb false)), o 128 (.mv (.t 127)), og 128 true 0 129 (.mv (.t 12)), og 128 true 0 130 (.bin .eql (.t 129) (ki 3)), o 131 (.pick (.t 128) (.t 130) (kb false)), o 132 (.mv (.t 131)), og 132 true 0 133 (.ld (.t 14) 2 true), og 132 true 0 134 (.mkl 2 1 [I 0, I 0] [(0, (1, ki 3)), (1, (1, ki 1))]), og 132 true 0 135 (.mkl 2 1 [I 0, I 0] [(0, (1, ki 4)), (1, (1, ki 2))]), og 132 true 0 136 (.mkl 2 1 [.nils, .nils] [(0, (1, .t 134)), (1, (1, .t 135))]), og 132 true 0 137 (.build [I 0, .nils] [(0, (1, ki 2)), (1, (1, .t 136))]), og 132 true 0 138 (.call (.f n_ref09_Same) [.t 133, .t 137]), o 139 (.pick (.t 132) (.t 138) (kb false)), o 140 (.mv (.t 139)), og 140 true 0 141 (.mv (.t 16)), og 140 true 0 142 (.mkl 2 1 [I 0, I 0] [(0, (1, ki 4)), (1, (1, ki 1))]), og 140 true 0 143 (.call (.f n_ref09_SameInts) [.t 141, .t 142]), o 144 (.pick (.t 140) (.t 143) (kb false)), o 145 (.mv (.t 144)), og 145 true 0 146 (.mv (.t 18)), og 145 true 0 147 (.mkl 2 1 [I 0, I 0] [(0, (1, ki 1)), (1, (1, ki 1))]), og 145 true 0 148 (.call (.f n_ref09_SameInts) [.t 146, .t 147]), o 149 (.pick (.t 145) (.t 148) (kb false)), o 150 (.mv (.t 149)), og 150 true 0 151 (.ld (.t 2) 3 true), og 150 true 0 152 (.ld (.t 11) 2 true), og 150 true 0 153 (.call (.f n_matrix_Check) [.t 151, .t 152]), og 150 true 0 154 (.bin .eql (.t 153) (ki 0)), o 155 (.pick (.t 150) (.t 154) (kb false)), o 156 (.mv (.t 155)), og 156 true 0 157 (.ld (.t 1) 3 true), og 156 true 0 158 (.ld (.t 11) 2 true), og 156 true 0 159 (.call (.f n_matrix_Check) [.t 157, .t 158]), og 156 true 0 160 (.bin .eql (.t 159) (ki 2)), o 161 (.pick (.t 156) (.t 160) (kb false)), o 0 (.mv (.t 161))]) c_law09_awake_14
abbrev c_law09_awake_12 : SC := .seq (.reg [o 77 (.mv (.t 6)), o 78 (.bin .eql (.t 77) (ki 0)), o 79 (.mv (.t 78)), og 79 true 0 80 (.mv (.t 8)), og 79 true 0 81 (.bin .eql (.t 80) (ki 0)), o 82 (.pick (.t 79) (.t 81) (kb false)), o 83 (.mv (.t 82)), og 83 true 0 84 (.mv (.t 10)), og 83 true 0 85 (.bin .eql (.t 84) (ki 0)), o 86 (.pick (.t 83) (.t 85) (kb false)), o 87 (.mv (.t 86)), og 87 true 0 88 (.mv (.t 13)), og 87 true 0 89 (.bin .eql (.t 88) (ki 0)), o 90 (.pick (.t 87) (.t 89) (kb false)), o 91 (.mv (.t 90)), og 91 true 0 92 (.mv (.t 15)), og 91 true 0 93 (.bin .eql (.t 92) (ki 0)), o 94 (.pick (.t 91) (.t 93) (kb false)), o 95 (.mv (.t 94)), og 95 true 0 96 (.mv (.t 17)), og 95 true 0 97 (.bin .eql (.t 96) (ki 0)), o 98 (.pick (.t 95) (.t 97) (kb false)), o 99 (.mv (.t 98)), og 99 true 0 100 (.mv (.t 19)), og 99 true 0 101 (.bin .eql (.t 100) (ki 0)), o 102 (.pick (.t 99) (.t 101) (kb false)), o 20 (.mv (.t 102))]) c_law09_awake_13
abbrev c_law09_awake_11 : SC := .seq (.reg [o 71 (.ld (.t 2) 3 true), o 72 (.ld (.t 11) 2 true), o 73 (.mkl 2 1 [I 0, I 0] [(0, (1, ki 3)), (1, (1, ki 2))]), o 74 (.call (.f n_matrix_Solve) [.t 71, .t 72, .t 73]), o 70 (.mv (.t 74)), o 75 (.ext (.t 70) 0), o 76 (.ext (.t 70) 1), o 18 (.mv (.t 75)), o 19 (.mv (.t 76))]) c_law09_awake_12
abbrev c_law09_awake_10 : SC := .seq (.reg [o 64 (.ld (.t 2) 3 true), o 65 (.mkl 2 1 [I 0, I 0] [(0, (1, ki 1)), (1, (1, ki 1))]), o 66 (.ld (.t 11) 2 true), o 67 (.call (.f n_matrix_Vec) [.t 64, .t 65, .t 66]), o 63 (.mv (.t 67)), o 68 (.ext (.t 63) 0), o 69 (.ext (.t 63) 1), o 16 (.mv (.t 68)), o 17 (.mv (.t 69))]) c_law09_awake_11
abbrev c_law09_awake_9 : SC := .seq (.reg [o 58 (.ld (.t 2) 3 true), o 59 (.ld (.t 11) 2 true), o 60 (.call (.f n_matrix_Inverse) [.t 58, .t 59]), o 57 (.mv (.t 60)), o 61 (.ext (.t 57) 0), o 62 (.ext (.t 57) 1), o 14 (.new [I 0, .nils]), os (.st (.t 14) (.t 61) 2), o 15 (.mv (.t 62))]) c_law09_awake_10
abbrev c_law09_awake_8 : SC := .fz [] (.seq (.reg [o 52 (.ld (.t 2) 3 true), o 53 (.ld (.t 11) 2 true), o 54 (.call (.f n_matrix_Det) [.t 52, .t 53]), o 51 (.mv (.t 54)), o 55 (.ext (.t 51) 0), o 56 (.ext (.t 51) 1), o 12 (.mv (.t 55)), o 13 (.mv (.t 56))]) c_law09_awake_9)
abbrev c_law09_awake_7 : SC := .seq (.reg [o 47 (.mkl 2 1 [I 0, I 0] [(0, (1, ki 1)), (1, (1, ki 2))]), o 48 (.mkl 2 1 [I 0, I 0] [(0, (1, ki 3)), (1, (1, ki 4))]), o 49 (.mkl 2 1 [.nils, .nils] [(0, (1, .t 47)), (1, (1, .t 48))]), o 50 (.build [I 0, .nils] [(0, (1, ki 2)), (1, (1, .t 49))]), o 11 (.new [I 0, .nils]), os (.st (.t 11) (.t 50) 2)]) c_law09_awake_8
abbrev c_law09_awake_6 : SC := .seq (.reg [o 42 (.ld (.t 1) 3 true), o 43 (.ld (.t 3) 2 true), o 44 (.call (.f n_matrix_Kernel) [.t 42, .t 43]), o 41 (.mv (.t 44)), o 45 (.ext (.t 41) 0), o 46 (.ext (.t 41) 1), o 9 (.new [I 0, .nils]), os (.st (.t 9) (.t 45) 2), o 10 (.mv (.t 46))]) c_law09_awake_7
abbrev c_law09_awake_5 : SC := .seq (.reg [o 36 (.ld (.t 1) 3 true), o 37 (.ld (.t 3) 2 true), o 38 (.call (.f n_matrix_Rank) [.t 36, .t 37]), o 35 (.mv (.t 38)), o 39 (.ext (.t 35) 0), o 40 (.ext (.t 35) 1), o 7 (.mv (.t 39)), o 8 (.mv (.t 40))]) c_law09_awake_6
abbrev c_law09_awake_4 : SC := .fz [] (.seq (.reg [o 29 (.ld (.t 1) 3 true), o 30 (.ld (.t 3) 2 true), o 31 (.call (.f n_matrix_Canonical) [.t 29, .t 30]), o 28 (.mv (.t 31)), o 32 (.ext (.t 28) 0), o 33 (.ext (.t 28) 1), o 34 (.ext (.t 28) 2), o 4 (.new [I 0, .nils]), os (.st (.t 4) (.t 32) 2), o 5 (.mv (.t 33)), o 6 (.mv (.t 34))]) c_law09_awake_5)
abbrev c_law09_awake_3 : SC := .seq (.reg [o 23 (.mkl 3 1 [I 0, I 0, I 0] [(0, (1, ki 1)), (1, (1, ki 1)), (2, (1, ki 0))]), o 24 (.mkl 3 1 [I 0, I 0, I 0] [(0, (1, ki 0)), (1, (1, ki 1)), (2, (1, ki 1))]), o 25 (.mkl 3 1 [I 0, I 0, I 0] [(0, (1, ki 1)), (1, (1, ki 0)), (2, (1, ki 1))]), o 26 (.mkl 3 1 [.nils, .nils, .nils] [(0, (1, .t 23)), (1, (1, .t 24)), (2, (1, .t 25))]), o 27 (.build [I 0, .nils] [(0, (1, ki 3)), (1, (1, .t 26))]), o 3 (.new [I 0, .nils]), os (.st (.t 3) (.t 27) 2)]) c_law09_awake_4
abbrev c_law09_awake_2 : SC := .seq (.reg [o 22 (.build [I 0, I 0, .nils] [(0, (1, ki 5)), (1, (1, ki 1))]), o 2 (.new [I 0, I 0, .nils]), os (.st (.t 2) (.t 22) 3)]) c_law09_awake_3
abbrev c_law09_awake_1 : SC := .seq (.reg [o 21 (.build [I 0, I 0, .nils] [(0, (1, ki 2)), (1, (1, ki 1))]), o 1 (.new [I 0, I 0, .nils]), os (.st (.t 1) (.t 21) 3)]) c_law09_awake_2
abbrev c_law09_awake_0 : SC := .seq (.reg [o 0 (.mv (kb false))]) c_law09_awake_1
theorem cf_law09_awake : cfun Go.Proofs.Try.prog md n_law09_awake = some ⟨0, 162, c_law09_awake_0.erase, [.t 0]⟩ := by kernel_rfl
end Go.AM.Ytmihmgnjnedfcab
end

section
/- Contracts of functions: awake, the examples of chapter 9. -/
set_option maxRecDepth 100000
set_option linter.unusedSimpArgs false
set_option linter.unusedVariables false
namespace Go.AM.Ytmihmgnjnedfcab
open Go Go.AM
attribute [local simp ↓] awp_seq awp_reg awp_skip awp_cond' awp_block awp_exit awp_ret awp_fz thenW_normal thenW_exit thenW_ret inBlk_normal inBlk_exit inBlk_ret aops_cons' contA_ap aops_nil e_mv e_guard' e_pick' e_ld' e_app e_cpy e_st' e_call callW_f updO_some updO_none e_bin' e_isnil' e_fadr' e_iadr' e_iarr' e_len' e_build' e_mkf' e_nc' e_not' e_neg' e_cvt' e_slc' e_fld' e_ext' e_min' e_eqs' e_new e_box e_mkl e_mks
attribute [local simp] upd_apply ev_t ev_k ev_f binA_add binA_sub binA_mul binA_quo binA_rem binA_eql binA_neq binA_lss binA_leq binA_gtr binA_geq det mem frame0 keeps_nil iadrA_sl fadrA_ref fadrA_fp ldv_agg ldv_one cells_base hset_same hset_hset lenA_fs lenA_sl lenA_nils zeros_ints ints_length one_base one_nilp one_nils one_ref one_sl one_fp one_fs one_fn gl_one resA resOf bound natOf afill splice AV.cells cells_agg bindR_some condR_true condR_false guardR_tup guardR_true guardR_true' guardR_false guardR_false' allocW_some pickA_true pickA_false
open Go.FM

theorem st_box {h : Hp} {b n : Nat} {cs cs' : List AV} {R : AV → Hp → Prop} (h1 : cs.length = n) (h2 : cs'.length = n) (h3 : cs'.all one = true) : stR (.ref b 0) (.agg cs') n (hset h b cs) R = R (.tup []) (hset h b cs') := by
  rw [sr_all (hset_same ..) h1 h2 h3, hset_hset]

/-- Rows in blocks of their own, frozen. -/
theorem frz_rows {h G : Hp} {o : Nat} (bs : Nat → Nat) (L : List (List Int)) (out : h o = some (rowsC bs L)) (row : ∀ i, i < L.length → h (bs i) = some (ints (L.getD i []))) (ho : G o = none) (hg : ∀ i, i < L.length → G (bs i) = none) :
    Frz h G (.sl o 0 L.length 1) (.fs L.length (L.map frow)) := by
  refine .sl o 0 L.length 1 _ _ out ho (by simp [rowsC]) (by simp) fun j hj hk => ?_
  have hj' : j < L.length := by simpa using hj
  have hf := Frz.slk (h := h) (h' := G) (len := (L.getD j []).length) (sz := 1) (row j hj') (hg j hj') (by rw [ints_length, Nat.mul_one])
  simp [List.getD, hj', Option.getD, frow, rowsC] at hf ⊢
  exact hf
theorem hset_none {h : Hp} {b c : Nat} {xs : List AV} (hn : hset h b xs c = none) : c ≠ b ∧ h c = none := by
  by_cases e : c = b
  · rw [e, hset_same] at hn; cases hn
  · exact ⟨e, by rwa [hset_ne _ _ e] at hn⟩

/-- A literal of ints, frozen for a call. -/
theorem lit1 {P : Program} {f : FuncId} {G : Hp} {b : Nat} {l : List Int} {n : Nat} {pre post : List AV} {r : AV} {R : AV → Hp → Prop} (hb : G b = none) (hn : l.length = n) (p : Pure P f (pre ++ .fs n (ints l) :: post) r) (hR : R r G) :
    CallP P 0 f (pre ++ .sl b 0 n 1 :: post) (hset G b (ints l)) R := by
  refine p.thaw (h2 := G) ((Kp.refl G).new hb _).sub (by simp) (fun j hj hk => ?_) hR
  by_cases h1 : j < pre.length
  · rw [List.getElem_append_left h1, List.getElem_append_left h1]; exact .id _
  · rw [List.getElem_append_right (by omega), List.getElem_append_right (by omega)]
    obtain ⟨i, hi⟩ : ∃ i, j - pre.length = i := ⟨_, rfl⟩
    simp only [hi]
    cases i with
    | zero => exact Frz.slk (hset_same ..) hb (by rw [ints_length]; omega)
    | succ i => exact .id _

/-- Rows that are made one after the other. -/
def litH (G : Hp) : List (Nat × List Int) → Hp
  | [] => G
  | (b, l) :: r => litH (hset G b (ints l)) r
def litOk (G : Hp) : List (Nat × List Int) → Prop
  | [] => True
  | (b, l) :: r => G b = none ∧ litOk (hset G b (ints l)) r
theorem lit_kp : ∀ (bs : List (Nat × List Int)) (G : Hp), litOk G bs → Kp G (litH G bs) ∧ ∀ p ∈ bs, litH G bs p.1 = some (ints p.2) ∧ G p.1 = none
  | [], G, _ => ⟨Kp.refl G, fun p hp => by cases hp⟩
  | (b, l) :: r, G, ok => by
    obtain ⟨h1, h2⟩ := lit_kp r _ ok.2
    have h3 : Kp G (hset G b (ints l)) := (Kp.refl G).new ok.1 _
    refine ⟨h3.trans h1, fun p hp => ?_⟩
    rcases List.mem_cons.1 hp with rfl | hp
    · exact ⟨h1 _ _ (hset_same ..), ok.1⟩
    · exact ⟨(h2 p hp).1, h3.no (h2 p hp).2⟩
def litC (bs : List (Nat × List Int)) : List AV := bs.map fun p => .sl p.1 0 p.2.length 1
def litF (bs : List (Nat × List Int)) : List AV := bs.map fun p => frow p.2
theorem lit_frz {G H G2 : Hp} {bs : List (Nat × List Int)} {b : Nat} (ok : litOk G bs) (hb : litH G bs b = none) (k : Kp (hset (litH G bs) b (litC bs)) H) (h2 : G2 b = none) (h3 : ∀ p ∈ bs, G2 p.1 = none) : Frz H G2 (.sl b 0 bs.length 1) (.fs bs.length (litF bs)) := by
  obtain ⟨q1, q2⟩ := lit_kp bs G ok
  refine .sl b 0 bs.length 1 _ _ (k _ _ (hset_same ..)) h2 (by simp [litC, litF]) (by simp [litF]) fun j hj hk => ?_
  have hj' : j < bs.length := by simpa [litF] using hj
  have hm := List.getElem_mem hj'
  have hs := k _ _ ((Kp.refl _).new hb (litC bs) _ _ (q2 _ hm).1)
  have := Frz.slk (h := H) (h' := G2) (len := bs[j].2.length) (sz := 1) hs (h3 _ hm) (by rw [ints_length, Nat.mul_one])
  simpa [litC, litF, frow] using this
theorem lit_no {G : Hp} {bs : List (Nat × List Int)} {b : Nat} (ok : litOk G bs) (hb : litH G bs b = none) : G b = none ∧ (∀ p ∈ bs, G p.1 = none) ∧ Kp G (hset (litH G bs) b (litC bs)) :=
  ⟨(lit_kp bs G ok).1.no hb, fun p hp => ((lit_kp bs G ok).2 p hp).2, (lit_kp bs G ok).1.new hb _⟩
/-- A literal matrix, frozen for a call. -/
theorem lit2 {P : Program} {f : FuncId} {G : Hp} {b : Nat} {bs : List (Nat × List Int)} {c : Int} {x r : AV} {R : AV → Hp → Prop} (ok : litOk G bs) (hb : litH G bs b = none) (p : Pure P f [x, .agg [I c, .fs bs.length (litF bs)]] r) (hR : R r G) :
    CallP P 0 f [x, .agg [I c, .sl b 0 bs.length 1]] (hset (litH G bs) b (litC bs)) R := by
  obtain ⟨n1, n2, k⟩ := lit_no ok hb
  refine p.thaw (h2 := G) k.sub rfl (fun j hj hk => ?_) hR
  match j, hj with
  | 0, _ => exact .id _
  | 1, _ => exact .agg _ _ rfl (frz2 (.id _) (lit_frz ok hb (Kp.refl _) n1 n2))

theorem msm_of {L : List (List Int)} (h1 : L.length < 4611686018427387904) (h2 : ∀ row ∈ L, row.length < 4611686018427387904) : MSm L := ⟨h1, h2⟩

set_option maxHeartbeats 8000000 in
theorem s_awake : Pure prog n_law09_awake [] (B true) := by
  refine pure_of cf_law09_awake rfl fun h => ?_
  unfold c_law09_awake_0 c_law09_awake_1 c_law09_awake_2 c_law09_awake_3
  generalize hC : c_law09_awake_4 = C4
  simp [st_box]
  intro b1 hb1 b2 hb2 b23 hb23 b24 hb24 b25 hb25 b26 hb26 b3 hb3
  have k1 : Kp h (hset (hset h b1 [I 2, I 1, .nils]) b2 [I 5, I 1, .nils]) := ((Kp.refl h).new hb1 _).new hb2 _
  have g1 : (hset (hset h b1 [I 2, I 1, .nils]) b2 [I 5, I 1, .nils]) b1 = some [I 2, I 1, .nils] := (Kp.refl _).new hb2 _ b1 _ (hset_same ..)
  have g2 : (hset (hset h b1 [I 2, I 1, .nils]) b2 [I 5, I 1, .nils]) b2 = some [I 5, I 1, .nils] := hset_same ..
  generalize hset (hset h b1 [I 2, I 1, .nils]) b2 [I 5, I 1, .nils] = G at *
  refine awp_gen [1, 2, 3] fun fr1 hs => ?_
  have p1 := hs 1 (by simp)
  have p2 := hs 2 (by simp)
  have p3 := hs 3 (by simp)
  simp at p1 p2 p3
  clear hs
  -- the first matrix is frozen
  have ok : litOk G [(b23, [1, 1, 0]), (b24, [0, 1, 1]), (b25, [1, 0, 1])] := ⟨hb23, hb24, hb25, trivial⟩
  have hb26' : litH G [(b23, [1, 1, 0]), (b24, [0, 1, 1]), (b25, [1, 0, 1])] b26 = none := hb26
  obtain ⟨n1, n2, kl⟩ := lit_no ok hb26'
  have hb3' : hset (litH G [(b23, [1, 1, 0]), (b24, [0, 1, 1]), (b25, [1, 0, 1])]) b26 (litC [(b23, [1, 1, 0]), (b24, [0, 1, 1]), (b25, [1, 0, 1])]) b3 = none := hb3
  have hb3n := kl.no hb3'
  have hne : ∀ x, G x = none → (hset (litH G [(b23, [1, 1, 0]), (b24, [0, 1, 1]), (b25, [1, 0, 1])]) b26 (litC [(b23, [1, 1, 0]), (b24, [0, 1, 1]), (b25, [1, 0, 1])])) x ≠ none → (hset G b3 [I 3, .fs 3 (litF [(b23, [1, 1, 0]), (b24, [0, 1, 1]), (b25, [1, 0, 1])])]) x = none := fun x hx hx2 => by
    rw [hset_ne _ _ (fun he => hx2 (by rw [he]; exact hb3'))]; exact hx
  have hfz := lit_frz (G2 := hset G b3 [I 3, .fs 3 (litF [(b23, [1, 1, 0]), (b24, [0, 1, 1]), (b25, [1, 0, 1])])]) ok hb26' ((Kp.refl _).new hb3' [I 3, .sl b26 0 3 1]) (hne _ n1 (by rw [hset_same]; simp)) (fun p hp => hne _ (n2 p hp) (by
    have := ((lit_kp _ _ ok).2 p hp).1
    rw [(Kp.refl _).new hb26' _ _ _ this]; simp))
  have hsub := sub_box (h := hset (hset (litH G [(b23, [1, 1, 0]), (b24, [0, 1, 1]), (b25, [1, 0, 1])]) b26 (litC [(b23, [1, 1, 0]), (b24, [0, 1, 1]), (b25, [1, 0, 1])])) b3 [I 3, .sl b26 0 3 1]) (G := G) (b := b3) (ys := [I 3, .fs 3 (litF [(b23, [1, 1, 0]), (b24, [0, 1, 1]), (b25, [1, 0, 1])])]) (kl.new hb3' _) (hset_same ..) rfl (frz2 (.id _) hfz)
  subst hC
  refine ⟨_, [], hsub, trivial, ?_⟩
  show awp prog _ _ fr1 _
  have k3 := k1.new hb3n [I 3, .fs 3 (litF [(b23, [1, 1, 0]), (b24, [0, 1, 1]), (b25, [1, 0, 1])])]
  have g3 := hset_same G b3 [I 3, .fs 3 (litF [(b23, [1, 1, 0]), (b24, [0, 1, 1]), (b25, [1, 0, 1])])]
  have g1 := hset_at (xs := [I 3, .fs 3 (litF [(b23, [1, 1, 0]), (b24, [0, 1, 1]), (b25, [1, 0, 1])])]) g1 hb3n
  have g2 := hset_at (xs := [I 3, .fs 3 (litF [(b23, [1, 1, 0]), (b24, [0, 1, 1]), (b25, [1, 0, 1])])]) g2 hb3n
  have hlf : (.fs 3 (litF [(b23, [1, 1, 0]), (b24, [0, 1, 1]), (b25, [1, 0, 1])]) : AV) = .fs wM.length (wM.map frow) := rfl
  generalize hset G b3 [I 3, .fs 3 (litF [(b23, [1, 1, 0]), (b24, [0, 1, 1]), (b25, [1, 0, 1])])] = G3 at *
  rw [hlf] at g3
  clear hsub hfz hne hb3n hb3' kl n1 n2 hb26' ok hb23 hb24 hb25 hb26 hb3 hb1 hb2 hlf k1
  have hmM : ML (.fs wM.length (wM.map frow)) wM := ML_fs wM
  have hsM : MSm wM := msm_of (by decide) (by decide)
  have c1 := s_Canonical (p := 2) (m := 1) IL.nils (by decide) (c := 3) hmM hsM
  have c2 := s_Rank (p := 2) (m := 1) IL.nils (by decide) (c := 3) hmM hsM
  have c3 := s_Kernel (p := 2) (m := 1) IL.nils (by decide) (c := 3) hmM hsM
  rw [w_can] at c1
  rw [w_rank] at c2
  rw [w_ker] at c3
  generalize AV.fs wM.length (wM.map frow) = mv at *
  obtain ⟨_, _, _, l1⟩ := ld3_at g1
  obtain ⟨_, _, _, l2⟩ := ld3_at g2
  have l3 := lq_both g3
  generalize hC : c_law09_awake_5 = C5
  simp [p1, p3, l1, l3]
  refine c1.call ?_
  simp [st_box]
  intro b4 hb4
  have k4 := k3.new hb4 [I 3, .fs 2 [.fs 3 (ints [1, 0, 1]), .fs 3 (ints [0, 1, 1])]]
  have g4 := hset_same G3 b4 [I 3, .fs 2 [.fs 3 (ints [1, 0, 1]), .fs 3 (ints [0, 1, 1])]]
  have kk := (Kp.refl G3).new hb4 [I 3, .fs 2 [.fs 3 (ints [1, 0, 1]), .fs 3 (ints [0, 1, 1])]]
  have g1 := kk _ _ g1
  have g2 := kk _ _ g2
  have g3 := kk _ _ g3
  clear kk l1 l2 l3 k3 hb4
  generalize hset G3 b4 [I 3, .fs 2 [.fs 3 (ints [1, 0, 1]), .fs 3 (ints [0, 1, 1])]] = G4 at *
  refine awp_gen [1, 2, 3, 4, 5, 6] fun fr2 hs => ?_
  have q1 := hs 1 (by simp)
  have q2 := hs 2 (by simp)
  have q3 := hs 3 (by simp)
  have q4 := hs 4 (by simp)
  have q5 := hs 5 (by simp)
  have q6 := hs 6 (by simp)
  simp [p1, p2, p3] at q1 q2 q3 q4 q5 q6
  clear hs p1 p2 p3
  subst hC
  unfold c_law09_awake_5
  generalize hC : c_law09_awake_6 = C6
  obtain ⟨_, _, _, l1⟩ := ld3_at g1
  have l3 := lq_both g3
  simp [q1, q3, l1, l3]
  refine c2.call ?_
  simp
  subst hC
  unfold c_law09_awake_6
  generalize hC : c_law09_awake_7 = C7
  simp [q1, q3, l1, l3]
  refine c3.call ?_
  simp [st_box]
  intro b9 hb9
  have k9 := k4.new hb9 [I 3, .fs 1 [.fs 3 (ints [1, 1, 1])]]
  have g9 := hset_same G4 b9 [I 3, .fs 1 [.fs 3 (ints [1, 1, 1])]]
  have kk := (Kp.refl G4).new hb9 [I 3, .fs 1 [.fs 3 (ints [1, 1, 1])]]
  have g1 := kk _ _ g1
  have g2 := kk _ _ g2
  have g4 := kk _ _ g4
  clear kk l1 l3 k4 hb9 c1 c2 c3 hmM hsM g3
  generalize hset G4 b9 [I 3, .fs 1 [.fs 3 (ints [1, 1, 1])]] = G9 at *
  refine awp_gen [1, 2, 4, 5, 6, 7, 8, 9, 10] fun fr3 hs => ?_
  have p1 := hs 1 (by simp)
  have p2 := hs 2 (by simp)
  have p4 := hs 4 (by simp)
  have p5 := hs 5 (by simp)
  have p6 := hs 6 (by simp)
  have p7 := hs 7 (by simp)
  have p8 := hs 8 (by simp)
  have p9 := hs 9 (by simp)
  have p10 := hs 10 (by simp)
  simp [q1, q2, q4, q5, q6] at p1 p2 p4 p5 p6 p7 p8 p9 p10
  clear hs q1 q2 q3 q4 q5 q6
  -- the second matrix
  subst hC
  unfold c_law09_awake_7
  generalize hC : c_law09_awake_8 = C8
  simp [st_box]
  intro b47 hb47 b48 hb48 b49 hb49 b11 hb11
  refine awp_gen [1, 2, 4, 5, 6, 7, 8, 9, 10, 11] fun fr4 hs => ?_
  have q1 := hs 1 (by simp)
  have q2 := hs 2 (by simp)
  have q4 := hs 4 (by simp)
  have q5 := hs 5 (by simp)
  have q6 := hs 6 (by simp)
  have q7 := hs 7 (by simp)
  have q8 := hs 8 (by simp)
  have q9 := hs 9 (by simp)
  have q10 := hs 10 (by simp)
  have q11 := hs 11 (by simp)
  simp [p1, p2, p4, p5, p6, p7, p8, p9, p10] at q1 q2 q4 q5 q6 q7 q8 q9 q10 q11
  clear hs p1 p2 p4 p5 p6 p7 p8 p9 p10
  have ok : litOk G9 [(b47, [1, 2]), (b48, [3, 4])] := ⟨hb47, hb48, trivial⟩
  have hb49' : litH G9 [(b47, [1, 2]), (b48, [3, 4])] b49 = none := hb49
  obtain ⟨n1, n2, kl⟩ := lit_no ok hb49'
  have hb11' : hset (litH G9 [(b47, [1, 2]), (b48, [3, 4])]) b49 (litC [(b47, [1, 2]), (b48, [3, 4])]) b11 = none := hb11
  have hb11n := kl.no hb11'
  have hne : ∀ x, G9 x = none → (hset (litH G9 [(b47, [1, 2]), (b48, [3, 4])]) b49 (litC [(b47, [1, 2]), (b48, [3, 4])])) x ≠ none → (hset G9 b11 [I 2, .fs 2 (litF [(b47, [1, 2]), (b48, [3, 4])])]) x = none := fun x hx hx2 => by
    rw [hset_ne _ _ (fun he => hx2 (by rw [he]; exact hb11'))]; exact hx
  have hfz := lit_frz (G2 := hset G9 b11 [I 2, .fs 2 (litF [(b47, [1, 2]), (b48, [3, 4])])]) ok hb49' ((Kp.refl _).new hb11' [I 2, .sl b49 0 2 1]) (hne _ n1 (by rw [hset_same]; simp)) (fun p hp => hne _ (n2 p hp) (by
    have := ((lit_kp _ _ ok).2 p hp).1
    rw [(Kp.refl _).new hb49' _ _ _ this]; simp))
  have hsub := sub_box (h := hset (hset (litH G9 [(b47, [1, 2]), (b48, [3, 4])]) b49 (litC [(b47, [1, 2]), (b48, [3, 4])])) b11 [I 2, .sl b49 0 2 1]) (G := G9) (b := b11) (ys := [I 2, .fs 2 (litF [(b47, [1, 2]), (b48, [3, 4])])]) (kl.new hb11' _) (hset_same ..) rfl (frz2 (.id _) hfz)
  subst hC
  refine ⟨_, [], hsub, trivial, ?_⟩
  show awp prog _ _ fr4 _
  have k11 := k9.new hb11n [I 2, .fs 2 (litF [(b47, [1, 2]), (b48, [3, 4])])]
  have g11 := hset_same G9 b11 [I 2, .fs 2 (litF [(b47, [1, 2]), (b48, [3, 4])])]
  have kk := (Kp.refl G9).new hb11n [I 2, .fs 2 (litF [(b47, [1, 2]), (b48, [3, 4])])]
  have g1 := kk _ _ g1
  have g2 := kk _ _ g2
  have g4 := kk _ _ g4
  have g9 := kk _ _ g9
  have hlf : (.fs 2 (litF [(b47, [1, 2]), (b48, [3, 4])]) : AV) = .fs wS.length (wS.map frow) := rfl
  generalize hset G9 b11 [I 2, .fs 2 (litF [(b47, [1, 2]), (b48, [3, 4])])] = GA at *
  rw [hlf] at g11
  clear hsub hfz hne hb11n hb11' kl n1 n2 hb49' ok hb47 hb48 hb49 hb11 hlf k9 kk
  have hmS : ML (.fs wS.length (wS.map frow)) wS := ML_fs wS
  have hsS : MSm wS := msm_of (by decide) (by decide)
  have c1 := s_Det (p := 5) (m := 1) IL.nils (by decide) (c := 2) hmS hsS
  have c2 := s_Inverse (p := 5) (m := 1) IL.nils (by decide) (c := 2) hmS hsS
  have c3 := s_Vec (p := 5) (m := 1) IL.nils (by decide) (c := 2) hmS hsS (IL.fs [1, 1]) (by decide)
  have c4 := s_Solve (p := 5) (m := 1) IL.nils (by decide) (c := 2) hmS hsS (IL.fs [3, 2]) (by decide)
  have c5 := s_Check (p := 5) (m := 1) IL.nils (by decide) (c := 2) hmS hsS
  have c6 := s_Check (p := 2) (m := 1) IL.nils (by decide) (c := 2) hmS hsS
  rw [w_det] at c1
  rw [w_inv] at c2
  rw [w_vec] at c3
  rw [w_sol] at c4
  rw [wo5] at c5
  rw [wo25] at c6
  generalize AV.fs wS.length (wS.map frow) = sv at *
  obtain ⟨_, _, _, l1⟩ := ld3_at g1
  obtain ⟨_, _, _, l2⟩ := ld3_at g2
  have l11 := lq_both g11
  generalize hC : c_law09_awake_9 = C9
  simp [q2, q11, l2, l11]
  refine c1.call ?_
  simp
  subst hC
  unfold c_law09_awake_9
  generalize hC : c_law09_awake_10 = C10
  simp [q2, q11, l2, l11]
  refine c2.call ?_
  simp [st_box]
  intro b14 hb14
  have k14 := k11.new hb14 [I 2, .fs 2 [.fs 2 (ints [3, 1]), .fs 2 (ints [4, 2])]]
  have g14 := hset_same GA b14 [I 2, .fs 2 [.fs 2 (ints [3, 1]), .fs 2 (ints [4, 2])]]
  have kk := (Kp.refl GA).new hb14 [I 2, .fs 2 [.fs 2 (ints [3, 1]), .fs 2 (ints [4, 2])]]
  have g1 := kk _ _ g1
  have g2 := kk _ _ g2
  have g4 := kk _ _ g4
  have g9 := kk _ _ g9
  have g11 := kk _ _ g11
  clear kk l1 l2 l11 k11 hb14 c1 c2
  generalize hset GA b14 [I 2, .fs 2 [.fs 2 (ints [3, 1]), .fs 2 (ints [4, 2])]] = GB at *
  obtain ⟨_, _, _, l1⟩ := ld3_at g1
  obtain ⟨_, _, _, l2⟩ := ld3_at g2
  have l4 := lq_both g4
  have l9 := lq_both g9
  have l11 := lq_both g11
  have l14 := lq_both g14
  refine awp_gen [1, 2, 4, 5, 6, 7, 8, 9, 10, 11, 12, 13, 14, 15] fun fr5 hs => ?_
  have p1 := hs 1 (by simp)
  have p2 := hs 2 (by simp)
  have p4 := hs 4 (by simp)
  have p5 := hs 5 (by simp)
  have p6 := hs 6 (by simp)
  have p7 := hs 7 (by simp)
  have p8 := hs 8 (by simp)
  have p9 := hs 9 (by simp)
  have p10 := hs 10 (by simp)
  have p11 := hs 11 (by simp)
  have p12 := hs 12 (by simp)
  have p13 := hs 13 (by simp)
  have p14 := hs 14 (by simp)
  have p15 := hs 15 (by simp)
  simp [q1, q2, q4, q5, q6, q7, q8, q9, q10, q11] at p1 p2 p4 p5 p6 p7 p8 p9 p10 p11 p12 p13 p14 p15
  clear hs q1 q2 q4 q5 q6 q7 q8 q9 q10 q11
  subst hC
  unfold c_law09_awake_10
  generalize hC : c_law09_awake_11 = C11
  simp [p2, p11, l2, l11]
  intro b65 hb65
  have l11b := lq_both ((Kp.refl GB).new hb65 (ints [1, 1]) _ _ g11)
  rw [show [AV.base (Value.int IntKind.i64 1), AV.base (Value.int IntKind.i64 1)] = ints [1, 1] from rfl]
  simp [l11b]
  refine lit1 (pre := [.agg [I 5, I 1, .nils]]) (post := [.agg [I 2, sv]]) hb65 rfl c3 ?_
  simp
  subst hC
  unfold c_law09_awake_11
  generalize hC : c_law09_awake_12 = C12
  simp [p2, p11, l2, l11]
  intro b73 hb73
  refine lit1 (pre := [.agg [I 5, I 1, .nils], .agg [I 2, sv]]) (post := []) hb73 rfl c4 ?_
  simp
  subst hC
  refine awp_gen [1, 2, 4, 5, 6, 7, 8, 9, 10, 11, 12, 13, 14, 15, 16, 17, 18, 19] fun fr6 hs => ?_
  have q1 := hs 1 (by simp)
  have q2 := hs 2 (by simp)
  have q4 := hs 4 (by simp)
  have q5 := hs 5 (by simp)
  have q6 := hs 6 (by simp)
  have q7 := hs 7 (by simp)
  have q8 := hs 8 (by simp)
  have q9 := hs 9 (by simp)
  have q10 := hs 10 (by simp)
  have q11 := hs 11 (by simp)
  have q12 := hs 12 (by simp)
  have q13 := hs 13 (by simp)
  have q14 := hs 14 (by simp)
  have q15 := hs 15 (by simp)
  have q16 := hs 16 (by simp)
  have q17 := hs 17 (by simp)
  have q18 := hs 18 (by simp)
  have q19 := hs 19 (by simp)
  simp [p1, p2, p4, p5, p6, p7, p8, p9, p10, p11, p12, p13, p14, p15] at q1 q2 q4 q5 q6 q7 q8 q9 q10 q11 q12 q13 q14 q15 q16 q17 q18 q19
  clear hs p1 p2 p4 p5 p6 p7 p8 p9 p10 p11 p12 p13 p14 p15
  unfold c_law09_awake_12
  generalize hC : c_law09_awake_13 = C13
  simp [q6, q8, q10, q13, q15, q17, q19]
  refine awp_gen [1, 2, 4, 5, 7, 9, 11, 12, 14, 16, 18, 20] fun fr7 hs => ?_
  have p1 := hs 1 (by simp)
  have p2 := hs 2 (by simp)
  have p4 := hs 4 (by simp)
  have p5 := hs 5 (by simp)
  have p7 := hs 7 (by simp)
  have p9 := hs 9 (by simp)
  have p11 := hs 11 (by simp)
  have p12 := hs 12 (by simp)
  have p14 := hs 14 (by simp)
  have p16 := hs 16 (by simp)
  have p18 := hs 18 (by simp)
  have p20 := hs 20 (by simp)
  simp [q1, q2, q4, q5, q7, q9, q11, q12, q14, q16, q18] at p1 p2 p4 p5 p7 p9 p11 p12 p14 p16 p18 p20
  clear hs q1 q2 q4 q5 q6 q7 q8 q9 q10 q11 q12 q13 q14 q15 q16 q17 q18 q19
  subst hC
  unfold c_law09_awake_13
  generalize hC : c_law09_awake_14 = C14
  have d1 := s_Same (c := 3) (d := 3) (ML_fs [[1, 0, 1], [0, 1, 1]]) (ML_fs [[1, 0, 1], [0, 1, 1]]) (by decide) (fun i hi => by
    match i, hi with
    | 0, _ => decide
    | 1, _ => decide)
  have d2 := s_SameInts (IL.fs [0, 1]) (IL.fs [0, 1]) (by decide)
  have d3 := s_Same (c := 3) (d := 3) (ML_fs [[1, 1, 1]]) (ML_fs [[1, 1, 1]]) (by decide) (fun i hi => by
    match i, hi with
    | 0, _ => decide)
  have d4 := s_Same (c := 2) (d := 2) (ML_fs [[3, 1], [4, 2]]) (ML_fs [[3, 1], [4, 2]]) (by decide) (fun i hi => by
    match i, hi with
    | 0, _ => decide
    | 1, _ => decide)
  have d5 := s_SameInts (IL.fs [4, 1]) (IL.fs [4, 1]) (by decide)
  have d6 := s_SameInts (IL.fs [1, 1]) (IL.fs [1, 1]) (by decide)
  rw [decide_eq_true ⟨rfl, rfl⟩] at d1 d3 d4
  rw [decide_eq_true rfl] at d2 d5 d6
  simp [p20, p4, l4]
  intro b106 hb106 b107 hb107 b108 hb108
  refine lit2 (bs := [(b106, [1, 0, 1]), (b107, [0, 1, 1])]) ⟨hb106, hb107, trivial⟩ hb108 d1 ?_
  simp [p5]
  intro b114 hb114
  refine lit1 (pre := [.fs 2 (ints [0, 1])]) (post := []) hb114 rfl d2 ?_
  simp [p7, p9, l9]
  intro b123 hb123 b124 hb124
  refine lit2 (bs := [(b123, [1, 1, 1])]) ⟨hb123, trivial⟩ hb124 d3 ?_
  simp [p12, p14, l14]
  intro b134 hb134 b135 hb135 b136 hb136
  refine lit2 (bs := [(b134, [3, 1]), (b135, [4, 2])]) ⟨hb134, hb135, trivial⟩ hb136 d4 ?_
  simp [p16]
  intro b142 hb142
  refine lit1 (pre := [.fs 2 (ints [4, 1])]) (post := []) hb142 rfl d5 ?_
  simp [p18]
  intro b147 hb147
  refine lit1 (pre := [.fs 2 (ints [1, 1])]) (post := []) hb147 rfl d6 ?_
  simp [p2, p11, l2, l11]
  refine c5.call ?_
  simp [p1, p11, l1, l11]
  refine c6.call ?_
  simp
  subst hC
  simp
  exact ⟨_, k14.sub, .id _, rfl⟩
end Go.AM.Ytmihmgnjnedfcab
end
