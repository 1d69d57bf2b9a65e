/- Own texts, joined: QOFs, QOBase, QOA, QOWF, QOQA, QOQB. -/
import Derived.Test.YtjbblfoefibeaaaProg
import Derived.Test.YtjbblfoefibeaaaChecked
import Derived.Lib.Strings
import Derived.Lib.Slices
import Derived.Lib.Walk
import Derived.Lib.Bytealg
import Derived.Lib.IndexAny
import Derived.Test.YtjbblfoefibeaaaAmPart3
/- The abstract code of the functions of this seat: what the engine makes of the program's own code. Printed by a program (genfs.py); Lean checks each one. -/
namespace Go.Proofs.Ytjbblfoefibeaaa
open Go AM

def af8 : AF := ⟨97, [.t 4], .seq (.region [⟨some 4, .mv (.k (.bool false)), none⟩] false) (.seq (.seq (.region [⟨some 13, .call 27 [], none⟩, ⟨some 14, .un .not (.t 13), none⟩] false) (.cond (.t 14) (.seq (.region [⟨some 4, .mv (.k (.bool false)), none⟩] false) .ret) .skip)) (.seq (.seq (.region [⟨some 15, .mv (.t 0), none⟩, ⟨some 16, .lenL (.t 15), none⟩, ⟨some 17, .bin .gtr (.t 16) (.k (.int .i64 60)), none⟩] false) (.cond (.t 17) (.seq (.region [⟨some 4, .mv (.k (.bool true)), none⟩] false) .ret) .skip)) (.seq (.region [⟨some 18, .call 29 [], none⟩, ⟨some 5, .mv (.t 18), none⟩] false) (.seq (.region [⟨some 6, .mv (.k .nils), none⟩] false) (.seq (.seq (.region [⟨some 19, .mv (.t 0), none⟩, ⟨some 20, .lenL (.t 19), none⟩, ⟨some 21, .mv (.k (.int .i64 0)), none⟩] false) (.block 0 (.loop (.seq (.region [⟨some 22, .bin .lss (.t 21) (.t 20), none⟩] false) (.seq (.cond (.t 22) .skip (.exit 0)) (.seq (.block 1 (.seq (.region [⟨some 23, .iaddrS 3 (.t 19) (.t 21), none⟩, ⟨some 24, .load (some 3) (.t 23), none⟩, ⟨some 8, .alloc 39 [.int .i64 0, .int .i64 0, .str []], none⟩, ⟨none, .store 3 (.t 8) (.t 24), none⟩] false) (.seq (.seq (.region [⟨some 25, .faddr 2 (.t 8), none⟩, ⟨some 26, .load none (.t 25), none⟩, ⟨some 27, .lenS (.t 26), none⟩, ⟨some 28, .bin .gtr (.t 27) (.k (.int .i64 300)), none⟩] false) (.cond (.t 28) (.seq (.region [⟨some 4, .mv (.k (.bool true)), none⟩] false) .ret) .skip)) (.seq (.region [⟨some 29, .load (some 3) (.t 8), none⟩, ⟨some 30, .call 20 [.t 29], none⟩] false) (.cond (.t 30) (.region [⟨some 31, .mv (.t 6), none⟩, ⟨some 32, .load (some 3) (.t 8), none⟩, ⟨some 33, .bslice 39 3 [.int .i64 0, .int .i64 0, .str []] [(0, (3, .t 32))], none⟩, ⟨some 34, .app 39 3 32 [.int .i64 0, .int .i64 0, .str []] (.t 31) (.t 33), none⟩, ⟨some 6, .mv (.t 34), none⟩] false) .skip))))) (.region [⟨some 35, .bin .add (.t 21) (.k (.int .i64 1)), none⟩, ⟨some 21, .mv (.t 35), none⟩] false))))))) (.seq (.seq (.region [⟨some 36, .mv (.t 1), none⟩, ⟨some 37, .bin .lss (.t 36) (.k (.int .i64 0)), none⟩, ⟨some 38, .mv (.t 37), none⟩, ⟨some 39, .mv (.t 1), some (38, false)⟩, ⟨some 40, .mv (.t 0), some (38, false)⟩, ⟨some 41, .lenL (.t 40), some (38, false)⟩, ⟨some 42, .bin .gtr (.t 39) (.t 41), some (38, false)⟩, ⟨some 43, .pick (.t 38) (.k (.bool true)) (.t 42), none⟩] false) (.cond (.t 43) (.region [⟨some 1, .mv (.k (.int .i64 0)), none⟩] false) .skip)) (.seq (.draw 0 [⟨0, ⟨some 44, .mv (.t 5), none⟩, [], none, []⟩, ⟨1, ⟨some 45, .mv (.t 0), none⟩, [], none, []⟩, ⟨2, ⟨some 46, .mv (.t 1), none⟩, [], none, []⟩, ⟨3, ⟨some 47, .slL 3 (.t 45) none (some (.t 46)), none⟩, [], none, []⟩, ⟨5, ⟨some 49, .mv (.t 5), none⟩, [], none, []⟩, ⟨6, ⟨some 50, .mv (.t 0), none⟩, [], none, []⟩, ⟨7, ⟨some 51, .mv (.t 1), none⟩, [], none, []⟩, ⟨8, ⟨some 52, .slL 3 (.t 50) (some (.t 51)) none, none⟩, [], none, []⟩, ⟨4, ⟨some 48, .call 34 [.t 44, .t 47], none⟩, [], none, [⟨some 52, .slL 3 (.t 50) (some (.t 51)) none, none⟩]⟩, ⟨9, ⟨some 53, .call 34 [.t 49, .t 52], none⟩, [], none, []⟩, ⟨10, ⟨some 54, .bin .add (.t 48) (.t 53), none⟩, [], none, []⟩, ⟨11, ⟨some 9, .mv (.t 54), none⟩, [], none, []⟩]) (.seq (.seq (.region [⟨some 55, .mv (.t 9), none⟩, ⟨some 56, .mv (.t 6), none⟩, ⟨some 57, .lenL (.t 56), none⟩, ⟨some 58, .minmax false [.t 57, .k (.int .i64 16)], none⟩, ⟨some 59, .bin .neq (.t 55) (.t 58), none⟩, ⟨some 60, .mv (.t 59), none⟩, ⟨some 61, .mv (.t 5), some (60, false)⟩, ⟨some 62, .call 38 [.t 61], some (60, false)⟩, ⟨some 63, .mv (.t 6), some (60, false)⟩, ⟨some 64, .lenL (.t 63), some (60, false)⟩, ⟨some 65, .bin .gtr (.t 64) (.k (.int .i64 16)), some (60, false)⟩, ⟨some 66, .eqf true false [(1, .b)] (.t 62) (.t 65), some (60, false)⟩, ⟨some 67, .pick (.t 60) (.k (.bool true)) (.t 66), none⟩, ⟨some 68, .mv (.t 67), none⟩, ⟨some 69, .mv (.t 5), some (68, false)⟩, ⟨some 70, .call 38 [.t 69], some (68, false)⟩, ⟨some 71, .pick (.t 68) (.k (.bool true)) (.t 70), none⟩] false) (.cond (.t 71) (.seq (.region [⟨some 4, .mv (.k (.bool false)), none⟩] false) .ret) .skip)) (.seq (.region [⟨some 72, .mv (.t 5), none⟩, ⟨some 73, .call 39 [.t 72, .k (.int .i64 100)], none⟩, ⟨some 10, .mv (.t 73), none⟩] false) (.seq (.seq (.region [⟨some 74, .mv (.t 10), none⟩, ⟨some 75, .lenL (.t 74), none⟩, ⟨some 76, .mv (.k (.int .i64 0)), none⟩] false) (.block 2 (.loop (.seq (.region [⟨some 77, .bin .lss (.t 76) (.t 75), none⟩] false) (.seq (.cond (.t 77) .skip (.exit 2)) (.seq (.block 3 (.seq (.region [⟨some 78, .mv (.t 76), none⟩, ⟨some 79, .iaddrS 3 (.t 74) (.t 76), none⟩, ⟨some 80, .load (some 3) (.t 79), none⟩, ⟨some 12, .alloc 39 [.int .i64 0, .int .i64 0, .str []], none⟩, ⟨some 11, .mv (.t 78), none⟩, ⟨none, .store 3 (.t 12) (.t 80), none⟩] false) (.seq (.draw 0 [⟨0, ⟨some 81, .load (some 3) (.t 12), none⟩, [], none, []⟩, ⟨1, ⟨some 82, .mv (.t 6), none⟩, [], none, []⟩, ⟨2, ⟨some 83, .mv (.t 11), none⟩, [], none, []⟩, ⟨3, ⟨some 84, .iaddrS 3 (.t 82) (.t 83), none⟩, [], none, []⟩, ⟨4, ⟨some 85, .load (some 3) (.t 84), none⟩, [], none, []⟩, ⟨5, ⟨some 86, .eqf true true [(1, .i), (1, .i), (1, .s)] (.t 81) (.t 85), none⟩, [], none, []⟩]) (.cond (.t 86) (.seq (.region [⟨some 4, .mv (.k (.bool false)), none⟩] false) .ret) .skip)))) (.region [⟨some 87, .bin .add (.t 76) (.k (.int .i64 1)), none⟩, ⟨some 76, .mv (.t 87), none⟩] false))))))) (.seq (.region [⟨some 88, .mv (.t 10), none⟩, ⟨some 89, .lenL (.t 88), none⟩, ⟨some 90, .mv (.t 9), none⟩, ⟨some 91, .bin .eql (.t 89) (.t 90), none⟩, ⟨some 92, .mv (.t 91), none⟩, ⟨some 93, .mv (.t 5), some (92, true)⟩, ⟨some 94, .call 36 [.t 93], some (92, true)⟩, ⟨some 95, .bin .eql (.t 94) (.k (.int .i64 0)), some (92, true)⟩, ⟨some 96, .pick (.t 92) (.t 95) (.k (.bool false)), none⟩, ⟨some 4, .mv (.t 96), none⟩] false) .ret)))))))))))⟩
theorem tr8 : trProg Try.prog 8 = some af8 := by kernel_rfl
def af11 : AF := ⟨15, [.t 0], .seq (.region [⟨some 0, .mv (.k (.bool false)), none⟩] false) (.seq (.region [⟨some 4, .build [.int .i64 0, .int .i64 0, .int .i64 0, .int .i64 0, .int .i64 0, .int .i64 0, .str [], .str []] [(0, (1, .k (.int .i64 7))), (1, (1, .k (.int .i64 2))), (2, (1, .k (.int .i64 2)))], none⟩, ⟨some 5, .call 13 [.t 4], none⟩, ⟨some 3, .mv (.t 5), none⟩, ⟨some 6, .extract (.t 3) 0, none⟩, ⟨some 7, .extract (.t 3) 1, none⟩, ⟨some 1, .mv (.t 6), none⟩, ⟨some 2, .mv (.t 7), none⟩] false) (.seq (.region [⟨some 8, .mv (.t 2), none⟩, ⟨some 9, .bin .eql (.t 8) (.k (.int .i64 0)), none⟩, ⟨some 10, .mv (.t 9), none⟩, ⟨some 11, .mv (.t 1), some (10, true)⟩, ⟨some 12, .lenS (.t 11), some (10, true)⟩, ⟨some 13, .bin .eql (.t 12) (.k (.int .i64 26)), some (10, true)⟩, ⟨some 14, .pick (.t 10) (.t 13) (.k (.bool false)), none⟩, ⟨some 0, .mv (.t 14), none⟩] false) .ret))⟩
theorem tr11 : trProg Try.prog 11 = some af11 := by kernel_rfl
def af13 : AF := ⟨32, [.t 2, .t 3], .seq (.region [⟨some 1, .box 23 (.t 0), none⟩, ⟨some 2, .mv (.k (.str [])), none⟩, ⟨some 3, .mv (.k (.int .i64 0)), none⟩] false) (.seq (.seq (.region [⟨some 5, .load (some 8) (.t 1), none⟩, ⟨some 6, .call 14 [.t 5], none⟩, ⟨some 7, .un .not (.t 6), none⟩] false) (.cond (.t 7) (.seq (.region [⟨some 2, .mv (.k (.str [])), none⟩, ⟨some 3, .mv (.k (.int .i64 22)), none⟩] false) .ret) .skip)) (.seq (.region [⟨some 4, .alloc 105 [.nilp, .nils], none⟩] false) (.seq (.region [⟨some 8, .call 50 [.t 4, .k (.int .i64 1), .k (.int .i64 1)], none⟩] false) (.seq (.region [⟨some 9, .faddr 1 (.t 1), none⟩, ⟨some 10, .load none (.t 9), none⟩, ⟨some 11, .call 50 [.t 4, .t 10, .k (.int .i64 1)], none⟩] false) (.seq (.region [⟨some 12, .faddr 0 (.t 1), none⟩, ⟨some 13, .load none (.t 12), none⟩, ⟨some 14, .faddr 2 (.t 1), none⟩, ⟨some 15, .load none (.t 14), none⟩, ⟨some 16, .faddr 3 (.t 1), none⟩, ⟨some 17, .load none (.t 16), none⟩, ⟨some 18, .faddr 4 (.t 1), none⟩, ⟨some 19, .load none (.t 18), none⟩, ⟨some 20, .faddr 5 (.t 1), none⟩, ⟨some 21, .load none (.t 20), none⟩, ⟨some 22, .bslice 3 1 [.int .i64 0, .int .i64 0, .int .i64 0, .int .i64 0, .int .i64 0] [(0, (1, .t 13)), (1, (1, .t 15)), (2, (1, .t 17)), (3, (1, .t 19)), (4, (1, .t 21))], none⟩, ⟨some 23, .call 51 [.t 4, .t 22], none⟩] false) (.seq (.region [⟨some 24, .faddr 6 (.t 1), none⟩, ⟨some 25, .load none (.t 24), none⟩, ⟨some 26, .call 52 [.t 4, .t 25], none⟩] false) (.seq (.region [⟨some 27, .faddr 7 (.t 1), none⟩, ⟨some 28, .load none (.t 27), none⟩, ⟨some 29, .call 52 [.t 4, .t 28], none⟩] false) (.seq (.region [⟨some 30, .faddr 0 (.t 4), none⟩, ⟨some 31, .call 53 [.t 30], none⟩, ⟨some 2, .mv (.t 31), none⟩, ⟨some 3, .mv (.k (.int .i64 0)), none⟩] false) .ret))))))))⟩
theorem tr13 : trProg Try.prog 13 = some af13 := by kernel_rfl
def af14 : AF := ⟨42, [.t 2], .seq (.region [⟨some 1, .box 23 (.t 0), none⟩, ⟨some 2, .mv (.k (.bool false)), none⟩] false) (.seq (.region [⟨some 6, .load (some 8) (.t 1), none⟩, ⟨some 7, .call 54 [.t 6], none⟩, ⟨some 5, .mv (.t 7), none⟩, ⟨some 8, .extract (.t 5) 0, none⟩, ⟨some 9, .extract (.t 5) 1, none⟩, ⟨some 3, .alloc 23 [.int .i64 0, .int .i64 0, .int .i64 0, .int .i64 0, .int .i64 0, .int .i64 0, .str [], .str []], none⟩, ⟨none, .store 8 (.t 3) (.t 8), none⟩, ⟨some 4, .mv (.t 9), none⟩] false) (.seq (.region [⟨some 10, .mv (.t 4), none⟩, ⟨some 11, .mv (.t 10), none⟩, ⟨some 12, .load (some 8) (.t 3), some (11, true)⟩, ⟨some 13, .load (some 8) (.t 1), some (11, true)⟩, ⟨some 14, .eqf false true [(1, .i), (1, .i), (1, .i), (1, .i), (1, .i), (1, .i), (1, .s), (1, .s)] (.t 12) (.t 13), some (11, true)⟩, ⟨some 15, .pick (.t 11) (.t 14) (.k (.bool false)), none⟩, ⟨some 16, .mv (.t 15), none⟩, ⟨some 17, .faddr 0 (.t 1), some (16, true)⟩, ⟨some 18, .load none (.t 17), some (16, true)⟩, ⟨some 19, .faddr 2 (.t 1), some (16, true)⟩, ⟨some 20, .load none (.t 19), some (16, true)⟩, ⟨some 21, .faddr 3 (.t 1), some (16, true)⟩, ⟨some 22, .load none (.t 21), some (16, true)⟩, ⟨some 23, .faddr 4 (.t 1), some (16, true)⟩, ⟨some 24, .load none (.t 23), some (16, true)⟩, ⟨some 25, .faddr 5 (.t 1), some (16, true)⟩, ⟨some 26, .load none (.t 25), some (16, true)⟩, ⟨some 27, .bslice 3 1 [.int .i64 0, .int .i64 0, .int .i64 0, .int .i64 0, .int .i64 0] [(0, (1, .t 18)), (1, (1, .t 20)), (2, (1, .t 22)), (3, (1, .t 24)), (4, (1, .t 26))], some (16, true)⟩, ⟨some 28, .call 55 [.t 27], some (16, true)⟩, ⟨some 29, .pick (.t 16) (.t 28) (.k (.bool false)), none⟩, ⟨some 30, .mv (.t 29), none⟩, ⟨some 31, .faddr 6 (.t 1), some (30, true)⟩, ⟨some 32, .load none (.t 31), some (30, true)⟩, ⟨some 33, .lenS (.t 32), some (30, true)⟩, ⟨some 34, .bin .leq (.t 33) (.k (.int .i64 512)), some (30, true)⟩, ⟨some 35, .pick (.t 30) (.t 34) (.k (.bool false)), none⟩, ⟨some 36, .mv (.t 35), none⟩, ⟨some 37, .faddr 7 (.t 1), some (36, true)⟩, ⟨some 38, .load none (.t 37), some (36, true)⟩, ⟨some 39, .lenS (.t 38), some (36, true)⟩, ⟨some 40, .bin .leq (.t 39) (.k (.int .i64 512)), some (36, true)⟩, ⟨some 41, .pick (.t 36) (.t 40) (.k (.bool false)), none⟩, ⟨some 2, .mv (.t 41), none⟩] false) .ret))⟩
theorem tr14 : trProg Try.prog 14 = some af14 := by kernel_rfl
def af20 : AF := ⟨26, [.t 2], .seq (.region [⟨some 1, .box 39 (.t 0), none⟩, ⟨some 2, .mv (.k (.bool false)), none⟩] false) (.seq (.seq (.region [⟨some 3, .faddr 1 (.t 1), none⟩, ⟨some 4, .load none (.t 3), none⟩, ⟨some 5, .call 65 [.t 4, .k (.int .i64 1), .k (.int .i64 128)], none⟩, ⟨some 6, .un .not (.t 5), none⟩] false) (.cond (.t 6) (.seq (.region [⟨some 2, .mv (.k (.bool false)), none⟩] false) .ret) .skip)) (.seq (.region [⟨some 7, .faddr 0 (.t 1), none⟩, ⟨some 8, .load none (.t 7), none⟩, ⟨some 9, .bin .eql (.t 8) (.k (.int .i64 1)), none⟩, ⟨some 10, .mv (.t 9), none⟩, ⟨some 11, .faddr 2 (.t 1), some (10, true)⟩, ⟨some 12, .load none (.t 11), some (10, true)⟩, ⟨some 13, .bin .eql (.t 12) (.k (.str [])), some (10, true)⟩, ⟨some 14, .pick (.t 10) (.t 13) (.k (.bool false)), none⟩, ⟨some 15, .mv (.t 14), none⟩, ⟨some 16, .faddr 0 (.t 1), some (15, false)⟩, ⟨some 17, .load none (.t 16), some (15, false)⟩, ⟨some 18, .bin .eql (.t 17) (.k (.int .i64 2)), some (15, false)⟩, ⟨some 19, .mv (.t 18), some (15, false)⟩, ⟨some 20, .faddr 2 (.t 1), some (19, true)⟩, ⟨some 21, .load none (.t 20), some (19, true)⟩, ⟨some 22, .call 66 [.t 21], some (19, true)⟩, ⟨some 23, .bin .eql (.t 22) (.k (.int .i64 0)), some (19, true)⟩, ⟨some 24, .pick (.t 19) (.t 23) (.k (.bool false)), some (15, false)⟩, ⟨some 25, .pick (.t 15) (.k (.bool true)) (.t 24), none⟩, ⟨some 2, .mv (.t 25), none⟩] false) .ret))⟩
theorem tr20 : trProg Try.prog 20 = some af20 := by kernel_rfl
def af27 : AF := ⟨77, [.t 0], .seq (.region [⟨some 0, .mv (.k (.bool false)), none⟩] false) (.seq (.region [⟨some 14, .call 29 [], none⟩, ⟨some 1, .mv (.t 14), none⟩] false) (.seq (.region [⟨some 16, .mv (.t 1), none⟩, ⟨some 17, .build [.int .i64 0, .int .i64 0, .int .i64 0, .int .i64 0, .int .i64 0, .int .i64 0, .str [], .str []] [(1, (1, .k (.int .i64 2))), (2, (1, .k (.int .i64 1)))], none⟩, ⟨some 18, .call 30 [.t 16, .t 17], none⟩, ⟨some 15, .mv (.t 18), none⟩, ⟨some 19, .extract (.t 15) 0, none⟩, ⟨some 20, .extract (.t 15) 1, none⟩, ⟨some 2, .mv (.t 19), none⟩, ⟨some 3, .mv (.t 20), none⟩] false) (.seq (.region [⟨some 22, .mv (.t 1), none⟩, ⟨some 23, .build [.int .i64 0, .int .i64 0, .int .i64 0, .int .i64 0, .int .i64 0, .int .i64 0, .str [], .str []] [(1, (1, .k (.int .i64 19)))], none⟩, ⟨some 24, .call 30 [.t 22, .t 23], none⟩, ⟨some 21, .mv (.t 24), none⟩, ⟨some 25, .extract (.t 21) 0, none⟩, ⟨some 26, .extract (.t 21) 1, none⟩, ⟨some 4, .mv (.t 25), none⟩, ⟨some 5, .mv (.t 26), none⟩] false) (.seq (.region [⟨some 28, .mv (.t 1), none⟩, ⟨some 29, .call 31 [.t 28], none⟩, ⟨some 27, .mv (.t 29), none⟩, ⟨some 30, .extract (.t 27) 0, none⟩, ⟨some 31, .extract (.t 27) 1, none⟩, ⟨some 6, .alloc 23 [.int .i64 0, .int .i64 0, .int .i64 0, .int .i64 0, .int .i64 0, .int .i64 0, .str [], .str []], none⟩, ⟨none, .store 8 (.t 6) (.t 30), none⟩, ⟨some 7, .mv (.t 31), none⟩] false) (.seq (.region [⟨some 33, .mv (.t 1), none⟩, ⟨some 34, .call 32 [.t 33, .k (.int .i64 1)], none⟩, ⟨some 32, .mv (.t 34), none⟩, ⟨some 35, .extract (.t 32) 0, none⟩, ⟨some 36, .extract (.t 32) 1, none⟩, ⟨some 8, .mv (.t 35), none⟩, ⟨some 9, .mv (.t 36), none⟩] false) (.seq (.region [⟨some 38, .mv (.t 1), none⟩, ⟨some 39, .call 32 [.t 38, .k (.int .i64 1)], none⟩, ⟨some 37, .mv (.t 39), none⟩, ⟨some 40, .extract (.t 37) 0, none⟩, ⟨some 41, .extract (.t 37) 1, none⟩, ⟨some 10, .mv (.t 40), none⟩, ⟨some 11, .mv (.t 41), none⟩] false) (.seq (.region [⟨some 43, .mv (.t 1), none⟩, ⟨some 44, .call 32 [.t 43, .k (.int .i64 2)], none⟩, ⟨some 42, .mv (.t 44), none⟩, ⟨some 45, .extract (.t 42) 0, none⟩, ⟨some 46, .extract (.t 42) 1, none⟩, ⟨some 12, .mv (.t 45), none⟩, ⟨some 13, .mv (.t 46), none⟩] false) (.seq (.region [⟨some 47, .mv (.t 2), none⟩, ⟨some 48, .bin .eql (.t 47) (.k (.int .i64 1)), none⟩, ⟨some 49, .mv (.t 48), none⟩, ⟨some 50, .mv (.t 4), some (49, true)⟩, ⟨some 51, .bin .eql (.t 50) (.k (.int .i64 2)), some (49, true)⟩, ⟨some 52, .pick (.t 49) (.t 51) (.k (.bool false)), none⟩, ⟨some 53, .mv (.t 52), none⟩, ⟨some 54, .mv (.t 7), some (53, true)⟩, ⟨some 55, .pick (.t 53) (.t 54) (.k (.bool false)), none⟩, ⟨some 56, .mv (.t 55), none⟩, ⟨some 57, .faddr 0 (.t 6), some (56, true)⟩, ⟨some 58, .load none (.t 57), some (56, true)⟩, ⟨some 59, .bin .eql (.t 58) (.k (.int .i64 1)), some (56, true)⟩, ⟨some 60, .pick (.t 56) (.t 59) (.k (.bool false)), none⟩, ⟨some 61, .mv (.t 60), none⟩, ⟨some 62, .mv (.t 8), some (61, true)⟩, ⟨some 63, .bin .eql (.t 62) (.k (.int .i64 2)), some (61, true)⟩, ⟨some 64, .pick (.t 61) (.t 63) (.k (.bool false)), none⟩, ⟨some 65, .mv (.t 64), none⟩, ⟨some 66, .mv (.t 9), some (65, true)⟩, ⟨some 67, .bin .eql (.t 66) (.k (.int .i64 0)), some (65, true)⟩, ⟨some 68, .pick (.t 65) (.t 67) (.k (.bool false)), none⟩, ⟨some 69, .mv (.t 68), none⟩, ⟨some 70, .mv (.t 11), some (69, true)⟩, ⟨some 71, .bin .eql (.t 70) (.k (.int .i64 22)), some (69, true)⟩, ⟨some 72, .pick (.t 69) (.t 71) (.k (.bool false)), none⟩, ⟨some 73, .mv (.t 72), none⟩, ⟨some 74, .mv (.t 13), some (73, true)⟩, ⟨some 75, .bin .eql (.t 74) (.k (.int .i64 22)), some (73, true)⟩, ⟨some 76, .pick (.t 73) (.t 75) (.k (.bool false)), none⟩, ⟨some 0, .mv (.t 76), none⟩] false) .ret))))))))⟩
theorem tr27 : trProg Try.prog 27 = some af27 := by kernel_rfl
def af29 : AF := ⟨7, [.t 0], .seq (.region [⟨some 0, .mv (.k .nilp), none⟩] false) (.seq (.draw 5 [⟨0, ⟨some 1, .mkChan 8, none⟩, [], some 0, []⟩, ⟨1, ⟨some 2, .mkChan 16, none⟩, [], some 1, []⟩, ⟨2, ⟨some 3, .mkMap, none⟩, [], some 2, []⟩, ⟨3, ⟨some 4, .mkMap, none⟩, [], some 3, []⟩, ⟨4, ⟨some 5, .build [.nilc, .nilc, .nilm, .nilm, .int .i64 0, .bool false] [(0, (1, .t 1)), (1, (1, .t 2)), (2, (1, .t 3)), (3, (1, .t 4))], none⟩, [3, 2, 1, 0], none, []⟩, ⟨5, ⟨some 6, .box 136 (.t 5), none⟩, [3, 2, 1, 0], some 4, []⟩, ⟨6, ⟨some 0, .mv (.t 6), none⟩, [4, 3, 2, 1, 0], none, []⟩]) .ret)⟩
theorem tr29 : trProg Try.prog 29 = some af29 := by kernel_rfl
def af30 : AF := ⟨38, [.t 4, .t 5], .seq (.region [⟨some 3, .box 23 (.t 1), none⟩, ⟨some 4, .mv (.k (.int .i64 0)), none⟩, ⟨some 5, .mv (.k (.int .i64 0)), none⟩] false) (.seq (.seq (.region [⟨some 6, .mv (.t 0), none⟩, ⟨some 7, .eqf false false [(1, .p)] (.t 6) (.k .nilp), none⟩] false) (.cond (.t 7) (.seq (.region [⟨some 4, .mv (.k (.int .i64 0)), none⟩, ⟨some 5, .mv (.k (.int .i64 11)), none⟩] false) .ret) .skip)) (.seq (.region [⟨some 8, .mv (.t 0), none⟩, ⟨some 9, .nck (.t 8), none⟩, ⟨some 10, .faddr 4 (.t 9), none⟩, ⟨some 11, .load none (.t 10), none⟩, ⟨some 12, .bin .add (.t 11) (.k (.int .i64 1)), none⟩, ⟨some 13, .faddr 0 (.t 3), none⟩, ⟨none, .store 1 (.t 13) (.t 12), none⟩] false) (.seq (.seq (.region [⟨some 14, .load (some 8) (.t 3), none⟩, ⟨some 15, .call 14 [.t 14], none⟩, ⟨some 16, .un .not (.t 15), none⟩] false) (.cond (.t 16) (.seq (.region [⟨some 4, .mv (.k (.int .i64 0)), none⟩, ⟨some 5, .mv (.k (.int .i64 22)), none⟩] false) .ret) .skip)) (.seq (.seq (.region [⟨some 17, .mv (.t 0), none⟩, ⟨some 18, .nck (.t 17), none⟩, ⟨some 19, .faddr 0 (.t 18), none⟩, ⟨some 20, .load none (.t 19), none⟩] false) (.region [⟨some 21, .load (some 8) (.t 3), none⟩] false)) (.seq (.sel (some 22) (some (.t 21)) (.t 20) (.agg [.int .i64 0, .int .i64 0, .int .i64 0, .int .i64 0, .int .i64 0, .int .i64 0, .str [], .str []]) [⟨some 23, .extract (.t 22) 0, none⟩, ⟨some 24, .bin .eql (.t 23) (.k (.int .i64 0)), none⟩]) (.block 0 (.cond (.t 24) (.seq (.region [⟨some 25, .mv (.t 0), none⟩, ⟨some 26, .faddr 0 (.t 3), none⟩, ⟨some 27, .load none (.t 26), none⟩, ⟨some 28, .nck (.t 25), none⟩, ⟨some 29, .faddr 4 (.t 28), none⟩, ⟨none, .store 1 (.t 29) (.t 27), none⟩] false) (.seq (.draw 0 [⟨0, ⟨some 30, .mv (.t 0), none⟩, [], none, []⟩, ⟨1, ⟨some 31, .nck (.t 30), none⟩, [], none, []⟩, ⟨2, ⟨some 32, .faddr 3 (.t 31), none⟩, [], none, []⟩, ⟨3, ⟨some 33, .load none (.t 32), none⟩, [], none, []⟩, ⟨4, ⟨some 34, .faddr 0 (.t 3), none⟩, [], none, []⟩, ⟨5, ⟨some 35, .load none (.t 34), none⟩, [], none, []⟩, ⟨6, ⟨none, .mapSet .i (.t 33) (.t 35) (.k (.bool true)), none⟩, [], none, []⟩]) (.seq (.region [⟨some 36, .faddr 0 (.t 3), none⟩, ⟨some 37, .load none (.t 36), none⟩, ⟨some 4, .mv (.t 37), none⟩, ⟨some 5, .mv (.k (.int .i64 0)), none⟩] false) .ret))) (.seq (.region [⟨some 4, .mv (.k (.int .i64 0)), none⟩, ⟨some 5, .mv (.k (.int .i64 11)), none⟩] false) .ret))))))))⟩
theorem tr30 : trProg Try.prog 30 = some af30 := by kernel_rfl
def af31 : AF := ⟨39, [.c 2 (some 8), .t 3], .seq (.region [⟨some 2, .alloc 23 [.int .i64 0, .int .i64 0, .int .i64 0, .int .i64 0, .int .i64 0, .int .i64 0, .str [], .str []], none⟩, ⟨some 3, .mv (.k (.bool false)), none⟩] false) (.seq (.seq (.region [⟨some 6, .mv (.t 0), none⟩, ⟨some 7, .eqf false false [(1, .p)] (.t 6) (.k .nilp), none⟩] false) (.cond (.t 7) (.seq (.region [⟨some 8, .build [.int .i64 0, .int .i64 0, .int .i64 0, .int .i64 0, .int .i64 0, .int .i64 0, .str [], .str []] [], none⟩, ⟨none, .store 8 (.t 2) (.t 8), none⟩, ⟨some 3, .mv (.k (.bool false)), none⟩] false) .ret) .skip)) (.block 0 (.loop (.block 1 (.seq (.region [⟨some 10, .mv (.t 0), none⟩, ⟨some 11, .call 72 [.t 10], none⟩, ⟨some 9, .mv (.t 11), none⟩, ⟨some 12, .extract (.t 9) 0, none⟩, ⟨some 13, .extract (.t 9) 1, none⟩, ⟨some 4, .alloc 23 [.int .i64 0, .int .i64 0, .int .i64 0, .int .i64 0, .int .i64 0, .int .i64 0, .str [], .str []], none⟩, ⟨none, .store 8 (.t 4) (.t 12), none⟩, ⟨some 5, .mv (.t 13), none⟩] false) (.seq (.seq (.region [⟨some 14, .mv (.t 5), none⟩, ⟨some 15, .un .not (.t 14), none⟩] false) (.cond (.t 15) (.seq (.region [⟨some 16, .load (some 8) (.t 4), none⟩, ⟨none, .store 8 (.t 2) (.t 16), none⟩, ⟨some 3, .mv (.k (.bool false)), none⟩] false) .ret) .skip)) (.seq (.draw 0 [⟨0, ⟨some 17, .mv (.t 0), none⟩, [], none, []⟩, ⟨1, ⟨some 18, .nck (.t 17), none⟩, [], none, []⟩, ⟨2, ⟨some 19, .faddr 3 (.t 18), none⟩, [], none, []⟩, ⟨3, ⟨some 20, .load none (.t 19), none⟩, [], none, []⟩, ⟨4, ⟨some 21, .faddr 0 (.t 4), none⟩, [], none, []⟩, ⟨5, ⟨some 22, .load none (.t 21), none⟩, [], none, []⟩, ⟨6, ⟨some 23, .lookup .i (.bool false) false (.t 20) (.t 22), none⟩, [], none, []⟩]) (.cond (.t 23) (.seq (.draw 0 [⟨0, ⟨some 24, .mv (.t 0), none⟩, [], none, []⟩, ⟨1, ⟨some 25, .nck (.t 24), none⟩, [], none, []⟩, ⟨2, ⟨some 26, .faddr 3 (.t 25), none⟩, [], none, []⟩, ⟨3, ⟨some 27, .load none (.t 26), none⟩, [], none, []⟩, ⟨4, ⟨some 28, .faddr 0 (.t 4), none⟩, [], none, []⟩, ⟨5, ⟨some 29, .load none (.t 28), none⟩, [], none, []⟩, ⟨6, ⟨none, .mapDel .i (.t 27) (.t 29), none⟩, [], none, []⟩]) (.seq (.draw 0 [⟨0, ⟨some 30, .mv (.t 0), none⟩, [], none, []⟩, ⟨1, ⟨some 31, .nck (.t 30), none⟩, [], none, []⟩, ⟨2, ⟨some 32, .faddr 2 (.t 31), none⟩, [], none, []⟩, ⟨3, ⟨some 33, .load none (.t 32), none⟩, [], none, []⟩, ⟨4, ⟨some 34, .faddr 0 (.t 4), none⟩, [], none, []⟩, ⟨5, ⟨some 35, .load none (.t 34), none⟩, [], none, []⟩, ⟨6, ⟨some 36, .faddr 1 (.t 4), none⟩, [], none, []⟩, ⟨7, ⟨some 37, .load none (.t 36), none⟩, [], none, []⟩, ⟨8, ⟨none, .mapSet .i (.t 33) (.t 35) (.t 37), none⟩, [], none, []⟩]) (.seq (.region [⟨some 38, .load (some 8) (.t 4), none⟩, ⟨none, .store 8 (.t 2) (.t 38), none⟩, ⟨some 3, .mv (.k (.bool true)), none⟩] false) .ret))) .skip))))))))⟩
theorem tr31 : trProg Try.prog 31 = some af31 := by kernel_rfl
def af32 : AF := ⟨27, [.t 4, .t 5], .seq (.region [⟨some 4, .mv (.k (.int .i64 0)), none⟩, ⟨some 5, .mv (.k (.int .i64 0)), none⟩] false) (.seq (.seq (.region [⟨some 8, .mv (.t 0), none⟩, ⟨some 9, .eqf false false [(1, .p)] (.t 8) (.k .nilp), none⟩] false) (.cond (.t 9) (.seq (.region [⟨some 4, .mv (.k (.int .i64 0)), none⟩, ⟨some 5, .mv (.k (.int .i64 22)), none⟩] false) .ret) .skip)) (.seq (.region [⟨some 11, .mv (.t 0), none⟩, ⟨some 12, .nck (.t 11), none⟩, ⟨some 13, .faddr 2 (.t 12), none⟩, ⟨some 14, .load none (.t 13), none⟩, ⟨some 15, .mv (.t 1), none⟩, ⟨some 16, .lookup .i (.int .i64 0) true (.t 14) (.t 15), none⟩, ⟨some 10, .mv (.t 16), none⟩, ⟨some 17, .extract (.t 10) 0, none⟩, ⟨some 18, .extract (.t 10) 1, none⟩, ⟨some 6, .mv (.t 17), none⟩, ⟨some 7, .mv (.t 18), none⟩] false) (.seq (.seq (.region [⟨some 19, .mv (.t 7), none⟩, ⟨some 20, .un .not (.t 19), none⟩] false) (.cond (.t 20) (.seq (.region [⟨some 4, .mv (.k (.int .i64 0)), none⟩, ⟨some 5, .mv (.k (.int .i64 22)), none⟩] false) .ret) .skip)) (.seq (.region [⟨some 21, .mv (.t 0), none⟩, ⟨some 22, .nck (.t 21), none⟩, ⟨some 23, .faddr 2 (.t 22), none⟩, ⟨some 24, .load none (.t 23), none⟩, ⟨some 25, .mv (.t 1), none⟩, ⟨none, .mapDel .i (.t 24) (.t 25), none⟩] false) (.seq (.region [⟨some 26, .mv (.t 6), none⟩, ⟨some 4, .mv (.t 26), none⟩, ⟨some 5, .mv (.k (.int .i64 0)), none⟩] false) .ret)))))⟩
theorem tr32 : trProg Try.prog 32 = some af32 := by kernel_rfl
def af33 : AF := ⟨39, [.t 4], .seq (.region [⟨some 4, .mv (.k (.int .i64 0)), none⟩] false) (.seq (.seq (.region [⟨some 7, .mv (.t 0), none⟩, ⟨some 8, .eqf false false [(1, .p)] (.t 7) (.k .nilp), none⟩] false) (.cond (.t 8) (.seq (.region [⟨some 4, .mv (.k (.int .i64 22)), none⟩] false) .ret) .skip)) (.seq (.region [⟨some 10, .mv (.t 0), none⟩, ⟨some 11, .nck (.t 10), none⟩, ⟨some 12, .faddr 2 (.t 11), none⟩, ⟨some 13, .load none (.t 12), none⟩, ⟨some 14, .mv (.t 1), none⟩, ⟨some 15, .lookup .i (.int .i64 0) true (.t 13) (.t 14), none⟩, ⟨some 9, .mv (.t 15), none⟩, ⟨some 16, .extract (.t 9) 0, none⟩, ⟨some 17, .extract (.t 9) 1, none⟩, ⟨some 5, .mv (.t 16), none⟩, ⟨some 6, .mv (.t 17), none⟩] false) (.seq (.seq (.region [⟨some 18, .mv (.t 6), none⟩, ⟨some 19, .un .not (.t 18), none⟩, ⟨some 20, .mv (.t 19), none⟩, ⟨some 21, .mv (.t 0), some (20, true)⟩, ⟨some 22, .nck (.t 21), some (20, true)⟩, ⟨some 23, .faddr 3 (.t 22), some (20, true)⟩, ⟨some 24, .load none (.t 23), some (20, true)⟩, ⟨some 25, .mv (.t 1), some (20, true)⟩, ⟨some 26, .lookup .i (.bool false) false (.t 24) (.t 25), some (20, true)⟩, ⟨some 27, .un .not (.t 26), some (20, true)⟩, ⟨some 28, .pick (.t 20) (.t 27) (.k (.bool false)), none⟩] false) (.cond (.t 28) (.seq (.region [⟨some 4, .mv (.k (.int .i64 22)), none⟩] false) .ret) .skip)) (.seq (.region [⟨some 29, .mv (.t 0), none⟩, ⟨some 30, .nck (.t 29), none⟩, ⟨some 31, .faddr 2 (.t 30), none⟩, ⟨some 32, .load none (.t 31), none⟩, ⟨some 33, .mv (.t 1), none⟩, ⟨none, .mapDel .i (.t 32) (.t 33), none⟩] false) (.seq (.region [⟨some 34, .mv (.t 0), none⟩, ⟨some 35, .nck (.t 34), none⟩, ⟨some 36, .faddr 3 (.t 35), none⟩, ⟨some 37, .load none (.t 36), none⟩, ⟨some 38, .mv (.t 1), none⟩, ⟨none, .mapDel .i (.t 37) (.t 38), none⟩] false) (.seq (.region [⟨some 4, .mv (.k (.int .i64 0)), none⟩] false) .ret))))))⟩
theorem tr33 : trProg Try.prog 33 = some af33 := by kernel_rfl
def af34 : AF := ⟨34, [.t 4], .seq (.region [⟨some 4, .mv (.k (.int .i64 0)), none⟩] false) (.seq (.seq (.region [⟨some 8, .mv (.t 0), none⟩, ⟨some 9, .eqf false false [(1, .p)] (.t 8) (.k .nilp), none⟩] false) (.cond (.t 9) (.seq (.region [⟨some 4, .mv (.k (.int .i64 0)), none⟩] false) .ret) .skip)) (.seq (.region [⟨some 5, .mv (.k (.int .i64 0)), none⟩] false) (.seq (.seq (.region [⟨some 10, .mv (.t 1), none⟩, ⟨some 11, .lenL (.t 10), none⟩, ⟨some 12, .mv (.k (.int .i64 0)), none⟩] false) (.block 0 (.loop (.seq (.region [⟨some 13, .bin .lss (.t 12) (.t 11), none⟩] false) (.seq (.cond (.t 13) .skip (.exit 0)) (.seq (.block 1 (.seq (.region [⟨some 14, .iaddrS 3 (.t 10) (.t 12), none⟩, ⟨some 15, .load (some 3) (.t 14), none⟩, ⟨some 7, .alloc 39 [.int .i64 0, .int .i64 0, .str []], none⟩, ⟨none, .store 3 (.t 7) (.t 15), none⟩] false) (.seq (.seq (.region [⟨some 16, .load (some 3) (.t 7), none⟩, ⟨some 17, .call 20 [.t 16], none⟩, ⟨some 18, .un .not (.t 17), none⟩] false) (.cond (.t 18) (.exit 1) .skip)) (.seq (.seq (.region [⟨some 19, .mv (.t 0), none⟩, ⟨some 20, .nck (.t 19), none⟩, ⟨some 21, .faddr 1 (.t 20), none⟩, ⟨some 22, .load none (.t 21), none⟩] false) (.region [⟨some 23, .load (some 3) (.t 7), none⟩] false)) (.seq (.sel (some 24) (some (.t 23)) (.t 22) (.agg [.int .i64 0, .int .i64 0, .str []]) [⟨some 25, .extract (.t 24) 0, none⟩, ⟨some 26, .bin .eql (.t 25) (.k (.int .i64 0)), none⟩]) (.block 2 (.cond (.t 26) (.region [⟨some 30, .mv (.t 5), none⟩, ⟨some 31, .bin .add (.t 30) (.k (.int .i64 1)), none⟩, ⟨some 5, .mv (.t 31), none⟩] false) (.region [⟨some 27, .mv (.t 0), none⟩, ⟨some 28, .nck (.t 27), none⟩, ⟨some 29, .faddr 5 (.t 28), none⟩, ⟨none, .store 1 (.t 29) (.k (.bool true)), none⟩] false)))))))) (.region [⟨some 32, .bin .add (.t 12) (.k (.int .i64 1)), none⟩, ⟨some 12, .mv (.t 32), none⟩] false))))))) (.seq (.region [⟨some 33, .mv (.t 5), none⟩, ⟨some 4, .mv (.t 33), none⟩] false) .ret))))⟩
theorem tr34 : trProg Try.prog 34 = some af34 := by kernel_rfl
def af35 : AF := ⟨10, [.t 2], .seq (.region [⟨some 2, .mv (.k (.int .i64 0)), none⟩] false) (.seq (.seq (.region [⟨some 3, .mv (.t 0), none⟩, ⟨some 4, .eqf false false [(1, .p)] (.t 3) (.k .nilp), none⟩] false) (.cond (.t 4) (.seq (.region [⟨some 2, .mv (.k (.int .i64 0)), none⟩] false) .ret) .skip)) (.seq (.region [⟨some 5, .mv (.t 0), none⟩, ⟨some 6, .nck (.t 5), none⟩, ⟨some 7, .faddr 0 (.t 6), none⟩, ⟨some 8, .load none (.t 7), none⟩, ⟨some 9, .lenC (.t 8), none⟩, ⟨some 2, .mv (.t 9), none⟩] false) .ret))⟩
theorem tr35 : trProg Try.prog 35 = some af35 := by kernel_rfl
def af36 : AF := ⟨10, [.t 2], .seq (.region [⟨some 2, .mv (.k (.int .i64 0)), none⟩] false) (.seq (.seq (.region [⟨some 3, .mv (.t 0), none⟩, ⟨some 4, .eqf false false [(1, .p)] (.t 3) (.k .nilp), none⟩] false) (.cond (.t 4) (.seq (.region [⟨some 2, .mv (.k (.int .i64 0)), none⟩] false) .ret) .skip)) (.seq (.region [⟨some 5, .mv (.t 0), none⟩, ⟨some 6, .nck (.t 5), none⟩, ⟨some 7, .faddr 1 (.t 6), none⟩, ⟨some 8, .load none (.t 7), none⟩, ⟨some 9, .lenC (.t 8), none⟩, ⟨some 2, .mv (.t 9), none⟩] false) .ret))⟩
theorem tr36 : trProg Try.prog 36 = some af36 := by kernel_rfl
def af37 : AF := ⟨10, [.t 2], .seq (.region [⟨some 2, .mv (.k (.int .i64 0)), none⟩] false) (.seq (.seq (.region [⟨some 3, .mv (.t 0), none⟩, ⟨some 4, .eqf false false [(1, .p)] (.t 3) (.k .nilp), none⟩] false) (.cond (.t 4) (.seq (.region [⟨some 2, .mv (.k (.int .i64 0)), none⟩] false) .ret) .skip)) (.seq (.region [⟨some 5, .mv (.t 0), none⟩, ⟨some 6, .nck (.t 5), none⟩, ⟨some 7, .faddr 2 (.t 6), none⟩, ⟨some 8, .load none (.t 7), none⟩, ⟨some 9, .lenM (.t 8), none⟩, ⟨some 2, .mv (.t 9), none⟩] false) .ret))⟩
theorem tr37 : trProg Try.prog 37 = some af37 := by kernel_rfl
def af38 : AF := ⟨14, [.t 2], .seq (.region [⟨some 2, .mv (.k (.bool false)), none⟩] false) (.seq (.seq (.region [⟨some 4, .mv (.t 0), none⟩, ⟨some 5, .eqf false false [(1, .p)] (.t 4) (.k .nilp), none⟩] false) (.cond (.t 5) (.seq (.region [⟨some 2, .mv (.k (.bool false)), none⟩] false) .ret) .skip)) (.seq (.region [⟨some 6, .mv (.t 0), none⟩, ⟨some 7, .nck (.t 6), none⟩, ⟨some 8, .faddr 5 (.t 7), none⟩, ⟨some 9, .load none (.t 8), none⟩, ⟨some 3, .mv (.t 9), none⟩] false) (.seq (.region [⟨some 10, .mv (.t 0), none⟩, ⟨some 11, .nck (.t 10), none⟩, ⟨some 12, .faddr 5 (.t 11), none⟩, ⟨none, .store 1 (.t 12) (.k (.bool false)), none⟩] false) (.seq (.region [⟨some 13, .mv (.t 3), none⟩, ⟨some 2, .mv (.t 13), none⟩] false) .ret))))⟩
theorem tr38 : trProg Try.prog 38 = some af38 := by kernel_rfl
def af39 : AF := ⟨24, [.t 4], .seq (.region [⟨some 4, .mv (.k .nils), none⟩] false) (.seq (.region [⟨some 5, .mv (.k .nils), none⟩] false) (.seq (.block 0 (.loop (.seq (.seq (.region [⟨some 8, .mv (.t 5), none⟩, ⟨some 9, .lenL (.t 8), none⟩, ⟨some 10, .mv (.t 1), none⟩, ⟨some 11, .bin .lss (.t 9) (.t 10), none⟩] false) (.cond (.t 11) .skip (.exit 0))) (.block 1 (.seq (.region [⟨some 13, .mv (.t 0), none⟩, ⟨some 14, .call 46 [.t 13], none⟩, ⟨some 12, .mv (.t 14), none⟩, ⟨some 15, .extract (.t 12) 0, none⟩, ⟨some 16, .extract (.t 12) 1, none⟩, ⟨some 6, .alloc 39 [.int .i64 0, .int .i64 0, .str []], none⟩, ⟨none, .store 3 (.t 6) (.t 15), none⟩, ⟨some 7, .mv (.t 16), none⟩] false) (.seq (.seq (.region [⟨some 17, .mv (.t 7), none⟩, ⟨some 18, .un .not (.t 17), none⟩] false) (.cond (.t 18) (.exit 0) .skip)) (.region [⟨some 19, .mv (.t 5), none⟩, ⟨some 20, .load (some 3) (.t 6), none⟩, ⟨some 21, .bslice 39 3 [.int .i64 0, .int .i64 0, .str []] [(0, (3, .t 20))], none⟩, ⟨some 22, .app 39 3 32 [.int .i64 0, .int .i64 0, .str []] (.t 19) (.t 21), none⟩, ⟨some 5, .mv (.t 22), none⟩] false))))))) (.seq (.region [⟨some 23, .mv (.t 5), none⟩, ⟨some 4, .mv (.t 23), none⟩] false) .ret)))⟩
theorem tr39 : trProg Try.prog 39 = some af39 := by kernel_rfl
def af46 : AF := ⟨18, [.c 2 (some 3), .t 3], .seq (.region [⟨some 2, .alloc 39 [.int .i64 0, .int .i64 0, .str []], none⟩, ⟨some 3, .mv (.k (.bool false)), none⟩] false) (.seq (.seq (.region [⟨some 5, .mv (.t 0), none⟩, ⟨some 6, .eqf false false [(1, .p)] (.t 5) (.k .nilp), none⟩] false) (.cond (.t 6) (.seq (.region [⟨some 7, .build [.int .i64 0, .int .i64 0, .str []] [], none⟩, ⟨none, .store 3 (.t 2) (.t 7), none⟩, ⟨some 3, .mv (.k (.bool false)), none⟩] false) .ret) .skip)) (.seq (.region [⟨some 8, .mv (.t 0), none⟩, ⟨some 9, .nck (.t 8), none⟩, ⟨some 10, .faddr 1 (.t 9), none⟩, ⟨some 11, .load none (.t 10), none⟩] false) (.seq (.sel (some 12) none (.t 11) (.agg [.int .i64 0, .int .i64 0, .str []]) [⟨some 13, .extract (.t 12) 0, none⟩, ⟨some 14, .bin .eql (.t 13) (.k (.int .i64 0)), none⟩]) (.block 0 (.cond (.t 14) (.seq (.region [⟨some 16, .extract (.t 12) 2, none⟩, ⟨some 4, .alloc 39 [.int .i64 0, .int .i64 0, .str []], none⟩, ⟨none, .store 3 (.t 4) (.t 16), none⟩] false) (.seq (.region [⟨some 17, .load (some 3) (.t 4), none⟩, ⟨none, .store 3 (.t 2) (.t 17), none⟩, ⟨some 3, .mv (.k (.bool true)), none⟩] false) .ret)) (.seq (.region [⟨some 15, .build [.int .i64 0, .int .i64 0, .str []] [], none⟩, ⟨none, .store 3 (.t 2) (.t 15), none⟩, ⟨some 3, .mv (.k (.bool false)), none⟩] false) .ret))))))⟩
theorem tr46 : trProg Try.prog 46 = some af46 := by kernel_rfl
def af50 : AF := ⟨22, [], .seq (.region [⟨some 7, .mv (.t 2), none⟩, ⟨some 8, .bin .sub (.t 7) (.k (.int .i64 1)), none⟩, ⟨some 6, .mv (.t 8), none⟩] false) (.block 0 (.loop (.seq (.seq (.region [⟨some 9, .mv (.t 6), none⟩, ⟨some 10, .bin .geq (.t 9) (.k (.int .i64 0)), none⟩] false) (.cond (.t 10) .skip (.exit 0))) (.seq (.block 1 (.draw 0 [⟨0, ⟨some 13, .mv (.t 0), none⟩, [], none, []⟩, ⟨1, ⟨some 14, .nck (.t 13), none⟩, [], none, []⟩, ⟨2, ⟨some 15, .faddr 0 (.t 14), none⟩, [], none, []⟩, ⟨3, ⟨some 16, .mv (.t 1), none⟩, [], none, []⟩, ⟨4, ⟨some 17, .mv (.t 6), none⟩, [], none, []⟩, ⟨5, ⟨some 18, .bin .mul (.k (.int .i64 8)) (.t 17), none⟩, [], none, []⟩, ⟨6, ⟨some 19, .bin .shr (.t 16) (.t 18), none⟩, [], none, []⟩, ⟨7, ⟨some 20, .toInt .u8 (.t 19), none⟩, [], none, []⟩, ⟨8, ⟨some 21, .call 74 [.t 15, .t 20], none⟩, [], none, []⟩])) (.region [⟨some 11, .mv (.t 6), none⟩, ⟨some 12, .bin .sub (.t 11) (.k (.int .i64 1)), none⟩, ⟨some 6, .mv (.t 12), none⟩] false)))))⟩
theorem tr50 : trProg Try.prog 50 = some af50 := by kernel_rfl
def af51 : AF := ⟨16, [], .seq (.region [⟨some 6, .mv (.t 1), none⟩, ⟨some 7, .lenL (.t 6), none⟩, ⟨some 8, .mv (.k (.int .i64 0)), none⟩] false) (.block 0 (.loop (.seq (.region [⟨some 9, .bin .lss (.t 8) (.t 7), none⟩] false) (.seq (.cond (.t 9) .skip (.exit 0)) (.seq (.block 1 (.seq (.region [⟨some 10, .iaddrS 1 (.t 6) (.t 8), none⟩, ⟨some 11, .load none (.t 10), none⟩, ⟨some 5, .mv (.t 11), none⟩] false) (.region [⟨some 12, .mv (.t 0), none⟩, ⟨some 13, .mv (.t 5), none⟩, ⟨some 14, .call 50 [.t 12, .t 13, .k (.int .i64 4)], none⟩] false))) (.region [⟨some 15, .bin .add (.t 8) (.k (.int .i64 1)), none⟩, ⟨some 8, .mv (.t 15), none⟩] false))))))⟩
theorem tr51 : trProg Try.prog 51 = some af51 := by kernel_rfl
def af52 : AF := ⟨13, [], .seq (.region [⟨some 4, .mv (.t 0), none⟩, ⟨some 5, .mv (.t 1), none⟩, ⟨some 6, .lenS (.t 5), none⟩, ⟨some 7, .call 50 [.t 4, .t 6, .k (.int .i64 2)], none⟩] false) (.region [⟨some 8, .mv (.t 0), none⟩, ⟨some 9, .nck (.t 8), none⟩, ⟨some 10, .faddr 0 (.t 9), none⟩, ⟨some 11, .mv (.t 1), none⟩, ⟨some 12, .call 75 [.t 10, .t 11], none⟩] false)⟩
theorem tr52 : trProg Try.prog 52 = some af52 := by kernel_rfl
def af53 : AF := ⟨14, [.t 2], .seq (.region [⟨some 2, .mv (.k (.str [])), none⟩] false) (.seq (.draw 0 [⟨0, ⟨some 3, .mv (.t 0), none⟩, [], none, []⟩, ⟨1, ⟨some 4, .nck (.t 3), none⟩, [], none, []⟩, ⟨2, ⟨some 5, .faddr 1 (.t 4), none⟩, [], none, []⟩, ⟨3, ⟨some 6, .load none (.t 5), none⟩, [], none, []⟩, ⟨4, ⟨some 7, .sdata (.t 6), none⟩, [], none, []⟩, ⟨5, ⟨some 8, .mv (.t 0), none⟩, [], none, []⟩, ⟨6, ⟨some 9, .nck (.t 8), none⟩, [], none, []⟩, ⟨7, ⟨some 10, .faddr 1 (.t 9), none⟩, [], none, []⟩, ⟨8, ⟨some 11, .load none (.t 10), none⟩, [], none, []⟩, ⟨9, ⟨some 12, .lenL (.t 11), none⟩, [], none, []⟩, ⟨10, ⟨some 13, .ustr 5 (.t 7) (.t 12), none⟩, [], none, []⟩, ⟨11, ⟨some 2, .mv (.t 13), none⟩, [], none, []⟩]) .ret)⟩
theorem tr53 : trProg Try.prog 53 = some af53 := by kernel_rfl
def af54 : AF := ⟨97, [.c 2 (some 8), .t 3], .seq (.region [⟨some 1, .box 23 (.t 0), none⟩, ⟨some 2, .alloc 23 [.int .i64 0, .int .i64 0, .int .i64 0, .int .i64 0, .int .i64 0, .int .i64 0, .str [], .str []], none⟩, ⟨some 3, .mv (.k (.bool false)), none⟩] false) (.seq (.region [⟨some 5, .faddr 0 (.t 1), none⟩, ⟨some 6, .load none (.t 5), none⟩, ⟨some 7, .faddr 1 (.t 1), none⟩, ⟨some 8, .load none (.t 7), none⟩, ⟨some 9, .faddr 2 (.t 1), none⟩, ⟨some 10, .load none (.t 9), none⟩, ⟨some 11, .build [.int .i64 0, .int .i64 0, .int .i64 0, .int .i64 0, .int .i64 0, .int .i64 0, .str [], .str []] [(0, (1, .t 6)), (1, (1, .t 8)), (2, (1, .t 10))], none⟩, ⟨some 4, .alloc 23 [.int .i64 0, .int .i64 0, .int .i64 0, .int .i64 0, .int .i64 0, .int .i64 0, .str [], .str []], none⟩, ⟨none, .store 8 (.t 4) (.t 11), none⟩] false) (.seq (.seq (.region [⟨some 12, .faddr 1 (.t 1), none⟩, ⟨some 13, .load none (.t 12), none⟩] false) (.block 0 (.seq (.seq (.region [⟨some 16, .bin .eql (.t 13) (.k (.int .i64 1)), none⟩, ⟨some 15, .mv (.t 16), none⟩] false) (.cond (.t 15) .skip (.seq (.region [⟨some 17, .bin .eql (.t 13) (.k (.int .i64 11)), none⟩, ⟨some 15, .mv (.t 17), none⟩] false) (.cond (.t 15) .skip (.region [⟨some 18, .bin .eql (.t 13) (.k (.int .i64 12)), none⟩, ⟨some 15, .mv (.t 18), none⟩] false))))) (.cond (.t 15) (.region [⟨some 19, .faddr 6 (.t 1), none⟩, ⟨some 20, .load none (.t 19), none⟩, ⟨some 21, .faddr 6 (.t 4), none⟩, ⟨none, .store 1 (.t 21) (.t 20), none⟩] false) (.seq (.seq (.region [⟨some 23, .bin .eql (.t 13) (.k (.int .i64 2)), none⟩, ⟨some 22, .mv (.t 23), none⟩] false) (.cond (.t 22) .skip (.seq (.region [⟨some 24, .bin .eql (.t 13) (.k (.int .i64 9)), none⟩, ⟨some 22, .mv (.t 24), none⟩] false) (.cond (.t 22) .skip (.seq (.region [⟨some 25, .bin .eql (.t 13) (.k (.int .i64 16)), none⟩, ⟨some 22, .mv (.t 25), none⟩] false) (.cond (.t 22) .skip (.seq (.region [⟨some 26, .bin .eql (.t 13) (.k (.int .i64 17)), none⟩, ⟨some 22, .mv (.t 26), none⟩] false) (.cond (.t 22) .skip (.region [⟨some 27, .bin .eql (.t 13) (.k (.int .i64 18)), none⟩, ⟨some 22, .mv (.t 27), none⟩] false))))))))) (.cond (.t 22) .skip (.seq (.seq (.region [⟨some 29, .bin .eql (.t 13) (.k (.int .i64 3)), none⟩, ⟨some 28, .mv (.t 29), none⟩] false) (.cond (.t 28) .skip (.seq (.region [⟨some 30, .bin .eql (.t 13) (.k (.int .i64 4)), none⟩, ⟨some 28, .mv (.t 30), none⟩] false) (.cond (.t 28) .skip (.region [⟨some 31, .bin .eql (.t 13) (.k (.int .i64 5)), none⟩, ⟨some 28, .mv (.t 31), none⟩] false))))) (.cond (.t 28) (.region [⟨some 32, .faddr 4 (.t 1), none⟩, ⟨some 33, .load none (.t 32), none⟩, ⟨some 34, .faddr 4 (.t 4), none⟩, ⟨none, .store 1 (.t 34) (.t 33), none⟩] false) (.seq (.seq (.region [⟨some 36, .bin .eql (.t 13) (.k (.int .i64 6)), none⟩, ⟨some 35, .mv (.t 36), none⟩] false) (.cond (.t 35) .skip (.region [⟨some 37, .bin .eql (.t 13) (.k (.int .i64 7)), none⟩, ⟨some 35, .mv (.t 37), none⟩] false))) (.cond (.t 35) (.draw 0 [⟨0, ⟨some 38, .faddr 6 (.t 1), none⟩, [], none, []⟩, ⟨1, ⟨some 39, .load none (.t 38), none⟩, [], none, []⟩, ⟨2, ⟨some 40, .faddr 4 (.t 1), none⟩, [], none, []⟩, ⟨3, ⟨some 41, .load none (.t 40), none⟩, [], none, []⟩, ⟨4, ⟨some 42, .faddr 5 (.t 1), none⟩, [], none, []⟩, ⟨5, ⟨some 43, .load none (.t 42), none⟩, [], none, []⟩, ⟨6, ⟨some 44, .faddr 6 (.t 4), none⟩, [], none, []⟩, ⟨7, ⟨none, .store 1 (.t 44) (.t 39), none⟩, [], none, [⟨some 43, .load none (.t 42), none⟩, ⟨some 41, .load none (.t 40), none⟩]⟩, ⟨8, ⟨some 45, .faddr 4 (.t 4), none⟩, [], none, []⟩, ⟨9, ⟨none, .store 1 (.t 45) (.t 41), none⟩, [], none, [⟨some 43, .load none (.t 42), none⟩]⟩, ⟨10, ⟨some 46, .faddr 5 (.t 4), none⟩, [], none, []⟩, ⟨11, ⟨none, .store 1 (.t 46) (.t 43), none⟩, [], none, []⟩]) (.seq (.region [⟨some 48, .bin .eql (.t 13) (.k (.int .i64 8)), none⟩, ⟨some 47, .mv (.t 48), none⟩] false) (.cond (.t 47) (.draw 0 [⟨0, ⟨some 49, .faddr 6 (.t 1), none⟩, [], none, []⟩, ⟨1, ⟨some 50, .load none (.t 49), none⟩, [], none, []⟩, ⟨2, ⟨some 51, .faddr 7 (.t 1), none⟩, [], none, []⟩, ⟨3, ⟨some 52, .load none (.t 51), none⟩, [], none, []⟩, ⟨4, ⟨some 53, .faddr 5 (.t 1), none⟩, [], none, []⟩, ⟨5, ⟨some 54, .load none (.t 53), none⟩, [], none, []⟩, ⟨6, ⟨some 55, .faddr 6 (.t 4), none⟩, [], none, []⟩, ⟨7, ⟨none, .store 1 (.t 55) (.t 50), none⟩, [], none, [⟨some 54, .load none (.t 53), none⟩, ⟨some 52, .load none (.t 51), none⟩]⟩, ⟨8, ⟨some 56, .faddr 7 (.t 4), none⟩, [], none, []⟩, ⟨9, ⟨none, .store 1 (.t 56) (.t 52), none⟩, [], none, [⟨some 54, .load none (.t 53), none⟩]⟩, ⟨10, ⟨some 57, .faddr 5 (.t 4), none⟩, [], none, []⟩, ⟨11, ⟨none, .store 1 (.t 57) (.t 54), none⟩, [], none, []⟩]) (.seq (.region [⟨some 59, .bin .eql (.t 13) (.k (.int .i64 10)), none⟩, ⟨some 58, .mv (.t 59), none⟩] false) (.cond (.t 58) (.draw 0 [⟨0, ⟨some 60, .faddr 6 (.t 1), none⟩, [], none, []⟩, ⟨1, ⟨some 61, .load none (.t 60), none⟩, [], none, []⟩, ⟨2, ⟨some 62, .faddr 3 (.t 1), none⟩, [], none, []⟩, ⟨3, ⟨some 63, .load none (.t 62), none⟩, [], none, []⟩, ⟨4, ⟨some 64, .faddr 6 (.t 4), none⟩, [], none, []⟩, ⟨5, ⟨none, .store 1 (.t 64) (.t 61), none⟩, [], none, [⟨some 63, .load none (.t 62), none⟩]⟩, ⟨6, ⟨some 65, .faddr 3 (.t 4), none⟩, [], none, []⟩, ⟨7, ⟨none, .store 1 (.t 65) (.t 63), none⟩, [], none, []⟩]) (.seq (.region [⟨some 67, .bin .eql (.t 13) (.k (.int .i64 13)), none⟩, ⟨some 66, .mv (.t 67), none⟩] false) (.cond (.t 66) (.draw 0 [⟨0, ⟨some 68, .faddr 6 (.t 1), none⟩, [], none, []⟩, ⟨1, ⟨some 69, .load none (.t 68), none⟩, [], none, []⟩, ⟨2, ⟨some 70, .faddr 3 (.t 1), none⟩, [], none, []⟩, ⟨3, ⟨some 71, .load none (.t 70), none⟩, [], none, []⟩, ⟨4, ⟨some 72, .faddr 7 (.t 1), none⟩, [], none, []⟩, ⟨5, ⟨some 73, .load none (.t 72), none⟩, [], none, []⟩, ⟨6, ⟨some 74, .faddr 6 (.t 4), none⟩, [], none, []⟩, ⟨7, ⟨none, .store 1 (.t 74) (.t 69), none⟩, [], none, [⟨some 73, .load none (.t 72), none⟩, ⟨some 71, .load none (.t 70), none⟩]⟩, ⟨8, ⟨some 75, .faddr 3 (.t 4), none⟩, [], none, []⟩, ⟨9, ⟨none, .store 1 (.t 75) (.t 71), none⟩, [], none, [⟨some 73, .load none (.t 72), none⟩]⟩, ⟨10, ⟨some 76, .faddr 7 (.t 4), none⟩, [], none, []⟩, ⟨11, ⟨none, .store 1 (.t 76) (.t 73), none⟩, [], none, []⟩]) (.seq (.region [⟨some 78, .bin .eql (.t 13) (.k (.int .i64 14)), none⟩, ⟨some 77, .mv (.t 78), none⟩] false) (.cond (.t 77) (.draw 0 [⟨0, ⟨some 79, .faddr 4 (.t 1), none⟩, [], none, []⟩, ⟨1, ⟨some 80, .load none (.t 79), none⟩, [], none, []⟩, ⟨2, ⟨some 81, .faddr 5 (.t 1), none⟩, [], none, []⟩, ⟨3, ⟨some 82, .load none (.t 81), none⟩, [], none, []⟩, ⟨4, ⟨some 83, .faddr 4 (.t 4), none⟩, [], none, []⟩, ⟨5, ⟨none, .store 1 (.t 83) (.t 80), none⟩, [], none, [⟨some 82, .load none (.t 81), none⟩]⟩, ⟨6, ⟨some 84, .faddr 5 (.t 4), none⟩, [], none, []⟩, ⟨7, ⟨none, .store 1 (.t 84) (.t 82), none⟩, [], none, []⟩]) (.seq (.region [⟨some 86, .bin .eql (.t 13) (.k (.int .i64 15)), none⟩, ⟨some 85, .mv (.t 86), none⟩] false) (.cond (.t 85) (.draw 0 [⟨0, ⟨some 87, .faddr 4 (.t 1), none⟩, [], none, []⟩, ⟨1, ⟨some 88, .load none (.t 87), none⟩, [], none, []⟩, ⟨2, ⟨some 89, .faddr 7 (.t 1), none⟩, [], none, []⟩, ⟨3, ⟨some 90, .load none (.t 89), none⟩, [], none, []⟩, ⟨4, ⟨some 91, .faddr 4 (.t 4), none⟩, [], none, []⟩, ⟨5, ⟨none, .store 1 (.t 91) (.t 88), none⟩, [], none, [⟨some 90, .load none (.t 89), none⟩]⟩, ⟨6, ⟨some 92, .faddr 7 (.t 4), none⟩, [], none, []⟩, ⟨7, ⟨none, .store 1 (.t 92) (.t 90), none⟩, [], none, []⟩]) (.seq (.region [⟨some 94, .bin .eql (.t 13) (.k (.int .i64 19)), none⟩, ⟨some 93, .mv (.t 94), none⟩] false) (.cond (.t 93) (.region [⟨some 95, .faddr 2 (.t 4), none⟩, ⟨none, .store 1 (.t 95) (.k (.int .i64 0)), none⟩] false) (.seq (.region [⟨some 14, .load (some 8) (.t 4), none⟩, ⟨none, .store 8 (.t 2) (.t 14), none⟩, ⟨some 3, .mv (.k (.bool false)), none⟩] false) .ret))))))))))))))))))))))) (.seq (.region [⟨some 96, .load (some 8) (.t 4), none⟩, ⟨none, .store 8 (.t 2) (.t 96), none⟩, ⟨some 3, .mv (.k (.bool true)), none⟩] false) .ret)))⟩
theorem tr54 : trProg Try.prog 54 = some af54 := by kernel_rfl
def af55 : AF := ⟨6, [.t 2], .seq (.region [⟨some 2, .mv (.k (.bool false)), none⟩] false) (.seq (.region [⟨some 3, .mv (.t 0), none⟩, ⟨some 4, .call 76 [.t 3, .f 77], none⟩, ⟨some 5, .un .not (.t 4), none⟩, ⟨some 2, .mv (.t 5), none⟩] false) .ret)⟩
theorem tr55 : trProg Try.prog 55 = some af55 := by kernel_rfl
def af64 : AF := ⟨32, [.t 2], .seq (.region [⟨some 2, .mv (.k (.int .i64 0)), none⟩] false) (.seq (.seq (.region [⟨some 4, .mv (.t 0), none⟩, ⟨some 5, .lenS (.t 4), none⟩, ⟨some 6, .bin .eql (.t 5) (.k (.int .i64 0)), none⟩] false) (.cond (.t 6) (.seq (.region [⟨some 2, .mv (.k (.int .i64 2)), none⟩] false) .ret) .skip)) (.seq (.seq (.region [⟨some 7, .mv (.t 0), none⟩, ⟨some 8, .lenS (.t 7), none⟩, ⟨some 9, .bin .gtr (.t 8) (.k (.int .i64 13)), none⟩] false) (.cond (.t 9) (.seq (.region [⟨some 2, .mv (.k (.int .i64 36)), none⟩] false) .ret) .skip)) (.seq (.seq (.region [⟨some 10, .mv (.t 0), none⟩, ⟨some 11, .bin .eql (.t 10) (.k (.str [46])), none⟩, ⟨some 12, .mv (.t 11), none⟩, ⟨some 13, .mv (.t 0), some (12, false)⟩, ⟨some 14, .bin .eql (.t 13) (.k (.str [46, 46])), some (12, false)⟩, ⟨some 15, .pick (.t 12) (.k (.bool true)) (.t 14), none⟩] false) (.cond (.t 15) (.seq (.region [⟨some 2, .mv (.k (.int .i64 22)), none⟩] false) .ret) .skip)) (.seq (.seq (.region [⟨some 3, .mv (.k (.int .i64 0)), none⟩] false) (.block 0 (.loop (.seq (.seq (.region [⟨some 16, .mv (.t 3), none⟩, ⟨some 17, .mv (.t 0), none⟩, ⟨some 18, .lenS (.t 17), none⟩, ⟨some 19, .bin .lss (.t 16) (.t 18), none⟩] false) (.cond (.t 19) .skip (.exit 0))) (.seq (.block 1 (.seq (.region [⟨some 22, .mv (.t 0), none⟩, ⟨some 23, .mv (.t 3), none⟩, ⟨some 24, .idxS (.t 22) (.t 23), none⟩, ⟨some 25, .bin .eql (.t 24) (.k (.int .u8 0)), none⟩, ⟨some 26, .mv (.t 25), none⟩, ⟨some 27, .mv (.t 0), some (26, false)⟩, ⟨some 28, .mv (.t 3), some (26, false)⟩, ⟨some 29, .idxS (.t 27) (.t 28), some (26, false)⟩, ⟨some 30, .bin .eql (.t 29) (.k (.int .u8 47)), some (26, false)⟩, ⟨some 31, .pick (.t 26) (.k (.bool true)) (.t 30), none⟩] false) (.cond (.t 31) (.seq (.region [⟨some 2, .mv (.k (.int .i64 22)), none⟩] false) .ret) .skip))) (.region [⟨some 20, .mv (.t 3), none⟩, ⟨some 21, .bin .add (.t 20) (.k (.int .i64 1)), none⟩, ⟨some 3, .mv (.t 21), none⟩] false)))))) (.seq (.region [⟨some 2, .mv (.k (.int .i64 0)), none⟩] false) .ret)))))⟩
theorem tr64 : trProg Try.prog 64 = some af64 := by kernel_rfl
def af65 : AF := ⟨15, [.t 6], .seq (.region [⟨some 6, .mv (.k (.bool false)), none⟩] false) (.seq (.region [⟨some 7, .mv (.t 0), none⟩, ⟨some 8, .mv (.t 1), none⟩, ⟨some 9, .bin .geq (.t 7) (.t 8), none⟩, ⟨some 10, .mv (.t 9), none⟩, ⟨some 11, .mv (.t 0), some (10, true)⟩, ⟨some 12, .mv (.t 2), some (10, true)⟩, ⟨some 13, .bin .leq (.t 11) (.t 12), some (10, true)⟩, ⟨some 14, .pick (.t 10) (.t 13) (.k (.bool false)), none⟩, ⟨some 6, .mv (.t 14), none⟩] false) .ret)⟩
theorem tr65 : trProg Try.prog 65 = some af65 := by kernel_rfl
def af66 : AF := ⟨25, [.t 2], .seq (.region [⟨some 2, .mv (.k (.int .i64 0)), none⟩] false) (.seq (.block 0 (.seq (.region [⟨some 4, .mv (.t 0), none⟩, ⟨some 5, .bin .eql (.t 4) (.k (.str [])), none⟩, ⟨some 3, .mv (.t 5), none⟩] false) (.cond (.t 3) (.seq (.region [⟨some 2, .mv (.k (.int .i64 2)), none⟩] false) .ret) (.seq (.region [⟨some 7, .mv (.t 0), none⟩, ⟨some 8, .lenS (.t 7), none⟩, ⟨some 9, .bin .gtr (.t 8) (.k (.int .i64 13)), none⟩, ⟨some 6, .mv (.t 9), none⟩] false) (.cond (.t 6) (.seq (.region [⟨some 2, .mv (.k (.int .i64 36)), none⟩] false) .ret) (.seq (.region [⟨some 11, .mv (.t 0), none⟩, ⟨some 12, .bin .eql (.t 11) (.k (.str [46])), none⟩, ⟨some 13, .mv (.t 12), none⟩, ⟨some 14, .mv (.t 0), some (13, false)⟩, ⟨some 15, .bin .eql (.t 14) (.k (.str [46, 46])), some (13, false)⟩, ⟨some 16, .pick (.t 13) (.k (.bool true)) (.t 15), none⟩, ⟨some 17, .mv (.t 16), none⟩, ⟨some 18, .mv (.t 0), some (17, false)⟩, ⟨some 19, .call 79 [.t 18, .k (.str [47])], some (17, false)⟩, ⟨some 20, .pick (.t 17) (.k (.bool true)) (.t 19), none⟩, ⟨some 21, .mv (.t 20), none⟩, ⟨some 22, .mv (.t 0), some (21, false)⟩, ⟨some 23, .call 79 [.t 22, .k (.str [0])], some (21, false)⟩, ⟨some 24, .pick (.t 21) (.k (.bool true)) (.t 23), none⟩, ⟨some 10, .mv (.t 24), none⟩] false) (.cond (.t 10) (.seq (.region [⟨some 2, .mv (.k (.int .i64 22)), none⟩] false) .ret) .skip))))))) (.seq (.region [⟨some 2, .mv (.k (.int .i64 0)), none⟩] false) .ret))⟩
theorem tr66 : trProg Try.prog 66 = some af66 := by kernel_rfl
def af72 : AF := ⟨15, [.c 2 (some 8), .t 3], .seq (.region [⟨some 2, .alloc 23 [.int .i64 0, .int .i64 0, .int .i64 0, .int .i64 0, .int .i64 0, .int .i64 0, .str [], .str []], none⟩, ⟨some 3, .mv (.k (.bool false)), none⟩] false) (.seq (.region [⟨some 5, .mv (.t 0), none⟩, ⟨some 6, .nck (.t 5), none⟩, ⟨some 7, .faddr 0 (.t 6), none⟩, ⟨some 8, .load none (.t 7), none⟩] false) (.seq (.sel (some 9) none (.t 8) (.agg [.int .i64 0, .int .i64 0, .int .i64 0, .int .i64 0, .int .i64 0, .int .i64 0, .str [], .str []]) [⟨some 10, .extract (.t 9) 0, none⟩, ⟨some 11, .bin .eql (.t 10) (.k (.int .i64 0)), none⟩]) (.block 0 (.cond (.t 11) (.seq (.region [⟨some 13, .extract (.t 9) 2, none⟩, ⟨some 4, .alloc 23 [.int .i64 0, .int .i64 0, .int .i64 0, .int .i64 0, .int .i64 0, .int .i64 0, .str [], .str []], none⟩, ⟨none, .store 8 (.t 4) (.t 13), none⟩] false) (.seq (.region [⟨some 14, .load (some 8) (.t 4), none⟩, ⟨none, .store 8 (.t 2) (.t 14), none⟩, ⟨some 3, .mv (.k (.bool true)), none⟩] false) .ret)) (.seq (.region [⟨some 12, .build [.int .i64 0, .int .i64 0, .int .i64 0, .int .i64 0, .int .i64 0, .int .i64 0, .str [], .str []] [], none⟩, ⟨none, .store 8 (.t 2) (.t 12), none⟩, ⟨some 3, .mv (.k (.bool false)), none⟩] false) .ret)))))⟩
theorem tr72 : trProg Try.prog 72 = some af72 := by kernel_rfl
def af74 : AF := ⟨17, [.t 4], .seq (.region [⟨some 4, .mv (.k .nili), none⟩] false) (.seq (.region [⟨some 5, .mv (.t 0), none⟩, ⟨some 6, .call 82 [.t 5], none⟩] false) (.seq (.region [⟨some 7, .mv (.t 0), none⟩, ⟨some 8, .mv (.t 0), none⟩, ⟨some 9, .nck (.t 8), none⟩, ⟨some 10, .faddr 1 (.t 9), none⟩, ⟨some 11, .load none (.t 10), none⟩, ⟨some 12, .mv (.t 1), none⟩, ⟨some 13, .bslice 5 1 [.int .u8 0] [(0, (1, .t 12))], none⟩, ⟨some 14, .app 5 1 1 [.int .u8 0] (.t 11) (.t 13), none⟩, ⟨some 15, .nck (.t 7), none⟩, ⟨some 16, .faddr 1 (.t 15), none⟩, ⟨none, .store 1 (.t 16) (.t 14), none⟩] false) (.seq (.region [⟨some 4, .mv (.k .nili), none⟩] false) .ret)))⟩
theorem tr74 : trProg Try.prog 74 = some af74 := by kernel_rfl
def af75 : AF := ⟨19, [.t 4, .t 5], .seq (.region [⟨some 4, .mv (.k (.int .i64 0)), none⟩, ⟨some 5, .mv (.k .nili), none⟩] false) (.seq (.region [⟨some 6, .mv (.t 0), none⟩, ⟨some 7, .call 82 [.t 6], none⟩] false) (.seq (.region [⟨some 8, .mv (.t 0), none⟩, ⟨some 9, .mv (.t 0), none⟩, ⟨some 10, .nck (.t 9), none⟩, ⟨some 11, .faddr 1 (.t 10), none⟩, ⟨some 12, .load none (.t 11), none⟩, ⟨some 13, .mv (.t 1), none⟩, ⟨some 14, .appS 5 1 [.int .u8 0] (.t 12) (.t 13), none⟩, ⟨some 15, .nck (.t 8), none⟩, ⟨some 16, .faddr 1 (.t 15), none⟩, ⟨none, .store 1 (.t 16) (.t 14), none⟩] false) (.seq (.region [⟨some 17, .mv (.t 1), none⟩, ⟨some 18, .lenS (.t 17), none⟩, ⟨some 4, .mv (.t 18), none⟩, ⟨some 5, .mv (.k .nili), none⟩] false) .ret)))⟩
theorem tr75 : trProg Try.prog 75 = some af75 := by kernel_rfl
def af76 : AF := ⟨9, [.t 4], .seq (.region [⟨some 4, .mv (.k (.bool false)), none⟩] false) (.seq (.region [⟨some 5, .mv (.t 0), none⟩, ⟨some 6, .mv (.t 1), none⟩, ⟨some 7, .call 83 [.t 5, .t 6], none⟩, ⟨some 8, .bin .geq (.t 7) (.k (.int .i64 0)), none⟩, ⟨some 4, .mv (.t 8), none⟩] false) .ret)⟩
theorem tr76 : trProg Try.prog 76 = some af76 := by kernel_rfl
def af77 : AF := ⟨6, [.t 2], .seq (.region [⟨some 2, .mv (.k (.bool false)), none⟩] false) (.seq (.region [⟨some 3, .mv (.t 0), none⟩, ⟨some 4, .call 65 [.t 3, .k (.int .i64 0), .k (.int .i64 4294967295)], none⟩, ⟨some 5, .un .not (.t 4), none⟩, ⟨some 2, .mv (.t 5), none⟩] false) .ret)⟩
theorem tr77 : trProg Try.prog 77 = some af77 := by kernel_rfl
def af82 : AF := ⟨20, [], .seq (.region [⟨some 2, .mv (.t 0), none⟩, ⟨some 3, .nck (.t 2), none⟩, ⟨some 4, .faddr 0 (.t 3), none⟩, ⟨some 5, .load none (.t 4), none⟩, ⟨some 6, .eqf false false [(1, .p)] (.t 5) (.k .nilp), none⟩] false) (.cond (.t 6) (.region [⟨some 7, .mv (.t 0), none⟩, ⟨some 8, .mv (.t 0), none⟩, ⟨some 9, .cvU (.t 8), none⟩, ⟨some 10, .mv (.t 9), none⟩, ⟨some 11, .cvP [(102, 2), (103, 2), (104, 2), (105, 2)] (.t 10), none⟩, ⟨some 12, .nck (.t 7), none⟩, ⟨some 13, .faddr 0 (.t 12), none⟩, ⟨none, .store 1 (.t 13) (.t 11), none⟩] false) (.seq (.region [⟨some 14, .mv (.t 0), none⟩, ⟨some 15, .nck (.t 14), none⟩, ⟨some 16, .faddr 0 (.t 15), none⟩, ⟨some 17, .load none (.t 16), none⟩, ⟨some 18, .mv (.t 0), none⟩, ⟨some 19, .eqf true false [(1, .p)] (.t 17) (.t 18), none⟩] false) (.cond (.t 19) (.cond (.k .nilp) .skip .skip) .skip)))⟩
theorem tr82 : trProg Try.prog 82 = some af82 := by kernel_rfl
def af83 : AF := ⟨19, [.t 4], .seq (.region [⟨some 4, .mv (.k (.int .i64 0)), none⟩] false) (.seq (.seq (.region [⟨some 6, .mv (.t 0), none⟩, ⟨some 7, .lenL (.t 6), none⟩, ⟨some 8, .mv (.k (.int .i64 0)), none⟩] false) (.block 0 (.loop (.seq (.region [⟨some 9, .bin .lss (.t 8) (.t 7), none⟩] false) (.seq (.cond (.t 9) .skip (.exit 0)) (.seq (.block 1 (.seq (.region [⟨some 10, .mv (.t 8), none⟩, ⟨some 5, .mv (.t 10), none⟩] false) (.seq (.region [⟨some 11, .mv (.t 1), none⟩, ⟨some 12, .mv (.t 0), none⟩, ⟨some 13, .mv (.t 5), none⟩, ⟨some 14, .iaddrS 1 (.t 12) (.t 13), none⟩, ⟨some 15, .load none (.t 14), none⟩, ⟨some 16, .callv (.t 11) [.t 15], none⟩] false) (.cond (.t 16) (.seq (.region [⟨some 17, .mv (.t 5), none⟩, ⟨some 4, .mv (.t 17), none⟩] false) .ret) .skip)))) (.region [⟨some 18, .bin .add (.t 8) (.k (.int .i64 1)), none⟩, ⟨some 8, .mv (.t 18), none⟩] false))))))) (.seq (.region [⟨some 4, .mv (.k (.int .i64 (-1))), none⟩] false) .ret))⟩
theorem tr83 : trProg Try.prog 83 = some af83 := by kernel_rfl

def FF : Nat → Option AF
  | 8 => some af8
  | 11 => some af11
  | 13 => some af13
  | 14 => some af14
  | 20 => some af20
  | 27 => some af27
  | 29 => some af29
  | 30 => some af30
  | 31 => some af31
  | 32 => some af32
  | 33 => some af33
  | 34 => some af34
  | 35 => some af35
  | 36 => some af36
  | 37 => some af37
  | 38 => some af38
  | 39 => some af39
  | 46 => some af46
  | 50 => some af50
  | 51 => some af51
  | 52 => some af52
  | 53 => some af53
  | 54 => some af54
  | 55 => some af55
  | 64 => some af64
  | 65 => some af65
  | 66 => some af66
  | 72 => some af72
  | 74 => some af74
  | 75 => some af75
  | 76 => some af76
  | 77 => some af77
  | 82 => some af82
  | 83 => some af83
  | _ => none

theorem ffok : ∀ f af, FF f = some af → trProg Try.prog f = some af := by
  intro f af h
  unfold FF at h
  split at h
  · cases h; exact tr8
  · cases h; exact tr11
  · cases h; exact tr13
  · cases h; exact tr14
  · cases h; exact tr20
  · cases h; exact tr27
  · cases h; exact tr29
  · cases h; exact tr30
  · cases h; exact tr31
  · cases h; exact tr32
  · cases h; exact tr33
  · cases h; exact tr34
  · cases h; exact tr35
  · cases h; exact tr36
  · cases h; exact tr37
  · cases h; exact tr38
  · cases h; exact tr39
  · cases h; exact tr46
  · cases h; exact tr50
  · cases h; exact tr51
  · cases h; exact tr52
  · cases h; exact tr53
  · cases h; exact tr54
  · cases h; exact tr55
  · cases h; exact tr64
  · cases h; exact tr65
  · cases h; exact tr66
  · cases h; exact tr72
  · cases h; exact tr74
  · cases h; exact tr75
  · cases h; exact tr76
  · cases h; exact tr77
  · cases h; exact tr82
  · cases h; exact tr83
  · cases h

theorem mixed : Try.prog.follows .mixedOrders = true := by kernel_rfl
end Go.Proofs.Ytjbblfoefibeaaa

/- The ground layer of this seat: strings.Contains at one byte. -/
set_option linter.unusedSimpArgs false
namespace Go.Proofs.Ytjbblfoefibeaaa
open Go

set_option maxHeartbeats 1000000 in
set_option maxRecDepth 100000 in
theorem ixByte (s : ByteArray) (c : Int) (w : World) : Calls Try.prog 87 #[.string s, .int .u8 c] w fun e w' => e = .returned (.int .i64 (Lib.indexByte s.data.toList c.toNat.toUInt8)) ∧ w' = w := by
  go_enter Try.func87, Try.ntmps87
  go_wp2
  rw [run_callFunc_extern Try.func91 (by kernel_rfl) (by kernel_rfl) (by kernel_rfl) (e := Extern.BytealgIndexByte.indexByte) (by kernel_rfl), Lib.run_indexByteString]
  simp only [Result.andThen]
  rw [Oper.upon_value]
  go_wp2
  go_ret
  exact ⟨rfl, rfl⟩

set_option maxHeartbeats 2000000 in
set_option maxRecDepth 100000 in
theorem ixLite (s : ByteArray) (c : UInt8) (w : World) : Calls Try.prog 86 #[.string s, .string ⟨#[c]⟩] w fun e w' => e = .returned (.int .i64 (Lib.indexByte s.data.toList c)) ∧ w' = w := by
  go_enter Try.func86, Try.ntmps86
  go_wp2_with (go_at_call 87; refine (ixByte _ _ _).mono ?_; rintro e w' ⟨rfl, rfl⟩)
  · have h : ([c] == s.toList) = true := by assumption
    go_ret
    refine ⟨?_, rfl⟩
    have e : s.data.toList = [c] := by rw [← Lib.toList_data]; exact (beq_iff_eq.1 h).symm
    rw [e]
    simp [Lib.indexByte]
  · go_ret
    exact ⟨rfl, rfl⟩

set_option maxHeartbeats 1000000 in
theorem ixStr (s : ByteArray) (c : UInt8) (w : World) : Calls Try.prog 84 #[.string s, .string ⟨#[c]⟩] w fun e w' => e = .returned (.int .i64 (Lib.indexByte s.data.toList c)) ∧ w' = w := by
  go_enter Try.func84, Try.ntmps84
  go_wp2_with (go_at_call 86; refine (ixLite _ _ _).mono ?_; rintro e w' ⟨rfl, rfl⟩)
  go_ret
  exact ⟨rfl, rfl⟩

set_option maxHeartbeats 1000000 in
theorem conStr (s : ByteArray) (c : UInt8) (w : World) : Calls Try.prog 79 #[.string s, .string ⟨#[c]⟩] w fun e w' => e = .returned (.bool (decide (0 ≤ Lib.indexByte s.data.toList c))) ∧ w' = w := by
  go_enter Try.func79, Try.ntmps79
  go_wp2_with (go_at_call 84; refine (ixStr _ _ _).mono ?_; rintro e w' ⟨rfl, rfl⟩)
  go_ret
  exact ⟨rfl, rfl⟩

open AM
def tContains : Ans
  | [.str s, .str [c]] => some (.bool (s.contains c))
  | _ => none
def g0 : Nat → Option Ans
  | 79 => some tContains
  | _ => none
def E0 : ExtF := plainExt g0
theorem hxE0 : ExtMono E0 := plainExt_mono g0
theorem sndE0 : ExtSound Try.prog E0 := by
  refine plainExt_calls ?_
  intro f sp args v hg hs hp
  unfold g0 at hg
  split at hg
  · cases hg
    unfold tContains at hs
    split at hs
    · rename_i s c
      cases hs
      refine ⟨by kernel_rfl, rfl, fun w => ?_⟩
      rw [Lib.contains_iff_indexByte]
      exact conStr ⟨s.toArray⟩ c w
    · cases hs
  · cases hg
theorem E0_none {f : Nat} (h : g0 f = none) (c : CallF) : E0 c f = none := plainExt_none h c
theorem eContains_0 (s : List UInt8) (c : UInt8) (h : Heap) : Den FF E0 79 [.str s, .str [c]] h = some (.val (.bool (s.contains c)), none) := den_plain (sp := tContains) h rfl (by rfl) (by first | (simp [V.plains, V.plain, bytesA_plains]; done) | rfl)
end Go.Proofs.Ytjbblfoefibeaaa

/- Queues: the document's examples. -/
namespace Go.Proofs.Ytjbblfoefibeaaa
open Go AM
set_option linter.unusedSimpArgs false
set_option linter.unusedVariables false
set_option maxRecDepth 100000
def tAwake : Ans
  | [] => some (.bool true)
  | _ => none
theorem okAwake24 : SpOk FF E0 27 tAwake := by
  intro args v h hpl
  unfold tAwake at h
  split at h
  · cases h
    exact ⟨rfl, none, Den_of hxE0 (k := 100) (by kernel_rfl)⟩
  · cases h
theorem okAwake23 : SpOk FF E0 11 tAwake := by
  intro args v h hpl
  unfold tAwake at h
  split at h
  · cases h
    exact ⟨rfl, none, Den_of hxE0 (k := 200) (by kernel_rfl)⟩
  · cases h
def g1 : Nat → Option Ans := addG g0 [(27, tAwake), (11, tAwake)]
def E1 : ExtF := plainExt g1
theorem hxE1 : ExtMono E1 := plainExt_mono g1
theorem sndE1 : ExtSound Try.prog E1 := addG_sound mixed ffok sndE0 (by
  intro p hp
  simp only [List.mem_cons, List.not_mem_nil, or_false] at hp
  rcases hp with rfl | rfl
  · exact okAwake24
  · exact okAwake23)
theorem E1_none {f : Nat} (h : g1 f = none) (c : CallF) : E1 c f = none := plainExt_none h c
theorem eContains_1 (s : List UInt8) (c : UInt8) (h : Heap) : Den FF E1 79 [.str s, .str [c]] h = some (.val (.bool (s.contains c)), none) := den_plain (sp := tContains) h rfl (by rfl) (by first | (simp [V.plains, V.plain, bytesA_plains]; done) | rfl)
theorem eAwake24_1 (_ : Unit) (h : Heap) : Den FF E1 27 [] h = some (.val (.bool true), none) := den_plain (sp := tAwake) h rfl (by rfl) (by first | (simp [V.plains, V.plain, bytesA_plains]; done) | rfl)
theorem eAwake23_1 (_ : Unit) (h : Heap) : Den FF E1 11 [] h = some (.val (.bool true), none) := den_plain (sp := tAwake) h rfl (by rfl) (by first | (simp [V.plains, V.plain, bytesA_plains]; done) | rfl)
end Go.Proofs.Ytjbblfoefibeaaa

/- Notices that are right, over few layers. -/
namespace Go.Proofs.Ytjbblfoefibeaaa
open Go AM
set_option linter.unusedSimpArgs false
set_option linter.unusedVariables false
set_option maxRecDepth 100000

def inB (n lo hi : Int) : Bool := decide (lo ≤ n) && decide (n ≤ hi)
def tIn : Ans
  | [.int .i64 n, .int .i64 lo, .int .i64 hi] => some (.bool (inB n lo hi))
  | _ => none
theorem okIn : SpOk FF E1 65 tIn := by
  intro args v h hpl
  unfold tIn at h
  split at h
  · rename_i n lo hi
    cases h
    refine ⟨rfl, _, (?_ : Den FF E1 65 [.int .i64 n, .int .i64 lo, .int .i64 hi] H0 = some (.val (.bool (inB n lo hi)), none))⟩
    refine To.den hxE1 (f := 65) (a := af65) rfl (E1_none rfl) (Nat.le_of_ble_eq_true rfl) ?_
    unfold inB
    by_cases h1 : lo ≤ n
    · (repeat' (first | refine To.seq hxE1 ?_ | refine To.op0 hxE1 (by simp only [go_sem, eqs hxE1, reduceIte, Nat.reduceEqDiff, Nat.reduceAdd, Nat.reduceMul, Nat.reduceLT, Nat.reduceLeDiff, Int.reduceLT, Int.reduceLE, Int.reduceEq, reduceCtorEq, Int.reduceBEq, Int.reduceBNe, Int.reduceToNat, Nat.reduceSub, Nat.reduceDiv, Int.reduceNeg, Int.reduceAdd, Int.reduceSub, Int.reduceMul, h1]; rfl) ?_ | refine To.op1 hxE1 (by simp only [go_sem, eqs hxE1, reduceIte, Nat.reduceEqDiff, Nat.reduceAdd, Nat.reduceMul, Nat.reduceLT, Nat.reduceLeDiff, Int.reduceLT, Int.reduceLE, Int.reduceEq, reduceCtorEq, Int.reduceBEq, Int.reduceBNe, Int.reduceToNat, Nat.reduceSub, Nat.reduceDiv, Int.reduceNeg, Int.reduceAdd, Int.reduceSub, Int.reduceMul, h1]; rfl) ?_ | refine To.nop hxE1 ?_ | (refine To.condT hxE1 ?_ ?_; focus (simp only [go_sem, eqs hxE1, reduceIte, Nat.reduceEqDiff, Nat.reduceAdd, Nat.reduceMul, Nat.reduceLT, Nat.reduceLeDiff, Int.reduceLT, Int.reduceLE, Int.reduceEq, reduceCtorEq, Int.reduceBEq, Int.reduceBNe, Int.reduceToNat, Nat.reduceSub, Nat.reduceDiv, Int.reduceNeg, Int.reduceAdd, Int.reduceSub, Int.reduceMul, h1]; done)) | (refine To.condF hxE1 ?_ ?_; focus (simp only [go_sem, eqs hxE1, reduceIte, Nat.reduceEqDiff, Nat.reduceAdd, Nat.reduceMul, Nat.reduceLT, Nat.reduceLeDiff, Int.reduceLT, Int.reduceLE, Int.reduceEq, reduceCtorEq, Int.reduceBEq, Int.reduceBNe, Int.reduceToNat, Nat.reduceSub, Nat.reduceDiv, Int.reduceNeg, Int.reduceAdd, Int.reduceSub, Int.reduceMul, h1]; done)) | refine To.block hxE1 ?_ | refine To.scope hxE1 ?_ | refine To.ret hxE1 ?_ | refine To.exit hxE1 ?_ | refine To.skip hxE1 ?_ | refine To.label hxE1 ?_))
      simp only [andThen, outOf, go_sem, eqs hxE1, reduceIte, Nat.reduceEqDiff, Nat.reduceAdd, Nat.reduceMul, Nat.reduceLT, Nat.reduceLeDiff, Int.reduceLT, Int.reduceLE, Int.reduceEq, reduceCtorEq, Int.reduceBEq, Int.reduceBNe, Int.reduceToNat, Nat.reduceSub, Nat.reduceDiv, Int.reduceNeg, Int.reduceAdd, Int.reduceSub, Int.reduceMul, af65, h1]
    · (repeat' (first | refine To.seq hxE1 ?_ | refine To.op0 hxE1 (by simp only [go_sem, eqs hxE1, reduceIte, Nat.reduceEqDiff, Nat.reduceAdd, Nat.reduceMul, Nat.reduceLT, Nat.reduceLeDiff, Int.reduceLT, Int.reduceLE, Int.reduceEq, reduceCtorEq, Int.reduceBEq, Int.reduceBNe, Int.reduceToNat, Nat.reduceSub, Nat.reduceDiv, Int.reduceNeg, Int.reduceAdd, Int.reduceSub, Int.reduceMul, h1]; rfl) ?_ | refine To.op1 hxE1 (by simp only [go_sem, eqs hxE1, reduceIte, Nat.reduceEqDiff, Nat.reduceAdd, Nat.reduceMul, Nat.reduceLT, Nat.reduceLeDiff, Int.reduceLT, Int.reduceLE, Int.reduceEq, reduceCtorEq, Int.reduceBEq, Int.reduceBNe, Int.reduceToNat, Nat.reduceSub, Nat.reduceDiv, Int.reduceNeg, Int.reduceAdd, Int.reduceSub, Int.reduceMul, h1]; rfl) ?_ | refine To.nop hxE1 ?_ | (refine To.condT hxE1 ?_ ?_; focus (simp only [go_sem, eqs hxE1, reduceIte, Nat.reduceEqDiff, Nat.reduceAdd, Nat.reduceMul, Nat.reduceLT, Nat.reduceLeDiff, Int.reduceLT, Int.reduceLE, Int.reduceEq, reduceCtorEq, Int.reduceBEq, Int.reduceBNe, Int.reduceToNat, Nat.reduceSub, Nat.reduceDiv, Int.reduceNeg, Int.reduceAdd, Int.reduceSub, Int.reduceMul, h1]; done)) | (refine To.condF hxE1 ?_ ?_; focus (simp only [go_sem, eqs hxE1, reduceIte, Nat.reduceEqDiff, Nat.reduceAdd, Nat.reduceMul, Nat.reduceLT, Nat.reduceLeDiff, Int.reduceLT, Int.reduceLE, Int.reduceEq, reduceCtorEq, Int.reduceBEq, Int.reduceBNe, Int.reduceToNat, Nat.reduceSub, Nat.reduceDiv, Int.reduceNeg, Int.reduceAdd, Int.reduceSub, Int.reduceMul, h1]; done)) | refine To.block hxE1 ?_ | refine To.scope hxE1 ?_ | refine To.ret hxE1 ?_ | refine To.exit hxE1 ?_ | refine To.skip hxE1 ?_ | refine To.label hxE1 ?_))
      simp only [andThen, outOf, go_sem, eqs hxE1, reduceIte, Nat.reduceEqDiff, Nat.reduceAdd, Nat.reduceMul, Nat.reduceLT, Nat.reduceLeDiff, Int.reduceLT, Int.reduceLE, Int.reduceEq, reduceCtorEq, Int.reduceBEq, Int.reduceBNe, Int.reduceToNat, Nat.reduceSub, Nat.reduceDiv, Int.reduceNeg, Int.reduceAdd, Int.reduceSub, Int.reduceMul, af65, h1, Bool.false_and]
  · cases h
def g2 : Nat → Option Ans := addG g1 [(65, tIn)]
def E2 : ExtF := plainExt g2
theorem hxE2 : ExtMono E2 := plainExt_mono g2
theorem sndE2 : ExtSound Try.prog E2 := addG_sound mixed ffok sndE1 (by
  intro p hp
  simp only [List.mem_cons, List.not_mem_nil, or_false] at hp
  rcases hp with rfl
  · exact okIn)
theorem E2_none {f : Nat} (h : g2 f = none) (c : CallF) : E2 c f = none := plainExt_none h c
theorem eContains_2 (s : List UInt8) (c : UInt8) (h : Heap) : Den FF E2 79 [.str s, .str [c]] h = some (.val (.bool (s.contains c)), none) := den_plain (sp := tContains) h rfl (by rfl) (by first | (simp [V.plains, V.plain, bytesA_plains]; done) | rfl)
theorem eAwake24_2 (_ : Unit) (h : Heap) : Den FF E2 27 [] h = some (.val (.bool true), none) := den_plain (sp := tAwake) h rfl (by rfl) (by first | (simp [V.plains, V.plain, bytesA_plains]; done) | rfl)
theorem eAwake23_2 (_ : Unit) (h : Heap) : Den FF E2 11 [] h = some (.val (.bool true), none) := den_plain (sp := tAwake) h rfl (by rfl) (by first | (simp [V.plains, V.plain, bytesA_plains]; done) | rfl)
theorem eIn_2 (n lo hi : Int) (h : Heap) : Den FF E2 65 [.int .i64 n, .int .i64 lo, .int .i64 hi] h = some (.val (.bool (inB n lo hi)), none) := den_plain (sp := tIn) h rfl (by rfl) (by first | (simp [V.plains, V.plain, bytesA_plains]; done) | rfl)
def checkN (s : List UInt8) : Int := if (s == []) = true then 2 else if decide (13 < s.length) = true then 36 else if (s == [46] || s == [46, 46] || s.contains 47 || s.contains 0) = true then 22 else 0
def tCheck : Ans
  | [.str s] => some (.int .i64 (checkN s))
  | _ => none
theorem okCheck : SpOk FF E2 66 tCheck := by
  intro args v h hpl
  unfold tCheck at h
  split at h
  · rename_i s
    cases h
    refine ⟨rfl, _, (?_ : Den FF E2 66 [.str s] H0 = some (.val (.int .i64 (checkN s)), none))⟩
    refine To.den hxE2 (f := 66) (a := af66) rfl (E2_none rfl) (Nat.le_of_ble_eq_true rfl) ?_
    unfold checkN
    cases h0 : (s == [])
    · have hc : (13 < (s.length : Int)) = (13 < s.length) := propext (by omega)
      by_cases h1 : 13 < s.length
      · refine To.of (by simp only [go_sem, eqs hxE2, reduceIte, Nat.reduceEqDiff, Nat.reduceAdd, Nat.reduceMul, Nat.reduceLT, Nat.reduceLeDiff, Int.reduceLT, Int.reduceLE, Int.reduceEq, reduceCtorEq, Int.reduceBEq, Int.reduceBNe, Int.reduceToNat, Nat.reduceSub, Nat.reduceDiv, Int.reduceNeg, Int.reduceAdd, Int.reduceSub, Int.reduceMul, af66, eContains_2, strA, h0, hc, h1]; rfl) ?_
        simp only [go_sem, eqs hxE2, reduceIte, Nat.reduceEqDiff, Nat.reduceAdd, Nat.reduceMul, Nat.reduceLT, Nat.reduceLeDiff, Int.reduceLT, Int.reduceLE, Int.reduceEq, reduceCtorEq, Int.reduceBEq, Int.reduceBNe, Int.reduceToNat, Nat.reduceSub, Nat.reduceDiv, Int.reduceNeg, Int.reduceAdd, Int.reduceSub, Int.reduceMul, af66, h1]
      · cases h2 : (s == [46]) <;> cases h3 : (s == [46, 46]) <;> cases h4 : s.contains 47 <;> cases h5 : s.contains 0
        all_goals
          refine To.of (by simp only [go_sem, eqs hxE2, reduceIte, Nat.reduceEqDiff, Nat.reduceAdd, Nat.reduceMul, Nat.reduceLT, Nat.reduceLeDiff, Int.reduceLT, Int.reduceLE, Int.reduceEq, reduceCtorEq, Int.reduceBEq, Int.reduceBNe, Int.reduceToNat, Nat.reduceSub, Nat.reduceDiv, Int.reduceNeg, Int.reduceAdd, Int.reduceSub, Int.reduceMul, af66, eContains_2, strA, h0, hc, h1, h2, h3, h4, h5]; rfl) ?_
          simp only [go_sem, eqs hxE2, reduceIte, Nat.reduceEqDiff, Nat.reduceAdd, Nat.reduceMul, Nat.reduceLT, Nat.reduceLeDiff, Int.reduceLT, Int.reduceLE, Int.reduceEq, reduceCtorEq, Int.reduceBEq, Int.reduceBNe, Int.reduceToNat, Nat.reduceSub, Nat.reduceDiv, Int.reduceNeg, Int.reduceAdd, Int.reduceSub, Int.reduceMul, af66, h1, Bool.or_true, Bool.or_false, Bool.true_or]
    · refine To.of (by simp only [go_sem, eqs hxE2, reduceIte, Nat.reduceEqDiff, Nat.reduceAdd, Nat.reduceMul, Nat.reduceLT, Nat.reduceLeDiff, Int.reduceLT, Int.reduceLE, Int.reduceEq, reduceCtorEq, Int.reduceBEq, Int.reduceBNe, Int.reduceToNat, Nat.reduceSub, Nat.reduceDiv, Int.reduceNeg, Int.reduceAdd, Int.reduceSub, Int.reduceMul, af66, eContains_2, strA, h0]; rfl) ?_
      simp only [go_sem, eqs hxE2, reduceIte, Nat.reduceEqDiff, Nat.reduceAdd, Nat.reduceMul, Nat.reduceLT, Nat.reduceLeDiff, Int.reduceLT, Int.reduceLE, Int.reduceEq, reduceCtorEq, Int.reduceBEq, Int.reduceBNe, Int.reduceToNat, Nat.reduceSub, Nat.reduceDiv, Int.reduceNeg, Int.reduceAdd, Int.reduceSub, Int.reduceMul, af66]
  · cases h
theorem okRCheck : SpOk FF E2 64 tCheck := by
  intro args v h hpl
  unfold tCheck at h
  split at h
  · rename_i s
    cases h
    refine ⟨rfl, _, (?_ : Den FF E2 64 [.str s] H0 = some (.val (.int .i64 (checkN s)), none))⟩
    refine To.den hxE2 (f := 64) (a := af64) rfl (E2_none rfl) (Nat.le_of_ble_eq_true rfl) ?_
    have hc : (13 < (s.length : Int)) = (13 < s.length) := propext (by omega)
    by_cases h0 : s = []
    · subst h0
      refine To.of (by simp only [go_sem, eqs hxE2, reduceIte, Nat.reduceEqDiff, Nat.reduceAdd, Nat.reduceMul, Nat.reduceLT, Nat.reduceLeDiff, Int.reduceLT, Int.reduceLE, Int.reduceEq, reduceCtorEq, Int.reduceBEq, Int.reduceBNe, Int.reduceToNat, Nat.reduceSub, Nat.reduceDiv, Int.reduceNeg, Int.reduceAdd, Int.reduceSub, Int.reduceMul, af64, List.length_nil, Int.natCast_zero, beq_self_eq_true, Int.ofNat_zero]; rfl) ?_
      simp only [go_sem, eqs hxE2, reduceIte, Nat.reduceEqDiff, Nat.reduceAdd, Nat.reduceMul, Nat.reduceLT, Nat.reduceLeDiff, Int.reduceLT, Int.reduceLE, Int.reduceEq, reduceCtorEq, Int.reduceBEq, Int.reduceBNe, Int.reduceToNat, Nat.reduceSub, Nat.reduceDiv, Int.reduceNeg, Int.reduceAdd, Int.reduceSub, Int.reduceMul, af64]; rfl
    · have h00 : (s == []) = false := by simp [h0]
      have hl : ((s.length : Int) == 0) = false := by
        have : s.length ≠ 0 := fun h => h0 (List.length_eq_zero_iff.1 h)
        simp only [beq_eq_false_iff_ne, ne_eq]; omega
      by_cases h1 : 13 < s.length
      · refine To.of (by simp only [go_sem, eqs hxE2, reduceIte, Nat.reduceEqDiff, Nat.reduceAdd, Nat.reduceMul, Nat.reduceLT, Nat.reduceLeDiff, Int.reduceLT, Int.reduceLE, Int.reduceEq, reduceCtorEq, Int.reduceBEq, Int.reduceBNe, Int.reduceToNat, Nat.reduceSub, Nat.reduceDiv, Int.reduceNeg, Int.reduceAdd, Int.reduceSub, Int.reduceMul, af64, hl, hc, h1]; rfl) ?_
        simp only [go_sem, eqs hxE2, reduceIte, Nat.reduceEqDiff, Nat.reduceAdd, Nat.reduceMul, Nat.reduceLT, Nat.reduceLeDiff, Int.reduceLT, Int.reduceLE, Int.reduceEq, reduceCtorEq, Int.reduceBEq, Int.reduceBNe, Int.reduceToNat, Nat.reduceSub, Nat.reduceDiv, Int.reduceNeg, Int.reduceAdd, Int.reduceSub, Int.reduceMul, af64, checkN, h00, h1]
      · by_cases h23 : (s == [46] || s == [46, 46]) = true
        · have hr : checkN s = 22 := by
            simp only [checkN, h00, h1, h23, Bool.true_or, Bool.false_eq_true, if_false, decide_false, if_true]
          cases h2 : (s == [46]) <;> cases h3 : (s == [46, 46])
          · rw [h2, h3] at h23; cases h23
          all_goals
            refine To.of (by simp only [go_sem, eqs hxE2, reduceIte, Nat.reduceEqDiff, Nat.reduceAdd, Nat.reduceMul, Nat.reduceLT, Nat.reduceLeDiff, Int.reduceLT, Int.reduceLE, Int.reduceEq, reduceCtorEq, Int.reduceBEq, Int.reduceBNe, Int.reduceToNat, Nat.reduceSub, Nat.reduceDiv, Int.reduceNeg, Int.reduceAdd, Int.reduceSub, Int.reduceMul, af64, strA, hl, hc, h1, h2, h3]; rfl) ?_
            simp only [go_sem, eqs hxE2, reduceIte, Nat.reduceEqDiff, Nat.reduceAdd, Nat.reduceMul, Nat.reduceLT, Nat.reduceLeDiff, Int.reduceLT, Int.reduceLE, Int.reduceEq, reduceCtorEq, Int.reduceBEq, Int.reduceBNe, Int.reduceToNat, Nat.reduceSub, Nat.reduceDiv, Int.reduceNeg, Int.reduceAdd, Int.reduceSub, Int.reduceMul, af64, hr]
        · have h2 : (s == [46]) = false := by cases h : (s == [46]) <;> simp_all
          have h3 : (s == [46, 46]) = false := by cases h : (s == [46, 46]) <;> simp_all
          have hr : checkN s = if (s.contains 47 || s.contains 0) = true then 22 else 0 := by
            simp only [checkN, h00, h1, h2, h3, Bool.false_or, Bool.false_eq_true, if_false, decide_false]
          refine To.sq hxE2 (by simp only [go_sem, eqs hxE2, reduceIte, Nat.reduceEqDiff, Nat.reduceAdd, Nat.reduceMul, Nat.reduceLT, Nat.reduceLeDiff, Int.reduceLT, Int.reduceLE, Int.reduceEq, reduceCtorEq, Int.reduceBEq, Int.reduceBNe, Int.reduceToNat, Nat.reduceSub, Nat.reduceDiv, Int.reduceNeg, Int.reduceAdd, Int.reduceSub, Int.reduceMul]; rfl) ?_
          refine To.sq hxE2 (by simp only [go_sem, eqs hxE2, reduceIte, Nat.reduceEqDiff, Nat.reduceAdd, Nat.reduceMul, Nat.reduceLT, Nat.reduceLeDiff, Int.reduceLT, Int.reduceLE, Int.reduceEq, reduceCtorEq, Int.reduceBEq, Int.reduceBNe, Int.reduceToNat, Nat.reduceSub, Nat.reduceDiv, Int.reduceNeg, Int.reduceAdd, Int.reduceSub, Int.reduceMul, hl]; rfl) ?_
          refine To.sq hxE2 (by simp only [go_sem, eqs hxE2, reduceIte, Nat.reduceEqDiff, Nat.reduceAdd, Nat.reduceMul, Nat.reduceLT, Nat.reduceLeDiff, Int.reduceLT, Int.reduceLE, Int.reduceEq, reduceCtorEq, Int.reduceBEq, Int.reduceBNe, Int.reduceToNat, Nat.reduceSub, Nat.reduceDiv, Int.reduceNeg, Int.reduceAdd, Int.reduceSub, Int.reduceMul, hc, h1]; rfl) ?_
          refine To.sq hxE2 (by simp only [go_sem, eqs hxE2, reduceIte, Nat.reduceEqDiff, Nat.reduceAdd, Nat.reduceMul, Nat.reduceLT, Nat.reduceLeDiff, Int.reduceLT, Int.reduceLE, Int.reduceEq, reduceCtorEq, Int.reduceBEq, Int.reduceBNe, Int.reduceToNat, Nat.reduceSub, Nat.reduceDiv, Int.reduceNeg, Int.reduceAdd, Int.reduceSub, Int.reduceMul, strA, h2, h3]; rfl) ?_
          refine To.seq hxE2 (To.sq hxE2 (by simp only [go_sem, eqs hxE2, reduceIte, Nat.reduceEqDiff, Nat.reduceAdd, Nat.reduceMul, Nat.reduceLT, Nat.reduceLeDiff, Int.reduceLT, Int.reduceLE, Int.reduceEq, reduceCtorEq, Int.reduceBEq, Int.reduceBNe, Int.reduceToNat, Nat.reduceSub, Nat.reduceDiv, Int.reduceNeg, Int.reduceAdd, Int.reduceSub, Int.reduceMul]; rfl) (To.block hxE2 ?_))
          refine To.loop hxE2 (fun k S h' => h' = ⟨[], 0, 0⟩ ∧ ∃ i, i + k = s.length ∧ S 0 = .str s ∧ S 3 = .int .i64 (i : Int) ∧ ∀ j b, j < i → s[j]? = some b → b ≠ 0 ∧ b ≠ 47) ?_ s.length _ _ ?_
          · rintro k S _ ⟨rfl, i, hk, hS0, hS3, hall⟩
            by_cases hi : i < s.length
            · have hlt : decide ((i : Int) < (s.length : Int)) = true := by simp; omega
              obtain ⟨b, hb⟩ : ∃ b, s[i]? = some b := ⟨s[i], List.getElem?_eq_getElem hi⟩
              have hix : idxOf s.length (.int .i64 (i : Int)) = some i := idxOf_nat hi
              have w1 : IntKind.i64.wrap ((i : Int) + 1) = ((i + 1 : Nat) : Int) := by rw [wrap_i64 (by omega) (by omega)]; omega
              by_cases hz : b = 0
              · subst hz
                have hbz : (((0 : UInt8).toNat : Int) == 0) = true := rfl
                have hres : checkN s = 22 := by rw [hr, if_pos]; simp [List.mem_iff_getElem?]; exact .inr ⟨i, hb⟩
                refine To.of (by simp only [go_sem, eqs hxE2, reduceIte, Nat.reduceEqDiff, Nat.reduceAdd, Nat.reduceMul, Nat.reduceLT, Nat.reduceLeDiff, Int.reduceLT, Int.reduceLE, Int.reduceEq, reduceCtorEq, Int.reduceBEq, Int.reduceBNe, Int.reduceToNat, Nat.reduceSub, Nat.reduceDiv, Int.reduceNeg, Int.reduceAdd, Int.reduceSub, Int.reduceMul, hS0, hS3, hlt, hix, hb, hbz]; rfl) ?_
                simp only [outOf, andThen]
                simp only [go_sem, eqs hxE2, reduceIte, Nat.reduceEqDiff, Nat.reduceAdd, Nat.reduceMul, Nat.reduceLT, Nat.reduceLeDiff, Int.reduceLT, Int.reduceLE, Int.reduceEq, reduceCtorEq, Int.reduceBEq, Int.reduceBNe, Int.reduceToNat, Nat.reduceSub, Nat.reduceDiv, Int.reduceNeg, Int.reduceAdd, Int.reduceSub, Int.reduceMul, af64, hres]
              · have hbz : (((b.toNat : Nat) : Int) == 0) = false := by
                  simp only [beq_eq_false_iff_ne, ne_eq]
                  intro e; exact hz (UInt8.toNat_inj.1 (by simpa using e))
                by_cases h47 : b = 47
                · subst h47
                  have hb47 : (((47 : UInt8).toNat : Int) == 47) = true := rfl
                  have hres : checkN s = 22 := by rw [hr, if_pos]; simp [List.mem_iff_getElem?]; exact .inl ⟨i, hb⟩
                  refine To.of (by simp only [go_sem, eqs hxE2, reduceIte, Nat.reduceEqDiff, Nat.reduceAdd, Nat.reduceMul, Nat.reduceLT, Nat.reduceLeDiff, Int.reduceLT, Int.reduceLE, Int.reduceEq, reduceCtorEq, Int.reduceBEq, Int.reduceBNe, Int.reduceToNat, Nat.reduceSub, Nat.reduceDiv, Int.reduceNeg, Int.reduceAdd, Int.reduceSub, Int.reduceMul, hS0, hS3, hlt, hix, hb, hbz, hb47]; rfl) ?_
                  simp only [outOf, andThen]
                  simp only [go_sem, eqs hxE2, reduceIte, Nat.reduceEqDiff, Nat.reduceAdd, Nat.reduceMul, Nat.reduceLT, Nat.reduceLeDiff, Int.reduceLT, Int.reduceLE, Int.reduceEq, reduceCtorEq, Int.reduceBEq, Int.reduceBNe, Int.reduceToNat, Nat.reduceSub, Nat.reduceDiv, Int.reduceNeg, Int.reduceAdd, Int.reduceSub, Int.reduceMul, af64, hres]
                · have hb47 : (((b.toNat : Nat) : Int) == 47) = false := by
                    simp only [beq_eq_false_iff_ne, ne_eq]
                    intro e; exact h47 (UInt8.toNat_inj.1 (by simp; omega))
                  refine To.of (by simp only [go_sem, eqs hxE2, reduceIte, Nat.reduceEqDiff, Nat.reduceAdd, Nat.reduceMul, Nat.reduceLT, Nat.reduceLeDiff, Int.reduceLT, Int.reduceLE, Int.reduceEq, reduceCtorEq, Int.reduceBEq, Int.reduceBNe, Int.reduceToNat, Nat.reduceSub, Nat.reduceDiv, Int.reduceNeg, Int.reduceAdd, Int.reduceSub, Int.reduceMul, hS0, hS3, hlt, hix, hb, hbz, hb47, w1]; rfl) ?_
                  refine ⟨k - 1, by omega, rfl, i + 1, by omega, ?_⟩
                  simp only [get_fput, hS0, hS3, reduceIte, Nat.reduceEqDiff, true_and]
                  intro j c hj hc'
                  by_cases hji : j = i
                  · subst hji; rw [hb] at hc'; cases hc'; exact ⟨hz, h47⟩
                  · exact hall j c (by omega) hc'
            · have hlt : decide ((i : Int) < (s.length : Int)) = false := by simp; omega
              have hno : ∀ b ∈ s, b ≠ 0 ∧ b ≠ 47 := by
                intro b hb
                obtain ⟨j, hj⟩ := List.mem_iff_getElem?.1 hb
                have := (List.getElem?_eq_some_iff.1 hj).1
                exact hall j b (by omega) hj
              have hres : checkN s = 0 := by
                rw [hr, if_neg]
                simp only [Bool.or_eq_true, List.contains_iff_mem, not_or]
                exact ⟨fun h => (hno _ h).2 rfl, fun h => (hno _ h).1 rfl⟩
              refine To.of (by simp only [go_sem, eqs hxE2, reduceIte, Nat.reduceEqDiff, Nat.reduceAdd, Nat.reduceMul, Nat.reduceLT, Nat.reduceLeDiff, Int.reduceLT, Int.reduceLE, Int.reduceEq, reduceCtorEq, Int.reduceBEq, Int.reduceBNe, Int.reduceToNat, Nat.reduceSub, Nat.reduceDiv, Int.reduceNeg, Int.reduceAdd, Int.reduceSub, Int.reduceMul, hS0, hS3, hlt]; rfl) ?_
              simp only [outOf, andThen, if_true]
              refine To.of (by simp only [go_sem, eqs hxE2, reduceIte, Nat.reduceEqDiff, Nat.reduceAdd, Nat.reduceMul, Nat.reduceLT, Nat.reduceLeDiff, Int.reduceLT, Int.reduceLE, Int.reduceEq, reduceCtorEq, Int.reduceBEq, Int.reduceBNe, Int.reduceToNat, Nat.reduceSub, Nat.reduceDiv, Int.reduceNeg, Int.reduceAdd, Int.reduceSub, Int.reduceMul]; rfl) ?_
              simp only [go_sem, eqs hxE2, reduceIte, Nat.reduceEqDiff, Nat.reduceAdd, Nat.reduceMul, Nat.reduceLT, Nat.reduceLeDiff, Int.reduceLT, Int.reduceLE, Int.reduceEq, reduceCtorEq, Int.reduceBEq, Int.reduceBNe, Int.reduceToNat, Nat.reduceSub, Nat.reduceDiv, Int.reduceNeg, Int.reduceAdd, Int.reduceSub, Int.reduceMul, af64, hres]
          · refine ⟨rfl, 0, by omega, ?_⟩
            simp only [go_sem, eqs hxE2, reduceIte, Nat.reduceEqDiff, Nat.reduceAdd, Nat.reduceMul, Nat.reduceLT, Nat.reduceLeDiff, Int.reduceLT, Int.reduceLE, Int.reduceEq, reduceCtorEq, Int.reduceBEq, Int.reduceBNe, Int.reduceToNat, Nat.reduceSub, Nat.reduceDiv, Int.reduceNeg, Int.reduceAdd, Int.reduceSub, Int.reduceMul]
            exact fun j b hj => absurd hj (by omega)
  · cases h
def g3 : Nat → Option Ans := addG g2 [(66, tCheck), (64, tCheck)]
def E3 : ExtF := plainExt g3
theorem hxE3 : ExtMono E3 := plainExt_mono g3
theorem sndE3 : ExtSound Try.prog E3 := addG_sound mixed ffok sndE2 (by
  intro p hp
  simp only [List.mem_cons, List.not_mem_nil, or_false] at hp
  rcases hp with rfl | rfl
  · exact okCheck
  · exact okRCheck)
theorem E3_none {f : Nat} (h : g3 f = none) (c : CallF) : E3 c f = none := plainExt_none h c
theorem eContains_3 (s : List UInt8) (c : UInt8) (h : Heap) : Den FF E3 79 [.str s, .str [c]] h = some (.val (.bool (s.contains c)), none) := den_plain (sp := tContains) h rfl (by rfl) (by first | (simp [V.plains, V.plain, bytesA_plains]; done) | rfl)
theorem eAwake24_3 (_ : Unit) (h : Heap) : Den FF E3 27 [] h = some (.val (.bool true), none) := den_plain (sp := tAwake) h rfl (by rfl) (by first | (simp [V.plains, V.plain, bytesA_plains]; done) | rfl)
theorem eAwake23_3 (_ : Unit) (h : Heap) : Den FF E3 11 [] h = some (.val (.bool true), none) := den_plain (sp := tAwake) h rfl (by rfl) (by first | (simp [V.plains, V.plain, bytesA_plains]; done) | rfl)
theorem eIn_3 (n lo hi : Int) (h : Heap) : Den FF E3 65 [.int .i64 n, .int .i64 lo, .int .i64 hi] h = some (.val (.bool (inB n lo hi)), none) := den_plain (sp := tIn) h rfl (by rfl) (by first | (simp [V.plains, V.plain, bytesA_plains]; done) | rfl)
theorem eCheck_3 (s : List UInt8) (h : Heap) : Den FF E3 66 [.str s] h = some (.val (.int .i64 (checkN s)), none) := den_plain (sp := tCheck) h rfl (by rfl) (by first | (simp [V.plains, V.plain, bytesA_plains]; done) | rfl)
theorem eRCheck_3 (s : List UInt8) (h : Heap) : Den FF E3 64 [.str s] h = some (.val (.int .i64 (checkN s)), none) := den_plain (sp := tCheck) h rfl (by rfl) (by first | (simp [V.plains, V.plain, bytesA_plains]; done) | rfl)
def rightN (k i : Int) (nm : List UInt8) : Bool := (decide (1 ≤ i) && decide (i ≤ 128)) && (((k == 1) && (nm == [])) || ((k == 2) && (checkN nm == 0)))
def tNRight : Ans
  | [.agg [.int .i64 k, .int .i64 i, .str nm]] => some (.bool (rightN k i nm))
  | _ => none
set_option maxHeartbeats 8000000 in
theorem NRight_den (k i : Int) (nm : List UInt8) : ∃ r oh, Den FF E3 20 [.agg [.int .i64 k, .int .i64 i, .str nm]] H0 = some (r, oh) ∧ r = .val (.bool (rightN k i nm)) ∧ oh = none := by
  refine To.denE hxE3 (f := 20) (a := af20) rfl (E3_none rfl) (Nat.le_of_ble_eq_true rfl) ?_
  have q := fun h => eCheck_3 nm h
  unfold rightN
  generalize checkN nm = cn at *
  cases a1 : decide (1 ≤ i)
  · (repeat' (first | refine To.seq hxE3 ?_ | refine To.op0 hxE3 (by simp only [go_sem, eqs hxE3, reduceIte, Nat.reduceEqDiff, Nat.reduceAdd, Nat.reduceMul, Nat.reduceLT, Nat.reduceLeDiff, Int.reduceLT, Int.reduceLE, Int.reduceEq, reduceCtorEq, Int.reduceBEq, Int.reduceBNe, Int.reduceToNat, Nat.reduceSub, Nat.reduceDiv, Int.reduceNeg, Int.reduceAdd, Int.reduceSub, Int.reduceMul, Heap.gets, Heap.sets, Heap.get, bytesA_length, bytesA_one, bytesA_plains, List.take_of_length_le, List.drop_of_length_le, Nat.add_zero, V.one, Nat.reduceLeDiff, List.all_cons, List.all_nil, ne_eq, not_false_eq_true, Nat.zero_le, a1, eIn_3, inB, Bool.true_and, Bool.and_true, Bool.false_and, Bool.and_false]; rfl) ?_ | refine To.op1 hxE3 (by simp only [go_sem, eqs hxE3, reduceIte, Nat.reduceEqDiff, Nat.reduceAdd, Nat.reduceMul, Nat.reduceLT, Nat.reduceLeDiff, Int.reduceLT, Int.reduceLE, Int.reduceEq, reduceCtorEq, Int.reduceBEq, Int.reduceBNe, Int.reduceToNat, Nat.reduceSub, Nat.reduceDiv, Int.reduceNeg, Int.reduceAdd, Int.reduceSub, Int.reduceMul, Heap.gets, Heap.sets, Heap.get, bytesA_length, bytesA_one, bytesA_plains, List.take_of_length_le, List.drop_of_length_le, Nat.add_zero, V.one, Nat.reduceLeDiff, List.all_cons, List.all_nil, ne_eq, not_false_eq_true, Nat.zero_le, a1, eIn_3, inB, Bool.true_and, Bool.and_true, Bool.false_and, Bool.and_false]; rfl) ?_ | refine To.nop hxE3 ?_ | (refine To.condT hxE3 ?_ ?_; focus (simp only [go_sem, eqs hxE3, reduceIte, Nat.reduceEqDiff, Nat.reduceAdd, Nat.reduceMul, Nat.reduceLT, Nat.reduceLeDiff, Int.reduceLT, Int.reduceLE, Int.reduceEq, reduceCtorEq, Int.reduceBEq, Int.reduceBNe, Int.reduceToNat, Nat.reduceSub, Nat.reduceDiv, Int.reduceNeg, Int.reduceAdd, Int.reduceSub, Int.reduceMul, Heap.gets, Heap.sets, Heap.get, bytesA_length, bytesA_one, bytesA_plains, List.take_of_length_le, List.drop_of_length_le, Nat.add_zero, V.one, Nat.reduceLeDiff, List.all_cons, List.all_nil, ne_eq, not_false_eq_true, Nat.zero_le, a1, eIn_3, inB, Bool.true_and, Bool.and_true, Bool.false_and, Bool.and_false]; done)) | (refine To.condF hxE3 ?_ ?_; focus (simp only [go_sem, eqs hxE3, reduceIte, Nat.reduceEqDiff, Nat.reduceAdd, Nat.reduceMul, Nat.reduceLT, Nat.reduceLeDiff, Int.reduceLT, Int.reduceLE, Int.reduceEq, reduceCtorEq, Int.reduceBEq, Int.reduceBNe, Int.reduceToNat, Nat.reduceSub, Nat.reduceDiv, Int.reduceNeg, Int.reduceAdd, Int.reduceSub, Int.reduceMul, Heap.gets, Heap.sets, Heap.get, bytesA_length, bytesA_one, bytesA_plains, List.take_of_length_le, List.drop_of_length_le, Nat.add_zero, V.one, Nat.reduceLeDiff, List.all_cons, List.all_nil, ne_eq, not_false_eq_true, Nat.zero_le, a1, eIn_3, inB, Bool.true_and, Bool.and_true, Bool.false_and, Bool.and_false]; done)) | refine To.block hxE3 ?_ | refine To.scope hxE3 ?_ | refine To.ret hxE3 ?_ | refine To.exit hxE3 ?_ | refine To.skip hxE3 ?_ | refine To.label hxE3 ?_))
    refine ⟨_, _, fin1 (i := 2) rfl, ?_, ?_⟩
    · simp only [go_sem, eqs hxE3, reduceIte, Nat.reduceEqDiff, Nat.reduceAdd, Nat.reduceMul, Nat.reduceLT, Nat.reduceLeDiff, Int.reduceLT, Int.reduceLE, Int.reduceEq, reduceCtorEq, Int.reduceBEq, Int.reduceBNe, Int.reduceToNat, Nat.reduceSub, Nat.reduceDiv, Int.reduceNeg, Int.reduceAdd, Int.reduceSub, Int.reduceMul, a1, Bool.false_and, Bool.true_and, Bool.or_false, Bool.or_true, Bool.true_or, Bool.false_or, Bool.and_false, Bool.and_true]
    · simp only [go_sem, eqs hxE3, reduceIte, Nat.reduceEqDiff, Nat.reduceAdd, Nat.reduceMul, Nat.reduceLT, Nat.reduceLeDiff, Int.reduceLT, Int.reduceLE, Int.reduceEq, reduceCtorEq, Int.reduceBEq, Int.reduceBNe, Int.reduceToNat, Nat.reduceSub, Nat.reduceDiv, Int.reduceNeg, Int.reduceAdd, Int.reduceSub, Int.reduceMul]
  cases a2 : decide (i ≤ 128)
  · (repeat' (first | refine To.seq hxE3 ?_ | refine To.op0 hxE3 (by simp only [go_sem, eqs hxE3, reduceIte, Nat.reduceEqDiff, Nat.reduceAdd, Nat.reduceMul, Nat.reduceLT, Nat.reduceLeDiff, Int.reduceLT, Int.reduceLE, Int.reduceEq, reduceCtorEq, Int.reduceBEq, Int.reduceBNe, Int.reduceToNat, Nat.reduceSub, Nat.reduceDiv, Int.reduceNeg, Int.reduceAdd, Int.reduceSub, Int.reduceMul, Heap.gets, Heap.sets, Heap.get, bytesA_length, bytesA_one, bytesA_plains, List.take_of_length_le, List.drop_of_length_le, Nat.add_zero, V.one, Nat.reduceLeDiff, List.all_cons, List.all_nil, ne_eq, not_false_eq_true, Nat.zero_le, a1, a2, eIn_3, inB, Bool.true_and, Bool.and_true, Bool.false_and, Bool.and_false]; rfl) ?_ | refine To.op1 hxE3 (by simp only [go_sem, eqs hxE3, reduceIte, Nat.reduceEqDiff, Nat.reduceAdd, Nat.reduceMul, Nat.reduceLT, Nat.reduceLeDiff, Int.reduceLT, Int.reduceLE, Int.reduceEq, reduceCtorEq, Int.reduceBEq, Int.reduceBNe, Int.reduceToNat, Nat.reduceSub, Nat.reduceDiv, Int.reduceNeg, Int.reduceAdd, Int.reduceSub, Int.reduceMul, Heap.gets, Heap.sets, Heap.get, bytesA_length, bytesA_one, bytesA_plains, List.take_of_length_le, List.drop_of_length_le, Nat.add_zero, V.one, Nat.reduceLeDiff, List.all_cons, List.all_nil, ne_eq, not_false_eq_true, Nat.zero_le, a1, a2, eIn_3, inB, Bool.true_and, Bool.and_true, Bool.false_and, Bool.and_false]; rfl) ?_ | refine To.nop hxE3 ?_ | (refine To.condT hxE3 ?_ ?_; focus (simp only [go_sem, eqs hxE3, reduceIte, Nat.reduceEqDiff, Nat.reduceAdd, Nat.reduceMul, Nat.reduceLT, Nat.reduceLeDiff, Int.reduceLT, Int.reduceLE, Int.reduceEq, reduceCtorEq, Int.reduceBEq, Int.reduceBNe, Int.reduceToNat, Nat.reduceSub, Nat.reduceDiv, Int.reduceNeg, Int.reduceAdd, Int.reduceSub, Int.reduceMul, Heap.gets, Heap.sets, Heap.get, bytesA_length, bytesA_one, bytesA_plains, List.take_of_length_le, List.drop_of_length_le, Nat.add_zero, V.one, Nat.reduceLeDiff, List.all_cons, List.all_nil, ne_eq, not_false_eq_true, Nat.zero_le, a1, a2, eIn_3, inB, Bool.true_and, Bool.and_true, Bool.false_and, Bool.and_false]; done)) | (refine To.condF hxE3 ?_ ?_; focus (simp only [go_sem, eqs hxE3, reduceIte, Nat.reduceEqDiff, Nat.reduceAdd, Nat.reduceMul, Nat.reduceLT, Nat.reduceLeDiff, Int.reduceLT, Int.reduceLE, Int.reduceEq, reduceCtorEq, Int.reduceBEq, Int.reduceBNe, Int.reduceToNat, Nat.reduceSub, Nat.reduceDiv, Int.reduceNeg, Int.reduceAdd, Int.reduceSub, Int.reduceMul, Heap.gets, Heap.sets, Heap.get, bytesA_length, bytesA_one, bytesA_plains, List.take_of_length_le, List.drop_of_length_le, Nat.add_zero, V.one, Nat.reduceLeDiff, List.all_cons, List.all_nil, ne_eq, not_false_eq_true, Nat.zero_le, a1, a2, eIn_3, inB, Bool.true_and, Bool.and_true, Bool.false_and, Bool.and_false]; done)) | refine To.block hxE3 ?_ | refine To.scope hxE3 ?_ | refine To.ret hxE3 ?_ | refine To.exit hxE3 ?_ | refine To.skip hxE3 ?_ | refine To.label hxE3 ?_))
    refine ⟨_, _, fin1 (i := 2) rfl, ?_, ?_⟩
    · simp only [go_sem, eqs hxE3, reduceIte, Nat.reduceEqDiff, Nat.reduceAdd, Nat.reduceMul, Nat.reduceLT, Nat.reduceLeDiff, Int.reduceLT, Int.reduceLE, Int.reduceEq, reduceCtorEq, Int.reduceBEq, Int.reduceBNe, Int.reduceToNat, Nat.reduceSub, Nat.reduceDiv, Int.reduceNeg, Int.reduceAdd, Int.reduceSub, Int.reduceMul, a1, a2, Bool.false_and, Bool.true_and, Bool.or_false, Bool.or_true, Bool.true_or, Bool.false_or, Bool.and_false, Bool.and_true]
    · simp only [go_sem, eqs hxE3, reduceIte, Nat.reduceEqDiff, Nat.reduceAdd, Nat.reduceMul, Nat.reduceLT, Nat.reduceLeDiff, Int.reduceLT, Int.reduceLE, Int.reduceEq, reduceCtorEq, Int.reduceBEq, Int.reduceBNe, Int.reduceToNat, Nat.reduceSub, Nat.reduceDiv, Int.reduceNeg, Int.reduceAdd, Int.reduceSub, Int.reduceMul]
  cases b1 : (k == 1)
  · cases b3 : (k == 2)
    · (repeat' (first | refine To.seq hxE3 ?_ | refine To.op0 hxE3 (by simp only [go_sem, eqs hxE3, reduceIte, Nat.reduceEqDiff, Nat.reduceAdd, Nat.reduceMul, Nat.reduceLT, Nat.reduceLeDiff, Int.reduceLT, Int.reduceLE, Int.reduceEq, reduceCtorEq, Int.reduceBEq, Int.reduceBNe, Int.reduceToNat, Nat.reduceSub, Nat.reduceDiv, Int.reduceNeg, Int.reduceAdd, Int.reduceSub, Int.reduceMul, Heap.gets, Heap.sets, Heap.get, bytesA_length, bytesA_one, bytesA_plains, List.take_of_length_le, List.drop_of_length_le, Nat.add_zero, V.one, Nat.reduceLeDiff, List.all_cons, List.all_nil, ne_eq, not_false_eq_true, Nat.zero_le, a1, a2, b1, b3, eIn_3, inB, Bool.true_and, Bool.and_true, Bool.false_and, Bool.and_false]; rfl) ?_ | refine To.op1 hxE3 (by simp only [go_sem, eqs hxE3, reduceIte, Nat.reduceEqDiff, Nat.reduceAdd, Nat.reduceMul, Nat.reduceLT, Nat.reduceLeDiff, Int.reduceLT, Int.reduceLE, Int.reduceEq, reduceCtorEq, Int.reduceBEq, Int.reduceBNe, Int.reduceToNat, Nat.reduceSub, Nat.reduceDiv, Int.reduceNeg, Int.reduceAdd, Int.reduceSub, Int.reduceMul, Heap.gets, Heap.sets, Heap.get, bytesA_length, bytesA_one, bytesA_plains, List.take_of_length_le, List.drop_of_length_le, Nat.add_zero, V.one, Nat.reduceLeDiff, List.all_cons, List.all_nil, ne_eq, not_false_eq_true, Nat.zero_le, a1, a2, b1, b3, eIn_3, inB, Bool.true_and, Bool.and_true, Bool.false_and, Bool.and_false]; rfl) ?_ | refine To.nop hxE3 ?_ | (refine To.condT hxE3 ?_ ?_; focus (simp only [go_sem, eqs hxE3, reduceIte, Nat.reduceEqDiff, Nat.reduceAdd, Nat.reduceMul, Nat.reduceLT, Nat.reduceLeDiff, Int.reduceLT, Int.reduceLE, Int.reduceEq, reduceCtorEq, Int.reduceBEq, Int.reduceBNe, Int.reduceToNat, Nat.reduceSub, Nat.reduceDiv, Int.reduceNeg, Int.reduceAdd, Int.reduceSub, Int.reduceMul, Heap.gets, Heap.sets, Heap.get, bytesA_length, bytesA_one, bytesA_plains, List.take_of_length_le, List.drop_of_length_le, Nat.add_zero, V.one, Nat.reduceLeDiff, List.all_cons, List.all_nil, ne_eq, not_false_eq_true, Nat.zero_le, a1, a2, b1, b3, eIn_3, inB, Bool.true_and, Bool.and_true, Bool.false_and, Bool.and_false]; done)) | (refine To.condF hxE3 ?_ ?_; focus (simp only [go_sem, eqs hxE3, reduceIte, Nat.reduceEqDiff, Nat.reduceAdd, Nat.reduceMul, Nat.reduceLT, Nat.reduceLeDiff, Int.reduceLT, Int.reduceLE, Int.reduceEq, reduceCtorEq, Int.reduceBEq, Int.reduceBNe, Int.reduceToNat, Nat.reduceSub, Nat.reduceDiv, Int.reduceNeg, Int.reduceAdd, Int.reduceSub, Int.reduceMul, Heap.gets, Heap.sets, Heap.get, bytesA_length, bytesA_one, bytesA_plains, List.take_of_length_le, List.drop_of_length_le, Nat.add_zero, V.one, Nat.reduceLeDiff, List.all_cons, List.all_nil, ne_eq, not_false_eq_true, Nat.zero_le, a1, a2, b1, b3, eIn_3, inB, Bool.true_and, Bool.and_true, Bool.false_and, Bool.and_false]; done)) | refine To.block hxE3 ?_ | refine To.scope hxE3 ?_ | refine To.ret hxE3 ?_ | refine To.exit hxE3 ?_ | refine To.skip hxE3 ?_ | refine To.label hxE3 ?_))
      refine ⟨_, _, fin1 (i := 2) rfl, ?_, ?_⟩
      · simp only [go_sem, eqs hxE3, reduceIte, Nat.reduceEqDiff, Nat.reduceAdd, Nat.reduceMul, Nat.reduceLT, Nat.reduceLeDiff, Int.reduceLT, Int.reduceLE, Int.reduceEq, reduceCtorEq, Int.reduceBEq, Int.reduceBNe, Int.reduceToNat, Nat.reduceSub, Nat.reduceDiv, Int.reduceNeg, Int.reduceAdd, Int.reduceSub, Int.reduceMul, a1, a2, b1, b3, Bool.false_and, Bool.true_and, Bool.or_false, Bool.or_true, Bool.true_or, Bool.false_or, Bool.and_false, Bool.and_true]
      · simp only [go_sem, eqs hxE3, reduceIte, Nat.reduceEqDiff, Nat.reduceAdd, Nat.reduceMul, Nat.reduceLT, Nat.reduceLeDiff, Int.reduceLT, Int.reduceLE, Int.reduceEq, reduceCtorEq, Int.reduceBEq, Int.reduceBNe, Int.reduceToNat, Nat.reduceSub, Nat.reduceDiv, Int.reduceNeg, Int.reduceAdd, Int.reduceSub, Int.reduceMul]
    cases b4 : (cn == 0)
    · (repeat' (first | refine To.seq hxE3 ?_ | refine To.op0 hxE3 (by simp only [go_sem, eqs hxE3, reduceIte, Nat.reduceEqDiff, Nat.reduceAdd, Nat.reduceMul, Nat.reduceLT, Nat.reduceLeDiff, Int.reduceLT, Int.reduceLE, Int.reduceEq, reduceCtorEq, Int.reduceBEq, Int.reduceBNe, Int.reduceToNat, Nat.reduceSub, Nat.reduceDiv, Int.reduceNeg, Int.reduceAdd, Int.reduceSub, Int.reduceMul, Heap.gets, Heap.sets, Heap.get, bytesA_length, bytesA_one, bytesA_plains, List.take_of_length_le, List.drop_of_length_le, Nat.add_zero, V.one, Nat.reduceLeDiff, List.all_cons, List.all_nil, ne_eq, not_false_eq_true, Nat.zero_le, a1, a2, b1, b3, b4, q, eIn_3, inB, Bool.true_and, Bool.and_true, Bool.false_and, Bool.and_false]; rfl) ?_ | refine To.op1 hxE3 (by simp only [go_sem, eqs hxE3, reduceIte, Nat.reduceEqDiff, Nat.reduceAdd, Nat.reduceMul, Nat.reduceLT, Nat.reduceLeDiff, Int.reduceLT, Int.reduceLE, Int.reduceEq, reduceCtorEq, Int.reduceBEq, Int.reduceBNe, Int.reduceToNat, Nat.reduceSub, Nat.reduceDiv, Int.reduceNeg, Int.reduceAdd, Int.reduceSub, Int.reduceMul, Heap.gets, Heap.sets, Heap.get, bytesA_length, bytesA_one, bytesA_plains, List.take_of_length_le, List.drop_of_length_le, Nat.add_zero, V.one, Nat.reduceLeDiff, List.all_cons, List.all_nil, ne_eq, not_false_eq_true, Nat.zero_le, a1, a2, b1, b3, b4, q, eIn_3, inB, Bool.true_and, Bool.and_true, Bool.false_and, Bool.and_false]; rfl) ?_ | refine To.nop hxE3 ?_ | (refine To.condT hxE3 ?_ ?_; focus (simp only [go_sem, eqs hxE3, reduceIte, Nat.reduceEqDiff, Nat.reduceAdd, Nat.reduceMul, Nat.reduceLT, Nat.reduceLeDiff, Int.reduceLT, Int.reduceLE, Int.reduceEq, reduceCtorEq, Int.reduceBEq, Int.reduceBNe, Int.reduceToNat, Nat.reduceSub, Nat.reduceDiv, Int.reduceNeg, Int.reduceAdd, Int.reduceSub, Int.reduceMul, Heap.gets, Heap.sets, Heap.get, bytesA_length, bytesA_one, bytesA_plains, List.take_of_length_le, List.drop_of_length_le, Nat.add_zero, V.one, Nat.reduceLeDiff, List.all_cons, List.all_nil, ne_eq, not_false_eq_true, Nat.zero_le, a1, a2, b1, b3, b4, q, eIn_3, inB, Bool.true_and, Bool.and_true, Bool.false_and, Bool.and_false]; done)) | (refine To.condF hxE3 ?_ ?_; focus (simp only [go_sem, eqs hxE3, reduceIte, Nat.reduceEqDiff, Nat.reduceAdd, Nat.reduceMul, Nat.reduceLT, Nat.reduceLeDiff, Int.reduceLT, Int.reduceLE, Int.reduceEq, reduceCtorEq, Int.reduceBEq, Int.reduceBNe, Int.reduceToNat, Nat.reduceSub, Nat.reduceDiv, Int.reduceNeg, Int.reduceAdd, Int.reduceSub, Int.reduceMul, Heap.gets, Heap.sets, Heap.get, bytesA_length, bytesA_one, bytesA_plains, List.take_of_length_le, List.drop_of_length_le, Nat.add_zero, V.one, Nat.reduceLeDiff, List.all_cons, List.all_nil, ne_eq, not_false_eq_true, Nat.zero_le, a1, a2, b1, b3, b4, q, eIn_3, inB, Bool.true_and, Bool.and_true, Bool.false_and, Bool.and_false]; done)) | refine To.block hxE3 ?_ | refine To.scope hxE3 ?_ | refine To.ret hxE3 ?_ | refine To.exit hxE3 ?_ | refine To.skip hxE3 ?_ | refine To.label hxE3 ?_))
      refine ⟨_, _, fin1 (i := 2) rfl, ?_, ?_⟩
      · simp only [go_sem, eqs hxE3, reduceIte, Nat.reduceEqDiff, Nat.reduceAdd, Nat.reduceMul, Nat.reduceLT, Nat.reduceLeDiff, Int.reduceLT, Int.reduceLE, Int.reduceEq, reduceCtorEq, Int.reduceBEq, Int.reduceBNe, Int.reduceToNat, Nat.reduceSub, Nat.reduceDiv, Int.reduceNeg, Int.reduceAdd, Int.reduceSub, Int.reduceMul, a1, a2, b1, b3, b4, Bool.false_and, Bool.true_and, Bool.or_false, Bool.or_true, Bool.true_or, Bool.false_or, Bool.and_false, Bool.and_true]
      · simp only [go_sem, eqs hxE3, reduceIte, Nat.reduceEqDiff, Nat.reduceAdd, Nat.reduceMul, Nat.reduceLT, Nat.reduceLeDiff, Int.reduceLT, Int.reduceLE, Int.reduceEq, reduceCtorEq, Int.reduceBEq, Int.reduceBNe, Int.reduceToNat, Nat.reduceSub, Nat.reduceDiv, Int.reduceNeg, Int.reduceAdd, Int.reduceSub, Int.reduceMul]
    · (repeat' (first | refine To.seq hxE3 ?_ | refine To.op0 hxE3 (by simp only [go_sem, eqs hxE3, reduceIte, Nat.reduceEqDiff, Nat.reduceAdd, Nat.reduceMul, Nat.reduceLT, Nat.reduceLeDiff, Int.reduceLT, Int.reduceLE, Int.reduceEq, reduceCtorEq, Int.reduceBEq, Int.reduceBNe, Int.reduceToNat, Nat.reduceSub, Nat.reduceDiv, Int.reduceNeg, Int.reduceAdd, Int.reduceSub, Int.reduceMul, Heap.gets, Heap.sets, Heap.get, bytesA_length, bytesA_one, bytesA_plains, List.take_of_length_le, List.drop_of_length_le, Nat.add_zero, V.one, Nat.reduceLeDiff, List.all_cons, List.all_nil, ne_eq, not_false_eq_true, Nat.zero_le, a1, a2, b1, b3, b4, q, eIn_3, inB, Bool.true_and, Bool.and_true, Bool.false_and, Bool.and_false]; rfl) ?_ | refine To.op1 hxE3 (by simp only [go_sem, eqs hxE3, reduceIte, Nat.reduceEqDiff, Nat.reduceAdd, Nat.reduceMul, Nat.reduceLT, Nat.reduceLeDiff, Int.reduceLT, Int.reduceLE, Int.reduceEq, reduceCtorEq, Int.reduceBEq, Int.reduceBNe, Int.reduceToNat, Nat.reduceSub, Nat.reduceDiv, Int.reduceNeg, Int.reduceAdd, Int.reduceSub, Int.reduceMul, Heap.gets, Heap.sets, Heap.get, bytesA_length, bytesA_one, bytesA_plains, List.take_of_length_le, List.drop_of_length_le, Nat.add_zero, V.one, Nat.reduceLeDiff, List.all_cons, List.all_nil, ne_eq, not_false_eq_true, Nat.zero_le, a1, a2, b1, b3, b4, q, eIn_3, inB, Bool.true_and, Bool.and_true, Bool.false_and, Bool.and_false]; rfl) ?_ | refine To.nop hxE3 ?_ | (refine To.condT hxE3 ?_ ?_; focus (simp only [go_sem, eqs hxE3, reduceIte, Nat.reduceEqDiff, Nat.reduceAdd, Nat.reduceMul, Nat.reduceLT, Nat.reduceLeDiff, Int.reduceLT, Int.reduceLE, Int.reduceEq, reduceCtorEq, Int.reduceBEq, Int.reduceBNe, Int.reduceToNat, Nat.reduceSub, Nat.reduceDiv, Int.reduceNeg, Int.reduceAdd, Int.reduceSub, Int.reduceMul, Heap.gets, Heap.sets, Heap.get, bytesA_length, bytesA_one, bytesA_plains, List.take_of_length_le, List.drop_of_length_le, Nat.add_zero, V.one, Nat.reduceLeDiff, List.all_cons, List.all_nil, ne_eq, not_false_eq_true, Nat.zero_le, a1, a2, b1, b3, b4, q, eIn_3, inB, Bool.true_and, Bool.and_true, Bool.false_and, Bool.and_false]; done)) | (refine To.condF hxE3 ?_ ?_; focus (simp only [go_sem, eqs hxE3, reduceIte, Nat.reduceEqDiff, Nat.reduceAdd, Nat.reduceMul, Nat.reduceLT, Nat.reduceLeDiff, Int.reduceLT, Int.reduceLE, Int.reduceEq, reduceCtorEq, Int.reduceBEq, Int.reduceBNe, Int.reduceToNat, Nat.reduceSub, Nat.reduceDiv, Int.reduceNeg, Int.reduceAdd, Int.reduceSub, Int.reduceMul, Heap.gets, Heap.sets, Heap.get, bytesA_length, bytesA_one, bytesA_plains, List.take_of_length_le, List.drop_of_length_le, Nat.add_zero, V.one, Nat.reduceLeDiff, List.all_cons, List.all_nil, ne_eq, not_false_eq_true, Nat.zero_le, a1, a2, b1, b3, b4, q, eIn_3, inB, Bool.true_and, Bool.and_true, Bool.false_and, Bool.and_false]; done)) | refine To.block hxE3 ?_ | refine To.scope hxE3 ?_ | refine To.ret hxE3 ?_ | refine To.exit hxE3 ?_ | refine To.skip hxE3 ?_ | refine To.label hxE3 ?_))
      refine ⟨_, _, fin1 (i := 2) rfl, ?_, ?_⟩
      · simp only [go_sem, eqs hxE3, reduceIte, Nat.reduceEqDiff, Nat.reduceAdd, Nat.reduceMul, Nat.reduceLT, Nat.reduceLeDiff, Int.reduceLT, Int.reduceLE, Int.reduceEq, reduceCtorEq, Int.reduceBEq, Int.reduceBNe, Int.reduceToNat, Nat.reduceSub, Nat.reduceDiv, Int.reduceNeg, Int.reduceAdd, Int.reduceSub, Int.reduceMul, a1, a2, b1, b3, b4, Bool.false_and, Bool.true_and, Bool.or_false, Bool.or_true, Bool.true_or, Bool.false_or, Bool.and_false, Bool.and_true]
      · simp only [go_sem, eqs hxE3, reduceIte, Nat.reduceEqDiff, Nat.reduceAdd, Nat.reduceMul, Nat.reduceLT, Nat.reduceLeDiff, Int.reduceLT, Int.reduceLE, Int.reduceEq, reduceCtorEq, Int.reduceBEq, Int.reduceBNe, Int.reduceToNat, Nat.reduceSub, Nat.reduceDiv, Int.reduceNeg, Int.reduceAdd, Int.reduceSub, Int.reduceMul]
  · cases b2 : (nm == [])
    · cases b3 : (k == 2)
      · (repeat' (first | refine To.seq hxE3 ?_ | refine To.op0 hxE3 (by simp only [go_sem, eqs hxE3, reduceIte, Nat.reduceEqDiff, Nat.reduceAdd, Nat.reduceMul, Nat.reduceLT, Nat.reduceLeDiff, Int.reduceLT, Int.reduceLE, Int.reduceEq, reduceCtorEq, Int.reduceBEq, Int.reduceBNe, Int.reduceToNat, Nat.reduceSub, Nat.reduceDiv, Int.reduceNeg, Int.reduceAdd, Int.reduceSub, Int.reduceMul, Heap.gets, Heap.sets, Heap.get, bytesA_length, bytesA_one, bytesA_plains, List.take_of_length_le, List.drop_of_length_le, Nat.add_zero, V.one, Nat.reduceLeDiff, List.all_cons, List.all_nil, ne_eq, not_false_eq_true, Nat.zero_le, a1, a2, b1, b2, b3, eIn_3, inB, Bool.true_and, Bool.and_true, Bool.false_and, Bool.and_false]; rfl) ?_ | refine To.op1 hxE3 (by simp only [go_sem, eqs hxE3, reduceIte, Nat.reduceEqDiff, Nat.reduceAdd, Nat.reduceMul, Nat.reduceLT, Nat.reduceLeDiff, Int.reduceLT, Int.reduceLE, Int.reduceEq, reduceCtorEq, Int.reduceBEq, Int.reduceBNe, Int.reduceToNat, Nat.reduceSub, Nat.reduceDiv, Int.reduceNeg, Int.reduceAdd, Int.reduceSub, Int.reduceMul, Heap.gets, Heap.sets, Heap.get, bytesA_length, bytesA_one, bytesA_plains, List.take_of_length_le, List.drop_of_length_le, Nat.add_zero, V.one, Nat.reduceLeDiff, List.all_cons, List.all_nil, ne_eq, not_false_eq_true, Nat.zero_le, a1, a2, b1, b2, b3, eIn_3, inB, Bool.true_and, Bool.and_true, Bool.false_and, Bool.and_false]; rfl) ?_ | refine To.nop hxE3 ?_ | (refine To.condT hxE3 ?_ ?_; focus (simp only [go_sem, eqs hxE3, reduceIte, Nat.reduceEqDiff, Nat.reduceAdd, Nat.reduceMul, Nat.reduceLT, Nat.reduceLeDiff, Int.reduceLT, Int.reduceLE, Int.reduceEq, reduceCtorEq, Int.reduceBEq, Int.reduceBNe, Int.reduceToNat, Nat.reduceSub, Nat.reduceDiv, Int.reduceNeg, Int.reduceAdd, Int.reduceSub, Int.reduceMul, Heap.gets, Heap.sets, Heap.get, bytesA_length, bytesA_one, bytesA_plains, List.take_of_length_le, List.drop_of_length_le, Nat.add_zero, V.one, Nat.reduceLeDiff, List.all_cons, List.all_nil, ne_eq, not_false_eq_true, Nat.zero_le, a1, a2, b1, b2, b3, eIn_3, inB, Bool.true_and, Bool.and_true, Bool.false_and, Bool.and_false]; done)) | (refine To.condF hxE3 ?_ ?_; focus (simp only [go_sem, eqs hxE3, reduceIte, Nat.reduceEqDiff, Nat.reduceAdd, Nat.reduceMul, Nat.reduceLT, Nat.reduceLeDiff, Int.reduceLT, Int.reduceLE, Int.reduceEq, reduceCtorEq, Int.reduceBEq, Int.reduceBNe, Int.reduceToNat, Nat.reduceSub, Nat.reduceDiv, Int.reduceNeg, Int.reduceAdd, Int.reduceSub, Int.reduceMul, Heap.gets, Heap.sets, Heap.get, bytesA_length, bytesA_one, bytesA_plains, List.take_of_length_le, List.drop_of_length_le, Nat.add_zero, V.one, Nat.reduceLeDiff, List.all_cons, List.all_nil, ne_eq, not_false_eq_true, Nat.zero_le, a1, a2, b1, b2, b3, eIn_3, inB, Bool.true_and, Bool.and_true, Bool.false_and, Bool.and_false]; done)) | refine To.block hxE3 ?_ | refine To.scope hxE3 ?_ | refine To.ret hxE3 ?_ | refine To.exit hxE3 ?_ | refine To.skip hxE3 ?_ | refine To.label hxE3 ?_))
        refine ⟨_, _, fin1 (i := 2) rfl, ?_, ?_⟩
        · simp only [go_sem, eqs hxE3, reduceIte, Nat.reduceEqDiff, Nat.reduceAdd, Nat.reduceMul, Nat.reduceLT, Nat.reduceLeDiff, Int.reduceLT, Int.reduceLE, Int.reduceEq, reduceCtorEq, Int.reduceBEq, Int.reduceBNe, Int.reduceToNat, Nat.reduceSub, Nat.reduceDiv, Int.reduceNeg, Int.reduceAdd, Int.reduceSub, Int.reduceMul, a1, a2, b1, b2, b3, Bool.false_and, Bool.true_and, Bool.or_false, Bool.or_true, Bool.true_or, Bool.false_or, Bool.and_false, Bool.and_true]
        · simp only [go_sem, eqs hxE3, reduceIte, Nat.reduceEqDiff, Nat.reduceAdd, Nat.reduceMul, Nat.reduceLT, Nat.reduceLeDiff, Int.reduceLT, Int.reduceLE, Int.reduceEq, reduceCtorEq, Int.reduceBEq, Int.reduceBNe, Int.reduceToNat, Nat.reduceSub, Nat.reduceDiv, Int.reduceNeg, Int.reduceAdd, Int.reduceSub, Int.reduceMul]
      cases b4 : (cn == 0)
      · (repeat' (first | refine To.seq hxE3 ?_ | refine To.op0 hxE3 (by simp only [go_sem, eqs hxE3, reduceIte, Nat.reduceEqDiff, Nat.reduceAdd, Nat.reduceMul, Nat.reduceLT, Nat.reduceLeDiff, Int.reduceLT, Int.reduceLE, Int.reduceEq, reduceCtorEq, Int.reduceBEq, Int.reduceBNe, Int.reduceToNat, Nat.reduceSub, Nat.reduceDiv, Int.reduceNeg, Int.reduceAdd, Int.reduceSub, Int.reduceMul, Heap.gets, Heap.sets, Heap.get, bytesA_length, bytesA_one, bytesA_plains, List.take_of_length_le, List.drop_of_length_le, Nat.add_zero, V.one, Nat.reduceLeDiff, List.all_cons, List.all_nil, ne_eq, not_false_eq_true, Nat.zero_le, a1, a2, b1, b2, b3, b4, q, eIn_3, inB, Bool.true_and, Bool.and_true, Bool.false_and, Bool.and_false]; rfl) ?_ | refine To.op1 hxE3 (by simp only [go_sem, eqs hxE3, reduceIte, Nat.reduceEqDiff, Nat.reduceAdd, Nat.reduceMul, Nat.reduceLT, Nat.reduceLeDiff, Int.reduceLT, Int.reduceLE, Int.reduceEq, reduceCtorEq, Int.reduceBEq, Int.reduceBNe, Int.reduceToNat, Nat.reduceSub, Nat.reduceDiv, Int.reduceNeg, Int.reduceAdd, Int.reduceSub, Int.reduceMul, Heap.gets, Heap.sets, Heap.get, bytesA_length, bytesA_one, bytesA_plains, List.take_of_length_le, List.drop_of_length_le, Nat.add_zero, V.one, Nat.reduceLeDiff, List.all_cons, List.all_nil, ne_eq, not_false_eq_true, Nat.zero_le, a1, a2, b1, b2, b3, b4, q, eIn_3, inB, Bool.true_and, Bool.and_true, Bool.false_and, Bool.and_false]; rfl) ?_ | refine To.nop hxE3 ?_ | (refine To.condT hxE3 ?_ ?_; focus (simp only [go_sem, eqs hxE3, reduceIte, Nat.reduceEqDiff, Nat.reduceAdd, Nat.reduceMul, Nat.reduceLT, Nat.reduceLeDiff, Int.reduceLT, Int.reduceLE, Int.reduceEq, reduceCtorEq, Int.reduceBEq, Int.reduceBNe, Int.reduceToNat, Nat.reduceSub, Nat.reduceDiv, Int.reduceNeg, Int.reduceAdd, Int.reduceSub, Int.reduceMul, Heap.gets, Heap.sets, Heap.get, bytesA_length, bytesA_one, bytesA_plains, List.take_of_length_le, List.drop_of_length_le, Nat.add_zero, V.one, Nat.reduceLeDiff, List.all_cons, List.all_nil, ne_eq, not_false_eq_true, Nat.zero_le, a1, a2, b1, b2, b3, b4, q, eIn_3, inB, Bool.true_and, Bool.and_true, Bool.false_and, Bool.and_false]; done)) | (refine To.condF hxE3 ?_ ?_; focus (simp only [go_sem, eqs hxE3, reduceIte, Nat.reduceEqDiff, Nat.reduceAdd, Nat.reduceMul, Nat.reduceLT, Nat.reduceLeDiff, Int.reduceLT, Int.reduceLE, Int.reduceEq, reduceCtorEq, Int.reduceBEq, Int.reduceBNe, Int.reduceToNat, Nat.reduceSub, Nat.reduceDiv, Int.reduceNeg, Int.reduceAdd, Int.reduceSub, Int.reduceMul, Heap.gets, Heap.sets, Heap.get, bytesA_length, bytesA_one, bytesA_plains, List.take_of_length_le, List.drop_of_length_le, Nat.add_zero, V.one, Nat.reduceLeDiff, List.all_cons, List.all_nil, ne_eq, not_false_eq_true, Nat.zero_le, a1, a2, b1, b2, b3, b4, q, eIn_3, inB, Bool.true_and, Bool.and_true, Bool.false_and, Bool.and_false]; done)) | refine To.block hxE3 ?_ | refine To.scope hxE3 ?_ | refine To.ret hxE3 ?_ | refine To.exit hxE3 ?_ | refine To.skip hxE3 ?_ | refine To.label hxE3 ?_))
        refine ⟨_, _, fin1 (i := 2) rfl, ?_, ?_⟩
        · simp only [go_sem, eqs hxE3, reduceIte, Nat.reduceEqDiff, Nat.reduceAdd, Nat.reduceMul, Nat.reduceLT, Nat.reduceLeDiff, Int.reduceLT, Int.reduceLE, Int.reduceEq, reduceCtorEq, Int.reduceBEq, Int.reduceBNe, Int.reduceToNat, Nat.reduceSub, Nat.reduceDiv, Int.reduceNeg, Int.reduceAdd, Int.reduceSub, Int.reduceMul, a1, a2, b1, b2, b3, b4, Bool.false_and, Bool.true_and, Bool.or_false, Bool.or_true, Bool.true_or, Bool.false_or, Bool.and_false, Bool.and_true]
        · simp only [go_sem, eqs hxE3, reduceIte, Nat.reduceEqDiff, Nat.reduceAdd, Nat.reduceMul, Nat.reduceLT, Nat.reduceLeDiff, Int.reduceLT, Int.reduceLE, Int.reduceEq, reduceCtorEq, Int.reduceBEq, Int.reduceBNe, Int.reduceToNat, Nat.reduceSub, Nat.reduceDiv, Int.reduceNeg, Int.reduceAdd, Int.reduceSub, Int.reduceMul]
      · (repeat' (first | refine To.seq hxE3 ?_ | refine To.op0 hxE3 (by simp only [go_sem, eqs hxE3, reduceIte, Nat.reduceEqDiff, Nat.reduceAdd, Nat.reduceMul, Nat.reduceLT, Nat.reduceLeDiff, Int.reduceLT, Int.reduceLE, Int.reduceEq, reduceCtorEq, Int.reduceBEq, Int.reduceBNe, Int.reduceToNat, Nat.reduceSub, Nat.reduceDiv, Int.reduceNeg, Int.reduceAdd, Int.reduceSub, Int.reduceMul, Heap.gets, Heap.sets, Heap.get, bytesA_length, bytesA_one, bytesA_plains, List.take_of_length_le, List.drop_of_length_le, Nat.add_zero, V.one, Nat.reduceLeDiff, List.all_cons, List.all_nil, ne_eq, not_false_eq_true, Nat.zero_le, a1, a2, b1, b2, b3, b4, q, eIn_3, inB, Bool.true_and, Bool.and_true, Bool.false_and, Bool.and_false]; rfl) ?_ | refine To.op1 hxE3 (by simp only [go_sem, eqs hxE3, reduceIte, Nat.reduceEqDiff, Nat.reduceAdd, Nat.reduceMul, Nat.reduceLT, Nat.reduceLeDiff, Int.reduceLT, Int.reduceLE, Int.reduceEq, reduceCtorEq, Int.reduceBEq, Int.reduceBNe, Int.reduceToNat, Nat.reduceSub, Nat.reduceDiv, Int.reduceNeg, Int.reduceAdd, Int.reduceSub, Int.reduceMul, Heap.gets, Heap.sets, Heap.get, bytesA_length, bytesA_one, bytesA_plains, List.take_of_length_le, List.drop_of_length_le, Nat.add_zero, V.one, Nat.reduceLeDiff, List.all_cons, List.all_nil, ne_eq, not_false_eq_true, Nat.zero_le, a1, a2, b1, b2, b3, b4, q, eIn_3, inB, Bool.true_and, Bool.and_true, Bool.false_and, Bool.and_false]; rfl) ?_ | refine To.nop hxE3 ?_ | (refine To.condT hxE3 ?_ ?_; focus (simp only [go_sem, eqs hxE3, reduceIte, Nat.reduceEqDiff, Nat.reduceAdd, Nat.reduceMul, Nat.reduceLT, Nat.reduceLeDiff, Int.reduceLT, Int.reduceLE, Int.reduceEq, reduceCtorEq, Int.reduceBEq, Int.reduceBNe, Int.reduceToNat, Nat.reduceSub, Nat.reduceDiv, Int.reduceNeg, Int.reduceAdd, Int.reduceSub, Int.reduceMul, Heap.gets, Heap.sets, Heap.get, bytesA_length, bytesA_one, bytesA_plains, List.take_of_length_le, List.drop_of_length_le, Nat.add_zero, V.one, Nat.reduceLeDiff, List.all_cons, List.all_nil, ne_eq, not_false_eq_true, Nat.zero_le, a1, a2, b1, b2, b3, b4, q, eIn_3, inB, Bool.true_and, Bool.and_true, Bool.false_and, Bool.and_false]; done)) | (refine To.condF hxE3 ?_ ?_; focus (simp only [go_sem, eqs hxE3, reduceIte, Nat.reduceEqDiff, Nat.reduceAdd, Nat.reduceMul, Nat.reduceLT, Nat.reduceLeDiff, Int.reduceLT, Int.reduceLE, Int.reduceEq, reduceCtorEq, Int.reduceBEq, Int.reduceBNe, Int.reduceToNat, Nat.reduceSub, Nat.reduceDiv, Int.reduceNeg, Int.reduceAdd, Int.reduceSub, Int.reduceMul, Heap.gets, Heap.sets, Heap.get, bytesA_length, bytesA_one, bytesA_plains, List.take_of_length_le, List.drop_of_length_le, Nat.add_zero, V.one, Nat.reduceLeDiff, List.all_cons, List.all_nil, ne_eq, not_false_eq_true, Nat.zero_le, a1, a2, b1, b2, b3, b4, q, eIn_3, inB, Bool.true_and, Bool.and_true, Bool.false_and, Bool.and_false]; done)) | refine To.block hxE3 ?_ | refine To.scope hxE3 ?_ | refine To.ret hxE3 ?_ | refine To.exit hxE3 ?_ | refine To.skip hxE3 ?_ | refine To.label hxE3 ?_))
        refine ⟨_, _, fin1 (i := 2) rfl, ?_, ?_⟩
        · simp only [go_sem, eqs hxE3, reduceIte, Nat.reduceEqDiff, Nat.reduceAdd, Nat.reduceMul, Nat.reduceLT, Nat.reduceLeDiff, Int.reduceLT, Int.reduceLE, Int.reduceEq, reduceCtorEq, Int.reduceBEq, Int.reduceBNe, Int.reduceToNat, Nat.reduceSub, Nat.reduceDiv, Int.reduceNeg, Int.reduceAdd, Int.reduceSub, Int.reduceMul, a1, a2, b1, b2, b3, b4, Bool.false_and, Bool.true_and, Bool.or_false, Bool.or_true, Bool.true_or, Bool.false_or, Bool.and_false, Bool.and_true]
        · simp only [go_sem, eqs hxE3, reduceIte, Nat.reduceEqDiff, Nat.reduceAdd, Nat.reduceMul, Nat.reduceLT, Nat.reduceLeDiff, Int.reduceLT, Int.reduceLE, Int.reduceEq, reduceCtorEq, Int.reduceBEq, Int.reduceBNe, Int.reduceToNat, Nat.reduceSub, Nat.reduceDiv, Int.reduceNeg, Int.reduceAdd, Int.reduceSub, Int.reduceMul]
    · (repeat' (first | refine To.seq hxE3 ?_ | refine To.op0 hxE3 (by simp only [go_sem, eqs hxE3, reduceIte, Nat.reduceEqDiff, Nat.reduceAdd, Nat.reduceMul, Nat.reduceLT, Nat.reduceLeDiff, Int.reduceLT, Int.reduceLE, Int.reduceEq, reduceCtorEq, Int.reduceBEq, Int.reduceBNe, Int.reduceToNat, Nat.reduceSub, Nat.reduceDiv, Int.reduceNeg, Int.reduceAdd, Int.reduceSub, Int.reduceMul, Heap.gets, Heap.sets, Heap.get, bytesA_length, bytesA_one, bytesA_plains, List.take_of_length_le, List.drop_of_length_le, Nat.add_zero, V.one, Nat.reduceLeDiff, List.all_cons, List.all_nil, ne_eq, not_false_eq_true, Nat.zero_le, a1, a2, b1, b2, eIn_3, inB, Bool.true_and, Bool.and_true, Bool.false_and, Bool.and_false]; rfl) ?_ | refine To.op1 hxE3 (by simp only [go_sem, eqs hxE3, reduceIte, Nat.reduceEqDiff, Nat.reduceAdd, Nat.reduceMul, Nat.reduceLT, Nat.reduceLeDiff, Int.reduceLT, Int.reduceLE, Int.reduceEq, reduceCtorEq, Int.reduceBEq, Int.reduceBNe, Int.reduceToNat, Nat.reduceSub, Nat.reduceDiv, Int.reduceNeg, Int.reduceAdd, Int.reduceSub, Int.reduceMul, Heap.gets, Heap.sets, Heap.get, bytesA_length, bytesA_one, bytesA_plains, List.take_of_length_le, List.drop_of_length_le, Nat.add_zero, V.one, Nat.reduceLeDiff, List.all_cons, List.all_nil, ne_eq, not_false_eq_true, Nat.zero_le, a1, a2, b1, b2, eIn_3, inB, Bool.true_and, Bool.and_true, Bool.false_and, Bool.and_false]; rfl) ?_ | refine To.nop hxE3 ?_ | (refine To.condT hxE3 ?_ ?_; focus (simp only [go_sem, eqs hxE3, reduceIte, Nat.reduceEqDiff, Nat.reduceAdd, Nat.reduceMul, Nat.reduceLT, Nat.reduceLeDiff, Int.reduceLT, Int.reduceLE, Int.reduceEq, reduceCtorEq, Int.reduceBEq, Int.reduceBNe, Int.reduceToNat, Nat.reduceSub, Nat.reduceDiv, Int.reduceNeg, Int.reduceAdd, Int.reduceSub, Int.reduceMul, Heap.gets, Heap.sets, Heap.get, bytesA_length, bytesA_one, bytesA_plains, List.take_of_length_le, List.drop_of_length_le, Nat.add_zero, V.one, Nat.reduceLeDiff, List.all_cons, List.all_nil, ne_eq, not_false_eq_true, Nat.zero_le, a1, a2, b1, b2, eIn_3, inB, Bool.true_and, Bool.and_true, Bool.false_and, Bool.and_false]; done)) | (refine To.condF hxE3 ?_ ?_; focus (simp only [go_sem, eqs hxE3, reduceIte, Nat.reduceEqDiff, Nat.reduceAdd, Nat.reduceMul, Nat.reduceLT, Nat.reduceLeDiff, Int.reduceLT, Int.reduceLE, Int.reduceEq, reduceCtorEq, Int.reduceBEq, Int.reduceBNe, Int.reduceToNat, Nat.reduceSub, Nat.reduceDiv, Int.reduceNeg, Int.reduceAdd, Int.reduceSub, Int.reduceMul, Heap.gets, Heap.sets, Heap.get, bytesA_length, bytesA_one, bytesA_plains, List.take_of_length_le, List.drop_of_length_le, Nat.add_zero, V.one, Nat.reduceLeDiff, List.all_cons, List.all_nil, ne_eq, not_false_eq_true, Nat.zero_le, a1, a2, b1, b2, eIn_3, inB, Bool.true_and, Bool.and_true, Bool.false_and, Bool.and_false]; done)) | refine To.block hxE3 ?_ | refine To.scope hxE3 ?_ | refine To.ret hxE3 ?_ | refine To.exit hxE3 ?_ | refine To.skip hxE3 ?_ | refine To.label hxE3 ?_))
      refine ⟨_, _, fin1 (i := 2) rfl, ?_, ?_⟩
      · simp only [go_sem, eqs hxE3, reduceIte, Nat.reduceEqDiff, Nat.reduceAdd, Nat.reduceMul, Nat.reduceLT, Nat.reduceLeDiff, Int.reduceLT, Int.reduceLE, Int.reduceEq, reduceCtorEq, Int.reduceBEq, Int.reduceBNe, Int.reduceToNat, Nat.reduceSub, Nat.reduceDiv, Int.reduceNeg, Int.reduceAdd, Int.reduceSub, Int.reduceMul, a1, a2, b1, b2, Bool.false_and, Bool.true_and, Bool.or_false, Bool.or_true, Bool.true_or, Bool.false_or, Bool.and_false, Bool.and_true]
      · simp only [go_sem, eqs hxE3, reduceIte, Nat.reduceEqDiff, Nat.reduceAdd, Nat.reduceMul, Nat.reduceLT, Nat.reduceLeDiff, Int.reduceLT, Int.reduceLE, Int.reduceEq, reduceCtorEq, Int.reduceBEq, Int.reduceBNe, Int.reduceToNat, Nat.reduceSub, Nat.reduceDiv, Int.reduceNeg, Int.reduceAdd, Int.reduceSub, Int.reduceMul]

theorem okNRight : SpOk FF E3 20 tNRight := by
  intro args v h hpl
  unfold tNRight at h
  split at h
  · cases h
    obtain ⟨r, oh, q, rfl, rfl⟩ := NRight_den _ _ _
    exact ⟨rfl, _, q⟩
  · cases h
def g5 : Nat → Option Ans := addG g3 [(20, tNRight)]
def E5 : ExtF := plainExt g5
theorem hxE5 : ExtMono E5 := plainExt_mono g5
theorem sndE5 : ExtSound Try.prog E5 := addG_sound mixed ffok sndE3 (by
  intro p hp
  simp only [List.mem_cons, List.not_mem_nil, or_false] at hp
  rcases hp with rfl
  · exact okNRight)
theorem E5_none {f : Nat} (h : g5 f = none) (c : CallF) : E5 c f = none := plainExt_none h c
theorem eContains_5 (s : List UInt8) (c : UInt8) (h : Heap) : Den FF E5 79 [.str s, .str [c]] h = some (.val (.bool (s.contains c)), none) := den_plain (sp := tContains) h rfl (by rfl) (by first | (simp [V.plains, V.plain, bytesA_plains]; done) | rfl)
theorem eAwake24_5 (_ : Unit) (h : Heap) : Den FF E5 27 [] h = some (.val (.bool true), none) := den_plain (sp := tAwake) h rfl (by rfl) (by first | (simp [V.plains, V.plain, bytesA_plains]; done) | rfl)
theorem eAwake23_5 (_ : Unit) (h : Heap) : Den FF E5 11 [] h = some (.val (.bool true), none) := den_plain (sp := tAwake) h rfl (by rfl) (by first | (simp [V.plains, V.plain, bytesA_plains]; done) | rfl)
theorem eIn_5 (n lo hi : Int) (h : Heap) : Den FF E5 65 [.int .i64 n, .int .i64 lo, .int .i64 hi] h = some (.val (.bool (inB n lo hi)), none) := den_plain (sp := tIn) h rfl (by rfl) (by first | (simp [V.plains, V.plain, bytesA_plains]; done) | rfl)
theorem eCheck_5 (s : List UInt8) (h : Heap) : Den FF E5 66 [.str s] h = some (.val (.int .i64 (checkN s)), none) := den_plain (sp := tCheck) h rfl (by rfl) (by first | (simp [V.plains, V.plain, bytesA_plains]; done) | rfl)
theorem eRCheck_5 (s : List UInt8) (h : Heap) : Den FF E5 64 [.str s] h = some (.val (.int .i64 (checkN s)), none) := den_plain (sp := tCheck) h rfl (by rfl) (by first | (simp [V.plains, V.plain, bytesA_plains]; done) | rfl)
theorem eNRight_5 (k i : Int) (nm : List UInt8) (h : Heap) : Den FF E5 20 [.agg [.int .i64 k, .int .i64 i, .str nm]] h = some (.val (.bool (rightN k i nm)), none) := den_plain (sp := tNRight) h rfl (by rfl) (by first | (simp [V.plains, V.plain, bytesA_plains]; done) | rfl)
end Go.Proofs.Ytjbblfoefibeaaa

/- Queues: what a queue holds; its calls, one by one. -/
namespace Go.Proofs.Ytjbblfoefibeaaa
open Go AM
set_option linter.unusedSimpArgs false
set_option linter.unusedVariables false
set_option maxRecDepth 100000

theorem To.sel {F : Nat → Option AF} {ext : ExtF} (hx : ExtMono ext) {d : Option Nat} {snd : Option Opd} {ch : Opd} {z v : V} {ops : List AO} {S : Nat → V} {h h' : Heap} {Q : Ex → (Nat → V) → Heap → Prop}
    (hs : selA snd ch z S h = some (v, h')) (hk : To F ext (.region ops false) (putO S d v) h' Q) : To F ext (.sel d snd ch z ops) S h Q := by
  obtain ⟨x, S2, h2, e, q⟩ := hk
  exact ⟨x, S2, h2, by rw [eq_sel hx, hs]; exact e, q⟩

section
variable {α : Type}
theorem gs_ne {o : List α} {i j : Nat} {x : α} (h : i ≠ j) : (o.set i x)[j]? = o[j]? := List.getElem?_set_ne h
theorem gs_eq {o : List α} {i : Nat} {x : α} (h : i < o.length) : (o.set i x)[i]? = some x := List.getElem?_set_self h
theorem ga_lt {o r : List α} {j : Nat} (h : j < o.length) : (o ++ r)[j]? = o[j]? := List.getElem?_append_left h
theorem ga_0 {o r : List α} {n : Nat} (h : o.length = n) : (o ++ r)[n]? = r[0]? := by rw [List.getElem?_append_right (by omega), h, Nat.sub_self]
theorem ga_k {o r : List α} {n k : Nat} (h : o.length = n) : (o ++ r)[n + k]? = r[k]? := by rw [List.getElem?_append_right (by omega), h, Nat.add_sub_cancel_left]
theorem sa_lt {o r : List α} {i : Nat} {x : α} (h : i < o.length) : (o ++ r).set i x = o.set i x ++ r := List.set_append_left _ _ h
theorem sa_0 {o r : List α} {n : Nat} {x : α} (h : o.length = n) : (o ++ r).set n x = o ++ r.set 0 x := by rw [List.set_append_right _ _ (by omega), h, Nat.sub_self]
theorem sa_k {o r : List α} {n k : Nat} {x : α} (h : o.length = n) : (o ++ r).set (n + k) x = o ++ r.set k x := by rw [List.set_append_right _ _ (by omega), h, Nat.add_sub_cancel_left]
end

structure Rq where
  id : Int
  op : Int
  ino : Int
  oth : Int
  n : Int
  m : Int
  nm : List UInt8
  tx : List UInt8
structure Nt where
  k : Int
  i : Int
  nm : List UInt8
def Rq.cs (r : Rq) : List V := [.int .i64 r.id, .int .i64 r.op, .int .i64 r.ino, .int .i64 r.oth, .int .i64 r.n, .int .i64 r.m, .str r.nm, .str r.tx]
def Rq.v (r : Rq) : V := .agg r.cs
def Nt.cs (n : Nt) : List V := [.int .i64 n.k, .int .i64 n.i, .str n.nm]
def Nt.v (n : Nt) : V := .agg n.cs
def Nt.right (n : Nt) : Bool := rightN n.k n.i n.nm
def Rq.zero : Rq := ⟨0, 0, 0, 0, 0, 0, [], []⟩
def Nt.zero : Nt := ⟨0, 0, []⟩

theorem ne_of {o : List AM.Obj} {i j : Nat} {x y : AM.Obj} (hi : o[i]? = some x) (hj : o[j]? = some y) (h : x ≠ y) : i ≠ j := by
  intro e; subst e; rw [hi] at hj; cases hj; exact h rfl
def pqC (c1 c2 m1 m2 : Nat) (last : Int) (lost : Bool) : List V := [.chan c1, .chan c2, .map m1, .map m2, .int .i64 last, .bool lost]

/-- A queue and what it has. -/
structure PQ (o : List AM.Obj) (q c1 c2 m1 m2 : Nat) (rq ns : List V) (op wt : List (V × V)) (last : Int) (lost : Bool) : Prop where
  hq : o[q]? = some (.cells .ex 136 0 (pqC c1 c2 m1 m2 last lost))
  h1 : o[c1]? = some (.chan 8 rq)
  h2 : o[c2]? = some (.chan 16 ns)
  h3 : o[m1]? = some (.map op)
  h4 : o[m2]? = some (.map wt)
  hm : m1 ≠ m2

/-- The numbers of a queue's objects are apart, and there. -/
structure Ap (n q c1 c2 m1 m2 : Nat) : Prop where
  q1 : q ≠ c1
  q2 : q ≠ c2
  q3 : q ≠ m1
  q4 : q ≠ m2
  a1 : c1 ≠ q
  a2 : c1 ≠ c2
  a3 : c1 ≠ m1
  a4 : c1 ≠ m2
  b1 : c2 ≠ q
  b2 : c2 ≠ c1
  b3 : c2 ≠ m1
  b4 : c2 ≠ m2
  e1 : m1 ≠ q
  e2 : m1 ≠ c1
  e3 : m1 ≠ c2
  e4 : m1 ≠ m2
  f1 : m2 ≠ q
  f2 : m2 ≠ c1
  f3 : m2 ≠ c2
  f4 : m2 ≠ m1
  lq : q < n
  l1 : c1 < n
  l2 : c2 < n
  l3 : m1 < n
  l4 : m2 < n

section
variable {o o' o'' : List AM.Obj} {q c1 c2 m1 m2 : Nat} {rq ns : List V} {op wt : List (V × V)} {last : Int} {lost : Bool}
theorem PQ.ap (h : PQ o q c1 c2 m1 m2 rq ns op wt last lost) : Ap o.length q c1 c2 m1 m2 := by
  have a := ne_of h.hq h.h1 (by simp)
  have b := ne_of h.hq h.h2 (by simp)
  have c := ne_of h.hq h.h3 (by simp)
  have d := ne_of h.hq h.h4 (by simp)
  have e := ne_of h.h1 h.h2 (by simp)
  have f := ne_of h.h1 h.h3 (by simp)
  have g := ne_of h.h1 h.h4 (by simp)
  have i := ne_of h.h2 h.h3 (by simp)
  have j := ne_of h.h2 h.h4 (by simp)
  exact ⟨a, b, c, d, a.symm, e, f, g, b.symm, e.symm, i, j, c.symm, f.symm, i.symm, h.hm, d.symm, g.symm, j.symm, h.hm.symm, get_lt h.hq, get_lt h.h1, get_lt h.h2, get_lt h.h3, get_lt h.h4⟩
theorem PQ.c1' (h : PQ o q c1 c2 m1 m2 rq ns op wt last lost) (rq' : List V) : PQ (o.set c1 (.chan 8 rq')) q c1 c2 m1 m2 rq' ns op wt last lost := by
  have A := h.ap
  exact ⟨(gs_ne A.a1).trans h.hq, gs_eq A.l1, (gs_ne A.a2).trans h.h2, (gs_ne A.a3).trans h.h3, (gs_ne A.a4).trans h.h4, h.hm⟩
theorem PQ.c2' (h : PQ o q c1 c2 m1 m2 rq ns op wt last lost) (ns' : List V) : PQ (o.set c2 (.chan 16 ns')) q c1 c2 m1 m2 rq ns' op wt last lost := by
  have A := h.ap
  exact ⟨(gs_ne A.b1).trans h.hq, (gs_ne A.b2).trans h.h1, gs_eq A.l2, (gs_ne A.b3).trans h.h3, (gs_ne A.b4).trans h.h4, h.hm⟩
theorem PQ.m1' (h : PQ o q c1 c2 m1 m2 rq ns op wt last lost) (op' : List (V × V)) : PQ (o.set m1 (.map op')) q c1 c2 m1 m2 rq ns op' wt last lost := by
  have A := h.ap
  exact ⟨(gs_ne A.e1).trans h.hq, (gs_ne A.e2).trans h.h1, (gs_ne A.e3).trans h.h2, gs_eq A.l3, (gs_ne A.e4).trans h.h4, h.hm⟩
theorem PQ.m2' (h : PQ o q c1 c2 m1 m2 rq ns op wt last lost) (wt' : List (V × V)) : PQ (o.set m2 (.map wt')) q c1 c2 m1 m2 rq ns op wt' last lost := by
  have A := h.ap
  exact ⟨(gs_ne A.f1).trans h.hq, (gs_ne A.f2).trans h.h1, (gs_ne A.f3).trans h.h2, (gs_ne A.f4).trans h.h3, gs_eq A.l4, h.hm⟩
theorem PQ.q' (h : PQ o q c1 c2 m1 m2 rq ns op wt last lost) (last' : Int) (lost' : Bool) : PQ (o.set q (.cells .ex 136 0 (pqC c1 c2 m1 m2 last' lost'))) q c1 c2 m1 m2 rq ns op wt last' lost' := by
  have A := h.ap
  exact ⟨gs_eq A.lq, (gs_ne A.q1).trans h.h1, (gs_ne A.q2).trans h.h2, (gs_ne A.q3).trans h.h3, (gs_ne A.q4).trans h.h4, h.hm⟩
theorem PQ.of (h : PQ o q c1 c2 m1 m2 rq ns op wt last lost) (hk : ∀ x, x = q ∨ x = c1 ∨ x = c2 ∨ x = m1 ∨ x = m2 → o'[x]? = o[x]?) : PQ o' q c1 c2 m1 m2 rq ns op wt last lost :=
  ⟨(hk _ (.inl rfl)).trans h.hq, (hk _ (.inr (.inl rfl))).trans h.h1, (hk _ (.inr (.inr (.inl rfl)))).trans h.h2, (hk _ (.inr (.inr (.inr (.inl rfl))))).trans h.h3, (hk _ (.inr (.inr (.inr (.inr rfl))))).trans h.h4, h.hm⟩
theorem Ap.lt {n x : Nat} (A : Ap n q c1 c2 m1 m2) (h : x = q ∨ x = c1 ∨ x = c2 ∨ x = m1 ∨ x = m2) : x < n := by
  rcases h with rfl | rfl | rfl | rfl | rfl
  · exact A.lq
  · exact A.l1
  · exact A.l2
  · exact A.l3
  · exact A.l4
theorem PQ.app (h : PQ o q c1 c2 m1 m2 rq ns op wt last lost) (r : List AM.Obj) : PQ (o ++ r) q c1 c2 m1 m2 rq ns op wt last lost := by
  have A := h.ap
  exact h.of fun x hx => ga_lt (A.lt hx)
theorem PQ.take (h : PQ o q c1 c2 m1 m2 rq ns op wt last lost) {n : Nat} (A : Ap n q c1 c2 m1 m2) : PQ (o.take n) q c1 c2 m1 m2 rq ns op wt last lost :=
  h.of fun x hx => List.getElem?_take_of_lt (A.lt hx)
theorem PQ.old (h : PQ o q c1 c2 m1 m2 rq ns op wt last lost) {i : Nat} {y : AM.Obj} (hi : i ≠ q ∧ i ≠ c1 ∧ i ≠ c2 ∧ i ≠ m1 ∧ i ≠ m2) : PQ (o.set i y) q c1 c2 m1 m2 rq ns op wt last lost :=
  h.of fun x hx => gs_ne (by
    obtain ⟨a, b, c, d, e⟩ := hi
    rcases hx with rfl | rfl | rfl | rfl | rfl <;> assumption)
end

/-- All but a queue's own objects is as it was. -/
structure Qx (q c1 c2 m1 m2 : Nat) (o o' : List AM.Obj) : Prop where
  len : o.length ≤ o'.length
  get : ∀ x, x < o.length → x ≠ q → x ≠ c1 → x ≠ c2 → x ≠ m1 → x ≠ m2 → o'[x]? = o[x]?
section
variable {o o' o'' : List AM.Obj} {q c1 c2 m1 m2 : Nat}
theorem Qx.refl : Qx q c1 c2 m1 m2 o o := ⟨Nat.le_refl _, fun _ _ _ _ _ _ _ => rfl⟩
theorem Qx.trans (h : Qx q c1 c2 m1 m2 o o') (k : Qx q c1 c2 m1 m2 o' o'') : Qx q c1 c2 m1 m2 o o'' :=
  ⟨Nat.le_trans h.len k.len, fun x hx a b c d e => (k.get x (Nat.lt_of_lt_of_le hx h.len) a b c d e).trans (h.get x hx a b c d e)⟩
theorem Qx.set {i : Nat} {y : AM.Obj} (hi : i = q ∨ i = c1 ∨ i = c2 ∨ i = m1 ∨ i = m2) : Qx q c1 c2 m1 m2 o (o.set i y) := by
  refine ⟨by simp, fun x hx a b c d e => gs_ne ?_⟩
  rintro rfl
  rcases hi with h | h | h | h | h
  · exact a h
  · exact b h
  · exact c h
  · exact d h
  · exact e h
theorem Qx.app (r : List AM.Obj) : Qx q c1 c2 m1 m2 o (o ++ r) := ⟨by simp, fun x hx _ _ _ _ _ => ga_lt hx⟩
theorem Qx.new {i : Nat} {y : AM.Obj} (h : Qx q c1 c2 m1 m2 o o') (hi : o.length ≤ i) : Qx q c1 c2 m1 m2 o (o'.set i y) :=
  ⟨by simpa using h.len, fun x hx a b c d e => (gs_ne (by omega)).trans (h.get x hx a b c d e)⟩
theorem Qx.take (h : Qx q c1 c2 m1 m2 o o') : Qx q c1 c2 m1 m2 o (o'.take o.length) :=
  ⟨by rw [List.length_take]; have := h.len; omega, fun x hx a b c d e => (List.getElem?_take_of_lt hx).trans (h.get x hx a b c d e)⟩
end

theorem finQT {a : AF} {h : Heap} {S : Nat → V} {h' : Heap} {i n j l o : Nat} {cs : List V} (hr : a.res = [.c i (some n), .t j]) (hS : S i = .ptr l o) (hg : h'.gets l o n = some cs) :
    finish a h (some (.ret, S, h')) = some (.val (.tuple [.agg cs, S j]), leave h h' (.tuple [.agg cs, S j])) := by
  have e : Slots.get S i = .ptr l o := hS
  simp only [finish, hr, resAll, resOne, resV, e, hg, Option.map_some]; rfl
theorem leave_turn {o o1 r : List AM.Obj} {e d e' d' : Nat} {v : V} (h1 : o1.length = o.length) (he : o.length ≤ e') (hd : d' < o.length) (hv : v.plain = true) : leave ⟨o, e, d⟩ ⟨o1 ++ r, e', d'⟩ v = some ⟨o1, e, min d d'⟩ := by
  unfold leave
  rw [if_pos ⟨he, hv⟩]
  simp only
  rw [if_neg (by omega), List.take_left' h1]
theorem close_q {h' : Heap} {v : V} {o : List AM.Obj} {e d q c1 c2 m1 m2 : Nat} {rq ns : List V} {op wt : List (V × V)} {last : Int} {lost : Bool} (A : Ap o.length q c1 c2 m1 m2) (hP : PQ h'.o q c1 c2 m1 m2 rq ns op wt last lost) (hQ : Qx q c1 c2 m1 m2 o h'.o) (he : o.length ≤ h'.e) (hv : v.plain = true)
    (hd : h'.d < o.length ∨ PQ o q c1 c2 m1 m2 rq ns op wt last lost) : ∃ o' d', (leave ⟨o, e, d⟩ h' v).getD ⟨o, e, d⟩ = ⟨o', e, d'⟩ ∧ PQ o' q c1 c2 m1 m2 rq ns op wt last lost ∧ Qx q c1 c2 m1 m2 o o' := by
  unfold leave
  rw [if_pos ⟨he, hv⟩]
  by_cases hl : o.length ≤ h'.d
  · rw [if_pos hl]
    rcases hd with hd | hd
    · omega
    · exact ⟨o, d, rfl, hd, Qx.refl⟩
  · rw [if_neg hl]
    exact ⟨_, _, rfl, hP.take A, hQ.take⟩

theorem mapPut_new {k : Int} {x : V} : ∀ {es : List (V × V)}, (∀ e ∈ es, ∃ j, e.1 = .int .i64 j ∧ j ≠ k) → mapPut .i (.int .i64 k) x es = some (es ++ [(.int .i64 k, x)])
  | [], _ => rfl
  | (a, b) :: r, h => by
    obtain ⟨j, hj, hne⟩ := h _ List.mem_cons_self
    simp only at hj
    subst hj
    have hk : (k == j) = false := by simp; exact fun e => hne e.symm
    simp only [mapPut, eqK, if_true, hk, mapPut_new (fun e he => h e (List.mem_cons_of_mem _ he)), List.cons_append]

def Rq.at_ (r : Rq) (id : Int) : Rq := { r with id := id }
end Go.Proofs.Ytjbblfoefibeaaa

/- Queues: take, answer, cancel, hear, and what is told of a queue. -/
namespace Go.Proofs.Ytjbblfoefibeaaa
open Go AM
set_option linter.unusedSimpArgs false
set_option linter.unusedVariables false
set_option maxRecDepth 100000

def entW (l : List Int) : List (V × V) := l.map fun i => (.int .i64 i, .bool true)
def entO (l : List (Int × Int)) : List (V × V) := l.map fun i => (.int .i64 i.1, .int .i64 i.2)
theorem find_W (k : Int) : ∀ l : List Int, mapFind .i (.int .i64 k) (entW l) = some (if l.contains k = true then some (.bool true) else none)
  | [] => rfl
  | a :: l => by
    have e : entW (a :: l) = (.int .i64 a, .bool true) :: entW l := rfl
    rw [e]
    by_cases h : k = a
    · subst h; simp [mapFind, eqK]
    · have h1 : (k == a) = false := by simp [h]
      simp only [mapFind, eqK, if_true, h1, find_W k l]
      simp only [List.contains_cons, h1, Bool.false_or]
theorem drop_W (k : Int) : ∀ l : List Int, mapDrop .i (.int .i64 k) (entW l) = some (entW (l.erase k))
  | [] => rfl
  | a :: l => by
    have e : entW (a :: l) = (.int .i64 a, .bool true) :: entW l := rfl
    rw [e]
    by_cases h : k = a
    · subst h; simp [mapDrop, eqK]
    · have h1 : (k == a) = false := by simp [h]
      have h2 : (a == k) = false := by simp; exact fun e => h e.symm
      simp only [mapDrop, eqK, if_true, h1, drop_W k l, List.erase_cons, h2, Bool.false_eq_true, if_false]
      rfl
/-- What is led to by a number. -/
def lookO (k : Int) : List (Int × Int) → Option Int
  | [] => none
  | (a, b) :: l => if k = a then some b else lookO k l
def eraseO (k : Int) : List (Int × Int) → List (Int × Int)
  | [] => []
  | (a, b) :: l => if k = a then l else (a, b) :: eraseO k l
theorem find_O (k : Int) : ∀ l : List (Int × Int), mapFind .i (.int .i64 k) (entO l) = some ((lookO k l).map (V.int .i64))
  | [] => rfl
  | (a, b) :: l => by
    have e : entO ((a, b) :: l) = (.int .i64 a, .int .i64 b) :: entO l := rfl
    rw [e]
    by_cases h : k = a
    · subst h; simp [mapFind, eqK, lookO]
    · have h1 : (k == a) = false := by simp [h]
      simp only [mapFind, eqK, if_true, h1, find_O k l, lookO, if_neg h]
theorem drop_O (k : Int) : ∀ l : List (Int × Int), mapDrop .i (.int .i64 k) (entO l) = some (entO (eraseO k l))
  | [] => rfl
  | (a, b) :: l => by
    have e : entO ((a, b) :: l) = (.int .i64 a, .int .i64 b) :: entO l := rfl
    rw [e]
    by_cases h : k = a
    · subst h; simp [mapDrop, eqK, eraseO]
    · have h1 : (k == a) = false := by simp [h]
      simp only [mapDrop, eqK, if_true, h1, drop_O k l, eraseO, if_neg h]
      rfl

section
variable {o : List AM.Obj} {e d q c1 c2 m1 m2 : Nat} {rq ns : List V} {op wt : List (V × V)} {last : Int} {lost : Bool}

set_option maxHeartbeats 4000000 in
theorem next_nil (h : PQ o q c1 c2 m1 m2 [] ns op wt last lost) :
    ∃ v oh, Den FF E5 72 [.ptr q 0] ⟨o, e, d⟩ = some (v, oh) ∧ v = .val (.tuple [Rq.zero.v, .bool false]) ∧ oh = none := by
  refine To.denE hxE5 (f := 72) (a := af72) rfl (E5_none rfl) (Nat.le_of_ble_eq_true rfl) ?_
  have hP := h
  obtain ⟨hq, h1, h2, h3, h4, hm⟩ := h
  have A := hP.ap
  unfold pqC at hq
  (repeat' (first | refine To.seq hxE5 ?_ | refine To.op0 hxE5 (by simp only [go_sem, eqs hxE5, reduceIte, Nat.reduceEqDiff, Nat.reduceAdd, Nat.reduceMul, Nat.reduceLT, Nat.reduceLeDiff, Int.reduceLT, Int.reduceLE, Int.reduceEq, reduceCtorEq, Int.reduceBEq, Int.reduceBNe, Int.reduceToNat, Nat.reduceSub, Nat.reduceDiv, Int.reduceNeg, Int.reduceAdd, Int.reduceSub, Int.reduceMul, Heap.gets, Heap.sets, Heap.get, bytesA_length, bytesA_one, bytesA_plains, List.take_of_length_le, List.drop_of_length_le, Nat.add_zero, V.one, Nat.reduceLeDiff, List.all_cons, List.all_nil, ne_eq, not_false_eq_true, Nat.zero_le, gs_ne, gs_eq, ga_lt, ga_0, ga_k, sa_lt, sa_0, sa_k, A.lq, A.l1, List.length_set, Heap.setMap, hq, h1]; rfl) ?_ | refine To.op1 hxE5 (by simp only [go_sem, eqs hxE5, reduceIte, Nat.reduceEqDiff, Nat.reduceAdd, Nat.reduceMul, Nat.reduceLT, Nat.reduceLeDiff, Int.reduceLT, Int.reduceLE, Int.reduceEq, reduceCtorEq, Int.reduceBEq, Int.reduceBNe, Int.reduceToNat, Nat.reduceSub, Nat.reduceDiv, Int.reduceNeg, Int.reduceAdd, Int.reduceSub, Int.reduceMul, Heap.gets, Heap.sets, Heap.get, bytesA_length, bytesA_one, bytesA_plains, List.take_of_length_le, List.drop_of_length_le, Nat.add_zero, V.one, Nat.reduceLeDiff, List.all_cons, List.all_nil, ne_eq, not_false_eq_true, Nat.zero_le, gs_ne, gs_eq, ga_lt, ga_0, ga_k, sa_lt, sa_0, sa_k, A.lq, A.l1, List.length_set, Heap.setMap, hq, h1]; rfl) ?_ | refine To.sel hxE5 (by simp only [selA, go_sem, eqs hxE5, reduceIte, Nat.reduceEqDiff, Nat.reduceAdd, Nat.reduceMul, Nat.reduceLT, Nat.reduceLeDiff, Int.reduceLT, Int.reduceLE, Int.reduceEq, reduceCtorEq, Int.reduceBEq, Int.reduceBNe, Int.reduceToNat, Nat.reduceSub, Nat.reduceDiv, Int.reduceNeg, Int.reduceAdd, Int.reduceSub, Int.reduceMul, Heap.gets, Heap.sets, Heap.get, bytesA_length, bytesA_one, bytesA_plains, List.take_of_length_le, List.drop_of_length_le, Nat.add_zero, V.one, Nat.reduceLeDiff, List.all_cons, List.all_nil, ne_eq, not_false_eq_true, Nat.zero_le, gs_ne, gs_eq, ga_lt, ga_0, ga_k, sa_lt, sa_0, sa_k, A.lq, A.l1, List.length_set, Heap.setMap, hq, h1]; rfl) ?_ | refine To.nop hxE5 ?_ | (refine To.condT hxE5 ?_ ?_; focus (simp only [go_sem, eqs hxE5, reduceIte, Nat.reduceEqDiff, Nat.reduceAdd, Nat.reduceMul, Nat.reduceLT, Nat.reduceLeDiff, Int.reduceLT, Int.reduceLE, Int.reduceEq, reduceCtorEq, Int.reduceBEq, Int.reduceBNe, Int.reduceToNat, Nat.reduceSub, Nat.reduceDiv, Int.reduceNeg, Int.reduceAdd, Int.reduceSub, Int.reduceMul, Heap.gets, Heap.sets, Heap.get, bytesA_length, bytesA_one, bytesA_plains, List.take_of_length_le, List.drop_of_length_le, Nat.add_zero, V.one, Nat.reduceLeDiff, List.all_cons, List.all_nil, ne_eq, not_false_eq_true, Nat.zero_le, gs_ne, gs_eq, ga_lt, ga_0, ga_k, sa_lt, sa_0, sa_k, A.lq, A.l1, List.length_set, Heap.setMap, hq, h1]; done)) | (refine To.condF hxE5 ?_ ?_; focus (simp only [go_sem, eqs hxE5, reduceIte, Nat.reduceEqDiff, Nat.reduceAdd, Nat.reduceMul, Nat.reduceLT, Nat.reduceLeDiff, Int.reduceLT, Int.reduceLE, Int.reduceEq, reduceCtorEq, Int.reduceBEq, Int.reduceBNe, Int.reduceToNat, Nat.reduceSub, Nat.reduceDiv, Int.reduceNeg, Int.reduceAdd, Int.reduceSub, Int.reduceMul, Heap.gets, Heap.sets, Heap.get, bytesA_length, bytesA_one, bytesA_plains, List.take_of_length_le, List.drop_of_length_le, Nat.add_zero, V.one, Nat.reduceLeDiff, List.all_cons, List.all_nil, ne_eq, not_false_eq_true, Nat.zero_le, gs_ne, gs_eq, ga_lt, ga_0, ga_k, sa_lt, sa_0, sa_k, A.lq, A.l1, List.length_set, Heap.setMap, hq, h1]; done)) | refine To.block hxE5 ?_ | refine To.scope hxE5 ?_ | refine To.ret hxE5 ?_ | refine To.exit hxE5 ?_ | refine To.skip hxE5 ?_ | refine To.label hxE5 ?_ | refine To.draw0 hxE5 ?_ | refine ToD.op0 (by simp only [go_sem, eqs hxE5, reduceIte, Nat.reduceEqDiff, Nat.reduceAdd, Nat.reduceMul, Nat.reduceLT, Nat.reduceLeDiff, Int.reduceLT, Int.reduceLE, Int.reduceEq, reduceCtorEq, Int.reduceBEq, Int.reduceBNe, Int.reduceToNat, Nat.reduceSub, Nat.reduceDiv, Int.reduceNeg, Int.reduceAdd, Int.reduceSub, Int.reduceMul, Heap.gets, Heap.sets, Heap.get, bytesA_length, bytesA_one, bytesA_plains, List.take_of_length_le, List.drop_of_length_le, Nat.add_zero, V.one, Nat.reduceLeDiff, List.all_cons, List.all_nil, ne_eq, not_false_eq_true, Nat.zero_le, gs_ne, gs_eq, ga_lt, ga_0, ga_k, sa_lt, sa_0, sa_k, A.lq, A.l1, List.length_set, Heap.setMap, hq, h1]; rfl) (by simp only [put_some, put_none]; rfl) ?_ | refine ToD.op1 (by simp only [go_sem, eqs hxE5, reduceIte, Nat.reduceEqDiff, Nat.reduceAdd, Nat.reduceMul, Nat.reduceLT, Nat.reduceLeDiff, Int.reduceLT, Int.reduceLE, Int.reduceEq, reduceCtorEq, Int.reduceBEq, Int.reduceBNe, Int.reduceToNat, Nat.reduceSub, Nat.reduceDiv, Int.reduceNeg, Int.reduceAdd, Int.reduceSub, Int.reduceMul, Heap.gets, Heap.sets, Heap.get, bytesA_length, bytesA_one, bytesA_plains, List.take_of_length_le, List.drop_of_length_le, Nat.add_zero, V.one, Nat.reduceLeDiff, List.all_cons, List.all_nil, ne_eq, not_false_eq_true, Nat.zero_le, gs_ne, gs_eq, ga_lt, ga_0, ga_k, sa_lt, sa_0, sa_k, A.lq, A.l1, List.length_set, Heap.setMap, hq, h1]; rfl) (by simp only [put_some, put_none]; rfl) (by simp only [KD.app, go_sem, eqs hxE5, reduceIte, Nat.reduceEqDiff, Nat.reduceAdd, Nat.reduceMul, Nat.reduceLT, Nat.reduceLeDiff, Int.reduceLT, Int.reduceLE, Int.reduceEq, reduceCtorEq, Int.reduceBEq, Int.reduceBNe, Int.reduceToNat, Nat.reduceSub, Nat.reduceDiv, Int.reduceNeg, Int.reduceAdd, Int.reduceSub, Int.reduceMul, Heap.gets, Heap.sets, Heap.get, bytesA_length, bytesA_one, bytesA_plains, List.take_of_length_le, List.drop_of_length_le, Nat.add_zero, V.one, Nat.reduceLeDiff, List.all_cons, List.all_nil, ne_eq, not_false_eq_true, Nat.zero_le, gs_ne, gs_eq, ga_lt, ga_0, ga_k, sa_lt, sa_0, sa_k, A.lq, A.l1, List.length_set, Heap.setMap, hq, h1]; rfl) ?_ | refine ToD.nop ?_ | refine To.draw hxE5 (by decide) ?_))
  refine ⟨_, _, finQT (i := 2) (n := 8) (j := 3) (l := o.length) (o := 0) rfl (by simp only [go_sem, eqs hxE5, reduceIte, Nat.reduceEqDiff, Nat.reduceAdd, Nat.reduceMul, Nat.reduceLT, Nat.reduceLeDiff, Int.reduceLT, Int.reduceLE, Int.reduceEq, reduceCtorEq, Int.reduceBEq, Int.reduceBNe, Int.reduceToNat, Nat.reduceSub, Nat.reduceDiv, Int.reduceNeg, Int.reduceAdd, Int.reduceSub, Int.reduceMul]) (by simp only [go_sem, eqs hxE5, reduceIte, Nat.reduceEqDiff, Nat.reduceAdd, Nat.reduceMul, Nat.reduceLT, Nat.reduceLeDiff, Int.reduceLT, Int.reduceLE, Int.reduceEq, reduceCtorEq, Int.reduceBEq, Int.reduceBNe, Int.reduceToNat, Nat.reduceSub, Nat.reduceDiv, Int.reduceNeg, Int.reduceAdd, Int.reduceSub, Int.reduceMul, Heap.gets, Heap.sets, Heap.get, bytesA_length, bytesA_one, bytesA_plains, List.take_of_length_le, List.drop_of_length_le, Nat.add_zero, V.one, Nat.reduceLeDiff, List.all_cons, List.all_nil, ne_eq, not_false_eq_true, Nat.zero_le]; rfl), ?_, ?_⟩
  · simp only [go_sem, eqs hxE5, reduceIte, Nat.reduceEqDiff, Nat.reduceAdd, Nat.reduceMul, Nat.reduceLT, Nat.reduceLeDiff, Int.reduceLT, Int.reduceLE, Int.reduceEq, reduceCtorEq, Int.reduceBEq, Int.reduceBNe, Int.reduceToNat, Nat.reduceSub, Nat.reduceDiv, Int.reduceNeg, Int.reduceAdd, Int.reduceSub, Int.reduceMul]; rfl
  · simp only [go_sem, eqs hxE5, reduceIte, Nat.reduceEqDiff, Nat.reduceAdd, Nat.reduceMul, Nat.reduceLT, Nat.reduceLeDiff, Int.reduceLT, Int.reduceLE, Int.reduceEq, reduceCtorEq, Int.reduceBEq, Int.reduceBNe, Int.reduceToNat, Nat.reduceSub, Nat.reduceDiv, Int.reduceNeg, Int.reduceAdd, Int.reduceSub, Int.reduceMul]
set_option maxHeartbeats 4000000 in
theorem next_cons {r : Rq} (h : PQ o q c1 c2 m1 m2 (r.v :: rq) ns op wt last lost) :
    ∃ v oh, Den FF E5 72 [.ptr q 0] ⟨o, e, d⟩ = some (v, oh) ∧ v = .val (.tuple [r.v, .bool true]) ∧ ∃ d', d' ≤ c1 ∧ oh = some ⟨o.set c1 (.chan 8 rq), e, d'⟩ := by
  refine To.denE hxE5 (f := 72) (a := af72) rfl (E5_none rfl) (Nat.le_of_ble_eq_true rfl) ?_
  have hP := h
  obtain ⟨hq, h1, h2, h3, h4, hm⟩ := h
  have A := hP.ap
  unfold pqC at hq
  unfold Rq.v Rq.cs at h1 ⊢
  (repeat' (first | refine To.seq hxE5 ?_ | refine To.op0 hxE5 (by simp only [go_sem, eqs hxE5, reduceIte, Nat.reduceEqDiff, Nat.reduceAdd, Nat.reduceMul, Nat.reduceLT, Nat.reduceLeDiff, Int.reduceLT, Int.reduceLE, Int.reduceEq, reduceCtorEq, Int.reduceBEq, Int.reduceBNe, Int.reduceToNat, Nat.reduceSub, Nat.reduceDiv, Int.reduceNeg, Int.reduceAdd, Int.reduceSub, Int.reduceMul, Heap.gets, Heap.sets, Heap.get, bytesA_length, bytesA_one, bytesA_plains, List.take_of_length_le, List.drop_of_length_le, Nat.add_zero, V.one, Nat.reduceLeDiff, List.all_cons, List.all_nil, ne_eq, not_false_eq_true, Nat.zero_le, gs_ne, gs_eq, ga_lt, ga_0, ga_k, sa_lt, sa_0, sa_k, A.lq, A.l1, A.a1, List.length_set, Heap.setMap, hq, h1]; rfl) ?_ | refine To.op1 hxE5 (by simp only [go_sem, eqs hxE5, reduceIte, Nat.reduceEqDiff, Nat.reduceAdd, Nat.reduceMul, Nat.reduceLT, Nat.reduceLeDiff, Int.reduceLT, Int.reduceLE, Int.reduceEq, reduceCtorEq, Int.reduceBEq, Int.reduceBNe, Int.reduceToNat, Nat.reduceSub, Nat.reduceDiv, Int.reduceNeg, Int.reduceAdd, Int.reduceSub, Int.reduceMul, Heap.gets, Heap.sets, Heap.get, bytesA_length, bytesA_one, bytesA_plains, List.take_of_length_le, List.drop_of_length_le, Nat.add_zero, V.one, Nat.reduceLeDiff, List.all_cons, List.all_nil, ne_eq, not_false_eq_true, Nat.zero_le, gs_ne, gs_eq, ga_lt, ga_0, ga_k, sa_lt, sa_0, sa_k, A.lq, A.l1, A.a1, List.length_set, Heap.setMap, hq, h1]; rfl) ?_ | refine To.sel hxE5 (by simp only [selA, go_sem, eqs hxE5, reduceIte, Nat.reduceEqDiff, Nat.reduceAdd, Nat.reduceMul, Nat.reduceLT, Nat.reduceLeDiff, Int.reduceLT, Int.reduceLE, Int.reduceEq, reduceCtorEq, Int.reduceBEq, Int.reduceBNe, Int.reduceToNat, Nat.reduceSub, Nat.reduceDiv, Int.reduceNeg, Int.reduceAdd, Int.reduceSub, Int.reduceMul, Heap.gets, Heap.sets, Heap.get, bytesA_length, bytesA_one, bytesA_plains, List.take_of_length_le, List.drop_of_length_le, Nat.add_zero, V.one, Nat.reduceLeDiff, List.all_cons, List.all_nil, ne_eq, not_false_eq_true, Nat.zero_le, gs_ne, gs_eq, ga_lt, ga_0, ga_k, sa_lt, sa_0, sa_k, A.lq, A.l1, A.a1, List.length_set, Heap.setMap, hq, h1]; rfl) ?_ | refine To.nop hxE5 ?_ | (refine To.condT hxE5 ?_ ?_; focus (simp only [go_sem, eqs hxE5, reduceIte, Nat.reduceEqDiff, Nat.reduceAdd, Nat.reduceMul, Nat.reduceLT, Nat.reduceLeDiff, Int.reduceLT, Int.reduceLE, Int.reduceEq, reduceCtorEq, Int.reduceBEq, Int.reduceBNe, Int.reduceToNat, Nat.reduceSub, Nat.reduceDiv, Int.reduceNeg, Int.reduceAdd, Int.reduceSub, Int.reduceMul, Heap.gets, Heap.sets, Heap.get, bytesA_length, bytesA_one, bytesA_plains, List.take_of_length_le, List.drop_of_length_le, Nat.add_zero, V.one, Nat.reduceLeDiff, List.all_cons, List.all_nil, ne_eq, not_false_eq_true, Nat.zero_le, gs_ne, gs_eq, ga_lt, ga_0, ga_k, sa_lt, sa_0, sa_k, A.lq, A.l1, A.a1, List.length_set, Heap.setMap, hq, h1]; done)) | (refine To.condF hxE5 ?_ ?_; focus (simp only [go_sem, eqs hxE5, reduceIte, Nat.reduceEqDiff, Nat.reduceAdd, Nat.reduceMul, Nat.reduceLT, Nat.reduceLeDiff, Int.reduceLT, Int.reduceLE, Int.reduceEq, reduceCtorEq, Int.reduceBEq, Int.reduceBNe, Int.reduceToNat, Nat.reduceSub, Nat.reduceDiv, Int.reduceNeg, Int.reduceAdd, Int.reduceSub, Int.reduceMul, Heap.gets, Heap.sets, Heap.get, bytesA_length, bytesA_one, bytesA_plains, List.take_of_length_le, List.drop_of_length_le, Nat.add_zero, V.one, Nat.reduceLeDiff, List.all_cons, List.all_nil, ne_eq, not_false_eq_true, Nat.zero_le, gs_ne, gs_eq, ga_lt, ga_0, ga_k, sa_lt, sa_0, sa_k, A.lq, A.l1, A.a1, List.length_set, Heap.setMap, hq, h1]; done)) | refine To.block hxE5 ?_ | refine To.scope hxE5 ?_ | refine To.ret hxE5 ?_ | refine To.exit hxE5 ?_ | refine To.skip hxE5 ?_ | refine To.label hxE5 ?_ | refine To.draw0 hxE5 ?_ | refine ToD.op0 (by simp only [go_sem, eqs hxE5, reduceIte, Nat.reduceEqDiff, Nat.reduceAdd, Nat.reduceMul, Nat.reduceLT, Nat.reduceLeDiff, Int.reduceLT, Int.reduceLE, Int.reduceEq, reduceCtorEq, Int.reduceBEq, Int.reduceBNe, Int.reduceToNat, Nat.reduceSub, Nat.reduceDiv, Int.reduceNeg, Int.reduceAdd, Int.reduceSub, Int.reduceMul, Heap.gets, Heap.sets, Heap.get, bytesA_length, bytesA_one, bytesA_plains, List.take_of_length_le, List.drop_of_length_le, Nat.add_zero, V.one, Nat.reduceLeDiff, List.all_cons, List.all_nil, ne_eq, not_false_eq_true, Nat.zero_le, gs_ne, gs_eq, ga_lt, ga_0, ga_k, sa_lt, sa_0, sa_k, A.lq, A.l1, A.a1, List.length_set, Heap.setMap, hq, h1]; rfl) (by simp only [put_some, put_none]; rfl) ?_ | refine ToD.op1 (by simp only [go_sem, eqs hxE5, reduceIte, Nat.reduceEqDiff, Nat.reduceAdd, Nat.reduceMul, Nat.reduceLT, Nat.reduceLeDiff, Int.reduceLT, Int.reduceLE, Int.reduceEq, reduceCtorEq, Int.reduceBEq, Int.reduceBNe, Int.reduceToNat, Nat.reduceSub, Nat.reduceDiv, Int.reduceNeg, Int.reduceAdd, Int.reduceSub, Int.reduceMul, Heap.gets, Heap.sets, Heap.get, bytesA_length, bytesA_one, bytesA_plains, List.take_of_length_le, List.drop_of_length_le, Nat.add_zero, V.one, Nat.reduceLeDiff, List.all_cons, List.all_nil, ne_eq, not_false_eq_true, Nat.zero_le, gs_ne, gs_eq, ga_lt, ga_0, ga_k, sa_lt, sa_0, sa_k, A.lq, A.l1, A.a1, List.length_set, Heap.setMap, hq, h1]; rfl) (by simp only [put_some, put_none]; rfl) (by simp only [KD.app, go_sem, eqs hxE5, reduceIte, Nat.reduceEqDiff, Nat.reduceAdd, Nat.reduceMul, Nat.reduceLT, Nat.reduceLeDiff, Int.reduceLT, Int.reduceLE, Int.reduceEq, reduceCtorEq, Int.reduceBEq, Int.reduceBNe, Int.reduceToNat, Nat.reduceSub, Nat.reduceDiv, Int.reduceNeg, Int.reduceAdd, Int.reduceSub, Int.reduceMul, Heap.gets, Heap.sets, Heap.get, bytesA_length, bytesA_one, bytesA_plains, List.take_of_length_le, List.drop_of_length_le, Nat.add_zero, V.one, Nat.reduceLeDiff, List.all_cons, List.all_nil, ne_eq, not_false_eq_true, Nat.zero_le, gs_ne, gs_eq, ga_lt, ga_0, ga_k, sa_lt, sa_0, sa_k, A.lq, A.l1, A.a1, List.length_set, Heap.setMap, hq, h1]; rfl) ?_ | refine ToD.nop ?_ | refine To.draw hxE5 (by decide) ?_))
  refine ⟨_, _, finQT (i := 2) (n := 8) (j := 3) (l := o.length) (o := 0) rfl (by simp only [go_sem, eqs hxE5, reduceIte, Nat.reduceEqDiff, Nat.reduceAdd, Nat.reduceMul, Nat.reduceLT, Nat.reduceLeDiff, Int.reduceLT, Int.reduceLE, Int.reduceEq, reduceCtorEq, Int.reduceBEq, Int.reduceBNe, Int.reduceToNat, Nat.reduceSub, Nat.reduceDiv, Int.reduceNeg, Int.reduceAdd, Int.reduceSub, Int.reduceMul]) (by simp only [go_sem, eqs hxE5, reduceIte, Nat.reduceEqDiff, Nat.reduceAdd, Nat.reduceMul, Nat.reduceLT, Nat.reduceLeDiff, Int.reduceLT, Int.reduceLE, Int.reduceEq, reduceCtorEq, Int.reduceBEq, Int.reduceBNe, Int.reduceToNat, Nat.reduceSub, Nat.reduceDiv, Int.reduceNeg, Int.reduceAdd, Int.reduceSub, Int.reduceMul, Heap.gets, Heap.sets, Heap.get, bytesA_length, bytesA_one, bytesA_plains, List.take_of_length_le, List.drop_of_length_le, Nat.add_zero, V.one, Nat.reduceLeDiff, List.all_cons, List.all_nil, ne_eq, not_false_eq_true, Nat.zero_le, ga_0, ga_k, List.length_set]; rfl), ?_, ?_⟩
  · simp only [go_sem, eqs hxE5, reduceIte, Nat.reduceEqDiff, Nat.reduceAdd, Nat.reduceMul, Nat.reduceLT, Nat.reduceLeDiff, Int.reduceLT, Int.reduceLE, Int.reduceEq, reduceCtorEq, Int.reduceBEq, Int.reduceBNe, Int.reduceToNat, Nat.reduceSub, Nat.reduceDiv, Int.reduceNeg, Int.reduceAdd, Int.reduceSub, Int.reduceMul]
  · have := A.l1
    rw [leave_turn (by simp) (Nat.le_refl _) (by omega) (by simp only [go_sem, eqs hxE5, reduceIte, Nat.reduceEqDiff, Nat.reduceAdd, Nat.reduceMul, Nat.reduceLT, Nat.reduceLeDiff, Int.reduceLT, Int.reduceLE, Int.reduceEq, reduceCtorEq, Int.reduceBEq, Int.reduceBNe, Int.reduceToNat, Nat.reduceSub, Nat.reduceDiv, Int.reduceNeg, Int.reduceAdd, Int.reduceSub, Int.reduceMul])]
    exact ⟨_, by omega, rfl⟩

/-- What is taken: the first that waits still; the rest. -/
def takeF (W : List Int) : List Rq → Option Rq × List Rq
  | [] => (none, [])
  | r :: t => if W.contains r.id = true then (some r, t) else takeF W t
def takeVal : Option Rq → V
  | none => .tuple [Rq.zero.v, .bool false]
  | some r => .tuple [r.v, .bool true]
def takeW (W : List Int) : Option Rq → List Int
  | none => W
  | some r => W.erase r.id
def takeO (O : List (Int × Int)) : Option Rq → List (Int × Int)
  | none => O
  | some r => O ++ [(r.id, r.op)]

set_option maxHeartbeats 8000000 in
theorem take_q {L : List Rq} {W : List Int} {O : List (Int × Int)} (h : PQ o q c1 c2 m1 m2 (L.map Rq.v) ns (entO O) (entW W) last lost) (hO : ∀ r ∈ L, ∀ x ∈ O, x.1 ≠ r.id) :
    ∃ v oh, Den FF E5 31 [.ptr q 0] ⟨o, e, d⟩ = some (v, oh) ∧ v = .val (takeVal (takeF W L).1) ∧ ∃ o' d', oh.getD ⟨o, e, d⟩ = ⟨o', e, d'⟩ ∧
      PQ o' q c1 c2 m1 m2 ((takeF W L).2.map Rq.v) ns (entO (takeO O (takeF W L).1)) (entW (takeW W (takeF W L).1)) last lost ∧ Qx q c1 c2 m1 m2 o o' := by
  refine To.denE hxE5 (f := 31) (a := af31) rfl (E5_none rfl) (Nat.le_of_ble_eq_true rfl) ?_
  have hP := h
  have A := hP.ap
  (repeat' (first | refine To.seq hxE5 ?_ | refine To.op0 hxE5 (by simp only [go_sem, eqs hxE5, reduceIte, Nat.reduceEqDiff, Nat.reduceAdd, Nat.reduceMul, Nat.reduceLT, Nat.reduceLeDiff, Int.reduceLT, Int.reduceLE, Int.reduceEq, reduceCtorEq, Int.reduceBEq, Int.reduceBNe, Int.reduceToNat, Nat.reduceSub, Nat.reduceDiv, Int.reduceNeg, Int.reduceAdd, Int.reduceSub, Int.reduceMul]; rfl) ?_ | refine To.op1 hxE5 (by simp only [go_sem, eqs hxE5, reduceIte, Nat.reduceEqDiff, Nat.reduceAdd, Nat.reduceMul, Nat.reduceLT, Nat.reduceLeDiff, Int.reduceLT, Int.reduceLE, Int.reduceEq, reduceCtorEq, Int.reduceBEq, Int.reduceBNe, Int.reduceToNat, Nat.reduceSub, Nat.reduceDiv, Int.reduceNeg, Int.reduceAdd, Int.reduceSub, Int.reduceMul]; rfl) ?_ | refine To.sel hxE5 (by simp only [selA, go_sem, eqs hxE5, reduceIte, Nat.reduceEqDiff, Nat.reduceAdd, Nat.reduceMul, Nat.reduceLT, Nat.reduceLeDiff, Int.reduceLT, Int.reduceLE, Int.reduceEq, reduceCtorEq, Int.reduceBEq, Int.reduceBNe, Int.reduceToNat, Nat.reduceSub, Nat.reduceDiv, Int.reduceNeg, Int.reduceAdd, Int.reduceSub, Int.reduceMul]; rfl) ?_ | refine To.nop hxE5 ?_ | (refine To.condT hxE5 ?_ ?_; focus (simp only [go_sem, eqs hxE5, reduceIte, Nat.reduceEqDiff, Nat.reduceAdd, Nat.reduceMul, Nat.reduceLT, Nat.reduceLeDiff, Int.reduceLT, Int.reduceLE, Int.reduceEq, reduceCtorEq, Int.reduceBEq, Int.reduceBNe, Int.reduceToNat, Nat.reduceSub, Nat.reduceDiv, Int.reduceNeg, Int.reduceAdd, Int.reduceSub, Int.reduceMul]; done)) | (refine To.condF hxE5 ?_ ?_; focus (simp only [go_sem, eqs hxE5, reduceIte, Nat.reduceEqDiff, Nat.reduceAdd, Nat.reduceMul, Nat.reduceLT, Nat.reduceLeDiff, Int.reduceLT, Int.reduceLE, Int.reduceEq, reduceCtorEq, Int.reduceBEq, Int.reduceBNe, Int.reduceToNat, Nat.reduceSub, Nat.reduceDiv, Int.reduceNeg, Int.reduceAdd, Int.reduceSub, Int.reduceMul]; done)) | refine To.block hxE5 ?_ | refine To.scope hxE5 ?_ | refine To.ret hxE5 ?_ | refine To.exit hxE5 ?_ | refine To.skip hxE5 ?_ | refine To.label hxE5 ?_ | refine To.draw0 hxE5 ?_ | refine ToD.op0 (by simp only [go_sem, eqs hxE5, reduceIte, Nat.reduceEqDiff, Nat.reduceAdd, Nat.reduceMul, Nat.reduceLT, Nat.reduceLeDiff, Int.reduceLT, Int.reduceLE, Int.reduceEq, reduceCtorEq, Int.reduceBEq, Int.reduceBNe, Int.reduceToNat, Nat.reduceSub, Nat.reduceDiv, Int.reduceNeg, Int.reduceAdd, Int.reduceSub, Int.reduceMul]; rfl) (by simp only [put_some, put_none]; rfl) ?_ | refine ToD.op1 (by simp only [go_sem, eqs hxE5, reduceIte, Nat.reduceEqDiff, Nat.reduceAdd, Nat.reduceMul, Nat.reduceLT, Nat.reduceLeDiff, Int.reduceLT, Int.reduceLE, Int.reduceEq, reduceCtorEq, Int.reduceBEq, Int.reduceBNe, Int.reduceToNat, Nat.reduceSub, Nat.reduceDiv, Int.reduceNeg, Int.reduceAdd, Int.reduceSub, Int.reduceMul]; rfl) (by simp only [put_some, put_none]; rfl) (by simp only [KD.app, go_sem, eqs hxE5, reduceIte, Nat.reduceEqDiff, Nat.reduceAdd, Nat.reduceMul, Nat.reduceLT, Nat.reduceLeDiff, Int.reduceLT, Int.reduceLE, Int.reduceEq, reduceCtorEq, Int.reduceBEq, Int.reduceBNe, Int.reduceToNat, Nat.reduceSub, Nat.reduceDiv, Int.reduceNeg, Int.reduceAdd, Int.reduceSub, Int.reduceMul]; rfl) ?_ | refine ToD.nop ?_ | refine To.draw hxE5 (by decide) ?_))
  refine To.loop hxE5 (fun k S h' => ∃ L' o' e' d', k = L'.length ∧ h' = ⟨o', e', d'⟩ ∧ takeF W L' = takeF W L ∧ (∀ r ∈ L', r ∈ L) ∧ (L' = L ∨ d' < o.length) ∧ PQ o' q c1 c2 m1 m2 (L'.map Rq.v) ns (entO O) (entW W) last lost ∧ Qx q c1 c2 m1 m2 o o' ∧ o.length ≤ e' ∧ o'[o.length]? = some (.cells .ex 23 0 [.int .i64 0, .int .i64 0, .int .i64 0, .int .i64 0, .int .i64 0, .int .i64 0, .str [], .str []]) ∧ S 0 = .ptr q 0 ∧ S 2 = .ptr o.length 0) ?_ L.length _ _ ?_
  · rintro k S _ ⟨L', o', e', d', rfl, rfl, hT, hM, hD, hP', hQ', he', hz, s0, s2⟩
    have A' := hP'.ap
    have hlen := hQ'.len
    have hl2 := get_lt hz
    have n1 : o.length ≠ q := by have := A.lq; omega
    cases L' with
    | nil =>
      obtain ⟨v, oh, q1, rfl, rfl⟩ := next_nil (e := e') (d := d') hP'
      unfold Rq.v Rq.cs Rq.zero at q1
      (repeat' (first | refine To.seq hxE5 ?_ | refine To.op0 hxE5 (by simp only [go_sem, eqs hxE5, reduceIte, Nat.reduceEqDiff, Nat.reduceAdd, Nat.reduceMul, Nat.reduceLT, Nat.reduceLeDiff, Int.reduceLT, Int.reduceLE, Int.reduceEq, reduceCtorEq, Int.reduceBEq, Int.reduceBNe, Int.reduceToNat, Nat.reduceSub, Nat.reduceDiv, Int.reduceNeg, Int.reduceAdd, Int.reduceSub, Int.reduceMul, Heap.gets, Heap.sets, Heap.get, bytesA_length, bytesA_one, bytesA_plains, List.take_of_length_le, List.drop_of_length_le, Nat.add_zero, V.one, Nat.reduceLeDiff, List.all_cons, List.all_nil, ne_eq, not_false_eq_true, Nat.zero_le, gs_ne, gs_eq, ga_lt, ga_0, ga_k, sa_lt, sa_0, sa_k, s0, s2, q1, hl2, hz, List.length_set]; rfl) ?_ | refine To.op1 hxE5 (by simp only [go_sem, eqs hxE5, reduceIte, Nat.reduceEqDiff, Nat.reduceAdd, Nat.reduceMul, Nat.reduceLT, Nat.reduceLeDiff, Int.reduceLT, Int.reduceLE, Int.reduceEq, reduceCtorEq, Int.reduceBEq, Int.reduceBNe, Int.reduceToNat, Nat.reduceSub, Nat.reduceDiv, Int.reduceNeg, Int.reduceAdd, Int.reduceSub, Int.reduceMul, Heap.gets, Heap.sets, Heap.get, bytesA_length, bytesA_one, bytesA_plains, List.take_of_length_le, List.drop_of_length_le, Nat.add_zero, V.one, Nat.reduceLeDiff, List.all_cons, List.all_nil, ne_eq, not_false_eq_true, Nat.zero_le, gs_ne, gs_eq, ga_lt, ga_0, ga_k, sa_lt, sa_0, sa_k, s0, s2, q1, hl2, hz, List.length_set]; rfl) ?_ | refine To.sel hxE5 (by simp only [selA, go_sem, eqs hxE5, reduceIte, Nat.reduceEqDiff, Nat.reduceAdd, Nat.reduceMul, Nat.reduceLT, Nat.reduceLeDiff, Int.reduceLT, Int.reduceLE, Int.reduceEq, reduceCtorEq, Int.reduceBEq, Int.reduceBNe, Int.reduceToNat, Nat.reduceSub, Nat.reduceDiv, Int.reduceNeg, Int.reduceAdd, Int.reduceSub, Int.reduceMul, Heap.gets, Heap.sets, Heap.get, bytesA_length, bytesA_one, bytesA_plains, List.take_of_length_le, List.drop_of_length_le, Nat.add_zero, V.one, Nat.reduceLeDiff, List.all_cons, List.all_nil, ne_eq, not_false_eq_true, Nat.zero_le, gs_ne, gs_eq, ga_lt, ga_0, ga_k, sa_lt, sa_0, sa_k, s0, s2, q1, hl2, hz, List.length_set]; rfl) ?_ | refine To.nop hxE5 ?_ | (refine To.condT hxE5 ?_ ?_; focus (simp only [go_sem, eqs hxE5, reduceIte, Nat.reduceEqDiff, Nat.reduceAdd, Nat.reduceMul, Nat.reduceLT, Nat.reduceLeDiff, Int.reduceLT, Int.reduceLE, Int.reduceEq, reduceCtorEq, Int.reduceBEq, Int.reduceBNe, Int.reduceToNat, Nat.reduceSub, Nat.reduceDiv, Int.reduceNeg, Int.reduceAdd, Int.reduceSub, Int.reduceMul, Heap.gets, Heap.sets, Heap.get, bytesA_length, bytesA_one, bytesA_plains, List.take_of_length_le, List.drop_of_length_le, Nat.add_zero, V.one, Nat.reduceLeDiff, List.all_cons, List.all_nil, ne_eq, not_false_eq_true, Nat.zero_le, gs_ne, gs_eq, ga_lt, ga_0, ga_k, sa_lt, sa_0, sa_k, s0, s2, q1, hl2, hz, List.length_set]; done)) | (refine To.condF hxE5 ?_ ?_; focus (simp only [go_sem, eqs hxE5, reduceIte, Nat.reduceEqDiff, Nat.reduceAdd, Nat.reduceMul, Nat.reduceLT, Nat.reduceLeDiff, Int.reduceLT, Int.reduceLE, Int.reduceEq, reduceCtorEq, Int.reduceBEq, Int.reduceBNe, Int.reduceToNat, Nat.reduceSub, Nat.reduceDiv, Int.reduceNeg, Int.reduceAdd, Int.reduceSub, Int.reduceMul, Heap.gets, Heap.sets, Heap.get, bytesA_length, bytesA_one, bytesA_plains, List.take_of_length_le, List.drop_of_length_le, Nat.add_zero, V.one, Nat.reduceLeDiff, List.all_cons, List.all_nil, ne_eq, not_false_eq_true, Nat.zero_le, gs_ne, gs_eq, ga_lt, ga_0, ga_k, sa_lt, sa_0, sa_k, s0, s2, q1, hl2, hz, List.length_set]; done)) | refine To.block hxE5 ?_ | refine To.scope hxE5 ?_ | refine To.ret hxE5 ?_ | refine To.exit hxE5 ?_ | refine To.skip hxE5 ?_ | refine To.label hxE5 ?_ | refine To.draw0 hxE5 ?_ | refine ToD.op0 (by simp only [go_sem, eqs hxE5, reduceIte, Nat.reduceEqDiff, Nat.reduceAdd, Nat.reduceMul, Nat.reduceLT, Nat.reduceLeDiff, Int.reduceLT, Int.reduceLE, Int.reduceEq, reduceCtorEq, Int.reduceBEq, Int.reduceBNe, Int.reduceToNat, Nat.reduceSub, Nat.reduceDiv, Int.reduceNeg, Int.reduceAdd, Int.reduceSub, Int.reduceMul, Heap.gets, Heap.sets, Heap.get, bytesA_length, bytesA_one, bytesA_plains, List.take_of_length_le, List.drop_of_length_le, Nat.add_zero, V.one, Nat.reduceLeDiff, List.all_cons, List.all_nil, ne_eq, not_false_eq_true, Nat.zero_le, gs_ne, gs_eq, ga_lt, ga_0, ga_k, sa_lt, sa_0, sa_k, s0, s2, q1, hl2, hz, List.length_set]; rfl) (by simp only [put_some, put_none]; rfl) ?_ | refine ToD.op1 (by simp only [go_sem, eqs hxE5, reduceIte, Nat.reduceEqDiff, Nat.reduceAdd, Nat.reduceMul, Nat.reduceLT, Nat.reduceLeDiff, Int.reduceLT, Int.reduceLE, Int.reduceEq, reduceCtorEq, Int.reduceBEq, Int.reduceBNe, Int.reduceToNat, Nat.reduceSub, Nat.reduceDiv, Int.reduceNeg, Int.reduceAdd, Int.reduceSub, Int.reduceMul, Heap.gets, Heap.sets, Heap.get, bytesA_length, bytesA_one, bytesA_plains, List.take_of_length_le, List.drop_of_length_le, Nat.add_zero, V.one, Nat.reduceLeDiff, List.all_cons, List.all_nil, ne_eq, not_false_eq_true, Nat.zero_le, gs_ne, gs_eq, ga_lt, ga_0, ga_k, sa_lt, sa_0, sa_k, s0, s2, q1, hl2, hz, List.length_set]; rfl) (by simp only [put_some, put_none]; rfl) (by simp only [KD.app, go_sem, eqs hxE5, reduceIte, Nat.reduceEqDiff, Nat.reduceAdd, Nat.reduceMul, Nat.reduceLT, Nat.reduceLeDiff, Int.reduceLT, Int.reduceLE, Int.reduceEq, reduceCtorEq, Int.reduceBEq, Int.reduceBNe, Int.reduceToNat, Nat.reduceSub, Nat.reduceDiv, Int.reduceNeg, Int.reduceAdd, Int.reduceSub, Int.reduceMul, Heap.gets, Heap.sets, Heap.get, bytesA_length, bytesA_one, bytesA_plains, List.take_of_length_le, List.drop_of_length_le, Nat.add_zero, V.one, Nat.reduceLeDiff, List.all_cons, List.all_nil, ne_eq, not_false_eq_true, Nat.zero_le, gs_ne, gs_eq, ga_lt, ga_0, ga_k, sa_lt, sa_0, sa_k, s0, s2, q1, hl2, hz, List.length_set]; rfl) ?_ | refine ToD.nop ?_ | refine To.draw hxE5 (by decide) ?_))
      refine ⟨_, _, finQT (i := 2) (n := 8) (j := 3) (l := o.length) (o := 0) rfl (by simp only [go_sem, eqs hxE5, reduceIte, Nat.reduceEqDiff, Nat.reduceAdd, Nat.reduceMul, Nat.reduceLT, Nat.reduceLeDiff, Int.reduceLT, Int.reduceLE, Int.reduceEq, reduceCtorEq, Int.reduceBEq, Int.reduceBNe, Int.reduceToNat, Nat.reduceSub, Nat.reduceDiv, Int.reduceNeg, Int.reduceAdd, Int.reduceSub, Int.reduceMul, s2]) (by simp only [go_sem, eqs hxE5, reduceIte, Nat.reduceEqDiff, Nat.reduceAdd, Nat.reduceMul, Nat.reduceLT, Nat.reduceLeDiff, Int.reduceLT, Int.reduceLE, Int.reduceEq, reduceCtorEq, Int.reduceBEq, Int.reduceBNe, Int.reduceToNat, Nat.reduceSub, Nat.reduceDiv, Int.reduceNeg, Int.reduceAdd, Int.reduceSub, Int.reduceMul, Heap.gets, Heap.sets, Heap.get, bytesA_length, bytesA_one, bytesA_plains, List.take_of_length_le, List.drop_of_length_le, Nat.add_zero, V.one, Nat.reduceLeDiff, List.all_cons, List.all_nil, ne_eq, not_false_eq_true, Nat.zero_le, ga_lt, gs_eq, hl2, List.length_set]; try rfl), ?_, ?_⟩
      · rw [← hT]; simp only [go_sem, eqs hxE5, reduceIte, Nat.reduceEqDiff, Nat.reduceAdd, Nat.reduceMul, Nat.reduceLT, Nat.reduceLeDiff, Int.reduceLT, Int.reduceLE, Int.reduceEq, reduceCtorEq, Int.reduceBEq, Int.reduceBNe, Int.reduceToNat, Nat.reduceSub, Nat.reduceDiv, Int.reduceNeg, Int.reduceAdd, Int.reduceSub, Int.reduceMul, takeF, takeVal]; try rfl
      · rw [← hT]
        simp only [takeF, takeO, takeW]
        refine close_q A ((hP'.old ⟨n1, ?_, ?_, ?_, ?_⟩).app _) ((hQ'.new (Nat.le_refl _)).trans (Qx.app _)) ?_ ?_ ?_
        · have := A.l1; omega
        · have := A.l2; omega
        · have := A.l3; omega
        · have := A.l4; omega
        · simp only; omega
        · simp only [go_sem, eqs hxE5, reduceIte, Nat.reduceEqDiff, Nat.reduceAdd, Nat.reduceMul, Nat.reduceLT, Nat.reduceLeDiff, Int.reduceLT, Int.reduceLE, Int.reduceEq, reduceCtorEq, Int.reduceBEq, Int.reduceBNe, Int.reduceToNat, Nat.reduceSub, Nat.reduceDiv, Int.reduceNeg, Int.reduceAdd, Int.reduceSub, Int.reduceMul]
        · rcases hD with rfl | hD
          · exact .inr h
          · exact .inl (by simp only; omega)
    | cons r t =>
      obtain ⟨v, oh, q1, rfl, d2, hd2, rfl⟩ := next_cons (e := e') (d := d') hP'
      have hP2 := hP'.c1' (t.map Rq.v)
      have hQ2 := hQ'.trans (Qx.set (o := o') (y := .chan 8 (t.map Rq.v)) (.inr (.inl rfl)))
      have hz2 : (o'.set c1 (.chan 8 (t.map Rq.v)))[o.length]? = _ := (gs_ne (by have := A.l1; omega)).trans hz
      have hlo : (o'.set c1 (.chan 8 (t.map Rq.v))).length = o'.length := by simp
      generalize o'.set c1 (.chan 8 (t.map Rq.v)) = o2 at *
      have B := hP2.ap
      obtain ⟨hq, h1, h2, h3, h4, hm⟩ := hP2
      have hl3 := get_lt hz2
      unfold pqC at hq
      have f1 := find_W r.id W
      unfold Rq.v Rq.cs at q1
      cases hc : W.contains r.id
      · rw [hc] at f1
        (repeat' (first | refine To.seq hxE5 ?_ | refine To.op0 hxE5 (by simp only [go_sem, eqs hxE5, reduceIte, Nat.reduceEqDiff, Nat.reduceAdd, Nat.reduceMul, Nat.reduceLT, Nat.reduceLeDiff, Int.reduceLT, Int.reduceLE, Int.reduceEq, reduceCtorEq, Int.reduceBEq, Int.reduceBNe, Int.reduceToNat, Nat.reduceSub, Nat.reduceDiv, Int.reduceNeg, Int.reduceAdd, Int.reduceSub, Int.reduceMul, Heap.gets, Heap.sets, Heap.get, bytesA_length, bytesA_one, bytesA_plains, List.take_of_length_le, List.drop_of_length_le, Nat.add_zero, V.one, Nat.reduceLeDiff, List.all_cons, List.all_nil, ne_eq, not_false_eq_true, Nat.zero_le, gs_ne, gs_eq, ga_lt, ga_0, ga_k, sa_lt, sa_0, sa_k, s0, s2, q1, B.lq, B.l4, Heap.setMap, List.length_set, Heap.setMap, hq, h4, f1, V.key, Option.getD]; rfl) ?_ | refine To.op1 hxE5 (by simp only [go_sem, eqs hxE5, reduceIte, Nat.reduceEqDiff, Nat.reduceAdd, Nat.reduceMul, Nat.reduceLT, Nat.reduceLeDiff, Int.reduceLT, Int.reduceLE, Int.reduceEq, reduceCtorEq, Int.reduceBEq, Int.reduceBNe, Int.reduceToNat, Nat.reduceSub, Nat.reduceDiv, Int.reduceNeg, Int.reduceAdd, Int.reduceSub, Int.reduceMul, Heap.gets, Heap.sets, Heap.get, bytesA_length, bytesA_one, bytesA_plains, List.take_of_length_le, List.drop_of_length_le, Nat.add_zero, V.one, Nat.reduceLeDiff, List.all_cons, List.all_nil, ne_eq, not_false_eq_true, Nat.zero_le, gs_ne, gs_eq, ga_lt, ga_0, ga_k, sa_lt, sa_0, sa_k, s0, s2, q1, B.lq, B.l4, Heap.setMap, List.length_set, Heap.setMap, hq, h4, f1, V.key, Option.getD]; rfl) ?_ | refine To.sel hxE5 (by simp only [selA, go_sem, eqs hxE5, reduceIte, Nat.reduceEqDiff, Nat.reduceAdd, Nat.reduceMul, Nat.reduceLT, Nat.reduceLeDiff, Int.reduceLT, Int.reduceLE, Int.reduceEq, reduceCtorEq, Int.reduceBEq, Int.reduceBNe, Int.reduceToNat, Nat.reduceSub, Nat.reduceDiv, Int.reduceNeg, Int.reduceAdd, Int.reduceSub, Int.reduceMul, Heap.gets, Heap.sets, Heap.get, bytesA_length, bytesA_one, bytesA_plains, List.take_of_length_le, List.drop_of_length_le, Nat.add_zero, V.one, Nat.reduceLeDiff, List.all_cons, List.all_nil, ne_eq, not_false_eq_true, Nat.zero_le, gs_ne, gs_eq, ga_lt, ga_0, ga_k, sa_lt, sa_0, sa_k, s0, s2, q1, B.lq, B.l4, Heap.setMap, List.length_set, Heap.setMap, hq, h4, f1, V.key, Option.getD]; rfl) ?_ | refine To.nop hxE5 ?_ | (refine To.condT hxE5 ?_ ?_; focus (simp only [go_sem, eqs hxE5, reduceIte, Nat.reduceEqDiff, Nat.reduceAdd, Nat.reduceMul, Nat.reduceLT, Nat.reduceLeDiff, Int.reduceLT, Int.reduceLE, Int.reduceEq, reduceCtorEq, Int.reduceBEq, Int.reduceBNe, Int.reduceToNat, Nat.reduceSub, Nat.reduceDiv, Int.reduceNeg, Int.reduceAdd, Int.reduceSub, Int.reduceMul, Heap.gets, Heap.sets, Heap.get, bytesA_length, bytesA_one, bytesA_plains, List.take_of_length_le, List.drop_of_length_le, Nat.add_zero, V.one, Nat.reduceLeDiff, List.all_cons, List.all_nil, ne_eq, not_false_eq_true, Nat.zero_le, gs_ne, gs_eq, ga_lt, ga_0, ga_k, sa_lt, sa_0, sa_k, s0, s2, q1, B.lq, B.l4, Heap.setMap, List.length_set, Heap.setMap, hq, h4, f1, V.key, Option.getD]; done)) | (refine To.condF hxE5 ?_ ?_; focus (simp only [go_sem, eqs hxE5, reduceIte, Nat.reduceEqDiff, Nat.reduceAdd, Nat.reduceMul, Nat.reduceLT, Nat.reduceLeDiff, Int.reduceLT, Int.reduceLE, Int.reduceEq, reduceCtorEq, Int.reduceBEq, Int.reduceBNe, Int.reduceToNat, Nat.reduceSub, Nat.reduceDiv, Int.reduceNeg, Int.reduceAdd, Int.reduceSub, Int.reduceMul, Heap.gets, Heap.sets, Heap.get, bytesA_length, bytesA_one, bytesA_plains, List.take_of_length_le, List.drop_of_length_le, Nat.add_zero, V.one, Nat.reduceLeDiff, List.all_cons, List.all_nil, ne_eq, not_false_eq_true, Nat.zero_le, gs_ne, gs_eq, ga_lt, ga_0, ga_k, sa_lt, sa_0, sa_k, s0, s2, q1, B.lq, B.l4, Heap.setMap, List.length_set, Heap.setMap, hq, h4, f1, V.key, Option.getD]; done)) | refine To.block hxE5 ?_ | refine To.scope hxE5 ?_ | refine To.ret hxE5 ?_ | refine To.exit hxE5 ?_ | refine To.skip hxE5 ?_ | refine To.label hxE5 ?_ | refine To.draw0 hxE5 ?_ | refine ToD.op0 (by simp only [go_sem, eqs hxE5, reduceIte, Nat.reduceEqDiff, Nat.reduceAdd, Nat.reduceMul, Nat.reduceLT, Nat.reduceLeDiff, Int.reduceLT, Int.reduceLE, Int.reduceEq, reduceCtorEq, Int.reduceBEq, Int.reduceBNe, Int.reduceToNat, Nat.reduceSub, Nat.reduceDiv, Int.reduceNeg, Int.reduceAdd, Int.reduceSub, Int.reduceMul, Heap.gets, Heap.sets, Heap.get, bytesA_length, bytesA_one, bytesA_plains, List.take_of_length_le, List.drop_of_length_le, Nat.add_zero, V.one, Nat.reduceLeDiff, List.all_cons, List.all_nil, ne_eq, not_false_eq_true, Nat.zero_le, gs_ne, gs_eq, ga_lt, ga_0, ga_k, sa_lt, sa_0, sa_k, s0, s2, q1, B.lq, B.l4, Heap.setMap, List.length_set, Heap.setMap, hq, h4, f1, V.key, Option.getD]; rfl) (by simp only [put_some, put_none]; rfl) ?_ | refine ToD.op1 (by simp only [go_sem, eqs hxE5, reduceIte, Nat.reduceEqDiff, Nat.reduceAdd, Nat.reduceMul, Nat.reduceLT, Nat.reduceLeDiff, Int.reduceLT, Int.reduceLE, Int.reduceEq, reduceCtorEq, Int.reduceBEq, Int.reduceBNe, Int.reduceToNat, Nat.reduceSub, Nat.reduceDiv, Int.reduceNeg, Int.reduceAdd, Int.reduceSub, Int.reduceMul, Heap.gets, Heap.sets, Heap.get, bytesA_length, bytesA_one, bytesA_plains, List.take_of_length_le, List.drop_of_length_le, Nat.add_zero, V.one, Nat.reduceLeDiff, List.all_cons, List.all_nil, ne_eq, not_false_eq_true, Nat.zero_le, gs_ne, gs_eq, ga_lt, ga_0, ga_k, sa_lt, sa_0, sa_k, s0, s2, q1, B.lq, B.l4, Heap.setMap, List.length_set, Heap.setMap, hq, h4, f1, V.key, Option.getD]; rfl) (by simp only [put_some, put_none]; rfl) (by simp only [KD.app, go_sem, eqs hxE5, reduceIte, Nat.reduceEqDiff, Nat.reduceAdd, Nat.reduceMul, Nat.reduceLT, Nat.reduceLeDiff, Int.reduceLT, Int.reduceLE, Int.reduceEq, reduceCtorEq, Int.reduceBEq, Int.reduceBNe, Int.reduceToNat, Nat.reduceSub, Nat.reduceDiv, Int.reduceNeg, Int.reduceAdd, Int.reduceSub, Int.reduceMul, Heap.gets, Heap.sets, Heap.get, bytesA_length, bytesA_one, bytesA_plains, List.take_of_length_le, List.drop_of_length_le, Nat.add_zero, V.one, Nat.reduceLeDiff, List.all_cons, List.all_nil, ne_eq, not_false_eq_true, Nat.zero_le, gs_ne, gs_eq, ga_lt, ga_0, ga_k, sa_lt, sa_0, sa_k, s0, s2, q1, B.lq, B.l4, Heap.setMap, List.length_set, Heap.setMap, hq, h4, f1, V.key, Option.getD]; rfl) ?_ | refine ToD.nop ?_ | refine To.draw hxE5 (by decide) ?_))
        try simp only [andThen, outOf]
        have hl1 := A.l1
        refine ⟨t.length, by simp, t, _, _, _, rfl, rfl, ?_, fun x hx => hM x (List.mem_cons_of_mem _ hx), .inr (by omega), (⟨hq, h1, h2, h3, h4, hm⟩ : PQ _ _ _ _ _ _ _ _ _ _ _ _).app _, hQ2.trans (Qx.app _), he', ?_, ?_⟩
        · rw [← hT, takeF, hc]; rfl
        · rw [ga_lt hl3]; exact hz2
        · simp only [go_sem, eqs hxE5, reduceIte, Nat.reduceEqDiff, Nat.reduceAdd, Nat.reduceMul, Nat.reduceLT, Nat.reduceLeDiff, Int.reduceLT, Int.reduceLE, Int.reduceEq, reduceCtorEq, Int.reduceBEq, Int.reduceBNe, Int.reduceToNat, Nat.reduceSub, Nat.reduceDiv, Int.reduceNeg, Int.reduceAdd, Int.reduceSub, Int.reduceMul, s0, s2]
      · rw [hc] at f1
        have f2 := drop_W r.id W
        have n3 : m1 ≠ o.length := by have := A.l3; omega
        have n4 : m2 ≠ o.length := by have := A.l4; omega
        have f3 : mapPut .i (.int .i64 r.id) (.int .i64 r.op) (entO O) = some (entO O ++ [(.int .i64 r.id, .int .i64 r.op)]) := by
          refine mapPut_new fun x hx => ?_
          simp only [entO, List.mem_map] at hx
          obtain ⟨y, hy, rfl⟩ := hx
          exact ⟨_, rfl, hO r (hM _ List.mem_cons_self) y hy⟩
        (repeat' (first | refine To.seq hxE5 ?_ | refine To.op0 hxE5 (by simp only [go_sem, eqs hxE5, reduceIte, Nat.reduceEqDiff, Nat.reduceAdd, Nat.reduceMul, Nat.reduceLT, Nat.reduceLeDiff, Int.reduceLT, Int.reduceLE, Int.reduceEq, reduceCtorEq, Int.reduceBEq, Int.reduceBNe, Int.reduceToNat, Nat.reduceSub, Nat.reduceDiv, Int.reduceNeg, Int.reduceAdd, Int.reduceSub, Int.reduceMul, Heap.gets, Heap.sets, Heap.get, bytesA_length, bytesA_one, bytesA_plains, List.take_of_length_le, List.drop_of_length_le, Nat.add_zero, V.one, Nat.reduceLeDiff, List.all_cons, List.all_nil, ne_eq, not_false_eq_true, Nat.zero_le, gs_ne, gs_eq, ga_lt, ga_0, ga_k, sa_lt, sa_0, sa_k, s0, s2, q1, B.lq, B.l3, B.l4, B.e4, B.f1, B.f4, n3, n4, hl3, Heap.setMap, List.length_set, Heap.setMap, hq, h3, h4, hz2, f1, f2, f3, V.key, Option.getD]; rfl) ?_ | refine To.op1 hxE5 (by simp only [go_sem, eqs hxE5, reduceIte, Nat.reduceEqDiff, Nat.reduceAdd, Nat.reduceMul, Nat.reduceLT, Nat.reduceLeDiff, Int.reduceLT, Int.reduceLE, Int.reduceEq, reduceCtorEq, Int.reduceBEq, Int.reduceBNe, Int.reduceToNat, Nat.reduceSub, Nat.reduceDiv, Int.reduceNeg, Int.reduceAdd, Int.reduceSub, Int.reduceMul, Heap.gets, Heap.sets, Heap.get, bytesA_length, bytesA_one, bytesA_plains, List.take_of_length_le, List.drop_of_length_le, Nat.add_zero, V.one, Nat.reduceLeDiff, List.all_cons, List.all_nil, ne_eq, not_false_eq_true, Nat.zero_le, gs_ne, gs_eq, ga_lt, ga_0, ga_k, sa_lt, sa_0, sa_k, s0, s2, q1, B.lq, B.l3, B.l4, B.e4, B.f1, B.f4, n3, n4, hl3, Heap.setMap, List.length_set, Heap.setMap, hq, h3, h4, hz2, f1, f2, f3, V.key, Option.getD]; rfl) ?_ | refine To.sel hxE5 (by simp only [selA, go_sem, eqs hxE5, reduceIte, Nat.reduceEqDiff, Nat.reduceAdd, Nat.reduceMul, Nat.reduceLT, Nat.reduceLeDiff, Int.reduceLT, Int.reduceLE, Int.reduceEq, reduceCtorEq, Int.reduceBEq, Int.reduceBNe, Int.reduceToNat, Nat.reduceSub, Nat.reduceDiv, Int.reduceNeg, Int.reduceAdd, Int.reduceSub, Int.reduceMul, Heap.gets, Heap.sets, Heap.get, bytesA_length, bytesA_one, bytesA_plains, List.take_of_length_le, List.drop_of_length_le, Nat.add_zero, V.one, Nat.reduceLeDiff, List.all_cons, List.all_nil, ne_eq, not_false_eq_true, Nat.zero_le, gs_ne, gs_eq, ga_lt, ga_0, ga_k, sa_lt, sa_0, sa_k, s0, s2, q1, B.lq, B.l3, B.l4, B.e4, B.f1, B.f4, n3, n4, hl3, Heap.setMap, List.length_set, Heap.setMap, hq, h3, h4, hz2, f1, f2, f3, V.key, Option.getD]; rfl) ?_ | refine To.nop hxE5 ?_ | (refine To.condT hxE5 ?_ ?_; focus (simp only [go_sem, eqs hxE5, reduceIte, Nat.reduceEqDiff, Nat.reduceAdd, Nat.reduceMul, Nat.reduceLT, Nat.reduceLeDiff, Int.reduceLT, Int.reduceLE, Int.reduceEq, reduceCtorEq, Int.reduceBEq, Int.reduceBNe, Int.reduceToNat, Nat.reduceSub, Nat.reduceDiv, Int.reduceNeg, Int.reduceAdd, Int.reduceSub, Int.reduceMul, Heap.gets, Heap.sets, Heap.get, bytesA_length, bytesA_one, bytesA_plains, List.take_of_length_le, List.drop_of_length_le, Nat.add_zero, V.one, Nat.reduceLeDiff, List.all_cons, List.all_nil, ne_eq, not_false_eq_true, Nat.zero_le, gs_ne, gs_eq, ga_lt, ga_0, ga_k, sa_lt, sa_0, sa_k, s0, s2, q1, B.lq, B.l3, B.l4, B.e4, B.f1, B.f4, n3, n4, hl3, Heap.setMap, List.length_set, Heap.setMap, hq, h3, h4, hz2, f1, f2, f3, V.key, Option.getD]; done)) | (refine To.condF hxE5 ?_ ?_; focus (simp only [go_sem, eqs hxE5, reduceIte, Nat.reduceEqDiff, Nat.reduceAdd, Nat.reduceMul, Nat.reduceLT, Nat.reduceLeDiff, Int.reduceLT, Int.reduceLE, Int.reduceEq, reduceCtorEq, Int.reduceBEq, Int.reduceBNe, Int.reduceToNat, Nat.reduceSub, Nat.reduceDiv, Int.reduceNeg, Int.reduceAdd, Int.reduceSub, Int.reduceMul, Heap.gets, Heap.sets, Heap.get, bytesA_length, bytesA_one, bytesA_plains, List.take_of_length_le, List.drop_of_length_le, Nat.add_zero, V.one, Nat.reduceLeDiff, List.all_cons, List.all_nil, ne_eq, not_false_eq_true, Nat.zero_le, gs_ne, gs_eq, ga_lt, ga_0, ga_k, sa_lt, sa_0, sa_k, s0, s2, q1, B.lq, B.l3, B.l4, B.e4, B.f1, B.f4, n3, n4, hl3, Heap.setMap, List.length_set, Heap.setMap, hq, h3, h4, hz2, f1, f2, f3, V.key, Option.getD]; done)) | refine To.block hxE5 ?_ | refine To.scope hxE5 ?_ | refine To.ret hxE5 ?_ | refine To.exit hxE5 ?_ | refine To.skip hxE5 ?_ | refine To.label hxE5 ?_ | refine To.draw0 hxE5 ?_ | refine ToD.op0 (by simp only [go_sem, eqs hxE5, reduceIte, Nat.reduceEqDiff, Nat.reduceAdd, Nat.reduceMul, Nat.reduceLT, Nat.reduceLeDiff, Int.reduceLT, Int.reduceLE, Int.reduceEq, reduceCtorEq, Int.reduceBEq, Int.reduceBNe, Int.reduceToNat, Nat.reduceSub, Nat.reduceDiv, Int.reduceNeg, Int.reduceAdd, Int.reduceSub, Int.reduceMul, Heap.gets, Heap.sets, Heap.get, bytesA_length, bytesA_one, bytesA_plains, List.take_of_length_le, List.drop_of_length_le, Nat.add_zero, V.one, Nat.reduceLeDiff, List.all_cons, List.all_nil, ne_eq, not_false_eq_true, Nat.zero_le, gs_ne, gs_eq, ga_lt, ga_0, ga_k, sa_lt, sa_0, sa_k, s0, s2, q1, B.lq, B.l3, B.l4, B.e4, B.f1, B.f4, n3, n4, hl3, Heap.setMap, List.length_set, Heap.setMap, hq, h3, h4, hz2, f1, f2, f3, V.key, Option.getD]; rfl) (by simp only [put_some, put_none]; rfl) ?_ | refine ToD.op1 (by simp only [go_sem, eqs hxE5, reduceIte, Nat.reduceEqDiff, Nat.reduceAdd, Nat.reduceMul, Nat.reduceLT, Nat.reduceLeDiff, Int.reduceLT, Int.reduceLE, Int.reduceEq, reduceCtorEq, Int.reduceBEq, Int.reduceBNe, Int.reduceToNat, Nat.reduceSub, Nat.reduceDiv, Int.reduceNeg, Int.reduceAdd, Int.reduceSub, Int.reduceMul, Heap.gets, Heap.sets, Heap.get, bytesA_length, bytesA_one, bytesA_plains, List.take_of_length_le, List.drop_of_length_le, Nat.add_zero, V.one, Nat.reduceLeDiff, List.all_cons, List.all_nil, ne_eq, not_false_eq_true, Nat.zero_le, gs_ne, gs_eq, ga_lt, ga_0, ga_k, sa_lt, sa_0, sa_k, s0, s2, q1, B.lq, B.l3, B.l4, B.e4, B.f1, B.f4, n3, n4, hl3, Heap.setMap, List.length_set, Heap.setMap, hq, h3, h4, hz2, f1, f2, f3, V.key, Option.getD]; rfl) (by simp only [put_some, put_none]; rfl) (by simp only [KD.app, go_sem, eqs hxE5, reduceIte, Nat.reduceEqDiff, Nat.reduceAdd, Nat.reduceMul, Nat.reduceLT, Nat.reduceLeDiff, Int.reduceLT, Int.reduceLE, Int.reduceEq, reduceCtorEq, Int.reduceBEq, Int.reduceBNe, Int.reduceToNat, Nat.reduceSub, Nat.reduceDiv, Int.reduceNeg, Int.reduceAdd, Int.reduceSub, Int.reduceMul, Heap.gets, Heap.sets, Heap.get, bytesA_length, bytesA_one, bytesA_plains, List.take_of_length_le, List.drop_of_length_le, Nat.add_zero, V.one, Nat.reduceLeDiff, List.all_cons, List.all_nil, ne_eq, not_false_eq_true, Nat.zero_le, gs_ne, gs_eq, ga_lt, ga_0, ga_k, sa_lt, sa_0, sa_k, s0, s2, q1, B.lq, B.l3, B.l4, B.e4, B.f1, B.f4, n3, n4, hl3, Heap.setMap, List.length_set, Heap.setMap, hq, h3, h4, hz2, f1, f2, f3, V.key, Option.getD]; rfl) ?_ | refine ToD.nop ?_ | refine To.draw hxE5 (by decide) ?_))
        have hl1 := A.l1
        refine ⟨_, _, finQT (i := 2) (n := 8) (j := 3) (l := o.length) (o := 0) rfl (by simp only [go_sem, eqs hxE5, reduceIte, Nat.reduceEqDiff, Nat.reduceAdd, Nat.reduceMul, Nat.reduceLT, Nat.reduceLeDiff, Int.reduceLT, Int.reduceLE, Int.reduceEq, reduceCtorEq, Int.reduceBEq, Int.reduceBNe, Int.reduceToNat, Nat.reduceSub, Nat.reduceDiv, Int.reduceNeg, Int.reduceAdd, Int.reduceSub, Int.reduceMul, s2]) (by simp only [go_sem, eqs hxE5, reduceIte, Nat.reduceEqDiff, Nat.reduceAdd, Nat.reduceMul, Nat.reduceLT, Nat.reduceLeDiff, Int.reduceLT, Int.reduceLE, Int.reduceEq, reduceCtorEq, Int.reduceBEq, Int.reduceBNe, Int.reduceToNat, Nat.reduceSub, Nat.reduceDiv, Int.reduceNeg, Int.reduceAdd, Int.reduceSub, Int.reduceMul, Heap.gets, Heap.sets, Heap.get, bytesA_length, bytesA_one, bytesA_plains, List.take_of_length_le, List.drop_of_length_le, Nat.add_zero, V.one, Nat.reduceLeDiff, List.all_cons, List.all_nil, ne_eq, not_false_eq_true, Nat.zero_le, ga_lt, gs_eq, hl3, List.length_set]; try rfl), ?_, ?_⟩
        · rw [← hT, takeF, hc]; simp only [go_sem, eqs hxE5, reduceIte, Nat.reduceEqDiff, Nat.reduceAdd, Nat.reduceMul, Nat.reduceLT, Nat.reduceLeDiff, Int.reduceLT, Int.reduceLE, Int.reduceEq, reduceCtorEq, Int.reduceBEq, Int.reduceBNe, Int.reduceToNat, Nat.reduceSub, Nat.reduceDiv, Int.reduceNeg, Int.reduceAdd, Int.reduceSub, Int.reduceMul, takeVal]; try rfl
        · rw [← hT, takeF, hc]
          simp only [takeO, takeW, if_true]
          refine close_q A ?_ ?_ ?_ ?_ (.inl ?_)
          · have h5 : PQ o2 q c1 c2 m1 m2 (t.map Rq.v) ns (entO O) (entW W) last lost := ⟨hq, h1, h2, h3, h4, hm⟩
            have h6 := ((h5.m2' (entW (W.erase r.id))).m1' (entO (O ++ [(r.id, r.op)]))).old (i := o.length) (y := .cells .ex 23 0 r.cs) ⟨n1, by omega, by have := A.l2; omega, by have := A.l3; omega, by have := A.l4; omega⟩
            have h7 := h6.app [.cells .ex 23 0 r.cs]
            simpa only [entO, List.map_append, List.map_cons, List.map_nil, Rq.cs] using h7
          · exact (((hQ2.trans (Qx.set (.inr (.inr (.inr (.inr rfl)))))).trans (Qx.set (.inr (.inr (.inr (.inl rfl)))))).new (Nat.le_refl _)).trans (Qx.app _)
          · exact he'
          · simp only [go_sem, eqs hxE5, reduceIte, Nat.reduceEqDiff, Nat.reduceAdd, Nat.reduceMul, Nat.reduceLT, Nat.reduceLeDiff, Int.reduceLT, Int.reduceLE, Int.reduceEq, reduceCtorEq, Int.reduceBEq, Int.reduceBNe, Int.reduceToNat, Nat.reduceSub, Nat.reduceDiv, Int.reduceNeg, Int.reduceAdd, Int.reduceSub, Int.reduceMul]
          · simp only
            omega
  · refine ⟨L, _, _, _, rfl, rfl, rfl, fun r hr => hr, .inl rfl, hP.app _, Qx.app _, ?_, ?_, ?_⟩
    · exact Nat.le_refl _
    · rw [app_get0]
    · simp only [go_sem, eqs hxE5, reduceIte, Nat.reduceEqDiff, Nat.reduceAdd, Nat.reduceMul, Nat.reduceLT, Nat.reduceLeDiff, Int.reduceLT, Int.reduceLE, Int.reduceEq, reduceCtorEq, Int.reduceBEq, Int.reduceBNe, Int.reduceToNat, Nat.reduceSub, Nat.reduceDiv, Int.reduceNeg, Int.reduceAdd, Int.reduceSub, Int.reduceMul]
end
end Go.Proofs.Ytjbblfoefibeaaa

