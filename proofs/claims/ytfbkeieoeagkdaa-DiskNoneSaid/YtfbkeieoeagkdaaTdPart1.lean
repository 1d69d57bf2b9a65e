/- Own texts, joined: TdFs, TdF, TdG, TdH, TdS, TdI, TdJ, TdN, TdL. -/
import Derived.Test.YtfbkeieoeagkdaaProg
import Derived.Test.YtfbkeieoeagkdaaChecked
import Derived.Shelf.SlIterI.Nil
import Derived.Shelf.SortM.Plain
import Derived.Shelf.SortM.SortNone
import Derived.Test.YtfbkeieoeagkdaaAmPart3
/- The abstract code of the functions of this seat: what the engine makes of the program's own code. Printed by a program (genfs.py); Lean checks each one. -/
namespace Go.Proofs.Ytfbkeieoeagkdaa
open Go AM

def af6 : AF := ⟨62, [.t 4], .seq (.region [⟨some 3, .box 31 (.t 1), none⟩, ⟨some 4, .mv (.k (.bool false)), none⟩] false) (.seq (.seq (.region [⟨some 8, .call 11 [], none⟩, ⟨some 9, .un .not (.t 8), none⟩] false) (.cond (.t 9) (.seq (.region [⟨some 4, .mv (.k (.bool false)), none⟩] false) .ret) .skip)) (.seq (.region [⟨some 5, .mv (.k .nilp), none⟩] false) (.seq (.region [⟨some 10, .mv (.t 5), none⟩, ⟨some 11, .mv (.t 0), none⟩, ⟨some 12, .call 18 [.t 10, .t 11], none⟩] false) (.seq (.region [⟨some 13, .mv (.t 5), none⟩, ⟨some 14, .bslice 5 1 [.int .u8 0, .int .u8 0] [(0, (1, .k (.int .u8 1))), (1, (1, .k (.int .u8 2)))], none⟩, ⟨some 15, .call 20 [.t 13, .t 14], none⟩] false) (.seq (.region [⟨some 17, .mv (.t 5), none⟩, ⟨some 18, .mv (.t 0), none⟩, ⟨some 19, .call 17 [.t 17, .t 18], none⟩, ⟨some 16, .mv (.t 19), none⟩, ⟨some 20, .extract (.t 16) 0, none⟩, ⟨some 21, .extract (.t 16) 1, none⟩, ⟨some 6, .alloc 31 z64, none⟩, ⟨none, .store 64 (.t 6) (.t 20), none⟩, ⟨some 7, .mv (.t 21), none⟩] false) (.seq (.region [⟨some 22, .mv (.t 5), none⟩, ⟨some 23, .mv (.t 0), none⟩, ⟨some 24, .load (some 64) (.t 3), none⟩, ⟨some 25, .call 13 [.t 22, .t 23, .t 24], none⟩, ⟨some 26, .bin .eql (.t 25) (.k (.int .i64 5)), none⟩, ⟨some 27, .mv (.t 26), none⟩, ⟨some 28, .load (some 64) (.t 6), some (27, true)⟩, ⟨some 29, .build z64 [], some (27, true)⟩, ⟨some 30, .eqf false true [(64, .i)] (.t 28) (.t 29), some (27, true)⟩, ⟨some 31, .pick (.t 27) (.t 30) (.k (.bool false)), none⟩, ⟨some 32, .mv (.t 31), none⟩, ⟨some 33, .mv (.t 7), some (32, true)⟩, ⟨some 34, .bin .eql (.t 33) (.k (.int .i64 5)), some (32, true)⟩, ⟨some 35, .pick (.t 32) (.t 34) (.k (.bool false)), none⟩, ⟨some 36, .mv (.t 35), none⟩, ⟨some 37, .mv (.t 5), some (36, true)⟩, ⟨some 38, .call 16 [.t 37], some (36, true)⟩, ⟨some 39, .bin .eql (.t 38) (.k (.int .i64 5)), some (36, true)⟩, ⟨some 40, .pick (.t 36) (.t 39) (.k (.bool false)), none⟩, ⟨some 41, .mv (.t 40), none⟩, ⟨some 42, .mv (.t 5), some (41, true)⟩, ⟨some 43, .call 27 [.t 42], some (41, true)⟩, ⟨some 44, .bin .eql (.t 43) (.k (.int .i64 0)), some (41, true)⟩, ⟨some 45, .pick (.t 41) (.t 44) (.k (.bool false)), none⟩, ⟨some 46, .mv (.t 45), none⟩, ⟨some 47, .mv (.t 5), some (46, true)⟩, ⟨some 48, .call 15 [.t 47], some (46, true)⟩, ⟨some 49, .bin .eql (.t 48) (.k (.int .i64 0)), some (46, true)⟩, ⟨some 50, .pick (.t 46) (.t 49) (.k (.bool false)), none⟩, ⟨some 51, .mv (.t 50), none⟩, ⟨some 52, .mv (.t 5), some (51, true)⟩, ⟨some 53, .call 19 [.t 52], some (51, true)⟩, ⟨some 54, .pick (.t 51) (.t 53) (.k (.bool false)), none⟩, ⟨some 55, .mv (.t 54), none⟩, ⟨some 56, .mv (.t 5), some (55, true)⟩, ⟨some 57, .mv (.t 0), some (55, true)⟩, ⟨some 58, .call 14 [.t 56, .t 57], some (55, true)⟩, ⟨some 59, .build z64 [], some (55, true)⟩, ⟨some 60, .eqf false true [(64, .i)] (.t 58) (.t 59), some (55, true)⟩, ⟨some 61, .pick (.t 55) (.t 60) (.k (.bool false)), none⟩, ⟨some 4, .mv (.t 61), none⟩] false) .ret))))))⟩
theorem tr6 : trProg Try.prog 6 = some af6 := by kernel_rfl
def af11 : AF := ⟨48, [.t 0], .seq (.region [⟨some 0, .mv (.k (.bool false)), none⟩] false) (.seq (.region [⟨some 6, .call 12 [.k (.int .i64 2)], none⟩, ⟨some 5, .mv (.t 6), none⟩, ⟨some 7, .extract (.t 5) 0, none⟩, ⟨some 8, .extract (.t 5) 1, none⟩, ⟨some 1, .mv (.t 7), none⟩, ⟨some 2, .mv (.t 8), none⟩] false) (.seq (.seq (.region [⟨some 9, .mv (.t 2), none⟩, ⟨some 10, .bin .neq (.t 9) (.k (.int .i64 0)), none⟩, ⟨some 11, .mv (.t 10), none⟩, ⟨some 12, .mv (.t 1), some (11, false)⟩, ⟨some 13, .eqf false false [(1, .p)] (.t 12) (.k .nilp), some (11, false)⟩, ⟨some 14, .pick (.t 11) (.k (.bool true)) (.t 13), none⟩, ⟨some 15, .mv (.t 14), none⟩, ⟨some 16, .mv (.t 1), some (15, false)⟩, ⟨some 17, .call 47 [.k (.int .u8 1)], some (15, false)⟩, ⟨some 18, .call 13 [.t 16, .k (.int .i64 0), .t 17], some (15, false)⟩, ⟨some 19, .bin .neq (.t 18) (.k (.int .i64 0)), some (15, false)⟩, ⟨some 20, .pick (.t 15) (.k (.bool true)) (.t 19), none⟩, ⟨some 21, .mv (.t 20), none⟩, ⟨some 22, .mv (.t 1), some (21, false)⟩, ⟨some 23, .call 16 [.t 22], some (21, false)⟩, ⟨some 24, .bin .neq (.t 23) (.k (.int .i64 0)), some (21, false)⟩, ⟨some 25, .pick (.t 21) (.k (.bool true)) (.t 24), none⟩, ⟨some 26, .mv (.t 25), none⟩, ⟨some 27, .mv (.t 1), some (26, false)⟩, ⟨some 28, .call 47 [.k (.int .u8 2)], some (26, false)⟩, ⟨some 29, .call 13 [.t 27, .k (.int .i64 0), .t 28], some (26, false)⟩, ⟨some 30, .bin .neq (.t 29) (.k (.int .i64 0)), some (26, false)⟩, ⟨some 31, .pick (.t 26) (.k (.bool true)) (.t 30), none⟩] false) (.cond (.t 31) (.seq (.region [⟨some 0, .mv (.k (.bool false)), none⟩] false) .ret) .skip)) (.seq (.region [⟨some 32, .mv (.t 1), none⟩, ⟨some 33, .bslice 5 1 [.int .u8 0] [(0, (1, .k (.int .u8 3)))], none⟩, ⟨some 34, .call 20 [.t 32, .t 33], none⟩] false) (.seq (.region [⟨some 36, .mv (.t 1), none⟩, ⟨some 37, .call 17 [.t 36, .k (.int .i64 0)], none⟩, ⟨some 35, .mv (.t 37), none⟩, ⟨some 38, .extract (.t 35) 0, none⟩, ⟨some 39, .extract (.t 35) 1, none⟩, ⟨some 3, .alloc 31 z64, none⟩, ⟨none, .store 64 (.t 3) (.t 38), none⟩, ⟨some 4, .mv (.t 39), none⟩] false) (.seq (.region [⟨some 40, .iaddrA 64 1 (.t 3) (.k (.int .i64 2)), none⟩, ⟨some 41, .load none (.t 40), none⟩, ⟨some 42, .bin .eql (.t 41) (.k (.int .u8 2)), none⟩, ⟨some 43, .mv (.t 42), none⟩, ⟨some 44, .iaddrA 64 1 (.t 3) (.k (.int .i64 3)), some (43, true)⟩, ⟨some 45, .load none (.t 44), some (43, true)⟩, ⟨some 46, .bin .eql (.t 45) (.k (.int .u8 1)), some (43, true)⟩, ⟨some 47, .pick (.t 43) (.t 46) (.k (.bool false)), none⟩, ⟨some 0, .mv (.t 47), none⟩] false) .ret)))))⟩
theorem tr11 : trProg Try.prog 11 = some af11 := by kernel_rfl
def af12 : AF := ⟨15, [.t 2, .t 3], .seq (.region [⟨some 2, .mv (.k .nilp), none⟩, ⟨some 3, .mv (.k (.int .i64 0)), none⟩] false) (.seq (.seq (.region [⟨some 4, .mv (.t 0), none⟩, ⟨some 5, .bin .lss (.t 4) (.k (.int .i64 1)), none⟩, ⟨some 6, .mv (.t 5), none⟩, ⟨some 7, .mv (.t 0), some (6, false)⟩, ⟨some 8, .bin .gtr (.t 7) (.k (.int .i64 512)), some (6, false)⟩, ⟨some 9, .pick (.t 6) (.k (.bool true)) (.t 8), none⟩] false) (.cond (.t 9) (.seq (.region [⟨some 2, .mv (.k .nilp), none⟩, ⟨some 3, .mv (.k (.int .i64 22)), none⟩] false) .ret) .skip)) (.seq (.region [⟨some 10, .mv (.t 0), none⟩, ⟨some 11, .mkSlice 31 64 64 z64 (.t 10) (.t 10), none⟩, ⟨some 12, .mkMap, none⟩, ⟨some 13, .build [.bool false, .bool false, .int .i64 0, .nils, .nilm] [(3, (1, .t 11)), (4, (1, .t 12))], none⟩, ⟨some 14, .box 92 (.t 13), none⟩, ⟨some 2, .mv (.t 14), none⟩, ⟨some 3, .mv (.k (.int .i64 0)), none⟩] false) .ret))⟩
theorem tr12 : trProg Try.prog 12 = some af12 := by kernel_rfl
def af13 : AF := ⟨25, [.t 6], .seq (.region [⟨some 5, .box 31 (.t 2), none⟩, ⟨some 6, .mv (.k (.int .i64 0)), none⟩] false) (.seq (.seq (.region [⟨some 8, .mv (.t 0), none⟩, ⟨some 9, .mv (.t 1), none⟩, ⟨some 10, .call 48 [.t 8, .t 9], none⟩, ⟨some 7, .mv (.t 10), none⟩] false) (.seq (.region [⟨some 11, .mv (.t 7), none⟩, ⟨some 12, .bin .neq (.t 11) (.k (.int .i64 0)), none⟩] false) (.cond (.t 12) (.seq (.region [⟨some 13, .mv (.t 7), none⟩, ⟨some 6, .mv (.t 13), none⟩] false) .ret) .skip))) (.seq (.seq (.region [⟨some 14, .mv (.t 0), none⟩, ⟨some 15, .nck (.t 14), none⟩, ⟨some 16, .faddr 0 (.t 15), none⟩, ⟨some 17, .call 49 [.t 16], none⟩, ⟨some 18, .un .not (.t 17), none⟩] false) (.cond (.t 18) (.seq (.region [⟨some 6, .mv (.k (.int .i64 5)), none⟩] false) .ret) .skip)) (.seq (.draw 0 [⟨0, ⟨some 19, .mv (.t 0), none⟩, [], none, []⟩, ⟨1, ⟨some 20, .nck (.t 19), none⟩, [], none, []⟩, ⟨2, ⟨some 21, .faddr 4 (.t 20), none⟩, [], none, []⟩, ⟨3, ⟨some 22, .load none (.t 21), none⟩, [], none, []⟩, ⟨4, ⟨some 23, .mv (.t 1), none⟩, [], none, []⟩, ⟨5, ⟨some 24, .load (some 64) (.t 5), none⟩, [], none, []⟩, ⟨6, ⟨none, .mapSet .i (.t 22) (.t 23) (.t 24), none⟩, [], none, []⟩]) (.seq (.region [⟨some 6, .mv (.k (.int .i64 0)), none⟩] false) .ret))))⟩
theorem tr13 : trProg Try.prog 13 = some af13 := by kernel_rfl
def af14 : AF := ⟨28, [.c 4 (some 64)], .seq (.region [⟨some 4, .alloc 31 z64, none⟩] false) (.seq (.seq (.region [⟨some 5, .mv (.t 0), none⟩, ⟨some 6, .eqf false false [(1, .p)] (.t 5) (.k .nilp), none⟩, ⟨some 7, .mv (.t 6), none⟩, ⟨some 8, .mv (.t 1), some (7, false)⟩, ⟨some 9, .bin .lss (.t 8) (.k (.int .i64 0)), some (7, false)⟩, ⟨some 10, .pick (.t 7) (.k (.bool true)) (.t 9), none⟩, ⟨some 11, .mv (.t 10), none⟩, ⟨some 12, .mv (.t 1), some (11, false)⟩, ⟨some 13, .mv (.t 0), some (11, false)⟩, ⟨some 14, .nck (.t 13), some (11, false)⟩, ⟨some 15, .faddr 3 (.t 14), some (11, false)⟩, ⟨some 16, .load none (.t 15), some (11, false)⟩, ⟨some 17, .lenL (.t 16), some (11, false)⟩, ⟨some 18, .bin .geq (.t 12) (.t 17), some (11, false)⟩, ⟨some 19, .pick (.t 11) (.k (.bool true)) (.t 18), none⟩] false) (.cond (.t 19) (.seq (.region [⟨some 20, .build z64 [], none⟩, ⟨none, .store 64 (.t 4) (.t 20), none⟩] false) .ret) .skip)) (.seq (.region [⟨some 21, .mv (.t 0), none⟩, ⟨some 22, .nck (.t 21), none⟩, ⟨some 23, .faddr 3 (.t 22), none⟩, ⟨some 24, .load none (.t 23), none⟩, ⟨some 25, .mv (.t 1), none⟩, ⟨some 26, .iaddrS 64 (.t 24) (.t 25), none⟩, ⟨some 27, .load (some 64) (.t 26), none⟩, ⟨none, .store 64 (.t 4) (.t 27), none⟩] false) .ret))⟩
theorem tr14 : trProg Try.prog 14 = some af14 := by kernel_rfl
def af15 : AF := ⟨10, [.t 2], .seq (.region [⟨some 2, .mv (.k (.int .i64 0)), none⟩] false) (.seq (.seq (.region [⟨some 3, .mv (.t 0), none⟩, ⟨some 4, .eqf false false [(1, .p)] (.t 3) (.k .nilp), none⟩] false) (.cond (.t 4) (.seq (.region [⟨some 2, .mv (.k (.int .i64 0)), none⟩] false) .ret) .skip)) (.seq (.region [⟨some 5, .mv (.t 0), none⟩, ⟨some 6, .nck (.t 5), none⟩, ⟨some 7, .faddr 4 (.t 6), none⟩, ⟨some 8, .load none (.t 7), none⟩, ⟨some 9, .lenM (.t 8), none⟩, ⟨some 2, .mv (.t 9), none⟩] false) .ret))⟩
theorem tr15 : trProg Try.prog 15 = some af15 := by kernel_rfl
def af17 : AF := ⟨34, [.c 4 (some 64), .t 5], .seq (.region [⟨some 4, .alloc 31 z64, none⟩, ⟨some 5, .mv (.k (.int .i64 0)), none⟩] false) (.seq (.seq (.region [⟨some 9, .mv (.t 0), none⟩, ⟨some 10, .mv (.t 1), none⟩, ⟨some 11, .call 48 [.t 9, .t 10], none⟩, ⟨some 6, .mv (.t 11), none⟩] false) (.seq (.region [⟨some 12, .mv (.t 6), none⟩, ⟨some 13, .bin .neq (.t 12) (.k (.int .i64 0)), none⟩] false) (.cond (.t 13) (.seq (.region [⟨some 14, .build z64 [], none⟩, ⟨some 15, .mv (.t 6), none⟩, ⟨none, .store 64 (.t 4) (.t 14), none⟩, ⟨some 5, .mv (.t 15), none⟩] false) .ret) .skip))) (.seq (.seq (.region [⟨some 17, .mv (.t 0), none⟩, ⟨some 18, .nck (.t 17), none⟩, ⟨some 19, .faddr 4 (.t 18), none⟩, ⟨some 20, .load none (.t 19), none⟩, ⟨some 21, .mv (.t 1), none⟩, ⟨some 22, .lookup .i (.agg z64) true (.t 20) (.t 21), none⟩, ⟨some 16, .mv (.t 22), none⟩, ⟨some 23, .extract (.t 16) 0, none⟩, ⟨some 24, .extract (.t 16) 1, none⟩, ⟨some 7, .alloc 31 z64, none⟩, ⟨none, .store 64 (.t 7) (.t 23), none⟩, ⟨some 8, .mv (.t 24), none⟩] false) (.seq (.region [⟨some 25, .mv (.t 8), none⟩] false) (.cond (.t 25) (.seq (.region [⟨some 26, .load (some 64) (.t 7), none⟩, ⟨none, .store 64 (.t 4) (.t 26), none⟩, ⟨some 5, .mv (.k (.int .i64 0)), none⟩] false) .ret) .skip))) (.seq (.region [⟨some 27, .mv (.t 0), none⟩, ⟨some 28, .nck (.t 27), none⟩, ⟨some 29, .faddr 3 (.t 28), none⟩, ⟨some 30, .load none (.t 29), none⟩, ⟨some 31, .mv (.t 1), none⟩, ⟨some 32, .iaddrS 64 (.t 30) (.t 31), none⟩, ⟨some 33, .load (some 64) (.t 32), none⟩, ⟨none, .store 64 (.t 4) (.t 33), none⟩, ⟨some 5, .mv (.k (.int .i64 0)), none⟩] false) .ret)))⟩
theorem tr17 : trProg Try.prog 17 = some af17 := by kernel_rfl
def af18 : AF := ⟨18, [], .seq (.region [⟨some 4, .mv (.t 0), none⟩, ⟨some 5, .eqf true false [(1, .p)] (.t 4) (.k .nilp), none⟩] false) (.cond (.t 5) (.region [⟨some 6, .mv (.t 0), none⟩, ⟨some 7, .mv (.t 0), none⟩, ⟨some 8, .mv (.t 1), none⟩, ⟨some 9, .bin .geq (.t 8) (.k (.int .i64 0)), none⟩, ⟨some 10, .mv (.t 1), none⟩, ⟨some 11, .minmax true [.t 10, .k (.int .i64 0)], none⟩, ⟨some 12, .nck (.t 6), none⟩, ⟨some 13, .faddr 0 (.t 12), none⟩, ⟨some 14, .faddr 0 (.t 13), none⟩, ⟨none, .store 1 (.t 14) (.t 9), none⟩, ⟨some 15, .nck (.t 7), none⟩, ⟨some 16, .faddr 0 (.t 15), none⟩, ⟨some 17, .faddr 2 (.t 16), none⟩, ⟨none, .store 1 (.t 17) (.t 11), none⟩] false) .skip)⟩
theorem tr18 : trProg Try.prog 18 = some af18 := by kernel_rfl
def af19 : AF := ⟨12, [.t 2], .seq (.region [⟨some 2, .mv (.k (.bool false)), none⟩] false) (.seq (.region [⟨some 3, .mv (.t 0), none⟩, ⟨some 4, .eqf false false [(1, .p)] (.t 3) (.k .nilp), none⟩, ⟨some 5, .mv (.t 4), none⟩, ⟨some 6, .mv (.t 0), some (5, false)⟩, ⟨some 7, .nck (.t 6), some (5, false)⟩, ⟨some 8, .faddr 0 (.t 7), some (5, false)⟩, ⟨some 9, .faddr 1 (.t 8), some (5, false)⟩, ⟨some 10, .load none (.t 9), some (5, false)⟩, ⟨some 11, .pick (.t 5) (.k (.bool true)) (.t 10), none⟩, ⟨some 2, .mv (.t 11), none⟩] false) .ret)⟩
theorem tr19 : trProg Try.prog 19 = some af19 := by kernel_rfl
def af20 : AF := ⟨55, [], .seq (.seq (.region [⟨some 7, .mv (.t 0), none⟩, ⟨some 8, .eqf false false [(1, .p)] (.t 7) (.k .nilp), none⟩] false) (.cond (.t 8) .ret .skip)) (.seq (.seq (.region [⟨some 9, .mv (.t 0), none⟩, ⟨some 10, .nck (.t 9), none⟩, ⟨some 11, .faddr 4 (.t 10), none⟩, ⟨some 12, .load none (.t 11), none⟩, ⟨some 13, .call 51 [.t 12], none⟩, ⟨some 14, .call 50 [.t 13], none⟩, ⟨some 15, .lenL (.t 14), none⟩, ⟨some 16, .mv (.k (.int .i64 0)), none⟩] false) (.block 0 (.loop (.seq (.region [⟨some 17, .bin .lss (.t 16) (.t 15), none⟩] false) (.seq (.cond (.t 17) .skip (.exit 0)) (.seq (.block 1 (.seq (.region [⟨some 18, .mv (.t 16), none⟩, ⟨some 19, .iaddrS 1 (.t 14) (.t 16), none⟩, ⟨some 20, .load none (.t 19), none⟩, ⟨some 4, .mv (.t 18), none⟩, ⟨some 5, .mv (.t 20), none⟩] false) (.seq (.region [⟨some 21, .mv (.t 4), none⟩, ⟨some 22, .mv (.t 1), none⟩, ⟨some 23, .lenL (.t 22), none⟩, ⟨some 24, .bin .lss (.t 21) (.t 23), none⟩] false) (.cond (.t 24) (.seq (.region [⟨some 25, .mv (.t 0), none⟩, ⟨some 26, .nck (.t 25), none⟩, ⟨some 27, .faddr 4 (.t 26), none⟩, ⟨some 28, .load none (.t 27), none⟩, ⟨some 29, .mv (.t 5), none⟩, ⟨some 30, .lookup .i (.agg z64) false (.t 28) (.t 29), none⟩, ⟨some 6, .alloc 31 z64, none⟩, ⟨none, .store 64 (.t 6) (.t 30), none⟩] false) (.draw 0 [⟨0, ⟨some 31, .mv (.t 0), none⟩, [], none, []⟩, ⟨1, ⟨some 32, .nck (.t 31), none⟩, [], none, []⟩, ⟨2, ⟨some 33, .faddr 3 (.t 32), none⟩, [], none, []⟩, ⟨3, ⟨some 34, .load none (.t 33), none⟩, [], none, []⟩, ⟨4, ⟨some 35, .mv (.t 5), none⟩, [], none, []⟩, ⟨5, ⟨some 36, .iaddrS 64 (.t 34) (.t 35), none⟩, [], none, []⟩, ⟨6, ⟨some 37, .mv (.t 1), none⟩, [], none, []⟩, ⟨7, ⟨some 38, .mv (.t 4), none⟩, [], none, []⟩, ⟨8, ⟨some 39, .iaddrS 1 (.t 37) (.t 38), none⟩, [], none, []⟩, ⟨9, ⟨some 40, .load none (.t 39), none⟩, [], none, []⟩, ⟨10, ⟨some 41, .toInt .i64 (.t 40), none⟩, [], none, []⟩, ⟨11, ⟨some 42, .bin .rem (.t 41) (.k (.int .i64 65)), none⟩, [], none, []⟩, ⟨12, ⟨some 43, .slA 64 1 (.t 36) none (some (.t 42)), none⟩, [], none, []⟩, ⟨13, ⟨some 44, .slA 64 1 (.t 6) none none, none⟩, [], none, []⟩, ⟨14, ⟨some 45, .copyL 1 (.t 43) (.t 44), none⟩, [], none, []⟩])) .skip)))) (.region [⟨some 46, .bin .add (.t 16) (.k (.int .i64 1)), none⟩, ⟨some 16, .mv (.t 46), none⟩] false))))))) (.seq (.region [⟨some 47, .mv (.t 0), none⟩, ⟨some 48, .nck (.t 47), none⟩, ⟨some 49, .faddr 4 (.t 48), none⟩, ⟨some 50, .load none (.t 49), none⟩, ⟨none, .clearM (.t 50), none⟩] false) (.region [⟨some 51, .mv (.t 0), none⟩, ⟨some 52, .build [.bool false, .bool false, .int .i64 0] [], none⟩, ⟨some 53, .nck (.t 51), none⟩, ⟨some 54, .faddr 0 (.t 53), none⟩, ⟨none, .store 3 (.t 54) (.t 52), none⟩] false)))⟩
theorem tr20 : trProg Try.prog 20 = some af20 := by kernel_rfl
def af27 : AF := ⟨10, [.t 2], .seq (.region [⟨some 2, .mv (.k (.int .i64 0)), none⟩] false) (.seq (.seq (.region [⟨some 3, .mv (.t 0), none⟩, ⟨some 4, .eqf false false [(1, .p)] (.t 3) (.k .nilp), none⟩] false) (.cond (.t 4) (.seq (.region [⟨some 2, .mv (.k (.int .i64 0)), none⟩] false) .ret) .skip)) (.seq (.region [⟨some 5, .mv (.t 0), none⟩, ⟨some 6, .nck (.t 5), none⟩, ⟨some 7, .faddr 3 (.t 6), none⟩, ⟨some 8, .load none (.t 7), none⟩, ⟨some 9, .lenL (.t 8), none⟩, ⟨some 2, .mv (.t 9), none⟩] false) .ret))⟩
theorem tr27 : trProg Try.prog 27 = some af27 := by kernel_rfl
def af47 : AF := ⟨13, [.c 2 (some 64)], .seq (.region [⟨some 2, .alloc 31 z64, none⟩] false) (.seq (.region [⟨some 3, .alloc 31 z64, none⟩] false) (.seq (.seq (.region [⟨some 5, .mv (.k (.int .i64 0)), none⟩] false) (.block 0 (.loop (.seq (.region [⟨some 6, .bin .lss (.t 5) (.k (.int .i64 64)), none⟩] false) (.seq (.cond (.t 6) .skip (.exit 0)) (.seq (.block 1 (.seq (.region [⟨some 7, .mv (.t 5), none⟩, ⟨some 4, .mv (.t 7), none⟩] false) (.region [⟨some 8, .mv (.t 4), none⟩, ⟨some 9, .mv (.t 0), none⟩, ⟨some 10, .iaddrA 64 1 (.t 3) (.t 8), none⟩, ⟨none, .store 1 (.t 10) (.t 9), none⟩] false))) (.region [⟨some 11, .bin .add (.t 5) (.k (.int .i64 1)), none⟩, ⟨some 5, .mv (.t 11), none⟩] false))))))) (.seq (.region [⟨some 12, .load (some 64) (.t 3), none⟩, ⟨none, .store 64 (.t 2) (.t 12), none⟩] false) .ret)))⟩
theorem tr47 : trProg Try.prog 47 = some af47 := by kernel_rfl
def af48 : AF := ⟨20, [.t 4], .seq (.region [⟨some 4, .mv (.k (.int .i64 0)), none⟩] false) (.seq (.block 0 (.seq (.region [⟨some 6, .mv (.t 0), none⟩, ⟨some 7, .call 19 [.t 6], none⟩, ⟨some 5, .mv (.t 7), none⟩] false) (.cond (.t 5) (.seq (.region [⟨some 4, .mv (.k (.int .i64 5)), none⟩] false) .ret) (.seq (.region [⟨some 9, .mv (.t 1), none⟩, ⟨some 10, .bin .lss (.t 9) (.k (.int .i64 0)), none⟩, ⟨some 11, .mv (.t 10), none⟩, ⟨some 12, .mv (.t 1), some (11, false)⟩, ⟨some 13, .mv (.t 0), some (11, false)⟩, ⟨some 14, .nck (.t 13), some (11, false)⟩, ⟨some 15, .faddr 3 (.t 14), some (11, false)⟩, ⟨some 16, .load none (.t 15), some (11, false)⟩, ⟨some 17, .lenL (.t 16), some (11, false)⟩, ⟨some 18, .bin .geq (.t 12) (.t 17), some (11, false)⟩, ⟨some 19, .pick (.t 11) (.k (.bool true)) (.t 18), none⟩, ⟨some 8, .mv (.t 19), none⟩] false) (.cond (.t 8) (.seq (.region [⟨some 4, .mv (.k (.int .i64 22)), none⟩] false) .ret) .skip))))) (.seq (.region [⟨some 4, .mv (.k (.int .i64 0)), none⟩] false) .ret))⟩
theorem tr48 : trProg Try.prog 48 = some af48 := by kernel_rfl
def af49 : AF := ⟨32, [.t 2], .seq (.region [⟨some 2, .mv (.k (.bool false)), none⟩] false) (.seq (.seq (.region [⟨some 3, .mv (.t 0), none⟩, ⟨some 4, .nck (.t 3), none⟩, ⟨some 5, .faddr 1 (.t 4), none⟩, ⟨some 6, .load none (.t 5), none⟩] false) (.cond (.t 6) (.seq (.region [⟨some 2, .mv (.k (.bool false)), none⟩] false) .ret) .skip)) (.seq (.seq (.region [⟨some 7, .mv (.t 0), none⟩, ⟨some 8, .nck (.t 7), none⟩, ⟨some 9, .faddr 0 (.t 8), none⟩, ⟨some 10, .load none (.t 9), none⟩, ⟨some 11, .un .not (.t 10), none⟩] false) (.cond (.t 11) (.seq (.region [⟨some 2, .mv (.k (.bool true)), none⟩] false) .ret) .skip)) (.seq (.region [⟨some 12, .mv (.t 0), none⟩, ⟨some 13, .nck (.t 12), none⟩, ⟨some 14, .faddr 2 (.t 13), none⟩, ⟨some 15, .load none (.t 14), none⟩, ⟨some 16, .bin .sub (.t 15) (.k (.int .i64 1)), none⟩, ⟨some 17, .nck (.t 12), none⟩, ⟨some 18, .faddr 2 (.t 17), none⟩, ⟨none, .store 1 (.t 18) (.t 16), none⟩] false) (.seq (.region [⟨some 19, .mv (.t 0), none⟩, ⟨some 20, .mv (.t 0), none⟩, ⟨some 21, .nck (.t 20), none⟩, ⟨some 22, .faddr 2 (.t 21), none⟩, ⟨some 23, .load none (.t 22), none⟩, ⟨some 24, .bin .lss (.t 23) (.k (.int .i64 0)), none⟩, ⟨some 25, .nck (.t 19), none⟩, ⟨some 26, .faddr 1 (.t 25), none⟩, ⟨none, .store 1 (.t 26) (.t 24), none⟩] false) (.seq (.region [⟨some 27, .mv (.t 0), none⟩, ⟨some 28, .nck (.t 27), none⟩, ⟨some 29, .faddr 1 (.t 28), none⟩, ⟨some 30, .load none (.t 29), none⟩, ⟨some 31, .un .not (.t 30), none⟩, ⟨some 2, .mv (.t 31), none⟩] false) .ret)))))⟩
theorem tr49 : trProg Try.prog 49 = some af49 := by kernel_rfl
def af51 : AF := ⟨4, [.t 2], .seq (.region [⟨some 1, .box 29 (.t 0), none⟩, ⟨some 2, .mv (.k .nilf), none⟩] false) (.seq (.region [⟨some 3, .mkf 69 [] [.t 1], none⟩, ⟨some 2, .mv (.t 3), none⟩] false) .ret)⟩
theorem tr51 : trProg Try.prog 51 = some af51 := by kernel_rfl

def FF : Nat → Option AF
  | 6 => some af6
  | 11 => some af11
  | 12 => some af12
  | 13 => some af13
  | 14 => some af14
  | 15 => some af15
  | 17 => some af17
  | 18 => some af18
  | 19 => some af19
  | 20 => some af20
  | 27 => some af27
  | 47 => some af47
  | 48 => some af48
  | 49 => some af49
  | 51 => some af51
  | _ => none

theorem ffok : ∀ f af, FF f = some af → trProg Try.prog f = some af := by
  intro f af h
  unfold FF at h
  split at h
  · cases h; exact tr6
  · cases h; exact tr11
  · cases h; exact tr12
  · cases h; exact tr13
  · cases h; exact tr14
  · cases h; exact tr15
  · cases h; exact tr17
  · cases h; exact tr18
  · cases h; exact tr19
  · cases h; exact tr20
  · cases h; exact tr27
  · cases h; exact tr47
  · cases h; exact tr48
  · cases h; exact tr49
  · cases h; exact tr51
  · cases h

theorem mixed : Try.prog.follows .mixedOrders = true := by kernel_rfl
end Go.Proofs.Ytfbkeieoeagkdaa

/- Disk: Flush, by hand: a range over a map. -/
namespace Go.Proofs.Ytfbkeieoeagkdaa
open Go AM
set_option linter.unusedSimpArgs false
set_option linter.unusedVariables false
set_option maxRecDepth 100000

/-! The plain law -/

def keyIs (i : Nat) (e : V × V) : Bool := match e.1 with
  | .int _ k => decide (k = (i : Int))
  | _ => false
/-- All pages of a cache laid into the row. -/
def layPages (es : List (V × V)) (np : Nat) (cs : List V) : List V :=
  (List.range np).flatMap fun i => match es.find? (keyIs i) with
    | some (_, .agg pg) => pg
    | _ => (cs.drop (i * 64)).take 64
def pageEnt (np : Nat) (e : V × V) : Bool := match e with
  | (.int .i64 k, .agg pg) => decide (0 ≤ k ∧ k < (np : Int)) && decide (pg.length = 64) && V.plains pg && pg.all V.one
  | _ => false
def apart : List (V × V) → Bool
  | [] => true
  | e :: r => r.all (fun x => !(V.beq e.1 x.1)) && apart r

theorem pageEnt_inv {np : Nat} {e : V × V} (h : pageEnt np e = true) : ∃ (k : Nat) (pg : List V), e = (.int .i64 (k : Int), .agg pg) ∧ k < np ∧ pg.length = 64 ∧ V.plains pg = true ∧ pg.all V.one = true := by
  unfold pageEnt at h
  split at h
  · rename_i k pg
    simp only [Bool.and_eq_true, decide_eq_true_eq] at h
    obtain ⟨⟨⟨⟨h1, h2⟩, h3⟩, h4⟩, h5⟩ := h
    obtain ⟨n, rfl⟩ := Int.eq_ofNat_of_zero_le h1
    exact ⟨n, pg, rfl, by omega, h3, h4, h5⟩
  · cases h

/-- The row behind some of the pages. -/
def Laid (es : List (V × V)) (np : Nat) (cs : List V) (done : List Nat) (cs' : List V) : Prop :=
  cs'.length = cs.length ∧ ∀ i, i < np → (∃ j ∈ done, ∃ pg, es[j]? = some (.int .i64 (i : Int), .agg pg) ∧ (cs'.drop (i * 64)).take 64 = pg) ∨
    ((∀ j ∈ done, ∀ e, es[j]? = some e → keyIs i e = false) ∧ (cs'.drop (i * 64)).take 64 = (cs.drop (i * 64)).take 64)

theorem Laid.start (es : List (V × V)) (np : Nat) (cs : List V) : Laid es np cs [] cs := ⟨rfl, fun i _ => .inr ⟨by simp, rfl⟩⟩

theorem splice_same {cs pg : List V} {k : Nat} (h : pg.length = 64) (hk : k * 64 + 64 ≤ cs.length) : ((splice cs (k * 64) pg).drop (k * 64)).take 64 = pg := by
  unfold splice
  rw [List.append_assoc, List.drop_append_of_le_length (by simp; omega), List.drop_eq_nil_of_le (by rw [List.length_take]; omega), List.nil_append, List.take_left' h]
theorem splice_off {cs pg : List V} {k i : Nat} (h : pg.length = 64) (hk : k * 64 + 64 ≤ cs.length) (hi : i ≠ k) : ((splice cs (k * 64) pg).drop (i * 64)).take 64 = (cs.drop (i * 64)).take 64 := by
  apply List.ext_getElem?
  intro j
  simp only [List.getElem?_take, List.getElem?_drop]
  split
  · rename_i hj
    unfold splice
    rw [List.append_assoc, List.getElem?_append, List.getElem?_append, h]
    have l1 : (List.take (k * 64) cs).length = k * 64 := by simp; omega
    rw [l1]
    by_cases hlt : i * 64 + j < k * 64
    · rw [if_pos hlt, List.getElem?_take, if_pos hlt]
    · have : (k + 1) * 64 ≤ i * 64 := Nat.mul_le_mul_right 64 (by omega)
      rw [if_neg hlt, if_neg (by omega), List.getElem?_drop]
      congr 1; omega
  · rfl

theorem Laid.step {es : List (V × V)} {np : Nat} {cs cs' pg : List V} {done : List Nat} {j k : Nat} (h : Laid es np cs done cs') (hj : es[j]? = some (.int .i64 (k : Int), .agg pg)) (hp : pg.length = 64) (hk : k * 64 + 64 ≤ cs.length) : Laid es np cs (j :: done) (splice cs' (k * 64) pg) := by
  obtain ⟨h1, h2⟩ := h
  refine ⟨by rw [splice_length (by omega), h1], fun i hi => ?_⟩
  by_cases hik : i = k
  · subst hik
    exact .inl ⟨j, List.mem_cons_self, pg, hj, splice_same hp (by omega)⟩
  · rcases h2 i hi with ⟨j', hj', pg', h3, h4⟩ | ⟨h3, h4⟩
    · exact .inl ⟨j', List.mem_cons_of_mem _ hj', pg', h3, by rw [splice_off hp (by omega) hik]; exact h4⟩
    · refine .inr ⟨fun j' hj' e he => ?_, by rw [splice_off hp (by omega) hik]; exact h4⟩
      rcases List.mem_cons.1 hj' with rfl | hj'
      · rw [hj] at he
        cases he
        simp only [keyIs, decide_eq_false_iff_not]
        omega
      · exact h3 j' hj' e he

theorem apart_key : ∀ {es : List (V × V)} {i j : Nat} {a b : V × V}, apart es = true → es[i]? = some a → es[j]? = some b → (∃ q n, a.1 = .int q n ∧ b.1 = .int q n) → i = j
  | [], i, j, a, b, h, hi, hj, hab => by simp at hi
  | e :: es, 0, 0, a, b, h, hi, hj, hab => rfl
  | e :: es, 0, j + 1, a, b, h, hi, hj, hab => by
    obtain ⟨q, n, ha, hb⟩ := hab
    simp only [apart, Bool.and_eq_true, List.all_eq_true] at h
    simp only [List.getElem?_cons_zero, Option.some.injEq] at hi
    simp only [List.getElem?_cons_succ] at hj
    have := h.1 b (List.mem_of_getElem? hj)
    subst hi
    rw [ha, hb] at this
    simp [V.beq] at this
  | e :: es, i + 1, 0, a, b, h, hi, hj, hab => by
    obtain ⟨q, n, ha, hb⟩ := hab
    simp only [apart, Bool.and_eq_true, List.all_eq_true] at h
    simp only [List.getElem?_cons_zero, Option.some.injEq] at hj
    simp only [List.getElem?_cons_succ] at hi
    have := h.1 a (List.mem_of_getElem? hi)
    subst hj
    rw [ha, hb] at this
    simp [V.beq] at this
  | e :: es, i + 1, j + 1, a, b, h, hi, hj, hab => by
    simp only [apart, Bool.and_eq_true] at h
    simp only [List.getElem?_cons_succ] at hi hj
    rw [apart_key h.2 hi hj hab]

theorem fm_congr {α β : Type} : ∀ {l : List α} {f g : α → List β}, (∀ x ∈ l, f x = g x) → l.flatMap f = l.flatMap g
  | [], f, g, h => rfl
  | x :: l, f, g, h => by rw [List.flatMap_cons, List.flatMap_cons, h x List.mem_cons_self, fm_congr fun y hy => h y (List.mem_cons_of_mem _ hy)]

theorem blocks : ∀ (n : Nat) (cs : List V), cs.length = n * 64 → ((List.range n).flatMap fun i => (cs.drop (i * 64)).take 64) = cs
  | 0, cs, h => by simp at h; simp [h]
  | n + 1, cs, h => by
    have ih := blocks n (cs.take (n * 64)) (by simp; omega)
    rw [List.range_succ, List.flatMap_append, List.flatMap_cons, List.flatMap_nil, List.append_nil]
    have e : ((List.range n).flatMap fun i => (cs.drop (i * 64)).take 64) = (List.range n).flatMap fun i => ((cs.take (n * 64)).drop (i * 64)).take 64 := by
      refine fm_congr fun i hi => ?_
      have hi := List.mem_range.1 hi
      have : (i + 1) * 64 ≤ n * 64 := Nat.mul_le_mul_right 64 hi
      rw [List.drop_take, List.take_take, Nat.min_eq_left (by omega)]
    rw [e, ih, List.take_of_length_le (l := cs.drop (n * 64)) (by simp; omega), List.take_append_drop]

theorem Laid.fin {es : List (V × V)} {np : Nat} {cs cs' : List V} {done : List Nat} (h : Laid es np cs done cs') (hlen : cs.length = np * 64) (hes : es.all (pageEnt np) = true) (hap : apart es = true) (hall : ∀ i, i < es.length → i ∈ done) : cs' = layPages es np cs := by
  obtain ⟨h1, h2⟩ := h
  rw [← blocks np cs' (by omega)]
  unfold layPages
  refine fm_congr fun i hi => ?_
  have hi := List.mem_range.1 hi
  rcases h2 i hi with ⟨j, hj, pg, h3, h4⟩ | ⟨h3, h4⟩
  · cases hf : es.find? (keyIs i) with
    | none =>
      have := List.find?_eq_none.1 hf _ (List.mem_of_getElem? h3)
      simp [keyIs] at this
    | some e =>
      have hm := List.mem_of_find?_eq_some hf
      have hk := List.find?_some hf
      obtain ⟨j2, hj2⟩ := List.getElem?_of_mem hm
      obtain ⟨k, pg2, rfl, _⟩ := pageEnt_inv (List.all_eq_true.1 hes e hm)
      simp only [keyIs, decide_eq_true_eq] at hk
      have : j2 = j := apart_key hap hj2 h3 ⟨.i64, i, by simp only; rw [hk], rfl⟩
      subst this
      rw [h3] at hj2
      cases hj2
      exact h4
  · cases hf : es.find? (keyIs i) with
    | none => exact h4
    | some e =>
      have hm := List.mem_of_find?_eq_some hf
      have hk := List.find?_some hf
      obtain ⟨j2, hj2⟩ := List.getElem?_of_mem hm
      have := h3 j2 (hall j2 (List.getElem?_eq_some_iff.1 hj2).1) e hj2
      rw [this] at hk; cases hk
end Go.Proofs.Ytfbkeieoeagkdaa

/- Disk: the fuse; Flush by hand: what it comes to. -/
namespace Go.Proofs.Ytfbkeieoeagkdaa
open Go AM
set_option linter.unusedSimpArgs false
set_option linter.unusedVariables false
set_option maxRecDepth 100000

def t0 : HandT := fun _ => none
def g0 : Nat → Option Ans := fun _ => none
def E0 : ExtF := extH g0 t0
theorem hxE0 : ExtMono E0 := extH_mono g0 t0
theorem E0_none {f : Nat} (h : g0 f = none) (h' : t0 f = none := by rfl) (c : CallF) : E0 c f = none := extH_none h h' c
theorem ok0 : HandOk Try.prog t0 := fun f k args h out oh hk => by cases hk
theorem sndE0 : ExtSound Try.prog E0 := extH_sound plain0_sound ok0

/-- The fuse behind a step: may it be done; the three cells. -/
def burnB (on down : Bool) (left : Int) : Bool := !down && !(on && decide (IntKind.i64.wrap (left - 1) < 0))
def burnC (on down : Bool) (left : Int) : List V := if down = true then [.bool on, .bool down, .int .i64 left] else if on = true then [.bool true, .bool (decide (IntKind.i64.wrap (left - 1) < 0)), .int .i64 (IntKind.i64.wrap (left - 1))] else [.bool on, .bool down, .int .i64 left]

theorem leave_same {o o' : List AM.Obj} {e d d' : Nat} {v : V} (hv : v.plain = true) (hl : o'.length = o.length) (hd : o.length ≤ d' → o' = o) : ∃ d'', (leave ⟨o, e, d⟩ ⟨o', o.length, d'⟩ v).getD ⟨o, e, d⟩ = ⟨o', e, d''⟩ ∧ min d d' ≤ d'' := by
  unfold leave
  simp only
  rw [if_pos ⟨Nat.le_refl _, hv⟩]
  split
  · rename_i hc
    exact ⟨d, by rw [hd hc]; rfl, Nat.min_le_left _ _⟩
  · exact ⟨min d d', by rw [List.take_of_length_le (by omega)]; rfl, Nat.le_refl _⟩

set_option maxHeartbeats 4000000 in
theorem burn_q {o : List AM.Obj} {e d dd t : Nat} {on down : Bool} {left : Int} {r : List V} (h : o[dd]? = some (.cells .ex t 0 (.bool on :: .bool down :: .int .i64 left :: r))) :
    ∃ v oh, Den FF E0 49 [.ptr dd 0] ⟨o, e, d⟩ = some (v, oh) ∧ v = .val (.bool (burnB on down left)) ∧ ∃ d', oh.getD ⟨o, e, d⟩ = ⟨o.set dd (.cells .ex t 0 (burnC on down left ++ r)), e, d'⟩ ∧ min d dd ≤ d' := by
  have hl := get_lt h
  have hs : ∀ x, (o.set dd x)[dd]? = some x := fun x => List.getElem?_set_self hl
  have hid : o.set dd (.cells .ex t 0 (.bool on :: .bool down :: .int .i64 left :: r)) = o := by
    apply List.ext_getElem?
    intro i
    by_cases hi : dd = i
    · subst hi; rw [hs, h]
    · rw [List.getElem?_set_ne hi]
  refine To.denE hxE0 (f := 49) (a := af49) rfl (E0_none rfl) (Nat.le_of_ble_eq_true rfl) ?_
  have l2 : ∀ n, (2 : Nat) < n + 1 + 1 + 1 := fun n => by omega
  have l1 : ∀ n, (1 : Nat) < n + 1 + 1 + 1 := fun n => by omega
  have m2 : ∀ n, (2 : Nat) + 1 ≤ n + 1 + 1 + 1 := fun n => by omega
  have m1 : ∀ n, (1 : Nat) + 1 ≤ n + 1 + 1 + 1 := fun n => by omega
  cases down
  case true =>
    (repeat' (first | refine To.seq hxE0 ?_ | refine To.op0 hxE0 (by simp only [go_sem, eqs hxE0, reduceIte, Nat.reduceEqDiff, Nat.reduceAdd, Nat.reduceMul, Nat.reduceLT, Nat.reduceLeDiff, Int.reduceLT, Int.reduceLE, Int.reduceEq, reduceCtorEq, Int.reduceBEq, Int.reduceBNe, Int.reduceToNat, Nat.reduceSub, Nat.reduceDiv, Int.reduceNeg, Int.reduceAdd, Int.reduceSub, Int.reduceMul, Heap.gets, Heap.sets, Heap.get, bytesA_length, bytesA_one, bytesA_plains, List.take_of_length_le, List.drop_of_length_le, Nat.add_zero, V.one, Nat.reduceLeDiff, List.all_cons, List.all_nil, ne_eq, not_false_eq_true, Nat.zero_le, h]; rfl) ?_ | refine To.op1 hxE0 (by simp only [go_sem, eqs hxE0, reduceIte, Nat.reduceEqDiff, Nat.reduceAdd, Nat.reduceMul, Nat.reduceLT, Nat.reduceLeDiff, Int.reduceLT, Int.reduceLE, Int.reduceEq, reduceCtorEq, Int.reduceBEq, Int.reduceBNe, Int.reduceToNat, Nat.reduceSub, Nat.reduceDiv, Int.reduceNeg, Int.reduceAdd, Int.reduceSub, Int.reduceMul, Heap.gets, Heap.sets, Heap.get, bytesA_length, bytesA_one, bytesA_plains, List.take_of_length_le, List.drop_of_length_le, Nat.add_zero, V.one, Nat.reduceLeDiff, List.all_cons, List.all_nil, ne_eq, not_false_eq_true, Nat.zero_le, h]; rfl) ?_ | refine To.nop hxE0 ?_ | (refine To.condT hxE0 ?_ ?_; focus (simp only [go_sem, eqs hxE0, reduceIte, Nat.reduceEqDiff, Nat.reduceAdd, Nat.reduceMul, Nat.reduceLT, Nat.reduceLeDiff, Int.reduceLT, Int.reduceLE, Int.reduceEq, reduceCtorEq, Int.reduceBEq, Int.reduceBNe, Int.reduceToNat, Nat.reduceSub, Nat.reduceDiv, Int.reduceNeg, Int.reduceAdd, Int.reduceSub, Int.reduceMul, Heap.gets, Heap.sets, Heap.get, bytesA_length, bytesA_one, bytesA_plains, List.take_of_length_le, List.drop_of_length_le, Nat.add_zero, V.one, Nat.reduceLeDiff, List.all_cons, List.all_nil, ne_eq, not_false_eq_true, Nat.zero_le, h]; done)) | (refine To.condF hxE0 ?_ ?_; focus (simp only [go_sem, eqs hxE0, reduceIte, Nat.reduceEqDiff, Nat.reduceAdd, Nat.reduceMul, Nat.reduceLT, Nat.reduceLeDiff, Int.reduceLT, Int.reduceLE, Int.reduceEq, reduceCtorEq, Int.reduceBEq, Int.reduceBNe, Int.reduceToNat, Nat.reduceSub, Nat.reduceDiv, Int.reduceNeg, Int.reduceAdd, Int.reduceSub, Int.reduceMul, Heap.gets, Heap.sets, Heap.get, bytesA_length, bytesA_one, bytesA_plains, List.take_of_length_le, List.drop_of_length_le, Nat.add_zero, V.one, Nat.reduceLeDiff, List.all_cons, List.all_nil, ne_eq, not_false_eq_true, Nat.zero_le, h]; done)) | refine To.block hxE0 ?_ | refine To.scope hxE0 ?_ | refine To.ret hxE0 ?_ | refine To.exit hxE0 ?_ | refine To.skip hxE0 ?_ | refine To.label hxE0 ?_))
    refine ⟨_, _, fin1 (i := 2) rfl, by simp only [get_fput, reduceIte, Nat.reduceEqDiff]; simp [burnB], ?_⟩
    simp only [burnC, if_true, List.cons_append, List.nil_append, hid]
    obtain ⟨d2, q1, q2⟩ := leave_same (e := e) (d := d) (d' := o.length) (v := .bool false) rfl rfl (fun _ => rfl)
    exact ⟨d2, by simp only [get_fput, reduceIte, Nat.reduceEqDiff]; exact q1, by omega⟩
  cases on
  case false =>
    (repeat' (first | refine To.seq hxE0 ?_ | refine To.op0 hxE0 (by simp only [go_sem, eqs hxE0, reduceIte, Nat.reduceEqDiff, Nat.reduceAdd, Nat.reduceMul, Nat.reduceLT, Nat.reduceLeDiff, Int.reduceLT, Int.reduceLE, Int.reduceEq, reduceCtorEq, Int.reduceBEq, Int.reduceBNe, Int.reduceToNat, Nat.reduceSub, Nat.reduceDiv, Int.reduceNeg, Int.reduceAdd, Int.reduceSub, Int.reduceMul, Heap.gets, Heap.sets, Heap.get, bytesA_length, bytesA_one, bytesA_plains, List.take_of_length_le, List.drop_of_length_le, Nat.add_zero, V.one, Nat.reduceLeDiff, List.all_cons, List.all_nil, ne_eq, not_false_eq_true, Nat.zero_le, h]; rfl) ?_ | refine To.op1 hxE0 (by simp only [go_sem, eqs hxE0, reduceIte, Nat.reduceEqDiff, Nat.reduceAdd, Nat.reduceMul, Nat.reduceLT, Nat.reduceLeDiff, Int.reduceLT, Int.reduceLE, Int.reduceEq, reduceCtorEq, Int.reduceBEq, Int.reduceBNe, Int.reduceToNat, Nat.reduceSub, Nat.reduceDiv, Int.reduceNeg, Int.reduceAdd, Int.reduceSub, Int.reduceMul, Heap.gets, Heap.sets, Heap.get, bytesA_length, bytesA_one, bytesA_plains, List.take_of_length_le, List.drop_of_length_le, Nat.add_zero, V.one, Nat.reduceLeDiff, List.all_cons, List.all_nil, ne_eq, not_false_eq_true, Nat.zero_le, h]; rfl) ?_ | refine To.nop hxE0 ?_ | (refine To.condT hxE0 ?_ ?_; focus (simp only [go_sem, eqs hxE0, reduceIte, Nat.reduceEqDiff, Nat.reduceAdd, Nat.reduceMul, Nat.reduceLT, Nat.reduceLeDiff, Int.reduceLT, Int.reduceLE, Int.reduceEq, reduceCtorEq, Int.reduceBEq, Int.reduceBNe, Int.reduceToNat, Nat.reduceSub, Nat.reduceDiv, Int.reduceNeg, Int.reduceAdd, Int.reduceSub, Int.reduceMul, Heap.gets, Heap.sets, Heap.get, bytesA_length, bytesA_one, bytesA_plains, List.take_of_length_le, List.drop_of_length_le, Nat.add_zero, V.one, Nat.reduceLeDiff, List.all_cons, List.all_nil, ne_eq, not_false_eq_true, Nat.zero_le, h]; done)) | (refine To.condF hxE0 ?_ ?_; focus (simp only [go_sem, eqs hxE0, reduceIte, Nat.reduceEqDiff, Nat.reduceAdd, Nat.reduceMul, Nat.reduceLT, Nat.reduceLeDiff, Int.reduceLT, Int.reduceLE, Int.reduceEq, reduceCtorEq, Int.reduceBEq, Int.reduceBNe, Int.reduceToNat, Nat.reduceSub, Nat.reduceDiv, Int.reduceNeg, Int.reduceAdd, Int.reduceSub, Int.reduceMul, Heap.gets, Heap.sets, Heap.get, bytesA_length, bytesA_one, bytesA_plains, List.take_of_length_le, List.drop_of_length_le, Nat.add_zero, V.one, Nat.reduceLeDiff, List.all_cons, List.all_nil, ne_eq, not_false_eq_true, Nat.zero_le, h]; done)) | refine To.block hxE0 ?_ | refine To.scope hxE0 ?_ | refine To.ret hxE0 ?_ | refine To.exit hxE0 ?_ | refine To.skip hxE0 ?_ | refine To.label hxE0 ?_))
    refine ⟨_, _, fin1 (i := 2) rfl, by simp only [get_fput, reduceIte, Nat.reduceEqDiff]; simp [burnB], ?_⟩
    simp only [burnC, Bool.false_eq_true, if_false, List.cons_append, List.nil_append, hid]
    obtain ⟨d2, q1, q2⟩ := leave_same (e := e) (d := d) (d' := o.length) (v := .bool true) rfl rfl (fun _ => rfl)
    exact ⟨d2, by simp only [get_fput, reduceIte, Nat.reduceEqDiff]; exact q1, by omega⟩
  (repeat' (first | refine To.seq hxE0 ?_ | refine To.op0 hxE0 (by simp only [go_sem, eqs hxE0, reduceIte, Nat.reduceEqDiff, Nat.reduceAdd, Nat.reduceMul, Nat.reduceLT, Nat.reduceLeDiff, Int.reduceLT, Int.reduceLE, Int.reduceEq, reduceCtorEq, Int.reduceBEq, Int.reduceBNe, Int.reduceToNat, Nat.reduceSub, Nat.reduceDiv, Int.reduceNeg, Int.reduceAdd, Int.reduceSub, Int.reduceMul, Heap.gets, Heap.sets, Heap.get, bytesA_length, bytesA_one, bytesA_plains, List.take_of_length_le, List.drop_of_length_le, Nat.add_zero, V.one, Nat.reduceLeDiff, List.all_cons, List.all_nil, ne_eq, not_false_eq_true, Nat.zero_le, h, hs, List.set_set, l1, l2, m1, m2]; rfl) ?_ | refine To.op1 hxE0 (by simp only [go_sem, eqs hxE0, reduceIte, Nat.reduceEqDiff, Nat.reduceAdd, Nat.reduceMul, Nat.reduceLT, Nat.reduceLeDiff, Int.reduceLT, Int.reduceLE, Int.reduceEq, reduceCtorEq, Int.reduceBEq, Int.reduceBNe, Int.reduceToNat, Nat.reduceSub, Nat.reduceDiv, Int.reduceNeg, Int.reduceAdd, Int.reduceSub, Int.reduceMul, Heap.gets, Heap.sets, Heap.get, bytesA_length, bytesA_one, bytesA_plains, List.take_of_length_le, List.drop_of_length_le, Nat.add_zero, V.one, Nat.reduceLeDiff, List.all_cons, List.all_nil, ne_eq, not_false_eq_true, Nat.zero_le, h, hs, List.set_set, l1, l2, m1, m2]; rfl) ?_ | refine To.nop hxE0 ?_ | (refine To.condT hxE0 ?_ ?_; focus (simp only [go_sem, eqs hxE0, reduceIte, Nat.reduceEqDiff, Nat.reduceAdd, Nat.reduceMul, Nat.reduceLT, Nat.reduceLeDiff, Int.reduceLT, Int.reduceLE, Int.reduceEq, reduceCtorEq, Int.reduceBEq, Int.reduceBNe, Int.reduceToNat, Nat.reduceSub, Nat.reduceDiv, Int.reduceNeg, Int.reduceAdd, Int.reduceSub, Int.reduceMul, Heap.gets, Heap.sets, Heap.get, bytesA_length, bytesA_one, bytesA_plains, List.take_of_length_le, List.drop_of_length_le, Nat.add_zero, V.one, Nat.reduceLeDiff, List.all_cons, List.all_nil, ne_eq, not_false_eq_true, Nat.zero_le, h, hs, List.set_set, l1, l2, m1, m2]; done)) | (refine To.condF hxE0 ?_ ?_; focus (simp only [go_sem, eqs hxE0, reduceIte, Nat.reduceEqDiff, Nat.reduceAdd, Nat.reduceMul, Nat.reduceLT, Nat.reduceLeDiff, Int.reduceLT, Int.reduceLE, Int.reduceEq, reduceCtorEq, Int.reduceBEq, Int.reduceBNe, Int.reduceToNat, Nat.reduceSub, Nat.reduceDiv, Int.reduceNeg, Int.reduceAdd, Int.reduceSub, Int.reduceMul, Heap.gets, Heap.sets, Heap.get, bytesA_length, bytesA_one, bytesA_plains, List.take_of_length_le, List.drop_of_length_le, Nat.add_zero, V.one, Nat.reduceLeDiff, List.all_cons, List.all_nil, ne_eq, not_false_eq_true, Nat.zero_le, h, hs, List.set_set, l1, l2, m1, m2]; done)) | refine To.block hxE0 ?_ | refine To.scope hxE0 ?_ | refine To.ret hxE0 ?_ | refine To.exit hxE0 ?_ | refine To.skip hxE0 ?_ | refine To.label hxE0 ?_))
  refine ⟨_, _, fin1 (i := 2) rfl, by simp only [get_fput, reduceIte, Nat.reduceEqDiff]; simp [burnB], ?_⟩
  simp only [burnC, Bool.false_eq_true, if_false, if_true, List.cons_append, List.nil_append]
  obtain ⟨d2, q1, q2⟩ := leave_same (o := o) (o' := o.set dd (.cells .ex t 0 (.bool true :: .bool (decide (IntKind.i64.wrap (left - 1) < 0)) :: .int .i64 (IntKind.i64.wrap (left - 1)) :: r))) (e := e) (d := d) (d' := min (min o.length dd) dd) (v := .bool (!decide (IntKind.i64.wrap (left - 1) < 0))) rfl (by simp) (fun hc => by omega)
  exact ⟨d2, by simp only [get_fput, reduceIte, Nat.reduceEqDiff]; exact q1, by omega⟩
end Go.Proofs.Ytfbkeieoeagkdaa

/- Disk: Flush by hand: that it is so. -/
namespace Go.Proofs.Ytfbkeieoeagkdaa
open Go AM
set_option linter.unusedSimpArgs false
set_option linter.unusedVariables false
set_option maxRecDepth 100000

def flushG : List V → Heap → Option (Out × Option Heap)
  | [.nilp], _ => some (.val (.int .i64 5), none)
  | [.ptr dd 0], h => match h.o[dd]? with
    | some (.cells .ex t 0 [.bool on, .bool down, .int .i64 left, .slice pg 0 np 64, .map lm]) =>
      if burnB on down left = false then some (.val (.int .i64 5), some ⟨h.o.set dd (.cells .ex t 0 (burnC on down left ++ [.slice pg 0 np 64, .map lm])), h.e, min h.d dd⟩)
      else match h.o[pg]?, h.o[lm]? with
        | some (.cells ck t' 0 cs), some (.map es) =>
          if ck ≠ .ro ∧ dd ≠ pg ∧ cs.length = np * 64 ∧ es.all (pageEnt np) = true ∧ apart es = true then
            some (.val (.int .i64 0), some ⟨((h.o.set dd (.cells .ex t 0 (burnC on down left ++ [.slice pg 0 np 64, .map lm]))).set pg (.cells ck t' 0 (layPages es np cs))).set lm (.map []), h.e, min h.d (min dd (min pg lm))⟩)
          else none
        | _, _ => none
    | _ => none
  | _, _ => none

theorem hcall0 : CallOk Try.prog (Den FF E0) := callOk_den mixed ffok sndE0

def R1 : AC := .region [⟨some 5, .mv (.t 0), none⟩, ⟨some 6, .eqf false false [(1, .p)] (.t 5) (.k .nilp), none⟩, ⟨some 7, .mv (.t 6), none⟩, ⟨some 8, .mv (.t 0), some (7, false)⟩, ⟨some 9, .nck (.t 8), some (7, false)⟩, ⟨some 10, .faddr 0 (.t 9), some (7, false)⟩, ⟨some 11, .call 49 [.t 10], some (7, false)⟩, ⟨some 12, .un .not (.t 11), some (7, false)⟩, ⟨some 13, .pick (.t 7) (.k (.bool true)) (.t 12), none⟩] false

set_option maxHeartbeats 4000000 in
theorem flush_nil {h : Heap} {ι : Map} {w : World} (hr : HR ι h.o w) : Calls Try.prog 16 (V.reals ι [.nilp]).toArray w fun e w' => ∃ κ, Nx ι h w κ h w' ∧ OutOk κ h.o.length e (.val (.int .i64 5)) := by
  refine calls_body (h2 := h) (args := [.nilp]) Try.func16 rfl rfl hr ⟨trivial, trivial⟩ (by decide) fun a hs hd => ?_
  apply wp_seq
  refine wp_mono (exec_ok hcall0 mixed (ds := []) (h := enter h) 1 (ac := .region [⟨some 2, .mv (.k (.int .i64 0)), none⟩] false) (by kernel_rfl) hr hs hd (by simp only [exec, go_sem, eqs hxE0, reduceIte, Nat.reduceEqDiff, Nat.reduceAdd, Nat.reduceMul, Nat.reduceLT, Nat.reduceLeDiff, Int.reduceLT, Int.reduceLE, Int.reduceEq, reduceCtorEq, Int.reduceBEq, Int.reduceBNe, Int.reduceToNat, Nat.reduceSub, Nat.reduceDiv, Int.reduceNeg, Int.reduceAdd, Int.reduceSub, Int.reduceMul]; rfl)) ?_
  rintro e1 a1 w1 ⟨κ, hn, hs1, hd1, rfl⟩
  apply wp_seq
  apply wp_seq
  refine wp_mono (exec_ok hcall0 mixed (ds := []) 1 (ac := R1) (by kernel_rfl) hn.hr hs1 hd1 (by simp only [exec, R1, go_sem, eqs hxE0, reduceIte, Nat.reduceEqDiff, Nat.reduceAdd, Nat.reduceMul, Nat.reduceLT, Nat.reduceLeDiff, Int.reduceLT, Int.reduceLE, Int.reduceEq, reduceCtorEq, Int.reduceBEq, Int.reduceBNe, Int.reduceToNat, Nat.reduceSub, Nat.reduceDiv, Int.reduceNeg, Int.reduceAdd, Int.reduceSub, Int.reduceMul, initS]; rfl)) ?_
  rintro e2 a2 w2 ⟨κ2, hn2, hs2, hd2, rfl⟩
  refine wp_cond (t := true) (by have := hs2.val 13; simp only [go_sem, eqs hxE0, reduceIte, Nat.reduceEqDiff, Nat.reduceAdd, Nat.reduceMul, Nat.reduceLT, Nat.reduceLeDiff, Int.reduceLT, Int.reduceLE, Int.reduceEq, reduceCtorEq, Int.reduceBEq, Int.reduceBNe, Int.reduceToNat, Nat.reduceSub, Nat.reduceDiv, Int.reduceNeg, Int.reduceAdd, Int.reduceSub, Int.reduceMul, V.real] at this; exact this) ?_
  apply wp_seq
  refine wp_mono (exec_ok hcall0 mixed (ds := []) 1 (ac := .region [⟨some 2, .mv (.k (.int .i64 5)), none⟩] false) (by kernel_rfl) hn2.hr hs2 hd2 (by simp only [exec, go_sem, eqs hxE0, reduceIte, Nat.reduceEqDiff, Nat.reduceAdd, Nat.reduceMul, Nat.reduceLT, Nat.reduceLeDiff, Int.reduceLT, Int.reduceLE, Int.reduceEq, reduceCtorEq, Int.reduceBEq, Int.reduceBNe, Int.reduceToNat, Nat.reduceSub, Nat.reduceDiv, Int.reduceNeg, Int.reduceAdd, Int.reduceSub, Int.reduceMul]; rfl)) ?_
  rintro e3 a3 w3 ⟨κ3, hn3, hs3, hd3, rfl⟩
  refine wp_ret ⟨.inr rfl, κ3, _, _, hn.trans (hn2.trans hn3), hs3, hd3, [.int .i64 5], ?_, rfl, ?_⟩
  · simp only [go_sem, eqs hxE0, reduceIte, Nat.reduceEqDiff, Nat.reduceAdd, Nat.reduceMul, Nat.reduceLT, Nat.reduceLeDiff, Int.reduceLT, Int.reduceLE, Int.reduceEq, reduceCtorEq, Int.reduceBEq, Int.reduceBNe, Int.reduceToNat, Nat.reduceSub, Nat.reduceDiv, Int.reduceNeg, Int.reduceAdd, Int.reduceSub, Int.reduceMul]
  · rw [show leave h ⟨h.o, h.o.length, h.o.length⟩ (.int .i64 5) = none from leave_plain (Kp.enter' h) rfl]
    exact ⟨rfl, rfl, Nat.le_refl _⟩

theorem take_set {o o' : List AM.Obj} {pg lm : Nat} {x y : AM.Obj} (hlen : o.length ≤ o'.length) (hp : pg < o.length) (hl : lm < o.length) (hx : o'[pg]? = some x) (hne : pg ≠ lm) (hold : ∀ l, l < o.length → l ≠ pg → l ≠ lm → o'[l]? = o[l]?) : (o'.set lm y).take o.length = (o.set pg x).set lm y := by
  apply List.ext_getElem?
  intro i
  rw [List.getElem?_take]
  by_cases hi : i < o.length
  · rw [if_pos hi]
    by_cases h1 : i = lm
    · subst h1
      rw [List.getElem?_set_self (by omega), List.getElem?_set_self (by simpa using hi)]
    · rw [List.getElem?_set_ne (Ne.symm h1), List.getElem?_set_ne (Ne.symm h1)]
      by_cases h2 : i = pg
      · subst h2
        rw [List.getElem?_set_self hi, hx]
      · rw [List.getElem?_set_ne (Ne.symm h2)]
        exact hold i hi h2 h1
  · rw [if_neg hi, List.getElem?_eq_none (by simp; omega)]

set_option maxHeartbeats 8000000 in
theorem flush_go {o : List AM.Obj} {e d dd t pg np lm t' : Nat} {on down : Bool} {left : Int} {ck : CK} {cs : List V} {es : List (V × V)} (hD : o[dd]? = some (.cells .ex t 0 [.bool on, .bool down, .int .i64 left, .slice pg 0 np 64, .map lm])) (hB : burnB on down left = true)
    (hP : o[pg]? = some (.cells ck t' 0 cs)) (hM : o[lm]? = some (.map es)) (hck : ck ≠ .ro) (hdp : dd ≠ pg) (hlen : cs.length = np * 64) (hes : es.all (pageEnt np) = true) (hap : apart es = true) {ι : Map} {w : World} (hr : HR ι o w) :
    Calls Try.prog 16 (V.reals ι [.ptr dd 0]).toArray w fun e1 w' => ∃ κ, Nx ι ⟨o, e, d⟩ w κ ⟨((o.set dd (.cells .ex t 0 (burnC on down left ++ [.slice pg 0 np 64, .map lm]))).set pg (.cells ck t' 0 (layPages es np cs))).set lm (.map []), e, min d (min dd (min pg lm))⟩ w' ∧
      OutOk κ (((o.set dd (.cells .ex t 0 (burnC on down left ++ [.slice pg 0 np 64, .map lm]))).set pg (.cells ck t' 0 (layPages es np cs))).set lm (.map [])).length e1 (.val (.int .i64 0)) := by
  have ldd := get_lt hD
  have lpg := get_lt hP
  have llm := get_lt hM
  have hdl : dd ≠ lm := by rintro rfl; rw [hD] at hM; cases hM
  have hpl : pg ≠ lm := by rintro rfl; rw [hP] at hM; cases hM
  refine calls_body (h2 := ⟨((o.set dd (.cells .ex t 0 (burnC on down left ++ [.slice pg 0 np 64, .map lm]))).set pg (.cells ck t' 0 (layPages es np cs))).set lm (.map []), e, min d (min dd (min pg lm))⟩) (h := ⟨o, e, d⟩) (args := [.ptr dd 0]) Try.func16 rfl rfl hr ⟨ldd, trivial⟩ (Nat.le_of_ble_eq_true rfl) fun a hs hd => ?_
  obtain ⟨vb, ohb, qb, rfl, db, hgb, hdb⟩ := burn_q (e := o.length) (d := o.length) hD
  rw [hB] at qb
  obtain ⟨bc, bl, hbc⟩ : ∃ b1 b2 b3, burnC on down left = [.bool b1, .bool b2, .int .i64 b3] := by
    unfold burnC; split
    · exact ⟨_, _, _, rfl⟩
    · split
      · exact ⟨_, _, _, rfl⟩
      · exact ⟨_, _, _, rfl⟩
  obtain ⟨bn, hbc⟩ := hbc
  rw [hbc] at hgb ⊢
  simp only [List.cons_append, List.nil_append] at hgb ⊢
  generalize ho1 : o.set dd (.cells .ex t 0 [.bool bc, .bool bl, .int .i64 bn, .slice pg 0 np 64, .map lm]) = o1 at hgb ⊢
  have l1 : o1.length = o.length := by rw [← ho1]; simp
  have hD1 : o1[dd]? = some (.cells .ex t 0 [.bool bc, .bool bl, .int .i64 bn, .slice pg 0 np 64, .map lm]) := by rw [← ho1]; exact List.getElem?_set_self ldd
  have hP1 : o1[pg]? = some (.cells ck t' 0 cs) := by rw [← ho1, List.getElem?_set_ne hdp]; exact hP
  have hM1 : o1[lm]? = some (.map es) := by rw [← ho1, List.getElem?_set_ne hdl]; exact hM
  apply wp_seq
  refine wp_mono (exec_ok hcall0 mixed (ds := []) (h := enter ⟨o, e, d⟩) 1 (ac := .region [⟨some 2, .mv (.k (.int .i64 0)), none⟩] false) (by kernel_rfl) hr hs hd (by simp only [exec, go_sem, eqs hxE0, reduceIte, Nat.reduceEqDiff, Nat.reduceAdd, Nat.reduceMul, Nat.reduceLT, Nat.reduceLeDiff, Int.reduceLT, Int.reduceLE, Int.reduceEq, reduceCtorEq, Int.reduceBEq, Int.reduceBNe, Int.reduceToNat, Nat.reduceSub, Nat.reduceDiv, Int.reduceNeg, Int.reduceAdd, Int.reduceSub, Int.reduceMul]; rfl)) ?_
  rintro e1 a1 w1 ⟨κ, hn, hs1, hd1, rfl⟩
  apply wp_seq
  apply wp_seq
  have ex1 : exec (Den FF E0) 1 R1 (fput (initS [.ptr dd 0]) 2 (.int .i64 0)) ⟨o, o.length, o.length⟩ = some (.norm, fput (fput (fput (fput (fput (fput (fput (fput (fput (fput (initS [.ptr dd 0]) 2 (.int .i64 0)) 5 (.ptr dd 0)) 6 (.bool false)) 7 (.bool false)) 8 (.ptr dd 0)) 9 (.ptr dd 0)) 10 (.ptr dd 0)) 11 (.bool true)) 12 (.bool false)) 13 (.bool false), ⟨o1, o.length, db⟩) := by
    simp only [exec, R1, go_sem, eqs hxE0, reduceIte, Nat.reduceEqDiff, Nat.reduceAdd, Nat.reduceMul, Nat.reduceLT, Nat.reduceLeDiff, Int.reduceLT, Int.reduceLE, Int.reduceEq, reduceCtorEq, Int.reduceBEq, Int.reduceBNe, Int.reduceToNat, Nat.reduceSub, Nat.reduceDiv, Int.reduceNeg, Int.reduceAdd, Int.reduceSub, Int.reduceMul, initS, qb]
    cases ohb with
    | none => simp only [Option.getD_none] at hgb; rw [hgb]; simp only [go_sem, eqs hxE0, reduceIte, Nat.reduceEqDiff, Nat.reduceAdd, Nat.reduceMul, Nat.reduceLT, Nat.reduceLeDiff, Int.reduceLT, Int.reduceLE, Int.reduceEq, reduceCtorEq, Int.reduceBEq, Int.reduceBNe, Int.reduceToNat, Nat.reduceSub, Nat.reduceDiv, Int.reduceNeg, Int.reduceAdd, Int.reduceSub, Int.reduceMul]
    | some hh => simp only [Option.getD_some] at hgb; rw [hgb]; simp only [go_sem, eqs hxE0, reduceIte, Nat.reduceEqDiff, Nat.reduceAdd, Nat.reduceMul, Nat.reduceLT, Nat.reduceLeDiff, Int.reduceLT, Int.reduceLE, Int.reduceEq, reduceCtorEq, Int.reduceBEq, Int.reduceBNe, Int.reduceToNat, Nat.reduceSub, Nat.reduceDiv, Int.reduceNeg, Int.reduceAdd, Int.reduceSub, Int.reduceMul]
  refine wp_mono (exec_ok hcall0 mixed (ds := []) 1 (ac := R1) (by kernel_rfl) hn.hr hs1 hd1 ex1) ?_
  rintro e2 a2 w2 ⟨κ2, hn2, hs2, hd2, rfl⟩
  refine wp_cond (t := false) (by have := hs2.val 13; simp only [go_sem, eqs hxE0, reduceIte, Nat.reduceEqDiff, Nat.reduceAdd, Nat.reduceMul, Nat.reduceLT, Nat.reduceLeDiff, Int.reduceLT, Int.reduceLE, Int.reduceEq, reduceCtorEq, Int.reduceBEq, Int.reduceBNe, Int.reduceToNat, Nat.reduceSub, Nat.reduceDiv, Int.reduceNeg, Int.reduceAdd, Int.reduceSub, Int.reduceMul, V.real] at this; exact this) (wp_skip ?_)
  apply wp_seq
  have hdb' : min o.length dd ≤ db := hdb
  have l1' : o1.length ≤ o1.length := Nat.le_refl _
  let Inv : List Nat → (Nat → V) → Heap → Prop := fun done S hc => S 0 = .ptr dd 0 ∧ ∃ cs', hc.o[pg]? = some (.cells ck t' 0 cs') ∧ Laid es np cs done cs' ∧ o1.length < hc.o.length ∧ (∀ l, l < o1.length → l ≠ pg → l ≠ lm → hc.o[l]? = o1[l]?) ∧ hc.e = o.length ∧ min dd (min pg lm) ≤ hc.d
  refine range_block hcall0 mixed (ds := []) (PA := [⟨some 14, .mv (.t 0), none⟩, ⟨some 15, .nck (.t 14), none⟩, ⟨some 16, .faddr 4 (.t 15), none⟩, ⟨some 17, .load none (.t 16), none⟩])
    (RC := [⟨some 22, .extract (.t 21) 0, none⟩, ⟨some 23, .extract (.t 21) 1, none⟩, ⟨some 4, .alloc 31 z64, none⟩, ⟨some 3, .mv (.t 22), none⟩, ⟨none, .store 64 (.t 4) (.t 23), none⟩])
    (AB := .draw 0 [⟨0, ⟨some 24, .mv (.t 0), none⟩, [], none, []⟩, ⟨1, ⟨some 25, .nck (.t 24), none⟩, [], none, []⟩, ⟨2, ⟨some 26, .faddr 3 (.t 25), none⟩, [], none, []⟩, ⟨3, ⟨some 27, .load none (.t 26), none⟩, [], none, []⟩, ⟨4, ⟨some 28, .mv (.t 3), none⟩, [], none, []⟩, ⟨5, ⟨some 29, .load (some 64) (.t 4), none⟩, [], none, []⟩, ⟨6, ⟨some 30, .iaddrS 64 (.t 27) (.t 28), none⟩, [], none, []⟩, ⟨7, ⟨none, .store 64 (.t 30) (.t 29), none⟩, [], none, []⟩])
    (k := 1) rfl rfl rfl rfl rfl (by kernel_rfl) Try.underlying29 (Nat.le_of_ble_eq_true rfl) rfl rfl rfl rfl rfl rfl rfl rfl rfl rfl rfl (by kernel_rfl) (by kernel_rfl) (Nat.le_of_ble_eq_true rfl) (Nat.le_of_ble_eq_true rfl) (Nat.le_of_ble_eq_true rfl) (by decide) (by decide)
    hn2.hr hs2 hd2 (h1 := ⟨o1, o.length, db⟩) (by simp only [go_sem, eqs hxE0, reduceIte, Nat.reduceEqDiff, Nat.reduceAdd, Nat.reduceMul, Nat.reduceLT, Nat.reduceLeDiff, Int.reduceLT, Int.reduceLE, Int.reduceEq, reduceCtorEq, Int.reduceBEq, Int.reduceBNe, Int.reduceToNat, Nat.reduceSub, Nat.reduceDiv, Int.reduceNeg, Int.reduceAdd, Int.reduceSub, Int.reduceMul, Heap.gets, Heap.sets, Heap.get, bytesA_length, bytesA_one, bytesA_plains, List.take_of_length_le, List.drop_of_length_le, Nat.add_zero, V.one, Nat.reduceLeDiff, List.all_cons, List.all_nil, ne_eq, not_false_eq_true, Nat.zero_le, hD1]; rfl) (es := es) (lm := lm) (by simp only [go_sem, eqs hxE0, reduceIte, Nat.reduceEqDiff, Nat.reduceAdd, Nat.reduceMul, Nat.reduceLT, Nat.reduceLeDiff, Int.reduceLT, Int.reduceLE, Int.reduceEq, reduceCtorEq, Int.reduceBEq, Int.reduceBNe, Int.reduceToNat, Nat.reduceSub, Nat.reduceDiv, Int.reduceNeg, Int.reduceAdd, Int.reduceSub, Int.reduceMul]) hM1 (fun e he => ?_) Inv ?_ ?_ ?_ ?_ ?_
  · obtain ⟨k, pgv, rfl, _, _, hp, _⟩ := pageEnt_inv (List.all_eq_true.1 hes e he)
    exact ⟨rfl, hp⟩
  · rintro done S hc x ⟨h1, cs', h2, h3, h4, h5, h6, h7⟩
    refine ⟨h1, cs', ?_, h3, by simpa using h4, fun l hl a b => ?_, h6, ?_⟩
    · show (hc.o.set o1.length _)[pg]? = _
      rw [List.getElem?_set_ne (by omega)]; exact h2
    · show (hc.o.set o1.length _)[l]? = _
      rw [List.getElem?_set_ne (by omega)]; exact h5 l hl a b
    · show _ ≤ min hc.d o1.length
      omega
  · rintro done S hc v u ⟨h1, h2⟩
    exact ⟨by simp only [go_sem, eqs hxE0, reduceIte, Nat.reduceEqDiff, Nat.reduceAdd, Nat.reduceMul, Nat.reduceLT, Nat.reduceLeDiff, Int.reduceLT, Int.reduceLE, Int.reduceEq, reduceCtorEq, Int.reduceBEq, Int.reduceBNe, Int.reduceToNat, Nat.reduceSub, Nat.reduceDiv, Int.reduceNeg, Int.reduceAdd, Int.reduceSub, Int.reduceMul, h1], h2⟩
  · rintro done S hc i en ⟨h1, cs', h2, hL', h4, h5, h6, h7⟩ hit hi hnot ⟨x1, hx1⟩ ⟨x2, hx2⟩
    obtain ⟨k, pgv, rfl, hk, hpl64, hpp, hpo⟩ := pageEnt_inv (List.all_eq_true.1 hes en (List.mem_of_getElem? hi))
    obtain ⟨ho, he, hd'⟩ := hc
    simp only at h2 h4 h5 h6 h7 hx1 hx2
    have gd : ∀ r, (ho ++ r)[dd]? = some (.cells .ex t 0 [.bool bc, .bool bl, .int .i64 bn, .slice pg 0 np 64, .map lm]) := fun r => by rw [List.getElem?_append_left (by omega), h5 dd (by omega) hdp hdl]; exact hD1
    have gp : ∀ r, (ho ++ r)[pg]? = some (.cells ck t' 0 cs') := fun r => by rw [List.getElem?_append_left (by omega)]; exact h2
    have hlen' : cs'.length = np * 64 := hL'.1.trans hlen
    have hkk : (k + 1) * 64 ≤ np * 64 := Nat.mul_le_mul_right 64 hk
    have hk0 : k * 64 + 64 ≤ cs'.length := by omega
    have ix : idxOf np (.int .i64 (k : Int)) = some k := idxOf_nat hk
    have hz : List.drop 64 z64 = [] := rfl
    have hz2 : z64.length = 64 := rfl
    have htk : List.take 64 pgv = pgv := List.take_of_length_le (by omega)
    refine ⟨_, _, .norm, _, _, (by simp only [go_sem, eqs hxE0, reduceIte, Nat.reduceEqDiff, Nat.reduceAdd, Nat.reduceMul, Nat.reduceLT, Nat.reduceLeDiff, Int.reduceLT, Int.reduceLE, Int.reduceEq, reduceCtorEq, Int.reduceBEq, Int.reduceBNe, Int.reduceToNat, Nat.reduceSub, Nat.reduceDiv, Int.reduceNeg, Int.reduceAdd, Int.reduceSub, Int.reduceMul, Heap.gets, Heap.sets, Heap.get, bytesA_length, bytesA_one, bytesA_plains, List.take_of_length_le, List.drop_of_length_le, Nat.add_zero, V.one, Nat.reduceLeDiff, List.all_cons, List.all_nil, ne_eq, not_false_eq_true, Nat.zero_le, hpl64, hpo, hpp, hz, hz2]; rfl), (by simp only [exec, go_sem, eqs hxE0, reduceIte, Nat.reduceEqDiff, Nat.reduceAdd, Nat.reduceMul, Nat.reduceLT, Nat.reduceLeDiff, Int.reduceLT, Int.reduceLE, Int.reduceEq, reduceCtorEq, Int.reduceBEq, Int.reduceBNe, Int.reduceToNat, Nat.reduceSub, Nat.reduceDiv, Int.reduceNeg, Int.reduceAdd, Int.reduceSub, Int.reduceMul, Heap.gets, Heap.sets, Heap.get, bytesA_length, bytesA_one, bytesA_plains, List.take_of_length_le, List.drop_of_length_le, Nat.add_zero, V.one, Nat.reduceLeDiff, List.all_cons, List.all_nil, ne_eq, not_false_eq_true, Nat.zero_le, h1, gd, gp, hpl64, hpo, hpp, htk, ix, hk0, hck]; rfl), .inl rfl, ?_, ?_, ?_, ?_⟩
    · simp only [go_sem, eqs hxE0, reduceIte, Nat.reduceEqDiff, Nat.reduceAdd, Nat.reduceMul, Nat.reduceLT, Nat.reduceLeDiff, Int.reduceLT, Int.reduceLE, Int.reduceEq, reduceCtorEq, Int.reduceBEq, Int.reduceBNe, Int.reduceToNat, Nat.reduceSub, Nat.reduceDiv, Int.reduceNeg, Int.reduceAdd, Int.reduceSub, Int.reduceMul]; exact hit
    · show ((ho ++ [_]).set pg _)[o1.length]? = ho[o1.length]?
      rw [List.getElem?_set_ne (by omega), List.getElem?_append_left (by omega)]
    · show ((ho ++ [_]).set pg _)[lm]? = ho[lm]?
      rw [List.getElem?_set_ne hpl, List.getElem?_append_left (by omega)]
    · refine ⟨by simp only [go_sem, eqs hxE0, reduceIte, Nat.reduceEqDiff, Nat.reduceAdd, Nat.reduceMul, Nat.reduceLT, Nat.reduceLeDiff, Int.reduceLT, Int.reduceLE, Int.reduceEq, reduceCtorEq, Int.reduceBEq, Int.reduceBNe, Int.reduceToNat, Nat.reduceSub, Nat.reduceDiv, Int.reduceNeg, Int.reduceAdd, Int.reduceSub, Int.reduceMul, h1], splice cs' (k * 64) pgv, ?_, hL'.step hi hpl64 (by omega), ?_, fun l hl a b => ?_, h6, ?_⟩
      · show ((ho ++ [_]).set pg _)[pg]? = _
        rw [List.getElem?_set_self (by simp; omega)]
        unfold splice
        rw [hpl64, List.append_assoc]
      · show o1.length < ((ho ++ [_]).set pg _).length
        simp; omega
      · show ((ho ++ [_]).set pg _)[l]? = _
        rw [List.getElem?_set_ne (Ne.symm a), List.getElem?_append_left (by omega)]
        exact h5 l hl a b
      · show _ ≤ min (min hd' ho.length) pg
        omega
  · intro xi xm
    refine ⟨by simp only [go_sem, eqs hxE0, reduceIte, Nat.reduceEqDiff, Nat.reduceAdd, Nat.reduceMul, Nat.reduceLT, Nat.reduceLeDiff, Int.reduceLT, Int.reduceLE, Int.reduceEq, reduceCtorEq, Int.reduceBEq, Int.reduceBNe, Int.reduceToNat, Nat.reduceSub, Nat.reduceDiv, Int.reduceNeg, Int.reduceAdd, Int.reduceSub, Int.reduceMul, initS], cs, ?_, Laid.start es np cs, by simp, fun l hl a b => ?_, rfl, ?_⟩
    · show ((o1 ++ [AM.Obj.raw xi]).set lm _)[pg]? = _
      rw [List.getElem?_set_ne (Ne.symm hpl), List.getElem?_append_left (by omega)]; exact hP1
    · show ((o1 ++ [AM.Obj.raw xi]).set lm _)[l]? = _
      rw [List.getElem?_set_ne (Ne.symm b), List.getElem?_append_left hl]
    · show _ ≤ min db lm
      omega
  · rintro κ3 a3 w3 S3 ⟨ho, he, hd'⟩ done hn3 hs3 hd3 ⟨h1, cs', h2, hL, h4, h5, h6, h7⟩ hall ⟨x, hx⟩
    simp only at h2 h4 h5 h6 h7 hx
    subst h6
    obtain rfl : cs' = layPages es np cs := hL.fin hlen hes hap hall
    have gd : (ho.set lm (.map es))[dd]? = some (.cells .ex t 0 [.bool bc, .bool bl, .int .i64 bn, .slice pg 0 np 64, .map lm]) := by rw [List.getElem?_set_ne (Ne.symm hdl), h5 dd (by omega) hdp hdl]; exact hD1
    have gm : (ho.set lm (.map es))[lm]? = some (.map es) := List.getElem?_set_self (by omega)
    have hs3' : SR κ3 S3 Try.f16.ntmps a3.tmps (ho.set lm (.map es)).length := by rw [List.length_set]; exact hs3
    apply wp_seq
    refine wp_mono (exec_ok hcall0 mixed (ds := []) (h := ⟨ho.set lm (.map es), o.length, min hd' lm⟩) 1 (ac := .region [⟨some 31, .mv (.t 0), none⟩, ⟨some 32, .nck (.t 31), none⟩, ⟨some 33, .faddr 4 (.t 32), none⟩, ⟨some 34, .load none (.t 33), none⟩, ⟨none, .clearM (.t 34), none⟩] false) (by kernel_rfl) hn3.hr hs3' hd3 (by simp only [exec, go_sem, eqs hxE0, reduceIte, Nat.reduceEqDiff, Nat.reduceAdd, Nat.reduceMul, Nat.reduceLT, Nat.reduceLeDiff, Int.reduceLT, Int.reduceLE, Int.reduceEq, reduceCtorEq, Int.reduceBEq, Int.reduceBNe, Int.reduceToNat, Nat.reduceSub, Nat.reduceDiv, Int.reduceNeg, Int.reduceAdd, Int.reduceSub, Int.reduceMul, Heap.gets, Heap.sets, Heap.get, bytesA_length, bytesA_one, bytesA_plains, List.take_of_length_le, List.drop_of_length_le, Nat.add_zero, V.one, Nat.reduceLeDiff, List.all_cons, List.all_nil, ne_eq, not_false_eq_true, Nat.zero_le, h1, gd, gm]; rfl)) ?_
    rintro e4 a4 w4 ⟨κ4, hn4, hs4, hd4, rfl⟩
    apply wp_seq
    refine wp_mono (exec_ok hcall0 mixed (ds := []) 1 (ac := .region [⟨some 2, .mv (.k (.int .i64 0)), none⟩] false) (by kernel_rfl) hn4.hr hs4 hd4 (by simp only [exec, go_sem, eqs hxE0, reduceIte, Nat.reduceEqDiff, Nat.reduceAdd, Nat.reduceMul, Nat.reduceLT, Nat.reduceLeDiff, Int.reduceLT, Int.reduceLE, Int.reduceEq, reduceCtorEq, Int.reduceBEq, Int.reduceBNe, Int.reduceToNat, Nat.reduceSub, Nat.reduceDiv, Int.reduceNeg, Int.reduceAdd, Int.reduceSub, Int.reduceMul]; rfl)) ?_
    rintro e5 a5 w5 ⟨κ5, hn5, hs5, hd5, rfl⟩
    refine wp_ret ⟨.inr rfl, κ5, _, _, hn.trans (hn2.trans (hn3.trans (hn4.trans hn5))), hs5, hd5, [.int .i64 0], ?_, rfl, ?_⟩
    · simp only [go_sem, eqs hxE0, reduceIte, Nat.reduceEqDiff, Nat.reduceAdd, Nat.reduceMul, Nat.reduceLT, Nat.reduceLeDiff, Int.reduceLT, Int.reduceLE, Int.reduceEq, reduceCtorEq, Int.reduceBEq, Int.reduceBNe, Int.reduceToNat, Nat.reduceSub, Nat.reduceDiv, Int.reduceNeg, Int.reduceAdd, Int.reduceSub, Int.reduceMul]
    · have hlv : leave ⟨o, e, d⟩ ⟨(ho.set lm (.map es)).set lm (.map []), o.length, min (min hd' lm) lm⟩ (.int .i64 0) = some ⟨(o1.set pg (.cells ck t' 0 (layPages es np cs))).set lm (.map []), e, min d (min (min hd' lm) lm)⟩ := by
        unfold leave
        simp only
        rw [if_pos ⟨Nat.le_refl _, rfl⟩, if_neg (by omega), List.set_set, ← l1, take_set (by omega) (by omega) (by omega) h2 hpl h5]
      have key : ∀ hh : Heap, hh = ⟨(ho.set lm (.map es)).set lm (.map []), o.length, min (min hd' lm) lm⟩ → (((leave ⟨o, e, d⟩ hh (resV [.int .i64 0])).getD ⟨o, e, d⟩).o = (o1.set pg (.cells ck t' 0 (layPages es np cs))).set lm (.map []) ∧ ((leave ⟨o, e, d⟩ hh (resV [.int .i64 0])).getD ⟨o, e, d⟩).e = e ∧ min d (min dd (min pg lm)) ≤ ((leave ⟨o, e, d⟩ hh (resV [.int .i64 0])).getD ⟨o, e, d⟩).d) := by
        rintro _ rfl
        show ((leave _ _ (.int .i64 0)).getD _).o = _ ∧ _
        rw [show resV [V.int .i64 0] = .int .i64 0 from rfl, hlv]
        exact ⟨rfl, rfl, by show _ ≤ min d (min (min hd' lm) lm); omega⟩
      exact key _ rfl

theorem flush_down {o : List AM.Obj} {e d dd t pg np lm : Nat} {on down : Bool} {left : Int} (hD : o[dd]? = some (.cells .ex t 0 [.bool on, .bool down, .int .i64 left, .slice pg 0 np 64, .map lm])) (hB : burnB on down left = false) {ι : Map} {w : World} (hr : HR ι o w) :
    Calls Try.prog 16 (V.reals ι [.ptr dd 0]).toArray w fun e1 w' => ∃ κ, Nx ι ⟨o, e, d⟩ w κ ⟨o.set dd (.cells .ex t 0 (burnC on down left ++ [.slice pg 0 np 64, .map lm])), e, min d dd⟩ w' ∧
      OutOk κ (o.set dd (.cells .ex t 0 (burnC on down left ++ [.slice pg 0 np 64, .map lm]))).length e1 (.val (.int .i64 5)) := by
  have ldd := get_lt hD
  refine calls_body (h2 := ⟨o.set dd (.cells .ex t 0 (burnC on down left ++ [.slice pg 0 np 64, .map lm])), e, min d dd⟩) (h := ⟨o, e, d⟩) (args := [.ptr dd 0]) Try.func16 rfl rfl hr ⟨ldd, trivial⟩ (Nat.le_of_ble_eq_true rfl) fun a hs hd => ?_
  obtain ⟨vb, ohb, qb, rfl, db, hgb, hdb⟩ := burn_q (e := o.length) (d := o.length) hD
  rw [hB] at qb
  generalize ho1 : o.set dd (.cells .ex t 0 (burnC on down left ++ [.slice pg 0 np 64, .map lm])) = o1 at hgb ⊢
  have l1 : o1.length = o.length := by rw [← ho1]; simp
  apply wp_seq
  refine wp_mono (exec_ok hcall0 mixed (ds := []) (h := enter ⟨o, e, d⟩) 1 (ac := .region [⟨some 2, .mv (.k (.int .i64 0)), none⟩] false) (by kernel_rfl) hr hs hd (by simp only [exec, go_sem, eqs hxE0, reduceIte, Nat.reduceEqDiff, Nat.reduceAdd, Nat.reduceMul, Nat.reduceLT, Nat.reduceLeDiff, Int.reduceLT, Int.reduceLE, Int.reduceEq, reduceCtorEq, Int.reduceBEq, Int.reduceBNe, Int.reduceToNat, Nat.reduceSub, Nat.reduceDiv, Int.reduceNeg, Int.reduceAdd, Int.reduceSub, Int.reduceMul]; rfl)) ?_
  rintro e1 a1 w1 ⟨κ, hn, hs1, hd1, rfl⟩
  apply wp_seq
  apply wp_seq
  have ex1 : exec (Den FF E0) 1 R1 (fput (initS [.ptr dd 0]) 2 (.int .i64 0)) ⟨o, o.length, o.length⟩ = some (.norm, fput (fput (fput (fput (fput (fput (fput (fput (fput (fput (initS [.ptr dd 0]) 2 (.int .i64 0)) 5 (.ptr dd 0)) 6 (.bool false)) 7 (.bool false)) 8 (.ptr dd 0)) 9 (.ptr dd 0)) 10 (.ptr dd 0)) 11 (.bool false)) 12 (.bool true)) 13 (.bool true), ⟨o1, o.length, db⟩) := by
    simp only [exec, R1, go_sem, eqs hxE0, reduceIte, Nat.reduceEqDiff, Nat.reduceAdd, Nat.reduceMul, Nat.reduceLT, Nat.reduceLeDiff, Int.reduceLT, Int.reduceLE, Int.reduceEq, reduceCtorEq, Int.reduceBEq, Int.reduceBNe, Int.reduceToNat, Nat.reduceSub, Nat.reduceDiv, Int.reduceNeg, Int.reduceAdd, Int.reduceSub, Int.reduceMul, initS, qb]
    cases ohb with
    | none => simp only [Option.getD_none] at hgb; rw [hgb]; simp only [go_sem, eqs hxE0, reduceIte, Nat.reduceEqDiff, Nat.reduceAdd, Nat.reduceMul, Nat.reduceLT, Nat.reduceLeDiff, Int.reduceLT, Int.reduceLE, Int.reduceEq, reduceCtorEq, Int.reduceBEq, Int.reduceBNe, Int.reduceToNat, Nat.reduceSub, Nat.reduceDiv, Int.reduceNeg, Int.reduceAdd, Int.reduceSub, Int.reduceMul]
    | some hh => simp only [Option.getD_some] at hgb; rw [hgb]; simp only [go_sem, eqs hxE0, reduceIte, Nat.reduceEqDiff, Nat.reduceAdd, Nat.reduceMul, Nat.reduceLT, Nat.reduceLeDiff, Int.reduceLT, Int.reduceLE, Int.reduceEq, reduceCtorEq, Int.reduceBEq, Int.reduceBNe, Int.reduceToNat, Nat.reduceSub, Nat.reduceDiv, Int.reduceNeg, Int.reduceAdd, Int.reduceSub, Int.reduceMul]
  refine wp_mono (exec_ok hcall0 mixed (ds := []) 1 (ac := R1) (by kernel_rfl) hn.hr hs1 hd1 ex1) ?_
  rintro e2 a2 w2 ⟨κ2, hn2, hs2, hd2, rfl⟩
  refine wp_cond (t := true) (by have := hs2.val 13; simp only [go_sem, eqs hxE0, reduceIte, Nat.reduceEqDiff, Nat.reduceAdd, Nat.reduceMul, Nat.reduceLT, Nat.reduceLeDiff, Int.reduceLT, Int.reduceLE, Int.reduceEq, reduceCtorEq, Int.reduceBEq, Int.reduceBNe, Int.reduceToNat, Nat.reduceSub, Nat.reduceDiv, Int.reduceNeg, Int.reduceAdd, Int.reduceSub, Int.reduceMul, V.real] at this; exact this) ?_
  apply wp_seq
  refine wp_mono (exec_ok hcall0 mixed (ds := []) 1 (ac := .region [⟨some 2, .mv (.k (.int .i64 5)), none⟩] false) (by kernel_rfl) hn2.hr hs2 hd2 (by simp only [exec, go_sem, eqs hxE0, reduceIte, Nat.reduceEqDiff, Nat.reduceAdd, Nat.reduceMul, Nat.reduceLT, Nat.reduceLeDiff, Int.reduceLT, Int.reduceLE, Int.reduceEq, reduceCtorEq, Int.reduceBEq, Int.reduceBNe, Int.reduceToNat, Nat.reduceSub, Nat.reduceDiv, Int.reduceNeg, Int.reduceAdd, Int.reduceSub, Int.reduceMul]; rfl)) ?_
  rintro e3 a3 w3 ⟨κ3, hn3, hs3, hd3, rfl⟩
  refine wp_ret ⟨.inr rfl, κ3, _, ⟨o1, o.length, min db dd⟩, (hn.trans (hn2.trans hn3)).low (Nat.min_le_left _ _), hs3, hd3, [.int .i64 5], ?_, rfl, ?_⟩
  · simp only [go_sem, eqs hxE0, reduceIte, Nat.reduceEqDiff, Nat.reduceAdd, Nat.reduceMul, Nat.reduceLT, Nat.reduceLeDiff, Int.reduceLT, Int.reduceLE, Int.reduceEq, reduceCtorEq, Int.reduceBEq, Int.reduceBNe, Int.reduceToNat, Nat.reduceSub, Nat.reduceDiv, Int.reduceNeg, Int.reduceAdd, Int.reduceSub, Int.reduceMul]
  · show ((leave _ _ (.int .i64 5)).getD _).o = _ ∧ ((leave _ _ (.int .i64 5)).getD _).e = _ ∧ _ ≤ ((leave _ _ (.int .i64 5)).getD _).d
    unfold leave
    simp only
    rw [if_pos ⟨Nat.le_refl _, rfl⟩, if_neg (by omega), ← l1, List.take_of_length_le (Nat.le_refl _)]
    exact ⟨rfl, rfl, by show _ ≤ min d (min db dd); omega⟩

/-- Flush by hand is so. -/
theorem flushOk (args : List V) (h : Heap) (out : Out) (oh : Option Heap) (he : flushG args h = some (out, oh)) : callOk Try.prog 16 = true ∧ ∀ ι w, HR ι h.o w → V.scs h.o.length args →
    Calls Try.prog 16 (V.reals ι args).toArray w fun e w' => ∃ κ, Nx ι h w κ (oh.getD h) w' ∧ OutOk κ (oh.getD h).o.length e out := by
  refine ⟨by kernel_rfl, fun ι w hr hsc => ?_⟩
  obtain ⟨o, e, d⟩ := h
  unfold flushG at he
  split at he
  · cases he
    exact flush_nil hr
  · simp only at he
    split at he
    · rename_i dd t on down left pg np lm hD
      split at he
      · rename_i hB
        cases he
        exact flush_down hD hB hr
      · rename_i hB
        split at he
        · rename_i ck t' cs es hP hM
          split at he
          · rename_i hc
            obtain ⟨h1, h2, h3, h4, h5⟩ := hc
            cases he
            exact flush_go hD (by simpa using hB) hP hM h1 h2 h3 h4 h5 hr
          · cases he
        · cases he
    · cases he
  · cases he
end Go.Proofs.Ytfbkeieoeagkdaa

/- Disk: the sorted keys of a map: the contracts of the kit's shelf laid at this program, written out by the kit's tool (lay-plain). -/
namespace Go.Proofs
open Go.Shelf
def Try.keysA_ren : Go.Shelf.Ren := ⟨fun | 10 => 69 | n => n, fun | 33 => 122 | 23 => 29 | 0 => 0 | 4 => 4 | 26 => 3 | 3 => 31 | n => n, fun | n => n⟩
theorem Try.keysA : Go.Proofs.SlLaysZI.n10 Try.prog Try.keysA_ren := {
  mixed := by kernel_rfl
  f10 := ⟨Try.f69.name, by decide, Try.func69.trans (congrArg some (by kernel_rfl))⟩
  t0 := Try.underlying0
  a0 := Try.isAgg0
  z0 := Try.sizeOf0
  v0 := Try.zeroValue0
  t4 := Try.underlying4
  a4 := Try.isAgg4
  z4 := Try.sizeOf4
  v4 := Try.zeroValue4
  t23 := Try.underlying29
  a23 := Try.isAgg29
  z23 := Try.sizeOf29
  v23 := Try.zeroValue29
  t26 := Try.underlying3
  a26 := Try.isAgg3
  z26 := Try.sizeOf3
  v26 := Try.zeroValue3
  t33 := Try.underlying122
  a33 := Try.isAgg122
  z33 := Try.sizeOf122
  v33 := Try.zeroValue122 }
def Try.sortedA_ren : Go.Shelf.Ren := ⟨fun | 6 => 50 | 8 => 67 | 9 => 68 | 11 => 83 | 13 => 85 | 12 => 84 | 23 => 101 | 24 => 102 | 14 => 92 | 15 => 93 | 16 => 94 | 17 => 95 | 18 => 96 | 19 => 97 | 20 => 98 | 21 => 99 | 22 => 100 | 25 => 104 | 26 => 105 | 27 => 106 | 28 => 107 | 29 => 108 | 30 => 109 | 31 => 110 | n => n, fun | 26 => 3 | 28 => 97 | 24 => 58 | 0 => 0 | 3 => 3 | 37 => 137 | 48 => 101 | 50 => 153 | 4 => 4 | 40 => 145 | 39 => 144 | 45 => 149 | 5 => 5 | 9 => 9 | 51 => 156 | 55 => 160 | 57 => 162 | 58 => 163 | 33 => 122 | n => n, fun | n => n⟩
theorem Try.sortedA : Go.Proofs.SlLaysZI.n6 Try.prog Try.sortedA_ren := {
  mixed := by kernel_rfl
  f6 := ⟨Try.f50.name, by decide, Try.func50.trans (congrArg some (by kernel_rfl))⟩
  f8 := ⟨Try.f67.name, by decide, Try.func67.trans (congrArg some (by kernel_rfl))⟩
  f11 := ⟨Try.f83.name, by decide, Try.func83.trans (congrArg some (by kernel_rfl))⟩
  t0 := Try.underlying0
  a0 := Try.isAgg0
  z0 := Try.sizeOf0
  v0 := Try.zeroValue0
  t24 := Try.underlying58
  a24 := Try.isAgg58
  z24 := Try.sizeOf58
  v24 := Try.zeroValue58
  t26 := Try.underlying3
  a26 := Try.isAgg3
  z26 := Try.sizeOf3
  v26 := Try.zeroValue3
  t28 := Try.underlying97
  a28 := Try.isAgg97
  z28 := Try.sizeOf97
  v28 := Try.zeroValue97
  i26 := by kernel_rfl }
def Try.sortA_ren : Go.Shelf.Ren := ⟨fun | 5 => 68 | 8 => 85 | 7 => 84 | 19 => 101 | 20 => 102 | 10 => 92 | 11 => 93 | 12 => 94 | 13 => 95 | 14 => 96 | 15 => 97 | 16 => 98 | 17 => 99 | 18 => 100 | 30 => 104 | 31 => 105 | 32 => 106 | 33 => 107 | 34 => 108 | 35 => 109 | 40 => 110 | n => n, fun | 23 => 58 | 25 => 3 | 3 => 3 | 32 => 137 | 22 => 58 | 0 => 0 | 44 => 101 | 46 => 153 | 4 => 4 | 36 => 145 | 35 => 144 | 41 => 149 | 5 => 5 | 9 => 9 | 53 => 156 | 57 => 160 | 63 => 162 | 64 => 163 | n => n, fun | n => n⟩
theorem Try.sortA : Go.Proofs.SlLaysM.n5 Try.prog Try.sortA_ren := {
  mixed := by kernel_rfl
  f5 := ⟨Try.f68.name, by decide, Try.func68.trans (congrArg some (by kernel_rfl))⟩
  f7 := ⟨Try.f84.name, by decide, Try.func84.trans (congrArg some (by kernel_rfl))⟩
  f8 := Try.func85.trans (congrArg some (by kernel_rfl))
  f10 := ⟨Try.f92.name, by decide, Try.func92.trans (congrArg some (by kernel_rfl))⟩
  f11 := ⟨Try.f93.name, by decide, Try.func93.trans (congrArg some (by kernel_rfl))⟩
  f12 := ⟨Try.f94.name, by decide, Try.func94.trans (congrArg some (by kernel_rfl))⟩
  f13 := ⟨Try.f95.name, by decide, Try.func95.trans (congrArg some (by kernel_rfl))⟩
  f14 := ⟨Try.f96.name, by decide, Try.func96.trans (congrArg some (by kernel_rfl))⟩
  f15 := ⟨Try.f97.name, by decide, Try.func97.trans (congrArg some (by kernel_rfl))⟩
  f16 := ⟨Try.f98.name, by decide, Try.func98.trans (congrArg some (by kernel_rfl))⟩
  f17 := ⟨Try.f99.name, by decide, Try.func99.trans (congrArg some (by kernel_rfl))⟩
  f18 := ⟨Try.f100.name, by decide, Try.func100.trans (congrArg some (by kernel_rfl))⟩
  f19 := Try.func101.trans (congrArg some (by kernel_rfl))
  f20 := Try.func102.trans (congrArg some (by kernel_rfl))
  f30 := ⟨Try.f104.name, by decide, Try.func104.trans (congrArg some (by kernel_rfl))⟩
  f31 := Try.func105.trans (congrArg some (by kernel_rfl))
  f32 := Try.func106.trans (congrArg some (by kernel_rfl))
  f33 := ⟨Try.f107.name, by decide, Try.func107.trans (congrArg some (by kernel_rfl))⟩
  f34 := ⟨Try.f108.name, by decide, Try.func108.trans (congrArg some (by kernel_rfl))⟩
  f35 := ⟨Try.f109.name, by decide, Try.func109.trans (congrArg some (by kernel_rfl))⟩
  f40 := ⟨Try.f110.name, by decide, Try.func110.trans (congrArg some (by kernel_rfl))⟩
  t0 := Try.underlying0
  a0 := Try.isAgg0
  z0 := Try.sizeOf0
  v0 := Try.zeroValue0
  t3 := Try.underlying3
  a3 := Try.isAgg3
  z3 := Try.sizeOf3
  v3 := Try.zeroValue3
  t4 := Try.underlying4
  a4 := Try.isAgg4
  z4 := Try.sizeOf4
  v4 := Try.zeroValue4
  t5 := Try.underlying5
  a5 := Try.isAgg5
  z5 := Try.sizeOf5
  v5 := Try.zeroValue5
  t9 := Try.underlying9
  a9 := Try.isAgg9
  z9 := Try.sizeOf9
  v9 := Try.zeroValue9
  t22 := Try.underlying58
  a22 := Try.isAgg58
  z22 := Try.sizeOf58
  v22 := Try.zeroValue58
  t23 := Try.underlying58
  a23 := Try.isAgg58
  z23 := Try.sizeOf58
  v23 := Try.zeroValue58
  t25 := Try.underlying3
  a25 := Try.isAgg3
  z25 := Try.sizeOf3
  v25 := Try.zeroValue3
  t32 := Try.underlying137
  a32 := Try.isAgg137
  z32 := Try.sizeOf137
  v32 := Try.zeroValue137
  t35 := Try.underlying144
  a35 := Try.isAgg144
  z35 := Try.sizeOf144
  v35 := Try.zeroValue144
  t36 := Try.underlying145
  a36 := Try.isAgg145
  z36 := Try.sizeOf145
  v36 := Try.zeroValue145
  t41 := Try.underlying149
  a41 := Try.isAgg149
  z41 := Try.sizeOf149
  v41 := Try.zeroValue149
  t44 := Try.underlying101
  a44 := Try.isAgg101
  z44 := Try.sizeOf101
  v44 := Try.zeroValue101
  t46 := Try.underlying153
  a46 := Try.isAgg153
  z46 := Try.sizeOf153
  v46 := Try.zeroValue153
  t53 := Try.underlying156
  a53 := Try.isAgg156
  z53 := Try.sizeOf156
  v53 := Try.zeroValue156
  t57 := Try.underlying160
  a57 := Try.isAgg160
  z57 := Try.sizeOf160
  v57 := Try.zeroValue160
  t63 := Try.underlying162
  a63 := Try.isAgg162
  z63 := Try.sizeOf162
  v63 := Try.zeroValue162
  t64 := Try.underlying163
  a64 := Try.isAgg163
  z64 := Try.sizeOf163
  v64 := Try.zeroValue163 }
end Go.Proofs

/- Disk: the sorted keys of a map, by hand. -/
namespace Go.Proofs.Ytfbkeieoeagkdaa
open Go AM
open Go.RowKit Go.Maps Go.Sort Go.Shelf Go.WideShapes
set_option linter.unusedSimpArgs false
set_option linter.unusedVariables false
set_option maxRecDepth 100000

def keysOf : List (V × V) → Option (List Int)
  | [] => some []
  | (.int .i64 k, _) :: r => if -9223372036854775808 ≤ k ∧ k ≤ 9223372036854775807 then (keysOf r).map (k :: ·) else none
  | _ => none
def insI (x : Int) : List Int → List Int
  | [] => [x]
  | y :: r => if x ≤ y then x :: y :: r else y :: insI x r
def isort : List Int → List Int
  | [] => []
  | x :: r => insI x (isort r)

theorem insI_perm (x : Int) : ∀ l, (insI x l).Perm (x :: l)
  | [] => List.Perm.refl _
  | y :: r => by
    unfold insI
    split
    · exact List.Perm.refl _
    · exact ((insI_perm x r).cons y).trans (.swap x y r)
theorem isort_perm : ∀ l, (isort l).Perm l
  | [] => List.Perm.refl _
  | x :: r => (insI_perm x _).trans ((isort_perm r).cons x)
theorem insI_sorted (x : Int) : ∀ {l : List Int}, l.Pairwise (· ≤ ·) → (insI x l).Pairwise (· ≤ ·)
  | [], h => List.pairwise_singleton _ _
  | y :: r, h => by
    obtain ⟨h1, h2⟩ := List.pairwise_cons.1 h
    unfold insI
    split
    · rename_i hxy
      exact List.pairwise_cons.2 ⟨fun z hz => by
        rcases List.mem_cons.1 hz with rfl | hz
        · exact hxy
        · exact Int.le_trans hxy (h1 z hz), h⟩
    · rename_i hxy
      refine List.pairwise_cons.2 ⟨fun z hz => ?_, insI_sorted x h2⟩
      rcases List.mem_cons.1 ((insI_perm x r).mem_iff.1 hz) with rfl | hz
      · omega
      · exact h1 z hz
theorem isort_sorted : ∀ l, (isort l).Pairwise (· ≤ ·)
  | [] => List.Pairwise.nil
  | x :: r => insI_sorted x (isort_sorted r)
theorem merge_isort {ss ks : List Int} (h : ss.Perm ks) : ss.mergeSort (fun x y => decide (x ≤ y)) = isort ks := by
  have tr : ∀ a b c : Int, decide (a ≤ b) = true → decide (b ≤ c) = true → decide (a ≤ c) = true := fun a b c h1 h2 => by simp only [decide_eq_true_eq] at *; exact Int.le_trans h1 h2
  have to : ∀ a b : Int, (decide (a ≤ b) || decide (b ≤ a)) = true := fun a b => by simp only [Bool.or_eq_true, decide_eq_true_eq]; exact Int.le_total a b
  refine List.Perm.eq_of_pairwise (le := fun a b => decide (a ≤ b) = true) (fun a b _ _ h1 h2 => ?_) (List.pairwise_mergeSort tr to ss) ((isort_sorted ks).imp fun h => by simpa using h) (((List.mergeSort_perm ss _).trans h).trans (isort_perm ks).symm)
  simp only [decide_eq_true_eq] at h1 h2
  exact Int.le_antisymm h1 h2

theorem keysOf_map : ∀ {es : List (V × V)} {ks : List Int}, keysOf es = some ks → es.map (·.1) = ks.map (V.int .i64) ∧ ∀ k ∈ ks, -9223372036854775808 ≤ k ∧ k ≤ 9223372036854775807
  | [], ks, h => by simp only [keysOf, Option.some.injEq] at h; subst h; exact ⟨rfl, by simp⟩
  | (.int .i64 k, v) :: r, ks, h => by
    simp only [keysOf] at h
    split at h
    · rename_i hk
      simp only [Option.map_eq_some_iff] at h
      obtain ⟨l, hl, rfl⟩ := h
      obtain ⟨h1, h2⟩ := keysOf_map hl
      refine ⟨by simp [h1], fun x hx => ?_⟩
      rcases List.mem_cons.1 hx with rfl | hx
      · exact hk
      · exact h2 x hx
    · cases h

/-- A new object in a block of a world in which nothing else has turned. -/
theorem nx_at {ι : Map} {h : Heap} {w w' : World} (hr : HR ι h.o w) (hb : Below w.heap.size w w') (o : AM.Obj) (p : AM.Place) (hp : w.heap.size ≤ p.blk) (hor : OR (ι.upd h.o.length p) w' p o) (hsc : o.sc (h.o.length + 1)) (how : o.own = true) : Nx ι h w (ι.upd h.o.length p) ⟨h.o ++ [o], h.e, h.d⟩ w' := by
  have ag := Map.agree_upd ι h.o.length p
  have look : ∀ (k : Nat) (y : AM.Obj), (h.o ++ [o])[k]? = some y → (k = h.o.length ∧ y = o) ∨ (k < h.o.length ∧ h.o[k]? = some y) := by
    intro k y hy
    rw [List.getElem?_append] at hy
    split at hy
    · exact .inr ⟨by assumption, hy⟩
    · have hk : k - h.o.length = 0 := by
        rcases Nat.eq_zero_or_pos (k - h.o.length) with h0 | h0
        · exact h0
        · rw [List.getElem?_eq_none (by simp; omega)] at hy; simp at hy
      rw [hk] at hy
      simp at hy
      exact .inl ⟨by omega, hy.symm⟩
  have old : ∀ k, k < h.o.length → (ι.upd h.o.length p) k = ι k := fun k hk => ag k hk
  have oldLt : ∀ (k : Nat) (y : AM.Obj), h.o[k]? = some y → y.live = true → (ι k).blk < w.heap.size := fun k y hy hl => (hr.obj k y hy).lt hl
  refine ⟨⟨fun k y hy => ?_, fun k k' y y' hkk hy hy' hyo hyl => ?_, fun k y hy => ?_⟩, ag, by simp, ⟨hb.os, hb.tape, hb.output, hb.size, fun b hb' _ => hb.block b hb', fun b hb' hb2 hc => ?_⟩, fun k n hkn hke hc y hy => ?_, ⟨Nat.le_refl _, Nat.le_refl _⟩, fun k hk _ => List.getElem?_append_left hk, fun k y hy hyl hyo => ?_⟩
  · rcases look k y hy with ⟨rfl, rfl⟩ | ⟨hk, hy'⟩
    · rw [Map.upd_same]; exact hor
    · rw [old k hk]
      have h1 := hr.obj k y hy'
      cases hlive : y.live with
      | false => cases y <;> simp_all [Obj.live, OR]
      | true => exact (h1.of_block (hb.block _ (oldLt k y hy' hlive))).agree ag (hr.sc k y hy')
  · rcases look k y hy with ⟨rfl, rfl⟩ | ⟨hk, hyy⟩ <;> rcases look k' y' hy' with ⟨rfl, rfl⟩ | ⟨hk', hyy'⟩
    · exact absurd rfl hkk
    · rw [Map.upd_same, old k' hk']
      have := oldLt k' y' hyy' hyl
      omega
    · rw [Map.upd_same, old k hk]
      have := oldLt k y hyy (Obj.live_of_own hyo)
      omega
    · rw [old k hk, old k' hk']
      exact hr.apart k k' y y' hkk hyy hyy' hyo hyl
  · simp only [List.length_append, List.length_cons, List.length_nil]
    rcases look k y hy with ⟨rfl, rfl⟩ | ⟨hk, hy'⟩
    · exact hsc
    · exact Obj.sc_mono (by omega) (hr.sc k y hy')
  · obtain ⟨k, y, hy, hyo, hb2'⟩ := hc
    rcases look k y hy with ⟨rfl, rfl⟩ | ⟨hk, hy'⟩
    · rw [Map.upd_same] at hb2'; omega
    · rw [old k hk] at hb2'
      exact hb2 ⟨k, y, hy', hyo, hb2'⟩
  · rcases look k y hy with ⟨rfl, rfl⟩ | ⟨hk', hy'⟩
    · omega
    · exact hc y hy'
  · rcases look k y hy with ⟨rfl, rfl⟩ | ⟨hk', hy'⟩
    · rw [how] at hyo; cases hyo
    · exact hy'

def sortedG : List V → Heap → Option (Out × Option Heap)
  | [.fn 69 [] [.ptr b 0]], h => match h.o[b]? with
    | some (.cells .ex _ 0 [.map l]) => match h.o[l]? with
      | some (.map es) => match keysOf es with
        | some ks => if apart es = true ∧ es.length ≤ 1000000 then
            (if ks = [] then some (.val .nils, none) else some (.val (.slice h.o.length 0 ks.length 1), some ⟨h.o ++ [.cells .gr 3 0 ((isort ks).map (V.int .i64))], h.e, h.d⟩))
          else none
        | none => none
      | _ => none
    | _ => none
  | _, _ => none

theorem sorts (m : Nat) : AnyZI.SortsIn Try.prog Try.sortedA_ren Fence.wide m :=
  ⟨fun blk off cap ss W hH hblk hsz => callsIn_wide.2 (AnyM.slices_Sort_int Try.sortA blk off cap ss W hH hblk hsz),
   fun p cap W => callsIn_wide.2 (AnyM.slices_Sort_int_none Try.sortA p cap W)⟩

set_option maxHeartbeats 2000000 in
theorem sorted_go {o : List AM.Obj} {e d b l t : Nat} {es : List (V × V)} {ks : List Int} (hb : o[b]? = some (.cells .ex t 0 [.map l])) (hl : o[l]? = some (.map es)) (hk : keysOf es = some ks) (hap : apart es = true) (hlen : es.length ≤ 1000000) {ι : Map} {w : World} (hr : HR ι o w) :
    Calls Try.prog 50 (V.reals ι [.fn 69 [] [.ptr b 0]]).toArray w fun e1 w' => ∃ (v : Value) (ss : List Int), e1 = .returned v ∧ ss.Perm ks ∧
      w'.ownsRow w.heap.size 3 1 v ss.length ((isort ks).map encZ) ∧ (v = .slice none 0 0 ↔ ss = []) ∧ Below w.heap.size w w' := by
  obtain ⟨hm, hrange⟩ := keysOf_map hk
  obtain ⟨arr, t', lo, hi, hbb, hsz, _, hcell, hex, hro⟩ := hr.obj b _ hb
  obtain ⟨hbase, _⟩ := hro (by decide)
  obtain ⟨ents, c, hmb, hents, hborn, hnd⟩ := hr.obj l _ hl
  have hk3 : Try.prog.underlying 3 = some (.int .i64) := Try.underlying3
  have hents1 : ents.toList.map (·.key) = ks.map (Value.int .i64) := by
    have h1 := congrArg (List.map Prod.fst) hents
    have h2 := congrArg (List.map (V.real ι)) hm
    simp only [List.map_map] at h1 h2
    have e1 : (Prod.fst ∘ fun e : MapEntry => (e.key, e.val)) = (·.key) := rfl
    have e2 : (Prod.fst ∘ fun e : V × V => (e.1.real ι, e.2.real ι)) = (V.real ι ∘ fun x => x.1) := rfl
    have e3 : (V.real ι ∘ V.int .i64) = Value.int .i64 := rfl
    rw [e1, e2, h2, e3] at h1
    exact h1
  have hks : ks.Nodup := by
    rw [List.nodup_iff_pairwise_ne, List.pairwise_iff_getElem]
    intro i j hi hj hij heq
    have hle : ks.length = es.length := by have := congrArg List.length hm; simpa using this.symm
    have g1 : (es.map (·.1))[i]? = some (V.int .i64 ks[i]) := by rw [hm, List.getElem?_map, List.getElem?_eq_getElem hi]; rfl
    have g2 : (es.map (·.1))[j]? = some (V.int .i64 ks[j]) := by rw [hm, List.getElem?_map, List.getElem?_eq_getElem hj]; rfl
    rw [List.getElem?_map, Option.map_eq_some_iff] at g1 g2
    obtain ⟨a, ha, ha1⟩ := g1
    obtain ⟨c, hc, hc1⟩ := g2
    have := apart_key hap ha hc ⟨.i64, ks[i], ha1, by rw [hc1, heq]⟩
    omega
  have hwf : ∀ k ∈ ks, (Lit.int .i64 k).wf = true := fun k hk => by
    have := hrange k hk
    have e1 : IntKind.i64.min = -9223372036854775808 := by decide
    have e2 : IntKind.i64.max = 9223372036854775807 := by decide
    simp only [Lit.wf, e1, e2, Bool.and_eq_true, decide_eq_true_eq]
    exact this
  have hkey : ∀ x ∈ ents.toList, ∃ k ∈ ks, x.key = .int .i64 k := fun x hx => by
    have : x.key ∈ ents.toList.map (·.key) := List.mem_map_of_mem hx
    rw [hents1] at this
    obtain ⟨k, hk, he⟩ := List.mem_map.1 this
    exact ⟨k, hk, he.symm⟩
  let R : Value → Option (DataW Unit × List MemPlace) := fun _ => some (.nil, [])
  have hrd : ∀ x ∈ ents.toList, ∀ k, x.key = .int .i64 k → k ∈ ks → Go.WideElems.rd Try.prog 3 R x = some (.int .i64 k, .nil) := fun x hx k he hkm => by
    unfold Go.WideElems.rd
    rw [he, keyOf_int_mk hk3 (hwf k hkm)]
    rfl
  have hfit : Go.WideElems.Fit Try.prog 3 R ents c := by
    refine ⟨?_, ⟨hborn, hnd, ?_⟩, fun x hx => ?_⟩
    · have : ents.size = es.length := by have := congrArg List.length hents; simpa using this
      rw [this]
      exact Nat.le_trans hlen (by decide)
    · rw [hents1]
      exact List.pairwise_map.2 (hks.imp fun hne e => hne (by simpa using e))
    · obtain ⟨k, hkm, he⟩ := hkey x hx
      exact ⟨_, hrd x hx k he hkm⟩
  let D0 : DataW Unit := .map ((ents.toList.map (Go.WideElems.rg Try.prog 3 R)).foldr DataW.insert [])
  have hown : w.ownsMap Try.prog 3 R (ι l).blk ents.size D0 := ⟨ents, c, hmb, hfit, Nat.le_refl _, rfl⟩
  have hperm : (intKeys D0).Perm ks := by
    show (List.map (fun p : Lit × DataW Unit => Go.intOf p.1) _).Perm ks
    refine ((sorted_perm _).map _).trans ?_
    rw [List.map_map]
    have : ents.toList.map ((fun p : Lit × DataW Unit => Go.intOf p.1) ∘ Go.WideElems.rg Try.prog 3 R) = ks := by
      have h1 : ents.toList.map (fun x => (Value.int .i64 (Go.intOf (Go.WideElems.rg Try.prog 3 R x).1))) = ents.toList.map (·.key) := List.map_congr_left fun x hx => by
        obtain ⟨k, hkm, he⟩ := hkey x hx
        rw [Go.WideElems.rg_of (hrd x hx k he hkm), he]; rfl
      rw [hents1] at h1
      have h2 : (ents.toList.map ((fun p : Lit × DataW Unit => Go.intOf p.1) ∘ Go.WideElems.rg Try.prog 3 R)).map (Value.int .i64) = ks.map (Value.int .i64) := by
        rw [List.map_map]; exact h1
      exact (List.map_inj_right (fun x y h => by simpa using h)).1 h2
    rw [this]
  have hsize : Maps.size D0 = ents.size := by
    show (List.foldr DataW.insert [] _).length = _
    rw [(sorted_perm _).length_eq, List.length_map, Array.length_toList]
  have hes : ents.size ≤ 1000000 := by
    have : ents.size = es.length := by have := congrArg List.length hents; simpa using this
    omega
  have hbl : (ι b).blk < w.heap.size := (Array.getElem?_eq_some_iff.1 hbb).1
  have hcellb : w.cell? ⟨(ι b).blk, 0, none⟩ = some (.map (some (ι l).blk)) := by
    have := hcell 0 (.map l) rfl
    rw [hbase] at this
    simp only [World.cell?, hbb]
    simpa [V.real] using this
  have hseq : SeqGives Fence.wide 2 Try.prog 69 #[.pointer (some ⟨(ι b).blk, 0, none⟩)] encZ (fun ss => ss.Perm (intKeys D0)) (Maps.size D0) w :=
    AnyZI.keys_gives (ρ := Try.keysA_ren) Try.keysA Fence.wide _ trivial rfl (by omega) (ι b).blk (ι l).blk ents.size D0 w hbl hcellb hown
  have cS := AnyZI.sorted_in Try.sortedA Fence.wide 5 trivial trivial trivial trivial rfl (by omega) (sorts _) (enters_of Try.func68 (by kernel_rfl) rfl) 69 #[.pointer (some ⟨(ι b).blk, 0, none⟩)] trivial (enters_of Try.func69 (by kernel_rfl) rfl) _ _ (by rw [hsize]; exact Nat.le_trans hes (by decide)) (by rw [hsize]; omega) w hseq
  have hargs : (V.reals ι [.fn 69 [] [.ptr b 0]]).toArray = #[.func (.func 69) #[] #[.pointer (some ⟨(ι b).blk, 0, none⟩)]] := by
    simp [V.reals, V.real, hbase]
  rw [hargs]
  refine (callsIn_wide.1 cS).mono ?_
  rintro e1 w' ⟨v, ss, he, hS, hrow, hnil, hbel⟩
  exact ⟨v, ss, he, hS.trans hperm, by rw [← merge_isort (hS.trans hperm)]; exact hrow, hnil, hbel⟩

theorem sortedOk (args : List V) (h : Heap) (out : Out) (oh : Option Heap) (he : sortedG args h = some (out, oh)) : callOk Try.prog 50 = true ∧ ∀ ι w, HR ι h.o w → V.scs h.o.length args →
    Calls Try.prog 50 (V.reals ι args).toArray w fun e w' => ∃ κ, Nx ι h w κ (oh.getD h) w' ∧ OutOk κ (oh.getD h).o.length e out := by
  refine ⟨by kernel_rfl, fun ι w hr hsc => ?_⟩
  obtain ⟨o, e, d⟩ := h
  unfold sortedG at he
  split at he
  · simp only at he
    split at he
    · rename_i b t l hb
      split at he
      · rename_i es hl
        split at he
        · rename_i ks hk
          split at he
          · rename_i hc
            refine (sorted_go (e := e) (d := d) hb hl hk hc.1 hc.2 hr).mono ?_
            rintro e1 w' ⟨v, ss, rfl, hperm, hrow, hnil, hbel⟩
            split at he
            · rename_i h0
              subst h0
              obtain rfl := List.Perm.eq_nil hperm
              cases he
              refine ⟨ι, keep_nx hr ⟨hbel.os, hbel.output, hbel.size, hbel.block⟩ hbel.tape, ?_, trivial⟩
              rw [hnil.2 rfl]; rfl
            · rename_i h0
              cases he
              have hss : ss ≠ [] := fun h => h0 (by subst h; exact List.Perm.nil_eq hperm |>.symm)
              obtain ⟨hl0, ⟨_, h1⟩ | ⟨g, cap, cur, rfl, hg, hgb, hcap, hcm, hcs, htk⟩⟩ := hrow
              · exact absurd (List.eq_nil_of_length_eq_zero h1) hss
              have hlk : ss.length = ks.length := hperm.length_eq
              have hil : (isort ks).length = ks.length := (isort_perm ks).length_eq
              refine ⟨ι.upd o.length ⟨g, 0, cap⟩, nx_at hr hbel _ ⟨g, 0, cap⟩ hg ?_ ?_ rfl, ?_, ?_⟩
              · refine ⟨cur, 3, 0, 0, hgb, by simpa using Nat.le_of_eq hcs.symm, by simp only [List.length_map, hil]; omega, fun i c hi => ?_, fun h => (by cases h), fun _ => ⟨rfl, rfl, Nat.zero_le _, fun i _ _ h => (by omega)⟩⟩
                have hi2 : i < ss.length := by have := (List.getElem?_eq_some_iff.1 hi).1; simp only [List.length_map, hil] at this; omega
                have h2 := congrArg (fun l => l[i]?) htk
                simp only [Nat.mul_one, List.getElem?_take, if_pos hi2, List.getElem?_map] at h2
                rw [List.getElem?_map, Option.map_eq_some_iff] at hi
                obtain ⟨x, hx, rfl⟩ := hi
                rw [hx] at h2
                show cur[0 + i]? = some (encZ x)
                rw [Nat.zero_add]
                simpa using h2
              · refine (V.scs_iff _ _).2 fun v hv => ?_
                obtain ⟨x, _, rfl⟩ := List.mem_map.1 hv
                trivial
              · simp [V.real, Map.upd_same, hlk]
              · show o.length < (o ++ _).length
                simp
          · cases he
        · cases he
      · cases he
    · cases he
  · cases he
end Go.Proofs.Ytfbkeieoeagkdaa

/- Disk: the functions by hand in one table; the document's example. -/
namespace Go.Proofs.Ytfbkeieoeagkdaa
open Go AM
set_option linter.unusedSimpArgs false
set_option linter.unusedVariables false
set_option maxRecDepth 100000

def t1 : HandT
  | 50 => some sortedG
  | 16 => some flushG
  | _ => none
theorem ok1 : HandOk Try.prog t1 := by
  intro f k args h out oh hk he
  unfold t1 at hk
  split at hk
  · cases hk; exact sortedOk args h out oh he
  · cases hk; exact flushOk args h out oh he
  · cases hk
def g1 : Nat → Option Ans := fun _ => none
def E1 : ExtF := extH g1 t1
theorem hxE1 : ExtMono E1 := extH_mono g1 t1
theorem plE1 : ExtSound Try.prog (plainExt g1) := plain0_sound
theorem sndE1 : ExtSound Try.prog E1 := extH_sound plE1 ok1
theorem E1_none {f : Nat} (h : g1 f = none) (h' : t1 f = none := by rfl) (c : CallF) : E1 c f = none := extH_none h h' c
def tAwake : Ans
  | [] => some (.bool true)
  | _ => none
theorem okAwake03 : SpOk FF E1 11 tAwake := by
  intro args v h hpl
  unfold tAwake at h
  split at h
  · cases h
    exact ⟨rfl, none, Den_of hxE1 (k := 100) (by kernel_rfl)⟩
  · cases h
def g2 : Nat → Option Ans := addG g1 [(11, tAwake)]
def E2 : ExtF := extH g2 t1
theorem hxE2 : ExtMono E2 := extH_mono g2 t1
theorem plE2 : ExtSound Try.prog (plainExt g2) := addH_sound mixed ffok sndE1 plE1 (by
  intro p hp
  simp only [List.mem_cons, List.not_mem_nil, or_false] at hp
  rcases hp with rfl
  · exact okAwake03)
theorem sndE2 : ExtSound Try.prog E2 := extH_sound plE2 ok1
theorem E2_none {f : Nat} (h : g2 f = none) (h' : t1 f = none := by rfl) (c : CallF) : E2 c f = none := extH_none h h' c
theorem eAwake03_2 (_ : Unit) (h : Heap) : Den FF E2 11 [] h = some (.val (.bool true), none) := denH_plain (sp := tAwake) h rfl (by rfl) (by first | (simp [V.plains, V.plain, bytesA_plains]; done) | rfl)
end Go.Proofs.Ytfbkeieoeagkdaa

/- Disk: a disk that isn't there. -/
namespace Go.Proofs.Ytfbkeieoeagkdaa
open Go AM
set_option linter.unusedSimpArgs false
set_option linter.unusedVariables false
set_option maxRecDepth 100000

def tnDown : Ans
  | [.nilp] => some (.bool true)
  | _ => none
def tnZero : Ans
  | [.nilp] => some (.int .i64 0)
  | _ => none
def tnLasts : Ans
  | [.nilp, .int .i64 _] => some (.agg z64)
  | _ => none
def tnFuse : Ans
  | [.nilp, .int .i64 _] => some (.tuple [])
  | _ => none
def tnHas : Ans
  | [.nilp, .int .i64 _] => some (.int .i64 5)
  | _ => none
def tnRead : Ans
  | [.nilp, .int .i64 _] => some (.tuple [.agg z64, .int .i64 5])
  | _ => none
def tnWrite : Ans
  | [.nilp, .int .i64 _, .agg _] => some (.int .i64 5)
  | _ => none
theorem okNDown : SpOk FF E2 19 tnDown := by
  intro args v h hpl
  unfold tnDown at h
  split at h
  · cases h
    exact ⟨rfl, none, Den_of hxE2 (k := 100) (by kernel_rfl)⟩
  · cases h
theorem okNPages : SpOk FF E2 27 tnZero := by
  intro args v h hpl
  unfold tnZero at h
  split at h
  · cases h
    exact ⟨rfl, none, Den_of hxE2 (k := 100) (by kernel_rfl)⟩
  · cases h
theorem okNCached : SpOk FF E2 15 tnZero := by
  intro args v h hpl
  unfold tnZero at h
  split at h
  · cases h
    exact ⟨rfl, none, Den_of hxE2 (k := 100) (by kernel_rfl)⟩
  · cases h
theorem okNLasts : SpOk FF E2 14 tnLasts := by
  intro args v h hpl
  unfold tnLasts at h
  split at h
  · rename_i n
    cases h
    exact ⟨rfl, none, Den_of hxE2 (k := 100) (by kernel_rfl)⟩
  · cases h
theorem okNFuse : SpOk FF E2 18 tnFuse := by
  intro args v h hpl
  unfold tnFuse at h
  split at h
  · rename_i n
    cases h
    exact ⟨rfl, none, Den_of hxE2 (k := 100) (by kernel_rfl)⟩
  · cases h
theorem okNHas : SpOk FF E2 48 tnHas := by
  intro args v h hpl
  unfold tnHas at h
  split at h
  · rename_i n
    cases h
    exact ⟨rfl, none, Den_of hxE2 (k := 100) (by kernel_rfl)⟩
  · cases h
theorem okNRead : SpOk FF E2 17 tnRead := by
  intro args v h hpl
  unfold tnRead at h
  split at h
  · rename_i n
    cases h
    exact ⟨rfl, none, Den_of hxE2 (k := 100) (by kernel_rfl)⟩
  · cases h
theorem okNWrite : SpOk FF E2 13 tnWrite := by
  intro args v h hpl
  unfold tnWrite at h
  split at h
  · rename_i n p
    cases h
    exact ⟨rfl, none, Den_of hxE2 (k := 100) (by kernel_rfl)⟩
  · cases h
def g3 : Nat → Option Ans := addG g2 [(19, tnDown), (27, tnZero), (15, tnZero), (14, tnLasts), (18, tnFuse), (17, tnRead), (13, tnWrite)]
def E3 : ExtF := extH g3 t1
theorem hxE3 : ExtMono E3 := extH_mono g3 t1
theorem plE3 : ExtSound Try.prog (plainExt g3) := addH_sound mixed ffok sndE2 plE2 (by
  intro p hp
  simp only [List.mem_cons, List.not_mem_nil, or_false] at hp
  rcases hp with rfl | rfl | rfl | rfl | rfl | rfl | rfl
  · exact okNDown
  · exact okNPages
  · exact okNCached
  · exact okNLasts
  · exact okNFuse
  · exact okNRead
  · exact okNWrite)
theorem sndE3 : ExtSound Try.prog E3 := extH_sound plE3 ok1
theorem E3_none {f : Nat} (h : g3 f = none) (h' : t1 f = none := by rfl) (c : CallF) : E3 c f = none := extH_none h h' c
theorem eAwake03_3 (_ : Unit) (h : Heap) : Den FF E3 11 [] h = some (.val (.bool true), none) := denH_plain (sp := tAwake) h rfl (by rfl) (by first | (simp [V.plains, V.plain, bytesA_plains]; done) | rfl)
theorem enDown_3 (_ : Unit) (h : Heap) : Den FF E3 19 [.nilp] h = some (.val (.bool true), none) := denH_plain (sp := tnDown) h rfl (by rfl) (by first | (simp [V.plains, V.plain, bytesA_plains]; done) | rfl)
theorem enPages_3 (_ : Unit) (h : Heap) : Den FF E3 27 [.nilp] h = some (.val (.int .i64 0), none) := denH_plain (sp := tnZero) h rfl (by rfl) (by first | (simp [V.plains, V.plain, bytesA_plains]; done) | rfl)
theorem enCached_3 (_ : Unit) (h : Heap) : Den FF E3 15 [.nilp] h = some (.val (.int .i64 0), none) := denH_plain (sp := tnZero) h rfl (by rfl) (by first | (simp [V.plains, V.plain, bytesA_plains]; done) | rfl)
theorem enLasts_3 (n : Int) (h : Heap) : Den FF E3 14 [.nilp, .int .i64 n] h = some (.val (.agg z64), none) := denH_plain (sp := tnLasts) h rfl (by rfl) (by first | (simp [V.plains, V.plain, bytesA_plains]; done) | rfl)
theorem enFuse_3 (n : Int) (h : Heap) : Den FF E3 18 [.nilp, .int .i64 n] h = some (.val (.tuple []), none) := denH_plain (sp := tnFuse) h rfl (by rfl) (by first | (simp [V.plains, V.plain, bytesA_plains]; done) | rfl)
theorem enRead_3 (n : Int) (h : Heap) : Den FF E3 17 [.nilp, .int .i64 n] h = some (.val (.tuple [.agg z64, .int .i64 5]), none) := denH_plain (sp := tnRead) h rfl (by rfl) (by first | (simp [V.plains, V.plain, bytesA_plains]; done) | rfl)
theorem enWrite_3 (n : Int) (p : List UInt8) (h : Heap) : Den FF E3 13 [.nilp, .int .i64 n, .agg (bytesA p)] h = some (.val (.int .i64 5), none) := denH_plain (sp := tnWrite) h rfl (by rfl) (by first | (simp [V.plains, V.plain, bytesA_plains]; done) | rfl)
end Go.Proofs.Ytfbkeieoeagkdaa

/- Disk: the law of a disk that isn't there. -/
namespace Go.Proofs.Ytfbkeieoeagkdaa
open Go AM
set_option linter.unusedSimpArgs false
set_option linter.unusedVariables false
set_option maxRecDepth 100000

theorem z64_len : z64.length = 64 := rfl
theorem z64_drop : List.drop 64 z64 = [] := rfl
theorem z64_take : List.take 64 z64 = z64 := rfl
theorem z64_one : z64.all V.one = true := rfl
theorem z64_plains : V.plains z64 = true := rfl
theorem z64_eqk : eqKs (kdsOf [(64, .i)]) z64 z64 = some true := rfl
theorem crash_nil (v : V) (h : Heap) : Den FF E3 20 [.nilp, v] h = some (.val (.tuple []), none) := by
  refine To.den hxE3 (f := 20) (a := af20) rfl (E3_none rfl) (Nat.le_of_ble_eq_true rfl) ?_
  (repeat' (first | refine To.seq hxE3 ?_ | refine To.op0 hxE3 (by simp only [go_sem, eqs hxE3, reduceIte, Nat.reduceEqDiff, Nat.reduceAdd, Nat.reduceMul, Nat.reduceLT, Nat.reduceLeDiff, Int.reduceLT, Int.reduceLE, Int.reduceEq, reduceCtorEq, Int.reduceBEq, Int.reduceBNe, Int.reduceToNat, Nat.reduceSub, Nat.reduceDiv, Int.reduceNeg, Int.reduceAdd, Int.reduceSub, Int.reduceMul]; rfl) ?_ | refine To.op1 hxE3 (by simp only [go_sem, eqs hxE3, reduceIte, Nat.reduceEqDiff, Nat.reduceAdd, Nat.reduceMul, Nat.reduceLT, Nat.reduceLeDiff, Int.reduceLT, Int.reduceLE, Int.reduceEq, reduceCtorEq, Int.reduceBEq, Int.reduceBNe, Int.reduceToNat, Nat.reduceSub, Nat.reduceDiv, Int.reduceNeg, Int.reduceAdd, Int.reduceSub, Int.reduceMul]; rfl) ?_ | refine To.nop hxE3 ?_ | (refine To.condT hxE3 ?_ ?_; focus (simp only [go_sem, eqs hxE3, reduceIte, Nat.reduceEqDiff, Nat.reduceAdd, Nat.reduceMul, Nat.reduceLT, Nat.reduceLeDiff, Int.reduceLT, Int.reduceLE, Int.reduceEq, reduceCtorEq, Int.reduceBEq, Int.reduceBNe, Int.reduceToNat, Nat.reduceSub, Nat.reduceDiv, Int.reduceNeg, Int.reduceAdd, Int.reduceSub, Int.reduceMul]; done)) | (refine To.condF hxE3 ?_ ?_; focus (simp only [go_sem, eqs hxE3, reduceIte, Nat.reduceEqDiff, Nat.reduceAdd, Nat.reduceMul, Nat.reduceLT, Nat.reduceLeDiff, Int.reduceLT, Int.reduceLE, Int.reduceEq, reduceCtorEq, Int.reduceBEq, Int.reduceBNe, Int.reduceToNat, Nat.reduceSub, Nat.reduceDiv, Int.reduceNeg, Int.reduceAdd, Int.reduceSub, Int.reduceMul]; done)) | refine To.block hxE3 ?_ | refine To.scope hxE3 ?_ | refine To.ret hxE3 ?_ | refine To.exit hxE3 ?_ | refine To.skip hxE3 ?_ | refine To.label hxE3 ?_))
  simp only [andThen, outOf]
  rw [fin0 rfl, leave_plain (Kp.enter h) rfl]
theorem flush_nilE (h : Heap) : Den FF E3 16 [.nilp] h = some (.val (.int .i64 5), none) := den_hand rfl rfl rfl

set_option maxHeartbeats 4000000 in
theorem lawNone (o : List AM.Obj) (n : Int) (p : List UInt8) (hp : p.length = 64) : ∃ r oh, Den FF E3 6 [.int .i64 n, .agg (bytesA p)] ⟨o, 0, 0⟩ = some (r, oh) ∧ r = .val (.bool true) := by
  refine To.denE hxE3 (f := 6) (a := af6) rfl (E3_none rfl) (Nat.le_of_ble_eq_true rfl) ?_
  have htk : List.take 64 (bytesA p) = bytesA p := List.take_of_length_le (by rw [bytesA_length]; omega)
  (repeat' (first | refine To.seq hxE3 ?_ | refine To.op0 hxE3 (by simp only [go_sem, eqs hxE3, reduceIte, Nat.reduceEqDiff, Nat.reduceAdd, Nat.reduceMul, Nat.reduceLT, Nat.reduceLeDiff, Int.reduceLT, Int.reduceLE, Int.reduceEq, reduceCtorEq, Int.reduceBEq, Int.reduceBNe, Int.reduceToNat, Nat.reduceSub, Nat.reduceDiv, Int.reduceNeg, Int.reduceAdd, Int.reduceSub, Int.reduceMul, Heap.gets, Heap.sets, Heap.get, bytesA_length, bytesA_one, bytesA_plains, List.take_of_length_le, List.drop_of_length_le, Nat.add_zero, V.one, Nat.reduceLeDiff, List.all_cons, List.all_nil, ne_eq, not_false_eq_true, Nat.zero_le, eAwake03_3 (), enDown_3 (), enPages_3 (), enCached_3 (), enLasts_3, enFuse_3, enRead_3, enWrite_3, crash_nil, flush_nilE, z64_len, z64_drop, z64_take, z64_one, z64_plains, z64_eqk, hp, htk]; rfl) ?_ | refine To.op1 hxE3 (by simp only [go_sem, eqs hxE3, reduceIte, Nat.reduceEqDiff, Nat.reduceAdd, Nat.reduceMul, Nat.reduceLT, Nat.reduceLeDiff, Int.reduceLT, Int.reduceLE, Int.reduceEq, reduceCtorEq, Int.reduceBEq, Int.reduceBNe, Int.reduceToNat, Nat.reduceSub, Nat.reduceDiv, Int.reduceNeg, Int.reduceAdd, Int.reduceSub, Int.reduceMul, Heap.gets, Heap.sets, Heap.get, bytesA_length, bytesA_one, bytesA_plains, List.take_of_length_le, List.drop_of_length_le, Nat.add_zero, V.one, Nat.reduceLeDiff, List.all_cons, List.all_nil, ne_eq, not_false_eq_true, Nat.zero_le, eAwake03_3 (), enDown_3 (), enPages_3 (), enCached_3 (), enLasts_3, enFuse_3, enRead_3, enWrite_3, crash_nil, flush_nilE, z64_len, z64_drop, z64_take, z64_one, z64_plains, z64_eqk, hp, htk]; rfl) ?_ | refine To.nop hxE3 ?_ | (refine To.condT hxE3 ?_ ?_; focus (simp only [go_sem, eqs hxE3, reduceIte, Nat.reduceEqDiff, Nat.reduceAdd, Nat.reduceMul, Nat.reduceLT, Nat.reduceLeDiff, Int.reduceLT, Int.reduceLE, Int.reduceEq, reduceCtorEq, Int.reduceBEq, Int.reduceBNe, Int.reduceToNat, Nat.reduceSub, Nat.reduceDiv, Int.reduceNeg, Int.reduceAdd, Int.reduceSub, Int.reduceMul, Heap.gets, Heap.sets, Heap.get, bytesA_length, bytesA_one, bytesA_plains, List.take_of_length_le, List.drop_of_length_le, Nat.add_zero, V.one, Nat.reduceLeDiff, List.all_cons, List.all_nil, ne_eq, not_false_eq_true, Nat.zero_le, eAwake03_3 (), enDown_3 (), enPages_3 (), enCached_3 (), enLasts_3, enFuse_3, enRead_3, enWrite_3, crash_nil, flush_nilE, z64_len, z64_drop, z64_take, z64_one, z64_plains, z64_eqk, hp, htk]; done)) | (refine To.condF hxE3 ?_ ?_; focus (simp only [go_sem, eqs hxE3, reduceIte, Nat.reduceEqDiff, Nat.reduceAdd, Nat.reduceMul, Nat.reduceLT, Nat.reduceLeDiff, Int.reduceLT, Int.reduceLE, Int.reduceEq, reduceCtorEq, Int.reduceBEq, Int.reduceBNe, Int.reduceToNat, Nat.reduceSub, Nat.reduceDiv, Int.reduceNeg, Int.reduceAdd, Int.reduceSub, Int.reduceMul, Heap.gets, Heap.sets, Heap.get, bytesA_length, bytesA_one, bytesA_plains, List.take_of_length_le, List.drop_of_length_le, Nat.add_zero, V.one, Nat.reduceLeDiff, List.all_cons, List.all_nil, ne_eq, not_false_eq_true, Nat.zero_le, eAwake03_3 (), enDown_3 (), enPages_3 (), enCached_3 (), enLasts_3, enFuse_3, enRead_3, enWrite_3, crash_nil, flush_nilE, z64_len, z64_drop, z64_take, z64_one, z64_plains, z64_eqk, hp, htk]; done)) | refine To.block hxE3 ?_ | refine To.scope hxE3 ?_ | refine To.ret hxE3 ?_ | refine To.exit hxE3 ?_ | refine To.skip hxE3 ?_ | refine To.label hxE3 ?_))
  refine ⟨_, _, fin1 (i := 4) rfl, ?_⟩
  simp only [go_sem, eqs hxE3, reduceIte, Nat.reduceEqDiff, Nat.reduceAdd, Nat.reduceMul, Nat.reduceLT, Nat.reduceLeDiff, Int.reduceLT, Int.reduceLE, Int.reduceEq, reduceCtorEq, Int.reduceBEq, Int.reduceBNe, Int.reduceToNat, Nat.reduceSub, Nat.reduceDiv, Int.reduceNeg, Int.reduceAdd, Int.reduceSub, Int.reduceMul]
end Go.Proofs.Ytfbkeieoeagkdaa

