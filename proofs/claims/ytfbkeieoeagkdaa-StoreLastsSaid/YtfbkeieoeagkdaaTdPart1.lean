/- Own texts, joined: TdFs, TdF, TdG, TdH, TdS, TdI, TdSs, TdSc, TdSa, TdSb, TdJ, TdSn, TdJb, TdP. -/
import Derived.Test.YtfbkeieoeagkdaaProg
import Derived.Test.YtfbkeieoeagkdaaChecked
import Derived.Shelf.SlIterI.Nil
import Derived.Shelf.SortM.Plain
import Derived.Shelf.SortM.SortNone
import Derived.Test.YtfbkeieoeagkdaaAmPart3
/- The abstract code of the functions of this seat: what the engine makes of the program's own code. Printed by a program (genfs.py); Lean checks each one. -/
namespace Go.Proofs.Ytfbkeieoeagkdaa
open Go AM
def z512 : List V := reps z64 8
def z65 : List V := .int .i64 0 :: z64
def z3840 : List V := reps z64 60
def z1280 : List V := reps z64 20
def op5z : List V := .int .i64 0 :: .int .i64 0 :: .nils :: .nils :: z64
def op5zz : List V := op5z ++ op5z
def opz : List V := .int .i64 0 :: .int .i64 0 :: (z64 ++ [.nils])

def af10 : AF := ⟨118, [.t 6], .seq (.region [⟨some 6, .mv (.k (.bool false)), none⟩] false) (.seq (.seq (.region [⟨some 21, .call 34 [], none⟩, ⟨some 22, .un .not (.t 21), none⟩] false) (.cond (.t 22) (.seq (.region [⟨some 6, .mv (.k (.bool false)), none⟩] false) .ret) .skip)) (.seq (.seq (.region [⟨some 23, .mv (.t 0), none⟩, ⟨some 24, .call 45 [.t 23], none⟩, ⟨some 25, .mv (.t 24), none⟩, ⟨some 26, .mv (.t 2), some (25, false)⟩, ⟨some 27, .lenL (.t 26), some (25, false)⟩, ⟨some 28, .bin .gtr (.t 27) (.k (.int .i64 600)), some (25, false)⟩, ⟨some 29, .pick (.t 25) (.k (.bool true)) (.t 28), none⟩] false) (.cond (.t 29) (.seq (.region [⟨some 6, .mv (.k (.bool true)), none⟩] false) .ret) .skip)) (.seq (.region [⟨some 31, .call 12 [.k (.int .i64 40)], none⟩, ⟨some 30, .mv (.t 31), none⟩, ⟨some 32, .extract (.t 30) 0, none⟩, ⟨some 33, .extract (.t 30) 1, none⟩, ⟨some 7, .mv (.t 32), none⟩, ⟨some 8, .mv (.t 33), none⟩] false) (.seq (.region [⟨some 35, .mv (.t 7), none⟩, ⟨some 36, .call 44 [.t 35, .k (.int .i64 20), .k (.int .i64 16)], none⟩, ⟨some 34, .mv (.t 36), none⟩, ⟨some 37, .extract (.t 34) 0, none⟩, ⟨some 38, .extract (.t 34) 1, none⟩, ⟨some 9, .mv (.t 37), none⟩, ⟨some 10, .mv (.t 38), none⟩] false) (.seq (.seq (.region [⟨some 39, .mv (.t 10), none⟩, ⟨some 40, .bin .neq (.t 39) (.k (.int .i64 0)), none⟩] false) (.cond (.t 40) (.seq (.region [⟨some 6, .mv (.k (.bool false)), none⟩] false) .ret) .skip)) (.seq (.region [⟨some 41, .mv (.t 7), none⟩, ⟨some 42, .mv (.t 1), none⟩, ⟨some 43, .call 18 [.t 41, .t 42], none⟩] false) (.seq (.region [⟨some 44, .build z1280 [], none⟩, ⟨some 45, .bslice 82 1280 z1280 [(0, (1280, .t 44))], none⟩, ⟨some 11, .mv (.t 45), none⟩] false) (.seq (.region [⟨some 12, .mv (.k (.int .i64 0)), none⟩] false) (.seq (.seq (.region [⟨some 46, .mv (.t 0), none⟩, ⟨some 47, .lenL (.t 46), none⟩, ⟨some 48, .mv (.k (.int .i64 0)), none⟩] false) (.block 0 (.loop (.seq (.region [⟨some 49, .bin .lss (.t 48) (.t 47), none⟩] false) (.seq (.cond (.t 49) .skip (.exit 0)) (.seq (.block 1 (.seq (.region [⟨some 50, .iaddrS 67 (.t 46) (.t 48), none⟩, ⟨some 51, .load (some 67) (.t 50), none⟩, ⟨some 14, .alloc 85 opz, none⟩, ⟨none, .store 67 (.t 14) (.t 51), none⟩] false) (.seq (.region [⟨some 52, .faddr 0 (.t 14), none⟩, ⟨some 53, .load none (.t 52), none⟩] false) (.block 2 (.seq (.region [⟨some 55, .bin .eql (.t 53) (.k (.int .i64 0)), none⟩, ⟨some 54, .mv (.t 55), none⟩] false) (.cond (.t 54) (.region [⟨some 56, .mv (.t 9), none⟩, ⟨some 57, .faddr 1 (.t 14), none⟩, ⟨some 58, .load none (.t 57), none⟩, ⟨some 59, .faddr 2 (.t 14), none⟩, ⟨some 60, .load (some 64) (.t 59), none⟩, ⟨some 61, .call 37 [.t 56, .t 58, .t 60], none⟩] false) (.seq (.region [⟨some 63, .bin .eql (.t 53) (.k (.int .i64 2)), none⟩, ⟨some 62, .mv (.t 63), none⟩] false) (.cond (.t 62) (.seq (.region [⟨some 15, .alloc 82 z1280, none⟩] false) (.seq (.seq (.region [⟨some 64, .mv (.k (.int .i64 0)), none⟩] false) (.block 3 (.loop (.seq (.region [⟨some 65, .bin .lss (.t 64) (.k (.int .i64 20)), none⟩] false) (.seq (.cond (.t 65) .skip (.exit 3)) (.seq (.block 4 (.seq (.region [⟨some 66, .mv (.t 64), none⟩, ⟨some 16, .mv (.t 66), none⟩] false) (.region [⟨some 68, .mv (.t 16), none⟩, ⟨some 69, .mv (.t 9), none⟩, ⟨some 70, .mv (.t 16), none⟩, ⟨some 71, .call 36 [.t 69, .t 70], none⟩, ⟨some 67, .mv (.t 71), none⟩, ⟨some 72, .extract (.t 67) 0, none⟩, ⟨some 73, .extract (.t 67) 1, none⟩, ⟨some 74, .iaddrA 20 64 (.t 15) (.t 68), none⟩, ⟨none, .store 64 (.t 74) (.t 72), none⟩] false))) (.region [⟨some 75, .bin .add (.t 64) (.k (.int .i64 1)), none⟩, ⟨some 64, .mv (.t 75), none⟩] false))))))) (.seq (.region [⟨some 76, .mv (.t 9), none⟩, ⟨some 77, .call 38 [.t 76], none⟩, ⟨some 78, .bin .eql (.t 77) (.k (.int .i64 0)), none⟩] false) (.cond (.t 78) (.region [⟨some 79, .mv (.t 11), none⟩, ⟨some 80, .load (some 1280) (.t 15), none⟩, ⟨some 81, .bslice 82 1280 z1280 [(0, (1280, .t 80))], none⟩, ⟨some 82, .app 82 1280 1280 z1280 (.t 79) (.t 81), none⟩, ⟨some 11, .mv (.t 82), none⟩] false) .skip)))) (.seq (.region [⟨some 84, .bin .eql (.t 53) (.k (.int .i64 3)), none⟩, ⟨some 83, .mv (.t 84), none⟩] false) (.cond (.t 83) (.region [⟨some 85, .mv (.t 9), none⟩, ⟨some 86, .call 35 [.t 85], none⟩] false) (.seq (.region [⟨some 88, .bin .eql (.t 53) (.k (.int .i64 4)), none⟩, ⟨some 87, .mv (.t 88), none⟩] false) (.cond (.t 87) (.seq (.region [⟨some 89, .mv (.t 9), none⟩, ⟨some 90, .call 39 [.t 89], none⟩, ⟨some 91, .bin .eql (.t 90) (.k (.int .i64 0)), none⟩] false) (.cond (.t 91) (.region [⟨some 92, .mv (.t 11), none⟩, ⟨some 93, .lenL (.t 92), none⟩, ⟨some 94, .bin .sub (.t 93) (.k (.int .i64 1)), none⟩, ⟨some 12, .mv (.t 94), none⟩] false) .skip)) .skip)))))))))))) (.region [⟨some 95, .bin .add (.t 48) (.k (.int .i64 1)), none⟩, ⟨some 48, .mv (.t 95), none⟩] false))))))) (.seq (.region [⟨some 96, .mv (.t 7), none⟩, ⟨some 97, .mv (.t 2), none⟩, ⟨some 98, .call 20 [.t 96, .t 97], none⟩] false) (.seq (.seq (.region [⟨some 100, .mv (.t 7), none⟩, ⟨some 101, .call 44 [.t 100, .k (.int .i64 20), .k (.int .i64 16)], none⟩, ⟨some 99, .mv (.t 101), none⟩, ⟨some 102, .extract (.t 99) 0, none⟩, ⟨some 103, .extract (.t 99) 1, none⟩, ⟨some 17, .mv (.t 102), none⟩, ⟨some 18, .mv (.t 103), none⟩] false) (.seq (.region [⟨some 104, .mv (.t 18), none⟩, ⟨some 105, .bin .neq (.t 104) (.k (.int .i64 0)), none⟩] false) (.cond (.t 105) (.seq (.region [⟨some 6, .mv (.k (.bool false)), none⟩] false) .ret) .skip))) (.seq (.seq (.region [⟨some 106, .mv (.t 11), none⟩, ⟨some 107, .mv (.t 12), none⟩, ⟨some 108, .slL 1280 (.t 106) (some (.t 107)) none, none⟩, ⟨some 109, .lenL (.t 108), none⟩, ⟨some 110, .mv (.k (.int .i64 0)), none⟩] false) (.block 5 (.loop (.seq (.region [⟨some 111, .bin .lss (.t 110) (.t 109), none⟩] false) (.seq (.cond (.t 111) .skip (.exit 5)) (.seq (.block 6 (.seq (.region [⟨some 112, .iaddrS 1280 (.t 108) (.t 110), none⟩, ⟨some 113, .load (some 1280) (.t 112), none⟩, ⟨some 20, .alloc 82 z1280, none⟩, ⟨none, .store 1280 (.t 20) (.t 113), none⟩] false) (.seq (.region [⟨some 114, .mv (.t 7), none⟩, ⟨some 115, .load (some 1280) (.t 20), none⟩, ⟨some 116, .call 46 [.t 114, .t 115], none⟩] false) (.cond (.t 116) (.seq (.region [⟨some 6, .mv (.k (.bool true)), none⟩] false) .ret) .skip)))) (.region [⟨some 117, .bin .add (.t 110) (.k (.int .i64 1)), none⟩, ⟨some 110, .mv (.t 117), none⟩] false))))))) (.seq (.region [⟨some 6, .mv (.k (.bool false)), none⟩] false) .ret)))))))))))))⟩
theorem tr10 : trProg Try.prog 10 = some af10 := by kernel_rfl
def af11 : AF := ⟨48, [.t 0], .seq (.region [⟨some 0, .mv (.k (.bool false)), none⟩] false) (.seq (.region [⟨some 6, .call 12 [.k (.int .i64 2)], none⟩, ⟨some 5, .mv (.t 6), none⟩, ⟨some 7, .extract (.t 5) 0, none⟩, ⟨some 8, .extract (.t 5) 1, none⟩, ⟨some 1, .mv (.t 7), none⟩, ⟨some 2, .mv (.t 8), none⟩] false) (.seq (.seq (.region [⟨some 9, .mv (.t 2), none⟩, ⟨some 10, .bin .neq (.t 9) (.k (.int .i64 0)), none⟩, ⟨some 11, .mv (.t 10), none⟩, ⟨some 12, .mv (.t 1), some (11, false)⟩, ⟨some 13, .eqf false false [(1, .p)] (.t 12) (.k .nilp), some (11, false)⟩, ⟨some 14, .pick (.t 11) (.k (.bool true)) (.t 13), none⟩, ⟨some 15, .mv (.t 14), none⟩, ⟨some 16, .mv (.t 1), some (15, false)⟩, ⟨some 17, .call 47 [.k (.int .u8 1)], some (15, false)⟩, ⟨some 18, .call 13 [.t 16, .k (.int .i64 0), .t 17], some (15, false)⟩, ⟨some 19, .bin .neq (.t 18) (.k (.int .i64 0)), some (15, false)⟩, ⟨some 20, .pick (.t 15) (.k (.bool true)) (.t 19), none⟩, ⟨some 21, .mv (.t 20), none⟩, ⟨some 22, .mv (.t 1), some (21, false)⟩, ⟨some 23, .call 16 [.t 22], some (21, false)⟩, ⟨some 24, .bin .neq (.t 23) (.k (.int .i64 0)), some (21, false)⟩, ⟨some 25, .pick (.t 21) (.k (.bool true)) (.t 24), none⟩, ⟨some 26, .mv (.t 25), none⟩, ⟨some 27, .mv (.t 1), some (26, false)⟩, ⟨some 28, .call 47 [.k (.int .u8 2)], some (26, false)⟩, ⟨some 29, .call 13 [.t 27, .k (.int .i64 0), .t 28], some (26, false)⟩, ⟨some 30, .bin .neq (.t 29) (.k (.int .i64 0)), some (26, false)⟩, ⟨some 31, .pick (.t 26) (.k (.bool true)) (.t 30), none⟩] false) (.cond (.t 31) (.seq (.region [⟨some 0, .mv (.k (.bool false)), none⟩] false) .ret) .skip)) (.seq (.region [⟨some 32, .mv (.t 1), none⟩, ⟨some 33, .bslice 5 1 [.int .u8 0] [(0, (1, .k (.int .u8 3)))], none⟩, ⟨some 34, .call 20 [.t 32, .t 33], none⟩] false) (.seq (.region [⟨some 36, .mv (.t 1), none⟩, ⟨some 37, .call 17 [.t 36, .k (.int .i64 0)], none⟩, ⟨some 35, .mv (.t 37), none⟩, ⟨some 38, .extract (.t 35) 0, none⟩, ⟨some 39, .extract (.t 35) 1, none⟩, ⟨some 3, .alloc 31 z64, none⟩, ⟨none, .store 64 (.t 3) (.t 38), none⟩, ⟨some 4, .mv (.t 39), none⟩] false) (.seq (.region [⟨some 40, .iaddrA 64 1 (.t 3) (.k (.int .i64 2)), none⟩, ⟨some 41, .load none (.t 40), none⟩, ⟨some 42, .bin .eql (.t 41) (.k (.int .u8 2)), none⟩, ⟨some 43, .mv (.t 42), none⟩, ⟨some 44, .iaddrA 64 1 (.t 3) (.k (.int .i64 3)), some (43, true)⟩, ⟨some 45, .load none (.t 44), some (43, true)⟩, ⟨some 46, .bin .eql (.t 45) (.k (.int .u8 1)), some (43, true)⟩, ⟨some 47, .pick (.t 43) (.t 46) (.k (.bool false)), none⟩, ⟨some 0, .mv (.t 47), none⟩] false) .ret)))))⟩
theorem tr11 : trProg Try.prog 11 = some af11 := by kernel_rfl
def af12 : AF := ⟨15, [.t 2, .t 3], .seq (.region [⟨some 2, .mv (.k .nilp), none⟩, ⟨some 3, .mv (.k (.int .i64 0)), none⟩] false) (.seq (.seq (.region [⟨some 4, .mv (.t 0), none⟩, ⟨some 5, .bin .lss (.t 4) (.k (.int .i64 1)), none⟩, ⟨some 6, .mv (.t 5), none⟩, ⟨some 7, .mv (.t 0), some (6, false)⟩, ⟨some 8, .bin .gtr (.t 7) (.k (.int .i64 512)), some (6, false)⟩, ⟨some 9, .pick (.t 6) (.k (.bool true)) (.t 8), none⟩] false) (.cond (.t 9) (.seq (.region [⟨some 2, .mv (.k .nilp), none⟩, ⟨some 3, .mv (.k (.int .i64 22)), none⟩] false) .ret) .skip)) (.seq (.region [⟨some 10, .mv (.t 0), none⟩, ⟨some 11, .mkSlice 31 64 64 z64 (.t 10) (.t 10), none⟩, ⟨some 12, .mkMap, none⟩, ⟨some 13, .build [.bool false, .bool false, .int .i64 0, .nils, .nilm] [(3, (1, .t 11)), (4, (1, .t 12))], none⟩, ⟨some 14, .box 92 (.t 13), none⟩, ⟨some 2, .mv (.t 14), none⟩, ⟨some 3, .mv (.k (.int .i64 0)), none⟩] false) .ret))⟩
theorem tr12 : trProg Try.prog 12 = some af12 := by kernel_rfl
def af13 : AF := ⟨25, [.t 6], .seq (.region [⟨some 5, .box 31 (.t 2), none⟩, ⟨some 6, .mv (.k (.int .i64 0)), none⟩] false) (.seq (.seq (.region [⟨some 8, .mv (.t 0), none⟩, ⟨some 9, .mv (.t 1), none⟩, ⟨some 10, .call 48 [.t 8, .t 9], none⟩, ⟨some 7, .mv (.t 10), none⟩] false) (.seq (.region [⟨some 11, .mv (.t 7), none⟩, ⟨some 12, .bin .neq (.t 11) (.k (.int .i64 0)), none⟩] false) (.cond (.t 12) (.seq (.region [⟨some 13, .mv (.t 7), none⟩, ⟨some 6, .mv (.t 13), none⟩] false) .ret) .skip))) (.seq (.seq (.region [⟨some 14, .mv (.t 0), none⟩, ⟨some 15, .nck (.t 14), none⟩, ⟨some 16, .faddr 0 (.t 15), none⟩, ⟨some 17, .call 49 [.t 16], none⟩, ⟨some 18, .un .not (.t 17), none⟩] false) (.cond (.t 18) (.seq (.region [⟨some 6, .mv (.k (.int .i64 5)), none⟩] false) .ret) .skip)) (.seq (.draw 0 [⟨0, ⟨some 19, .mv (.t 0), none⟩, [], none, []⟩, ⟨1, ⟨some 20, .nck (.t 19), none⟩, [], none, []⟩, ⟨2, ⟨some 21, .faddr 4 (.t 20), none⟩, [], none, []⟩, ⟨3, ⟨some 22, .load none (.t 21), none⟩, [], none, []⟩, ⟨4, ⟨some 23, .mv (.t 1), none⟩, [], none, []⟩, ⟨5, ⟨some 24, .load (some 64) (.t 5), none⟩, [], none, []⟩, ⟨6, ⟨none, .mapSet .i (.t 22) (.t 23) (.t 24), none⟩, [], none, []⟩]) (.seq (.region [⟨some 6, .mv (.k (.int .i64 0)), none⟩] false) .ret))))⟩
theorem tr13 : trProg Try.prog 13 = some af13 := by kernel_rfl
def af14 : AF := ⟨28, [.c 4 (some 64)], .seq (.region [⟨some 4, .alloc 31 z64, none⟩] false) (.seq (.seq (.region [⟨some 5, .mv (.t 0), none⟩, ⟨some 6, .eqf false false [(1, .p)] (.t 5) (.k .nilp), none⟩, ⟨some 7, .mv (.t 6), none⟩, ⟨some 8, .mv (.t 1), some (7, false)⟩, ⟨some 9, .bin .lss (.t 8) (.k (.int .i64 0)), some (7, false)⟩, ⟨some 10, .pick (.t 7) (.k (.bool true)) (.t 9), none⟩, ⟨some 11, .mv (.t 10), none⟩, ⟨some 12, .mv (.t 1), some (11, false)⟩, ⟨some 13, .mv (.t 0), some (11, false)⟩, ⟨some 14, .nck (.t 13), some (11, false)⟩, ⟨some 15, .faddr 3 (.t 14), some (11, false)⟩, ⟨some 16, .load none (.t 15), some (11, false)⟩, ⟨some 17, .lenL (.t 16), some (11, false)⟩, ⟨some 18, .bin .geq (.t 12) (.t 17), some (11, false)⟩, ⟨some 19, .pick (.t 11) (.k (.bool true)) (.t 18), none⟩] false) (.cond (.t 19) (.seq (.region [⟨some 20, .build z64 [], none⟩, ⟨none, .store 64 (.t 4) (.t 20), none⟩] false) .ret) .skip)) (.seq (.region [⟨some 21, .mv (.t 0), none⟩, ⟨some 22, .nck (.t 21), none⟩, ⟨some 23, .faddr 3 (.t 22), none⟩, ⟨some 24, .load none (.t 23), none⟩, ⟨some 25, .mv (.t 1), none⟩, ⟨some 26, .iaddrS 64 (.t 24) (.t 25), none⟩, ⟨some 27, .load (some 64) (.t 26), none⟩, ⟨none, .store 64 (.t 4) (.t 27), none⟩] false) .ret))⟩
theorem tr14 : trProg Try.prog 14 = some af14 := by kernel_rfl
def af17 : AF := ⟨34, [.c 4 (some 64), .t 5], .seq (.region [⟨some 4, .alloc 31 z64, none⟩, ⟨some 5, .mv (.k (.int .i64 0)), none⟩] false) (.seq (.seq (.region [⟨some 9, .mv (.t 0), none⟩, ⟨some 10, .mv (.t 1), none⟩, ⟨some 11, .call 48 [.t 9, .t 10], none⟩, ⟨some 6, .mv (.t 11), none⟩] false) (.seq (.region [⟨some 12, .mv (.t 6), none⟩, ⟨some 13, .bin .neq (.t 12) (.k (.int .i64 0)), none⟩] false) (.cond (.t 13) (.seq (.region [⟨some 14, .build z64 [], none⟩, ⟨some 15, .mv (.t 6), none⟩, ⟨none, .store 64 (.t 4) (.t 14), none⟩, ⟨some 5, .mv (.t 15), none⟩] false) .ret) .skip))) (.seq (.seq (.region [⟨some 17, .mv (.t 0), none⟩, ⟨some 18, .nck (.t 17), none⟩, ⟨some 19, .faddr 4 (.t 18), none⟩, ⟨some 20, .load none (.t 19), none⟩, ⟨some 21, .mv (.t 1), none⟩, ⟨some 22, .lookup .i (.agg z64) true (.t 20) (.t 21), none⟩, ⟨some 16, .mv (.t 22), none⟩, ⟨some 23, .extract (.t 16) 0, none⟩, ⟨some 24, .extract (.t 16) 1, none⟩, ⟨some 7, .alloc 31 z64, none⟩, ⟨none, .store 64 (.t 7) (.t 23), none⟩, ⟨some 8, .mv (.t 24), none⟩] false) (.seq (.region [⟨some 25, .mv (.t 8), none⟩] false) (.cond (.t 25) (.seq (.region [⟨some 26, .load (some 64) (.t 7), none⟩, ⟨none, .store 64 (.t 4) (.t 26), none⟩, ⟨some 5, .mv (.k (.int .i64 0)), none⟩] false) .ret) .skip))) (.seq (.region [⟨some 27, .mv (.t 0), none⟩, ⟨some 28, .nck (.t 27), none⟩, ⟨some 29, .faddr 3 (.t 28), none⟩, ⟨some 30, .load none (.t 29), none⟩, ⟨some 31, .mv (.t 1), none⟩, ⟨some 32, .iaddrS 64 (.t 30) (.t 31), none⟩, ⟨some 33, .load (some 64) (.t 32), none⟩, ⟨none, .store 64 (.t 4) (.t 33), none⟩, ⟨some 5, .mv (.k (.int .i64 0)), none⟩] false) .ret)))⟩
theorem tr17 : trProg Try.prog 17 = some af17 := by kernel_rfl
def af18 : AF := ⟨18, [], .seq (.region [⟨some 4, .mv (.t 0), none⟩, ⟨some 5, .eqf true false [(1, .p)] (.t 4) (.k .nilp), none⟩] false) (.cond (.t 5) (.region [⟨some 6, .mv (.t 0), none⟩, ⟨some 7, .mv (.t 0), none⟩, ⟨some 8, .mv (.t 1), none⟩, ⟨some 9, .bin .geq (.t 8) (.k (.int .i64 0)), none⟩, ⟨some 10, .mv (.t 1), none⟩, ⟨some 11, .minmax true [.t 10, .k (.int .i64 0)], none⟩, ⟨some 12, .nck (.t 6), none⟩, ⟨some 13, .faddr 0 (.t 12), none⟩, ⟨some 14, .faddr 0 (.t 13), none⟩, ⟨none, .store 1 (.t 14) (.t 9), none⟩, ⟨some 15, .nck (.t 7), none⟩, ⟨some 16, .faddr 0 (.t 15), none⟩, ⟨some 17, .faddr 2 (.t 16), none⟩, ⟨none, .store 1 (.t 17) (.t 11), none⟩] false) .skip)⟩
theorem tr18 : trProg Try.prog 18 = some af18 := by kernel_rfl
def af19 : AF := ⟨12, [.t 2], .seq (.region [⟨some 2, .mv (.k (.bool false)), none⟩] false) (.seq (.region [⟨some 3, .mv (.t 0), none⟩, ⟨some 4, .eqf false false [(1, .p)] (.t 3) (.k .nilp), none⟩, ⟨some 5, .mv (.t 4), none⟩, ⟨some 6, .mv (.t 0), some (5, false)⟩, ⟨some 7, .nck (.t 6), some (5, false)⟩, ⟨some 8, .faddr 0 (.t 7), some (5, false)⟩, ⟨some 9, .faddr 1 (.t 8), some (5, false)⟩, ⟨some 10, .load none (.t 9), some (5, false)⟩, ⟨some 11, .pick (.t 5) (.k (.bool true)) (.t 10), none⟩, ⟨some 2, .mv (.t 11), none⟩] false) .ret)⟩
theorem tr19 : trProg Try.prog 19 = some af19 := by kernel_rfl
def af20 : AF := ⟨55, [], .seq (.seq (.region [⟨some 7, .mv (.t 0), none⟩, ⟨some 8, .eqf false false [(1, .p)] (.t 7) (.k .nilp), none⟩] false) (.cond (.t 8) .ret .skip)) (.seq (.seq (.region [⟨some 9, .mv (.t 0), none⟩, ⟨some 10, .nck (.t 9), none⟩, ⟨some 11, .faddr 4 (.t 10), none⟩, ⟨some 12, .load none (.t 11), none⟩, ⟨some 13, .call 51 [.t 12], none⟩, ⟨some 14, .call 50 [.t 13], none⟩, ⟨some 15, .lenL (.t 14), none⟩, ⟨some 16, .mv (.k (.int .i64 0)), none⟩] false) (.block 0 (.loop (.seq (.region [⟨some 17, .bin .lss (.t 16) (.t 15), none⟩] false) (.seq (.cond (.t 17) .skip (.exit 0)) (.seq (.block 1 (.seq (.region [⟨some 18, .mv (.t 16), none⟩, ⟨some 19, .iaddrS 1 (.t 14) (.t 16), none⟩, ⟨some 20, .load none (.t 19), none⟩, ⟨some 4, .mv (.t 18), none⟩, ⟨some 5, .mv (.t 20), none⟩] false) (.seq (.region [⟨some 21, .mv (.t 4), none⟩, ⟨some 22, .mv (.t 1), none⟩, ⟨some 23, .lenL (.t 22), none⟩, ⟨some 24, .bin .lss (.t 21) (.t 23), none⟩] false) (.cond (.t 24) (.seq (.region [⟨some 25, .mv (.t 0), none⟩, ⟨some 26, .nck (.t 25), none⟩, ⟨some 27, .faddr 4 (.t 26), none⟩, ⟨some 28, .load none (.t 27), none⟩, ⟨some 29, .mv (.t 5), none⟩, ⟨some 30, .lookup .i (.agg z64) false (.t 28) (.t 29), none⟩, ⟨some 6, .alloc 31 z64, none⟩, ⟨none, .store 64 (.t 6) (.t 30), none⟩] false) (.draw 0 [⟨0, ⟨some 31, .mv (.t 0), none⟩, [], none, []⟩, ⟨1, ⟨some 32, .nck (.t 31), none⟩, [], none, []⟩, ⟨2, ⟨some 33, .faddr 3 (.t 32), none⟩, [], none, []⟩, ⟨3, ⟨some 34, .load none (.t 33), none⟩, [], none, []⟩, ⟨4, ⟨some 35, .mv (.t 5), none⟩, [], none, []⟩, ⟨5, ⟨some 36, .iaddrS 64 (.t 34) (.t 35), none⟩, [], none, []⟩, ⟨6, ⟨some 37, .mv (.t 1), none⟩, [], none, []⟩, ⟨7, ⟨some 38, .mv (.t 4), none⟩, [], none, []⟩, ⟨8, ⟨some 39, .iaddrS 1 (.t 37) (.t 38), none⟩, [], none, []⟩, ⟨9, ⟨some 40, .load none (.t 39), none⟩, [], none, []⟩, ⟨10, ⟨some 41, .toInt .i64 (.t 40), none⟩, [], none, []⟩, ⟨11, ⟨some 42, .bin .rem (.t 41) (.k (.int .i64 65)), none⟩, [], none, []⟩, ⟨12, ⟨some 43, .slA 64 1 (.t 36) none (some (.t 42)), none⟩, [], none, []⟩, ⟨13, ⟨some 44, .slA 64 1 (.t 6) none none, none⟩, [], none, []⟩, ⟨14, ⟨some 45, .copyL 1 (.t 43) (.t 44), none⟩, [], none, []⟩])) .skip)))) (.region [⟨some 46, .bin .add (.t 16) (.k (.int .i64 1)), none⟩, ⟨some 16, .mv (.t 46), none⟩] false))))))) (.seq (.region [⟨some 47, .mv (.t 0), none⟩, ⟨some 48, .nck (.t 47), none⟩, ⟨some 49, .faddr 4 (.t 48), none⟩, ⟨some 50, .load none (.t 49), none⟩, ⟨none, .clearM (.t 50), none⟩] false) (.region [⟨some 51, .mv (.t 0), none⟩, ⟨some 52, .build [.bool false, .bool false, .int .i64 0] [], none⟩, ⟨some 53, .nck (.t 51), none⟩, ⟨some 54, .faddr 0 (.t 53), none⟩, ⟨none, .store 3 (.t 54) (.t 52), none⟩] false)))⟩
theorem tr20 : trProg Try.prog 20 = some af20 := by kernel_rfl
def af27 : AF := ⟨10, [.t 2], .seq (.region [⟨some 2, .mv (.k (.int .i64 0)), none⟩] false) (.seq (.seq (.region [⟨some 3, .mv (.t 0), none⟩, ⟨some 4, .eqf false false [(1, .p)] (.t 3) (.k .nilp), none⟩] false) (.cond (.t 4) (.seq (.region [⟨some 2, .mv (.k (.int .i64 0)), none⟩] false) .ret) .skip)) (.seq (.region [⟨some 5, .mv (.t 0), none⟩, ⟨some 6, .nck (.t 5), none⟩, ⟨some 7, .faddr 3 (.t 6), none⟩, ⟨some 8, .load none (.t 7), none⟩, ⟨some 9, .lenL (.t 8), none⟩, ⟨some 2, .mv (.t 9), none⟩] false) .ret))⟩
theorem tr27 : trProg Try.prog 27 = some af27 := by kernel_rfl
def af29 : AF := ⟨61, [.t 0], .seq (.region [⟨some 0, .mv (.k (.bool false)), none⟩] false) (.seq (.region [⟨some 9, .call 12 [.k (.int .i64 9)], none⟩, ⟨some 8, .mv (.t 9), none⟩, ⟨some 10, .extract (.t 8) 0, none⟩, ⟨some 11, .extract (.t 8) 1, none⟩, ⟨some 1, .mv (.t 10), none⟩, ⟨some 2, .mv (.t 11), none⟩] false) (.seq (.region [⟨some 13, .mv (.t 1), none⟩, ⟨some 14, .call 31 [.t 13, .k (.int .i64 1), .k (.int .i64 4)], none⟩, ⟨some 12, .mv (.t 14), none⟩, ⟨some 15, .extract (.t 12) 0, none⟩, ⟨some 16, .extract (.t 12) 1, none⟩, ⟨some 17, .extract (.t 12) 2, none⟩, ⟨some 3, .mv (.t 15), none⟩, ⟨some 4, .mv (.t 16), none⟩, ⟨some 5, .mv (.t 17), none⟩] false) (.seq (.seq (.region [⟨some 18, .mv (.t 5), none⟩, ⟨some 19, .bin .neq (.t 18) (.k (.int .i64 0)), none⟩, ⟨some 20, .mv (.t 19), none⟩, ⟨some 21, .mv (.t 4), some (20, false)⟩, ⟨some 22, .bin .neq (.t 21) (.k (.int .i64 0)), some (20, false)⟩, ⟨some 23, .pick (.t 20) (.k (.bool true)) (.t 22), none⟩, ⟨some 24, .mv (.t 23), none⟩, ⟨some 25, .mv (.t 3), some (24, false)⟩, ⟨some 26, .eqf false false [(1, .p)] (.t 25) (.k .nilp), some (24, false)⟩, ⟨some 27, .pick (.t 24) (.k (.bool true)) (.t 26), none⟩, ⟨some 28, .mv (.t 27), none⟩, ⟨some 29, .mv (.t 3), some (28, false)⟩, ⟨some 30, .build z64 [(0, (1, .k (.int .u8 1)))], some (28, false)⟩, ⟨some 31, .build z65 [(0, (1, .k (.int .i64 7))), (1, (64, .t 30))], some (28, false)⟩, ⟨some 32, .bslice 73 65 z65 [(0, (65, .t 31))], some (28, false)⟩, ⟨some 33, .call 32 [.t 29, .t 32], some (28, false)⟩, ⟨some 34, .bin .neq (.t 33) (.k (.int .i64 0)), some (28, false)⟩, ⟨some 35, .pick (.t 28) (.k (.bool true)) (.t 34), none⟩] false) (.cond (.t 35) (.seq (.region [⟨some 0, .mv (.k (.bool false)), none⟩] false) .ret) .skip)) (.seq (.region [⟨some 37, .mv (.t 1), none⟩, ⟨some 38, .call 17 [.t 37, .k (.int .i64 7)], none⟩, ⟨some 36, .mv (.t 38), none⟩, ⟨some 39, .extract (.t 36) 0, none⟩, ⟨some 40, .extract (.t 36) 1, none⟩, ⟨some 6, .alloc 31 z64, none⟩, ⟨none, .store 64 (.t 6) (.t 39), none⟩, ⟨some 7, .mv (.t 40), none⟩] false) (.seq (.region [⟨some 41, .call 53 [.k (.int .i64 3)], none⟩, ⟨some 42, .bin .eql (.t 41) (.k (.int .i64 1)), none⟩, ⟨some 43, .mv (.t 42), none⟩, ⟨some 44, .call 53 [.k (.int .i64 40)], some (43, true)⟩, ⟨some 45, .bin .eql (.t 44) (.k (.int .i64 37)), some (43, true)⟩, ⟨some 46, .pick (.t 43) (.t 45) (.k (.bool false)), none⟩, ⟨some 47, .mv (.t 46), none⟩, ⟨some 48, .call 53 [.k (.int .i64 2)], some (47, true)⟩, ⟨some 49, .bin .eql (.t 48) (.k (.int .i64 0)), some (47, true)⟩, ⟨some 50, .pick (.t 47) (.t 49) (.k (.bool false)), none⟩, ⟨some 51, .mv (.t 50), none⟩, ⟨some 52, .mv (.t 3), some (51, true)⟩, ⟨some 53, .call 54 [.t 52], some (51, true)⟩, ⟨some 54, .bin .eql (.t 53) (.k (.int .i64 2)), some (51, true)⟩, ⟨some 55, .pick (.t 51) (.t 54) (.k (.bool false)), none⟩, ⟨some 56, .mv (.t 55), none⟩, ⟨some 57, .iaddrA 64 1 (.t 6) (.k (.int .i64 0)), some (56, true)⟩, ⟨some 58, .load none (.t 57), some (56, true)⟩, ⟨some 59, .bin .eql (.t 58) (.k (.int .u8 1)), some (56, true)⟩, ⟨some 60, .pick (.t 56) (.t 59) (.k (.bool false)), none⟩, ⟨some 0, .mv (.t 60), none⟩] false) .ret)))))⟩
theorem tr29 : trProg Try.prog 29 = some af29 := by kernel_rfl
def af31 : AF := ⟨97, [.t 6, .t 7, .t 8], .seq (.region [⟨some 6, .mv (.k .nilp), none⟩, ⟨some 7, .mv (.k (.int .i64 0)), none⟩, ⟨some 8, .mv (.k (.int .i64 0)), none⟩] false) (.seq (.seq (.region [⟨some 18, .mv (.t 0), none⟩, ⟨some 19, .call 19 [.t 18], none⟩, ⟨some 20, .un .not (.t 19), none⟩, ⟨some 21, .mv (.t 20), none⟩, ⟨some 22, .mv (.t 2), some (21, true)⟩, ⟨some 23, .call 53 [.t 22], some (21, true)⟩, ⟨some 24, .bin .eql (.t 23) (.k (.int .i64 0)), some (21, true)⟩, ⟨some 25, .mv (.t 24), some (21, true)⟩, ⟨some 26, .mv (.t 1), some (25, false)⟩, ⟨some 27, .bin .lss (.t 26) (.k (.int .i64 0)), some (25, false)⟩, ⟨some 28, .pick (.t 25) (.k (.bool true)) (.t 27), some (21, true)⟩, ⟨some 29, .mv (.t 28), some (21, true)⟩, ⟨some 30, .mv (.t 1), some (29, false)⟩, ⟨some 31, .mv (.t 0), some (29, false)⟩, ⟨some 32, .call 27 [.t 31], some (29, false)⟩, ⟨some 33, .bin .gtr (.t 30) (.t 32), some (29, false)⟩, ⟨some 34, .pick (.t 29) (.k (.bool true)) (.t 33), some (21, true)⟩, ⟨some 35, .mv (.t 34), some (21, true)⟩, ⟨some 36, .mv (.t 2), some (35, false)⟩, ⟨some 37, .mv (.t 0), some (35, false)⟩, ⟨some 38, .call 27 [.t 37], some (35, false)⟩, ⟨some 39, .mv (.t 1), some (35, false)⟩, ⟨some 40, .bin .sub (.t 38) (.t 39), some (35, false)⟩, ⟨some 41, .bin .gtr (.t 36) (.t 40), some (35, false)⟩, ⟨some 42, .pick (.t 35) (.k (.bool true)) (.t 41), some (21, true)⟩, ⟨some 43, .pick (.t 21) (.t 42) (.k (.bool false)), none⟩] false) (.cond (.t 43) (.seq (.region [⟨some 6, .mv (.k .nilp), none⟩, ⟨some 7, .mv (.k (.int .i64 0)), none⟩, ⟨some 8, .mv (.k (.int .i64 22)), none⟩] false) .ret) .skip)) (.seq (.region [⟨some 44, .mv (.t 0), none⟩, ⟨some 45, .mv (.t 1), none⟩, ⟨some 46, .mv (.t 2), none⟩, ⟨some 47, .build [.nilp, .int .i64 0, .int .i64 0] [(0, (1, .t 44)), (1, (1, .t 45)), (2, (1, .t 46))], none⟩, ⟨some 9, .alloc 100 [.nilp, .int .i64 0, .int .i64 0], none⟩, ⟨none, .store 3 (.t 9) (.t 47), none⟩] false) (.seq (.region [⟨some 49, .mv (.t 0), none⟩, ⟨some 50, .mv (.t 1), none⟩, ⟨some 51, .call 17 [.t 49, .t 50], none⟩, ⟨some 48, .mv (.t 51), none⟩, ⟨some 52, .extract (.t 48) 0, none⟩, ⟨some 53, .extract (.t 48) 1, none⟩, ⟨some 10, .alloc 31 z64, none⟩, ⟨none, .store 64 (.t 10) (.t 52), none⟩, ⟨some 11, .mv (.t 53), none⟩] false) (.seq (.seq (.region [⟨some 54, .mv (.t 11), none⟩, ⟨some 55, .bin .neq (.t 54) (.k (.int .i64 0)), none⟩] false) (.cond (.t 55) (.seq (.region [⟨some 6, .mv (.k .nilp), none⟩, ⟨some 7, .mv (.k (.int .i64 0)), none⟩, ⟨some 8, .mv (.k (.int .i64 5)), none⟩] false) .ret) .skip)) (.seq (.region [⟨some 57, .load (some 64) (.t 10), none⟩, ⟨some 58, .call 55 [.t 57], none⟩, ⟨some 56, .mv (.t 58), none⟩, ⟨some 59, .extract (.t 56) 0, none⟩, ⟨some 60, .extract (.t 56) 1, none⟩, ⟨some 12, .alloc 103 [.int .i64 0, .bool false, .int .i64 0, .int .u32 0], none⟩, ⟨none, .store 4 (.t 12) (.t 59), none⟩, ⟨some 13, .mv (.t 60), none⟩] false) (.seq (.seq (.region [⟨some 61, .mv (.t 13), none⟩, ⟨some 62, .mv (.t 61), none⟩, ⟨some 63, .faddr 1 (.t 12), some (62, true)⟩, ⟨some 64, .load none (.t 63), some (62, true)⟩, ⟨some 65, .pick (.t 62) (.t 64) (.k (.bool false)), none⟩] false) (.cond (.t 65) (.seq (.region [⟨some 67, .load (some 3) (.t 9), none⟩, ⟨some 68, .load (some 4) (.t 12), none⟩, ⟨some 69, .call 56 [.t 67, .t 68], none⟩, ⟨some 66, .mv (.t 69), none⟩, ⟨some 70, .extract (.t 66) 0, none⟩, ⟨some 71, .extract (.t 66) 1, none⟩, ⟨some 14, .mv (.t 70), none⟩, ⟨some 15, .mv (.t 71), none⟩] false) (.seq (.seq (.region [⟨some 72, .mv (.t 15), none⟩, ⟨some 73, .bin .neq (.t 72) (.k (.int .i64 0)), none⟩] false) (.cond (.t 73) (.seq (.region [⟨some 74, .mv (.t 15), none⟩, ⟨some 6, .mv (.k .nilp), none⟩, ⟨some 7, .mv (.k (.int .i64 0)), none⟩, ⟨some 8, .mv (.t 74), none⟩] false) .ret) .skip)) (.seq (.region [⟨some 75, .load (some 3) (.t 9), none⟩, ⟨some 76, .faddr 0 (.t 12), none⟩, ⟨some 77, .load none (.t 76), none⟩, ⟨some 78, .bin .add (.t 77) (.k (.int .i64 2)), none⟩, ⟨some 79, .build [.nilp, .int .i64 0, .int .i64 0, .int .i64 0, .bool false] [(0, (3, .t 75)), (3, (1, .t 78)), (4, (1, .k (.bool false)))], none⟩, ⟨some 80, .box 109 (.t 79), none⟩, ⟨some 81, .mv (.t 14), none⟩, ⟨some 6, .mv (.t 80), none⟩, ⟨some 7, .mv (.t 81), none⟩, ⟨some 8, .mv (.k (.int .i64 0)), none⟩] false) .ret))) .skip)) (.seq (.region [⟨some 82, .load (some 64) (.t 10), none⟩, ⟨some 83, .bslice 31 64 z64 [(0, (64, .t 82))], none⟩, ⟨some 84, .call 57 [.t 83], none⟩, ⟨some 16, .mv (.t 84), none⟩] false) (.seq (.seq (.region [⟨some 85, .load (some 3) (.t 9), none⟩, ⟨some 86, .mv (.t 16), none⟩, ⟨some 87, .build [.int .i64 0, .bool false, .int .i64 0, .int .u32 0] [(0, (1, .t 86))], none⟩, ⟨some 88, .call 58 [.t 85, .t 87], none⟩, ⟨some 17, .mv (.t 88), none⟩] false) (.seq (.region [⟨some 89, .mv (.t 17), none⟩, ⟨some 90, .bin .neq (.t 89) (.k (.int .i64 0)), none⟩] false) (.cond (.t 90) (.seq (.region [⟨some 91, .mv (.t 17), none⟩, ⟨some 6, .mv (.k .nilp), none⟩, ⟨some 7, .mv (.k (.int .i64 0)), none⟩, ⟨some 8, .mv (.t 91), none⟩] false) .ret) .skip))) (.seq (.region [⟨some 92, .load (some 3) (.t 9), none⟩, ⟨some 93, .mv (.t 16), none⟩, ⟨some 94, .bin .add (.t 93) (.k (.int .i64 1)), none⟩, ⟨some 95, .build [.nilp, .int .i64 0, .int .i64 0, .int .i64 0, .bool false] [(0, (3, .t 92)), (3, (1, .t 94)), (4, (1, .k (.bool false)))], none⟩, ⟨some 96, .box 109 (.t 95), none⟩, ⟨some 6, .mv (.t 96), none⟩, ⟨some 7, .mv (.k (.int .i64 0)), none⟩, ⟨some 8, .mv (.k (.int .i64 0)), none⟩] false) .ret)))))))))⟩
theorem tr31 : trProg Try.prog 31 = some af31 := by kernel_rfl
def af32 : AF := ⟨29, [.t 4], .seq (.region [⟨some 4, .mv (.k (.int .i64 0)), none⟩] false) (.seq (.seq (.region [⟨some 7, .mv (.t 0), none⟩, ⟨some 8, .call 59 [.t 7], none⟩] false) (.cond (.t 8) (.seq (.region [⟨some 4, .mv (.k (.int .i64 5)), none⟩] false) .ret) .skip)) (.seq (.seq (.region [⟨some 9, .mv (.t 0), none⟩, ⟨some 10, .mv (.t 1), none⟩, ⟨some 11, .call 60 [.t 9, .t 10], none⟩, ⟨some 5, .mv (.t 11), none⟩] false) (.seq (.region [⟨some 12, .mv (.t 5), none⟩, ⟨some 13, .bin .neq (.t 12) (.k (.int .i64 0)), none⟩, ⟨some 14, .mv (.t 13), none⟩, ⟨some 15, .mv (.t 1), some (14, false)⟩, ⟨some 16, .lenL (.t 15), some (14, false)⟩, ⟨some 17, .bin .eql (.t 16) (.k (.int .i64 0)), some (14, false)⟩, ⟨some 18, .pick (.t 14) (.k (.bool true)) (.t 17), none⟩] false) (.cond (.t 18) (.seq (.region [⟨some 19, .mv (.t 5), none⟩, ⟨some 4, .mv (.t 19), none⟩] false) .ret) .skip))) (.seq (.region [⟨some 20, .mv (.t 0), none⟩, ⟨some 21, .mv (.t 1), none⟩, ⟨some 22, .call 61 [.t 20, .t 21], none⟩, ⟨some 6, .mv (.t 22), none⟩] false) (.seq (.region [⟨some 23, .mv (.t 0), none⟩, ⟨some 24, .mv (.t 6), none⟩, ⟨some 25, .bin .neq (.t 24) (.k (.int .i64 0)), none⟩, ⟨some 26, .nck (.t 23), none⟩, ⟨some 27, .faddr 4 (.t 26), none⟩, ⟨none, .store 1 (.t 27) (.t 25), none⟩] false) (.seq (.region [⟨some 28, .mv (.t 6), none⟩, ⟨some 4, .mv (.t 28), none⟩] false) .ret)))))⟩
theorem tr32 : trProg Try.prog 32 = some af32 := by kernel_rfl
def af34 : AF := ⟨77, [.t 0], .seq (.region [⟨some 0, .mv (.k (.bool false)), none⟩] false) (.seq (.region [⟨some 11, .call 12 [.k (.int .i64 20)], none⟩, ⟨some 10, .mv (.t 11), none⟩, ⟨some 12, .extract (.t 10) 0, none⟩, ⟨some 13, .extract (.t 10) 1, none⟩, ⟨some 1, .mv (.t 12), none⟩, ⟨some 2, .mv (.t 13), none⟩] false) (.seq (.region [⟨some 15, .mv (.t 1), none⟩, ⟨some 16, .call 44 [.t 15, .k (.int .i64 8), .k (.int .i64 10)], none⟩, ⟨some 14, .mv (.t 16), none⟩, ⟨some 17, .extract (.t 14) 0, none⟩, ⟨some 18, .extract (.t 14) 1, none⟩, ⟨some 3, .mv (.t 17), none⟩, ⟨some 4, .mv (.t 18), none⟩] false) (.seq (.seq (.region [⟨some 19, .mv (.t 4), none⟩, ⟨some 20, .bin .neq (.t 19) (.k (.int .i64 0)), none⟩, ⟨some 21, .mv (.t 20), none⟩, ⟨some 22, .mv (.t 3), some (21, false)⟩, ⟨some 23, .eqf false false [(1, .p)] (.t 22) (.k .nilp), some (21, false)⟩, ⟨some 24, .pick (.t 21) (.k (.bool true)) (.t 23), none⟩, ⟨some 25, .mv (.t 24), none⟩, ⟨some 26, .mv (.t 3), some (25, false)⟩, ⟨some 27, .build z64 [(0, (1, .k (.int .u8 1)))], some (25, false)⟩, ⟨some 28, .call 37 [.t 26, .k (.int .i64 5), .t 27], some (25, false)⟩, ⟨some 29, .bin .neq (.t 28) (.k (.int .i64 0)), some (25, false)⟩, ⟨some 30, .pick (.t 25) (.k (.bool true)) (.t 29), none⟩] false) (.cond (.t 30) (.seq (.region [⟨some 0, .mv (.k (.bool false)), none⟩] false) .ret) .skip)) (.seq (.region [⟨some 31, .mv (.t 3), none⟩, ⟨some 32, .call 35 [.t 31], none⟩] false) (.seq (.region [⟨some 34, .mv (.t 3), none⟩, ⟨some 35, .call 36 [.t 34, .k (.int .i64 5)], none⟩, ⟨some 33, .mv (.t 35), none⟩, ⟨some 36, .extract (.t 33) 0, none⟩, ⟨some 37, .extract (.t 33) 1, none⟩, ⟨some 5, .alloc 31 z64, none⟩, ⟨none, .store 64 (.t 5) (.t 36), none⟩, ⟨some 6, .mv (.t 37), none⟩] false) (.seq (.region [⟨some 38, .mv (.t 3), none⟩, ⟨some 39, .build z64 [(0, (1, .k (.int .u8 2)))], none⟩, ⟨some 40, .call 37 [.t 38, .k (.int .i64 5), .t 39], none⟩] false) (.seq (.region [⟨some 41, .mv (.t 3), none⟩, ⟨some 42, .call 38 [.t 41], none⟩, ⟨some 7, .mv (.t 42), none⟩] false) (.seq (.region [⟨some 44, .mv (.t 3), none⟩, ⟨some 45, .call 36 [.t 44, .k (.int .i64 5)], none⟩, ⟨some 43, .mv (.t 45), none⟩, ⟨some 46, .extract (.t 43) 0, none⟩, ⟨some 47, .extract (.t 43) 1, none⟩, ⟨some 8, .alloc 31 z64, none⟩, ⟨none, .store 64 (.t 8) (.t 46), none⟩, ⟨some 9, .mv (.t 47), none⟩] false) (.seq (.region [⟨some 48, .load (some 64) (.t 5), none⟩, ⟨some 49, .build z64 [], none⟩, ⟨some 50, .eqf false true [(64, .i)] (.t 48) (.t 49), none⟩, ⟨some 51, .mv (.t 50), none⟩, ⟨some 52, .mv (.t 7), some (51, true)⟩, ⟨some 53, .bin .eql (.t 52) (.k (.int .i64 0)), some (51, true)⟩, ⟨some 54, .pick (.t 51) (.t 53) (.k (.bool false)), none⟩, ⟨some 55, .mv (.t 54), none⟩, ⟨some 56, .iaddrA 64 1 (.t 8) (.k (.int .i64 0)), some (55, true)⟩, ⟨some 57, .load none (.t 56), some (55, true)⟩, ⟨some 58, .bin .eql (.t 57) (.k (.int .u8 2)), some (55, true)⟩, ⟨some 59, .pick (.t 55) (.t 58) (.k (.bool false)), none⟩, ⟨some 60, .mv (.t 59), none⟩, ⟨some 61, .mv (.t 1), some (60, true)⟩, ⟨some 62, .call 14 [.t 61, .k (.int .i64 5)], some (60, true)⟩, ⟨some 63, .build z64 [], some (60, true)⟩, ⟨some 64, .eqf false true [(64, .i)] (.t 62) (.t 63), some (60, true)⟩, ⟨some 65, .pick (.t 60) (.t 64) (.k (.bool false)), none⟩, ⟨some 66, .mv (.t 65), none⟩, ⟨some 67, .mv (.t 3), some (66, true)⟩, ⟨some 68, .call 39 [.t 67], some (66, true)⟩, ⟨some 69, .bin .eql (.t 68) (.k (.int .i64 0)), some (66, true)⟩, ⟨some 70, .pick (.t 66) (.t 69) (.k (.bool false)), none⟩, ⟨some 71, .mv (.t 70), none⟩, ⟨some 72, .mv (.t 1), some (71, true)⟩, ⟨some 73, .call 14 [.t 72, .k (.int .i64 5)], some (71, true)⟩, ⟨some 74, .idxA 64 1 none (.t 73) (.k (.int .i64 0)), some (71, true)⟩, ⟨some 75, .bin .eql (.t 74) (.k (.int .u8 2)), some (71, true)⟩, ⟨some 76, .pick (.t 71) (.t 75) (.k (.bool false)), none⟩, ⟨some 0, .mv (.t 76), none⟩] false) .ret)))))))))⟩
theorem tr34 : trProg Try.prog 34 = some af34 := by kernel_rfl
def af35 : AF := ⟨8, [], .seq (.region [⟨some 2, .mv (.t 0), none⟩, ⟨some 3, .eqf true false [(1, .p)] (.t 2) (.k .nilp), none⟩] false) (.cond (.t 3) (.region [⟨some 4, .mv (.t 0), none⟩, ⟨some 5, .mkMap, none⟩, ⟨some 6, .nck (.t 4), none⟩, ⟨some 7, .faddr 4 (.t 6), none⟩, ⟨none, .store 1 (.t 7) (.t 5), none⟩] false) .skip)⟩
theorem tr35 : trProg Try.prog 35 = some af35 := by kernel_rfl
def af36 : AF := ⟨49, [.c 4 (some 64), .t 5], .seq (.region [⟨some 4, .alloc 31 z64, none⟩, ⟨some 5, .mv (.k (.int .i64 0)), none⟩] false) (.seq (.seq (.region [⟨some 11, .mv (.t 0), none⟩, ⟨some 12, .mv (.t 1), none⟩, ⟨some 13, .call 62 [.t 11, .t 12], none⟩, ⟨some 6, .mv (.t 13), none⟩] false) (.seq (.region [⟨some 14, .mv (.t 6), none⟩, ⟨some 15, .bin .neq (.t 14) (.k (.int .i64 0)), none⟩] false) (.cond (.t 15) (.seq (.region [⟨some 16, .build z64 [], none⟩, ⟨some 17, .mv (.t 6), none⟩, ⟨none, .store 64 (.t 4) (.t 16), none⟩, ⟨some 5, .mv (.t 17), none⟩] false) .ret) .skip))) (.seq (.seq (.draw 1 [⟨0, ⟨some 18, .mv (.t 0), none⟩, [], none, []⟩, ⟨1, ⟨some 19, .nck (.t 18), none⟩, [], none, []⟩, ⟨2, ⟨some 20, .faddr 4 (.t 19), none⟩, [], none, []⟩, ⟨3, ⟨some 21, .load none (.t 20), none⟩, [], none, []⟩, ⟨4, ⟨some 22, .mv (.t 0), none⟩, [], none, []⟩, ⟨5, ⟨some 23, .nck (.t 22), none⟩, [], none, []⟩, ⟨6, ⟨some 24, .faddr 5 (.t 23), none⟩, [], none, []⟩, ⟨7, ⟨some 25, .load none (.t 24), none⟩, [], none, []⟩, ⟨10, ⟨some 28, .mv (.k (.int .i64 0)), none⟩, [], none, []⟩, ⟨8, ⟨some 26, .bslice 113 1 [.nilm, .nilm] [(0, (1, .t 21)), (1, (1, .t 25))], none⟩, [], some 0, []⟩, ⟨9, ⟨some 27, .lenL (.t 26), none⟩, [0], none, []⟩]) (.block 0 (.loop (.seq (.region [⟨some 29, .bin .lss (.t 28) (.t 27), none⟩] false) (.seq (.cond (.t 29) .skip (.exit 0)) (.seq (.block 1 (.seq (.region [⟨some 30, .iaddrS 1 (.t 26) (.t 28), none⟩, ⟨some 31, .load none (.t 30), none⟩, ⟨some 8, .mv (.t 31), none⟩] false) (.seq (.region [⟨some 33, .mv (.t 8), none⟩, ⟨some 34, .mv (.t 1), none⟩, ⟨some 35, .lookup .i (.agg z64) true (.t 33) (.t 34), none⟩, ⟨some 32, .mv (.t 35), none⟩, ⟨some 36, .extract (.t 32) 0, none⟩, ⟨some 37, .extract (.t 32) 1, none⟩, ⟨some 9, .alloc 31 z64, none⟩, ⟨none, .store 64 (.t 9) (.t 36), none⟩, ⟨some 10, .mv (.t 37), none⟩] false) (.seq (.region [⟨some 38, .mv (.t 10), none⟩] false) (.cond (.t 38) (.seq (.region [⟨some 39, .load (some 64) (.t 9), none⟩, ⟨none, .store 64 (.t 4) (.t 39), none⟩, ⟨some 5, .mv (.k (.int .i64 0)), none⟩] false) .ret) .skip))))) (.region [⟨some 40, .bin .add (.t 28) (.k (.int .i64 1)), none⟩, ⟨some 28, .mv (.t 40), none⟩] false))))))) (.seq (.region [⟨some 41, .mv (.t 0), none⟩, ⟨some 42, .nck (.t 41), none⟩, ⟨some 43, .faddr 1 (.t 42), none⟩, ⟨some 44, .load none (.t 43), none⟩, ⟨some 45, .mv (.t 1), none⟩, ⟨some 46, .call 17 [.t 44, .t 45], none⟩, ⟨some 47, .extract (.t 46) 0, none⟩, ⟨some 48, .extract (.t 46) 1, none⟩, ⟨none, .store 64 (.t 4) (.t 47), none⟩, ⟨some 5, .mv (.t 48), none⟩] false) .ret)))⟩
theorem tr36 : trProg Try.prog 36 = some af36 := by kernel_rfl
def af37 : AF := ⟨46, [.t 6], .seq (.region [⟨some 5, .box 31 (.t 2), none⟩, ⟨some 6, .mv (.k (.int .i64 0)), none⟩] false) (.seq (.seq (.region [⟨some 10, .mv (.t 0), none⟩, ⟨some 11, .mv (.t 1), none⟩, ⟨some 12, .call 62 [.t 10, .t 11], none⟩, ⟨some 7, .mv (.t 12), none⟩] false) (.seq (.region [⟨some 13, .mv (.t 7), none⟩, ⟨some 14, .bin .neq (.t 13) (.k (.int .i64 0)), none⟩] false) (.cond (.t 14) (.seq (.region [⟨some 15, .mv (.t 7), none⟩, ⟨some 6, .mv (.t 15), none⟩] false) .ret) .skip))) (.seq (.seq (.region [⟨some 17, .mv (.t 0), none⟩, ⟨some 18, .nck (.t 17), none⟩, ⟨some 19, .faddr 4 (.t 18), none⟩, ⟨some 20, .load none (.t 19), none⟩, ⟨some 21, .mv (.t 1), none⟩, ⟨some 22, .lookup .i (.agg z64) true (.t 20) (.t 21), none⟩, ⟨some 16, .mv (.t 22), none⟩, ⟨some 23, .extract (.t 16) 0, none⟩, ⟨some 24, .extract (.t 16) 1, none⟩, ⟨some 8, .alloc 31 z64, none⟩, ⟨none, .store 64 (.t 8) (.t 23), none⟩, ⟨some 9, .mv (.t 24), none⟩] false) (.seq (.draw 0 [⟨0, ⟨some 25, .mv (.t 9), none⟩, [], none, []⟩, ⟨1, ⟨some 26, .un .not (.t 25), none⟩, [], none, []⟩, ⟨2, ⟨some 27, .mv (.t 26), none⟩, [], none, []⟩, ⟨3, ⟨some 28, .mv (.t 0), some (27, true)⟩, [], none, []⟩, ⟨4, ⟨some 29, .nck (.t 28), some (27, true)⟩, [], none, []⟩, ⟨5, ⟨some 30, .faddr 4 (.t 29), some (27, true)⟩, [], none, []⟩, ⟨6, ⟨some 31, .load none (.t 30), some (27, true)⟩, [], none, []⟩, ⟨7, ⟨some 32, .lenM (.t 31), some (27, true)⟩, [], none, []⟩, ⟨8, ⟨some 33, .mv (.t 0), some (27, true)⟩, [], none, []⟩, ⟨9, ⟨some 34, .nck (.t 33), some (27, true)⟩, [], none, []⟩, ⟨10, ⟨some 35, .faddr 0 (.t 34), some (27, true)⟩, [], none, []⟩, ⟨11, ⟨some 36, .load none (.t 35), some (27, true)⟩, [], none, []⟩, ⟨12, ⟨some 37, .call 54 [.t 36], some (27, true)⟩, [], none, []⟩, ⟨13, ⟨some 38, .bin .geq (.t 32) (.t 37), some (27, true)⟩, [], none, []⟩, ⟨14, ⟨some 39, .pick (.t 27) (.t 38) (.k (.bool false)), none⟩, [], none, []⟩]) (.cond (.t 39) (.seq (.region [⟨some 6, .mv (.k (.int .i64 28)), none⟩] false) .ret) .skip))) (.seq (.draw 0 [⟨0, ⟨some 40, .mv (.t 0), none⟩, [], none, []⟩, ⟨1, ⟨some 41, .nck (.t 40), none⟩, [], none, []⟩, ⟨2, ⟨some 42, .faddr 4 (.t 41), none⟩, [], none, []⟩, ⟨3, ⟨some 43, .load none (.t 42), none⟩, [], none, []⟩, ⟨4, ⟨some 44, .mv (.t 1), none⟩, [], none, []⟩, ⟨5, ⟨some 45, .load (some 64) (.t 5), none⟩, [], none, []⟩, ⟨6, ⟨none, .mapSet .i (.t 43) (.t 44) (.t 45), none⟩, [], none, []⟩]) (.seq (.region [⟨some 6, .mv (.k (.int .i64 0)), none⟩] false) .ret))))⟩
theorem tr37 : trProg Try.prog 37 = some af37 := by kernel_rfl
def af38 : AF := ⟨37, [.t 2], .seq (.region [⟨some 2, .mv (.k (.int .i64 0)), none⟩] false) (.seq (.seq (.region [⟨some 4, .mv (.t 0), none⟩, ⟨some 5, .call 42 [.t 4], none⟩] false) (.cond (.t 5) (.seq (.region [⟨some 2, .mv (.k (.int .i64 5)), none⟩] false) .ret) .skip)) (.seq (.seq (.draw 0 [⟨0, ⟨some 6, .mv (.t 0), none⟩, [], none, []⟩, ⟨1, ⟨some 7, .nck (.t 6), none⟩, [], none, []⟩, ⟨2, ⟨some 8, .faddr 5 (.t 7), none⟩, [], none, []⟩, ⟨3, ⟨some 9, .load none (.t 8), none⟩, [], none, []⟩, ⟨4, ⟨some 10, .mv (.t 0), none⟩, [], none, []⟩, ⟨5, ⟨some 11, .nck (.t 10), none⟩, [], none, []⟩, ⟨6, ⟨some 12, .faddr 4 (.t 11), none⟩, [], none, []⟩, ⟨7, ⟨some 13, .load none (.t 12), none⟩, [], none, []⟩, ⟨9, ⟨some 15, .mv (.t 0), none⟩, [], none, []⟩, ⟨10, ⟨some 16, .nck (.t 15), none⟩, [], none, []⟩, ⟨11, ⟨some 17, .faddr 0 (.t 16), none⟩, [], none, []⟩, ⟨12, ⟨some 18, .load none (.t 17), none⟩, [], none, []⟩, ⟨8, ⟨some 14, .call 63 [.t 9, .t 13], none⟩, [], none, [⟨some 18, .load none (.t 17), none⟩]⟩, ⟨13, ⟨some 19, .call 54 [.t 18], none⟩, [], none, []⟩, ⟨14, ⟨some 20, .bin .gtr (.t 14) (.t 19), none⟩, [], none, []⟩]) (.cond (.t 20) (.seq (.region [⟨some 21, .mv (.t 0), none⟩, ⟨some 22, .call 39 [.t 21], none⟩, ⟨some 3, .mv (.t 22), none⟩] false) (.seq (.region [⟨some 23, .mv (.t 3), none⟩, ⟨some 24, .bin .neq (.t 23) (.k (.int .i64 0)), none⟩] false) (.cond (.t 24) (.seq (.region [⟨some 25, .mv (.t 3), none⟩, ⟨some 2, .mv (.t 25), none⟩] false) .ret) .skip))) .skip)) (.seq (.draw 0 [⟨0, ⟨some 26, .mv (.t 0), none⟩, [], none, []⟩, ⟨1, ⟨some 27, .nck (.t 26), none⟩, [], none, []⟩, ⟨2, ⟨some 28, .faddr 5 (.t 27), none⟩, [], none, []⟩, ⟨3, ⟨some 29, .load none (.t 28), none⟩, [], none, []⟩, ⟨4, ⟨some 30, .mv (.t 0), none⟩, [], none, []⟩, ⟨5, ⟨some 31, .nck (.t 30), none⟩, [], none, []⟩, ⟨6, ⟨some 32, .faddr 4 (.t 31), none⟩, [], none, []⟩, ⟨7, ⟨some 33, .load none (.t 32), none⟩, [], none, []⟩, ⟨8, ⟨some 34, .call 64 [.t 29, .t 33], none⟩, [], none, []⟩]) (.seq (.region [⟨some 35, .mv (.t 0), none⟩, ⟨some 36, .call 35 [.t 35], none⟩] false) (.seq (.region [⟨some 2, .mv (.k (.int .i64 0)), none⟩] false) .ret)))))⟩
theorem tr38 : trProg Try.prog 38 = some af38 := by kernel_rfl
def af39 : AF := ⟨23, [.t 2], .seq (.region [⟨some 2, .mv (.k (.int .i64 0)), none⟩] false) (.seq (.seq (.region [⟨some 4, .mv (.t 0), none⟩, ⟨some 5, .call 42 [.t 4], none⟩] false) (.cond (.t 5) (.seq (.region [⟨some 2, .mv (.k (.int .i64 5)), none⟩] false) .ret) .skip)) (.seq (.seq (.draw 0 [⟨0, ⟨some 6, .mv (.t 0), none⟩, [], none, []⟩, ⟨1, ⟨some 7, .nck (.t 6), none⟩, [], none, []⟩, ⟨2, ⟨some 8, .faddr 0 (.t 7), none⟩, [], none, []⟩, ⟨3, ⟨some 9, .load none (.t 8), none⟩, [], none, []⟩, ⟨4, ⟨some 10, .mv (.t 0), none⟩, [], none, []⟩, ⟨5, ⟨some 11, .nck (.t 10), none⟩, [], none, []⟩, ⟨6, ⟨some 12, .faddr 5 (.t 11), none⟩, [], none, []⟩, ⟨7, ⟨some 13, .load none (.t 12), none⟩, [], none, []⟩, ⟨8, ⟨some 14, .call 65 [.t 13], none⟩, [], none, [⟨some 9, .load none (.t 8), none⟩]⟩, ⟨9, ⟨some 15, .call 32 [.t 9, .t 14], none⟩, [], none, []⟩, ⟨10, ⟨some 3, .mv (.t 15), none⟩, [], none, []⟩]) (.seq (.region [⟨some 16, .mv (.t 3), none⟩, ⟨some 17, .bin .neq (.t 16) (.k (.int .i64 0)), none⟩] false) (.cond (.t 17) (.seq (.region [⟨some 18, .mv (.t 3), none⟩, ⟨some 2, .mv (.t 18), none⟩] false) .ret) .skip))) (.seq (.region [⟨some 19, .mv (.t 0), none⟩, ⟨some 20, .mkMap, none⟩, ⟨some 21, .nck (.t 19), none⟩, ⟨some 22, .faddr 5 (.t 21), none⟩, ⟨none, .store 1 (.t 22) (.t 20), none⟩] false) (.seq (.region [⟨some 2, .mv (.k (.int .i64 0)), none⟩] false) .ret))))⟩
theorem tr39 : trProg Try.prog 39 = some af39 := by kernel_rfl
def af42 : AF := ⟨12, [.t 2], .seq (.region [⟨some 2, .mv (.k (.bool false)), none⟩] false) (.seq (.region [⟨some 3, .mv (.t 0), none⟩, ⟨some 4, .eqf false false [(1, .p)] (.t 3) (.k .nilp), none⟩, ⟨some 5, .mv (.t 4), none⟩, ⟨some 6, .mv (.t 0), some (5, false)⟩, ⟨some 7, .nck (.t 6), some (5, false)⟩, ⟨some 8, .faddr 0 (.t 7), some (5, false)⟩, ⟨some 9, .load none (.t 8), some (5, false)⟩, ⟨some 10, .call 59 [.t 9], some (5, false)⟩, ⟨some 11, .pick (.t 5) (.k (.bool true)) (.t 10), none⟩, ⟨some 2, .mv (.t 11), none⟩] false) .ret)⟩
theorem tr42 : trProg Try.prog 42 = some af42 := by kernel_rfl
def af44 : AF := ⟨30, [.t 6, .t 7], .seq (.region [⟨some 6, .mv (.k .nilp), none⟩, ⟨some 7, .mv (.k (.int .i64 0)), none⟩] false) (.seq (.region [⟨some 12, .mv (.t 0), none⟩, ⟨some 13, .mv (.t 1), none⟩, ⟨some 14, .mv (.t 2), none⟩, ⟨some 15, .call 31 [.t 12, .t 13, .t 14], none⟩, ⟨some 11, .mv (.t 15), none⟩, ⟨some 16, .extract (.t 11) 0, none⟩, ⟨some 17, .extract (.t 11) 1, none⟩, ⟨some 18, .extract (.t 11) 2, none⟩, ⟨some 8, .mv (.t 16), none⟩, ⟨some 9, .mv (.t 17), none⟩, ⟨some 10, .mv (.t 18), none⟩] false) (.seq (.seq (.region [⟨some 19, .mv (.t 10), none⟩, ⟨some 20, .bin .neq (.t 19) (.k (.int .i64 0)), none⟩] false) (.cond (.t 20) (.seq (.region [⟨some 21, .mv (.t 10), none⟩, ⟨some 6, .mv (.k .nilp), none⟩, ⟨some 7, .mv (.t 21), none⟩] false) .ret) .skip)) (.seq (.region [⟨some 22, .mv (.t 8), none⟩, ⟨some 23, .mv (.t 0), none⟩, ⟨some 24, .mv (.t 1), none⟩, ⟨some 25, .mv (.t 2), none⟩, ⟨some 26, .mkMap, none⟩, ⟨some 27, .mkMap, none⟩, ⟨some 28, .build [.nilp, .nilp, .int .i64 0, .int .i64 0, .nilm, .nilm] [(0, (1, .t 22)), (1, (1, .t 23)), (2, (1, .t 24)), (3, (1, .t 25)), (4, (1, .t 26)), (5, (1, .t 27))], none⟩, ⟨some 29, .box 115 (.t 28), none⟩, ⟨some 6, .mv (.t 29), none⟩, ⟨some 7, .mv (.k (.int .i64 0)), none⟩] false) .ret)))⟩
theorem tr44 : trProg Try.prog 44 = some af44 := by kernel_rfl
def af45 : AF := ⟨19, [.t 2], .seq (.region [⟨some 2, .mv (.k (.bool false)), none⟩] false) (.seq (.seq (.region [⟨some 5, .mv (.t 0), none⟩, ⟨some 6, .lenL (.t 5), none⟩, ⟨some 7, .bin .gtr (.t 6) (.k (.int .i64 80)), none⟩] false) (.cond (.t 7) (.seq (.region [⟨some 2, .mv (.k (.bool true)), none⟩] false) .ret) .skip)) (.seq (.seq (.region [⟨some 8, .mv (.t 0), none⟩, ⟨some 9, .lenL (.t 8), none⟩, ⟨some 10, .mv (.k (.int .i64 0)), none⟩] false) (.block 0 (.loop (.seq (.region [⟨some 11, .bin .lss (.t 10) (.t 9), none⟩] false) (.seq (.cond (.t 11) .skip (.exit 0)) (.seq (.block 1 (.seq (.region [⟨some 12, .iaddrS 67 (.t 8) (.t 10), none⟩, ⟨some 13, .load (some 67) (.t 12), none⟩, ⟨some 4, .alloc 85 opz, none⟩, ⟨none, .store 67 (.t 4) (.t 13), none⟩] false) (.seq (.region [⟨some 14, .faddr 66 (.t 4), none⟩, ⟨some 15, .load none (.t 14), none⟩, ⟨some 16, .lenL (.t 15), none⟩, ⟨some 17, .bin .gtr (.t 16) (.k (.int .i64 600)), none⟩] false) (.cond (.t 17) (.seq (.region [⟨some 2, .mv (.k (.bool true)), none⟩] false) .ret) .skip)))) (.region [⟨some 18, .bin .add (.t 10) (.k (.int .i64 1)), none⟩, ⟨some 10, .mv (.t 18), none⟩] false))))))) (.seq (.region [⟨some 2, .mv (.k (.bool false)), none⟩] false) .ret)))⟩
theorem tr45 : trProg Try.prog 45 = some af45 := by kernel_rfl
def af46 : AF := ⟨17, [.t 4], .seq (.region [⟨some 3, .box 82 (.t 1), none⟩, ⟨some 4, .mv (.k (.bool false)), none⟩] false) (.seq (.seq (.region [⟨some 6, .mv (.k (.int .i64 0)), none⟩] false) (.block 0 (.loop (.seq (.region [⟨some 7, .bin .lss (.t 6) (.k (.int .i64 20)), none⟩] false) (.seq (.cond (.t 7) .skip (.exit 0)) (.seq (.block 1 (.seq (.region [⟨some 8, .mv (.t 6), none⟩, ⟨some 5, .mv (.t 8), none⟩] false) (.seq (.draw 0 [⟨0, ⟨some 9, .mv (.t 0), none⟩, [], none, []⟩, ⟨1, ⟨some 10, .mv (.t 5), none⟩, [], none, []⟩, ⟨3, ⟨some 12, .mv (.t 5), none⟩, [], none, []⟩, ⟨4, ⟨some 13, .iaddrA 20 64 (.t 3) (.t 12), none⟩, [], none, []⟩, ⟨5, ⟨some 14, .load (some 64) (.t 13), none⟩, [], none, []⟩, ⟨2, ⟨some 11, .call 14 [.t 9, .t 10], none⟩, [], none, [⟨some 14, .load (some 64) (.t 13), none⟩]⟩, ⟨6, ⟨some 15, .eqf true true [(64, .i)] (.t 11) (.t 14), none⟩, [], none, []⟩]) (.cond (.t 15) (.seq (.region [⟨some 4, .mv (.k (.bool false)), none⟩] false) .ret) .skip)))) (.region [⟨some 16, .bin .add (.t 6) (.k (.int .i64 1)), none⟩, ⟨some 6, .mv (.t 16), none⟩] false))))))) (.seq (.region [⟨some 4, .mv (.k (.bool true)), none⟩] false) .ret))⟩
theorem tr46 : trProg Try.prog 46 = some af46 := by kernel_rfl
def af47 : AF := ⟨13, [.c 2 (some 64)], .seq (.region [⟨some 2, .alloc 31 z64, none⟩] false) (.seq (.region [⟨some 3, .alloc 31 z64, none⟩] false) (.seq (.seq (.region [⟨some 5, .mv (.k (.int .i64 0)), none⟩] false) (.block 0 (.loop (.seq (.region [⟨some 6, .bin .lss (.t 5) (.k (.int .i64 64)), none⟩] false) (.seq (.cond (.t 6) .skip (.exit 0)) (.seq (.block 1 (.seq (.region [⟨some 7, .mv (.t 5), none⟩, ⟨some 4, .mv (.t 7), none⟩] false) (.region [⟨some 8, .mv (.t 4), none⟩, ⟨some 9, .mv (.t 0), none⟩, ⟨some 10, .iaddrA 64 1 (.t 3) (.t 8), none⟩, ⟨none, .store 1 (.t 10) (.t 9), none⟩] false))) (.region [⟨some 11, .bin .add (.t 5) (.k (.int .i64 1)), none⟩, ⟨some 5, .mv (.t 11), none⟩] false))))))) (.seq (.region [⟨some 12, .load (some 64) (.t 3), none⟩, ⟨none, .store 64 (.t 2) (.t 12), none⟩] false) .ret)))⟩
theorem tr47 : trProg Try.prog 47 = some af47 := by kernel_rfl
def af48 : AF := ⟨20, [.t 4], .seq (.region [⟨some 4, .mv (.k (.int .i64 0)), none⟩] false) (.seq (.block 0 (.seq (.region [⟨some 6, .mv (.t 0), none⟩, ⟨some 7, .call 19 [.t 6], none⟩, ⟨some 5, .mv (.t 7), none⟩] false) (.cond (.t 5) (.seq (.region [⟨some 4, .mv (.k (.int .i64 5)), none⟩] false) .ret) (.seq (.region [⟨some 9, .mv (.t 1), none⟩, ⟨some 10, .bin .lss (.t 9) (.k (.int .i64 0)), none⟩, ⟨some 11, .mv (.t 10), none⟩, ⟨some 12, .mv (.t 1), some (11, false)⟩, ⟨some 13, .mv (.t 0), some (11, false)⟩, ⟨some 14, .nck (.t 13), some (11, false)⟩, ⟨some 15, .faddr 3 (.t 14), some (11, false)⟩, ⟨some 16, .load none (.t 15), some (11, false)⟩, ⟨some 17, .lenL (.t 16), some (11, false)⟩, ⟨some 18, .bin .geq (.t 12) (.t 17), some (11, false)⟩, ⟨some 19, .pick (.t 11) (.k (.bool true)) (.t 18), none⟩, ⟨some 8, .mv (.t 19), none⟩] false) (.cond (.t 8) (.seq (.region [⟨some 4, .mv (.k (.int .i64 22)), none⟩] false) .ret) .skip))))) (.seq (.region [⟨some 4, .mv (.k (.int .i64 0)), none⟩] false) .ret))⟩
theorem tr48 : trProg Try.prog 48 = some af48 := by kernel_rfl
def af49 : AF := ⟨32, [.t 2], .seq (.region [⟨some 2, .mv (.k (.bool false)), none⟩] false) (.seq (.seq (.region [⟨some 3, .mv (.t 0), none⟩, ⟨some 4, .nck (.t 3), none⟩, ⟨some 5, .faddr 1 (.t 4), none⟩, ⟨some 6, .load none (.t 5), none⟩] false) (.cond (.t 6) (.seq (.region [⟨some 2, .mv (.k (.bool false)), none⟩] false) .ret) .skip)) (.seq (.seq (.region [⟨some 7, .mv (.t 0), none⟩, ⟨some 8, .nck (.t 7), none⟩, ⟨some 9, .faddr 0 (.t 8), none⟩, ⟨some 10, .load none (.t 9), none⟩, ⟨some 11, .un .not (.t 10), none⟩] false) (.cond (.t 11) (.seq (.region [⟨some 2, .mv (.k (.bool true)), none⟩] false) .ret) .skip)) (.seq (.region [⟨some 12, .mv (.t 0), none⟩, ⟨some 13, .nck (.t 12), none⟩, ⟨some 14, .faddr 2 (.t 13), none⟩, ⟨some 15, .load none (.t 14), none⟩, ⟨some 16, .bin .sub (.t 15) (.k (.int .i64 1)), none⟩, ⟨some 17, .nck (.t 12), none⟩, ⟨some 18, .faddr 2 (.t 17), none⟩, ⟨none, .store 1 (.t 18) (.t 16), none⟩] false) (.seq (.region [⟨some 19, .mv (.t 0), none⟩, ⟨some 20, .mv (.t 0), none⟩, ⟨some 21, .nck (.t 20), none⟩, ⟨some 22, .faddr 2 (.t 21), none⟩, ⟨some 23, .load none (.t 22), none⟩, ⟨some 24, .bin .lss (.t 23) (.k (.int .i64 0)), none⟩, ⟨some 25, .nck (.t 19), none⟩, ⟨some 26, .faddr 1 (.t 25), none⟩, ⟨none, .store 1 (.t 26) (.t 24), none⟩] false) (.seq (.region [⟨some 27, .mv (.t 0), none⟩, ⟨some 28, .nck (.t 27), none⟩, ⟨some 29, .faddr 1 (.t 28), none⟩, ⟨some 30, .load none (.t 29), none⟩, ⟨some 31, .un .not (.t 30), none⟩, ⟨some 2, .mv (.t 31), none⟩] false) .ret)))))⟩
theorem tr49 : trProg Try.prog 49 = some af49 := by kernel_rfl
def af51 : AF := ⟨4, [.t 2], .seq (.region [⟨some 1, .box 29 (.t 0), none⟩, ⟨some 2, .mv (.k .nilf), none⟩] false) (.seq (.region [⟨some 3, .mkf 69 [] [.t 1], none⟩, ⟨some 2, .mv (.t 3), none⟩] false) .ret)⟩
theorem tr51 : trProg Try.prog 51 = some af51 := by kernel_rfl
def af53 : AF := ⟨20, [.t 2], .seq (.region [⟨some 2, .mv (.k (.int .i64 0)), none⟩] false) (.seq (.region [⟨some 3, .mv (.k (.int .i64 0)), none⟩] false) (.seq (.block 0 (.loop (.seq (.seq (.region [⟨some 4, .mv (.t 3), none⟩, ⟨some 5, .bin .lss (.t 4) (.k (.int .i64 512)), none⟩, ⟨some 6, .mv (.t 5), none⟩, ⟨some 7, .mv (.t 3), some (6, true)⟩, ⟨some 8, .bin .add (.t 7) (.k (.int .i64 1)), some (6, true)⟩, ⟨some 9, .call 70 [.t 8], some (6, true)⟩, ⟨some 10, .bin .add (.k (.int .i64 1)) (.t 9), some (6, true)⟩, ⟨some 11, .mv (.t 3), some (6, true)⟩, ⟨some 12, .bin .add (.t 10) (.t 11), some (6, true)⟩, ⟨some 13, .bin .add (.t 12) (.k (.int .i64 1)), some (6, true)⟩, ⟨some 14, .mv (.t 0), some (6, true)⟩, ⟨some 15, .bin .leq (.t 13) (.t 14), some (6, true)⟩, ⟨some 16, .pick (.t 6) (.t 15) (.k (.bool false)), none⟩] false) (.cond (.t 16) .skip (.exit 0))) (.block 1 (.region [⟨some 17, .mv (.t 3), none⟩, ⟨some 18, .bin .add (.t 17) (.k (.int .i64 1)), none⟩, ⟨some 3, .mv (.t 18), none⟩] false))))) (.seq (.region [⟨some 19, .mv (.t 3), none⟩, ⟨some 2, .mv (.t 19), none⟩] false) .ret)))⟩
theorem tr53 : trProg Try.prog 53 = some af53 := by kernel_rfl
def af54 : AF := ⟨11, [.t 2], .seq (.region [⟨some 2, .mv (.k (.int .i64 0)), none⟩] false) (.seq (.seq (.region [⟨some 3, .mv (.t 0), none⟩, ⟨some 4, .eqf false false [(1, .p)] (.t 3) (.k .nilp), none⟩] false) (.cond (.t 4) (.seq (.region [⟨some 2, .mv (.k (.int .i64 0)), none⟩] false) .ret) .skip)) (.seq (.region [⟨some 5, .mv (.t 0), none⟩, ⟨some 6, .nck (.t 5), none⟩, ⟨some 7, .faddr 0 (.t 6), none⟩, ⟨some 8, .faddr 2 (.t 7), none⟩, ⟨some 9, .load none (.t 8), none⟩, ⟨some 10, .call 53 [.t 9], none⟩, ⟨some 2, .mv (.t 10), none⟩] false) .ret))⟩
theorem tr54 : trProg Try.prog 54 = some af54 := by kernel_rfl
def af55 : AF := ⟨27, [.c 2 (some 4), .t 3], .seq (.region [⟨some 1, .box 31 (.t 0), none⟩, ⟨some 2, .alloc 103 [.int .i64 0, .bool false, .int .i64 0, .int .u32 0], none⟩, ⟨some 3, .mv (.k (.bool false)), none⟩] false) (.seq (.draw 1 [⟨0, ⟨some 5, .load (some 64) (.t 1), none⟩, [], none, []⟩, ⟨2, ⟨some 7, .iaddrA 64 1 (.t 1) (.k (.int .i64 4)), none⟩, [], none, []⟩, ⟨3, ⟨some 8, .load none (.t 7), none⟩, [], none, []⟩, ⟨4, ⟨some 9, .bin .eql (.t 8) (.k (.int .u8 1)), none⟩, [], none, []⟩, ⟨5, ⟨some 10, .load (some 64) (.t 1), none⟩, [], none, []⟩, ⟨7, ⟨some 12, .load (some 64) (.t 1), none⟩, [], none, []⟩, ⟨1, ⟨some 6, .call 71 [.t 5, .k (.int .i64 0), .k (.int .i64 4)], none⟩, [], none, [⟨some 12, .load (some 64) (.t 1), none⟩, ⟨some 10, .load (some 64) (.t 1), none⟩, ⟨some 8, .load none (.t 7), none⟩]⟩, ⟨6, ⟨some 11, .call 71 [.t 10, .k (.int .i64 5), .k (.int .i64 2)], none⟩, [], none, [⟨some 12, .load (some 64) (.t 1), none⟩, ⟨some 8, .load none (.t 7), none⟩]⟩, ⟨8, ⟨some 13, .call 71 [.t 12, .k (.int .i64 7), .k (.int .i64 4)], none⟩, [], none, [⟨some 8, .load none (.t 7), none⟩]⟩, ⟨9, ⟨some 14, .toInt .u32 (.t 13), none⟩, [], none, []⟩, ⟨10, ⟨some 15, .build [.int .i64 0, .bool false, .int .i64 0, .int .u32 0] [(0, (1, .t 6)), (1, (1, .t 9)), (2, (1, .t 11)), (3, (1, .t 14))], none⟩, [], none, []⟩, ⟨11, ⟨some 4, .alloc 103 [.int .i64 0, .bool false, .int .i64 0, .int .u32 0], none⟩, [], some 0, []⟩, ⟨12, ⟨none, .store 4 (.t 4) (.t 15), none⟩, [0], none, []⟩]) (.seq (.seq (.draw 0 [⟨0, ⟨some 16, .load (some 4) (.t 4), none⟩, [], none, []⟩, ⟨1, ⟨some 17, .call 72 [.t 16], none⟩, [], none, []⟩, ⟨2, ⟨some 18, .un .not (.t 17), none⟩, [], none, []⟩, ⟨3, ⟨some 19, .mv (.t 18), none⟩, [], none, []⟩, ⟨4, ⟨some 20, .load (some 4) (.t 4), some (19, false)⟩, [], none, []⟩, ⟨6, ⟨some 22, .load (some 64) (.t 1), some (19, false)⟩, [], none, []⟩, ⟨5, ⟨some 21, .call 73 [.t 20], some (19, false)⟩, [], none, [⟨some 22, .load (some 64) (.t 1), some (19, false)⟩]⟩, ⟨7, ⟨some 23, .eqf true true [(64, .i)] (.t 21) (.t 22), some (19, false)⟩, [], none, []⟩, ⟨8, ⟨some 24, .pick (.t 19) (.k (.bool true)) (.t 23), none⟩, [], none, []⟩]) (.cond (.t 24) (.seq (.region [⟨some 25, .build [.int .i64 0, .bool false, .int .i64 0, .int .u32 0] [], none⟩, ⟨none, .store 4 (.t 2) (.t 25), none⟩, ⟨some 3, .mv (.k (.bool false)), none⟩] false) .ret) .skip)) (.seq (.region [⟨some 26, .load (some 4) (.t 4), none⟩, ⟨none, .store 4 (.t 2) (.t 26), none⟩, ⟨some 3, .mv (.k (.bool true)), none⟩] false) .ret)))⟩
theorem tr55 : trProg Try.prog 55 = some af55 := by kernel_rfl
def af56 : AF := ⟨32, [.t 4, .t 5], .seq (.region [⟨some 2, .box 100 (.t 0), none⟩, ⟨some 3, .box 103 (.t 1), none⟩, ⟨some 4, .mv (.k (.int .i64 0)), none⟩, ⟨some 5, .mv (.k (.int .i64 0)), none⟩] false) (.seq (.region [⟨some 10, .load (some 3) (.t 2), none⟩, ⟨some 11, .load (some 4) (.t 3), none⟩, ⟨some 12, .call 74 [.t 10, .t 11], none⟩, ⟨some 9, .mv (.t 12), none⟩, ⟨some 13, .extract (.t 9) 0, none⟩, ⟨some 14, .extract (.t 9) 1, none⟩, ⟨some 6, .mv (.t 13), none⟩, ⟨some 7, .mv (.t 14), none⟩] false) (.seq (.seq (.region [⟨some 15, .mv (.t 7), none⟩, ⟨some 16, .bin .neq (.t 15) (.k (.int .i64 0)), none⟩] false) (.cond (.t 16) (.seq (.region [⟨some 17, .mv (.t 7), none⟩, ⟨some 4, .mv (.k (.int .i64 0)), none⟩, ⟨some 5, .mv (.t 17), none⟩] false) .ret) .skip)) (.seq (.seq (.region [⟨some 18, .load (some 3) (.t 2), none⟩, ⟨some 19, .mv (.t 6), none⟩, ⟨some 20, .call 75 [.t 18, .t 19], none⟩, ⟨some 8, .mv (.t 20), none⟩] false) (.seq (.region [⟨some 21, .mv (.t 8), none⟩, ⟨some 22, .bin .neq (.t 21) (.k (.int .i64 0)), none⟩] false) (.cond (.t 22) (.seq (.region [⟨some 23, .mv (.t 8), none⟩, ⟨some 4, .mv (.k (.int .i64 0)), none⟩, ⟨some 5, .mv (.t 23), none⟩] false) .ret) .skip))) (.seq (.region [⟨some 24, .mv (.t 6), none⟩, ⟨some 25, .lenL (.t 24), none⟩, ⟨some 26, .load (some 3) (.t 2), none⟩, ⟨some 27, .faddr 0 (.t 3), none⟩, ⟨some 28, .load none (.t 27), none⟩, ⟨some 29, .bin .add (.t 28) (.k (.int .i64 1)), none⟩, ⟨some 30, .build [.int .i64 0, .bool false, .int .i64 0, .int .u32 0] [(0, (1, .t 29))], none⟩, ⟨some 31, .call 58 [.t 26, .t 30], none⟩, ⟨some 4, .mv (.t 25), none⟩, ⟨some 5, .mv (.t 31), none⟩] false) .ret))))⟩
theorem tr56 : trProg Try.prog 56 = some af56 := by kernel_rfl
def af57 : AF := ⟨22, [.t 2], .seq (.region [⟨some 2, .mv (.k (.int .i64 0)), none⟩] false) (.seq (.region [⟨some 3, .mv (.k (.int .i64 0)), none⟩] false) (.seq (.seq (.region [⟨some 6, .mv (.t 0), none⟩, ⟨some 7, .lenL (.t 6), none⟩, ⟨some 8, .mv (.k (.int .i64 0)), none⟩] false) (.block 0 (.loop (.seq (.region [⟨some 9, .bin .lss (.t 8) (.t 7), none⟩] false) (.seq (.cond (.t 9) .skip (.exit 0)) (.seq (.block 1 (.seq (.region [⟨some 10, .iaddrS 64 (.t 6) (.t 8), none⟩, ⟨some 11, .load (some 64) (.t 10), none⟩, ⟨some 5, .alloc 31 z64, none⟩, ⟨none, .store 64 (.t 5) (.t 11), none⟩] false) (.draw 0 [⟨0, ⟨some 12, .mv (.t 3), none⟩, [], none, []⟩, ⟨1, ⟨some 13, .load (some 64) (.t 5), none⟩, [], none, []⟩, ⟨4, ⟨some 16, .load (some 64) (.t 5), none⟩, [], none, []⟩, ⟨2, ⟨some 14, .call 71 [.t 13, .k (.int .i64 0), .k (.int .i64 4)], none⟩, [], none, [⟨some 16, .load (some 64) (.t 5), none⟩]⟩, ⟨3, ⟨some 15, .bin .add (.t 14) (.k (.int .i64 1)), none⟩, [], none, []⟩, ⟨5, ⟨some 17, .call 71 [.t 16, .k (.int .i64 60), .k (.int .i64 4)], none⟩, [], none, []⟩, ⟨6, ⟨some 18, .bin .add (.t 17) (.k (.int .i64 1)), none⟩, [], none, []⟩, ⟨7, ⟨some 19, .minmax true [.t 12, .t 15, .t 18], none⟩, [], none, []⟩, ⟨8, ⟨some 3, .mv (.t 19), none⟩, [], none, []⟩]))) (.region [⟨some 20, .bin .add (.t 8) (.k (.int .i64 1)), none⟩, ⟨some 8, .mv (.t 20), none⟩] false))))))) (.seq (.region [⟨some 21, .mv (.t 3), none⟩, ⟨some 2, .mv (.t 21), none⟩] false) .ret)))⟩
theorem tr57 : trProg Try.prog 57 = some af57 := by kernel_rfl
def af58 : AF := ⟨21, [.t 4], .seq (.region [⟨some 2, .box 100 (.t 0), none⟩, ⟨some 3, .box 103 (.t 1), none⟩, ⟨some 4, .mv (.k (.int .i64 0)), none⟩] false) (.seq (.region [⟨some 8, .load (some 4) (.t 3), none⟩, ⟨some 9, .call 76 [.t 8], none⟩, ⟨some 7, .mv (.t 9), none⟩, ⟨some 10, .extract (.t 7) 0, none⟩, ⟨some 11, .extract (.t 7) 1, none⟩, ⟨some 5, .alloc 31 z64, none⟩, ⟨none, .store 64 (.t 5) (.t 10), none⟩, ⟨some 6, .mv (.t 11), none⟩] false) (.seq (.seq (.region [⟨some 12, .mv (.t 6), none⟩, ⟨some 13, .bin .neq (.t 12) (.k (.int .i64 0)), none⟩] false) (.cond (.t 13) (.seq (.region [⟨some 4, .mv (.k (.int .i64 5)), none⟩] false) .ret) .skip)) (.seq (.region [⟨some 14, .load (some 3) (.t 2), none⟩, ⟨some 15, .faddr 1 (.t 2), none⟩, ⟨some 16, .load none (.t 15), none⟩, ⟨some 17, .load (some 64) (.t 5), none⟩, ⟨some 18, .build z65 [(0, (1, .t 16)), (1, (64, .t 17))], none⟩, ⟨some 19, .bslice 73 65 z65 [(0, (65, .t 18))], none⟩, ⟨some 20, .call 75 [.t 14, .t 19], none⟩, ⟨some 4, .mv (.t 20), none⟩] false) .ret)))⟩
theorem tr58 : trProg Try.prog 58 = some af58 := by kernel_rfl
def af59 : AF := ⟨11, [.t 2], .seq (.region [⟨some 2, .mv (.k (.bool false)), none⟩] false) (.seq (.region [⟨some 3, .mv (.t 0), none⟩, ⟨some 4, .eqf false false [(1, .p)] (.t 3) (.k .nilp), none⟩, ⟨some 5, .mv (.t 4), none⟩, ⟨some 6, .mv (.t 0), some (5, false)⟩, ⟨some 7, .nck (.t 6), some (5, false)⟩, ⟨some 8, .faddr 4 (.t 7), some (5, false)⟩, ⟨some 9, .load none (.t 8), some (5, false)⟩, ⟨some 10, .pick (.t 5) (.k (.bool true)) (.t 9), none⟩, ⟨some 2, .mv (.t 10), none⟩] false) .ret)⟩
theorem tr59 : trProg Try.prog 59 = some af59 := by kernel_rfl
def af60 : AF := ⟨38, [.t 4], .seq (.region [⟨some 4, .mv (.k (.int .i64 0)), none⟩] false) (.seq (.region [⟨some 8, .mkMap, none⟩, ⟨some 5, .mv (.t 8), none⟩] false) (.seq (.seq (.region [⟨some 9, .mv (.t 1), none⟩, ⟨some 10, .lenL (.t 9), none⟩, ⟨some 11, .mv (.k (.int .i64 0)), none⟩] false) (.block 0 (.loop (.seq (.region [⟨some 12, .bin .lss (.t 11) (.t 10), none⟩] false) (.seq (.cond (.t 12) .skip (.exit 0)) (.seq (.block 1 (.seq (.region [⟨some 13, .iaddrS 65 (.t 9) (.t 11), none⟩, ⟨some 14, .load (some 65) (.t 13), none⟩, ⟨some 7, .alloc 73 z65, none⟩, ⟨none, .store 65 (.t 7) (.t 14), none⟩] false) (.seq (.seq (.draw 0 [⟨0, ⟨some 15, .mv (.t 0), none⟩, [], none, []⟩, ⟨1, ⟨some 16, .nck (.t 15), none⟩, [], none, []⟩, ⟨2, ⟨some 17, .faddr 0 (.t 16), none⟩, [], none, []⟩, ⟨3, ⟨some 18, .load (some 3) (.t 17), none⟩, [], none, []⟩, ⟨4, ⟨some 19, .faddr 0 (.t 7), none⟩, [], none, []⟩, ⟨5, ⟨some 20, .load none (.t 19), none⟩, [], none, []⟩, ⟨6, ⟨some 21, .call 77 [.t 18, .t 20], none⟩, [], none, []⟩, ⟨7, ⟨some 22, .un .not (.t 21), none⟩, [], none, []⟩, ⟨8, ⟨some 23, .mv (.t 22), none⟩, [], none, []⟩, ⟨9, ⟨some 24, .mv (.t 5), some (23, false)⟩, [], none, []⟩, ⟨10, ⟨some 25, .faddr 0 (.t 7), some (23, false)⟩, [], none, []⟩, ⟨11, ⟨some 26, .load none (.t 25), some (23, false)⟩, [], none, []⟩, ⟨12, ⟨some 27, .lookup .i (.bool false) false (.t 24) (.t 26), some (23, false)⟩, [], none, []⟩, ⟨13, ⟨some 28, .pick (.t 23) (.k (.bool true)) (.t 27), none⟩, [], none, []⟩]) (.cond (.t 28) (.seq (.region [⟨some 4, .mv (.k (.int .i64 22)), none⟩] false) .ret) .skip)) (.region [⟨some 29, .mv (.t 5), none⟩, ⟨some 30, .faddr 0 (.t 7), none⟩, ⟨some 31, .load none (.t 30), none⟩, ⟨none, .mapSet .i (.t 29) (.t 31) (.k (.bool true)), none⟩] false)))) (.region [⟨some 32, .bin .add (.t 11) (.k (.int .i64 1)), none⟩, ⟨some 11, .mv (.t 32), none⟩] false))))))) (.seq (.seq (.region [⟨some 33, .mv (.t 1), none⟩, ⟨some 34, .lenL (.t 33), none⟩, ⟨some 35, .mv (.t 0), none⟩, ⟨some 36, .call 54 [.t 35], none⟩, ⟨some 37, .bin .gtr (.t 34) (.t 36), none⟩] false) (.cond (.t 37) (.seq (.region [⟨some 4, .mv (.k (.int .i64 28)), none⟩] false) .ret) .skip)) (.seq (.region [⟨some 4, .mv (.k (.int .i64 0)), none⟩] false) .ret))))⟩
theorem tr60 : trProg Try.prog 60 = some af60 := by kernel_rfl
def af61 : AF := ⟨49, [.t 4], .seq (.region [⟨some 4, .mv (.k (.int .i64 0)), none⟩] false) (.seq (.region [⟨some 9, .mv (.t 1), none⟩, ⟨some 10, .call 78 [.t 9], none⟩, ⟨some 5, .mv (.t 10), none⟩] false) (.seq (.seq (.draw 0 [⟨0, ⟨some 11, .mv (.t 0), none⟩, [], none, []⟩, ⟨1, ⟨some 12, .nck (.t 11), none⟩, [], none, []⟩, ⟨2, ⟨some 13, .faddr 0 (.t 12), none⟩, [], none, []⟩, ⟨3, ⟨some 14, .load (some 3) (.t 13), none⟩, [], none, []⟩, ⟨4, ⟨some 15, .mv (.t 0), none⟩, [], none, []⟩, ⟨5, ⟨some 16, .nck (.t 15), none⟩, [], none, []⟩, ⟨6, ⟨some 17, .faddr 0 (.t 16), none⟩, [], none, []⟩, ⟨7, ⟨some 18, .faddr 1 (.t 17), none⟩, [], none, []⟩, ⟨8, ⟨some 19, .load none (.t 18), none⟩, [], none, []⟩, ⟨9, ⟨some 20, .bin .add (.t 19) (.k (.int .i64 1)), none⟩, [], none, []⟩, ⟨10, ⟨some 21, .mv (.t 5), none⟩, [], none, []⟩, ⟨11, ⟨some 22, .call 79 [.t 20, .t 21], none⟩, [], none, [⟨some 14, .load (some 3) (.t 13), none⟩]⟩, ⟨12, ⟨some 23, .call 75 [.t 14, .t 22], none⟩, [], none, []⟩, ⟨13, ⟨some 6, .mv (.t 23), none⟩, [], none, []⟩]) (.seq (.region [⟨some 24, .mv (.t 6), none⟩, ⟨some 25, .bin .neq (.t 24) (.k (.int .i64 0)), none⟩] false) (.cond (.t 25) (.seq (.region [⟨some 26, .mv (.t 6), none⟩, ⟨some 4, .mv (.t 26), none⟩] false) .ret) .skip))) (.seq (.seq (.region [⟨some 27, .mv (.t 0), none⟩, ⟨some 28, .mv (.t 1), none⟩, ⟨some 29, .lenL (.t 28), none⟩, ⟨some 30, .mv (.t 5), none⟩, ⟨some 31, .call 81 [.t 30], none⟩, ⟨some 32, .build [.int .i64 0, .bool false, .int .i64 0, .int .u32 0] [(1, (1, .k (.bool true))), (2, (1, .t 29)), (3, (1, .t 31))], none⟩, ⟨some 33, .call 80 [.t 27, .t 32], none⟩, ⟨some 7, .mv (.t 33), none⟩] false) (.seq (.region [⟨some 34, .mv (.t 7), none⟩, ⟨some 35, .bin .neq (.t 34) (.k (.int .i64 0)), none⟩] false) (.cond (.t 35) (.seq (.region [⟨some 36, .mv (.t 7), none⟩, ⟨some 4, .mv (.t 36), none⟩] false) .ret) .skip))) (.seq (.seq (.region [⟨some 37, .mv (.t 0), none⟩, ⟨some 38, .nck (.t 37), none⟩, ⟨some 39, .faddr 0 (.t 38), none⟩, ⟨some 40, .load (some 3) (.t 39), none⟩, ⟨some 41, .mv (.t 1), none⟩, ⟨some 42, .call 75 [.t 40, .t 41], none⟩, ⟨some 8, .mv (.t 42), none⟩] false) (.seq (.region [⟨some 43, .mv (.t 8), none⟩, ⟨some 44, .bin .neq (.t 43) (.k (.int .i64 0)), none⟩] false) (.cond (.t 44) (.seq (.region [⟨some 45, .mv (.t 8), none⟩, ⟨some 4, .mv (.t 45), none⟩] false) .ret) .skip))) (.seq (.region [⟨some 46, .mv (.t 0), none⟩, ⟨some 47, .build [.int .i64 0, .bool false, .int .i64 0, .int .u32 0] [], none⟩, ⟨some 48, .call 80 [.t 46, .t 47], none⟩, ⟨some 4, .mv (.t 48), none⟩] false) .ret)))))⟩
theorem tr61 : trProg Try.prog 61 = some af61 := by kernel_rfl
def af62 : AF := ⟨41, [.t 4], .seq (.region [⟨some 4, .mv (.k (.int .i64 0)), none⟩] false) (.seq (.block 0 (.seq (.region [⟨some 6, .mv (.t 0), none⟩, ⟨some 7, .call 42 [.t 6], none⟩, ⟨some 5, .mv (.t 7), none⟩] false) (.cond (.t 5) (.seq (.region [⟨some 4, .mv (.k (.int .i64 5)), none⟩] false) .ret) (.seq (.draw 0 [⟨0, ⟨some 9, .mv (.t 1), none⟩, [], none, []⟩, ⟨1, ⟨some 10, .bin .lss (.t 9) (.k (.int .i64 0)), none⟩, [], none, []⟩, ⟨2, ⟨some 11, .mv (.t 10), none⟩, [], none, []⟩, ⟨3, ⟨some 12, .mv (.t 1), some (11, false)⟩, [], none, []⟩, ⟨4, ⟨some 13, .mv (.t 0), some (11, false)⟩, [], none, []⟩, ⟨5, ⟨some 14, .nck (.t 13), some (11, false)⟩, [], none, []⟩, ⟨6, ⟨some 15, .faddr 1 (.t 14), some (11, false)⟩, [], none, []⟩, ⟨7, ⟨some 16, .load none (.t 15), some (11, false)⟩, [], none, []⟩, ⟨8, ⟨some 17, .call 27 [.t 16], some (11, false)⟩, [], none, []⟩, ⟨9, ⟨some 18, .bin .geq (.t 12) (.t 17), some (11, false)⟩, [], none, []⟩, ⟨10, ⟨some 19, .pick (.t 11) (.k (.bool true)) (.t 18), none⟩, [], none, []⟩, ⟨11, ⟨some 20, .mv (.t 19), none⟩, [], none, []⟩, ⟨12, ⟨some 21, .mv (.t 1), some (20, false)⟩, [], none, []⟩, ⟨13, ⟨some 22, .mv (.t 0), some (20, false)⟩, [], none, []⟩, ⟨14, ⟨some 23, .nck (.t 22), some (20, false)⟩, [], none, []⟩, ⟨15, ⟨some 24, .faddr 2 (.t 23), some (20, false)⟩, [], none, []⟩, ⟨16, ⟨some 25, .load none (.t 24), some (20, false)⟩, [], none, []⟩, ⟨17, ⟨some 26, .bin .geq (.t 21) (.t 25), some (20, false)⟩, [], none, []⟩, ⟨18, ⟨some 27, .mv (.t 26), some (20, false)⟩, [], none, []⟩, ⟨19, ⟨some 28, .mv (.t 1), some (27, true)⟩, [], none, []⟩, ⟨20, ⟨some 29, .mv (.t 0), some (27, true)⟩, [], none, []⟩, ⟨21, ⟨some 30, .nck (.t 29), some (27, true)⟩, [], none, []⟩, ⟨22, ⟨some 31, .faddr 2 (.t 30), some (27, true)⟩, [], none, []⟩, ⟨23, ⟨some 32, .load none (.t 31), some (27, true)⟩, [], none, []⟩, ⟨24, ⟨some 33, .mv (.t 0), some (27, true)⟩, [], none, []⟩, ⟨25, ⟨some 34, .nck (.t 33), some (27, true)⟩, [], none, []⟩, ⟨26, ⟨some 35, .faddr 3 (.t 34), some (27, true)⟩, [], none, []⟩, ⟨27, ⟨some 36, .load none (.t 35), some (27, true)⟩, [], none, []⟩, ⟨28, ⟨some 37, .bin .add (.t 32) (.t 36), some (27, true)⟩, [], none, []⟩, ⟨29, ⟨some 38, .bin .lss (.t 28) (.t 37), some (27, true)⟩, [], none, []⟩, ⟨30, ⟨some 39, .pick (.t 27) (.t 38) (.k (.bool false)), some (20, false)⟩, [], none, []⟩, ⟨31, ⟨some 40, .pick (.t 20) (.k (.bool true)) (.t 39), none⟩, [], none, []⟩, ⟨32, ⟨some 8, .mv (.t 40), none⟩, [], none, []⟩]) (.cond (.t 8) (.seq (.region [⟨some 4, .mv (.k (.int .i64 22)), none⟩] false) .ret) .skip))))) (.seq (.region [⟨some 4, .mv (.k (.int .i64 0)), none⟩] false) .ret))⟩
theorem tr62 : trProg Try.prog 62 = some af62 := by kernel_rfl
def af65 : AF := ⟨24, [.t 2], .seq (.region [⟨some 2, .mv (.k .nils), none⟩] false) (.seq (.region [⟨some 3, .mv (.k .nils), none⟩] false) (.seq (.seq (.region [⟨some 6, .mv (.t 0), none⟩, ⟨some 7, .call 82 [.t 6], none⟩, ⟨some 8, .call 50 [.t 7], none⟩, ⟨some 9, .lenL (.t 8), none⟩, ⟨some 10, .mv (.k (.int .i64 0)), none⟩] false) (.block 0 (.loop (.seq (.region [⟨some 11, .bin .lss (.t 10) (.t 9), none⟩] false) (.seq (.cond (.t 11) .skip (.exit 0)) (.seq (.block 1 (.seq (.region [⟨some 12, .iaddrS 1 (.t 8) (.t 10), none⟩, ⟨some 13, .load none (.t 12), none⟩, ⟨some 5, .mv (.t 13), none⟩] false) (.region [⟨some 14, .mv (.t 3), none⟩, ⟨some 15, .mv (.t 5), none⟩, ⟨some 16, .mv (.t 0), none⟩, ⟨some 17, .mv (.t 5), none⟩, ⟨some 18, .lookup .i (.agg z64) false (.t 16) (.t 17), none⟩, ⟨some 19, .build z65 [(0, (1, .t 15)), (1, (64, .t 18))], none⟩, ⟨some 20, .bslice 73 65 z65 [(0, (65, .t 19))], none⟩, ⟨some 21, .app 73 65 72 z65 (.t 14) (.t 20), none⟩, ⟨some 3, .mv (.t 21), none⟩] false))) (.region [⟨some 22, .bin .add (.t 10) (.k (.int .i64 1)), none⟩, ⟨some 10, .mv (.t 22), none⟩] false))))))) (.seq (.region [⟨some 23, .mv (.t 3), none⟩, ⟨some 2, .mv (.t 23), none⟩] false) .ret)))⟩
theorem tr65 : trProg Try.prog 65 = some af65 := by kernel_rfl
def af70 : AF := ⟨7, [.t 2], .seq (.region [⟨some 2, .mv (.k (.int .i64 0)), none⟩] false) (.seq (.region [⟨some 3, .mv (.t 0), none⟩, ⟨some 4, .bin .add (.t 3) (.k (.int .i64 32)), none⟩, ⟨some 5, .bin .sub (.t 4) (.k (.int .i64 1)), none⟩, ⟨some 6, .bin .quo (.t 5) (.k (.int .i64 32)), none⟩, ⟨some 2, .mv (.t 6), none⟩] false) .ret)⟩
theorem tr70 : trProg Try.prog 70 = some af70 := by kernel_rfl
def af71 : AF := ⟨31, [.t 6], .seq (.region [⟨some 3, .box 31 (.t 0), none⟩, ⟨some 6, .mv (.k (.int .i64 0)), none⟩] false) (.seq (.seq (.region [⟨some 10, .mv (.t 1), none⟩, ⟨some 11, .mv (.t 2), none⟩, ⟨some 12, .call 86 [.t 10, .t 11], none⟩, ⟨some 13, .un .not (.t 12), none⟩] false) (.cond (.t 13) (.seq (.region [⟨some 6, .mv (.k (.int .i64 0)), none⟩] false) .ret) .skip)) (.seq (.region [⟨some 7, .mv (.k (.int .i64 0)), none⟩] false) (.seq (.seq (.region [⟨some 14, .mv (.t 1), none⟩, ⟨some 15, .mv (.t 1), none⟩, ⟨some 16, .mv (.t 2), none⟩, ⟨some 17, .bin .add (.t 15) (.t 16), none⟩, ⟨some 18, .slA 64 1 (.t 3) (some (.t 14)) (some (.t 17)), none⟩, ⟨some 19, .lenL (.t 18), none⟩, ⟨some 20, .mv (.k (.int .i64 0)), none⟩] false) (.block 0 (.loop (.seq (.region [⟨some 21, .bin .lss (.t 20) (.t 19), none⟩] false) (.seq (.cond (.t 21) .skip (.exit 0)) (.seq (.block 1 (.seq (.region [⟨some 22, .iaddrS 1 (.t 18) (.t 20), none⟩, ⟨some 23, .load none (.t 22), none⟩, ⟨some 9, .mv (.t 23), none⟩] false) (.region [⟨some 24, .mv (.t 7), none⟩, ⟨some 25, .bin .shl (.t 24) (.k (.int .u64 8)), none⟩, ⟨some 26, .mv (.t 9), none⟩, ⟨some 27, .toInt .i64 (.t 26), none⟩, ⟨some 28, .bin .or (.t 25) (.t 27), none⟩, ⟨some 7, .mv (.t 28), none⟩] false))) (.region [⟨some 29, .bin .add (.t 20) (.k (.int .i64 1)), none⟩, ⟨some 20, .mv (.t 29), none⟩] false))))))) (.seq (.region [⟨some 30, .mv (.t 7), none⟩, ⟨some 6, .mv (.t 30), none⟩] false) .ret))))⟩
theorem tr71 : trProg Try.prog 71 = some af71 := by kernel_rfl
def af72 : AF := ⟨29, [.t 2], .seq (.region [⟨some 1, .box 103 (.t 0), none⟩, ⟨some 2, .mv (.k (.bool false)), none⟩] false) (.seq (.seq (.region [⟨some 3, .faddr 0 (.t 1), none⟩, ⟨some 4, .load none (.t 3), none⟩, ⟨some 5, .bin .lss (.t 4) (.k (.int .i64 0)), none⟩, ⟨some 6, .mv (.t 5), none⟩, ⟨some 7, .faddr 0 (.t 1), some (6, false)⟩, ⟨some 8, .load none (.t 7), some (6, false)⟩, ⟨some 9, .bin .gtr (.t 8) (.k (.int .i64 4294967295)), some (6, false)⟩, ⟨some 10, .pick (.t 6) (.k (.bool true)) (.t 9), none⟩] false) (.cond (.t 10) (.seq (.region [⟨some 2, .mv (.k (.bool false)), none⟩] false) .ret) .skip)) (.seq (.seq (.region [⟨some 11, .faddr 1 (.t 1), none⟩, ⟨some 12, .load none (.t 11), none⟩] false) (.cond (.t 12) (.seq (.region [⟨some 13, .faddr 2 (.t 1), none⟩, ⟨some 14, .load none (.t 13), none⟩, ⟨some 15, .bin .geq (.t 14) (.k (.int .i64 1)), none⟩, ⟨some 16, .mv (.t 15), none⟩, ⟨some 17, .faddr 2 (.t 1), some (16, true)⟩, ⟨some 18, .load none (.t 17), some (16, true)⟩, ⟨some 19, .bin .leq (.t 18) (.k (.int .i64 512)), some (16, true)⟩, ⟨some 20, .pick (.t 16) (.t 19) (.k (.bool false)), none⟩, ⟨some 2, .mv (.t 20), none⟩] false) .ret) .skip)) (.seq (.region [⟨some 21, .faddr 2 (.t 1), none⟩, ⟨some 22, .load none (.t 21), none⟩, ⟨some 23, .bin .eql (.t 22) (.k (.int .i64 0)), none⟩, ⟨some 24, .mv (.t 23), none⟩, ⟨some 25, .faddr 3 (.t 1), some (24, true)⟩, ⟨some 26, .load none (.t 25), some (24, true)⟩, ⟨some 27, .bin .eql (.t 26) (.k (.int .u32 0)), some (24, true)⟩, ⟨some 28, .pick (.t 24) (.t 27) (.k (.bool false)), none⟩, ⟨some 2, .mv (.t 28), none⟩] false) .ret)))⟩
theorem tr72 : trProg Try.prog 72 = some af72 := by kernel_rfl
def af73 : AF := ⟨27, [.c 2 (some 64)], .seq (.region [⟨some 1, .box 103 (.t 0), none⟩, ⟨some 2, .alloc 31 z64, none⟩] false) (.seq (.region [⟨some 3, .mv (.k (.int .i64 0)), none⟩] false) (.seq (.seq (.region [⟨some 5, .faddr 1 (.t 1), none⟩, ⟨some 6, .load none (.t 5), none⟩] false) (.cond (.t 6) (.region [⟨some 3, .mv (.k (.int .i64 1)), none⟩] false) .skip)) (.seq (.region [⟨some 7, .build z64 [], none⟩, ⟨some 8, .faddr 0 (.t 1), none⟩, ⟨some 9, .load none (.t 8), none⟩, ⟨some 10, .call 87 [.t 7, .k (.int .i64 0), .k (.int .i64 4), .t 9], none⟩, ⟨some 4, .alloc 31 z64, none⟩, ⟨none, .store 64 (.t 4) (.t 10), none⟩] false) (.seq (.region [⟨some 11, .load (some 64) (.t 4), none⟩, ⟨some 12, .mv (.t 3), none⟩, ⟨some 13, .call 87 [.t 11, .k (.int .i64 4), .k (.int .i64 1), .t 12], none⟩, ⟨none, .store 64 (.t 4) (.t 13), none⟩] false) (.seq (.region [⟨some 14, .load (some 64) (.t 4), none⟩, ⟨some 15, .faddr 2 (.t 1), none⟩, ⟨some 16, .load none (.t 15), none⟩, ⟨some 17, .call 87 [.t 14, .k (.int .i64 5), .k (.int .i64 2), .t 16], none⟩, ⟨none, .store 64 (.t 4) (.t 17), none⟩] false) (.seq (.region [⟨some 18, .load (some 64) (.t 4), none⟩, ⟨some 19, .faddr 3 (.t 1), none⟩, ⟨some 20, .load none (.t 19), none⟩, ⟨some 21, .toInt .i64 (.t 20), none⟩, ⟨some 22, .call 87 [.t 18, .k (.int .i64 7), .k (.int .i64 4), .t 21], none⟩, ⟨none, .store 64 (.t 4) (.t 22), none⟩] false) (.seq (.region [⟨some 23, .load (some 64) (.t 4), none⟩, ⟨some 24, .faddr 0 (.t 1), none⟩, ⟨some 25, .load none (.t 24), none⟩, ⟨some 26, .call 87 [.t 23, .k (.int .i64 60), .k (.int .i64 4), .t 25], none⟩, ⟨none, .store 64 (.t 2) (.t 26), none⟩] false) .ret)))))))⟩
theorem tr73 : trProg Try.prog 73 = some af73 := by kernel_rfl
def af74 : AF := ⟨85, [.t 4, .t 5], .seq (.region [⟨some 2, .box 100 (.t 0), none⟩, ⟨some 3, .box 103 (.t 1), none⟩, ⟨some 4, .mv (.k .nils), none⟩, ⟨some 5, .mv (.k (.int .i64 0)), none⟩] false) (.seq (.seq (.draw 0 [⟨0, ⟨some 14, .faddr 2 (.t 3), none⟩, [], none, []⟩, ⟨1, ⟨some 15, .load none (.t 14), none⟩, [], none, []⟩, ⟨2, ⟨some 16, .faddr 2 (.t 2), none⟩, [], none, []⟩, ⟨3, ⟨some 17, .load none (.t 16), none⟩, [], none, []⟩, ⟨4, ⟨some 18, .call 53 [.t 17], none⟩, [], none, [⟨some 15, .load none (.t 14), none⟩]⟩, ⟨5, ⟨some 19, .bin .gtr (.t 15) (.t 18), none⟩, [], none, []⟩]) (.cond (.t 19) (.seq (.region [⟨some 4, .mv (.k .nils), none⟩, ⟨some 5, .mv (.k (.int .i64 5)), none⟩] false) .ret) .skip)) (.seq (.region [⟨some 20, .faddr 2 (.t 3), none⟩, ⟨some 21, .load none (.t 20), none⟩, ⟨some 22, .call 70 [.t 21], none⟩, ⟨some 6, .mv (.t 22), none⟩] false) (.seq (.region [⟨some 7, .mv (.k .nils), none⟩] false) (.seq (.seq (.region [⟨some 23, .mv (.t 6), none⟩, ⟨some 24, .faddr 2 (.t 3), none⟩, ⟨some 25, .load none (.t 24), none⟩, ⟨some 26, .bin .add (.t 23) (.t 25), none⟩, ⟨some 27, .mv (.k (.int .i64 0)), none⟩] false) (.block 0 (.loop (.seq (.region [⟨some 28, .bin .lss (.t 27) (.t 26), none⟩] false) (.seq (.cond (.t 28) .skip (.exit 0)) (.seq (.block 1 (.seq (.region [⟨some 29, .mv (.t 27), none⟩, ⟨some 8, .mv (.t 29), none⟩] false) (.seq (.region [⟨some 31, .faddr 0 (.t 2), none⟩, ⟨some 32, .load none (.t 31), none⟩, ⟨some 33, .faddr 1 (.t 2), none⟩, ⟨some 34, .load none (.t 33), none⟩, ⟨some 35, .bin .add (.t 34) (.k (.int .i64 1)), none⟩, ⟨some 36, .mv (.t 8), none⟩, ⟨some 37, .bin .add (.t 35) (.t 36), none⟩, ⟨some 38, .call 17 [.t 32, .t 37], none⟩, ⟨some 30, .mv (.t 38), none⟩, ⟨some 39, .extract (.t 30) 0, none⟩, ⟨some 40, .extract (.t 30) 1, none⟩, ⟨some 9, .alloc 31 z64, none⟩, ⟨none, .store 64 (.t 9) (.t 39), none⟩, ⟨some 10, .mv (.t 40), none⟩] false) (.seq (.seq (.region [⟨some 41, .mv (.t 10), none⟩, ⟨some 42, .bin .neq (.t 41) (.k (.int .i64 0)), none⟩] false) (.cond (.t 42) (.seq (.region [⟨some 43, .mv (.t 10), none⟩, ⟨some 4, .mv (.k .nils), none⟩, ⟨some 5, .mv (.t 43), none⟩] false) .ret) .skip)) (.region [⟨some 44, .mv (.t 7), none⟩, ⟨some 45, .load (some 64) (.t 9), none⟩, ⟨some 46, .bslice 31 64 z64 [(0, (64, .t 45))], none⟩, ⟨some 47, .app 31 64 64 z64 (.t 44) (.t 46), none⟩, ⟨some 7, .mv (.t 47), none⟩] false))))) (.region [⟨some 48, .bin .add (.t 27) (.k (.int .i64 1)), none⟩, ⟨some 27, .mv (.t 48), none⟩] false))))))) (.seq (.region [⟨some 11, .mv (.k .nils), none⟩] false) (.seq (.seq (.region [⟨some 49, .faddr 2 (.t 3), none⟩, ⟨some 50, .load none (.t 49), none⟩, ⟨some 51, .mv (.k (.int .i64 0)), none⟩] false) (.block 2 (.loop (.seq (.region [⟨some 52, .bin .lss (.t 51) (.t 50), none⟩] false) (.seq (.cond (.t 52) .skip (.exit 2)) (.seq (.block 3 (.seq (.region [⟨some 53, .mv (.t 51), none⟩, ⟨some 12, .mv (.t 53), none⟩] false) (.seq (.region [⟨some 54, .mv (.t 7), none⟩, ⟨some 55, .mv (.t 12), none⟩, ⟨some 56, .bin .quo (.t 55) (.k (.int .i64 32)), none⟩, ⟨some 57, .iaddrS 64 (.t 54) (.t 56), none⟩, ⟨some 58, .load (some 64) (.t 57), none⟩, ⟨some 59, .mv (.t 12), none⟩, ⟨some 60, .bin .rem (.t 59) (.k (.int .i64 32)), none⟩, ⟨some 61, .bin .mul (.t 60) (.k (.int .i64 2)), none⟩, ⟨some 62, .call 71 [.t 58, .t 61, .k (.int .i64 2)], none⟩, ⟨some 13, .mv (.t 62), none⟩] false) (.seq (.seq (.region [⟨some 63, .load (some 3) (.t 2), none⟩, ⟨some 64, .mv (.t 13), none⟩, ⟨some 65, .call 77 [.t 63, .t 64], none⟩, ⟨some 66, .un .not (.t 65), none⟩] false) (.cond (.t 66) (.seq (.region [⟨some 4, .mv (.k .nils), none⟩, ⟨some 5, .mv (.k (.int .i64 5)), none⟩] false) .ret) .skip)) (.region [⟨some 67, .mv (.t 11), none⟩, ⟨some 68, .mv (.t 13), none⟩, ⟨some 69, .mv (.t 7), none⟩, ⟨some 70, .mv (.t 6), none⟩, ⟨some 71, .mv (.t 12), none⟩, ⟨some 72, .bin .add (.t 70) (.t 71), none⟩, ⟨some 73, .iaddrS 64 (.t 69) (.t 72), none⟩, ⟨some 74, .load (some 64) (.t 73), none⟩, ⟨some 75, .build z65 [(0, (1, .t 68)), (1, (64, .t 74))], none⟩, ⟨some 76, .bslice 73 65 z65 [(0, (65, .t 75))], none⟩, ⟨some 77, .app 73 65 72 z65 (.t 67) (.t 76), none⟩, ⟨some 11, .mv (.t 77), none⟩] false))))) (.region [⟨some 78, .bin .add (.t 51) (.k (.int .i64 1)), none⟩, ⟨some 51, .mv (.t 78), none⟩] false))))))) (.seq (.seq (.draw 0 [⟨0, ⟨some 79, .mv (.t 7), none⟩, [], none, []⟩, ⟨2, ⟨some 81, .faddr 3 (.t 3), none⟩, [], none, []⟩, ⟨3, ⟨some 82, .load none (.t 81), none⟩, [], none, []⟩, ⟨1, ⟨some 80, .call 81 [.t 79], none⟩, [], none, [⟨some 82, .load none (.t 81), none⟩]⟩, ⟨4, ⟨some 83, .bin .neq (.t 80) (.t 82), none⟩, [], none, []⟩]) (.cond (.t 83) (.seq (.region [⟨some 4, .mv (.k .nils), none⟩, ⟨some 5, .mv (.k (.int .i64 5)), none⟩] false) .ret) .skip)) (.seq (.region [⟨some 84, .mv (.t 11), none⟩, ⟨some 4, .mv (.t 84), none⟩, ⟨some 5, .mv (.k (.int .i64 0)), none⟩] false) .ret))))))))⟩
theorem tr74 : trProg Try.prog 74 = some af74 := by kernel_rfl
def af75 : AF := ⟨28, [.t 4], .seq (.region [⟨some 2, .box 100 (.t 0), none⟩, ⟨some 4, .mv (.k (.int .i64 0)), none⟩] false) (.seq (.seq (.region [⟨some 8, .mv (.t 1), none⟩, ⟨some 9, .lenL (.t 8), none⟩, ⟨some 10, .mv (.k (.int .i64 0)), none⟩] false) (.block 0 (.loop (.seq (.region [⟨some 11, .bin .lss (.t 10) (.t 9), none⟩] false) (.seq (.cond (.t 11) .skip (.exit 0)) (.seq (.block 1 (.seq (.region [⟨some 12, .iaddrS 65 (.t 8) (.t 10), none⟩, ⟨some 13, .load (some 65) (.t 12), none⟩, ⟨some 6, .alloc 73 z65, none⟩, ⟨none, .store 65 (.t 6) (.t 13), none⟩] false) (.seq (.region [⟨some 14, .faddr 0 (.t 2), none⟩, ⟨some 15, .load none (.t 14), none⟩, ⟨some 16, .faddr 0 (.t 6), none⟩, ⟨some 17, .load none (.t 16), none⟩, ⟨some 18, .faddr 1 (.t 6), none⟩, ⟨some 19, .load (some 64) (.t 18), none⟩, ⟨some 20, .call 13 [.t 15, .t 17, .t 19], none⟩, ⟨some 7, .mv (.t 20), none⟩] false) (.seq (.region [⟨some 21, .mv (.t 7), none⟩, ⟨some 22, .bin .neq (.t 21) (.k (.int .i64 0)), none⟩] false) (.cond (.t 22) (.seq (.region [⟨some 23, .mv (.t 7), none⟩, ⟨some 4, .mv (.t 23), none⟩] false) .ret) .skip))))) (.region [⟨some 24, .bin .add (.t 10) (.k (.int .i64 1)), none⟩, ⟨some 10, .mv (.t 24), none⟩] false))))))) (.seq (.region [⟨some 25, .faddr 0 (.t 2), none⟩, ⟨some 26, .load none (.t 25), none⟩, ⟨some 27, .call 16 [.t 26], none⟩, ⟨some 4, .mv (.t 27), none⟩] false) .ret))⟩
theorem tr75 : trProg Try.prog 75 = some af75 := by kernel_rfl
def af76 : AF := ⟨10, [.c 2 (some 64), .t 3], .seq (.region [⟨some 1, .box 103 (.t 0), none⟩, ⟨some 2, .alloc 31 z64, none⟩, ⟨some 3, .mv (.k (.int .i64 0)), none⟩] false) (.seq (.seq (.region [⟨some 4, .load (some 4) (.t 1), none⟩, ⟨some 5, .call 72 [.t 4], none⟩, ⟨some 6, .un .not (.t 5), none⟩] false) (.cond (.t 6) (.seq (.region [⟨some 7, .build z64 [], none⟩, ⟨none, .store 64 (.t 2) (.t 7), none⟩, ⟨some 3, .mv (.k (.int .i64 22)), none⟩] false) .ret) .skip)) (.seq (.region [⟨some 8, .load (some 4) (.t 1), none⟩, ⟨some 9, .call 73 [.t 8], none⟩, ⟨none, .store 64 (.t 2) (.t 9), none⟩, ⟨some 3, .mv (.k (.int .i64 0)), none⟩] false) .ret))⟩
theorem tr76 : trProg Try.prog 76 = some af76 := by kernel_rfl
def af77 : AF := ⟨29, [.t 4], .seq (.region [⟨some 2, .box 100 (.t 0), none⟩, ⟨some 4, .mv (.k (.bool false)), none⟩] false) (.seq (.region [⟨some 5, .mv (.t 1), none⟩, ⟨some 6, .bin .geq (.t 5) (.k (.int .i64 0)), none⟩, ⟨some 7, .mv (.t 6), none⟩, ⟨some 8, .mv (.t 1), some (7, true)⟩, ⟨some 9, .faddr 0 (.t 2), some (7, true)⟩, ⟨some 10, .load none (.t 9), some (7, true)⟩, ⟨some 11, .call 27 [.t 10], some (7, true)⟩, ⟨some 12, .bin .lss (.t 8) (.t 11), some (7, true)⟩, ⟨some 13, .pick (.t 7) (.t 12) (.k (.bool false)), none⟩, ⟨some 14, .mv (.t 13), none⟩, ⟨some 15, .mv (.t 1), some (14, true)⟩, ⟨some 16, .faddr 1 (.t 2), some (14, true)⟩, ⟨some 17, .load none (.t 16), some (14, true)⟩, ⟨some 18, .bin .lss (.t 15) (.t 17), some (14, true)⟩, ⟨some 19, .mv (.t 18), some (14, true)⟩, ⟨some 20, .mv (.t 1), some (19, false)⟩, ⟨some 21, .faddr 1 (.t 2), some (19, false)⟩, ⟨some 22, .load none (.t 21), some (19, false)⟩, ⟨some 23, .faddr 2 (.t 2), some (19, false)⟩, ⟨some 24, .load none (.t 23), some (19, false)⟩, ⟨some 25, .bin .add (.t 22) (.t 24), some (19, false)⟩, ⟨some 26, .bin .geq (.t 20) (.t 25), some (19, false)⟩, ⟨some 27, .pick (.t 19) (.k (.bool true)) (.t 26), some (14, true)⟩, ⟨some 28, .pick (.t 14) (.t 27) (.k (.bool false)), none⟩, ⟨some 4, .mv (.t 28), none⟩] false) .ret)⟩
theorem tr77 : trProg Try.prog 77 = some af77 := by kernel_rfl
def af78 : AF := ⟨21, [.t 2], .seq (.region [⟨some 2, .mv (.k .nils), none⟩] false) (.seq (.region [⟨some 6, .mv (.t 0), none⟩, ⟨some 7, .call 88 [.t 6], none⟩, ⟨some 3, .mv (.t 7), none⟩] false) (.seq (.seq (.region [⟨some 8, .mv (.t 0), none⟩, ⟨some 9, .lenL (.t 8), none⟩, ⟨some 10, .mv (.k (.int .i64 0)), none⟩] false) (.block 0 (.loop (.seq (.region [⟨some 11, .bin .lss (.t 10) (.t 9), none⟩] false) (.seq (.cond (.t 11) .skip (.exit 0)) (.seq (.block 1 (.seq (.region [⟨some 12, .iaddrS 65 (.t 8) (.t 10), none⟩, ⟨some 13, .load (some 65) (.t 12), none⟩, ⟨some 5, .alloc 73 z65, none⟩, ⟨none, .store 65 (.t 5) (.t 13), none⟩] false) (.region [⟨some 14, .mv (.t 3), none⟩, ⟨some 15, .faddr 1 (.t 5), none⟩, ⟨some 16, .load (some 64) (.t 15), none⟩, ⟨some 17, .bslice 31 64 z64 [(0, (64, .t 16))], none⟩, ⟨some 18, .app 31 64 64 z64 (.t 14) (.t 17), none⟩, ⟨some 3, .mv (.t 18), none⟩] false))) (.region [⟨some 19, .bin .add (.t 10) (.k (.int .i64 1)), none⟩, ⟨some 10, .mv (.t 19), none⟩] false))))))) (.seq (.region [⟨some 20, .mv (.t 3), none⟩, ⟨some 2, .mv (.t 20), none⟩] false) .ret)))⟩
theorem tr78 : trProg Try.prog 78 = some af78 := by kernel_rfl
def af79 : AF := ⟨25, [.t 4], .seq (.region [⟨some 4, .mv (.k .nils), none⟩] false) (.seq (.region [⟨some 5, .mv (.k .nils), none⟩] false) (.seq (.seq (.region [⟨some 8, .mv (.t 1), none⟩, ⟨some 9, .lenL (.t 8), none⟩, ⟨some 10, .mv (.k (.int .i64 0)), none⟩] false) (.block 0 (.loop (.seq (.region [⟨some 11, .bin .lss (.t 10) (.t 9), none⟩] false) (.seq (.cond (.t 11) .skip (.exit 0)) (.seq (.block 1 (.seq (.region [⟨some 12, .mv (.t 10), none⟩, ⟨some 13, .iaddrS 64 (.t 8) (.t 10), none⟩, ⟨some 14, .load (some 64) (.t 13), none⟩, ⟨some 7, .alloc 31 z64, none⟩, ⟨some 6, .mv (.t 12), none⟩, ⟨none, .store 64 (.t 7) (.t 14), none⟩] false) (.region [⟨some 15, .mv (.t 5), none⟩, ⟨some 16, .mv (.t 0), none⟩, ⟨some 17, .mv (.t 6), none⟩, ⟨some 18, .bin .add (.t 16) (.t 17), none⟩, ⟨some 19, .load (some 64) (.t 7), none⟩, ⟨some 20, .build z65 [(0, (1, .t 18)), (1, (64, .t 19))], none⟩, ⟨some 21, .bslice 73 65 z65 [(0, (65, .t 20))], none⟩, ⟨some 22, .app 73 65 72 z65 (.t 15) (.t 21), none⟩, ⟨some 5, .mv (.t 22), none⟩] false))) (.region [⟨some 23, .bin .add (.t 10) (.k (.int .i64 1)), none⟩, ⟨some 10, .mv (.t 23), none⟩] false))))))) (.seq (.region [⟨some 24, .mv (.t 5), none⟩, ⟨some 4, .mv (.t 24), none⟩] false) .ret)))⟩
theorem tr79 : trProg Try.prog 79 = some af79 := by kernel_rfl
def af80 : AF := ⟨23, [.t 4], .seq (.region [⟨some 3, .box 103 (.t 1), none⟩, ⟨some 4, .mv (.k (.int .i64 0)), none⟩] false) (.seq (.region [⟨some 5, .mv (.t 0), none⟩, ⟨some 6, .nck (.t 5), none⟩, ⟨some 7, .faddr 3 (.t 6), none⟩, ⟨some 8, .load none (.t 7), none⟩, ⟨some 9, .faddr 0 (.t 3), none⟩, ⟨none, .store 1 (.t 9) (.t 8), none⟩] false) (.seq (.region [⟨some 10, .mv (.t 0), none⟩, ⟨some 11, .nck (.t 10), none⟩, ⟨some 12, .faddr 3 (.t 11), none⟩, ⟨some 13, .load none (.t 12), none⟩, ⟨some 14, .bin .add (.t 13) (.k (.int .i64 1)), none⟩, ⟨some 15, .nck (.t 10), none⟩, ⟨some 16, .faddr 3 (.t 15), none⟩, ⟨none, .store 1 (.t 16) (.t 14), none⟩] false) (.seq (.draw 0 [⟨0, ⟨some 17, .mv (.t 0), none⟩, [], none, []⟩, ⟨1, ⟨some 18, .nck (.t 17), none⟩, [], none, []⟩, ⟨2, ⟨some 19, .faddr 0 (.t 18), none⟩, [], none, []⟩, ⟨3, ⟨some 20, .load (some 3) (.t 19), none⟩, [], none, []⟩, ⟨4, ⟨some 21, .load (some 4) (.t 3), none⟩, [], none, []⟩, ⟨5, ⟨some 22, .call 58 [.t 20, .t 21], none⟩, [], none, []⟩, ⟨6, ⟨some 4, .mv (.t 22), none⟩, [], none, []⟩]) .ret)))⟩
theorem tr80 : trProg Try.prog 80 = some af80 := by kernel_rfl
def af81 : AF := ⟨17, [.t 2], .seq (.region [⟨some 2, .mv (.k (.int .u32 0)), none⟩] false) (.seq (.region [⟨some 3, .alloc 141 [.int .u32 0, .int .u32 0], none⟩] false) (.seq (.seq (.region [⟨some 6, .mv (.t 0), none⟩, ⟨some 7, .lenL (.t 6), none⟩, ⟨some 8, .mv (.k (.int .i64 0)), none⟩] false) (.block 0 (.loop (.seq (.region [⟨some 9, .bin .lss (.t 8) (.t 7), none⟩] false) (.seq (.cond (.t 9) .skip (.exit 0)) (.seq (.block 1 (.seq (.region [⟨some 10, .iaddrS 64 (.t 6) (.t 8), none⟩, ⟨some 11, .load (some 64) (.t 10), none⟩, ⟨some 5, .alloc 31 z64, none⟩, ⟨none, .store 64 (.t 5) (.t 11), none⟩] false) (.region [⟨some 12, .slA 64 1 (.t 5) none none, none⟩, ⟨some 13, .call 89 [.t 3, .t 12], none⟩] false))) (.region [⟨some 14, .bin .add (.t 8) (.k (.int .i64 1)), none⟩, ⟨some 8, .mv (.t 14), none⟩] false))))))) (.seq (.region [⟨some 15, .load (some 2) (.t 3), none⟩, ⟨some 16, .call 90 [.t 15], none⟩, ⟨some 2, .mv (.t 16), none⟩] false) .ret)))⟩
theorem tr81 : trProg Try.prog 81 = some af81 := by kernel_rfl
def af82 : AF := ⟨4, [.t 2], .seq (.region [⟨some 1, .box 113 (.t 0), none⟩, ⟨some 2, .mv (.k .nilf), none⟩] false) (.seq (.region [⟨some 3, .mkf 91 [] [.t 1], none⟩, ⟨some 2, .mv (.t 3), none⟩] false) .ret)⟩
theorem tr82 : trProg Try.prog 82 = some af82 := by kernel_rfl
def af86 : AF := ⟨16, [.t 4], .seq (.region [⟨some 4, .mv (.k (.bool false)), none⟩] false) (.seq (.region [⟨some 5, .mv (.t 1), none⟩, ⟨some 6, .bin .geq (.t 5) (.k (.int .i64 1)), none⟩, ⟨some 7, .mv (.t 6), none⟩, ⟨some 8, .mv (.t 1), some (7, true)⟩, ⟨some 9, .bin .leq (.t 8) (.k (.int .i64 4)), some (7, true)⟩, ⟨some 10, .pick (.t 7) (.t 9) (.k (.bool false)), none⟩, ⟨some 11, .mv (.t 10), none⟩, ⟨some 12, .mv (.t 0), some (11, true)⟩, ⟨some 13, .mv (.t 1), some (11, true)⟩, ⟨some 14, .call 103 [.t 12, .t 13], some (11, true)⟩, ⟨some 15, .pick (.t 11) (.t 14) (.k (.bool false)), none⟩, ⟨some 4, .mv (.t 15), none⟩] false) .ret)⟩
theorem tr86 : trProg Try.prog 86 = some af86 := by kernel_rfl
def af87 : AF := ⟨33, [.c 8 (some 64)], .seq (.region [⟨some 4, .box 31 (.t 0), none⟩, ⟨some 8, .alloc 31 z64, none⟩] false) (.seq (.seq (.region [⟨some 10, .mv (.t 1), none⟩, ⟨some 11, .mv (.t 2), none⟩, ⟨some 12, .call 86 [.t 10, .t 11], none⟩, ⟨some 13, .un .not (.t 12), none⟩] false) (.cond (.t 13) (.seq (.region [⟨some 14, .load (some 64) (.t 4), none⟩, ⟨none, .store 64 (.t 8) (.t 14), none⟩] false) .ret) .skip)) (.seq (.seq (.region [⟨some 15, .mv (.t 2), none⟩, ⟨some 16, .mv (.k (.int .i64 0)), none⟩] false) (.block 0 (.loop (.seq (.region [⟨some 17, .bin .lss (.t 16) (.t 15), none⟩] false) (.seq (.cond (.t 17) .skip (.exit 0)) (.seq (.block 1 (.seq (.region [⟨some 18, .mv (.t 16), none⟩, ⟨some 9, .mv (.t 18), none⟩] false) (.region [⟨some 19, .mv (.t 1), none⟩, ⟨some 20, .mv (.t 2), none⟩, ⟨some 21, .bin .add (.t 19) (.t 20), none⟩, ⟨some 22, .bin .sub (.t 21) (.k (.int .i64 1)), none⟩, ⟨some 23, .mv (.t 9), none⟩, ⟨some 24, .bin .sub (.t 22) (.t 23), none⟩, ⟨some 25, .mv (.t 3), none⟩, ⟨some 26, .mv (.t 9), none⟩, ⟨some 27, .bin .mul (.k (.int .i64 8)) (.t 26), none⟩, ⟨some 28, .bin .shr (.t 25) (.t 27), none⟩, ⟨some 29, .toInt .u8 (.t 28), none⟩, ⟨some 30, .iaddrA 64 1 (.t 4) (.t 24), none⟩, ⟨none, .store 1 (.t 30) (.t 29), none⟩] false))) (.region [⟨some 31, .bin .add (.t 16) (.k (.int .i64 1)), none⟩, ⟨some 16, .mv (.t 31), none⟩] false))))))) (.seq (.region [⟨some 32, .load (some 64) (.t 4), none⟩, ⟨none, .store 64 (.t 8) (.t 32), none⟩] false) .ret)))⟩
theorem tr87 : trProg Try.prog 87 = some af87 := by kernel_rfl
def af88 : AF := ⟨35, [.t 2], .seq (.region [⟨some 2, .mv (.k .nils), none⟩] false) (.seq (.region [⟨some 7, .mv (.t 0), none⟩, ⟨some 8, .lenL (.t 7), none⟩, ⟨some 9, .call 70 [.t 8], none⟩, ⟨some 10, .mkSlice 31 64 64 z64 (.t 9) (.t 9), none⟩, ⟨some 3, .mv (.t 10), none⟩] false) (.seq (.seq (.region [⟨some 11, .mv (.t 0), none⟩, ⟨some 12, .lenL (.t 11), none⟩, ⟨some 13, .mv (.k (.int .i64 0)), none⟩] false) (.block 0 (.loop (.seq (.region [⟨some 14, .bin .lss (.t 13) (.t 12), none⟩] false) (.seq (.cond (.t 14) .skip (.exit 0)) (.seq (.block 1 (.seq (.region [⟨some 15, .mv (.t 13), none⟩, ⟨some 16, .iaddrS 65 (.t 11) (.t 13), none⟩, ⟨some 17, .load (some 65) (.t 16), none⟩, ⟨some 5, .alloc 73 z65, none⟩, ⟨some 4, .mv (.t 15), none⟩, ⟨none, .store 65 (.t 5) (.t 17), none⟩] false) (.seq (.region [⟨some 18, .mv (.t 3), none⟩, ⟨some 19, .mv (.t 4), none⟩, ⟨some 20, .bin .quo (.t 19) (.k (.int .i64 32)), none⟩, ⟨some 21, .iaddrS 64 (.t 18) (.t 20), none⟩, ⟨some 6, .mv (.t 21), none⟩] false) (.draw 0 [⟨0, ⟨some 22, .mv (.t 6), none⟩, [], none, []⟩, ⟨1, ⟨some 23, .mv (.t 6), none⟩, [], none, []⟩, ⟨2, ⟨some 24, .nck (.t 23), none⟩, [], none, []⟩, ⟨3, ⟨some 25, .load (some 64) (.t 24), none⟩, [], none, []⟩, ⟨4, ⟨some 26, .mv (.t 4), none⟩, [], none, []⟩, ⟨5, ⟨some 27, .bin .rem (.t 26) (.k (.int .i64 32)), none⟩, [], none, []⟩, ⟨6, ⟨some 28, .bin .mul (.t 27) (.k (.int .i64 2)), none⟩, [], none, []⟩, ⟨7, ⟨some 29, .faddr 0 (.t 5), none⟩, [], none, []⟩, ⟨8, ⟨some 30, .load none (.t 29), none⟩, [], none, []⟩, ⟨9, ⟨some 31, .call 87 [.t 25, .t 28, .k (.int .i64 2), .t 30], none⟩, [], none, []⟩, ⟨10, ⟨some 32, .nck (.t 22), none⟩, [], none, []⟩, ⟨11, ⟨none, .store 64 (.t 32) (.t 31), none⟩, [], none, []⟩])))) (.region [⟨some 33, .bin .add (.t 13) (.k (.int .i64 1)), none⟩, ⟨some 13, .mv (.t 33), none⟩] false))))))) (.seq (.region [⟨some 34, .mv (.t 3), none⟩, ⟨some 2, .mv (.t 34), none⟩] false) .ret)))⟩
theorem tr88 : trProg Try.prog 88 = some af88 := by kernel_rfl
def af89 : AF := ⟨37, [], .seq (.region [⟨some 6, .mv (.t 1), none⟩, ⟨some 7, .lenL (.t 6), none⟩, ⟨some 8, .mv (.k (.int .i64 0)), none⟩] false) (.block 0 (.loop (.seq (.region [⟨some 9, .bin .lss (.t 8) (.t 7), none⟩] false) (.seq (.cond (.t 9) .skip (.exit 0)) (.seq (.block 1 (.seq (.region [⟨some 10, .iaddrS 1 (.t 6) (.t 8), none⟩, ⟨some 11, .load none (.t 10), none⟩, ⟨some 5, .mv (.t 11), none⟩] false) (.seq (.region [⟨some 12, .mv (.t 0), none⟩, ⟨some 13, .mv (.t 0), none⟩, ⟨some 14, .nck (.t 13), none⟩, ⟨some 15, .faddr 0 (.t 14), none⟩, ⟨some 16, .load none (.t 15), none⟩, ⟨some 17, .mv (.t 5), none⟩, ⟨some 18, .toInt .u32 (.t 17), none⟩, ⟨some 19, .bin .add (.t 16) (.t 18), none⟩, ⟨some 20, .bin .rem (.t 19) (.k (.int .u32 65535)), none⟩, ⟨some 21, .nck (.t 12), none⟩, ⟨some 22, .faddr 0 (.t 21), none⟩, ⟨none, .store 1 (.t 22) (.t 20), none⟩] false) (.draw 0 [⟨0, ⟨some 23, .mv (.t 0), none⟩, [], none, []⟩, ⟨1, ⟨some 24, .mv (.t 0), none⟩, [], none, []⟩, ⟨2, ⟨some 25, .nck (.t 24), none⟩, [], none, []⟩, ⟨3, ⟨some 26, .faddr 1 (.t 25), none⟩, [], none, []⟩, ⟨4, ⟨some 27, .load none (.t 26), none⟩, [], none, []⟩, ⟨5, ⟨some 28, .mv (.t 0), none⟩, [], none, []⟩, ⟨6, ⟨some 29, .nck (.t 28), none⟩, [], none, []⟩, ⟨7, ⟨some 30, .faddr 0 (.t 29), none⟩, [], none, []⟩, ⟨8, ⟨some 31, .load none (.t 30), none⟩, [], none, []⟩, ⟨9, ⟨some 32, .bin .add (.t 27) (.t 31), none⟩, [], none, []⟩, ⟨10, ⟨some 33, .bin .rem (.t 32) (.k (.int .u32 65535)), none⟩, [], none, []⟩, ⟨11, ⟨some 34, .nck (.t 23), none⟩, [], none, []⟩, ⟨12, ⟨some 35, .faddr 1 (.t 34), none⟩, [], none, []⟩, ⟨13, ⟨none, .store 1 (.t 35) (.t 33), none⟩, [], none, []⟩])))) (.region [⟨some 36, .bin .add (.t 8) (.k (.int .i64 1)), none⟩, ⟨some 8, .mv (.t 36), none⟩] false))))))⟩
theorem tr89 : trProg Try.prog 89 = some af89 := by kernel_rfl
def af90 : AF := ⟨9, [.t 2], .seq (.region [⟨some 1, .box 141 (.t 0), none⟩, ⟨some 2, .mv (.k (.int .u32 0)), none⟩] false) (.seq (.region [⟨some 3, .faddr 1 (.t 1), none⟩, ⟨some 4, .load none (.t 3), none⟩, ⟨some 5, .bin .shl (.t 4) (.k (.int .u64 16)), none⟩, ⟨some 6, .faddr 0 (.t 1), none⟩, ⟨some 7, .load none (.t 6), none⟩, ⟨some 8, .bin .or (.t 5) (.t 7), none⟩, ⟨some 2, .mv (.t 8), none⟩] false) .ret)⟩
theorem tr90 : trProg Try.prog 90 = some af90 := by kernel_rfl
def af103 : AF := ⟨21, [.t 4], .seq (.region [⟨some 4, .mv (.k (.bool false)), none⟩] false) (.seq (.region [⟨some 5, .mv (.t 0), none⟩, ⟨some 6, .bin .geq (.t 5) (.k (.int .i64 0)), none⟩, ⟨some 7, .mv (.t 6), none⟩, ⟨some 8, .mv (.t 1), some (7, true)⟩, ⟨some 9, .bin .geq (.t 8) (.k (.int .i64 0)), some (7, true)⟩, ⟨some 10, .pick (.t 7) (.t 9) (.k (.bool false)), none⟩, ⟨some 11, .mv (.t 10), none⟩, ⟨some 12, .mv (.t 1), some (11, true)⟩, ⟨some 13, .bin .leq (.t 12) (.k (.int .i64 64)), some (11, true)⟩, ⟨some 14, .pick (.t 11) (.t 13) (.k (.bool false)), none⟩, ⟨some 15, .mv (.t 14), none⟩, ⟨some 16, .mv (.t 0), some (15, true)⟩, ⟨some 17, .mv (.t 1), some (15, true)⟩, ⟨some 18, .bin .sub (.k (.int .i64 64)) (.t 17), some (15, true)⟩, ⟨some 19, .bin .leq (.t 16) (.t 18), some (15, true)⟩, ⟨some 20, .pick (.t 15) (.t 19) (.k (.bool false)), none⟩, ⟨some 4, .mv (.t 20), none⟩] false) .ret)⟩
theorem tr103 : trProg Try.prog 103 = some af103 := by kernel_rfl

def FF : Nat → Option AF
  | 10 => some af10
  | 11 => some af11
  | 12 => some af12
  | 13 => some af13
  | 14 => some af14
  | 17 => some af17
  | 18 => some af18
  | 19 => some af19
  | 20 => some af20
  | 27 => some af27
  | 29 => some af29
  | 31 => some af31
  | 32 => some af32
  | 34 => some af34
  | 35 => some af35
  | 36 => some af36
  | 37 => some af37
  | 38 => some af38
  | 39 => some af39
  | 42 => some af42
  | 44 => some af44
  | 45 => some af45
  | 46 => some af46
  | 47 => some af47
  | 48 => some af48
  | 49 => some af49
  | 51 => some af51
  | 53 => some af53
  | 54 => some af54
  | 55 => some af55
  | 56 => some af56
  | 57 => some af57
  | 58 => some af58
  | 59 => some af59
  | 60 => some af60
  | 61 => some af61
  | 62 => some af62
  | 65 => some af65
  | 70 => some af70
  | 71 => some af71
  | 72 => some af72
  | 73 => some af73
  | 74 => some af74
  | 75 => some af75
  | 76 => some af76
  | 77 => some af77
  | 78 => some af78
  | 79 => some af79
  | 80 => some af80
  | 81 => some af81
  | 82 => some af82
  | 86 => some af86
  | 87 => some af87
  | 88 => some af88
  | 89 => some af89
  | 90 => some af90
  | 103 => some af103
  | _ => none

theorem ffok : ∀ f af, FF f = some af → trProg Try.prog f = some af := by
  intro f af h
  unfold FF at h
  split at h
  · cases h; exact tr10
  · cases h; exact tr11
  · cases h; exact tr12
  · cases h; exact tr13
  · cases h; exact tr14
  · cases h; exact tr17
  · cases h; exact tr18
  · cases h; exact tr19
  · cases h; exact tr20
  · cases h; exact tr27
  · cases h; exact tr29
  · cases h; exact tr31
  · cases h; exact tr32
  · cases h; exact tr34
  · cases h; exact tr35
  · cases h; exact tr36
  · cases h; exact tr37
  · cases h; exact tr38
  · cases h; exact tr39
  · cases h; exact tr42
  · cases h; exact tr44
  · cases h; exact tr45
  · cases h; exact tr46
  · cases h; exact tr47
  · cases h; exact tr48
  · cases h; exact tr49
  · cases h; exact tr51
  · cases h; exact tr53
  · cases h; exact tr54
  · cases h; exact tr55
  · cases h; exact tr56
  · cases h; exact tr57
  · cases h; exact tr58
  · cases h; exact tr59
  · cases h; exact tr60
  · cases h; exact tr61
  · cases h; exact tr62
  · cases h; exact tr65
  · cases h; exact tr70
  · cases h; exact tr71
  · cases h; exact tr72
  · cases h; exact tr73
  · cases h; exact tr74
  · cases h; exact tr75
  · cases h; exact tr76
  · cases h; exact tr77
  · cases h; exact tr78
  · cases h; exact tr79
  · cases h; exact tr80
  · cases h; exact tr81
  · cases h; exact tr82
  · cases h; exact tr86
  · cases h; exact tr87
  · cases h; exact tr88
  · cases h; exact tr89
  · cases h; exact tr90
  · cases h; exact tr103
  · cases h

theorem mixed : Try.prog.follows .mixedOrders = true := by kernel_rfl
end Go.Proofs.Ytfbkeieoeagkdaa

/- Disk: Flush, by hand: a range over a map. -/
namespace Go.Proofs.Ytfbkeieoeagkdaa
open Go AM
set_option linter.unusedSimpArgs false
set_option linter.unusedVariables false
set_option maxRecDepth 100000

/-! The plain law -/

def keyIs (i : Nat) (e : V × V) : Bool := match e.1 with
  | .int _ k => decide (k = (i : Int))
  | _ => false
/-- All pages of a cache laid into the row. -/
def layPages (es : List (V × V)) (np : Nat) (cs : List V) : List V :=
  (List.range np).flatMap fun i => match es.find? (keyIs i) with
    | some (_, .agg pg) => pg
    | _ => (cs.drop (i * 64)).take 64
def pageEnt (np : Nat) (e : V × V) : Bool := match e with
  | (.int .i64 k, .agg pg) => decide (0 ≤ k ∧ k < (np : Int)) && decide (pg.length = 64) && V.plains pg && pg.all V.one
  | _ => false
def apart : List (V × V) → Bool
  | [] => true
  | e :: r => r.all (fun x => !(V.beq e.1 x.1)) && apart r

theorem pageEnt_inv {np : Nat} {e : V × V} (h : pageEnt np e = true) : ∃ (k : Nat) (pg : List V), e = (.int .i64 (k : Int), .agg pg) ∧ k < np ∧ pg.length = 64 ∧ V.plains pg = true ∧ pg.all V.one = true := by
  unfold pageEnt at h
  split at h
  · rename_i k pg
    simp only [Bool.and_eq_true, decide_eq_true_eq] at h
    obtain ⟨⟨⟨⟨h1, h2⟩, h3⟩, h4⟩, h5⟩ := h
    obtain ⟨n, rfl⟩ := Int.eq_ofNat_of_zero_le h1
    exact ⟨n, pg, rfl, by omega, h3, h4, h5⟩
  · cases h

/-- The row behind some of the pages. -/
def Laid (es : List (V × V)) (np : Nat) (cs : List V) (done : List Nat) (cs' : List V) : Prop :=
  cs'.length = cs.length ∧ ∀ i, i < np → (∃ j ∈ done, ∃ pg, es[j]? = some (.int .i64 (i : Int), .agg pg) ∧ (cs'.drop (i * 64)).take 64 = pg) ∨
    ((∀ j ∈ done, ∀ e, es[j]? = some e → keyIs i e = false) ∧ (cs'.drop (i * 64)).take 64 = (cs.drop (i * 64)).take 64)

theorem Laid.start (es : List (V × V)) (np : Nat) (cs : List V) : Laid es np cs [] cs := ⟨rfl, fun i _ => .inr ⟨by simp, rfl⟩⟩

theorem splice_same {cs pg : List V} {k : Nat} (h : pg.length = 64) (hk : k * 64 + 64 ≤ cs.length) : ((splice cs (k * 64) pg).drop (k * 64)).take 64 = pg := by
  unfold splice
  rw [List.append_assoc, List.drop_append_of_le_length (by simp; omega), List.drop_eq_nil_of_le (by rw [List.length_take]; omega), List.nil_append, List.take_left' h]
theorem splice_off {cs pg : List V} {k i : Nat} (h : pg.length = 64) (hk : k * 64 + 64 ≤ cs.length) (hi : i ≠ k) : ((splice cs (k * 64) pg).drop (i * 64)).take 64 = (cs.drop (i * 64)).take 64 := by
  apply List.ext_getElem?
  intro j
  simp only [List.getElem?_take, List.getElem?_drop]
  split
  · rename_i hj
    unfold splice
    rw [List.append_assoc, List.getElem?_append, List.getElem?_append, h]
    have l1 : (List.take (k * 64) cs).length = k * 64 := by simp; omega
    rw [l1]
    by_cases hlt : i * 64 + j < k * 64
    · rw [if_pos hlt, List.getElem?_take, if_pos hlt]
    · have : (k + 1) * 64 ≤ i * 64 := Nat.mul_le_mul_right 64 (by omega)
      rw [if_neg hlt, if_neg (by omega), List.getElem?_drop]
      congr 1; omega
  · rfl

theorem Laid.step {es : List (V × V)} {np : Nat} {cs cs' pg : List V} {done : List Nat} {j k : Nat} (h : Laid es np cs done cs') (hj : es[j]? = some (.int .i64 (k : Int), .agg pg)) (hp : pg.length = 64) (hk : k * 64 + 64 ≤ cs.length) : Laid es np cs (j :: done) (splice cs' (k * 64) pg) := by
  obtain ⟨h1, h2⟩ := h
  refine ⟨by rw [splice_length (by omega), h1], fun i hi => ?_⟩
  by_cases hik : i = k
  · subst hik
    exact .inl ⟨j, List.mem_cons_self, pg, hj, splice_same hp (by omega)⟩
  · rcases h2 i hi with ⟨j', hj', pg', h3, h4⟩ | ⟨h3, h4⟩
    · exact .inl ⟨j', List.mem_cons_of_mem _ hj', pg', h3, by rw [splice_off hp (by omega) hik]; exact h4⟩
    · refine .inr ⟨fun j' hj' e he => ?_, by rw [splice_off hp (by omega) hik]; exact h4⟩
      rcases List.mem_cons.1 hj' with rfl | hj'
      · rw [hj] at he
        cases he
        simp only [keyIs, decide_eq_false_iff_not]
        omega
      · exact h3 j' hj' e he

theorem apart_key : ∀ {es : List (V × V)} {i j : Nat} {a b : V × V}, apart es = true → es[i]? = some a → es[j]? = some b → (∃ q n, a.1 = .int q n ∧ b.1 = .int q n) → i = j
  | [], i, j, a, b, h, hi, hj, hab => by simp at hi
  | e :: es, 0, 0, a, b, h, hi, hj, hab => rfl
  | e :: es, 0, j + 1, a, b, h, hi, hj, hab => by
    obtain ⟨q, n, ha, hb⟩ := hab
    simp only [apart, Bool.and_eq_true, List.all_eq_true] at h
    simp only [List.getElem?_cons_zero, Option.some.injEq] at hi
    simp only [List.getElem?_cons_succ] at hj
    have := h.1 b (List.mem_of_getElem? hj)
    subst hi
    rw [ha, hb] at this
    simp [V.beq] at this
  | e :: es, i + 1, 0, a, b, h, hi, hj, hab => by
    obtain ⟨q, n, ha, hb⟩ := hab
    simp only [apart, Bool.and_eq_true, List.all_eq_true] at h
    simp only [List.getElem?_cons_zero, Option.some.injEq] at hj
    simp only [List.getElem?_cons_succ] at hi
    have := h.1 a (List.mem_of_getElem? hi)
    subst hj
    rw [ha, hb] at this
    simp [V.beq] at this
  | e :: es, i + 1, j + 1, a, b, h, hi, hj, hab => by
    simp only [apart, Bool.and_eq_true] at h
    simp only [List.getElem?_cons_succ] at hi hj
    rw [apart_key h.2 hi hj hab]

theorem fm_congr {α β : Type} : ∀ {l : List α} {f g : α → List β}, (∀ x ∈ l, f x = g x) → l.flatMap f = l.flatMap g
  | [], f, g, h => rfl
  | x :: l, f, g, h => by rw [List.flatMap_cons, List.flatMap_cons, h x List.mem_cons_self, fm_congr fun y hy => h y (List.mem_cons_of_mem _ hy)]

theorem blocks : ∀ (n : Nat) (cs : List V), cs.length = n * 64 → ((List.range n).flatMap fun i => (cs.drop (i * 64)).take 64) = cs
  | 0, cs, h => by simp at h; simp [h]
  | n + 1, cs, h => by
    have ih := blocks n (cs.take (n * 64)) (by simp; omega)
    rw [List.range_succ, List.flatMap_append, List.flatMap_cons, List.flatMap_nil, List.append_nil]
    have e : ((List.range n).flatMap fun i => (cs.drop (i * 64)).take 64) = (List.range n).flatMap fun i => ((cs.take (n * 64)).drop (i * 64)).take 64 := by
      refine fm_congr fun i hi => ?_
      have hi := List.mem_range.1 hi
      have : (i + 1) * 64 ≤ n * 64 := Nat.mul_le_mul_right 64 hi
      rw [List.drop_take, List.take_take, Nat.min_eq_left (by omega)]
    rw [e, ih, List.take_of_length_le (l := cs.drop (n * 64)) (by simp; omega), List.take_append_drop]

theorem Laid.fin {es : List (V × V)} {np : Nat} {cs cs' : List V} {done : List Nat} (h : Laid es np cs done cs') (hlen : cs.length = np * 64) (hes : es.all (pageEnt np) = true) (hap : apart es = true) (hall : ∀ i, i < es.length → i ∈ done) : cs' = layPages es np cs := by
  obtain ⟨h1, h2⟩ := h
  rw [← blocks np cs' (by omega)]
  unfold layPages
  refine fm_congr fun i hi => ?_
  have hi := List.mem_range.1 hi
  rcases h2 i hi with ⟨j, hj, pg, h3, h4⟩ | ⟨h3, h4⟩
  · cases hf : es.find? (keyIs i) with
    | none =>
      have := List.find?_eq_none.1 hf _ (List.mem_of_getElem? h3)
      simp [keyIs] at this
    | some e =>
      have hm := List.mem_of_find?_eq_some hf
      have hk := List.find?_some hf
      obtain ⟨j2, hj2⟩ := List.getElem?_of_mem hm
      obtain ⟨k, pg2, rfl, _⟩ := pageEnt_inv (List.all_eq_true.1 hes e hm)
      simp only [keyIs, decide_eq_true_eq] at hk
      have : j2 = j := apart_key hap hj2 h3 ⟨.i64, i, by simp only; rw [hk], rfl⟩
      subst this
      rw [h3] at hj2
      cases hj2
      exact h4
  · cases hf : es.find? (keyIs i) with
    | none => exact h4
    | some e =>
      have hm := List.mem_of_find?_eq_some hf
      have hk := List.find?_some hf
      obtain ⟨j2, hj2⟩ := List.getElem?_of_mem hm
      have := h3 j2 (hall j2 (List.getElem?_eq_some_iff.1 hj2).1) e hj2
      rw [this] at hk; cases hk
/-! In whatever order -/
theorem apart_iff : ∀ {es : List (V × V)}, (∀ e ∈ es, ∃ k, e.1 = .int .i64 k) → (apart es = true ↔ (es.map (·.1)).Nodup)
  | [], _ => by simp [apart]
  | e :: r, h => by
    have ih := apart_iff (es := r) fun x hx => h x (List.mem_cons_of_mem _ hx)
    simp only [apart, Bool.and_eq_true, List.map_cons, List.nodup_cons, ih, List.all_eq_true, List.mem_map, not_exists, not_and]
    refine and_congr ⟨fun h1 x hx he => ?_, fun h1 x hx => ?_⟩ Iff.rfl
    · have h2 := h1 x hx
      obtain ⟨k, hk⟩ := h e List.mem_cons_self
      rw [he, hk] at h2
      simp [V.beq] at h2
    · obtain ⟨k, hk⟩ := h e List.mem_cons_self
      obtain ⟨j, hj⟩ := h x (List.mem_cons_of_mem _ hx)
      have h2 := h1 x hx
      rw [hk, hj] at h2 ⊢
      have h3 : k ≠ j := fun hkj => h2 (by rw [hkj])
      simpa [V.beq] using h3
theorem apart_perm {es eq : List (V × V)} (hp : eq.Perm es) (hk : ∀ e ∈ es, ∃ k, e.1 = .int .i64 k) (h : apart es = true) : apart eq = true := by
  refine (apart_iff fun e he => hk e (hp.mem_iff.1 he)).2 ?_
  exact (hp.map _).nodup_iff.2 ((apart_iff hk).1 h)
theorem all_perm {es eq : List (V × V)} {p : V × V → Bool} (hp : eq.Perm es) (h : es.all p = true) : eq.all p = true :=
  List.all_eq_true.2 fun e he => List.all_eq_true.1 h e (hp.mem_iff.1 he)
theorem lay_perm {es eq : List (V × V)} {np : Nat} {cs : List V} (hp : eq.Perm es) (hes : es.all (pageEnt np) = true) (hap : apart es = true) : layPages eq np cs = layPages es np cs := by
  unfold layPages
  refine fm_congr fun i _ => ?_
  have hkey : ∀ e, e ∈ es → keyIs i e = true → e.1 = .int .i64 (i : Int) := fun e he hk => by
    obtain ⟨k, pg, rfl, _⟩ := pageEnt_inv (List.all_eq_true.1 hes e he)
    simp only [keyIs, decide_eq_true_eq] at hk
    rw [hk]
  have : eq.find? (keyIs i) = es.find? (keyIs i) := by
    cases h1 : eq.find? (keyIs i) with
    | none =>
      symm
      exact List.find?_eq_none.2 fun x hx => List.find?_eq_none.1 h1 x (hp.mem_iff.2 hx)
    | some a =>
      have ha := hp.mem_iff.1 (List.mem_of_find?_eq_some h1)
      have ka := List.find?_some h1
      cases h2 : es.find? (keyIs i) with
      | none => exact absurd ka (List.find?_eq_none.1 h2 a ha)
      | some b =>
        have hb := List.mem_of_find?_eq_some h2
        have kb := List.find?_some h2
        obtain ⟨ja, hja⟩ := List.getElem?_of_mem ha
        obtain ⟨jb, hjb⟩ := List.getElem?_of_mem hb
        have := apart_key hap hja hjb ⟨.i64, i, hkey a ha ka, hkey b hb kb⟩
        subst this
        rw [hja] at hjb
        exact hjb
  rw [this]
end Go.Proofs.Ytfbkeieoeagkdaa

/- Disk: the fuse; Flush by hand: what it comes to. -/
namespace Go.Proofs.Ytfbkeieoeagkdaa
open Go AM
set_option linter.unusedSimpArgs false
set_option linter.unusedVariables false
set_option maxRecDepth 100000

def t0 : HandT := fun _ => none
def g0 : Nat → Option Ans := fun _ => none
def E0 : ExtF := extH g0 t0
theorem hxE0 : ExtMono E0 := extH_mono g0 t0
theorem E0_none {f : Nat} (h : g0 f = none) (h' : t0 f = none := by rfl) (c : CallF) : E0 c f = none := extH_none h h' c
theorem ok0 : HandOk Try.prog t0 := fun f k args h out oh hk => by cases hk
theorem sndE0 : ExtSound Try.prog E0 := extH_sound plain0_sound ok0

/-- The fuse behind a step: may it be done; the three cells. -/
def burnB (on down : Bool) (left : Int) : Bool := !down && !(on && decide (IntKind.i64.wrap (left - 1) < 0))
def burnC (on down : Bool) (left : Int) : List V := if down = true then [.bool on, .bool down, .int .i64 left] else if on = true then [.bool true, .bool (decide (IntKind.i64.wrap (left - 1) < 0)), .int .i64 (IntKind.i64.wrap (left - 1))] else [.bool on, .bool down, .int .i64 left]

theorem leave_same {o o' : List AM.Obj} {e d d' : Nat} {v : V} (hv : v.plain = true) (hl : o'.length = o.length) (hd : o.length ≤ d' → o' = o) : ∃ d'', (leave ⟨o, e, d⟩ ⟨o', o.length, d'⟩ v).getD ⟨o, e, d⟩ = ⟨o', e, d''⟩ ∧ min d d' ≤ d'' := by
  unfold leave
  simp only
  rw [if_pos ⟨Nat.le_refl _, hv⟩]
  split
  · rename_i hc
    exact ⟨d, by rw [hd hc]; rfl, Nat.min_le_left _ _⟩
  · exact ⟨min d d', by rw [List.take_of_length_le (by omega)]; rfl, Nat.le_refl _⟩

set_option maxHeartbeats 4000000 in
theorem burn_q {o : List AM.Obj} {e d dd t : Nat} {on down : Bool} {left : Int} {r : List V} (h : o[dd]? = some (.cells .ex t 0 (.bool on :: .bool down :: .int .i64 left :: r))) :
    ∃ v oh, Den FF E0 49 [.ptr dd 0] ⟨o, e, d⟩ = some (v, oh) ∧ v = .val (.bool (burnB on down left)) ∧ ∃ d', oh.getD ⟨o, e, d⟩ = ⟨o.set dd (.cells .ex t 0 (burnC on down left ++ r)), e, d'⟩ ∧ min d dd ≤ d' := by
  have hl := get_lt h
  have hs : ∀ x, (o.set dd x)[dd]? = some x := fun x => List.getElem?_set_self hl
  have hid : o.set dd (.cells .ex t 0 (.bool on :: .bool down :: .int .i64 left :: r)) = o := by
    apply List.ext_getElem?
    intro i
    by_cases hi : dd = i
    · subst hi; rw [hs, h]
    · rw [List.getElem?_set_ne hi]
  refine To.denE hxE0 (f := 49) (a := af49) rfl (E0_none rfl) (Nat.le_of_ble_eq_true rfl) ?_
  have l2 : ∀ n, (2 : Nat) < n + 1 + 1 + 1 := fun n => by omega
  have l1 : ∀ n, (1 : Nat) < n + 1 + 1 + 1 := fun n => by omega
  have m2 : ∀ n, (2 : Nat) + 1 ≤ n + 1 + 1 + 1 := fun n => by omega
  have m1 : ∀ n, (1 : Nat) + 1 ≤ n + 1 + 1 + 1 := fun n => by omega
  cases down
  case true =>
    (repeat' (first | refine To.seq hxE0 ?_ | refine To.op0 hxE0 (by simp only [go_sem, reduceIte, seval, Heap.get, h]; rfl) ?_ | refine To.nop hxE0 ?_ | (refine To.condT hxE0 ?_ ?_; focus (simp only [go_sem, reduceIte, seval]; done)) | refine To.ret hxE0 ?_))
    refine ⟨_, _, fin1 (i := 2) rfl, by simp only [get_fput, reduceIte, Nat.reduceEqDiff]; simp [burnB], ?_⟩
    simp only [burnC, if_true, List.cons_append, List.nil_append, hid]
    obtain ⟨d2, q1, q2⟩ := leave_same (e := e) (d := d) (d' := o.length) (v := .bool false) rfl rfl (fun _ => rfl)
    exact ⟨d2, by simp only [get_fput, reduceIte, Nat.reduceEqDiff]; exact q1, by omega⟩
  cases on
  case false =>
    (repeat' (first | refine To.seq hxE0 ?_ | refine To.op0 hxE0 (by simp only [go_sem, reduceIte, seval, Heap.get, Nat.add_zero, h]; rfl) ?_ | refine To.nop hxE0 ?_ | (refine To.condT hxE0 ?_ ?_; focus (simp only [go_sem, reduceIte, seval]; done)) | (refine To.condF hxE0 ?_ ?_; focus (simp only [go_sem, reduceIte, seval]; done)) | refine To.ret hxE0 ?_ | refine To.skip hxE0 ?_))
    refine ⟨_, _, fin1 (i := 2) rfl, by simp only [get_fput, reduceIte, Nat.reduceEqDiff]; simp [burnB], ?_⟩
    simp only [burnC, Bool.false_eq_true, if_false, List.cons_append, List.nil_append, hid]
    obtain ⟨d2, q1, q2⟩ := leave_same (e := e) (d := d) (d' := o.length) (v := .bool true) rfl rfl (fun _ => rfl)
    exact ⟨d2, by simp only [get_fput, reduceIte, Nat.reduceEqDiff]; exact q1, by omega⟩
  (repeat' (first | refine To.seq hxE0 ?_ | refine To.op0 hxE0 (by simp only [go_sem, reduceIte, seval, Heap.sets, Heap.get, Nat.add_zero, V.one, List.all_cons, List.all_nil, ne_eq, not_false_eq_true, Nat.zero_le, h, hs, List.set_set, m1, m2]; rfl) ?_ | refine To.op1 hxE0 (by simp only [go_sem, reduceIte, seval, Heap.sets, V.one, List.all_cons, List.all_nil, ne_eq, not_false_eq_true, Nat.zero_le, h, hs, List.set_set, m1, m2]; rfl) ?_ | refine To.nop hxE0 ?_ | (refine To.condF hxE0 ?_ ?_; focus (simp only [go_sem, reduceIte, seval]; done)) | refine To.ret hxE0 ?_ | refine To.skip hxE0 ?_))
  refine ⟨_, _, fin1 (i := 2) rfl, by simp only [get_fput, reduceIte, Nat.reduceEqDiff]; simp [burnB], ?_⟩
  simp only [burnC, Bool.false_eq_true, if_false, if_true, List.cons_append, List.nil_append]
  obtain ⟨d2, q1, q2⟩ := leave_same (o := o) (o' := o.set dd (.cells .ex t 0 (.bool true :: .bool (decide (IntKind.i64.wrap (left - 1) < 0)) :: .int .i64 (IntKind.i64.wrap (left - 1)) :: r))) (e := e) (d := d) (d' := min (min o.length dd) dd) (v := .bool (!decide (IntKind.i64.wrap (left - 1) < 0))) rfl (by simp) (fun hc => by omega)
  exact ⟨d2, by simp only [get_fput, reduceIte, Nat.reduceEqDiff]; exact q1, by omega⟩
end Go.Proofs.Ytfbkeieoeagkdaa

/- Disk: Flush by hand: that it is so. -/
namespace Go.Proofs.Ytfbkeieoeagkdaa
open Go AM
set_option linter.unusedSimpArgs false
set_option linter.unusedVariables false
set_option maxRecDepth 100000

def flushG : List V → Heap → Option (Out × Option Heap)
  | [.nilp], _ => some (.val (.int .i64 5), none)
  | [.ptr dd 0], h => match h.o[dd]? with
    | some (.cells .ex t 0 [.bool on, .bool down, .int .i64 left, .slice pg 0 np 64, .map lm]) =>
      if burnB on down left = false then some (.val (.int .i64 5), some ⟨h.o.set dd (.cells .ex t 0 (burnC on down left ++ [.slice pg 0 np 64, .map lm])), h.e, min h.d dd⟩)
      else match h.o[pg]?, h.o[lm]? with
        | some (.cells ck t' 0 cs), some (.map es) =>
          if ck ≠ .ro ∧ dd ≠ pg ∧ cs.length = np * 64 ∧ es.all (pageEnt np) = true ∧ apart es = true then
            some (.val (.int .i64 0), some ⟨((h.o.set dd (.cells .ex t 0 (burnC on down left ++ [.slice pg 0 np 64, .map lm]))).set pg (.cells ck t' 0 (layPages es np cs))).set lm (.map []), h.e, min h.d (min dd (min pg lm))⟩)
          else none
        | _, _ => none
    | _ => none
  | _, _ => none

theorem hcall0 : CallOk Try.prog (Den FF E0) := callOk_den mixed ffok sndE0

def R1 : AC := .region [⟨some 5, .mv (.t 0), none⟩, ⟨some 6, .eqf false false [(1, .p)] (.t 5) (.k .nilp), none⟩, ⟨some 7, .mv (.t 6), none⟩, ⟨some 8, .mv (.t 0), some (7, false)⟩, ⟨some 9, .nck (.t 8), some (7, false)⟩, ⟨some 10, .faddr 0 (.t 9), some (7, false)⟩, ⟨some 11, .call 49 [.t 10], some (7, false)⟩, ⟨some 12, .un .not (.t 11), some (7, false)⟩, ⟨some 13, .pick (.t 7) (.k (.bool true)) (.t 12), none⟩] false

set_option maxHeartbeats 4000000 in
theorem flush_nil {h : Heap} {ι : Map} {w : World} (hr : HR ι h.o w) : Calls Try.prog 16 (V.reals ι [.nilp]).toArray w fun e w' => ∃ κ, Nx ι h w κ h w' ∧ OutOk κ h.o.length e (.val (.int .i64 5)) := by
  refine calls_body (h2 := h) (args := [.nilp]) Try.func16 rfl rfl hr ⟨trivial, trivial⟩ (by decide) fun a hs hd => ?_
  apply wp_seq
  refine wp_mono (exec_ok hcall0 mixed (ds := []) (h := enter h) 1 (ac := .region [⟨some 2, .mv (.k (.int .i64 0)), none⟩] false) (by kernel_rfl) hr hs hd (by simp only [exec, go_sem, reduceIte, seval]; rfl)) ?_
  rintro e1 a1 w1 ⟨κ, hn, hs1, hd1, rfl⟩
  apply wp_seq
  apply wp_seq
  refine wp_mono (exec_ok hcall0 mixed (ds := []) 1 (ac := R1) (by kernel_rfl) hn.hr hs1 hd1 (by simp only [exec, R1, go_sem, reduceIte, seval, initS]; rfl)) ?_
  rintro e2 a2 w2 ⟨κ2, hn2, hs2, hd2, rfl⟩
  refine wp_cond (t := true) (by have := hs2.val 13; simp only [go_sem, reduceIte, seval, V.real] at this; exact this) ?_
  apply wp_seq
  refine wp_mono (exec_ok hcall0 mixed (ds := []) 1 (ac := .region [⟨some 2, .mv (.k (.int .i64 5)), none⟩] false) (by kernel_rfl) hn2.hr hs2 hd2 (by simp only [exec, go_sem, reduceIte, seval]; rfl)) ?_
  rintro e3 a3 w3 ⟨κ3, hn3, hs3, hd3, rfl⟩
  refine wp_ret ⟨.inr rfl, κ3, _, _, hn.trans (hn2.trans hn3), hs3, hd3, [.int .i64 5], ?_, rfl, ?_⟩
  · simp only [go_sem, reduceIte, seval]
  · rw [show leave h ⟨h.o, h.o.length, h.o.length⟩ (.int .i64 5) = none from leave_plain (Kp.enter' h) rfl]
    exact ⟨rfl, rfl, Nat.le_refl _⟩

theorem take_set {o o' : List AM.Obj} {pg lm : Nat} {x y : AM.Obj} (hlen : o.length ≤ o'.length) (hp : pg < o.length) (hl : lm < o.length) (hx : o'[pg]? = some x) (hne : pg ≠ lm) (hold : ∀ l, l < o.length → l ≠ pg → l ≠ lm → o'[l]? = o[l]?) : (o'.set lm y).take o.length = (o.set pg x).set lm y := by
  apply List.ext_getElem?
  intro i
  rw [List.getElem?_take]
  by_cases hi : i < o.length
  · rw [if_pos hi]
    by_cases h1 : i = lm
    · subst h1
      rw [List.getElem?_set_self (by omega), List.getElem?_set_self (by simpa using hi)]
    · rw [List.getElem?_set_ne (Ne.symm h1), List.getElem?_set_ne (Ne.symm h1)]
      by_cases h2 : i = pg
      · subst h2
        rw [List.getElem?_set_self hi, hx]
      · rw [List.getElem?_set_ne (Ne.symm h2)]
        exact hold i hi h2 h1
  · rw [if_neg hi, List.getElem?_eq_none (by simp; omega)]

set_option maxHeartbeats 8000000 in
theorem flush_go {o : List AM.Obj} {e d dd t pg np lm t' : Nat} {on down : Bool} {left : Int} {ck : CK} {cs : List V} {es : List (V × V)} (hD : o[dd]? = some (.cells .ex t 0 [.bool on, .bool down, .int .i64 left, .slice pg 0 np 64, .map lm])) (hB : burnB on down left = true)
    (hP : o[pg]? = some (.cells ck t' 0 cs)) (hM : o[lm]? = some (.map es)) (hck : ck ≠ .ro) (hdp : dd ≠ pg) (hlen : cs.length = np * 64) (hes : es.all (pageEnt np) = true) (hap : apart es = true) {ι : Map} {w : World} (hr : HR ι o w) :
    Calls Try.prog 16 (V.reals ι [.ptr dd 0]).toArray w fun e1 w' => ∃ κ, Nx ι ⟨o, e, d⟩ w κ ⟨((o.set dd (.cells .ex t 0 (burnC on down left ++ [.slice pg 0 np 64, .map lm]))).set pg (.cells ck t' 0 (layPages es np cs))).set lm (.map []), e, min d (min dd (min pg lm))⟩ w' ∧
      OutOk κ (((o.set dd (.cells .ex t 0 (burnC on down left ++ [.slice pg 0 np 64, .map lm]))).set pg (.cells ck t' 0 (layPages es np cs))).set lm (.map [])).length e1 (.val (.int .i64 0)) := by
  have ldd := get_lt hD
  have lpg := get_lt hP
  have llm := get_lt hM
  have hdl : dd ≠ lm := by rintro rfl; rw [hD] at hM; cases hM
  have hpl : pg ≠ lm := by rintro rfl; rw [hP] at hM; cases hM
  refine calls_body (h2 := ⟨((o.set dd (.cells .ex t 0 (burnC on down left ++ [.slice pg 0 np 64, .map lm]))).set pg (.cells ck t' 0 (layPages es np cs))).set lm (.map []), e, min d (min dd (min pg lm))⟩) (h := ⟨o, e, d⟩) (args := [.ptr dd 0]) Try.func16 rfl rfl hr ⟨ldd, trivial⟩ (Nat.le_of_ble_eq_true rfl) fun a hs hd => ?_
  obtain ⟨vb, ohb, qb, rfl, db, hgb, hdb⟩ := burn_q (e := o.length) (d := o.length) hD
  rw [hB] at qb
  obtain ⟨bc, bl, hbc⟩ : ∃ b1 b2 b3, burnC on down left = [.bool b1, .bool b2, .int .i64 b3] := by
    unfold burnC; split
    · exact ⟨_, _, _, rfl⟩
    · split
      · exact ⟨_, _, _, rfl⟩
      · exact ⟨_, _, _, rfl⟩
  obtain ⟨bn, hbc⟩ := hbc
  rw [hbc] at hgb ⊢
  simp only [List.cons_append, List.nil_append] at hgb ⊢
  generalize ho1 : o.set dd (.cells .ex t 0 [.bool bc, .bool bl, .int .i64 bn, .slice pg 0 np 64, .map lm]) = o1 at hgb ⊢
  have l1 : o1.length = o.length := by rw [← ho1]; simp
  have hD1 : o1[dd]? = some (.cells .ex t 0 [.bool bc, .bool bl, .int .i64 bn, .slice pg 0 np 64, .map lm]) := by rw [← ho1]; exact List.getElem?_set_self ldd
  have hP1 : o1[pg]? = some (.cells ck t' 0 cs) := by rw [← ho1, List.getElem?_set_ne hdp]; exact hP
  have hM1 : o1[lm]? = some (.map es) := by rw [← ho1, List.getElem?_set_ne hdl]; exact hM
  apply wp_seq
  refine wp_mono (exec_ok hcall0 mixed (ds := []) (h := enter ⟨o, e, d⟩) 1 (ac := .region [⟨some 2, .mv (.k (.int .i64 0)), none⟩] false) (by kernel_rfl) hr hs hd (by simp only [exec, go_sem, reduceIte, seval]; rfl)) ?_
  rintro e1 a1 w1 ⟨κ, hn, hs1, hd1, rfl⟩
  apply wp_seq
  apply wp_seq
  have ex1 : exec (Den FF E0) 1 R1 (fput (initS [.ptr dd 0]) 2 (.int .i64 0)) ⟨o, o.length, o.length⟩ = some (.norm, fput (fput (fput (fput (fput (fput (fput (fput (fput (fput (initS [.ptr dd 0]) 2 (.int .i64 0)) 5 (.ptr dd 0)) 6 (.bool false)) 7 (.bool false)) 8 (.ptr dd 0)) 9 (.ptr dd 0)) 10 (.ptr dd 0)) 11 (.bool true)) 12 (.bool false)) 13 (.bool false), ⟨o1, o.length, db⟩) := by
    simp only [exec, R1, go_sem, reduceIte, seval, initS, qb]
    cases ohb with
    | none => simp only [Option.getD_none] at hgb; rw [hgb]; simp only [go_sem, reduceIte, seval]
    | some hh => simp only [Option.getD_some] at hgb; rw [hgb]; simp only [go_sem, reduceIte, seval]
  refine wp_mono (exec_ok hcall0 mixed (ds := []) 1 (ac := R1) (by kernel_rfl) hn.hr hs1 hd1 ex1) ?_
  rintro e2 a2 w2 ⟨κ2, hn2, hs2, hd2, rfl⟩
  refine wp_cond (t := false) (by have := hs2.val 13; simp only [go_sem, reduceIte, seval, V.real] at this; exact this) (wp_skip ?_)
  apply wp_seq
  have hdb' : min o.length dd ≤ db := hdb
  have l1' : o1.length ≤ o1.length := Nat.le_refl _
  let Inv : List (V × V) → List Nat → (Nat → V) → Heap → Prop := fun eq done S hc => S 0 = .ptr dd 0 ∧ ∃ cs', hc.o[pg]? = some (.cells ck t' 0 cs') ∧ Laid eq np cs done cs' ∧ o1.length < hc.o.length ∧ (∀ l, l < o1.length → l ≠ pg → l ≠ lm → hc.o[l]? = o1[l]?) ∧ hc.e = o.length ∧ min dd (min pg lm) ≤ hc.d
  refine range_block hcall0 mixed (ds := []) (PA := [⟨some 14, .mv (.t 0), none⟩, ⟨some 15, .nck (.t 14), none⟩, ⟨some 16, .faddr 4 (.t 15), none⟩, ⟨some 17, .load none (.t 16), none⟩])
    (RC := [⟨some 22, .extract (.t 21) 0, none⟩, ⟨some 23, .extract (.t 21) 1, none⟩, ⟨some 4, .alloc 31 z64, none⟩, ⟨some 3, .mv (.t 22), none⟩, ⟨none, .store 64 (.t 4) (.t 23), none⟩])
    (AB := .draw 0 [⟨0, ⟨some 24, .mv (.t 0), none⟩, [], none, []⟩, ⟨1, ⟨some 25, .nck (.t 24), none⟩, [], none, []⟩, ⟨2, ⟨some 26, .faddr 3 (.t 25), none⟩, [], none, []⟩, ⟨3, ⟨some 27, .load none (.t 26), none⟩, [], none, []⟩, ⟨4, ⟨some 28, .mv (.t 3), none⟩, [], none, []⟩, ⟨5, ⟨some 29, .load (some 64) (.t 4), none⟩, [], none, []⟩, ⟨6, ⟨some 30, .iaddrS 64 (.t 27) (.t 28), none⟩, [], none, []⟩, ⟨7, ⟨none, .store 64 (.t 30) (.t 29), none⟩, [], none, []⟩])
    (k := 1) rfl rfl rfl rfl rfl (by kernel_rfl) Try.underlying29 (Nat.le_of_ble_eq_true rfl) rfl rfl rfl rfl rfl rfl rfl rfl rfl rfl rfl (by kernel_rfl) (by kernel_rfl) (Nat.le_of_ble_eq_true rfl) (Nat.le_of_ble_eq_true rfl) (Nat.le_of_ble_eq_true rfl) (by decide) (by decide)
    hn2.hr hs2 hd2 (h1 := ⟨o1, o.length, db⟩) (by simp only [go_sem, reduceIte, seval, Heap.get, hD1]; rfl) (es := es) (lm := lm) (by simp only [go_sem, reduceIte, seval]) hM1 (fun e he => ?_) Inv ?_ ?_ ?_ ?_ ?_
  · obtain ⟨k, pgv, rfl, _, _, hp, _⟩ := pageEnt_inv (List.all_eq_true.1 hes e he)
    exact ⟨rfl, hp⟩
  · rintro eq done S hc x ⟨h1, cs', h2, h3, h4, h5, h6, h7⟩
    refine ⟨h1, cs', ?_, h3, by simpa using h4, fun l hl a b => ?_, h6, ?_⟩
    · show (hc.o.set o1.length _)[pg]? = _
      rw [List.getElem?_set_ne (by omega)]; exact h2
    · show (hc.o.set o1.length _)[l]? = _
      rw [List.getElem?_set_ne (by omega)]; exact h5 l hl a b
    · show _ ≤ min hc.d o1.length
      omega
  · rintro eq done S hc v u ⟨h1, h2⟩
    exact ⟨by simp only [go_sem, reduceIte, seval, h1], h2⟩
  · rintro eq hpm done S hc i en ⟨h1, cs', h2, hL', h4, h5, h6, h7⟩ hit hi hnot ⟨x1, hx1⟩ ⟨x2, hx2⟩
    obtain ⟨k, pgv, rfl, hk, hpl64, hpp, hpo⟩ := pageEnt_inv (List.all_eq_true.1 (all_perm hpm hes) en (List.mem_of_getElem? hi))
    obtain ⟨ho, he, hd'⟩ := hc
    simp only at h2 h4 h5 h6 h7 hx1 hx2
    have gd : ∀ r, (ho ++ r)[dd]? = some (.cells .ex t 0 [.bool bc, .bool bl, .int .i64 bn, .slice pg 0 np 64, .map lm]) := fun r => by rw [List.getElem?_append_left (by omega), h5 dd (by omega) hdp hdl]; exact hD1
    have gp : ∀ r, (ho ++ r)[pg]? = some (.cells ck t' 0 cs') := fun r => by rw [List.getElem?_append_left (by omega)]; exact h2
    have hlen' : cs'.length = np * 64 := hL'.1.trans hlen
    have hkk : (k + 1) * 64 ≤ np * 64 := Nat.mul_le_mul_right 64 hk
    have hk0 : k * 64 + 64 ≤ cs'.length := by omega
    have ix : idxOf np (.int .i64 (k : Int)) = some k := idxOf_nat hk
    have hz : List.drop 64 z64 = [] := rfl
    have hz2 : z64.length = 64 := rfl
    have htk : List.take 64 pgv = pgv := List.take_of_length_le (by omega)
    refine ⟨_, _, .norm, _, _, (by simp only [go_sem, reduceIte, seval, Heap.sets, List.drop_of_length_le, ne_eq, not_false_eq_true, Nat.zero_le, hpl64, hpo, hpp, hz2]; rfl), (by simp only [exec, go_sem, reduceIte, seval, Heap.gets, Heap.sets, Heap.get, List.take_of_length_le, Nat.add_zero, List.all_nil, ne_eq, not_false_eq_true, Nat.zero_le, h1, gd, gp, hpl64, hpo, hpp, ix, hk0, hck]; rfl), .inl rfl, ?_, ?_, ?_, ?_⟩
    · simp only [go_sem, reduceIte, seval]; exact hit
    · show ((ho ++ [_]).set pg _)[o1.length]? = ho[o1.length]?
      rw [List.getElem?_set_ne (by omega), List.getElem?_append_left (by omega)]
    · show ((ho ++ [_]).set pg _)[lm]? = ho[lm]?
      rw [List.getElem?_set_ne hpl, List.getElem?_append_left (by omega)]
    · refine ⟨by simp only [go_sem, reduceIte, seval, h1], splice cs' (k * 64) pgv, ?_, hL'.step hi hpl64 (by omega), ?_, fun l hl a b => ?_, h6, ?_⟩
      · show ((ho ++ [_]).set pg _)[pg]? = _
        rw [List.getElem?_set_self (by simp; omega)]
        unfold splice
        rw [hpl64, List.append_assoc]
      · show o1.length < ((ho ++ [_]).set pg _).length
        simp; omega
      · show ((ho ++ [_]).set pg _)[l]? = _
        rw [List.getElem?_set_ne (Ne.symm a), List.getElem?_append_left (by omega)]
        exact h5 l hl a b
      · show _ ≤ min (min hd' ho.length) pg
        omega
  · intro eq hpm xi xm
    refine ⟨by simp only [go_sem, reduceIte, seval, initS], cs, ?_, Laid.start eq np cs, by simp, fun l hl a b => ?_, rfl, ?_⟩
    · show ((o1 ++ [AM.Obj.raw xi]).set lm _)[pg]? = _
      rw [List.getElem?_set_ne (Ne.symm hpl), List.getElem?_append_left (by omega)]; exact hP1
    · show ((o1 ++ [AM.Obj.raw xi]).set lm _)[l]? = _
      rw [List.getElem?_set_ne (Ne.symm b), List.getElem?_append_left hl]
    · show _ ≤ min db lm
      omega
  · rintro eq hpm κ3 a3 w3 S3 ⟨ho, he, hd'⟩ done hn3 hs3 hd3 ⟨h1, cs', h2, hL, h4, h5, h6, h7⟩ hall ⟨x, hx⟩
    simp only at h2 h4 h5 h6 h7 hx
    subst h6
    obtain rfl : cs' = layPages es np cs := by
      rw [← lay_perm hpm hes hap]
      exact hL.fin hlen (all_perm hpm hes) (apart_perm hpm (fun e he => by obtain ⟨k, pgv, rfl, _⟩ := pageEnt_inv (List.all_eq_true.1 hes e he); exact ⟨_, rfl⟩) hap) hall
    have gd : (ho.set lm (.map es))[dd]? = some (.cells .ex t 0 [.bool bc, .bool bl, .int .i64 bn, .slice pg 0 np 64, .map lm]) := by rw [List.getElem?_set_ne (Ne.symm hdl), h5 dd (by omega) hdp hdl]; exact hD1
    have gm : (ho.set lm (.map es))[lm]? = some (.map es) := List.getElem?_set_self (by omega)
    have hs3' : SR κ3 S3 Try.f16.ntmps a3.tmps (ho.set lm (.map es)).length := by rw [List.length_set]; exact hs3
    apply wp_seq
    refine wp_mono (exec_ok hcall0 mixed (ds := []) (h := ⟨ho.set lm (.map es), o.length, min hd' lm⟩) 1 (ac := .region [⟨some 31, .mv (.t 0), none⟩, ⟨some 32, .nck (.t 31), none⟩, ⟨some 33, .faddr 4 (.t 32), none⟩, ⟨some 34, .load none (.t 33), none⟩, ⟨none, .clearM (.t 34), none⟩] false) (by kernel_rfl) hn3.hr hs3' hd3 (by simp only [exec, go_sem, reduceIte, seval, Heap.get, h1, gd, gm]; rfl)) ?_
    rintro e4 a4 w4 ⟨κ4, hn4, hs4, hd4, rfl⟩
    apply wp_seq
    refine wp_mono (exec_ok hcall0 mixed (ds := []) 1 (ac := .region [⟨some 2, .mv (.k (.int .i64 0)), none⟩] false) (by kernel_rfl) hn4.hr hs4 hd4 (by simp only [exec, go_sem, reduceIte, seval]; rfl)) ?_
    rintro e5 a5 w5 ⟨κ5, hn5, hs5, hd5, rfl⟩
    refine wp_ret ⟨.inr rfl, κ5, _, _, hn.trans (hn2.trans (hn3.trans (hn4.trans hn5))), hs5, hd5, [.int .i64 0], ?_, rfl, ?_⟩
    · simp only [go_sem, reduceIte, seval]
    · have hlv : leave ⟨o, e, d⟩ ⟨(ho.set lm (.map es)).set lm (.map []), o.length, min (min hd' lm) lm⟩ (.int .i64 0) = some ⟨(o1.set pg (.cells ck t' 0 (layPages es np cs))).set lm (.map []), e, min d (min (min hd' lm) lm)⟩ := by
        unfold leave
        simp only
        rw [if_pos ⟨Nat.le_refl _, rfl⟩, if_neg (by omega), List.set_set, ← l1, take_set (by omega) (by omega) (by omega) h2 hpl h5]
      have key : ∀ hh : Heap, hh = ⟨(ho.set lm (.map es)).set lm (.map []), o.length, min (min hd' lm) lm⟩ → (((leave ⟨o, e, d⟩ hh (resV [.int .i64 0])).getD ⟨o, e, d⟩).o = (o1.set pg (.cells ck t' 0 (layPages es np cs))).set lm (.map []) ∧ ((leave ⟨o, e, d⟩ hh (resV [.int .i64 0])).getD ⟨o, e, d⟩).e = e ∧ min d (min dd (min pg lm)) ≤ ((leave ⟨o, e, d⟩ hh (resV [.int .i64 0])).getD ⟨o, e, d⟩).d) := by
        rintro _ rfl
        show ((leave _ _ (.int .i64 0)).getD _).o = _ ∧ _
        rw [show resV [V.int .i64 0] = .int .i64 0 from rfl, hlv]
        exact ⟨rfl, rfl, by show _ ≤ min d (min (min hd' lm) lm); omega⟩
      exact key _ rfl

theorem flush_down {o : List AM.Obj} {e d dd t pg np lm : Nat} {on down : Bool} {left : Int} (hD : o[dd]? = some (.cells .ex t 0 [.bool on, .bool down, .int .i64 left, .slice pg 0 np 64, .map lm])) (hB : burnB on down left = false) {ι : Map} {w : World} (hr : HR ι o w) :
    Calls Try.prog 16 (V.reals ι [.ptr dd 0]).toArray w fun e1 w' => ∃ κ, Nx ι ⟨o, e, d⟩ w κ ⟨o.set dd (.cells .ex t 0 (burnC on down left ++ [.slice pg 0 np 64, .map lm])), e, min d dd⟩ w' ∧
      OutOk κ (o.set dd (.cells .ex t 0 (burnC on down left ++ [.slice pg 0 np 64, .map lm]))).length e1 (.val (.int .i64 5)) := by
  have ldd := get_lt hD
  refine calls_body (h2 := ⟨o.set dd (.cells .ex t 0 (burnC on down left ++ [.slice pg 0 np 64, .map lm])), e, min d dd⟩) (h := ⟨o, e, d⟩) (args := [.ptr dd 0]) Try.func16 rfl rfl hr ⟨ldd, trivial⟩ (Nat.le_of_ble_eq_true rfl) fun a hs hd => ?_
  obtain ⟨vb, ohb, qb, rfl, db, hgb, hdb⟩ := burn_q (e := o.length) (d := o.length) hD
  rw [hB] at qb
  generalize ho1 : o.set dd (.cells .ex t 0 (burnC on down left ++ [.slice pg 0 np 64, .map lm])) = o1 at hgb ⊢
  have l1 : o1.length = o.length := by rw [← ho1]; simp
  apply wp_seq
  refine wp_mono (exec_ok hcall0 mixed (ds := []) (h := enter ⟨o, e, d⟩) 1 (ac := .region [⟨some 2, .mv (.k (.int .i64 0)), none⟩] false) (by kernel_rfl) hr hs hd (by simp only [exec, go_sem, reduceIte, seval]; rfl)) ?_
  rintro e1 a1 w1 ⟨κ, hn, hs1, hd1, rfl⟩
  apply wp_seq
  apply wp_seq
  have ex1 : exec (Den FF E0) 1 R1 (fput (initS [.ptr dd 0]) 2 (.int .i64 0)) ⟨o, o.length, o.length⟩ = some (.norm, fput (fput (fput (fput (fput (fput (fput (fput (fput (fput (initS [.ptr dd 0]) 2 (.int .i64 0)) 5 (.ptr dd 0)) 6 (.bool false)) 7 (.bool false)) 8 (.ptr dd 0)) 9 (.ptr dd 0)) 10 (.ptr dd 0)) 11 (.bool false)) 12 (.bool true)) 13 (.bool true), ⟨o1, o.length, db⟩) := by
    simp only [exec, R1, go_sem, reduceIte, seval, initS, qb]
    cases ohb with
    | none => simp only [Option.getD_none] at hgb; rw [hgb]; simp only [go_sem, reduceIte, seval]
    | some hh => simp only [Option.getD_some] at hgb; rw [hgb]; simp only [go_sem, reduceIte, seval]
  refine wp_mono (exec_ok hcall0 mixed (ds := []) 1 (ac := R1) (by kernel_rfl) hn.hr hs1 hd1 ex1) ?_
  rintro e2 a2 w2 ⟨κ2, hn2, hs2, hd2, rfl⟩
  refine wp_cond (t := true) (by have := hs2.val 13; simp only [go_sem, reduceIte, seval, V.real] at this; exact this) ?_
  apply wp_seq
  refine wp_mono (exec_ok hcall0 mixed (ds := []) 1 (ac := .region [⟨some 2, .mv (.k (.int .i64 5)), none⟩] false) (by kernel_rfl) hn2.hr hs2 hd2 (by simp only [exec, go_sem, reduceIte, seval]; rfl)) ?_
  rintro e3 a3 w3 ⟨κ3, hn3, hs3, hd3, rfl⟩
  refine wp_ret ⟨.inr rfl, κ3, _, ⟨o1, o.length, min db dd⟩, (hn.trans (hn2.trans hn3)).low (Nat.min_le_left _ _), hs3, hd3, [.int .i64 5], ?_, rfl, ?_⟩
  · simp only [go_sem, reduceIte, seval]
  · show ((leave _ _ (.int .i64 5)).getD _).o = _ ∧ ((leave _ _ (.int .i64 5)).getD _).e = _ ∧ _ ≤ ((leave _ _ (.int .i64 5)).getD _).d
    unfold leave
    simp only
    rw [if_pos ⟨Nat.le_refl _, rfl⟩, if_neg (by omega), ← l1, List.take_of_length_le (Nat.le_refl _)]
    exact ⟨rfl, rfl, by show _ ≤ min d (min db dd); omega⟩

/-- Flush by hand is so. -/
theorem flushOk (args : List V) (h : Heap) (out : Out) (oh : Option Heap) (he : flushG args h = some (out, oh)) : callOk Try.prog 16 = true ∧ ∀ ι w, HR ι h.o w → V.scs h.o.length args →
    Calls Try.prog 16 (V.reals ι args).toArray w fun e w' => ∃ κ, Nx ι h w κ (oh.getD h) w' ∧ OutOk κ (oh.getD h).o.length e out := by
  refine ⟨by kernel_rfl, fun ι w hr hsc => ?_⟩
  obtain ⟨o, e, d⟩ := h
  unfold flushG at he
  split at he
  · cases he
    exact flush_nil hr
  · simp only at he
    split at he
    · rename_i dd t on down left pg np lm hD
      split at he
      · rename_i hB
        cases he
        exact flush_down hD hB hr
      · rename_i hB
        split at he
        · rename_i ck t' cs es hP hM
          split at he
          · rename_i hc
            obtain ⟨h1, h2, h3, h4, h5⟩ := hc
            cases he
            exact flush_go hD (by simpa using hB) hP hM h1 h2 h3 h4 h5 hr
          · cases he
        · cases he
    · cases he
  · cases he
end Go.Proofs.Ytfbkeieoeagkdaa

/- Disk: the sorted keys of a map: the contracts of the kit's shelf laid at this program, written out by the kit's tool (lay-plain). -/
namespace Go.Proofs
open Go.Shelf
def Try.keysA_ren : Go.Shelf.Ren := ⟨fun | 10 => 69 | n => n, fun | 33 => 122 | 23 => 29 | 0 => 0 | 4 => 4 | 26 => 3 | 3 => 31 | n => n, fun | n => n⟩
theorem Try.keysA : Go.Proofs.SlLaysZI.n10 Try.prog Try.keysA_ren := {
  mixed := by kernel_rfl
  f10 := ⟨Try.f69.name, by decide, Try.func69.trans (congrArg some (by kernel_rfl))⟩
  t0 := Try.underlying0
  a0 := Try.isAgg0
  z0 := Try.sizeOf0
  v0 := Try.zeroValue0
  t4 := Try.underlying4
  a4 := Try.isAgg4
  z4 := Try.sizeOf4
  v4 := Try.zeroValue4
  t23 := Try.underlying29
  a23 := Try.isAgg29
  z23 := Try.sizeOf29
  v23 := Try.zeroValue29
  t26 := Try.underlying3
  a26 := Try.isAgg3
  z26 := Try.sizeOf3
  v26 := Try.zeroValue3
  t33 := Try.underlying122
  a33 := Try.isAgg122
  z33 := Try.sizeOf122
  v33 := Try.zeroValue122 }
def Try.sortedA_ren : Go.Shelf.Ren := ⟨fun | 6 => 50 | 8 => 67 | 9 => 68 | 11 => 83 | 13 => 85 | 12 => 84 | 23 => 101 | 24 => 102 | 14 => 92 | 15 => 93 | 16 => 94 | 17 => 95 | 18 => 96 | 19 => 97 | 20 => 98 | 21 => 99 | 22 => 100 | 25 => 104 | 26 => 105 | 27 => 106 | 28 => 107 | 29 => 108 | 30 => 109 | 31 => 110 | n => n, fun | 26 => 3 | 28 => 97 | 24 => 58 | 0 => 0 | 3 => 3 | 37 => 137 | 48 => 101 | 50 => 153 | 4 => 4 | 40 => 145 | 39 => 144 | 45 => 149 | 5 => 5 | 9 => 9 | 51 => 156 | 55 => 160 | 57 => 162 | 58 => 163 | 33 => 122 | n => n, fun | n => n⟩
theorem Try.sortedA : Go.Proofs.SlLaysZI.n6 Try.prog Try.sortedA_ren := {
  mixed := by kernel_rfl
  f6 := ⟨Try.f50.name, by decide, Try.func50.trans (congrArg some (by kernel_rfl))⟩
  f8 := ⟨Try.f67.name, by decide, Try.func67.trans (congrArg some (by kernel_rfl))⟩
  f11 := ⟨Try.f83.name, by decide, Try.func83.trans (congrArg some (by kernel_rfl))⟩
  t0 := Try.underlying0
  a0 := Try.isAgg0
  z0 := Try.sizeOf0
  v0 := Try.zeroValue0
  t24 := Try.underlying58
  a24 := Try.isAgg58
  z24 := Try.sizeOf58
  v24 := Try.zeroValue58
  t26 := Try.underlying3
  a26 := Try.isAgg3
  z26 := Try.sizeOf3
  v26 := Try.zeroValue3
  t28 := Try.underlying97
  a28 := Try.isAgg97
  z28 := Try.sizeOf97
  v28 := Try.zeroValue97
  i26 := by kernel_rfl }
def Try.sortA_ren : Go.Shelf.Ren := ⟨fun | 5 => 68 | 8 => 85 | 7 => 84 | 19 => 101 | 20 => 102 | 10 => 92 | 11 => 93 | 12 => 94 | 13 => 95 | 14 => 96 | 15 => 97 | 16 => 98 | 17 => 99 | 18 => 100 | 30 => 104 | 31 => 105 | 32 => 106 | 33 => 107 | 34 => 108 | 35 => 109 | 40 => 110 | n => n, fun | 23 => 58 | 25 => 3 | 3 => 3 | 32 => 137 | 22 => 58 | 0 => 0 | 44 => 101 | 46 => 153 | 4 => 4 | 36 => 145 | 35 => 144 | 41 => 149 | 5 => 5 | 9 => 9 | 53 => 156 | 57 => 160 | 63 => 162 | 64 => 163 | n => n, fun | n => n⟩
theorem Try.sortA : Go.Proofs.SlLaysM.n5 Try.prog Try.sortA_ren := {
  mixed := by kernel_rfl
  f5 := ⟨Try.f68.name, by decide, Try.func68.trans (congrArg some (by kernel_rfl))⟩
  f7 := ⟨Try.f84.name, by decide, Try.func84.trans (congrArg some (by kernel_rfl))⟩
  f8 := Try.func85.trans (congrArg some (by kernel_rfl))
  f10 := ⟨Try.f92.name, by decide, Try.func92.trans (congrArg some (by kernel_rfl))⟩
  f11 := ⟨Try.f93.name, by decide, Try.func93.trans (congrArg some (by kernel_rfl))⟩
  f12 := ⟨Try.f94.name, by decide, Try.func94.trans (congrArg some (by kernel_rfl))⟩
  f13 := ⟨Try.f95.name, by decide, Try.func95.trans (congrArg some (by kernel_rfl))⟩
  f14 := ⟨Try.f96.name, by decide, Try.func96.trans (congrArg some (by kernel_rfl))⟩
  f15 := ⟨Try.f97.name, by decide, Try.func97.trans (congrArg some (by kernel_rfl))⟩
  f16 := ⟨Try.f98.name, by decide, Try.func98.trans (congrArg some (by kernel_rfl))⟩
  f17 := ⟨Try.f99.name, by decide, Try.func99.trans (congrArg some (by kernel_rfl))⟩
  f18 := ⟨Try.f100.name, by decide, Try.func100.trans (congrArg some (by kernel_rfl))⟩
  f19 := Try.func101.trans (congrArg some (by kernel_rfl))
  f20 := Try.func102.trans (congrArg some (by kernel_rfl))
  f30 := ⟨Try.f104.name, by decide, Try.func104.trans (congrArg some (by kernel_rfl))⟩
  f31 := Try.func105.trans (congrArg some (by kernel_rfl))
  f32 := Try.func106.trans (congrArg some (by kernel_rfl))
  f33 := ⟨Try.f107.name, by decide, Try.func107.trans (congrArg some (by kernel_rfl))⟩
  f34 := ⟨Try.f108.name, by decide, Try.func108.trans (congrArg some (by kernel_rfl))⟩
  f35 := ⟨Try.f109.name, by decide, Try.func109.trans (congrArg some (by kernel_rfl))⟩
  f40 := ⟨Try.f110.name, by decide, Try.func110.trans (congrArg some (by kernel_rfl))⟩
  t0 := Try.underlying0
  a0 := Try.isAgg0
  z0 := Try.sizeOf0
  v0 := Try.zeroValue0
  t3 := Try.underlying3
  a3 := Try.isAgg3
  z3 := Try.sizeOf3
  v3 := Try.zeroValue3
  t4 := Try.underlying4
  a4 := Try.isAgg4
  z4 := Try.sizeOf4
  v4 := Try.zeroValue4
  t5 := Try.underlying5
  a5 := Try.isAgg5
  z5 := Try.sizeOf5
  v5 := Try.zeroValue5
  t9 := Try.underlying9
  a9 := Try.isAgg9
  z9 := Try.sizeOf9
  v9 := Try.zeroValue9
  t22 := Try.underlying58
  a22 := Try.isAgg58
  z22 := Try.sizeOf58
  v22 := Try.zeroValue58
  t23 := Try.underlying58
  a23 := Try.isAgg58
  z23 := Try.sizeOf58
  v23 := Try.zeroValue58
  t25 := Try.underlying3
  a25 := Try.isAgg3
  z25 := Try.sizeOf3
  v25 := Try.zeroValue3
  t32 := Try.underlying137
  a32 := Try.isAgg137
  z32 := Try.sizeOf137
  v32 := Try.zeroValue137
  t35 := Try.underlying144
  a35 := Try.isAgg144
  z35 := Try.sizeOf144
  v35 := Try.zeroValue144
  t36 := Try.underlying145
  a36 := Try.isAgg145
  z36 := Try.sizeOf145
  v36 := Try.zeroValue145
  t41 := Try.underlying149
  a41 := Try.isAgg149
  z41 := Try.sizeOf149
  v41 := Try.zeroValue149
  t44 := Try.underlying101
  a44 := Try.isAgg101
  z44 := Try.sizeOf101
  v44 := Try.zeroValue101
  t46 := Try.underlying153
  a46 := Try.isAgg153
  z46 := Try.sizeOf153
  v46 := Try.zeroValue153
  t53 := Try.underlying156
  a53 := Try.isAgg156
  z53 := Try.sizeOf156
  v53 := Try.zeroValue156
  t57 := Try.underlying160
  a57 := Try.isAgg160
  z57 := Try.sizeOf160
  v57 := Try.zeroValue160
  t63 := Try.underlying162
  a63 := Try.isAgg162
  z63 := Try.sizeOf162
  v63 := Try.zeroValue162
  t64 := Try.underlying163
  a64 := Try.isAgg163
  z64 := Try.sizeOf163
  v64 := Try.zeroValue163 }
end Go.Proofs

/- Disk: the sorted keys of a map, by hand. -/
namespace Go.Proofs.Ytfbkeieoeagkdaa
open Go AM
open Go.RowKit Go.Maps Go.Sort Go.Shelf Go.WideShapes
set_option linter.unusedSimpArgs false
set_option linter.unusedVariables false
set_option maxRecDepth 100000

def keysOf : List (V × V) → Option (List Int)
  | [] => some []
  | (.int .i64 k, _) :: r => if -9223372036854775808 ≤ k ∧ k ≤ 9223372036854775807 then (keysOf r).map (k :: ·) else none
  | _ => none
def insI (x : Int) : List Int → List Int
  | [] => [x]
  | y :: r => if x ≤ y then x :: y :: r else y :: insI x r
def isort : List Int → List Int
  | [] => []
  | x :: r => insI x (isort r)

theorem insI_perm (x : Int) : ∀ l, (insI x l).Perm (x :: l)
  | [] => List.Perm.refl _
  | y :: r => by
    unfold insI
    split
    · exact List.Perm.refl _
    · exact ((insI_perm x r).cons y).trans (.swap x y r)
theorem isort_perm : ∀ l, (isort l).Perm l
  | [] => List.Perm.refl _
  | x :: r => (insI_perm x _).trans ((isort_perm r).cons x)
theorem insI_sorted (x : Int) : ∀ {l : List Int}, l.Pairwise (· ≤ ·) → (insI x l).Pairwise (· ≤ ·)
  | [], h => List.pairwise_singleton _ _
  | y :: r, h => by
    obtain ⟨h1, h2⟩ := List.pairwise_cons.1 h
    unfold insI
    split
    · rename_i hxy
      exact List.pairwise_cons.2 ⟨fun z hz => by
        rcases List.mem_cons.1 hz with rfl | hz
        · exact hxy
        · exact Int.le_trans hxy (h1 z hz), h⟩
    · rename_i hxy
      refine List.pairwise_cons.2 ⟨fun z hz => ?_, insI_sorted x h2⟩
      rcases List.mem_cons.1 ((insI_perm x r).mem_iff.1 hz) with rfl | hz
      · omega
      · exact h1 z hz
theorem isort_sorted : ∀ l, (isort l).Pairwise (· ≤ ·)
  | [] => List.Pairwise.nil
  | x :: r => insI_sorted x (isort_sorted r)
theorem merge_isort {ss ks : List Int} (h : ss.Perm ks) : ss.mergeSort (fun x y => decide (x ≤ y)) = isort ks := by
  have tr : ∀ a b c : Int, decide (a ≤ b) = true → decide (b ≤ c) = true → decide (a ≤ c) = true := fun a b c h1 h2 => by simp only [decide_eq_true_eq] at *; exact Int.le_trans h1 h2
  have to : ∀ a b : Int, (decide (a ≤ b) || decide (b ≤ a)) = true := fun a b => by simp only [Bool.or_eq_true, decide_eq_true_eq]; exact Int.le_total a b
  refine List.Perm.eq_of_pairwise (le := fun a b => decide (a ≤ b) = true) (fun a b _ _ h1 h2 => ?_) (List.pairwise_mergeSort tr to ss) ((isort_sorted ks).imp fun h => by simpa using h) (((List.mergeSort_perm ss _).trans h).trans (isort_perm ks).symm)
  simp only [decide_eq_true_eq] at h1 h2
  exact Int.le_antisymm h1 h2

theorem keysOf_map : ∀ {es : List (V × V)} {ks : List Int}, keysOf es = some ks → es.map (·.1) = ks.map (V.int .i64) ∧ ∀ k ∈ ks, -9223372036854775808 ≤ k ∧ k ≤ 9223372036854775807
  | [], ks, h => by simp only [keysOf, Option.some.injEq] at h; subst h; exact ⟨rfl, by simp⟩
  | (.int .i64 k, v) :: r, ks, h => by
    simp only [keysOf] at h
    split at h
    · rename_i hk
      simp only [Option.map_eq_some_iff] at h
      obtain ⟨l, hl, rfl⟩ := h
      obtain ⟨h1, h2⟩ := keysOf_map hl
      refine ⟨by simp [h1], fun x hx => ?_⟩
      rcases List.mem_cons.1 hx with rfl | hx
      · exact hk
      · exact h2 x hx
    · cases h

theorem keysOf_ex : ∀ {es : List (V × V)}, (∀ e ∈ es, ∃ k, e.1 = .int .i64 k ∧ -9223372036854775808 ≤ k ∧ k ≤ 9223372036854775807) → ∃ ks, keysOf es = some ks
  | [], _ => ⟨[], rfl⟩
  | (k', v) :: r, h => by
    obtain ⟨k, hk, h1, h2⟩ := h (k', v) List.mem_cons_self
    obtain ⟨ks, hks⟩ := keysOf_ex (es := r) fun e he => h e (List.mem_cons_of_mem _ he)
    simp only at hk
    subst hk
    exact ⟨k :: ks, by simp only [keysOf, if_pos (And.intro h1 h2), hks, Option.map_some]⟩
theorem keysOf_key {es : List (V × V)} {ks : List Int} (h : keysOf es = some ks) : ∀ e ∈ es, ∃ k, e.1 = .int .i64 k ∧ -9223372036854775808 ≤ k ∧ k ≤ 9223372036854775807 := by
  intro e he
  obtain ⟨h1, h2⟩ := keysOf_map h
  have : e.1 ∈ es.map (·.1) := List.mem_map_of_mem he
  rw [h1] at this
  obtain ⟨k, hk, hke⟩ := List.mem_map.1 this
  exact ⟨k, hke.symm, h2 k hk⟩
theorem keysOf_perm {es eq : List (V × V)} {ks : List Int} (hp : eq.Perm es) (h : keysOf es = some ks) : ∃ kq, keysOf eq = some kq ∧ kq.Perm ks := by
  obtain ⟨kq, hkq⟩ := keysOf_ex fun e he => keysOf_key h e (hp.mem_iff.1 he)
  refine ⟨kq, hkq, ?_⟩
  have h1 := hp.map (·.1)
  rw [(keysOf_map h).1, (keysOf_map hkq).1] at h1
  have h2 := h1.map fun v => match v with
    | V.int _ k => k
    | _ => 0
  rw [List.map_map, List.map_map] at h2
  have e1 : ∀ l : List Int, l.map ((fun v => match v with | V.int _ k => k | _ => 0) ∘ V.int .i64) = l := fun l => by
    conv => rhs; rw [← List.map_id l]
    exact List.map_congr_left fun x _ => rfl
  rw [e1, e1] at h2
  exact h2

/-- A new object in a block of a world in which nothing else has turned. -/
theorem nx_at {ι : Map} {h : Heap} {w w' : World} (hr : HR ι h.o w) (hb : Below w.heap.size w w') (o : AM.Obj) (p : AM.Place) (hp : w.heap.size ≤ p.blk) (hor : OR (ι.upd h.o.length p) w' p o) (hsc : o.sc (h.o.length + 1)) (how : o.own = true) : Nx ι h w (ι.upd h.o.length p) ⟨h.o ++ [o], h.e, h.d⟩ w' := by
  have ag := Map.agree_upd ι h.o.length p
  have look : ∀ (k : Nat) (y : AM.Obj), (h.o ++ [o])[k]? = some y → (k = h.o.length ∧ y = o) ∨ (k < h.o.length ∧ h.o[k]? = some y) := by
    intro k y hy
    rw [List.getElem?_append] at hy
    split at hy
    · exact .inr ⟨by assumption, hy⟩
    · have hk : k - h.o.length = 0 := by
        rcases Nat.eq_zero_or_pos (k - h.o.length) with h0 | h0
        · exact h0
        · rw [List.getElem?_eq_none (by simp; omega)] at hy; simp at hy
      rw [hk] at hy
      simp at hy
      exact .inl ⟨by omega, hy.symm⟩
  have old : ∀ k, k < h.o.length → (ι.upd h.o.length p) k = ι k := fun k hk => ag k hk
  have oldLt : ∀ (k : Nat) (y : AM.Obj), h.o[k]? = some y → y.live = true → (ι k).blk < w.heap.size := fun k y hy hl => (hr.obj k y hy).lt hl
  refine ⟨⟨fun k y hy => ?_, fun k k' y y' hkk hy hy' hyo hyl => ?_, fun k y hy => ?_⟩, ag, by simp, ⟨hb.os, hb.tape, hb.output, hb.size, fun b hb' _ => hb.block b hb', fun b hb' hb2 hc => ?_⟩, fun k n hkn hke hc y hy => ?_, ⟨Nat.le_refl _, Nat.le_refl _⟩, fun k hk _ => List.getElem?_append_left hk, fun k y hy hyl hyo => ?_⟩
  · rcases look k y hy with ⟨rfl, rfl⟩ | ⟨hk, hy'⟩
    · rw [Map.upd_same]; exact hor
    · rw [old k hk]
      have h1 := hr.obj k y hy'
      cases hlive : y.live with
      | false => cases y <;> simp_all [Obj.live, OR]
      | true => exact (h1.of_block (hb.block _ (oldLt k y hy' hlive))).agree ag (hr.sc k y hy')
  · rcases look k y hy with ⟨rfl, rfl⟩ | ⟨hk, hyy⟩ <;> rcases look k' y' hy' with ⟨rfl, rfl⟩ | ⟨hk', hyy'⟩
    · exact absurd rfl hkk
    · rw [Map.upd_same, old k' hk']
      have := oldLt k' y' hyy' hyl
      omega
    · rw [Map.upd_same, old k hk]
      have := oldLt k y hyy (Obj.live_of_own hyo)
      omega
    · rw [old k hk, old k' hk']
      exact hr.apart k k' y y' hkk hyy hyy' hyo hyl
  · simp only [List.length_append, List.length_cons, List.length_nil]
    rcases look k y hy with ⟨rfl, rfl⟩ | ⟨hk, hy'⟩
    · exact hsc
    · exact Obj.sc_mono (by omega) (hr.sc k y hy')
  · obtain ⟨k, y, hy, hyo, hb2'⟩ := hc
    rcases look k y hy with ⟨rfl, rfl⟩ | ⟨hk, hy'⟩
    · rw [Map.upd_same] at hb2'; omega
    · rw [old k hk] at hb2'
      exact hb2 ⟨k, y, hy', hyo, hb2'⟩
  · rcases look k y hy with ⟨rfl, rfl⟩ | ⟨hk', hy'⟩
    · omega
    · exact hc y hy'
  · rcases look k y hy with ⟨rfl, rfl⟩ | ⟨hk', hy'⟩
    · rw [how] at hyo; cases hyo
    · exact hy'

def sortedG : List V → Heap → Option (Out × Option Heap)
  | [.fn 69 [] [.ptr b 0]], h => match h.o[b]? with
    | some (.cells .ex _ 0 [.map l]) => match h.o[l]? with
      | some (.map es) => match keysOf es with
        | some ks => if apart es = true ∧ es.length ≤ 1000000 then
            (if ks = [] then some (.val .nils, none) else some (.val (.slice h.o.length 0 ks.length 1), some ⟨h.o ++ [.cells .gr 3 0 ((isort ks).map (V.int .i64))], h.e, h.d⟩))
          else none
        | none => none
      | _ => none
    | _ => none
  | _, _ => none

theorem sorts (m : Nat) : AnyZI.SortsIn Try.prog Try.sortedA_ren Fence.wide m :=
  ⟨fun blk off cap ss W hH hblk hsz => callsIn_wide.2 (AnyM.slices_Sort_int Try.sortA blk off cap ss W hH hblk hsz),
   fun p cap W => callsIn_wide.2 (AnyM.slices_Sort_int_none Try.sortA p cap W)⟩

set_option maxHeartbeats 2000000 in
theorem sorted_go {o : List AM.Obj} {e d b l t : Nat} {es : List (V × V)} {ks : List Int} (hb : o[b]? = some (.cells .ex t 0 [.map l])) (hl : o[l]? = some (.map es)) (hk : keysOf es = some ks) (hap : apart es = true) (hlen : es.length ≤ 1000000) {ι : Map} {w : World} (hr : HR ι o w) :
    Calls Try.prog 50 (V.reals ι [.fn 69 [] [.ptr b 0]]).toArray w fun e1 w' => ∃ (v : Value) (ss : List Int), e1 = .returned v ∧ ss.Perm ks ∧
      w'.ownsRow w.heap.size 3 1 v ss.length ((isort ks).map encZ) ∧ (v = .slice none 0 0 ↔ ss = []) ∧ Below w.heap.size w w' := by
  obtain ⟨arr, t', lo, hi, hbb, hsz, _, hcell, hex, hro⟩ := hr.obj b _ hb
  obtain ⟨hbase, _⟩ := hro (by decide)
  obtain ⟨ents, c, eq, hmb, hpm, hents, hborn, hnd⟩ := hr.obj l _ hl
  obtain ⟨kq, hkq, hpk⟩ := keysOf_perm hpm hk
  replace hap := apart_perm hpm (fun e he => by obtain ⟨k, h1, _⟩ := keysOf_key hk e he; exact ⟨k, h1⟩) hap
  replace hlen : eq.length ≤ 1000000 := by rw [hpm.length_eq]; exact hlen
  suffices Calls Try.prog 50 (V.reals ι [.fn 69 [] [.ptr b 0]]).toArray w fun e1 w' => ∃ (v : Value) (ss : List Int), e1 = .returned v ∧ ss.Perm kq ∧
      w'.ownsRow w.heap.size 3 1 v ss.length ((isort kq).map encZ) ∧ (v = .slice none 0 0 ↔ ss = []) ∧ Below w.heap.size w w' by
    refine this.mono ?_
    rintro e1 w' ⟨v, ss, h1, h2, h3, h4⟩
    refine ⟨v, ss, h1, h2.trans hpk, ?_, h4⟩
    rw [← merge_isort (h2.trans hpk), merge_isort h2]; exact h3
  clear hl hk
  rename_i es0 ks0
  generalize eq = es at *
  generalize kq = ks at *
  have hk := hkq
  obtain ⟨hm, hrange⟩ := keysOf_map hk
  have hk3 : Try.prog.underlying 3 = some (.int .i64) := Try.underlying3
  have hents1 : ents.toList.map (·.key) = ks.map (Value.int .i64) := by
    have h1 := congrArg (List.map Prod.fst) hents
    have h2 := congrArg (List.map (V.real ι)) hm
    simp only [List.map_map] at h1 h2
    have e1 : (Prod.fst ∘ fun e : MapEntry => (e.key, e.val)) = (·.key) := rfl
    have e2 : (Prod.fst ∘ fun e : V × V => (e.1.real ι, e.2.real ι)) = (V.real ι ∘ fun x => x.1) := rfl
    have e3 : (V.real ι ∘ V.int .i64) = Value.int .i64 := rfl
    rw [e1, e2, h2, e3] at h1
    exact h1
  have hks : ks.Nodup := by
    rw [List.nodup_iff_pairwise_ne, List.pairwise_iff_getElem]
    intro i j hi hj hij heq
    have hle : ks.length = es.length := by have := congrArg List.length hm; simpa using this.symm
    have g1 : (es.map (·.1))[i]? = some (V.int .i64 ks[i]) := by rw [hm, List.getElem?_map, List.getElem?_eq_getElem hi]; rfl
    have g2 : (es.map (·.1))[j]? = some (V.int .i64 ks[j]) := by rw [hm, List.getElem?_map, List.getElem?_eq_getElem hj]; rfl
    rw [List.getElem?_map, Option.map_eq_some_iff] at g1 g2
    obtain ⟨a, ha, ha1⟩ := g1
    obtain ⟨c, hc, hc1⟩ := g2
    have := apart_key hap ha hc ⟨.i64, ks[i], ha1, by rw [hc1, heq]⟩
    omega
  have hwf : ∀ k ∈ ks, (Lit.int .i64 k).wf = true := fun k hk => by
    have := hrange k hk
    have e1 : IntKind.i64.min = -9223372036854775808 := by decide
    have e2 : IntKind.i64.max = 9223372036854775807 := by decide
    simp only [Lit.wf, e1, e2, Bool.and_eq_true, decide_eq_true_eq]
    exact this
  have hkey : ∀ x ∈ ents.toList, ∃ k ∈ ks, x.key = .int .i64 k := fun x hx => by
    have : x.key ∈ ents.toList.map (·.key) := List.mem_map_of_mem hx
    rw [hents1] at this
    obtain ⟨k, hk, he⟩ := List.mem_map.1 this
    exact ⟨k, hk, he.symm⟩
  let R : Value → Option (DataW Unit × List MemPlace) := fun _ => some (.nil, [])
  have hrd : ∀ x ∈ ents.toList, ∀ k, x.key = .int .i64 k → k ∈ ks → Go.WideElems.rd Try.prog 3 R x = some (.int .i64 k, .nil) := fun x hx k he hkm => by
    unfold Go.WideElems.rd
    rw [he, keyOf_int_mk hk3 (hwf k hkm)]
    rfl
  have hfit : Go.WideElems.Fit Try.prog 3 R ents c := by
    refine ⟨?_, ⟨hborn, hnd, ?_⟩, fun x hx => ?_⟩
    · have : ents.size = es.length := by have := congrArg List.length hents; simpa using this
      rw [this]
      exact Nat.le_trans hlen (by decide)
    · rw [hents1]
      exact List.pairwise_map.2 (hks.imp fun hne e => hne (by simpa using e))
    · obtain ⟨k, hkm, he⟩ := hkey x hx
      exact ⟨_, hrd x hx k he hkm⟩
  let D0 : DataW Unit := .map ((ents.toList.map (Go.WideElems.rg Try.prog 3 R)).foldr DataW.insert [])
  have hown : w.ownsMap Try.prog 3 R (ι l).blk ents.size D0 := ⟨ents, c, hmb, hfit, Nat.le_refl _, rfl⟩
  have hperm : (intKeys D0).Perm ks := by
    show (List.map (fun p : Lit × DataW Unit => Go.intOf p.1) _).Perm ks
    refine ((sorted_perm _).map _).trans ?_
    rw [List.map_map]
    have : ents.toList.map ((fun p : Lit × DataW Unit => Go.intOf p.1) ∘ Go.WideElems.rg Try.prog 3 R) = ks := by
      have h1 : ents.toList.map (fun x => (Value.int .i64 (Go.intOf (Go.WideElems.rg Try.prog 3 R x).1))) = ents.toList.map (·.key) := List.map_congr_left fun x hx => by
        obtain ⟨k, hkm, he⟩ := hkey x hx
        rw [Go.WideElems.rg_of (hrd x hx k he hkm), he]; rfl
      rw [hents1] at h1
      have h2 : (ents.toList.map ((fun p : Lit × DataW Unit => Go.intOf p.1) ∘ Go.WideElems.rg Try.prog 3 R)).map (Value.int .i64) = ks.map (Value.int .i64) := by
        rw [List.map_map]; exact h1
      exact (List.map_inj_right (fun x y h => by simpa using h)).1 h2
    rw [this]
  have hsize : Maps.size D0 = ents.size := by
    show (List.foldr DataW.insert [] _).length = _
    rw [(sorted_perm _).length_eq, List.length_map, Array.length_toList]
  have hes : ents.size ≤ 1000000 := by
    have : ents.size = es.length := by have := congrArg List.length hents; simpa using this
    omega
  have hbl : (ι b).blk < w.heap.size := (Array.getElem?_eq_some_iff.1 hbb).1
  have hcellb : w.cell? ⟨(ι b).blk, 0, none⟩ = some (.map (some (ι l).blk)) := by
    have := hcell 0 (.map l) rfl
    rw [hbase] at this
    simp only [World.cell?, hbb]
    simpa [V.real] using this
  have hseq : SeqGives Fence.wide 2 Try.prog 69 #[.pointer (some ⟨(ι b).blk, 0, none⟩)] encZ (fun ss => ss.Perm (intKeys D0)) (Maps.size D0) w :=
    AnyZI.keys_gives (ρ := Try.keysA_ren) Try.keysA Fence.wide _ trivial rfl (by omega) (ι b).blk (ι l).blk ents.size D0 w hbl hcellb hown
  have cS := AnyZI.sorted_in Try.sortedA Fence.wide 5 trivial trivial trivial trivial rfl (by omega) (sorts _) (enters_of Try.func68 (by kernel_rfl) rfl) 69 #[.pointer (some ⟨(ι b).blk, 0, none⟩)] trivial (enters_of Try.func69 (by kernel_rfl) rfl) _ _ (by rw [hsize]; exact Nat.le_trans hes (by decide)) (by rw [hsize]; omega) w hseq
  have hargs : (V.reals ι [.fn 69 [] [.ptr b 0]]).toArray = #[.func (.func 69) #[] #[.pointer (some ⟨(ι b).blk, 0, none⟩)]] := by
    simp [V.reals, V.real, hbase]
  rw [hargs]
  refine (callsIn_wide.1 cS).mono ?_
  rintro e1 w' ⟨v, ss, he, hS, hrow, hnil, hbel⟩
  exact ⟨v, ss, he, hS.trans hperm, by rw [← merge_isort (hS.trans hperm)]; exact hrow, hnil, hbel⟩

theorem sortedOk (args : List V) (h : Heap) (out : Out) (oh : Option Heap) (he : sortedG args h = some (out, oh)) : callOk Try.prog 50 = true ∧ ∀ ι w, HR ι h.o w → V.scs h.o.length args →
    Calls Try.prog 50 (V.reals ι args).toArray w fun e w' => ∃ κ, Nx ι h w κ (oh.getD h) w' ∧ OutOk κ (oh.getD h).o.length e out := by
  refine ⟨by kernel_rfl, fun ι w hr hsc => ?_⟩
  obtain ⟨o, e, d⟩ := h
  unfold sortedG at he
  split at he
  · simp only at he
    split at he
    · rename_i b t l hb
      split at he
      · rename_i es hl
        split at he
        · rename_i ks hk
          split at he
          · rename_i hc
            refine (sorted_go (e := e) (d := d) hb hl hk hc.1 hc.2 hr).mono ?_
            rintro e1 w' ⟨v, ss, rfl, hperm, hrow, hnil, hbel⟩
            split at he
            · rename_i h0
              subst h0
              obtain rfl := List.Perm.eq_nil hperm
              cases he
              refine ⟨ι, keep_nx hr ⟨hbel.os, hbel.output, hbel.size, hbel.block⟩ hbel.tape, ?_, trivial⟩
              rw [hnil.2 rfl]; rfl
            · rename_i h0
              cases he
              have hss : ss ≠ [] := fun h => h0 (by subst h; exact List.Perm.nil_eq hperm |>.symm)
              obtain ⟨hl0, ⟨_, h1⟩ | ⟨g, cap, cur, rfl, hg, hgb, hcap, hcm, hcs, htk⟩⟩ := hrow
              · exact absurd (List.eq_nil_of_length_eq_zero h1) hss
              have hlk : ss.length = ks.length := hperm.length_eq
              have hil : (isort ks).length = ks.length := (isort_perm ks).length_eq
              refine ⟨ι.upd o.length ⟨g, 0, cap⟩, nx_at hr hbel _ ⟨g, 0, cap⟩ hg ?_ ?_ rfl, ?_, ?_⟩
              · refine ⟨cur, 3, 0, 0, hgb, by simpa using Nat.le_of_eq hcs.symm, by simp only [List.length_map, hil]; omega, fun i c hi => ?_, fun h => (by cases h), fun _ => ⟨rfl, rfl, Nat.zero_le _, fun i _ _ h => (by omega)⟩⟩
                have hi2 : i < ss.length := by have := (List.getElem?_eq_some_iff.1 hi).1; simp only [List.length_map, hil] at this; omega
                have h2 := congrArg (fun l => l[i]?) htk
                simp only [Nat.mul_one, List.getElem?_take, if_pos hi2, List.getElem?_map] at h2
                rw [List.getElem?_map, Option.map_eq_some_iff] at hi
                obtain ⟨x, hx, rfl⟩ := hi
                rw [hx] at h2
                show cur[0 + i]? = some (encZ x)
                rw [Nat.zero_add]
                simpa using h2
              · refine (V.scs_iff _ _).2 fun v hv => ?_
                obtain ⟨x, _, rfl⟩ := List.mem_map.1 hv
                trivial
              · simp [V.real, Map.upd_same, hlk]
              · show o.length < (o ++ _).length
                simp
          · cases he
        · cases he
      · cases he
    · cases he
  · cases he
end Go.Proofs.Ytfbkeieoeagkdaa

/- Store: the keys of a map of pages: the contract of the kit's shelf laid at this program. -/
namespace Go.Proofs
open Go.Shelf
def Try.keysB_ren : Go.Shelf.Ren := ⟨fun | 10 => 91 | n => n, fun | 33 => 122 | 23 => 113 | 0 => 0 | 4 => 4 | 26 => 3 | 3 => 31 | n => n, fun | n => n⟩
theorem Try.keysB : Go.Proofs.SlLaysZI.n10 Try.prog Try.keysB_ren := {
  mixed := by kernel_rfl
  f10 := ⟨Try.f91.name, by decide, Try.func91.trans (congrArg some (by kernel_rfl))⟩
  t0 := Try.underlying0
  a0 := Try.isAgg0
  z0 := Try.sizeOf0
  v0 := Try.zeroValue0
  t4 := Try.underlying4
  a4 := Try.isAgg4
  z4 := Try.sizeOf4
  v4 := Try.zeroValue4
  t23 := Try.underlying113
  a23 := Try.isAgg113
  z23 := Try.sizeOf113
  v23 := Try.zeroValue113
  t26 := Try.underlying3
  a26 := Try.isAgg3
  z26 := Try.sizeOf3
  v26 := Try.zeroValue3
  t33 := Try.underlying122
  a33 := Try.isAgg122
  z33 := Try.sizeOf122
  v33 := Try.zeroValue122 }
end Go.Proofs

/- Store: the sorted keys of a map of pages, by hand. -/
namespace Go.Proofs.Ytfbkeieoeagkdaa
open Go AM
open Go.RowKit Go.Maps Go.Sort Go.Shelf Go.WideShapes
set_option linter.unusedSimpArgs false
set_option linter.unusedVariables false
set_option maxRecDepth 100000

def sortedG2 : List V → Heap → Option (Out × Option Heap)
  | [.fn 91 [] [.ptr b 0]], h => match h.o[b]? with
    | some (.cells .ex _ 0 [.map l]) => match h.o[l]? with
      | some (.map es) => match keysOf es with
        | some ks => if apart es = true ∧ es.length ≤ 1000000 then
            (if ks = [] then some (.val .nils, none) else some (.val (.slice h.o.length 0 ks.length 1), some ⟨h.o ++ [.cells .gr 3 0 ((isort ks).map (V.int .i64))], h.e, h.d⟩))
          else none
        | none => none
      | _ => none
    | _ => none
  | _, _ => none

set_option maxHeartbeats 2000000 in
theorem sorted_go2 {o : List AM.Obj} {e d b l t : Nat} {es : List (V × V)} {ks : List Int} (hb : o[b]? = some (.cells .ex t 0 [.map l])) (hl : o[l]? = some (.map es)) (hk : keysOf es = some ks) (hap : apart es = true) (hlen : es.length ≤ 1000000) {ι : Map} {w : World} (hr : HR ι o w) :
    Calls Try.prog 50 (V.reals ι [.fn 91 [] [.ptr b 0]]).toArray w fun e1 w' => ∃ (v : Value) (ss : List Int), e1 = .returned v ∧ ss.Perm ks ∧
      w'.ownsRow w.heap.size 3 1 v ss.length ((isort ks).map encZ) ∧ (v = .slice none 0 0 ↔ ss = []) ∧ Below w.heap.size w w' := by
  obtain ⟨arr, t', lo, hi, hbb, hsz, _, hcell, hex, hro⟩ := hr.obj b _ hb
  obtain ⟨hbase, _⟩ := hro (by decide)
  obtain ⟨ents, c, eq, hmb, hpm, hents, hborn, hnd⟩ := hr.obj l _ hl
  obtain ⟨kq, hkq, hpk⟩ := keysOf_perm hpm hk
  replace hap := apart_perm hpm (fun e he => by obtain ⟨k, h1, _⟩ := keysOf_key hk e he; exact ⟨k, h1⟩) hap
  replace hlen : eq.length ≤ 1000000 := by rw [hpm.length_eq]; exact hlen
  suffices Calls Try.prog 50 (V.reals ι [.fn 91 [] [.ptr b 0]]).toArray w fun e1 w' => ∃ (v : Value) (ss : List Int), e1 = .returned v ∧ ss.Perm kq ∧
      w'.ownsRow w.heap.size 3 1 v ss.length ((isort kq).map encZ) ∧ (v = .slice none 0 0 ↔ ss = []) ∧ Below w.heap.size w w' by
    refine this.mono ?_
    rintro e1 w' ⟨v, ss, h1, h2, h3, h4⟩
    refine ⟨v, ss, h1, h2.trans hpk, ?_, h4⟩
    rw [← merge_isort (h2.trans hpk), merge_isort h2]; exact h3
  clear hl hk
  rename_i es0 ks0
  generalize eq = es at *
  generalize kq = ks at *
  have hk := hkq
  obtain ⟨hm, hrange⟩ := keysOf_map hk
  have hk3 : Try.prog.underlying 3 = some (.int .i64) := Try.underlying3
  have hents1 : ents.toList.map (·.key) = ks.map (Value.int .i64) := by
    have h1 := congrArg (List.map Prod.fst) hents
    have h2 := congrArg (List.map (V.real ι)) hm
    simp only [List.map_map] at h1 h2
    have e1 : (Prod.fst ∘ fun e : MapEntry => (e.key, e.val)) = (·.key) := rfl
    have e2 : (Prod.fst ∘ fun e : V × V => (e.1.real ι, e.2.real ι)) = (V.real ι ∘ fun x => x.1) := rfl
    have e3 : (V.real ι ∘ V.int .i64) = Value.int .i64 := rfl
    rw [e1, e2, h2, e3] at h1
    exact h1
  have hks : ks.Nodup := by
    rw [List.nodup_iff_pairwise_ne, List.pairwise_iff_getElem]
    intro i j hi hj hij heq
    have hle : ks.length = es.length := by have := congrArg List.length hm; simpa using this.symm
    have g1 : (es.map (·.1))[i]? = some (V.int .i64 ks[i]) := by rw [hm, List.getElem?_map, List.getElem?_eq_getElem hi]; rfl
    have g2 : (es.map (·.1))[j]? = some (V.int .i64 ks[j]) := by rw [hm, List.getElem?_map, List.getElem?_eq_getElem hj]; rfl
    rw [List.getElem?_map, Option.map_eq_some_iff] at g1 g2
    obtain ⟨a, ha, ha1⟩ := g1
    obtain ⟨c, hc, hc1⟩ := g2
    have := apart_key hap ha hc ⟨.i64, ks[i], ha1, by rw [hc1, heq]⟩
    omega
  have hwf : ∀ k ∈ ks, (Lit.int .i64 k).wf = true := fun k hk => by
    have := hrange k hk
    have e1 : IntKind.i64.min = -9223372036854775808 := by decide
    have e2 : IntKind.i64.max = 9223372036854775807 := by decide
    simp only [Lit.wf, e1, e2, Bool.and_eq_true, decide_eq_true_eq]
    exact this
  have hkey : ∀ x ∈ ents.toList, ∃ k ∈ ks, x.key = .int .i64 k := fun x hx => by
    have : x.key ∈ ents.toList.map (·.key) := List.mem_map_of_mem hx
    rw [hents1] at this
    obtain ⟨k, hk, he⟩ := List.mem_map.1 this
    exact ⟨k, hk, he.symm⟩
  let R : Value → Option (DataW Unit × List MemPlace) := fun _ => some (.nil, [])
  have hrd : ∀ x ∈ ents.toList, ∀ k, x.key = .int .i64 k → k ∈ ks → Go.WideElems.rd Try.prog 3 R x = some (.int .i64 k, .nil) := fun x hx k he hkm => by
    unfold Go.WideElems.rd
    rw [he, keyOf_int_mk hk3 (hwf k hkm)]
    rfl
  have hfit : Go.WideElems.Fit Try.prog 3 R ents c := by
    refine ⟨?_, ⟨hborn, hnd, ?_⟩, fun x hx => ?_⟩
    · have : ents.size = es.length := by have := congrArg List.length hents; simpa using this
      rw [this]
      exact Nat.le_trans hlen (by decide)
    · rw [hents1]
      exact List.pairwise_map.2 (hks.imp fun hne e => hne (by simpa using e))
    · obtain ⟨k, hkm, he⟩ := hkey x hx
      exact ⟨_, hrd x hx k he hkm⟩
  let D0 : DataW Unit := .map ((ents.toList.map (Go.WideElems.rg Try.prog 3 R)).foldr DataW.insert [])
  have hown : w.ownsMap Try.prog 3 R (ι l).blk ents.size D0 := ⟨ents, c, hmb, hfit, Nat.le_refl _, rfl⟩
  have hperm : (intKeys D0).Perm ks := by
    show (List.map (fun p : Lit × DataW Unit => Go.intOf p.1) _).Perm ks
    refine ((sorted_perm _).map _).trans ?_
    rw [List.map_map]
    have : ents.toList.map ((fun p : Lit × DataW Unit => Go.intOf p.1) ∘ Go.WideElems.rg Try.prog 3 R) = ks := by
      have h1 : ents.toList.map (fun x => (Value.int .i64 (Go.intOf (Go.WideElems.rg Try.prog 3 R x).1))) = ents.toList.map (·.key) := List.map_congr_left fun x hx => by
        obtain ⟨k, hkm, he⟩ := hkey x hx
        rw [Go.WideElems.rg_of (hrd x hx k he hkm), he]; rfl
      rw [hents1] at h1
      have h2 : (ents.toList.map ((fun p : Lit × DataW Unit => Go.intOf p.1) ∘ Go.WideElems.rg Try.prog 3 R)).map (Value.int .i64) = ks.map (Value.int .i64) := by
        rw [List.map_map]; exact h1
      exact (List.map_inj_right (fun x y h => by simpa using h)).1 h2
    rw [this]
  have hsize : Maps.size D0 = ents.size := by
    show (List.foldr DataW.insert [] _).length = _
    rw [(sorted_perm _).length_eq, List.length_map, Array.length_toList]
  have hes : ents.size ≤ 1000000 := by
    have : ents.size = es.length := by have := congrArg List.length hents; simpa using this
    omega
  have hbl : (ι b).blk < w.heap.size := (Array.getElem?_eq_some_iff.1 hbb).1
  have hcellb : w.cell? ⟨(ι b).blk, 0, none⟩ = some (.map (some (ι l).blk)) := by
    have := hcell 0 (.map l) rfl
    rw [hbase] at this
    simp only [World.cell?, hbb]
    simpa [V.real] using this
  have hseq : SeqGives Fence.wide 2 Try.prog 91 #[.pointer (some ⟨(ι b).blk, 0, none⟩)] encZ (fun ss => ss.Perm (intKeys D0)) (Maps.size D0) w :=
    AnyZI.keys_gives (ρ := Try.keysB_ren) Try.keysB Fence.wide _ trivial rfl (by omega) (ι b).blk (ι l).blk ents.size D0 w hbl hcellb hown
  have cS := AnyZI.sorted_in Try.sortedA Fence.wide 5 trivial trivial trivial trivial rfl (by omega) (sorts _) (enters_of Try.func68 (by kernel_rfl) rfl) 91 #[.pointer (some ⟨(ι b).blk, 0, none⟩)] trivial (enters_of Try.func91 (by kernel_rfl) rfl) _ _ (by rw [hsize]; exact Nat.le_trans hes (by decide)) (by rw [hsize]; omega) w hseq
  have hargs : (V.reals ι [.fn 91 [] [.ptr b 0]]).toArray = #[.func (.func 91) #[] #[.pointer (some ⟨(ι b).blk, 0, none⟩)]] := by
    simp [V.reals, V.real, hbase]
  rw [hargs]
  refine (callsIn_wide.1 cS).mono ?_
  rintro e1 w' ⟨v, ss, he, hS, hrow, hnil, hbel⟩
  exact ⟨v, ss, he, hS.trans hperm, by rw [← merge_isort (hS.trans hperm)]; exact hrow, hnil, hbel⟩

theorem sortedOk2 (args : List V) (h : Heap) (out : Out) (oh : Option Heap) (he : sortedG2 args h = some (out, oh)) : callOk Try.prog 50 = true ∧ ∀ ι w, HR ι h.o w → V.scs h.o.length args →
    Calls Try.prog 50 (V.reals ι args).toArray w fun e w' => ∃ κ, Nx ι h w κ (oh.getD h) w' ∧ OutOk κ (oh.getD h).o.length e out := by
  refine ⟨by kernel_rfl, fun ι w hr hsc => ?_⟩
  obtain ⟨o, e, d⟩ := h
  unfold sortedG2 at he
  split at he
  · simp only at he
    split at he
    · rename_i b t l hb
      split at he
      · rename_i es hl
        split at he
        · rename_i ks hk
          split at he
          · rename_i hc
            refine (sorted_go2 (e := e) (d := d) hb hl hk hc.1 hc.2 hr).mono ?_
            rintro e1 w' ⟨v, ss, rfl, hperm, hrow, hnil, hbel⟩
            split at he
            · rename_i h0
              subst h0
              obtain rfl := List.Perm.eq_nil hperm
              cases he
              refine ⟨ι, keep_nx hr ⟨hbel.os, hbel.output, hbel.size, hbel.block⟩ hbel.tape, ?_, trivial⟩
              rw [hnil.2 rfl]; rfl
            · rename_i h0
              cases he
              have hss : ss ≠ [] := fun h => h0 (by subst h; exact List.Perm.nil_eq hperm |>.symm)
              obtain ⟨hl0, ⟨_, h1⟩ | ⟨g, cap, cur, rfl, hg, hgb, hcap, hcm, hcs, htk⟩⟩ := hrow
              · exact absurd (List.eq_nil_of_length_eq_zero h1) hss
              have hlk : ss.length = ks.length := hperm.length_eq
              have hil : (isort ks).length = ks.length := (isort_perm ks).length_eq
              refine ⟨ι.upd o.length ⟨g, 0, cap⟩, nx_at hr hbel _ ⟨g, 0, cap⟩ hg ?_ ?_ rfl, ?_, ?_⟩
              · refine ⟨cur, 3, 0, 0, hgb, by simpa using Nat.le_of_eq hcs.symm, by simp only [List.length_map, hil]; omega, fun i c hi => ?_, fun h => (by cases h), fun _ => ⟨rfl, rfl, Nat.zero_le _, fun i _ _ h => (by omega)⟩⟩
                have hi2 : i < ss.length := by have := (List.getElem?_eq_some_iff.1 hi).1; simp only [List.length_map, hil] at this; omega
                have h2 := congrArg (fun l => l[i]?) htk
                simp only [Nat.mul_one, List.getElem?_take, if_pos hi2, List.getElem?_map] at h2
                rw [List.getElem?_map, Option.map_eq_some_iff] at hi
                obtain ⟨x, hx, rfl⟩ := hi
                rw [hx] at h2
                show cur[0 + i]? = some (encZ x)
                rw [Nat.zero_add]
                simpa using h2
              · refine (V.scs_iff _ _).2 fun v hv => ?_
                obtain ⟨x, _, rfl⟩ := List.mem_map.1 hv
                trivial
              · simp [V.real, Map.upd_same, hlk]
              · show o.length < (o ++ _).length
                simp
          · cases he
        · cases he
      · cases he
    · cases he
  · cases he

def sortedH (args : List V) (h : Heap) : Option (Out × Option Heap) := match sortedG args h with
  | some r => some r
  | none => sortedG2 args h
theorem sortedHOk (args : List V) (h : Heap) (out : Out) (oh : Option Heap) (he : sortedH args h = some (out, oh)) : callOk Try.prog 50 = true ∧ ∀ ι w, HR ι h.o w → V.scs h.o.length args →
    Calls Try.prog 50 (V.reals ι args).toArray w fun e w' => ∃ κ, Nx ι h w κ (oh.getD h) w' ∧ OutOk κ (oh.getD h).o.length e out := by
  unfold sortedH at he
  split at he
  · rename_i r hr
    cases he
    exact sortedOk args h out oh hr
  · exact sortedOk2 args h out oh he
theorem sortedH_of {args : List V} {h : Heap} {r : Out × Option Heap} (he : sortedG args h = some r) : sortedH args h = some r := by
  unfold sortedH
  rw [he]
theorem sortedH_of2 {b : Nat} {h : Heap} {r : Out × Option Heap} (he : sortedG2 [.fn 91 [] [.ptr b 0]] h = some r) : sortedH [.fn 91 [] [.ptr b 0]] h = some r := by
  unfold sortedH
  exact he
end Go.Proofs.Ytfbkeieoeagkdaa

/- Store: with and maps.Copy by hand: a plain law; with. -/
namespace Go.Proofs.Ytfbkeieoeagkdaa
open Go AM
set_option linter.unusedSimpArgs false
set_option linter.unusedVariables false
set_option maxRecDepth 100000

/-- An entry of a map of pages. -/
def entP (e : V × V) : Bool := match e with
  | (.int .i64 _, .agg pg) => decide (pg.length = 64) && V.plains pg && pg.all V.one
  | _ => false
theorem entP_inv {e : V × V} (h : entP e = true) : ∃ (k : Int) (pg : List V), e = (.int .i64 k, .agg pg) ∧ pg.length = 64 ∧ V.plains pg = true ∧ pg.all V.one = true := by
  unfold entP at h
  split at h
  · rename_i k pg
    simp only [Bool.and_eq_true, decide_eq_true_eq] at h
    exact ⟨k, pg, rfl, h.1.1, h.1.2, h.2⟩
  · cases h
theorem entP_key {es : List (V × V)} (h : es.all entP = true) : ∀ e ∈ es, ∃ k, e.1 = .int .i64 k := fun e he => by
  obtain ⟨k, pg, rfl, _⟩ := entP_inv (List.all_eq_true.1 h e he)
  exact ⟨k, rfl⟩
theorem eqK_int (a b : Int) : eqK .i (.int .i64 a) (.int .i64 b) = some (a == b) := by simp only [eqK, if_true]
theorem okM_int {es : List (V × V)} (h : es.all entP = true) (hap : apart es = true) (k : Int) : okM .i (.int .i64 k) es := by
  have hnd := (apart_iff (entP_key h)).1 hap
  refine ⟨List.all_eq_true.2 fun e he => ?_, ?_⟩
  · obtain ⟨j, hj⟩ := entP_key h e he
    rw [hj, eqK_int]; rfl
  · unfold hits
    induction es with
    | nil => simp
    | cons e r ih =>
      have h1 := List.all_eq_true.1 h e List.mem_cons_self
      have hr : r.all entP = true := by simp only [List.all_cons, Bool.and_eq_true] at h; exact h.2
      obtain ⟨j, pg, rfl, _⟩ := entP_inv h1
      simp only [List.map_cons, List.nodup_cons] at hnd
      simp only [apart, Bool.and_eq_true] at hap
      rw [List.filter_cons]
      split
      · rename_i hk
        simp only [hitK, eqK_int] at hk
        have hkj : k = j := by
          by_cases hc : k = j
          · exact hc
          · have : (k == j) = false := by simpa using hc
            rw [this] at hk; cases hk
        subst hkj
        have : r.filter (hitK .i (.int .i64 k)) = [] := by
          refine List.filter_eq_nil_iff.2 fun x hx hxk => ?_
          obtain ⟨i, hi⟩ := entP_key hr x hx
          simp only [hitK, hi, eqK_int] at hxk
          by_cases hc : k = i
          · subst hc
            exact hnd.1 (List.mem_map.2 ⟨x, hx, hi⟩)
          · have : (k == i) = false := by simpa using hc
            rw [this] at hxk; cases hxk
        rw [this]; simp
      · exact ih hr hap.2 hnd.2
/-- What is found. -/
theorem find_int {es : List (V × V)} (h : es.all entP = true) (hap : apart es = true) (k : Int) : mapFind .i (.int .i64 k) es = some none ∨ ∃ pg, mapFind .i (.int .i64 k) es = some (some (.agg pg)) ∧ pg.length = 64 ∧ V.plains pg = true ∧ pg.all V.one = true := by
  have h1 := (mapFind_spec (kd := .i) (k := .int .i64 k) (es := es) (r := _)).2 ⟨okM_int h hap k, rfl⟩
  rw [h1]
  cases hh : hits .i (.int .i64 k) es with
  | nil => exact .inl rfl
  | cons e r =>
    have he : e ∈ es := (List.mem_filter.1 (show e ∈ hits .i (.int .i64 k) es by rw [hh]; exact List.mem_cons_self)).1
    obtain ⟨j, pg, rfl, h2, h3, h4⟩ := entP_inv (List.all_eq_true.1 h e he)
    exact .inr ⟨pg, rfl, h2, h3, h4⟩

theorem sub_len0 {l m : List Nat} (hn : l.Nodup) (hs : ∀ x ∈ l, x ∈ m) : l.length ≤ m.length := by
  induction l generalizing m with
  | nil => exact Nat.zero_le _
  | cons a l ih =>
    obtain ⟨h1, h2⟩ := List.nodup_cons.1 hn
    have ha := hs a List.mem_cons_self
    have := ih (m := m.erase a) h2 fun x hx => (List.mem_erase_of_ne (by rintro rfl; exact h1 hx)).2 (hs x (List.mem_cons_of_mem _ hx))
    rw [List.length_erase_of_mem ha] at this
    have hp : 0 < m.length := List.length_pos_of_mem ha
    rw [List.length_cons]; omega
/-- Is an entry's key not there? -/
def newK (esp : List (V × V)) (e : V × V) : Bool := match mapFind .i e.1 esp with
  | some none => true
  | _ => false
def newAt (esp eq : List (V × V)) (i : Nat) : Bool := match eq[i]? with
  | some e => newK esp e
  | none => false
theorem newAt_all (esp eq : List (V × V)) : ((List.range eq.length).filter (newAt esp eq)).length = (eq.filter (newK esp)).length := by
  have h : eq = (List.range eq.length).map fun i => eq.getD i (.nilp, .nilp) := by
    apply List.ext_getElem?
    intro i
    by_cases hi : i < eq.length
    · rw [List.getElem?_map, List.getElem?_range hi, List.getElem?_eq_getElem hi]
      simp [List.getD_eq_getElem?_getD, List.getElem?_eq_getElem hi]
    · rw [List.getElem?_eq_none (by omega), List.getElem?_eq_none (by simp; omega)]
  conv => rhs; rw [h, List.filter_map, List.length_map]
  congr 1
  refine List.filter_congr fun i hi => ?_
  have hi := List.mem_range.1 hi
  simp [newAt, List.getD_eq_getElem?_getD, List.getElem?_eq_getElem hi]
theorem done_all {n : Nat} {done : List Nat} {p : Nat → Bool} (hnd : done.Nodup) (hlt : ∀ i ∈ done, i < n) (hall : ∀ i, i < n → i ∈ done) : (done.filter p).length = ((List.range n).filter p).length := by
  have hp : done.Perm (List.range n) := (List.perm_ext_iff_of_nodup hnd List.nodup_range).2 fun i => by
    rw [List.mem_range]
    exact ⟨hlt i, hall i⟩
  exact (hp.filter p).length_eq

def withG : List V → Heap → Option (Out × Option Heap)
  | [.map lp, .map lq], h => match h.o[lp]?, h.o[lq]? with
    | some (.map esp), some (.map esq) =>
      if lp ≠ lq ∧ esp.all entP = true ∧ esq.all entP = true ∧ apart esp = true ∧ apart esq = true ∧ esp.length + esq.length ≤ 1000000 then
        some (.val (.int .i64 ((esp.length + (esq.filter (newK esp)).length : Nat) : Int)), some ⟨h.o, h.e, min h.d lq⟩)
      else none
    | _, _ => none
  | _, _ => none

theorem restore {o ho : List AM.Obj} {lq : Nat} {x : AM.Obj} (hq : o[lq]? = some x) (hlen : o.length ≤ ho.length) (hold : ∀ l, l < o.length → l ≠ lq → ho[l]? = o[l]?) : (ho.set lq x).take o.length = o := by
  have hlq := get_lt hq
  apply List.ext_getElem?
  intro i
  rw [List.getElem?_take]
  by_cases hi : i < o.length
  · rw [if_pos hi]
    by_cases h1 : i = lq
    · subst h1
      rw [List.getElem?_set_self (by omega), hq]
    · rw [List.getElem?_set_ne (Ne.symm h1)]
      exact hold i hi h1
  · rw [if_neg hi, List.getElem?_eq_none (by omega)]

set_option maxHeartbeats 8000000 in
theorem with_go {o : List AM.Obj} {e d lp lq : Nat} {esp esq : List (V × V)} (hP : o[lp]? = some (.map esp)) (hQ : o[lq]? = some (.map esq)) (hne : lp ≠ lq) (hp : esp.all entP = true) (hq : esq.all entP = true) (hap : apart esp = true) (haq : apart esq = true) (hlen : esp.length + esq.length ≤ 1000000) {ι : Map} {w : World} (hr : HR ι o w) :
    Calls Try.prog 63 (V.reals ι [.map lp, .map lq]).toArray w fun e1 w' => ∃ κ, Nx ι ⟨o, e, d⟩ w κ ⟨o, e, min d lq⟩ w' ∧ OutOk κ o.length e1 (.val (.int .i64 ((esp.length + (esq.filter (newK esp)).length : Nat) : Int))) := by
  have llp := get_lt hP
  have llq := get_lt hQ
  refine calls_body (h2 := ⟨o, e, min d lq⟩) (h := ⟨o, e, d⟩) (args := [.map lp, .map lq]) Try.func63 rfl rfl hr ⟨llp, llq, trivial⟩ (Nat.le_of_ble_eq_true rfl) fun a hs hd => ?_
  apply wp_seq
  refine wp_mono (exec_ok hcall0 mixed (ds := []) (h := enter ⟨o, e, d⟩) 1 (ac := .region [⟨some 4, .mv (.k (.int .i64 0)), none⟩] false) (by kernel_rfl) hr hs hd (by simp only [exec, go_sem, reduceIte, seval]; rfl)) ?_
  rintro e1 a1 w1 ⟨κ, hn, hs1, hd1, rfl⟩
  apply wp_seq
  refine wp_mono (exec_ok hcall0 mixed (ds := []) 1 (ac := .region [⟨some 9, .mv (.t 0), none⟩, ⟨some 10, .lenM (.t 9), none⟩, ⟨some 5, .mv (.t 10), none⟩] false) (by kernel_rfl) hn.hr hs1 hd1 (by simp only [exec, go_sem, reduceIte, seval, initS, hP]; rfl)) ?_
  rintro e2 a2 w2 ⟨κ2, hn2, hs2, hd2, rfl⟩
  apply wp_seq
  let Inv : List (V × V) → List Nat → (Nat → V) → Heap → Prop := fun eq done S hc => S 0 = .map lp ∧ S 5 = .int .i64 ((esp.length + (done.filter (newAt esp eq)).length : Nat) : Int) ∧ done.Nodup ∧ (∀ i ∈ done, i < eq.length) ∧ o.length < hc.o.length ∧ (∀ l, l < o.length → l ≠ lq → hc.o[l]? = o[l]?) ∧ hc.e = o.length ∧ lq ≤ hc.d
  refine range_block hcall0 mixed (ds := []) (PA := [⟨some 11, .mv (.t 1), none⟩]) (RC := [⟨some 16, .extract (.t 15) 0, none⟩, ⟨some 6, .mv (.t 16), none⟩])
    (AB := .seq (.region [⟨some 18, .mv (.t 0), none⟩, ⟨some 19, .mv (.t 6), none⟩, ⟨some 20, .lookup .i (.agg z64) true (.t 18) (.t 19), none⟩, ⟨some 17, .mv (.t 20), none⟩, ⟨some 21, .extract (.t 17) 0, none⟩, ⟨some 22, .extract (.t 17) 1, none⟩, ⟨some 7, .alloc 31 z64, none⟩, ⟨none, .store 64 (.t 7) (.t 21), none⟩, ⟨some 8, .mv (.t 22), none⟩] false) (.seq (.region [⟨some 23, .mv (.t 8), none⟩, ⟨some 24, .un .not (.t 23), none⟩] false) (.cond (.t 24) (.region [⟨some 25, .mv (.t 5), none⟩, ⟨some 26, .bin .add (.t 25) (.k (.int .i64 1)), none⟩, ⟨some 5, .mv (.t 26), none⟩] false) .skip)))
    (k := 4) rfl rfl rfl rfl rfl (by kernel_rfl) Try.underlying113 (Nat.le_of_ble_eq_true rfl) rfl rfl rfl rfl rfl rfl rfl rfl rfl rfl rfl (by kernel_rfl) (by kernel_rfl) (Nat.le_of_ble_eq_true rfl) (Nat.le_of_ble_eq_true rfl) (Nat.le_of_ble_eq_true rfl) (by decide) (by decide)
    hn2.hr hs2 hd2 (h1 := ⟨o, o.length, o.length⟩) (by simp only [go_sem, reduceIte, seval, initS]; rfl) (es := esq) (lm := lq) (by simp only [go_sem, reduceIte, seval]) hQ (fun e he => ?_) Inv ?_ ?_ ?_ ?_ ?_
  · obtain ⟨k, pg, rfl, _, h2, _⟩ := entP_inv (List.all_eq_true.1 hq e he)
    exact ⟨rfl, h2⟩
  · rintro eq done S hc x ⟨h1, h2, h3, h4, h5, h6, h7, h8⟩
    refine ⟨h1, h2, h3, h4, by simpa using h5, fun l hl a => ?_, h7, ?_⟩
    · show (hc.o.set o.length _)[l]? = _
      rw [List.getElem?_set_ne (by omega)]; exact h6 l hl a
    · show _ ≤ min hc.d o.length
      omega
  · rintro eq done S hc v u ⟨h1, h2, h3⟩
    exact ⟨by simp only [go_sem, reduceIte, seval, h1], by simp only [go_sem, reduceIte, seval, h2], h3⟩
  · rintro eq hpm done S hc i en ⟨h1, h2, h3, h4, h5, h6, h7, h8⟩ hit hi hnot ⟨x1, hx1⟩ ⟨x2, hx2⟩
    obtain ⟨k, pgv, rfl, hpl64, hpp, hpo⟩ := entP_inv (List.all_eq_true.1 (all_perm hpm hq) en (List.mem_of_getElem? hi))
    obtain ⟨ho, he, hd'⟩ := hc
    simp only at h5 h6 h7 h8 hx1 hx2
    have gp : ho[lp]? = some (.map esp) := (h6 lp llp hne).trans hP
    have hkey : V.key .i (.int .i64 k) = true := rfl
    have hil : i < eq.length := (List.getElem?_eq_some_iff.1 hi).1
    have hnl : (i :: done).Nodup := List.nodup_cons.2 ⟨hnot, h3⟩
    have hlt' : ∀ j ∈ i :: done, j < eq.length := fun j hj => by
      rcases List.mem_cons.1 hj with rfl | hj
      · exact hil
      · exact h4 j hj
    have hz : List.drop 64 z64 = [] := rfl
    have hz2 : z64.length = 64 := rfl
    have hz3 : z64.all V.one = true := rfl
    have hz4 : V.plains z64 = true := rfl
    have hcnt : (done.filter (newAt esp eq)).length ≤ eq.length := by
      have := sub_len0 (h3.filter (newAt esp eq)) (m := List.range eq.length) fun j hj => List.mem_range.2 (h4 j (List.mem_filter.1 hj).1)
      rwa [List.length_range] at this
    have hel : eq.length = esq.length := hpm.length_eq
    rcases find_int hp hap k with hf | ⟨pf, hf, hf64, hfp, hfo⟩
    · have hnew : newAt esp eq i = true := by simp only [newAt, hi, newK, hf]
      have wn : IntKind.i64.wrap (((esp.length + (done.filter (newAt esp eq)).length : Nat) : Int) + 1) = ((esp.length + ((i :: done).filter (newAt esp eq)).length : Nat) : Int) := by
        rw [List.filter_cons, hnew, if_pos rfl, List.length_cons, wrap_i64 (by omega) (by omega)]; omega
      refine ⟨_, _, .norm, _, _, (by simp only [go_sem, reduceIte, seval]; rfl), (by simp only [exec, go_sem, reduceIte, seval, Heap.sets, List.drop_of_length_le, ne_eq, not_false_eq_true, Nat.zero_le, h1, h2, gp, hkey, hf, hz2, hz3, hz4, wn, Option.isSome_none, Option.getD_none]; rfl), .inl rfl, ?_, ?_, ?_, ?_⟩
      · simp only [go_sem, reduceIte, seval]; exact hit
      · show (ho ++ [_])[o.length]? = ho[o.length]?
        rw [List.getElem?_append_left (by omega)]
      · show (ho ++ [_])[lq]? = ho[lq]?
        rw [List.getElem?_append_left (by omega)]
      · refine ⟨by simp only [go_sem, reduceIte, seval, h1], by simp only [go_sem, reduceIte, seval], hnl, hlt', ?_, fun l hl a => ?_, h7, ?_⟩
        · show o.length < (ho ++ [_]).length
          simp; omega
        · show (ho ++ [_])[l]? = _
          rw [List.getElem?_append_left (by omega)]
          exact h6 l hl a
        · show _ ≤ min hd' ho.length
          omega
    · have hnew : newAt esp eq i = false := by simp only [newAt, hi, newK, hf]
      have wn : ((esp.length + (done.filter (newAt esp eq)).length : Nat) : Int) = ((esp.length + ((i :: done).filter (newAt esp eq)).length : Nat) : Int) := by
        rw [List.filter_cons, hnew, if_neg (by decide)]
      rw [wn] at h2
      refine ⟨_, _, .norm, _, _, (by simp only [go_sem, reduceIte, seval]; rfl), (by simp only [exec, go_sem, reduceIte, seval, Heap.sets, List.drop_of_length_le, ne_eq, not_false_eq_true, Nat.zero_le, h1, gp, hkey, hf, hf64, hfo, hfp, hz2, Option.isSome_some, Option.getD_some]; rfl), .inl rfl, ?_, ?_, ?_, ?_⟩
      · simp only [go_sem, reduceIte, seval]; exact hit
      · show (ho ++ [_])[o.length]? = ho[o.length]?
        rw [List.getElem?_append_left (by omega)]
      · show (ho ++ [_])[lq]? = ho[lq]?
        rw [List.getElem?_append_left (by omega)]
      · refine ⟨by simp only [go_sem, reduceIte, seval, h1], by simp only [go_sem, reduceIte, seval, h2], hnl, hlt', ?_, fun l hl a => ?_, h7, ?_⟩
        · show o.length < (ho ++ [_]).length
          simp; omega
        · show (ho ++ [_])[l]? = _
          rw [List.getElem?_append_left (by omega)]
          exact h6 l hl a
        · show _ ≤ min hd' ho.length
          omega
  · intro eq hpm xi xm
    refine ⟨by simp only [go_sem, reduceIte, seval, initS], by simp only [go_sem, reduceIte, seval]; rfl, List.nodup_nil, by simp, by simp, fun l hl b => ?_, rfl, ?_⟩
    · show ((o ++ [AM.Obj.raw xi]).set lq _)[l]? = _
      rw [List.getElem?_set_ne (Ne.symm b), List.getElem?_append_left hl]
    · show _ ≤ min o.length lq
      omega
  · rintro eq hpm κ3 a3 w3 S3 ⟨ho, he, hd'⟩ done hn3 hs3 hd3 ⟨h1, h2, h3, h4, h5, h6, h7, h8⟩ hall ⟨x, hx⟩
    simp only at h5 h6 h7 h8 hx
    subst h7
    rw [done_all h3 h4 hall, newAt_all, (hpm.filter (newK esp)).length_eq] at h2
    have hs3' : SR κ3 S3 Try.f63.ntmps a3.tmps (ho.set lq (.map esq)).length := by rw [List.length_set]; exact hs3
    apply wp_seq
    refine wp_mono (exec_ok hcall0 mixed (ds := []) (h := ⟨ho.set lq (.map esq), o.length, min hd' lq⟩) 1 (ac := .region [⟨some 27, .mv (.t 5), none⟩, ⟨some 4, .mv (.t 27), none⟩] false) (by kernel_rfl) hn3.hr hs3' hd3 (by simp only [exec, go_sem, reduceIte, seval, h2]; rfl)) ?_
    rintro e4 a4 w4 ⟨κ4, hn4, hs4, hd4, rfl⟩
    refine wp_ret ⟨.inr rfl, κ4, _, _, hn.trans (hn2.trans (hn3.trans hn4)), hs4, hd4, [.int .i64 ((esp.length + (esq.filter (newK esp)).length : Nat) : Int)], ?_, rfl, ?_⟩
    · simp only [go_sem, reduceIte, seval]
    · have hlv : leave ⟨o, e, d⟩ ⟨ho.set lq (.map esq), o.length, min hd' lq⟩ (.int .i64 ((esp.length + (esq.filter (newK esp)).length : Nat) : Int)) = some ⟨o, e, min d (min hd' lq)⟩ := by
        unfold leave
        simp only
        rw [if_pos ⟨Nat.le_refl _, rfl⟩, if_neg (by omega), restore hQ (by omega) h6]
      have key : ∀ hh : Heap, hh = ⟨ho.set lq (.map esq), o.length, min hd' lq⟩ → (((leave ⟨o, e, d⟩ hh (resV [.int .i64 ((esp.length + (esq.filter (newK esp)).length : Nat) : Int)])).getD ⟨o, e, d⟩).o = o ∧ ((leave ⟨o, e, d⟩ hh (resV [.int .i64 ((esp.length + (esq.filter (newK esp)).length : Nat) : Int)])).getD ⟨o, e, d⟩).e = e ∧ min d lq ≤ ((leave ⟨o, e, d⟩ hh (resV [.int .i64 ((esp.length + (esq.filter (newK esp)).length : Nat) : Int)])).getD ⟨o, e, d⟩).d) := by
        rintro _ rfl
        show ((leave _ _ (.int .i64 _)).getD _).o = _ ∧ _
        rw [show resV [V.int .i64 ((esp.length + (esq.filter (newK esp)).length : Nat) : Int)] = .int .i64 ((esp.length + (esq.filter (newK esp)).length : Nat) : Int) from rfl, hlv]
        exact ⟨rfl, rfl, by show _ ≤ min d (min hd' lq); omega⟩
      exact key _ rfl

theorem withOk (args : List V) (h : Heap) (out : Out) (oh : Option Heap) (he : withG args h = some (out, oh)) : callOk Try.prog 63 = true ∧ ∀ ι w, HR ι h.o w → V.scs h.o.length args →
    Calls Try.prog 63 (V.reals ι args).toArray w fun e w' => ∃ κ, Nx ι h w κ (oh.getD h) w' ∧ OutOk κ (oh.getD h).o.length e out := by
  refine ⟨by kernel_rfl, fun ι w hr hsc => ?_⟩
  obtain ⟨o, e, d⟩ := h
  unfold withG at he
  split at he
  · rename_i lp lq
    simp only at he
    split at he
    · rename_i esp esq hP hQ
      split at he
      · rename_i hc
        obtain ⟨h1, h2, h3, h4, h5, h6⟩ := hc
        cases he
        exact with_go hP hQ h1 h2 h3 h4 h5 h6 hr
      · cases he
    · cases he
  · cases he
end Go.Proofs.Ytfbkeieoeagkdaa

/- Store: maps.Copy by hand. -/
namespace Go.Proofs.Ytfbkeieoeagkdaa
open Go AM
set_option linter.unusedSimpArgs false
set_option linter.unusedVariables false
set_option maxRecDepth 100000

/-- Entries laid over those that are there. -/
def merged (esd L : List (V × V)) : List (V × V) := (esd.filter fun e => !(L.any fun x => hitK .i x.1 e)) ++ L
def atD (eq : List (V × V)) (i : Nat) : V × V := eq.getD i (.nilp, .nilp)
theorem atD_all (eq : List (V × V)) : (List.range eq.length).map (atD eq) = eq := by
  apply List.ext_getElem?
  intro i
  unfold atD
  by_cases hi : i < eq.length
  · rw [List.getElem?_map, List.getElem?_range hi, List.getElem?_eq_getElem hi]
    simp [List.getD_eq_getElem?_getD, List.getElem?_eq_getElem hi]
  · rw [List.getElem?_eq_none (by simp; omega), List.getElem?_eq_none (by omega)]
theorem done_ents {eq : List (V × V)} {done : List Nat} (hnd : done.Nodup) (hlt : ∀ i ∈ done, i < eq.length) (hall : ∀ i, i < eq.length → i ∈ done) : (done.map (atD eq)).Perm eq := by
  have hp : done.Perm (List.range eq.length) := (List.perm_ext_iff_of_nodup hnd List.nodup_range).2 fun i => by
    rw [List.mem_range]
    exact ⟨hlt i, hall i⟩
  have := hp.map (atD eq)
  rwa [atD_all] at this
theorem atD_get {eq : List (V × V)} {i : Nat} {e : V × V} (h : eq[i]? = some e) : atD eq i = e := by
  unfold atD
  rw [List.getD_eq_getElem?_getD, h]; rfl
theorem any_perm {α : Type} {L L' : List α} {p : α → Bool} (hp : L.Perm L') : L.any p = L'.any p := by
  rw [Bool.eq_iff_iff, List.any_eq_true, List.any_eq_true]
  exact ⟨fun ⟨x, h1, h2⟩ => ⟨x, hp.mem_iff.1 h1, h2⟩, fun ⟨x, h1, h2⟩ => ⟨x, hp.mem_iff.2 h1, h2⟩⟩
theorem merged_perm {esd L L' : List (V × V)} (hp : L.Perm L') : (merged esd L).Perm (merged esd L') := by
  unfold merged
  have : (fun e => !(L.any fun x => hitK .i x.1 e)) = (fun e => !(L'.any fun x => hitK .i x.1 e)) := by
    funext e
    rw [any_perm hp]
  rw [this]
  exact hp.append_left _
theorem merged_nil (esd : List (V × V)) : esd.Perm (merged esd []) := by
  unfold merged
  rw [List.append_nil]
  exact List.Perm.of_eq (List.filter_eq_self.2 fun _ _ => rfl).symm
theorem merged_mem {esd L : List (V × V)} {e : V × V} (h : e ∈ merged esd L) : e ∈ esd ∨ e ∈ L := by
  rcases List.mem_append.1 h with h | h
  · exact .inl (List.mem_filter.1 h).1
  · exact .inr h
theorem hit_key {k : Int} {e : V × V} (hk : ∃ j, e.1 = .int .i64 j) : hitK .i (.int .i64 k) e = true ↔ e.1 = .int .i64 k := by
  obtain ⟨j, hj⟩ := hk
  simp only [hitK, hj, eqK_int]
  by_cases h : k = j
  · subst h; simp
  · have : (k == j) = false := by simpa using h
    rw [this]
    simp only [Bool.false_eq_true, V.int.injEq, true_and, false_iff]
    exact fun hc => h hc.symm
theorem merged_ok {esd L : List (V × V)} (h1 : esd.all entP = true) (h2 : L.all entP = true) (a1 : apart esd = true) (a2 : apart L = true) : (merged esd L).all entP = true ∧ apart (merged esd L) = true := by
  have hall : (merged esd L).all entP = true := List.all_eq_true.2 fun e he => by
    rcases merged_mem he with h | h
    · exact List.all_eq_true.1 h1 e h
    · exact List.all_eq_true.1 h2 e h
  refine ⟨hall, (apart_iff (entP_key hall)).2 ?_⟩
  unfold merged
  rw [List.map_append]
  refine List.nodup_append.2 ⟨?_, (apart_iff (entP_key h2)).1 a2, fun x hx y hy => ?_⟩
  · exact ((apart_iff (entP_key h1)).1 a1).sublist (List.filter_sublist.map _)
  · rintro rfl
    obtain ⟨e, he, rfl⟩ := List.mem_map.1 hx
    obtain ⟨f, hf, hfe⟩ := List.mem_map.1 hy
    obtain ⟨he1, he2⟩ := List.mem_filter.1 he
    obtain ⟨k, hk⟩ := entP_key h2 f hf
    have : hitK .i f.1 e = true := by
      rw [hk]
      exact (hit_key (entP_key h1 e he1)).2 (by rw [← hfe, hk])
    have h3 : (L.any fun x => hitK .i x.1 e) = true := List.any_eq_true.2 ⟨f, hf, this⟩
    rw [h3] at he2; cases he2
/-- One entry more laid over them. -/
theorem merged_put {esd L es' : List (V × V)} {k : Int} {v : V} (h1 : esd.all entP = true) (h2 : L.all entP = true) (a1 : apart esd = true) (a2 : apart L = true) (hp : es'.Perm (merged esd L)) (hk : ∀ e ∈ L, e.1 ≠ .int .i64 k) :
    ∃ es2, mapPut .i (.int .i64 k) v es' = some es2 ∧ es2.Perm (merged esd ((.int .i64 k, v) :: L)) := by
  obtain ⟨m1, m2⟩ := merged_ok h1 h2 a1 a2
  obtain ⟨es2, h3⟩ := mapPut_ex (x := v) (okM_perm hp (okM_int m1 m2 k))
  refine ⟨es2, h3, (mapPut_spec h3).2.trans ?_⟩
  refine ((hp.filter _).cons _).trans ?_
  have e1 : (merged esd L).filter (fun e => !hitK .i (.int .i64 k) e) = (esd.filter fun e => !(((V.int .i64 k, v) :: L).any fun x => hitK .i x.1 e)) ++ L := by
    unfold merged
    rw [List.filter_append, List.filter_filter]
    congr 1
    · refine List.filter_congr fun e he => ?_
      rw [List.any_cons, Bool.not_or]
    · refine List.filter_eq_self.2 fun e he => ?_
      have : hitK .i (.int .i64 k) e = false := by
        rw [Bool.eq_false_iff]
        exact fun hc => hk e he ((hit_key (entP_key h2 e he)).1 hc)
      rw [this]; rfl
  rw [e1]
  unfold merged
  exact List.perm_middle.symm

def copyG : List V → Heap → Option (Out × Option Heap)
  | [.map ld, .map ls], h => match h.o[ld]?, h.o[ls]? with
    | some (.map esd), some (.map ess) =>
      if ld ≠ ls ∧ esd.all entP = true ∧ ess.all entP = true ∧ apart esd = true ∧ apart ess = true then
        some (.val (.tuple []), some ⟨h.o.set ld (.map (merged esd ess)), h.e, min h.d (min ld ls)⟩)
      else none
    | _, _ => none
  | _, _ => none

theorem restore2 {o ho : List AM.Obj} {ld ls : Nat} {x y : AM.Obj} (hq : o[ls]? = some x) (hld : ld < o.length) (hlen : o.length ≤ ho.length) (hne : ld ≠ ls) (hold : ∀ l, l < o.length → l ≠ ls → l ≠ ld → ho[l]? = o[l]?) : ((ho.set ls x).set ld y).take o.length = o.set ld y := by
  have hls := get_lt hq
  apply List.ext_getElem?
  intro i
  rw [List.getElem?_take]
  by_cases hi : i < o.length
  · rw [if_pos hi]
    by_cases h1 : i = ld
    · subst h1
      rw [List.getElem?_set_self (by simp; omega), List.getElem?_set_self hi]
    · rw [List.getElem?_set_ne (Ne.symm h1), List.getElem?_set_ne (Ne.symm h1)]
      by_cases h2 : i = ls
      · subst h2
        rw [List.getElem?_set_self (by omega), hq]
      · rw [List.getElem?_set_ne (Ne.symm h2)]
        exact hold i hi h2 h1
  · rw [if_neg hi, List.getElem?_eq_none (by simp; omega)]

set_option maxHeartbeats 8000000 in
theorem copy_go {o : List AM.Obj} {e d ld ls : Nat} {esd ess : List (V × V)} (hP : o[ld]? = some (.map esd)) (hQ : o[ls]? = some (.map ess)) (hne : ld ≠ ls) (hp : esd.all entP = true) (hq : ess.all entP = true) (hap : apart esd = true) (haq : apart ess = true) {ι : Map} {w : World} (hr : HR ι o w) :
    Calls Try.prog 64 (V.reals ι [.map ld, .map ls]).toArray w fun e1 w' => ∃ κ, Nx ι ⟨o, e, d⟩ w κ ⟨o.set ld (.map (merged esd ess)), e, min d (min ld ls)⟩ w' ∧ OutOk κ (o.set ld (.map (merged esd ess))).length e1 (.val (.tuple [])) := by
  have lld := get_lt hP
  have lls := get_lt hQ
  refine calls_body (h2 := ⟨o.set ld (.map (merged esd ess)), e, min d (min ld ls)⟩) (h := ⟨o, e, d⟩) (args := [.map ld, .map ls]) Try.func64 rfl rfl hr ⟨lld, lls, trivial⟩ (Nat.le_of_ble_eq_true rfl) fun a hs hd => ?_
  let Inv : List (V × V) → List Nat → (Nat → V) → Heap → Prop := fun eq done S hc => S 0 = .map ld ∧ done.Nodup ∧ (∀ i ∈ done, i < eq.length) ∧ (∃ es', hc.o[ld]? = some (.map es') ∧ es'.Perm (merged esd (done.map (atD eq)))) ∧ o.length < hc.o.length ∧ (∀ l, l < o.length → l ≠ ls → l ≠ ld → hc.o[l]? = o[l]?) ∧ hc.e = o.length ∧ min ld ls ≤ hc.d
  refine range_block hcall0 mixed (ds := []) (PA := [⟨some 6, .mv (.t 1), none⟩]) (RC := [⟨some 11, .extract (.t 10) 0, none⟩, ⟨some 12, .extract (.t 10) 1, none⟩, ⟨some 5, .alloc 31 z64, none⟩, ⟨some 4, .mv (.t 11), none⟩, ⟨none, .store 64 (.t 5) (.t 12), none⟩])
    (AB := .region [⟨some 13, .mv (.t 0), none⟩, ⟨some 14, .mv (.t 4), none⟩, ⟨some 15, .load (some 64) (.t 5), none⟩, ⟨none, .mapSet .i (.t 13) (.t 14) (.t 15), none⟩] false)
    (k := 4) rfl rfl rfl rfl rfl (by kernel_rfl) Try.underlying113 (Nat.le_of_ble_eq_true rfl) rfl rfl rfl rfl rfl rfl rfl rfl rfl rfl rfl (by kernel_rfl) (by kernel_rfl) (Nat.le_of_ble_eq_true rfl) (Nat.le_of_ble_eq_true rfl) (Nat.le_of_ble_eq_true rfl) (by decide) (by decide)
    (h := enter ⟨o, e, d⟩) hr hs hd (h1 := ⟨o, o.length, o.length⟩) (by simp only [go_sem, seval, initS]; rfl) (es := ess) (lm := ls) (by simp only [go_sem, reduceIte, seval]) hQ (fun e he => ?_) Inv ?_ ?_ ?_ ?_ ?_
  · obtain ⟨k, pg, rfl, _, h2, _⟩ := entP_inv (List.all_eq_true.1 hq e he)
    exact ⟨rfl, h2⟩
  · rintro eq done S hc x ⟨h1, h3, h4, ⟨es', h5, h5'⟩, h6, h7, h8, h9⟩
    refine ⟨h1, h3, h4, ⟨es', ?_, h5'⟩, by simpa using h6, fun l hl a b => ?_, h8, ?_⟩
    · show (hc.o.set o.length _)[ld]? = _
      rw [List.getElem?_set_ne (by omega)]; exact h5
    · show (hc.o.set o.length _)[l]? = _
      rw [List.getElem?_set_ne (by omega)]; exact h7 l hl a b
    · show _ ≤ min hc.d o.length
      omega
  · rintro eq done S hc v u ⟨h1, h2⟩
    exact ⟨by simp only [go_sem, reduceIte, seval, h1], h2⟩
  · rintro eq hpm done S hc i en ⟨h1, h3, h4, ⟨es', h5, h5'⟩, h6, h7, h8, h9⟩ hit hi hnot ⟨x1, hx1⟩ ⟨x2, hx2⟩
    have heq := all_perm hpm hq
    have haeq := apart_perm hpm (entP_key hq) haq
    obtain ⟨k, pgv, rfl, hpl64, hpp, hpo⟩ := entP_inv (List.all_eq_true.1 heq en (List.mem_of_getElem? hi))
    obtain ⟨ho, he, hd'⟩ := hc
    simp only at h5 h6 h7 h8 h9 hx1 hx2
    have hkey : V.key .i (.int .i64 k) = true := rfl
    have hil : i < eq.length := (List.getElem?_eq_some_iff.1 hi).1
    have hnl : (i :: done).Nodup := List.nodup_cons.2 ⟨hnot, h3⟩
    have hlt' : ∀ j ∈ i :: done, j < eq.length := fun j hj => by
      rcases List.mem_cons.1 hj with rfl | hj
      · exact hil
      · exact h4 j hj
    have hz : List.drop 64 z64 = [] := rfl
    have hz2 : z64.length = 64 := rfl
    have htk : List.take 64 pgv = pgv := List.take_of_length_le (by omega)
    have hsub : ∀ {l : List Nat}, (∀ j ∈ l, j < eq.length) → ∀ x ∈ l.map (atD eq), ∃ j ∈ l, eq[j]? = some x := fun hl x hx => by
      obtain ⟨j, hj, rfl⟩ := List.mem_map.1 hx
      have hjl := hl j hj
      refine ⟨j, hj, ?_⟩
      unfold atD
      rw [List.getD_eq_getElem?_getD, List.getElem?_eq_getElem hjl]; rfl
    have hLall : (done.map (atD eq)).all entP = true := List.all_eq_true.2 fun x hx => by
      obtain ⟨j, _, hj⟩ := hsub h4 x hx
      exact List.all_eq_true.1 heq x (List.mem_of_getElem? hj)
    have hLap : apart (done.map (atD eq)) = true := by
      refine (apart_iff (entP_key hLall)).2 ?_
      rw [List.map_map, List.nodup_iff_pairwise_ne, List.pairwise_map]
      refine (List.nodup_iff_pairwise_ne.1 h3).imp_of_mem fun {x y} hx hy hxy => ?_
      intro hc
      obtain ⟨kx, hkx⟩ := entP_key hLall (atD eq x) (List.mem_map_of_mem hx)
      have gx : eq[x]? = some (atD eq x) := by unfold atD; rw [List.getD_eq_getElem?_getD, List.getElem?_eq_getElem (h4 x hx)]; rfl
      have gy : eq[y]? = some (atD eq y) := by unfold atD; rw [List.getD_eq_getElem?_getD, List.getElem?_eq_getElem (h4 y hy)]; rfl
      exact hxy (apart_key haeq gx gy ⟨.i64, kx, hkx, by rw [← hkx]; exact hc.symm⟩)
    have hnk : ∀ x ∈ done.map (atD eq), x.1 ≠ .int .i64 k := fun x hx hc => by
      obtain ⟨j, hj, hjx⟩ := hsub h4 x hx
      have := apart_key haeq hjx hi ⟨.i64, k, hc, rfl⟩
      subst this
      exact hnot hj
    obtain ⟨es2, hput, hes2⟩ := merged_put (v := .agg pgv) hp hLall hap hLap h5' hnk
    have gp : ∀ r, (ho ++ r)[ld]? = some (.map es') := fun r => app_old h5 r
    have hst : ∀ x r, (ho ++ r).set ld x = ho.set ld x ++ r := fun x r => List.set_append_left _ _ (by omega)
    refine ⟨_, _, .norm, _, _, (by simp only [go_sem, reduceIte, seval, Heap.sets, List.drop_of_length_le, ne_eq, not_false_eq_true, Nat.zero_le, hpl64, hpo, hpp, hz2]; rfl), (by simp only [exec, go_sem, reduceIte, seval, Heap.gets, List.take_of_length_le, h1, gp, hkey, hput, hpl64, hpp, hst, Heap.setMap]; rfl), .inl rfl, ?_, ?_, ?_, ?_⟩
    · simp only [go_sem, reduceIte, seval]; exact hit
    · show (ho.set ld _ ++ [_])[o.length]? = ho[o.length]?
      rw [List.getElem?_append_left (by simp; omega), List.getElem?_set_ne (by omega)]
    · show (ho.set ld _ ++ [_])[ls]? = ho[ls]?
      rw [List.getElem?_append_left (by simp; omega), List.getElem?_set_ne hne]
    · refine ⟨by simp only [go_sem, reduceIte, seval, h1], hnl, hlt', ⟨es2, ?_, ?_⟩, ?_, fun l hl a b => ?_, h8, ?_⟩
      · show (ho.set ld _ ++ [_])[ld]? = _
        rw [List.getElem?_append_left (by simp; omega), List.getElem?_set_self (by omega)]
      · rw [List.map_cons, atD_get hi]; exact hes2
      · show o.length < (ho.set ld _ ++ [_]).length
        simp; omega
      · show (ho.set ld _ ++ [_])[l]? = _
        rw [List.getElem?_append_left (by simp; omega), List.getElem?_set_ne (Ne.symm b)]
        exact h7 l hl a b
      · show _ ≤ min (min hd' ho.length) ld
        omega
  · intro eq hpm xi xm
    refine ⟨by simp only [go_sem, reduceIte, seval, initS], List.nodup_nil, by simp, ⟨esd, ?_, merged_nil esd⟩, by simp, fun l hl b _ => ?_, rfl, ?_⟩
    · show ((o ++ [AM.Obj.raw xi]).set ls _)[ld]? = _
      rw [List.getElem?_set_ne (Ne.symm hne), List.getElem?_append_left lld]; exact hP
    · show ((o ++ [AM.Obj.raw xi]).set ls _)[l]? = _
      rw [List.getElem?_set_ne (Ne.symm b), List.getElem?_append_left hl]
    · show _ ≤ min o.length ls
      omega
  · rintro eq hpm κ3 a3 w3 S3 ⟨ho, he, hd'⟩ done hn3 hs3 hd3 ⟨h1, h3, h4, ⟨es', h5, h5'⟩, h6, h7, h8, h9⟩ hall ⟨x, hx⟩
    simp only at h5 h6 h7 h8 h9 hx
    subst h8
    have hfin : es'.Perm (merged esd ess) := h5'.trans (merged_perm ((done_ents h3 h4 hall).trans hpm))
    obtain ⟨m1, m2⟩ := merged_ok hp hq hap haq
    have h5s : (ho.set ls (.map ess))[ld]? = some (.map es') := by rw [List.getElem?_set_ne (Ne.symm hne)]; exact h5
    have hmsc : ∀ n, (AM.Obj.map (merged esd ess)).sc n := fun n x hx => by
      obtain ⟨k, pg, rfl, _, hpl, _⟩ := entP_inv (List.all_eq_true.1 m1 x hx)
      exact ⟨trivial, V.sc_of_plain _ _ hpl⟩
    have hn4 : Nx κ3 ⟨ho.set ls (.map ess), o.length, min hd' ls⟩ w3 κ3 ⟨(ho.set ls (.map ess)).set ld (.map (merged esd ess)), o.length, min (min hd' ls) ld⟩ w3 := by
      obtain ⟨en, cl, eq2, hb, hpm2, hr2⟩ := hn3.hr.obj ld _ h5s
      exact Nx.upd hn3.hr h5s rfl rfl _ _ rfl rfl rfl rfl (fun _ _ => rfl) ⟨en, cl, eq2, hb, hpm2.trans hfin, hr2⟩ (hmsc _) (Nat.le_refl _) (Nat.min_le_left _ _) (Nat.min_le_right _ _) (.inr fun n _ => hmsc n)
    have hs4 : SR κ3 S3 Try.f64.ntmps a3.tmps ((ho.set ls (.map ess)).set ld (.map (merged esd ess))).length := by rw [List.length_set, List.length_set]; exact hs3
    refine ⟨.inl rfl, κ3, S3, _, hn3.trans hn4, hs4, hd3, [], rfl, rfl, ?_⟩
    have hlv : leave ⟨o, e, d⟩ ⟨(ho.set ls (.map ess)).set ld (.map (merged esd ess)), o.length, min (min hd' ls) ld⟩ (.tuple []) = some ⟨o.set ld (.map (merged esd ess)), e, min d (min (min hd' ls) ld)⟩ := by
      unfold leave
      simp only
      rw [if_pos ⟨Nat.le_refl _, rfl⟩, if_neg (by omega), restore2 hQ lld (by omega) hne h7]
    show ((leave _ _ (.tuple [])).getD _).o = _ ∧ ((leave _ _ (.tuple [])).getD _).e = _ ∧ _ ≤ ((leave _ _ (.tuple [])).getD _).d
    rw [show leave (⟨o, e, d⟩ : Heap) ⟨(ho.set ls (.map ess)).set ld (.map (merged esd ess)), o.length, min (min hd' ls) ld⟩ (.tuple []) = _ from hlv]
    exact ⟨rfl, rfl, by show min d (min ld ls) ≤ min d (min (min hd' ls) ld); omega⟩

theorem copyOk (args : List V) (h : Heap) (out : Out) (oh : Option Heap) (he : copyG args h = some (out, oh)) : callOk Try.prog 64 = true ∧ ∀ ι w, HR ι h.o w → V.scs h.o.length args →
    Calls Try.prog 64 (V.reals ι args).toArray w fun e w' => ∃ κ, Nx ι h w κ (oh.getD h) w' ∧ OutOk κ (oh.getD h).o.length e out := by
  refine ⟨by kernel_rfl, fun ι w hr hsc => ?_⟩
  obtain ⟨o, e, d⟩ := h
  unfold copyG at he
  split at he
  · rename_i ld ls
    simp only at he
    split at he
    · rename_i esd ess hP hQ
      split at he
      · rename_i hc
        obtain ⟨h1, h2, h3, h4, h5⟩ := hc
        cases he
        exact copy_go hP hQ h1 h2 h3 h4 h5 hr
      · cases he
    · cases he
  · cases he
end Go.Proofs.Ytfbkeieoeagkdaa

/- Disk: the functions by hand in one table; the document's example. -/
namespace Go.Proofs.Ytfbkeieoeagkdaa
open Go AM
set_option linter.unusedSimpArgs false
set_option linter.unusedVariables false
set_option maxRecDepth 100000

def t1 : HandT
  | 50 => some sortedH
  | 16 => some flushG
  | 63 => some withG
  | 64 => some copyG
  | _ => none
theorem ok1 : HandOk Try.prog t1 := by
  intro f k args h out oh hk he
  unfold t1 at hk
  split at hk
  · cases hk; exact sortedHOk args h out oh he
  · cases hk; exact flushOk args h out oh he
  · cases hk; exact withOk args h out oh he
  · cases hk; exact copyOk args h out oh he
  · cases hk
def g1 : Nat → Option Ans := fun _ => none
def E1 : ExtF := extH g1 t1
theorem hxE1 : ExtMono E1 := extH_mono g1 t1
theorem plE1 : ExtSound Try.prog (plainExt g1) := plain0_sound
theorem sndE1 : ExtSound Try.prog E1 := extH_sound plE1 ok1
def tAwake : Ans
  | [] => some (.bool true)
  | _ => none
theorem okAwake03 : SpOk FF E1 11 tAwake := by
  intro args v h hpl
  unfold tAwake at h
  split at h
  · cases h
    exact ⟨rfl, none, Den_of hxE1 (k := 100) (by kernel_rfl)⟩
  · cases h
end Go.Proofs.Ytfbkeieoeagkdaa

/- Store, journal: the document's examples. -/
namespace Go.Proofs.Ytfbkeieoeagkdaa
open Go AM
set_option linter.unusedSimpArgs false
set_option linter.unusedVariables false
set_option maxRecDepth 100000

theorem okAwake05 : SpOk FF E1 29 tAwake := by
  intro args v h hpl
  unfold tAwake at h
  split at h
  · cases h
    exact ⟨rfl, none, Den_of hxE1 (k := 200) (by kernel_rfl)⟩
  · cases h
theorem okAwake06 : SpOk FF E1 34 tAwake := by
  intro args v h hpl
  unfold tAwake at h
  split at h
  · cases h
    exact ⟨rfl, none, Den_of hxE1 (k := 200) (by kernel_rfl)⟩
  · cases h
end Go.Proofs.Ytfbkeieoeagkdaa

/- Disk, journal, store: the layer of the document's examples. -/
namespace Go.Proofs.Ytfbkeieoeagkdaa
open Go AM
set_option linter.unusedSimpArgs false
set_option linter.unusedVariables false
set_option maxRecDepth 100000

def g2 : Nat → Option Ans := addG g1 [(11, tAwake), (29, tAwake), (34, tAwake)]
def E2 : ExtF := extH g2 t1
theorem hxE2 : ExtMono E2 := extH_mono g2 t1
theorem plE2 : ExtSound Try.prog (plainExt g2) := addH_sound mixed ffok sndE1 plE1 (by
  intro p hp
  simp only [List.mem_cons, List.not_mem_nil, or_false] at hp
  rcases hp with rfl | rfl | rfl
  · exact okAwake03
  · exact okAwake05
  · exact okAwake06)
theorem sndE2 : ExtSound Try.prog E2 := extH_sound plE2 ok1
theorem E2_none {f : Nat} (h : g2 f = none) (h' : t1 f = none := by rfl) (c : CallF) : E2 c f = none := extH_none h h' c
theorem eAwake06_2 (_ : Unit) (h : Heap) : Den FF E2 34 [] h = some (.val (.bool true), none) := denH_plain (sp := tAwake) h rfl (by rfl) (by first | (simp [V.plains]; done) | rfl)
end Go.Proofs.Ytfbkeieoeagkdaa

/- Disk: what a disk is in memory; calls that read it. -/
namespace Go.Proofs.Ytfbkeieoeagkdaa
open Go AM
set_option linter.unusedSimpArgs false
set_option linter.unusedVariables false
set_option maxRecDepth 100000

abbrev Pg := List UInt8
def pgC (pgs : List Pg) : List V := pgs.flatMap bytesA
def ent (x : Nat × Pg) : V × V := (.int .i64 (x.1 : Int), .agg (bytesA x.2))
def findC (k : Nat) (ca : List (Nat × Pg)) : Option Pg := (ca.find? fun e => e.1 == k).map (·.2)
def putC (k : Nat) (p : Pg) : List (Nat × Pg) → List (Nat × Pg)
  | [] => [(k, p)]
  | e :: r => if k = e.1 then (k, p) :: r else e :: putC k p r
def layP (ca : List (Nat × Pg)) (pgs : List Pg) : List Pg := (List.range pgs.length).map fun i => (findC i ca).getD (pgs.getD i [])

theorem pgC_len : ∀ {pgs : List Pg}, (∀ p ∈ pgs, p.length = 64) → (pgC pgs).length = pgs.length * 64
  | [], h => rfl
  | p :: r, h => by
    have ih := pgC_len (pgs := r) fun q hq => h q (List.mem_cons_of_mem _ hq)
    have hp := h p List.mem_cons_self
    unfold pgC at ih ⊢
    rw [List.flatMap_cons, List.length_append, ih, bytesA_length, hp, List.length_cons]
    omega
theorem pgC_at : ∀ {pgs : List Pg} {i : Nat} {p : Pg}, (∀ p ∈ pgs, p.length = 64) → pgs[i]? = some p → ((pgC pgs).drop (i * 64)).take 64 = bytesA p
  | [], i, p, h, hi => by simp at hi
  | q :: r, 0, p, h, hi => by
    simp only [List.getElem?_cons_zero, Option.some.injEq] at hi
    subst hi
    have hq := h q List.mem_cons_self
    unfold pgC
    rw [List.flatMap_cons, Nat.zero_mul, List.drop_zero, List.take_left' (by rw [bytesA_length, hq])]
  | q :: r, i + 1, p, h, hi => by
    simp only [List.getElem?_cons_succ] at hi
    have hq := h q List.mem_cons_self
    have ih := pgC_at (fun p hp => h p (List.mem_cons_of_mem _ hp)) hi
    unfold pgC at ih ⊢
    have e : (i + 1) * 64 = 64 + i * 64 := by omega
    rw [List.flatMap_cons, e, ← List.drop_drop, List.drop_left' (by rw [bytesA_length, hq]), ih]
theorem find_ent (i : Nat) : ∀ (ca : List (Nat × Pg)), (ca.map ent).find? (keyIs i) = (ca.find? fun e => e.1 == i).map ent
  | [] => rfl
  | e :: r => by
    rw [List.map_cons, List.find?_cons, List.find?_cons]
    have : keyIs i (ent e) = (e.1 == i) := by
      unfold keyIs ent
      rw [Bool.eq_iff_iff, beq_iff_eq]
      simp only [decide_eq_true_eq]
      omega
    rw [this]
    cases (e.1 == i)
    · exact find_ent i r
    · rfl
theorem lay_eq {ca : List (Nat × Pg)} {pgs : List Pg} (h : ∀ p ∈ pgs, p.length = 64) : layPages (ca.map ent) pgs.length (pgC pgs) = pgC (layP ca pgs) := by
  unfold layPages layP
  unfold pgC
  rw [List.flatMap_map]
  refine fm_congr fun i hi => ?_
  have hi := List.mem_range.1 hi
  rw [find_ent]
  unfold findC
  cases hf : ca.find? fun e => e.1 == i with
  | none =>
    simp only [Option.map_none, Option.getD_none]
    have hg : pgs[i]? = some pgs[i] := List.getElem?_eq_getElem hi
    have := pgC_at h hg
    unfold pgC at this
    rw [this, List.getD_eq_getElem?_getD, hg]; rfl
  | some e => rfl
theorem lone_ent {k : Nat} : ∀ {r : List (Nat × Pg)}, k ∉ r.map (·.1) → loneK .i (.int .i64 (k : Int)) (r.map ent) = true
  | [], _ => rfl
  | e :: r, h => by
    have ih := lone_ent (k := k) (r := r) fun hk => h (by rw [List.map_cons]; exact List.mem_cons_of_mem _ hk)
    have hne : k ≠ e.1 := fun hk => h (by rw [List.map_cons, hk]; exact List.mem_cons_self)
    have he : eqK .i (.int .i64 (k : Int)) (.int .i64 (e.1 : Int)) = some false := by
      simp only [eqK, if_true, Option.some.injEq, beq_eq_false_iff_ne, ne_eq]
      omega
    unfold loneK at ih ⊢
    rw [List.map_cons, List.all_cons, ih]
    unfold ent
    simp only [he, Bool.and_true]
theorem mapFind_ent (k : Nat) : ∀ (ca : List (Nat × Pg)), (ca.map (·.1)).Nodup → mapFind .i (.int .i64 (k : Int)) (ca.map ent) = some ((findC k ca).map fun p => .agg (bytesA p))
  | [], _ => rfl
  | e :: r, hnd => by
    obtain ⟨hn1, hn2⟩ := List.nodup_cons.1 (by simpa using hnd : (e.1 :: r.map (·.1)).Nodup)
    have ih := mapFind_ent k r hn2
    rw [List.map_cons]
    unfold mapFind ent
    have he : eqK .i (.int .i64 (k : Int)) (.int .i64 (e.1 : Int)) = some (k == e.1) := by
      simp only [eqK, if_true]
      congr 1
      rw [Bool.eq_iff_iff, beq_iff_eq, beq_iff_eq]
      omega
    simp only [he]
    unfold findC
    by_cases h : k = e.1
    · subst h
      have := lone_ent hn1
      unfold ent at this
      simp [this]
    · have h1 : (k == e.1) = false := by simpa using h
      have h2 : (e.1 == k) = false := by simpa using Ne.symm h
      simp only [h1, List.find?_cons, h2]
      exact ih
theorem mapPut_ent (k : Nat) (p : Pg) : ∀ (ca : List (Nat × Pg)), (ca.map (·.1)).Nodup → mapPut .i (.int .i64 (k : Int)) (.agg (bytesA p)) (ca.map ent) = some ((putC k p ca).map ent)
  | [], _ => rfl
  | e :: r, hnd => by
    obtain ⟨hn1, hn2⟩ := List.nodup_cons.1 (by simpa using hnd : (e.1 :: r.map (·.1)).Nodup)
    have ih := mapPut_ent k p r hn2
    rw [List.map_cons]
    unfold mapPut ent
    have he : eqK .i (.int .i64 (k : Int)) (.int .i64 (e.1 : Int)) = some (k == e.1) := by
      simp only [eqK, if_true]
      congr 1
      rw [Bool.eq_iff_iff, beq_iff_eq, beq_iff_eq]
      omega
    simp only [he]
    unfold putC
    by_cases h : k = e.1
    · subst h
      have := lone_ent hn1
      unfold ent at this
      simp [this]
    · have h1 : (k == e.1) = false := by simpa using h
      simp only [h1, if_neg h, List.map_cons]
      unfold ent at ih
      simp only [ih]
theorem putC_mem {k : Nat} {p : Pg} : ∀ {ca : List (Nat × Pg)} {x : Nat × Pg}, x ∈ putC k p ca → x = (k, p) ∨ x ∈ ca
  | [], x, h => .inl (by simpa [putC] using h)
  | e :: r, x, h => by
    unfold putC at h
    split at h
    · rcases List.mem_cons.1 h with h | h
      · exact .inl h
      · exact .inr (List.mem_cons_of_mem _ h)
    · rcases List.mem_cons.1 h with rfl | h
      · exact .inr List.mem_cons_self
      · rcases putC_mem h with h | h
        · exact .inl h
        · exact .inr (List.mem_cons_of_mem _ h)
theorem putC_nodup {k : Nat} {p : Pg} : ∀ {ca : List (Nat × Pg)}, (ca.map (·.1)).Nodup → ((putC k p ca).map (·.1)).Nodup
  | [], h => by simp [putC]
  | e :: r, h => by
    obtain ⟨h1, h2⟩ := List.nodup_cons.1 (by simpa using h : (e.1 :: r.map (·.1)).Nodup)
    unfold putC
    split
    · rename_i hk
      rw [List.map_cons]
      exact List.nodup_cons.2 ⟨by rw [hk]; exact h1, h2⟩
    · rename_i hk
      rw [List.map_cons]
      refine List.nodup_cons.2 ⟨fun hm => ?_, putC_nodup h2⟩
      obtain ⟨x, hx, he⟩ := List.mem_map.1 hm
      rcases putC_mem hx with rfl | hx
      · exact hk he
      · exact h1 (by rw [← he]; exact List.mem_map_of_mem hx)
theorem apart_ent : ∀ {ca : List (Nat × Pg)}, (ca.map (·.1)).Nodup → apart (ca.map ent) = true
  | [], h => rfl
  | e :: r, h => by
    obtain ⟨h1, h2⟩ := List.nodup_cons.1 (by simpa using h : (e.1 :: r.map (·.1)).Nodup)
    rw [List.map_cons]
    simp only [apart, Bool.and_eq_true, List.all_eq_true]
    refine ⟨fun x hx => ?_, apart_ent h2⟩
    obtain ⟨y, hy, rfl⟩ := List.mem_map.1 hx
    have : e.1 ≠ y.1 := fun he => h1 (by rw [he]; exact List.mem_map_of_mem hy)
    simp only [ent, V.beq, decide_true, Bool.true_and, Bool.not_eq_true', beq_eq_false_iff_ne, ne_eq, Int.ofNat_inj]
    exact this
theorem pageEnt_ent {np : Nat} {x : Nat × Pg} (h : x.2.length = 64) (hk : x.1 < np) : pageEnt np (ent x) = true := by
  simp only [ent, pageEnt, bytesA_length, h, bytesA_plains, bytesA_one, decide_true, Bool.and_true, decide_eq_true_eq]
  omega

/-- A disk in memory. -/
structure PD (o : List AM.Obj) (dd pg lm : Nat) (on down : Bool) (left : Int) (pgs : List Pg) (ca : List (Nat × Pg)) : Prop where
  hd : o[dd]? = some (.cells .ex 92 0 [.bool on, .bool down, .int .i64 left, .slice pg 0 pgs.length 64, .map lm])
  hp : o[pg]? = some (.cells .ex 31 0 (pgC pgs))
  hm : o[lm]? = some (.map (ca.map ent))
  p64 : ∀ p ∈ pgs, p.length = 64
  c64 : ∀ e ∈ ca, e.2.length = 64 ∧ e.1 < pgs.length
  nd : (ca.map (·.1)).Nodup

theorem fin_k1 {a : AF} {h : Heap} {S : Nat → V} {h' : Heap} {i : Nat} {v : V} (hr : a.res = [.t i]) (hS : S i = v) (hp : v.plain = true) (k : Kp h h') : finish a h (some (.ret, S, h')) = some (.val v, none) := by
  subst hS
  rw [fin1 hr, leave_plain k hp]
theorem fin_k {a : AF} {h : Heap} {S : Nat → V} {h' : Heap} {vs : List V} {v : V} (hres : resAll S h' a.res = some vs) (hv : resV vs = v) (hp : v.plain = true) (k : Kp h h') : finish a h (some (.ret, S, h')) = some (.val v, none) := by
  subst hv
  simp only [finish, hres, leave_plain k hp]

def hasE (down : Bool) (np : Nat) (i : Int) : Int := if down = true then 5 else if i < 0 ∨ (np : Int) ≤ i then 22 else 0
def lastP (pgs : List Pg) (i : Int) : Pg := if i < 0 then zs 64 else pgs.getD i.toNat (zs 64)
section
variable {o : List AM.Obj} {e d dd pg lm : Nat} {on down : Bool} {left : Int} {pgs : List Pg} {ca : List (Nat × Pg)}

theorem down_q (P : PD o dd pg lm on down left pgs ca) : Den FF E2 19 [.ptr dd 0] ⟨o, e, d⟩ = some (.val (.bool down), none) := by
  refine To.den hxE2 (f := 19) (a := af19) rfl (E2_none rfl) (Nat.le_of_ble_eq_true rfl) ?_
  (repeat' (first | refine To.seq hxE2 ?_ | refine To.op0 hxE2 (by simp only [go_sem, reduceIte, seval, Heap.get, Nat.add_zero, P.hd]; rfl) ?_ | refine To.nop hxE2 ?_ | refine To.ret hxE2 ?_))
  try simp only [andThen, outOf]
  exact fin_k1 (i := 2) (v := .bool down) rfl (by simp only [go_sem, reduceIte, seval]) rfl (Kp.enter' _)
theorem pages_q (P : PD o dd pg lm on down left pgs ca) : Den FF E2 27 [.ptr dd 0] ⟨o, e, d⟩ = some (.val (.int .i64 (pgs.length : Int)), none) := by
  refine To.den hxE2 (f := 27) (a := af27) rfl (E2_none rfl) (Nat.le_of_ble_eq_true rfl) ?_
  (repeat' (first | refine To.seq hxE2 ?_ | refine To.op0 hxE2 (by simp only [go_sem, reduceIte, seval, Heap.get, P.hd]; rfl) ?_ | refine To.nop hxE2 ?_ | (refine To.condF hxE2 ?_ ?_; focus (simp only [go_sem, reduceIte, seval]; done)) | refine To.ret hxE2 ?_ | refine To.skip hxE2 ?_))
  try simp only [andThen, outOf]
  exact fin_k1 (v := .int .i64 (pgs.length : Int)) rfl (by simp only [go_sem, reduceIte, seval]) rfl (Kp.enter' _)
theorem has_q (P : PD o dd pg lm on down left pgs ca) (i : Int) : Den FF E2 48 [.ptr dd 0, .int .i64 i] ⟨o, e, d⟩ = some (.val (.int .i64 (hasE down pgs.length i)), none) := by
  refine To.den hxE2 (f := 48) (a := af48) rfl (E2_none rfl) (Nat.le_of_ble_eq_true rfl) ?_
  have q := down_q (e := o.length) (d := o.length) P
  unfold hasE
  cases down
  case true =>
    (repeat' (first | refine To.seq hxE2 ?_ | refine To.op0 hxE2 (by simp only [go_sem, reduceIte, seval, q]; rfl) ?_ | refine To.nop hxE2 ?_ | (refine To.condT hxE2 ?_ ?_; focus (simp only [go_sem, reduceIte, seval]; done)) | refine To.block hxE2 ?_ | refine To.ret hxE2 ?_))
    try simp only [andThen, outOf]
    exact fin_k1 (v := .int .i64 5) rfl (by simp only [go_sem, reduceIte, seval]) rfl (Kp.enter' _)
  by_cases h1 : i < 0
  · have d1 : decide (i < 0) = true := decide_eq_true h1
    (repeat' (first | refine To.seq hxE2 ?_ | refine To.op0 hxE2 (by simp only [go_sem, reduceIte, seval, q, d1]; rfl) ?_ | refine To.nop hxE2 ?_ | (refine To.condT hxE2 ?_ ?_; focus (simp only [go_sem, reduceIte, seval]; done)) | (refine To.condF hxE2 ?_ ?_; focus (simp only [go_sem, reduceIte, seval]; done)) | refine To.block hxE2 ?_ | refine To.ret hxE2 ?_))
    try simp only [andThen, outOf]
    rw [if_neg (by simp), if_pos (.inl h1)]
    exact fin_k1 (v := .int .i64 22) rfl (by simp only [go_sem, reduceIte, seval]) rfl (Kp.enter' _)
  have d1 : decide (i < 0) = false := decide_eq_false h1
  by_cases h2 : (pgs.length : Int) ≤ i
  · have d2 : decide ((pgs.length : Int) ≤ i) = true := decide_eq_true h2
    (repeat' (first | refine To.seq hxE2 ?_ | refine To.op0 hxE2 (by simp only [go_sem, reduceIte, seval, Heap.get, P.hd, q, d1, d2]; rfl) ?_ | refine To.nop hxE2 ?_ | (refine To.condT hxE2 ?_ ?_; focus (simp only [go_sem, reduceIte, seval]; done)) | (refine To.condF hxE2 ?_ ?_; focus (simp only [go_sem, reduceIte, seval]; done)) | refine To.block hxE2 ?_ | refine To.ret hxE2 ?_))
    try simp only [andThen, outOf]
    rw [if_neg (by simp), if_pos (.inr h2)]
    exact fin_k1 (v := .int .i64 22) rfl (by simp only [go_sem, reduceIte, seval]) rfl (Kp.enter' _)
  have d2 : decide ((pgs.length : Int) ≤ i) = false := decide_eq_false h2
  (repeat' (first | refine To.seq hxE2 ?_ | refine To.op0 hxE2 (by simp only [go_sem, reduceIte, seval, Heap.get, P.hd, q, d1, d2]; rfl) ?_ | refine To.nop hxE2 ?_ | (refine To.condF hxE2 ?_ ?_; focus (simp only [go_sem, reduceIte, seval]; done)) | refine To.block hxE2 ?_ | refine To.ret hxE2 ?_ | refine To.skip hxE2 ?_))
  try simp only [andThen, outOf]
  rw [if_neg (by simp), if_neg (by rintro (h | h) <;> omega)]
  exact fin_k1 (v := .int .i64 0) rfl (by simp only [go_sem, reduceIte, seval]) rfl (Kp.enter' _)
end
end Go.Proofs.Ytfbkeieoeagkdaa

