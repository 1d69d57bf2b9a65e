/- Own texts, joined: TdFs, TdF, TdG, TdH, TdS, TdI, TdJ, TdP, TdQ, TdR, TdT, TdV. -/
import Derived.Test.YtfbkeieoeagkdaaProg
import Derived.Test.YtfbkeieoeagkdaaChecked
import Derived.Shelf.SlIterI.Nil
import Derived.Shelf.SortM.Plain
import Derived.Shelf.SortM.SortNone
import Derived.Test.YtfbkeieoeagkdaaAmPart3
/- The abstract code of the functions of this seat: what the engine makes of the program's own code. Printed by a program (genfs.py); Lean checks each one. -/
namespace Go.Proofs.Ytfbkeieoeagkdaa
open Go AM
def z512 : List V := reps z64 8
def opz : List V := .int .i64 0 :: .int .i64 0 :: (z64 ++ [.nils])

def af5 : AF := ⟨172, [.t 4], .seq (.region [⟨some 4, .mv (.k (.bool false)), none⟩] false) (.seq (.seq (.region [⟨some 17, .call 11 [], none⟩, ⟨some 18, .un .not (.t 17), none⟩] false) (.cond (.t 18) (.seq (.region [⟨some 4, .mv (.k (.bool false)), none⟩] false) .ret) .skip)) (.seq (.region [⟨some 20, .mv (.t 0), none⟩, ⟨some 21, .call 12 [.t 20], none⟩, ⟨some 19, .mv (.t 21), none⟩, ⟨some 22, .extract (.t 19) 0, none⟩, ⟨some 23, .extract (.t 19) 1, none⟩, ⟨some 5, .mv (.t 22), none⟩, ⟨some 6, .mv (.t 23), none⟩] false) (.seq (.region [⟨some 24, .mv (.t 0), none⟩, ⟨some 25, .call 21 [.t 24], none⟩, ⟨some 7, .mv (.t 25), none⟩] false) (.seq (.seq (.region [⟨some 26, .mv (.t 7), none⟩, ⟨some 27, .eqf false false [(1, .p)] (.t 26) (.k .nilp), none⟩] false) (.cond (.t 27) (.seq (.region [⟨some 28, .mv (.t 5), none⟩, ⟨some 29, .eqf false false [(1, .p)] (.t 28) (.k .nilp), none⟩, ⟨some 30, .mv (.t 29), none⟩, ⟨some 31, .mv (.t 6), some (30, true)⟩, ⟨some 32, .bin .eql (.t 31) (.k (.int .i64 22)), some (30, true)⟩, ⟨some 33, .pick (.t 30) (.t 32) (.k (.bool false)), none⟩, ⟨some 4, .mv (.t 33), none⟩] false) .ret) .skip)) (.seq (.seq (.region [⟨some 34, .mv (.t 5), none⟩, ⟨some 35, .eqf false false [(1, .p)] (.t 34) (.k .nilp), none⟩, ⟨some 36, .mv (.t 35), none⟩, ⟨some 37, .mv (.t 6), some (36, false)⟩, ⟨some 38, .bin .neq (.t 37) (.k (.int .i64 0)), some (36, false)⟩, ⟨some 39, .pick (.t 36) (.k (.bool true)) (.t 38), none⟩] false) (.cond (.t 39) (.seq (.region [⟨some 4, .mv (.k (.bool false)), none⟩] false) .ret) .skip)) (.seq (.seq (.region [⟨some 40, .mv (.t 1), none⟩, ⟨some 41, .lenL (.t 40), none⟩, ⟨some 42, .bin .gtr (.t 41) (.k (.int .i64 100)), none⟩] false) (.cond (.t 42) (.seq (.region [⟨some 4, .mv (.k (.bool true)), none⟩] false) .ret) .skip)) (.seq (.seq (.region [⟨some 43, .mv (.t 1), none⟩, ⟨some 44, .lenL (.t 43), none⟩, ⟨some 45, .mv (.k (.int .i64 0)), none⟩] false) (.block 0 (.loop (.seq (.region [⟨some 46, .bin .lss (.t 45) (.t 44), none⟩] false) (.seq (.cond (.t 46) .skip (.exit 0)) (.seq (.block 1 (.seq (.region [⟨some 47, .iaddrS 67 (.t 43) (.t 45), none⟩, ⟨some 48, .load (some 67) (.t 47), none⟩, ⟨some 9, .alloc 41 opz, none⟩, ⟨none, .store 67 (.t 9) (.t 48), none⟩] false) (.seq (.region [⟨some 10, .mv (.k (.int .i64 0)), none⟩, ⟨some 11, .mv (.k (.int .i64 0)), none⟩] false) (.seq (.seq (.region [⟨some 49, .faddr 0 (.t 9), none⟩, ⟨some 50, .load none (.t 49), none⟩] false) (.block 2 (.seq (.region [⟨some 52, .bin .eql (.t 50) (.k (.int .i64 0)), none⟩, ⟨some 51, .mv (.t 52), none⟩] false) (.cond (.t 51) (.draw 0 [⟨0, ⟨some 53, .mv (.t 5), none⟩, [], none, []⟩, ⟨1, ⟨some 54, .faddr 1 (.t 9), none⟩, [], none, []⟩, ⟨2, ⟨some 55, .load none (.t 54), none⟩, [], none, []⟩, ⟨3, ⟨some 56, .faddr 2 (.t 9), none⟩, [], none, []⟩, ⟨4, ⟨some 57, .load (some 64) (.t 56), none⟩, [], none, []⟩, ⟨6, ⟨some 59, .mv (.t 7), none⟩, [], none, []⟩, ⟨7, ⟨some 60, .faddr 1 (.t 9), none⟩, [], none, []⟩, ⟨8, ⟨some 61, .load none (.t 60), none⟩, [], none, []⟩, ⟨9, ⟨some 62, .faddr 2 (.t 9), none⟩, [], none, []⟩, ⟨10, ⟨some 63, .load (some 64) (.t 62), none⟩, [], none, []⟩, ⟨5, ⟨some 58, .call 13 [.t 53, .t 55, .t 57], none⟩, [], none, [⟨some 63, .load (some 64) (.t 62), none⟩, ⟨some 61, .load none (.t 60), none⟩]⟩, ⟨11, ⟨some 64, .call 22 [.t 59, .t 61, .t 63], none⟩, [], none, []⟩, ⟨12, ⟨some 10, .mv (.t 58), none⟩, [], none, []⟩, ⟨13, ⟨some 11, .mv (.t 64), none⟩, [], none, []⟩]) (.seq (.region [⟨some 66, .bin .eql (.t 50) (.k (.int .i64 1)), none⟩, ⟨some 65, .mv (.t 66), none⟩] false) (.cond (.t 65) (.seq (.region [⟨some 68, .mv (.t 5), none⟩, ⟨some 69, .faddr 1 (.t 9), none⟩, ⟨some 70, .load none (.t 69), none⟩, ⟨some 71, .call 17 [.t 68, .t 70], none⟩, ⟨some 67, .mv (.t 71), none⟩, ⟨some 72, .extract (.t 67) 0, none⟩, ⟨some 73, .extract (.t 67) 1, none⟩, ⟨some 12, .alloc 31 z64, none⟩, ⟨none, .store 64 (.t 12) (.t 72), none⟩, ⟨some 13, .mv (.t 73), none⟩] false) (.seq (.region [⟨some 75, .mv (.t 7), none⟩, ⟨some 76, .faddr 1 (.t 9), none⟩, ⟨some 77, .load none (.t 76), none⟩, ⟨some 78, .call 23 [.t 75, .t 77], none⟩, ⟨some 74, .mv (.t 78), none⟩, ⟨some 79, .extract (.t 74) 0, none⟩, ⟨some 80, .extract (.t 74) 1, none⟩, ⟨some 14, .alloc 31 z64, none⟩, ⟨none, .store 64 (.t 14) (.t 79), none⟩, ⟨some 15, .mv (.t 80), none⟩] false) (.seq (.seq (.region [⟨some 81, .load (some 64) (.t 12), none⟩, ⟨some 82, .load (some 64) (.t 14), none⟩, ⟨some 83, .eqf true true [(64, .i)] (.t 81) (.t 82), none⟩] false) (.cond (.t 83) (.seq (.region [⟨some 4, .mv (.k (.bool false)), none⟩] false) .ret) .skip)) (.region [⟨some 84, .mv (.t 13), none⟩, ⟨some 85, .mv (.t 15), none⟩, ⟨some 10, .mv (.t 84), none⟩, ⟨some 11, .mv (.t 85), none⟩] false)))) (.seq (.region [⟨some 87, .bin .eql (.t 50) (.k (.int .i64 2)), none⟩, ⟨some 86, .mv (.t 87), none⟩] false) (.cond (.t 86) (.region [⟨some 88, .mv (.t 5), none⟩, ⟨some 89, .call 16 [.t 88], none⟩, ⟨some 90, .mv (.t 7), none⟩, ⟨some 91, .call 24 [.t 90], none⟩, ⟨some 10, .mv (.t 89), none⟩, ⟨some 11, .mv (.t 91), none⟩] false) (.seq (.region [⟨some 93, .bin .eql (.t 50) (.k (.int .i64 3)), none⟩, ⟨some 92, .mv (.t 93), none⟩] false) (.cond (.t 92) (.seq (.region [⟨some 94, .mv (.t 5), none⟩, ⟨some 95, .faddr 1 (.t 9), none⟩, ⟨some 96, .load none (.t 95), none⟩, ⟨some 97, .call 18 [.t 94, .t 96], none⟩] false) (.region [⟨some 98, .mv (.t 7), none⟩, ⟨some 99, .faddr 1 (.t 9), none⟩, ⟨some 100, .load none (.t 99), none⟩, ⟨some 101, .call 25 [.t 98, .t 100], none⟩] false)) (.seq (.region [⟨some 103, .bin .eql (.t 50) (.k (.int .i64 4)), none⟩, ⟨some 102, .mv (.t 103), none⟩] false) (.cond (.t 102) (.seq (.seq (.region [⟨some 104, .faddr 66 (.t 9), none⟩, ⟨some 105, .load none (.t 104), none⟩, ⟨some 106, .lenL (.t 105), none⟩, ⟨some 107, .bin .gtr (.t 106) (.k (.int .i64 600)), none⟩] false) (.cond (.t 107) (.seq (.region [⟨some 4, .mv (.k (.bool true)), none⟩] false) .ret) .skip)) (.seq (.region [⟨some 108, .mv (.t 5), none⟩, ⟨some 109, .faddr 66 (.t 9), none⟩, ⟨some 110, .load none (.t 109), none⟩, ⟨some 111, .call 20 [.t 108, .t 110], none⟩] false) (.region [⟨some 112, .mv (.t 7), none⟩, ⟨some 113, .faddr 66 (.t 9), none⟩, ⟨some 114, .load none (.t 113), none⟩, ⟨some 115, .call 26 [.t 112, .t 114], none⟩] false))) .skip)))))))))))) (.seq (.region [⟨some 116, .build z64 [], none⟩, ⟨some 16, .alloc 31 z64, none⟩, ⟨none, .store 64 (.t 16) (.t 116), none⟩] false) (.seq (.seq (.draw 0 [⟨0, ⟨some 117, .faddr 1 (.t 9), none⟩, [], none, []⟩, ⟨1, ⟨some 118, .load none (.t 117), none⟩, [], none, []⟩, ⟨2, ⟨some 119, .bin .geq (.t 118) (.k (.int .i64 0)), none⟩, [], none, []⟩, ⟨3, ⟨some 120, .mv (.t 119), none⟩, [], none, []⟩, ⟨4, ⟨some 121, .faddr 1 (.t 9), some (120, true)⟩, [], none, []⟩, ⟨5, ⟨some 122, .load none (.t 121), some (120, true)⟩, [], none, []⟩, ⟨6, ⟨some 123, .mv (.t 7), some (120, true)⟩, [], none, []⟩, ⟨7, ⟨some 124, .nck (.t 123), some (120, true)⟩, [], none, []⟩, ⟨8, ⟨some 125, .faddr 0 (.t 124), some (120, true)⟩, [], none, []⟩, ⟨9, ⟨some 126, .load none (.t 125), some (120, true)⟩, [], none, []⟩, ⟨10, ⟨some 127, .lenL (.t 126), some (120, true)⟩, [], none, []⟩, ⟨11, ⟨some 128, .bin .lss (.t 122) (.t 127), some (120, true)⟩, [], none, []⟩, ⟨12, ⟨some 129, .pick (.t 120) (.t 128) (.k (.bool false)), none⟩, [], none, []⟩]) (.cond (.t 129) (.draw 0 [⟨0, ⟨some 130, .mv (.t 7), none⟩, [], none, []⟩, ⟨1, ⟨some 131, .nck (.t 130), none⟩, [], none, []⟩, ⟨2, ⟨some 132, .faddr 0 (.t 131), none⟩, [], none, []⟩, ⟨3, ⟨some 133, .load none (.t 132), none⟩, [], none, []⟩, ⟨4, ⟨some 134, .faddr 1 (.t 9), none⟩, [], none, []⟩, ⟨5, ⟨some 135, .load none (.t 134), none⟩, [], none, []⟩, ⟨6, ⟨some 136, .iaddrS 64 (.t 133) (.t 135), none⟩, [], none, []⟩, ⟨7, ⟨some 137, .load (some 64) (.t 136), none⟩, [], none, []⟩, ⟨8, ⟨none, .store 64 (.t 16) (.t 137), none⟩, [], none, []⟩]) .skip)) (.seq (.draw 0 [⟨0, ⟨some 138, .mv (.t 10), none⟩, [], none, []⟩, ⟨1, ⟨some 139, .mv (.t 11), none⟩, [], none, []⟩, ⟨2, ⟨some 140, .bin .neq (.t 138) (.t 139), none⟩, [], none, []⟩, ⟨3, ⟨some 141, .mv (.t 140), none⟩, [], none, []⟩, ⟨4, ⟨some 142, .mv (.t 5), some (141, false)⟩, [], none, []⟩, ⟨6, ⟨some 144, .mv (.t 0), some (141, false)⟩, [], none, []⟩, ⟨5, ⟨some 143, .call 27 [.t 142], some (141, false)⟩, [], none, []⟩, ⟨7, ⟨some 145, .bin .neq (.t 143) (.t 144), some (141, false)⟩, [], none, []⟩, ⟨8, ⟨some 146, .pick (.t 141) (.k (.bool true)) (.t 145), none⟩, [], none, []⟩, ⟨9, ⟨some 147, .mv (.t 146), none⟩, [], none, []⟩, ⟨10, ⟨some 148, .mv (.t 5), some (147, false)⟩, [], none, []⟩, ⟨12, ⟨some 150, .mv (.t 7), some (147, false)⟩, [], none, []⟩, ⟨11, ⟨some 149, .call 15 [.t 148], some (147, false)⟩, [], none, []⟩, ⟨13, ⟨some 151, .call 28 [.t 150], some (147, false)⟩, [], none, []⟩, ⟨14, ⟨some 152, .bin .neq (.t 149) (.t 151), some (147, false)⟩, [], none, []⟩, ⟨15, ⟨some 153, .pick (.t 147) (.k (.bool true)) (.t 152), none⟩, [], none, []⟩, ⟨16, ⟨some 154, .mv (.t 153), none⟩, [], none, []⟩, ⟨17, ⟨some 155, .mv (.t 5), some (154, false)⟩, [], none, []⟩, ⟨19, ⟨some 157, .mv (.t 7), some (154, false)⟩, [], none, []⟩, ⟨20, ⟨some 158, .nck (.t 157), some (154, false)⟩, [], none, []⟩, ⟨21, ⟨some 159, .faddr 4 (.t 158), some (154, false)⟩, [], none, []⟩, ⟨22, ⟨some 160, .load none (.t 159), some (154, false)⟩, [], none, []⟩, ⟨18, ⟨some 156, .call 19 [.t 155], some (154, false)⟩, [], none, [⟨some 160, .load none (.t 159), some (154, false)⟩]⟩, ⟨23, ⟨some 161, .eqf true false [(1, .b)] (.t 156) (.t 160), some (154, false)⟩, [], none, []⟩, ⟨24, ⟨some 162, .pick (.t 154) (.k (.bool true)) (.t 161), none⟩, [], none, []⟩, ⟨25, ⟨some 163, .mv (.t 162), none⟩, [], none, []⟩, ⟨26, ⟨some 164, .mv (.t 5), some (163, false)⟩, [], none, []⟩, ⟨27, ⟨some 165, .faddr 1 (.t 9), some (163, false)⟩, [], none, []⟩, ⟨28, ⟨some 166, .load none (.t 165), some (163, false)⟩, [], none, []⟩, ⟨30, ⟨some 168, .load (some 64) (.t 16), some (163, false)⟩, [], none, []⟩, ⟨29, ⟨some 167, .call 14 [.t 164, .t 166], some (163, false)⟩, [], none, [⟨some 168, .load (some 64) (.t 16), some (163, false)⟩]⟩, ⟨31, ⟨some 169, .eqf true true [(64, .i)] (.t 167) (.t 168), some (163, false)⟩, [], none, []⟩, ⟨32, ⟨some 170, .pick (.t 163) (.k (.bool true)) (.t 169), none⟩, [], none, []⟩]) (.cond (.t 170) (.seq (.region [⟨some 4, .mv (.k (.bool false)), none⟩] false) .ret) .skip)))))))) (.region [⟨some 171, .bin .add (.t 45) (.k (.int .i64 1)), none⟩, ⟨some 45, .mv (.t 171), none⟩] false))))))) (.seq (.region [⟨some 4, .mv (.k (.bool true)), none⟩] false) .ret))))))))⟩
theorem tr5 : trProg Try.prog 5 = some af5 := by kernel_rfl
def af11 : AF := ⟨48, [.t 0], .seq (.region [⟨some 0, .mv (.k (.bool false)), none⟩] false) (.seq (.region [⟨some 6, .call 12 [.k (.int .i64 2)], none⟩, ⟨some 5, .mv (.t 6), none⟩, ⟨some 7, .extract (.t 5) 0, none⟩, ⟨some 8, .extract (.t 5) 1, none⟩, ⟨some 1, .mv (.t 7), none⟩, ⟨some 2, .mv (.t 8), none⟩] false) (.seq (.seq (.region [⟨some 9, .mv (.t 2), none⟩, ⟨some 10, .bin .neq (.t 9) (.k (.int .i64 0)), none⟩, ⟨some 11, .mv (.t 10), none⟩, ⟨some 12, .mv (.t 1), some (11, false)⟩, ⟨some 13, .eqf false false [(1, .p)] (.t 12) (.k .nilp), some (11, false)⟩, ⟨some 14, .pick (.t 11) (.k (.bool true)) (.t 13), none⟩, ⟨some 15, .mv (.t 14), none⟩, ⟨some 16, .mv (.t 1), some (15, false)⟩, ⟨some 17, .call 47 [.k (.int .u8 1)], some (15, false)⟩, ⟨some 18, .call 13 [.t 16, .k (.int .i64 0), .t 17], some (15, false)⟩, ⟨some 19, .bin .neq (.t 18) (.k (.int .i64 0)), some (15, false)⟩, ⟨some 20, .pick (.t 15) (.k (.bool true)) (.t 19), none⟩, ⟨some 21, .mv (.t 20), none⟩, ⟨some 22, .mv (.t 1), some (21, false)⟩, ⟨some 23, .call 16 [.t 22], some (21, false)⟩, ⟨some 24, .bin .neq (.t 23) (.k (.int .i64 0)), some (21, false)⟩, ⟨some 25, .pick (.t 21) (.k (.bool true)) (.t 24), none⟩, ⟨some 26, .mv (.t 25), none⟩, ⟨some 27, .mv (.t 1), some (26, false)⟩, ⟨some 28, .call 47 [.k (.int .u8 2)], some (26, false)⟩, ⟨some 29, .call 13 [.t 27, .k (.int .i64 0), .t 28], some (26, false)⟩, ⟨some 30, .bin .neq (.t 29) (.k (.int .i64 0)), some (26, false)⟩, ⟨some 31, .pick (.t 26) (.k (.bool true)) (.t 30), none⟩] false) (.cond (.t 31) (.seq (.region [⟨some 0, .mv (.k (.bool false)), none⟩] false) .ret) .skip)) (.seq (.region [⟨some 32, .mv (.t 1), none⟩, ⟨some 33, .bslice 5 1 [.int .u8 0] [(0, (1, .k (.int .u8 3)))], none⟩, ⟨some 34, .call 20 [.t 32, .t 33], none⟩] false) (.seq (.region [⟨some 36, .mv (.t 1), none⟩, ⟨some 37, .call 17 [.t 36, .k (.int .i64 0)], none⟩, ⟨some 35, .mv (.t 37), none⟩, ⟨some 38, .extract (.t 35) 0, none⟩, ⟨some 39, .extract (.t 35) 1, none⟩, ⟨some 3, .alloc 31 z64, none⟩, ⟨none, .store 64 (.t 3) (.t 38), none⟩, ⟨some 4, .mv (.t 39), none⟩] false) (.seq (.region [⟨some 40, .iaddrA 64 1 (.t 3) (.k (.int .i64 2)), none⟩, ⟨some 41, .load none (.t 40), none⟩, ⟨some 42, .bin .eql (.t 41) (.k (.int .u8 2)), none⟩, ⟨some 43, .mv (.t 42), none⟩, ⟨some 44, .iaddrA 64 1 (.t 3) (.k (.int .i64 3)), some (43, true)⟩, ⟨some 45, .load none (.t 44), some (43, true)⟩, ⟨some 46, .bin .eql (.t 45) (.k (.int .u8 1)), some (43, true)⟩, ⟨some 47, .pick (.t 43) (.t 46) (.k (.bool false)), none⟩, ⟨some 0, .mv (.t 47), none⟩] false) .ret)))))⟩
theorem tr11 : trProg Try.prog 11 = some af11 := by kernel_rfl
def af12 : AF := ⟨15, [.t 2, .t 3], .seq (.region [⟨some 2, .mv (.k .nilp), none⟩, ⟨some 3, .mv (.k (.int .i64 0)), none⟩] false) (.seq (.seq (.region [⟨some 4, .mv (.t 0), none⟩, ⟨some 5, .bin .lss (.t 4) (.k (.int .i64 1)), none⟩, ⟨some 6, .mv (.t 5), none⟩, ⟨some 7, .mv (.t 0), some (6, false)⟩, ⟨some 8, .bin .gtr (.t 7) (.k (.int .i64 512)), some (6, false)⟩, ⟨some 9, .pick (.t 6) (.k (.bool true)) (.t 8), none⟩] false) (.cond (.t 9) (.seq (.region [⟨some 2, .mv (.k .nilp), none⟩, ⟨some 3, .mv (.k (.int .i64 22)), none⟩] false) .ret) .skip)) (.seq (.region [⟨some 10, .mv (.t 0), none⟩, ⟨some 11, .mkSlice 31 64 64 z64 (.t 10) (.t 10), none⟩, ⟨some 12, .mkMap, none⟩, ⟨some 13, .build [.bool false, .bool false, .int .i64 0, .nils, .nilm] [(3, (1, .t 11)), (4, (1, .t 12))], none⟩, ⟨some 14, .box 92 (.t 13), none⟩, ⟨some 2, .mv (.t 14), none⟩, ⟨some 3, .mv (.k (.int .i64 0)), none⟩] false) .ret))⟩
theorem tr12 : trProg Try.prog 12 = some af12 := by kernel_rfl
def af13 : AF := ⟨25, [.t 6], .seq (.region [⟨some 5, .box 31 (.t 2), none⟩, ⟨some 6, .mv (.k (.int .i64 0)), none⟩] false) (.seq (.seq (.region [⟨some 8, .mv (.t 0), none⟩, ⟨some 9, .mv (.t 1), none⟩, ⟨some 10, .call 48 [.t 8, .t 9], none⟩, ⟨some 7, .mv (.t 10), none⟩] false) (.seq (.region [⟨some 11, .mv (.t 7), none⟩, ⟨some 12, .bin .neq (.t 11) (.k (.int .i64 0)), none⟩] false) (.cond (.t 12) (.seq (.region [⟨some 13, .mv (.t 7), none⟩, ⟨some 6, .mv (.t 13), none⟩] false) .ret) .skip))) (.seq (.seq (.region [⟨some 14, .mv (.t 0), none⟩, ⟨some 15, .nck (.t 14), none⟩, ⟨some 16, .faddr 0 (.t 15), none⟩, ⟨some 17, .call 49 [.t 16], none⟩, ⟨some 18, .un .not (.t 17), none⟩] false) (.cond (.t 18) (.seq (.region [⟨some 6, .mv (.k (.int .i64 5)), none⟩] false) .ret) .skip)) (.seq (.draw 0 [⟨0, ⟨some 19, .mv (.t 0), none⟩, [], none, []⟩, ⟨1, ⟨some 20, .nck (.t 19), none⟩, [], none, []⟩, ⟨2, ⟨some 21, .faddr 4 (.t 20), none⟩, [], none, []⟩, ⟨3, ⟨some 22, .load none (.t 21), none⟩, [], none, []⟩, ⟨4, ⟨some 23, .mv (.t 1), none⟩, [], none, []⟩, ⟨5, ⟨some 24, .load (some 64) (.t 5), none⟩, [], none, []⟩, ⟨6, ⟨none, .mapSet .i (.t 22) (.t 23) (.t 24), none⟩, [], none, []⟩]) (.seq (.region [⟨some 6, .mv (.k (.int .i64 0)), none⟩] false) .ret))))⟩
theorem tr13 : trProg Try.prog 13 = some af13 := by kernel_rfl
def af14 : AF := ⟨28, [.c 4 (some 64)], .seq (.region [⟨some 4, .alloc 31 z64, none⟩] false) (.seq (.seq (.region [⟨some 5, .mv (.t 0), none⟩, ⟨some 6, .eqf false false [(1, .p)] (.t 5) (.k .nilp), none⟩, ⟨some 7, .mv (.t 6), none⟩, ⟨some 8, .mv (.t 1), some (7, false)⟩, ⟨some 9, .bin .lss (.t 8) (.k (.int .i64 0)), some (7, false)⟩, ⟨some 10, .pick (.t 7) (.k (.bool true)) (.t 9), none⟩, ⟨some 11, .mv (.t 10), none⟩, ⟨some 12, .mv (.t 1), some (11, false)⟩, ⟨some 13, .mv (.t 0), some (11, false)⟩, ⟨some 14, .nck (.t 13), some (11, false)⟩, ⟨some 15, .faddr 3 (.t 14), some (11, false)⟩, ⟨some 16, .load none (.t 15), some (11, false)⟩, ⟨some 17, .lenL (.t 16), some (11, false)⟩, ⟨some 18, .bin .geq (.t 12) (.t 17), some (11, false)⟩, ⟨some 19, .pick (.t 11) (.k (.bool true)) (.t 18), none⟩] false) (.cond (.t 19) (.seq (.region [⟨some 20, .build z64 [], none⟩, ⟨none, .store 64 (.t 4) (.t 20), none⟩] false) .ret) .skip)) (.seq (.region [⟨some 21, .mv (.t 0), none⟩, ⟨some 22, .nck (.t 21), none⟩, ⟨some 23, .faddr 3 (.t 22), none⟩, ⟨some 24, .load none (.t 23), none⟩, ⟨some 25, .mv (.t 1), none⟩, ⟨some 26, .iaddrS 64 (.t 24) (.t 25), none⟩, ⟨some 27, .load (some 64) (.t 26), none⟩, ⟨none, .store 64 (.t 4) (.t 27), none⟩] false) .ret))⟩
theorem tr14 : trProg Try.prog 14 = some af14 := by kernel_rfl
def af15 : AF := ⟨10, [.t 2], .seq (.region [⟨some 2, .mv (.k (.int .i64 0)), none⟩] false) (.seq (.seq (.region [⟨some 3, .mv (.t 0), none⟩, ⟨some 4, .eqf false false [(1, .p)] (.t 3) (.k .nilp), none⟩] false) (.cond (.t 4) (.seq (.region [⟨some 2, .mv (.k (.int .i64 0)), none⟩] false) .ret) .skip)) (.seq (.region [⟨some 5, .mv (.t 0), none⟩, ⟨some 6, .nck (.t 5), none⟩, ⟨some 7, .faddr 4 (.t 6), none⟩, ⟨some 8, .load none (.t 7), none⟩, ⟨some 9, .lenM (.t 8), none⟩, ⟨some 2, .mv (.t 9), none⟩] false) .ret))⟩
theorem tr15 : trProg Try.prog 15 = some af15 := by kernel_rfl
def af17 : AF := ⟨34, [.c 4 (some 64), .t 5], .seq (.region [⟨some 4, .alloc 31 z64, none⟩, ⟨some 5, .mv (.k (.int .i64 0)), none⟩] false) (.seq (.seq (.region [⟨some 9, .mv (.t 0), none⟩, ⟨some 10, .mv (.t 1), none⟩, ⟨some 11, .call 48 [.t 9, .t 10], none⟩, ⟨some 6, .mv (.t 11), none⟩] false) (.seq (.region [⟨some 12, .mv (.t 6), none⟩, ⟨some 13, .bin .neq (.t 12) (.k (.int .i64 0)), none⟩] false) (.cond (.t 13) (.seq (.region [⟨some 14, .build z64 [], none⟩, ⟨some 15, .mv (.t 6), none⟩, ⟨none, .store 64 (.t 4) (.t 14), none⟩, ⟨some 5, .mv (.t 15), none⟩] false) .ret) .skip))) (.seq (.seq (.region [⟨some 17, .mv (.t 0), none⟩, ⟨some 18, .nck (.t 17), none⟩, ⟨some 19, .faddr 4 (.t 18), none⟩, ⟨some 20, .load none (.t 19), none⟩, ⟨some 21, .mv (.t 1), none⟩, ⟨some 22, .lookup .i (.agg z64) true (.t 20) (.t 21), none⟩, ⟨some 16, .mv (.t 22), none⟩, ⟨some 23, .extract (.t 16) 0, none⟩, ⟨some 24, .extract (.t 16) 1, none⟩, ⟨some 7, .alloc 31 z64, none⟩, ⟨none, .store 64 (.t 7) (.t 23), none⟩, ⟨some 8, .mv (.t 24), none⟩] false) (.seq (.region [⟨some 25, .mv (.t 8), none⟩] false) (.cond (.t 25) (.seq (.region [⟨some 26, .load (some 64) (.t 7), none⟩, ⟨none, .store 64 (.t 4) (.t 26), none⟩, ⟨some 5, .mv (.k (.int .i64 0)), none⟩] false) .ret) .skip))) (.seq (.region [⟨some 27, .mv (.t 0), none⟩, ⟨some 28, .nck (.t 27), none⟩, ⟨some 29, .faddr 3 (.t 28), none⟩, ⟨some 30, .load none (.t 29), none⟩, ⟨some 31, .mv (.t 1), none⟩, ⟨some 32, .iaddrS 64 (.t 30) (.t 31), none⟩, ⟨some 33, .load (some 64) (.t 32), none⟩, ⟨none, .store 64 (.t 4) (.t 33), none⟩, ⟨some 5, .mv (.k (.int .i64 0)), none⟩] false) .ret)))⟩
theorem tr17 : trProg Try.prog 17 = some af17 := by kernel_rfl
def af18 : AF := ⟨18, [], .seq (.region [⟨some 4, .mv (.t 0), none⟩, ⟨some 5, .eqf true false [(1, .p)] (.t 4) (.k .nilp), none⟩] false) (.cond (.t 5) (.region [⟨some 6, .mv (.t 0), none⟩, ⟨some 7, .mv (.t 0), none⟩, ⟨some 8, .mv (.t 1), none⟩, ⟨some 9, .bin .geq (.t 8) (.k (.int .i64 0)), none⟩, ⟨some 10, .mv (.t 1), none⟩, ⟨some 11, .minmax true [.t 10, .k (.int .i64 0)], none⟩, ⟨some 12, .nck (.t 6), none⟩, ⟨some 13, .faddr 0 (.t 12), none⟩, ⟨some 14, .faddr 0 (.t 13), none⟩, ⟨none, .store 1 (.t 14) (.t 9), none⟩, ⟨some 15, .nck (.t 7), none⟩, ⟨some 16, .faddr 0 (.t 15), none⟩, ⟨some 17, .faddr 2 (.t 16), none⟩, ⟨none, .store 1 (.t 17) (.t 11), none⟩] false) .skip)⟩
theorem tr18 : trProg Try.prog 18 = some af18 := by kernel_rfl
def af19 : AF := ⟨12, [.t 2], .seq (.region [⟨some 2, .mv (.k (.bool false)), none⟩] false) (.seq (.region [⟨some 3, .mv (.t 0), none⟩, ⟨some 4, .eqf false false [(1, .p)] (.t 3) (.k .nilp), none⟩, ⟨some 5, .mv (.t 4), none⟩, ⟨some 6, .mv (.t 0), some (5, false)⟩, ⟨some 7, .nck (.t 6), some (5, false)⟩, ⟨some 8, .faddr 0 (.t 7), some (5, false)⟩, ⟨some 9, .faddr 1 (.t 8), some (5, false)⟩, ⟨some 10, .load none (.t 9), some (5, false)⟩, ⟨some 11, .pick (.t 5) (.k (.bool true)) (.t 10), none⟩, ⟨some 2, .mv (.t 11), none⟩] false) .ret)⟩
theorem tr19 : trProg Try.prog 19 = some af19 := by kernel_rfl
def af20 : AF := ⟨55, [], .seq (.seq (.region [⟨some 7, .mv (.t 0), none⟩, ⟨some 8, .eqf false false [(1, .p)] (.t 7) (.k .nilp), none⟩] false) (.cond (.t 8) .ret .skip)) (.seq (.seq (.region [⟨some 9, .mv (.t 0), none⟩, ⟨some 10, .nck (.t 9), none⟩, ⟨some 11, .faddr 4 (.t 10), none⟩, ⟨some 12, .load none (.t 11), none⟩, ⟨some 13, .call 51 [.t 12], none⟩, ⟨some 14, .call 50 [.t 13], none⟩, ⟨some 15, .lenL (.t 14), none⟩, ⟨some 16, .mv (.k (.int .i64 0)), none⟩] false) (.block 0 (.loop (.seq (.region [⟨some 17, .bin .lss (.t 16) (.t 15), none⟩] false) (.seq (.cond (.t 17) .skip (.exit 0)) (.seq (.block 1 (.seq (.region [⟨some 18, .mv (.t 16), none⟩, ⟨some 19, .iaddrS 1 (.t 14) (.t 16), none⟩, ⟨some 20, .load none (.t 19), none⟩, ⟨some 4, .mv (.t 18), none⟩, ⟨some 5, .mv (.t 20), none⟩] false) (.seq (.region [⟨some 21, .mv (.t 4), none⟩, ⟨some 22, .mv (.t 1), none⟩, ⟨some 23, .lenL (.t 22), none⟩, ⟨some 24, .bin .lss (.t 21) (.t 23), none⟩] false) (.cond (.t 24) (.seq (.region [⟨some 25, .mv (.t 0), none⟩, ⟨some 26, .nck (.t 25), none⟩, ⟨some 27, .faddr 4 (.t 26), none⟩, ⟨some 28, .load none (.t 27), none⟩, ⟨some 29, .mv (.t 5), none⟩, ⟨some 30, .lookup .i (.agg z64) false (.t 28) (.t 29), none⟩, ⟨some 6, .alloc 31 z64, none⟩, ⟨none, .store 64 (.t 6) (.t 30), none⟩] false) (.draw 0 [⟨0, ⟨some 31, .mv (.t 0), none⟩, [], none, []⟩, ⟨1, ⟨some 32, .nck (.t 31), none⟩, [], none, []⟩, ⟨2, ⟨some 33, .faddr 3 (.t 32), none⟩, [], none, []⟩, ⟨3, ⟨some 34, .load none (.t 33), none⟩, [], none, []⟩, ⟨4, ⟨some 35, .mv (.t 5), none⟩, [], none, []⟩, ⟨5, ⟨some 36, .iaddrS 64 (.t 34) (.t 35), none⟩, [], none, []⟩, ⟨6, ⟨some 37, .mv (.t 1), none⟩, [], none, []⟩, ⟨7, ⟨some 38, .mv (.t 4), none⟩, [], none, []⟩, ⟨8, ⟨some 39, .iaddrS 1 (.t 37) (.t 38), none⟩, [], none, []⟩, ⟨9, ⟨some 40, .load none (.t 39), none⟩, [], none, []⟩, ⟨10, ⟨some 41, .toInt .i64 (.t 40), none⟩, [], none, []⟩, ⟨11, ⟨some 42, .bin .rem (.t 41) (.k (.int .i64 65)), none⟩, [], none, []⟩, ⟨12, ⟨some 43, .slA 64 1 (.t 36) none (some (.t 42)), none⟩, [], none, []⟩, ⟨13, ⟨some 44, .slA 64 1 (.t 6) none none, none⟩, [], none, []⟩, ⟨14, ⟨some 45, .copyL 1 (.t 43) (.t 44), none⟩, [], none, []⟩])) .skip)))) (.region [⟨some 46, .bin .add (.t 16) (.k (.int .i64 1)), none⟩, ⟨some 16, .mv (.t 46), none⟩] false))))))) (.seq (.region [⟨some 47, .mv (.t 0), none⟩, ⟨some 48, .nck (.t 47), none⟩, ⟨some 49, .faddr 4 (.t 48), none⟩, ⟨some 50, .load none (.t 49), none⟩, ⟨none, .clearM (.t 50), none⟩] false) (.region [⟨some 51, .mv (.t 0), none⟩, ⟨some 52, .build [.bool false, .bool false, .int .i64 0] [], none⟩, ⟨some 53, .nck (.t 51), none⟩, ⟨some 54, .faddr 0 (.t 53), none⟩, ⟨none, .store 3 (.t 54) (.t 52), none⟩] false)))⟩
theorem tr20 : trProg Try.prog 20 = some af20 := by kernel_rfl
def af21 : AF := ⟨17, [.t 2], .seq (.region [⟨some 2, .mv (.k .nilp), none⟩] false) (.seq (.seq (.region [⟨some 3, .mv (.t 0), none⟩, ⟨some 4, .bin .lss (.t 3) (.k (.int .i64 1)), none⟩, ⟨some 5, .mv (.t 4), none⟩, ⟨some 6, .mv (.t 0), some (5, false)⟩, ⟨some 7, .bin .gtr (.t 6) (.k (.int .i64 512)), some (5, false)⟩, ⟨some 8, .pick (.t 5) (.k (.bool true)) (.t 7), none⟩] false) (.cond (.t 8) (.seq (.region [⟨some 2, .mv (.k .nilp), none⟩] false) .ret) .skip)) (.seq (.draw 4 [⟨0, ⟨some 9, .mv (.t 0), none⟩, [], none, []⟩, ⟨2, ⟨some 11, .mv (.t 0), none⟩, [], none, []⟩, ⟨4, ⟨some 13, .mv (.t 0), none⟩, [], none, []⟩, ⟨1, ⟨some 10, .mkSlice 31 64 64 z64 (.t 9) (.t 9), none⟩, [], some 0, []⟩, ⟨3, ⟨some 12, .mkSlice 31 64 64 z64 (.t 11) (.t 11), none⟩, [], some 1, []⟩, ⟨5, ⟨some 14, .mkSlice 4 1 1 [.bool false] (.t 13) (.t 13), none⟩, [], some 2, []⟩, ⟨6, ⟨some 15, .build [.nils, .nils, .nils, .int .i64 0, .bool false] [(0, (1, .t 10)), (1, (1, .t 12)), (2, (1, .t 14)), (3, (1, .k (.int .i64 (-1))))], none⟩, [2, 1, 0], none, []⟩, ⟨7, ⟨some 16, .box 54 (.t 15), none⟩, [2, 1, 0], some 3, []⟩, ⟨8, ⟨some 2, .mv (.t 16), none⟩, [3, 2, 1, 0], none, []⟩]) .ret))⟩
theorem tr21 : trProg Try.prog 21 = some af21 := by kernel_rfl
def af22 : AF := ⟨38, [.t 6], .seq (.region [⟨some 5, .box 31 (.t 2), none⟩, ⟨some 6, .mv (.k (.int .i64 0)), none⟩] false) (.seq (.seq (.region [⟨some 7, .mv (.t 0), none⟩, ⟨some 8, .nck (.t 7), none⟩, ⟨some 9, .faddr 4 (.t 8), none⟩, ⟨some 10, .load none (.t 9), none⟩] false) (.cond (.t 10) (.seq (.region [⟨some 6, .mv (.k (.int .i64 5)), none⟩] false) .ret) .skip)) (.seq (.seq (.region [⟨some 11, .mv (.t 1), none⟩, ⟨some 12, .bin .lss (.t 11) (.k (.int .i64 0)), none⟩, ⟨some 13, .mv (.t 12), none⟩, ⟨some 14, .mv (.t 1), some (13, false)⟩, ⟨some 15, .mv (.t 0), some (13, false)⟩, ⟨some 16, .nck (.t 15), some (13, false)⟩, ⟨some 17, .faddr 0 (.t 16), some (13, false)⟩, ⟨some 18, .load none (.t 17), some (13, false)⟩, ⟨some 19, .lenL (.t 18), some (13, false)⟩, ⟨some 20, .bin .geq (.t 14) (.t 19), some (13, false)⟩, ⟨some 21, .pick (.t 13) (.k (.bool true)) (.t 20), none⟩] false) (.cond (.t 21) (.seq (.region [⟨some 6, .mv (.k (.int .i64 22)), none⟩] false) .ret) .skip)) (.seq (.seq (.region [⟨some 22, .mv (.t 0), none⟩, ⟨some 23, .call 52 [.t 22], none⟩, ⟨some 24, .un .not (.t 23), none⟩] false) (.cond (.t 24) (.seq (.region [⟨some 6, .mv (.k (.int .i64 5)), none⟩] false) .ret) .skip)) (.seq (.draw 0 [⟨0, ⟨some 25, .mv (.t 0), none⟩, [], none, []⟩, ⟨1, ⟨some 26, .nck (.t 25), none⟩, [], none, []⟩, ⟨2, ⟨some 27, .faddr 1 (.t 26), none⟩, [], none, []⟩, ⟨3, ⟨some 28, .load none (.t 27), none⟩, [], none, []⟩, ⟨4, ⟨some 29, .mv (.t 1), none⟩, [], none, []⟩, ⟨5, ⟨some 30, .mv (.t 0), none⟩, [], none, []⟩, ⟨6, ⟨some 31, .nck (.t 30), none⟩, [], none, []⟩, ⟨7, ⟨some 32, .faddr 2 (.t 31), none⟩, [], none, []⟩, ⟨8, ⟨some 33, .load none (.t 32), none⟩, [], none, []⟩, ⟨9, ⟨some 34, .mv (.t 1), none⟩, [], none, []⟩, ⟨10, ⟨some 35, .load (some 64) (.t 5), none⟩, [], none, []⟩, ⟨11, ⟨some 36, .iaddrS 64 (.t 28) (.t 29), none⟩, [], none, []⟩, ⟨12, ⟨none, .store 64 (.t 36) (.t 35), none⟩, [], none, []⟩, ⟨13, ⟨some 37, .iaddrS 1 (.t 33) (.t 34), none⟩, [], none, []⟩, ⟨14, ⟨none, .store 1 (.t 37) (.k (.bool true)), none⟩, [], none, []⟩]) (.seq (.region [⟨some 6, .mv (.k (.int .i64 0)), none⟩] false) .ret)))))⟩
theorem tr22 : trProg Try.prog 22 = some af22 := by kernel_rfl
def af23 : AF := ⟨44, [.c 4 (some 64), .t 5], .seq (.region [⟨some 4, .alloc 31 z64, none⟩, ⟨some 5, .mv (.k (.int .i64 0)), none⟩] false) (.seq (.seq (.region [⟨some 6, .mv (.t 0), none⟩, ⟨some 7, .nck (.t 6), none⟩, ⟨some 8, .faddr 4 (.t 7), none⟩, ⟨some 9, .load none (.t 8), none⟩] false) (.cond (.t 9) (.seq (.region [⟨some 10, .build z64 [], none⟩, ⟨none, .store 64 (.t 4) (.t 10), none⟩, ⟨some 5, .mv (.k (.int .i64 5)), none⟩] false) .ret) .skip)) (.seq (.seq (.region [⟨some 11, .mv (.t 1), none⟩, ⟨some 12, .bin .lss (.t 11) (.k (.int .i64 0)), none⟩, ⟨some 13, .mv (.t 12), none⟩, ⟨some 14, .mv (.t 1), some (13, false)⟩, ⟨some 15, .mv (.t 0), some (13, false)⟩, ⟨some 16, .nck (.t 15), some (13, false)⟩, ⟨some 17, .faddr 0 (.t 16), some (13, false)⟩, ⟨some 18, .load none (.t 17), some (13, false)⟩, ⟨some 19, .lenL (.t 18), some (13, false)⟩, ⟨some 20, .bin .geq (.t 14) (.t 19), some (13, false)⟩, ⟨some 21, .pick (.t 13) (.k (.bool true)) (.t 20), none⟩] false) (.cond (.t 21) (.seq (.region [⟨some 22, .build z64 [], none⟩, ⟨none, .store 64 (.t 4) (.t 22), none⟩, ⟨some 5, .mv (.k (.int .i64 22)), none⟩] false) .ret) .skip)) (.seq (.seq (.region [⟨some 23, .mv (.t 0), none⟩, ⟨some 24, .nck (.t 23), none⟩, ⟨some 25, .faddr 2 (.t 24), none⟩, ⟨some 26, .load none (.t 25), none⟩, ⟨some 27, .mv (.t 1), none⟩, ⟨some 28, .iaddrS 1 (.t 26) (.t 27), none⟩, ⟨some 29, .load none (.t 28), none⟩] false) (.cond (.t 29) (.seq (.region [⟨some 30, .mv (.t 0), none⟩, ⟨some 31, .nck (.t 30), none⟩, ⟨some 32, .faddr 1 (.t 31), none⟩, ⟨some 33, .load none (.t 32), none⟩, ⟨some 34, .mv (.t 1), none⟩, ⟨some 35, .iaddrS 64 (.t 33) (.t 34), none⟩, ⟨some 36, .load (some 64) (.t 35), none⟩, ⟨none, .store 64 (.t 4) (.t 36), none⟩, ⟨some 5, .mv (.k (.int .i64 0)), none⟩] false) .ret) .skip)) (.seq (.region [⟨some 37, .mv (.t 0), none⟩, ⟨some 38, .nck (.t 37), none⟩, ⟨some 39, .faddr 0 (.t 38), none⟩, ⟨some 40, .load none (.t 39), none⟩, ⟨some 41, .mv (.t 1), none⟩, ⟨some 42, .iaddrS 64 (.t 40) (.t 41), none⟩, ⟨some 43, .load (some 64) (.t 42), none⟩, ⟨none, .store 64 (.t 4) (.t 43), none⟩, ⟨some 5, .mv (.k (.int .i64 0)), none⟩] false) .ret))))⟩
theorem tr23 : trProg Try.prog 23 = some af23 := by kernel_rfl
def af24 : AF := ⟨48, [.t 2], .seq (.region [⟨some 2, .mv (.k (.int .i64 0)), none⟩] false) (.seq (.seq (.region [⟨some 4, .mv (.t 0), none⟩, ⟨some 5, .nck (.t 4), none⟩, ⟨some 6, .faddr 4 (.t 5), none⟩, ⟨some 7, .load none (.t 6), none⟩, ⟨some 8, .mv (.t 7), none⟩, ⟨some 9, .mv (.t 0), some (8, false)⟩, ⟨some 10, .call 52 [.t 9], some (8, false)⟩, ⟨some 11, .un .not (.t 10), some (8, false)⟩, ⟨some 12, .pick (.t 8) (.k (.bool true)) (.t 11), none⟩] false) (.cond (.t 12) (.seq (.region [⟨some 2, .mv (.k (.int .i64 5)), none⟩] false) .ret) .skip)) (.seq (.seq (.region [⟨some 3, .mv (.k (.int .i64 0)), none⟩] false) (.block 0 (.loop (.seq (.seq (.region [⟨some 13, .mv (.t 3), none⟩, ⟨some 14, .mv (.t 0), none⟩, ⟨some 15, .nck (.t 14), none⟩, ⟨some 16, .faddr 0 (.t 15), none⟩, ⟨some 17, .load none (.t 16), none⟩, ⟨some 18, .lenL (.t 17), none⟩, ⟨some 19, .bin .lss (.t 13) (.t 18), none⟩] false) (.cond (.t 19) .skip (.exit 0))) (.seq (.block 1 (.seq (.region [⟨some 22, .mv (.t 0), none⟩, ⟨some 23, .nck (.t 22), none⟩, ⟨some 24, .faddr 2 (.t 23), none⟩, ⟨some 25, .load none (.t 24), none⟩, ⟨some 26, .mv (.t 3), none⟩, ⟨some 27, .iaddrS 1 (.t 25) (.t 26), none⟩, ⟨some 28, .load none (.t 27), none⟩] false) (.cond (.t 28) (.draw 0 [⟨0, ⟨some 29, .mv (.t 0), none⟩, [], none, []⟩, ⟨1, ⟨some 30, .nck (.t 29), none⟩, [], none, []⟩, ⟨2, ⟨some 31, .faddr 0 (.t 30), none⟩, [], none, []⟩, ⟨3, ⟨some 32, .load none (.t 31), none⟩, [], none, []⟩, ⟨4, ⟨some 33, .mv (.t 3), none⟩, [], none, []⟩, ⟨5, ⟨some 34, .mv (.t 0), none⟩, [], none, []⟩, ⟨6, ⟨some 35, .nck (.t 34), none⟩, [], none, []⟩, ⟨7, ⟨some 36, .faddr 2 (.t 35), none⟩, [], none, []⟩, ⟨8, ⟨some 37, .load none (.t 36), none⟩, [], none, []⟩, ⟨9, ⟨some 38, .mv (.t 3), none⟩, [], none, []⟩, ⟨10, ⟨some 39, .mv (.t 0), none⟩, [], none, []⟩, ⟨11, ⟨some 40, .nck (.t 39), none⟩, [], none, []⟩, ⟨12, ⟨some 41, .faddr 1 (.t 40), none⟩, [], none, []⟩, ⟨13, ⟨some 42, .load none (.t 41), none⟩, [], none, []⟩, ⟨14, ⟨some 43, .mv (.t 3), none⟩, [], none, []⟩, ⟨15, ⟨some 44, .iaddrS 64 (.t 42) (.t 43), none⟩, [], none, []⟩, ⟨16, ⟨some 45, .load (some 64) (.t 44), none⟩, [], none, []⟩, ⟨17, ⟨some 46, .iaddrS 64 (.t 32) (.t 33), none⟩, [], none, []⟩, ⟨18, ⟨none, .store 64 (.t 46) (.t 45), none⟩, [], none, []⟩, ⟨19, ⟨some 47, .iaddrS 1 (.t 37) (.t 38), none⟩, [], none, []⟩, ⟨20, ⟨none, .store 1 (.t 47) (.k (.bool false)), none⟩, [], none, []⟩]) .skip))) (.region [⟨some 20, .mv (.t 3), none⟩, ⟨some 21, .bin .add (.t 20) (.k (.int .i64 1)), none⟩, ⟨some 3, .mv (.t 21), none⟩] false)))))) (.seq (.region [⟨some 2, .mv (.k (.int .i64 0)), none⟩] false) .ret)))⟩
theorem tr24 : trProg Try.prog 24 = some af24 := by kernel_rfl
def af25 : AF := ⟨13, [], .seq (.region [⟨some 4, .mv (.t 0), none⟩, ⟨some 5, .mv (.t 1), none⟩, ⟨some 6, .nck (.t 4), none⟩, ⟨some 7, .faddr 3 (.t 6), none⟩, ⟨none, .store 1 (.t 7) (.t 5), none⟩] false) (.seq (.region [⟨some 8, .mv (.t 1), none⟩, ⟨some 9, .bin .lss (.t 8) (.k (.int .i64 0)), none⟩] false) (.cond (.t 9) (.region [⟨some 10, .mv (.t 0), none⟩, ⟨some 11, .nck (.t 10), none⟩, ⟨some 12, .faddr 3 (.t 11), none⟩, ⟨none, .store 1 (.t 12) (.k (.int .i64 (-1))), none⟩] false) .skip))⟩
theorem tr25 : trProg Try.prog 25 = some af25 := by kernel_rfl
def af26 : AF := ⟨71, [], .seq (.region [⟨some 4, .mv (.k (.int .i64 0)), none⟩] false) (.seq (.seq (.region [⟨some 5, .mv (.k (.int .i64 0)), none⟩] false) (.block 0 (.loop (.seq (.seq (.region [⟨some 8, .mv (.t 5), none⟩, ⟨some 9, .mv (.t 0), none⟩, ⟨some 10, .nck (.t 9), none⟩, ⟨some 11, .faddr 0 (.t 10), none⟩, ⟨some 12, .load none (.t 11), none⟩, ⟨some 13, .lenL (.t 12), none⟩, ⟨some 14, .bin .lss (.t 8) (.t 13), none⟩] false) (.cond (.t 14) .skip (.exit 0))) (.seq (.block 1 (.seq (.seq (.region [⟨some 17, .mv (.t 0), none⟩, ⟨some 18, .nck (.t 17), none⟩, ⟨some 19, .faddr 2 (.t 18), none⟩, ⟨some 20, .load none (.t 19), none⟩, ⟨some 21, .mv (.t 5), none⟩, ⟨some 22, .iaddrS 1 (.t 20) (.t 21), none⟩, ⟨some 23, .load none (.t 22), none⟩, ⟨some 24, .un .not (.t 23), none⟩] false) (.cond (.t 24) (.exit 1) .skip)) (.seq (.region [⟨some 6, .mv (.k (.int .i64 0)), none⟩] false) (.seq (.seq (.region [⟨some 25, .mv (.t 4), none⟩, ⟨some 26, .mv (.t 1), none⟩, ⟨some 27, .lenL (.t 26), none⟩, ⟨some 28, .bin .lss (.t 25) (.t 27), none⟩] false) (.cond (.t 28) (.region [⟨some 29, .mv (.t 1), none⟩, ⟨some 30, .mv (.t 4), none⟩, ⟨some 31, .iaddrS 1 (.t 29) (.t 30), none⟩, ⟨some 32, .load none (.t 31), none⟩, ⟨some 33, .toInt .i64 (.t 32), none⟩, ⟨some 34, .bin .rem (.t 33) (.k (.int .i64 65)), none⟩, ⟨some 6, .mv (.t 34), none⟩] false) .skip)) (.seq (.region [⟨some 35, .mv (.t 4), none⟩, ⟨some 36, .bin .add (.t 35) (.k (.int .i64 1)), none⟩, ⟨some 4, .mv (.t 36), none⟩] false) (.seq (.seq (.region [⟨some 7, .mv (.k (.int .i64 0)), none⟩] false) (.block 2 (.loop (.seq (.seq (.region [⟨some 37, .mv (.t 7), none⟩, ⟨some 38, .mv (.t 6), none⟩, ⟨some 39, .bin .lss (.t 37) (.t 38), none⟩] false) (.cond (.t 39) .skip (.exit 2))) (.seq (.block 3 (.draw 0 [⟨0, ⟨some 42, .mv (.t 0), none⟩, [], none, []⟩, ⟨1, ⟨some 43, .nck (.t 42), none⟩, [], none, []⟩, ⟨2, ⟨some 44, .faddr 0 (.t 43), none⟩, [], none, []⟩, ⟨3, ⟨some 45, .load none (.t 44), none⟩, [], none, []⟩, ⟨4, ⟨some 46, .mv (.t 5), none⟩, [], none, []⟩, ⟨5, ⟨some 47, .mv (.t 7), none⟩, [], none, []⟩, ⟨6, ⟨some 48, .mv (.t 0), none⟩, [], none, []⟩, ⟨7, ⟨some 49, .nck (.t 48), none⟩, [], none, []⟩, ⟨8, ⟨some 50, .faddr 1 (.t 49), none⟩, [], none, []⟩, ⟨9, ⟨some 51, .load none (.t 50), none⟩, [], none, []⟩, ⟨10, ⟨some 52, .mv (.t 5), none⟩, [], none, []⟩, ⟨11, ⟨some 53, .mv (.t 7), none⟩, [], none, []⟩, ⟨12, ⟨some 54, .iaddrS 64 (.t 51) (.t 52), none⟩, [], none, []⟩, ⟨13, ⟨some 55, .iaddrA 64 1 (.t 54) (.t 53), none⟩, [], none, []⟩, ⟨14, ⟨some 56, .load none (.t 55), none⟩, [], none, []⟩, ⟨15, ⟨some 57, .iaddrS 64 (.t 45) (.t 46), none⟩, [], none, []⟩, ⟨16, ⟨some 58, .iaddrA 64 1 (.t 57) (.t 47), none⟩, [], none, []⟩, ⟨17, ⟨none, .store 1 (.t 58) (.t 56), none⟩, [], none, []⟩])) (.region [⟨some 40, .mv (.t 7), none⟩, ⟨some 41, .bin .add (.t 40) (.k (.int .i64 1)), none⟩, ⟨some 7, .mv (.t 41), none⟩] false)))))) (.region [⟨some 59, .mv (.t 0), none⟩, ⟨some 60, .nck (.t 59), none⟩, ⟨some 61, .faddr 2 (.t 60), none⟩, ⟨some 62, .load none (.t 61), none⟩, ⟨some 63, .mv (.t 5), none⟩, ⟨some 64, .iaddrS 1 (.t 62) (.t 63), none⟩, ⟨none, .store 1 (.t 64) (.k (.bool false)), none⟩] false))))))) (.region [⟨some 15, .mv (.t 5), none⟩, ⟨some 16, .bin .add (.t 15) (.k (.int .i64 1)), none⟩, ⟨some 5, .mv (.t 16), none⟩] false)))))) (.region [⟨some 65, .mv (.t 0), none⟩, ⟨some 66, .mv (.t 0), none⟩, ⟨some 67, .nck (.t 65), none⟩, ⟨some 68, .faddr 3 (.t 67), none⟩, ⟨none, .store 1 (.t 68) (.k (.int .i64 (-1))), none⟩, ⟨some 69, .nck (.t 66), none⟩, ⟨some 70, .faddr 4 (.t 69), none⟩, ⟨none, .store 1 (.t 70) (.k (.bool false)), none⟩] false))⟩
theorem tr26 : trProg Try.prog 26 = some af26 := by kernel_rfl
def af27 : AF := ⟨10, [.t 2], .seq (.region [⟨some 2, .mv (.k (.int .i64 0)), none⟩] false) (.seq (.seq (.region [⟨some 3, .mv (.t 0), none⟩, ⟨some 4, .eqf false false [(1, .p)] (.t 3) (.k .nilp), none⟩] false) (.cond (.t 4) (.seq (.region [⟨some 2, .mv (.k (.int .i64 0)), none⟩] false) .ret) .skip)) (.seq (.region [⟨some 5, .mv (.t 0), none⟩, ⟨some 6, .nck (.t 5), none⟩, ⟨some 7, .faddr 3 (.t 6), none⟩, ⟨some 8, .load none (.t 7), none⟩, ⟨some 9, .lenL (.t 8), none⟩, ⟨some 2, .mv (.t 9), none⟩] false) .ret))⟩
theorem tr27 : trProg Try.prog 27 = some af27 := by kernel_rfl
def af28 : AF := ⟨24, [.t 2], .seq (.region [⟨some 2, .mv (.k (.int .i64 0)), none⟩] false) (.seq (.region [⟨some 3, .mv (.k (.int .i64 0)), none⟩] false) (.seq (.seq (.region [⟨some 4, .mv (.k (.int .i64 0)), none⟩] false) (.block 0 (.loop (.seq (.seq (.region [⟨some 5, .mv (.t 4), none⟩, ⟨some 6, .mv (.t 0), none⟩, ⟨some 7, .nck (.t 6), none⟩, ⟨some 8, .faddr 2 (.t 7), none⟩, ⟨some 9, .load none (.t 8), none⟩, ⟨some 10, .lenL (.t 9), none⟩, ⟨some 11, .bin .lss (.t 5) (.t 10), none⟩] false) (.cond (.t 11) .skip (.exit 0))) (.seq (.block 1 (.seq (.region [⟨some 14, .mv (.t 0), none⟩, ⟨some 15, .nck (.t 14), none⟩, ⟨some 16, .faddr 2 (.t 15), none⟩, ⟨some 17, .load none (.t 16), none⟩, ⟨some 18, .mv (.t 4), none⟩, ⟨some 19, .iaddrS 1 (.t 17) (.t 18), none⟩, ⟨some 20, .load none (.t 19), none⟩] false) (.cond (.t 20) (.region [⟨some 21, .mv (.t 3), none⟩, ⟨some 22, .bin .add (.t 21) (.k (.int .i64 1)), none⟩, ⟨some 3, .mv (.t 22), none⟩] false) .skip))) (.region [⟨some 12, .mv (.t 4), none⟩, ⟨some 13, .bin .add (.t 12) (.k (.int .i64 1)), none⟩, ⟨some 4, .mv (.t 13), none⟩] false)))))) (.seq (.region [⟨some 23, .mv (.t 3), none⟩, ⟨some 2, .mv (.t 23), none⟩] false) .ret)))⟩
theorem tr28 : trProg Try.prog 28 = some af28 := by kernel_rfl
def af47 : AF := ⟨13, [.c 2 (some 64)], .seq (.region [⟨some 2, .alloc 31 z64, none⟩] false) (.seq (.region [⟨some 3, .alloc 31 z64, none⟩] false) (.seq (.seq (.region [⟨some 5, .mv (.k (.int .i64 0)), none⟩] false) (.block 0 (.loop (.seq (.region [⟨some 6, .bin .lss (.t 5) (.k (.int .i64 64)), none⟩] false) (.seq (.cond (.t 6) .skip (.exit 0)) (.seq (.block 1 (.seq (.region [⟨some 7, .mv (.t 5), none⟩, ⟨some 4, .mv (.t 7), none⟩] false) (.region [⟨some 8, .mv (.t 4), none⟩, ⟨some 9, .mv (.t 0), none⟩, ⟨some 10, .iaddrA 64 1 (.t 3) (.t 8), none⟩, ⟨none, .store 1 (.t 10) (.t 9), none⟩] false))) (.region [⟨some 11, .bin .add (.t 5) (.k (.int .i64 1)), none⟩, ⟨some 5, .mv (.t 11), none⟩] false))))))) (.seq (.region [⟨some 12, .load (some 64) (.t 3), none⟩, ⟨none, .store 64 (.t 2) (.t 12), none⟩] false) .ret)))⟩
theorem tr47 : trProg Try.prog 47 = some af47 := by kernel_rfl
def af48 : AF := ⟨20, [.t 4], .seq (.region [⟨some 4, .mv (.k (.int .i64 0)), none⟩] false) (.seq (.block 0 (.seq (.region [⟨some 6, .mv (.t 0), none⟩, ⟨some 7, .call 19 [.t 6], none⟩, ⟨some 5, .mv (.t 7), none⟩] false) (.cond (.t 5) (.seq (.region [⟨some 4, .mv (.k (.int .i64 5)), none⟩] false) .ret) (.seq (.region [⟨some 9, .mv (.t 1), none⟩, ⟨some 10, .bin .lss (.t 9) (.k (.int .i64 0)), none⟩, ⟨some 11, .mv (.t 10), none⟩, ⟨some 12, .mv (.t 1), some (11, false)⟩, ⟨some 13, .mv (.t 0), some (11, false)⟩, ⟨some 14, .nck (.t 13), some (11, false)⟩, ⟨some 15, .faddr 3 (.t 14), some (11, false)⟩, ⟨some 16, .load none (.t 15), some (11, false)⟩, ⟨some 17, .lenL (.t 16), some (11, false)⟩, ⟨some 18, .bin .geq (.t 12) (.t 17), some (11, false)⟩, ⟨some 19, .pick (.t 11) (.k (.bool true)) (.t 18), none⟩, ⟨some 8, .mv (.t 19), none⟩] false) (.cond (.t 8) (.seq (.region [⟨some 4, .mv (.k (.int .i64 22)), none⟩] false) .ret) .skip))))) (.seq (.region [⟨some 4, .mv (.k (.int .i64 0)), none⟩] false) .ret))⟩
theorem tr48 : trProg Try.prog 48 = some af48 := by kernel_rfl
def af49 : AF := ⟨32, [.t 2], .seq (.region [⟨some 2, .mv (.k (.bool false)), none⟩] false) (.seq (.seq (.region [⟨some 3, .mv (.t 0), none⟩, ⟨some 4, .nck (.t 3), none⟩, ⟨some 5, .faddr 1 (.t 4), none⟩, ⟨some 6, .load none (.t 5), none⟩] false) (.cond (.t 6) (.seq (.region [⟨some 2, .mv (.k (.bool false)), none⟩] false) .ret) .skip)) (.seq (.seq (.region [⟨some 7, .mv (.t 0), none⟩, ⟨some 8, .nck (.t 7), none⟩, ⟨some 9, .faddr 0 (.t 8), none⟩, ⟨some 10, .load none (.t 9), none⟩, ⟨some 11, .un .not (.t 10), none⟩] false) (.cond (.t 11) (.seq (.region [⟨some 2, .mv (.k (.bool true)), none⟩] false) .ret) .skip)) (.seq (.region [⟨some 12, .mv (.t 0), none⟩, ⟨some 13, .nck (.t 12), none⟩, ⟨some 14, .faddr 2 (.t 13), none⟩, ⟨some 15, .load none (.t 14), none⟩, ⟨some 16, .bin .sub (.t 15) (.k (.int .i64 1)), none⟩, ⟨some 17, .nck (.t 12), none⟩, ⟨some 18, .faddr 2 (.t 17), none⟩, ⟨none, .store 1 (.t 18) (.t 16), none⟩] false) (.seq (.region [⟨some 19, .mv (.t 0), none⟩, ⟨some 20, .mv (.t 0), none⟩, ⟨some 21, .nck (.t 20), none⟩, ⟨some 22, .faddr 2 (.t 21), none⟩, ⟨some 23, .load none (.t 22), none⟩, ⟨some 24, .bin .lss (.t 23) (.k (.int .i64 0)), none⟩, ⟨some 25, .nck (.t 19), none⟩, ⟨some 26, .faddr 1 (.t 25), none⟩, ⟨none, .store 1 (.t 26) (.t 24), none⟩] false) (.seq (.region [⟨some 27, .mv (.t 0), none⟩, ⟨some 28, .nck (.t 27), none⟩, ⟨some 29, .faddr 1 (.t 28), none⟩, ⟨some 30, .load none (.t 29), none⟩, ⟨some 31, .un .not (.t 30), none⟩, ⟨some 2, .mv (.t 31), none⟩] false) .ret)))))⟩
theorem tr49 : trProg Try.prog 49 = some af49 := by kernel_rfl
def af51 : AF := ⟨4, [.t 2], .seq (.region [⟨some 1, .box 29 (.t 0), none⟩, ⟨some 2, .mv (.k .nilf), none⟩] false) (.seq (.region [⟨some 3, .mkf 69 [] [.t 1], none⟩, ⟨some 2, .mv (.t 3), none⟩] false) .ret)⟩
theorem tr51 : trProg Try.prog 51 = some af51 := by kernel_rfl
def af52 : AF := ⟨23, [.t 2], .seq (.region [⟨some 2, .mv (.k (.bool false)), none⟩] false) (.seq (.seq (.region [⟨some 3, .mv (.t 0), none⟩, ⟨some 4, .nck (.t 3), none⟩, ⟨some 5, .faddr 3 (.t 4), none⟩, ⟨some 6, .load none (.t 5), none⟩, ⟨some 7, .bin .eql (.t 6) (.k (.int .i64 0)), none⟩] false) (.cond (.t 7) (.seq (.region [⟨some 8, .mv (.t 0), none⟩, ⟨some 9, .nck (.t 8), none⟩, ⟨some 10, .faddr 4 (.t 9), none⟩, ⟨none, .store 1 (.t 10) (.k (.bool true)), none⟩] false) (.seq (.region [⟨some 2, .mv (.k (.bool false)), none⟩] false) .ret)) .skip)) (.seq (.seq (.region [⟨some 11, .mv (.t 0), none⟩, ⟨some 12, .nck (.t 11), none⟩, ⟨some 13, .faddr 3 (.t 12), none⟩, ⟨some 14, .load none (.t 13), none⟩, ⟨some 15, .bin .gtr (.t 14) (.k (.int .i64 0)), none⟩] false) (.cond (.t 15) (.region [⟨some 16, .mv (.t 0), none⟩, ⟨some 17, .nck (.t 16), none⟩, ⟨some 18, .faddr 3 (.t 17), none⟩, ⟨some 19, .load none (.t 18), none⟩, ⟨some 20, .bin .sub (.t 19) (.k (.int .i64 1)), none⟩, ⟨some 21, .nck (.t 16), none⟩, ⟨some 22, .faddr 3 (.t 21), none⟩, ⟨none, .store 1 (.t 22) (.t 20), none⟩] false) .skip)) (.seq (.region [⟨some 2, .mv (.k (.bool true)), none⟩] false) .ret)))⟩
theorem tr52 : trProg Try.prog 52 = some af52 := by kernel_rfl

def FF : Nat → Option AF
  | 5 => some af5
  | 11 => some af11
  | 12 => some af12
  | 13 => some af13
  | 14 => some af14
  | 15 => some af15
  | 17 => some af17
  | 18 => some af18
  | 19 => some af19
  | 20 => some af20
  | 21 => some af21
  | 22 => some af22
  | 23 => some af23
  | 24 => some af24
  | 25 => some af25
  | 26 => some af26
  | 27 => some af27
  | 28 => some af28
  | 47 => some af47
  | 48 => some af48
  | 49 => some af49
  | 51 => some af51
  | 52 => some af52
  | _ => none

theorem ffok : ∀ f af, FF f = some af → trProg Try.prog f = some af := by
  intro f af h
  unfold FF at h
  split at h
  · cases h; exact tr5
  · cases h; exact tr11
  · cases h; exact tr12
  · cases h; exact tr13
  · cases h; exact tr14
  · cases h; exact tr15
  · cases h; exact tr17
  · cases h; exact tr18
  · cases h; exact tr19
  · cases h; exact tr20
  · cases h; exact tr21
  · cases h; exact tr22
  · cases h; exact tr23
  · cases h; exact tr24
  · cases h; exact tr25
  · cases h; exact tr26
  · cases h; exact tr27
  · cases h; exact tr28
  · cases h; exact tr47
  · cases h; exact tr48
  · cases h; exact tr49
  · cases h; exact tr51
  · cases h; exact tr52
  · cases h

theorem mixed : Try.prog.follows .mixedOrders = true := by kernel_rfl
end Go.Proofs.Ytfbkeieoeagkdaa

/- Disk: Flush, by hand: a range over a map. -/
namespace Go.Proofs.Ytfbkeieoeagkdaa
open Go AM
set_option linter.unusedSimpArgs false
set_option linter.unusedVariables false
set_option maxRecDepth 100000

/-! The plain law -/

def keyIs (i : Nat) (e : V × V) : Bool := match e.1 with
  | .int _ k => decide (k = (i : Int))
  | _ => false
/-- All pages of a cache laid into the row. -/
def layPages (es : List (V × V)) (np : Nat) (cs : List V) : List V :=
  (List.range np).flatMap fun i => match es.find? (keyIs i) with
    | some (_, .agg pg) => pg
    | _ => (cs.drop (i * 64)).take 64
def pageEnt (np : Nat) (e : V × V) : Bool := match e with
  | (.int .i64 k, .agg pg) => decide (0 ≤ k ∧ k < (np : Int)) && decide (pg.length = 64) && V.plains pg && pg.all V.one
  | _ => false
def apart : List (V × V) → Bool
  | [] => true
  | e :: r => r.all (fun x => !(V.beq e.1 x.1)) && apart r

theorem pageEnt_inv {np : Nat} {e : V × V} (h : pageEnt np e = true) : ∃ (k : Nat) (pg : List V), e = (.int .i64 (k : Int), .agg pg) ∧ k < np ∧ pg.length = 64 ∧ V.plains pg = true ∧ pg.all V.one = true := by
  unfold pageEnt at h
  split at h
  · rename_i k pg
    simp only [Bool.and_eq_true, decide_eq_true_eq] at h
    obtain ⟨⟨⟨⟨h1, h2⟩, h3⟩, h4⟩, h5⟩ := h
    obtain ⟨n, rfl⟩ := Int.eq_ofNat_of_zero_le h1
    exact ⟨n, pg, rfl, by omega, h3, h4, h5⟩
  · cases h

/-- The row behind some of the pages. -/
def Laid (es : List (V × V)) (np : Nat) (cs : List V) (done : List Nat) (cs' : List V) : Prop :=
  cs'.length = cs.length ∧ ∀ i, i < np → (∃ j ∈ done, ∃ pg, es[j]? = some (.int .i64 (i : Int), .agg pg) ∧ (cs'.drop (i * 64)).take 64 = pg) ∨
    ((∀ j ∈ done, ∀ e, es[j]? = some e → keyIs i e = false) ∧ (cs'.drop (i * 64)).take 64 = (cs.drop (i * 64)).take 64)

theorem Laid.start (es : List (V × V)) (np : Nat) (cs : List V) : Laid es np cs [] cs := ⟨rfl, fun i _ => .inr ⟨by simp, rfl⟩⟩

theorem splice_same {cs pg : List V} {k : Nat} (h : pg.length = 64) (hk : k * 64 + 64 ≤ cs.length) : ((splice cs (k * 64) pg).drop (k * 64)).take 64 = pg := by
  unfold splice
  rw [List.append_assoc, List.drop_append_of_le_length (by simp; omega), List.drop_eq_nil_of_le (by rw [List.length_take]; omega), List.nil_append, List.take_left' h]
theorem splice_off {cs pg : List V} {k i : Nat} (h : pg.length = 64) (hk : k * 64 + 64 ≤ cs.length) (hi : i ≠ k) : ((splice cs (k * 64) pg).drop (i * 64)).take 64 = (cs.drop (i * 64)).take 64 := by
  apply List.ext_getElem?
  intro j
  simp only [List.getElem?_take, List.getElem?_drop]
  split
  · rename_i hj
    unfold splice
    rw [List.append_assoc, List.getElem?_append, List.getElem?_append, h]
    have l1 : (List.take (k * 64) cs).length = k * 64 := by simp; omega
    rw [l1]
    by_cases hlt : i * 64 + j < k * 64
    · rw [if_pos hlt, List.getElem?_take, if_pos hlt]
    · have : (k + 1) * 64 ≤ i * 64 := Nat.mul_le_mul_right 64 (by omega)
      rw [if_neg hlt, if_neg (by omega), List.getElem?_drop]
      congr 1; omega
  · rfl

theorem Laid.step {es : List (V × V)} {np : Nat} {cs cs' pg : List V} {done : List Nat} {j k : Nat} (h : Laid es np cs done cs') (hj : es[j]? = some (.int .i64 (k : Int), .agg pg)) (hp : pg.length = 64) (hk : k * 64 + 64 ≤ cs.length) : Laid es np cs (j :: done) (splice cs' (k * 64) pg) := by
  obtain ⟨h1, h2⟩ := h
  refine ⟨by rw [splice_length (by omega), h1], fun i hi => ?_⟩
  by_cases hik : i = k
  · subst hik
    exact .inl ⟨j, List.mem_cons_self, pg, hj, splice_same hp (by omega)⟩
  · rcases h2 i hi with ⟨j', hj', pg', h3, h4⟩ | ⟨h3, h4⟩
    · exact .inl ⟨j', List.mem_cons_of_mem _ hj', pg', h3, by rw [splice_off hp (by omega) hik]; exact h4⟩
    · refine .inr ⟨fun j' hj' e he => ?_, by rw [splice_off hp (by omega) hik]; exact h4⟩
      rcases List.mem_cons.1 hj' with rfl | hj'
      · rw [hj] at he
        cases he
        simp only [keyIs, decide_eq_false_iff_not]
        omega
      · exact h3 j' hj' e he

theorem apart_key : ∀ {es : List (V × V)} {i j : Nat} {a b : V × V}, apart es = true → es[i]? = some a → es[j]? = some b → (∃ q n, a.1 = .int q n ∧ b.1 = .int q n) → i = j
  | [], i, j, a, b, h, hi, hj, hab => by simp at hi
  | e :: es, 0, 0, a, b, h, hi, hj, hab => rfl
  | e :: es, 0, j + 1, a, b, h, hi, hj, hab => by
    obtain ⟨q, n, ha, hb⟩ := hab
    simp only [apart, Bool.and_eq_true, List.all_eq_true] at h
    simp only [List.getElem?_cons_zero, Option.some.injEq] at hi
    simp only [List.getElem?_cons_succ] at hj
    have := h.1 b (List.mem_of_getElem? hj)
    subst hi
    rw [ha, hb] at this
    simp [V.beq] at this
  | e :: es, i + 1, 0, a, b, h, hi, hj, hab => by
    obtain ⟨q, n, ha, hb⟩ := hab
    simp only [apart, Bool.and_eq_true, List.all_eq_true] at h
    simp only [List.getElem?_cons_zero, Option.some.injEq] at hj
    simp only [List.getElem?_cons_succ] at hi
    have := h.1 a (List.mem_of_getElem? hi)
    subst hj
    rw [ha, hb] at this
    simp [V.beq] at this
  | e :: es, i + 1, j + 1, a, b, h, hi, hj, hab => by
    simp only [apart, Bool.and_eq_true] at h
    simp only [List.getElem?_cons_succ] at hi hj
    rw [apart_key h.2 hi hj hab]

theorem fm_congr {α β : Type} : ∀ {l : List α} {f g : α → List β}, (∀ x ∈ l, f x = g x) → l.flatMap f = l.flatMap g
  | [], f, g, h => rfl
  | x :: l, f, g, h => by rw [List.flatMap_cons, List.flatMap_cons, h x List.mem_cons_self, fm_congr fun y hy => h y (List.mem_cons_of_mem _ hy)]

theorem blocks : ∀ (n : Nat) (cs : List V), cs.length = n * 64 → ((List.range n).flatMap fun i => (cs.drop (i * 64)).take 64) = cs
  | 0, cs, h => by simp at h; simp [h]
  | n + 1, cs, h => by
    have ih := blocks n (cs.take (n * 64)) (by simp; omega)
    rw [List.range_succ, List.flatMap_append, List.flatMap_cons, List.flatMap_nil, List.append_nil]
    have e : ((List.range n).flatMap fun i => (cs.drop (i * 64)).take 64) = (List.range n).flatMap fun i => ((cs.take (n * 64)).drop (i * 64)).take 64 := by
      refine fm_congr fun i hi => ?_
      have hi := List.mem_range.1 hi
      have : (i + 1) * 64 ≤ n * 64 := Nat.mul_le_mul_right 64 hi
      rw [List.drop_take, List.take_take, Nat.min_eq_left (by omega)]
    rw [e, ih, List.take_of_length_le (l := cs.drop (n * 64)) (by simp; omega), List.take_append_drop]

theorem Laid.fin {es : List (V × V)} {np : Nat} {cs cs' : List V} {done : List Nat} (h : Laid es np cs done cs') (hlen : cs.length = np * 64) (hes : es.all (pageEnt np) = true) (hap : apart es = true) (hall : ∀ i, i < es.length → i ∈ done) : cs' = layPages es np cs := by
  obtain ⟨h1, h2⟩ := h
  rw [← blocks np cs' (by omega)]
  unfold layPages
  refine fm_congr fun i hi => ?_
  have hi := List.mem_range.1 hi
  rcases h2 i hi with ⟨j, hj, pg, h3, h4⟩ | ⟨h3, h4⟩
  · cases hf : es.find? (keyIs i) with
    | none =>
      have := List.find?_eq_none.1 hf _ (List.mem_of_getElem? h3)
      simp [keyIs] at this
    | some e =>
      have hm := List.mem_of_find?_eq_some hf
      have hk := List.find?_some hf
      obtain ⟨j2, hj2⟩ := List.getElem?_of_mem hm
      obtain ⟨k, pg2, rfl, _⟩ := pageEnt_inv (List.all_eq_true.1 hes e hm)
      simp only [keyIs, decide_eq_true_eq] at hk
      have : j2 = j := apart_key hap hj2 h3 ⟨.i64, i, by simp only; rw [hk], rfl⟩
      subst this
      rw [h3] at hj2
      cases hj2
      exact h4
  · cases hf : es.find? (keyIs i) with
    | none => exact h4
    | some e =>
      have hm := List.mem_of_find?_eq_some hf
      have hk := List.find?_some hf
      obtain ⟨j2, hj2⟩ := List.getElem?_of_mem hm
      have := h3 j2 (hall j2 (List.getElem?_eq_some_iff.1 hj2).1) e hj2
      rw [this] at hk; cases hk
end Go.Proofs.Ytfbkeieoeagkdaa

/- Disk: the fuse; Flush by hand: what it comes to. -/
namespace Go.Proofs.Ytfbkeieoeagkdaa
open Go AM
set_option linter.unusedSimpArgs false
set_option linter.unusedVariables false
set_option maxRecDepth 100000

def t0 : HandT := fun _ => none
def g0 : Nat → Option Ans := fun _ => none
def E0 : ExtF := extH g0 t0
theorem hxE0 : ExtMono E0 := extH_mono g0 t0
theorem E0_none {f : Nat} (h : g0 f = none) (h' : t0 f = none := by rfl) (c : CallF) : E0 c f = none := extH_none h h' c
theorem ok0 : HandOk Try.prog t0 := fun f k args h out oh hk => by cases hk
theorem sndE0 : ExtSound Try.prog E0 := extH_sound plain0_sound ok0

/-- The fuse behind a step: may it be done; the three cells. -/
def burnB (on down : Bool) (left : Int) : Bool := !down && !(on && decide (IntKind.i64.wrap (left - 1) < 0))
def burnC (on down : Bool) (left : Int) : List V := if down = true then [.bool on, .bool down, .int .i64 left] else if on = true then [.bool true, .bool (decide (IntKind.i64.wrap (left - 1) < 0)), .int .i64 (IntKind.i64.wrap (left - 1))] else [.bool on, .bool down, .int .i64 left]

theorem leave_same {o o' : List AM.Obj} {e d d' : Nat} {v : V} (hv : v.plain = true) (hl : o'.length = o.length) (hd : o.length ≤ d' → o' = o) : ∃ d'', (leave ⟨o, e, d⟩ ⟨o', o.length, d'⟩ v).getD ⟨o, e, d⟩ = ⟨o', e, d''⟩ ∧ min d d' ≤ d'' := by
  unfold leave
  simp only
  rw [if_pos ⟨Nat.le_refl _, hv⟩]
  split
  · rename_i hc
    exact ⟨d, by rw [hd hc]; rfl, Nat.min_le_left _ _⟩
  · exact ⟨min d d', by rw [List.take_of_length_le (by omega)]; rfl, Nat.le_refl _⟩

set_option maxHeartbeats 4000000 in
theorem burn_q {o : List AM.Obj} {e d dd t : Nat} {on down : Bool} {left : Int} {r : List V} (h : o[dd]? = some (.cells .ex t 0 (.bool on :: .bool down :: .int .i64 left :: r))) :
    ∃ v oh, Den FF E0 49 [.ptr dd 0] ⟨o, e, d⟩ = some (v, oh) ∧ v = .val (.bool (burnB on down left)) ∧ ∃ d', oh.getD ⟨o, e, d⟩ = ⟨o.set dd (.cells .ex t 0 (burnC on down left ++ r)), e, d'⟩ ∧ min d dd ≤ d' := by
  have hl := get_lt h
  have hs : ∀ x, (o.set dd x)[dd]? = some x := fun x => List.getElem?_set_self hl
  have hid : o.set dd (.cells .ex t 0 (.bool on :: .bool down :: .int .i64 left :: r)) = o := by
    apply List.ext_getElem?
    intro i
    by_cases hi : dd = i
    · subst hi; rw [hs, h]
    · rw [List.getElem?_set_ne hi]
  refine To.denE hxE0 (f := 49) (a := af49) rfl (E0_none rfl) (Nat.le_of_ble_eq_true rfl) ?_
  have l2 : ∀ n, (2 : Nat) < n + 1 + 1 + 1 := fun n => by omega
  have l1 : ∀ n, (1 : Nat) < n + 1 + 1 + 1 := fun n => by omega
  have m2 : ∀ n, (2 : Nat) + 1 ≤ n + 1 + 1 + 1 := fun n => by omega
  have m1 : ∀ n, (1 : Nat) + 1 ≤ n + 1 + 1 + 1 := fun n => by omega
  cases down
  case true =>
    (repeat' (first | refine To.seq hxE0 ?_ | refine To.op0 hxE0 (by simp only [go_sem, eqs hxE0, reduceIte, Nat.reduceEqDiff, Nat.reduceAdd, Nat.reduceMul, Nat.reduceLT, Nat.reduceLeDiff, Int.reduceLT, Int.reduceLE, Int.reduceEq, reduceCtorEq, Int.reduceBEq, Int.reduceBNe, Int.reduceToNat, Nat.reduceSub, Nat.reduceDiv, Int.reduceNeg, Int.reduceAdd, Int.reduceSub, Int.reduceMul, Heap.gets, Heap.sets, Heap.get, bytesA_length, bytesA_one, bytesA_plains, List.take_of_length_le, List.drop_of_length_le, Nat.add_zero, V.one, Nat.reduceLeDiff, List.all_cons, List.all_nil, ne_eq, not_false_eq_true, Nat.zero_le, h]; rfl) ?_ | refine To.op1 hxE0 (by simp only [go_sem, eqs hxE0, reduceIte, Nat.reduceEqDiff, Nat.reduceAdd, Nat.reduceMul, Nat.reduceLT, Nat.reduceLeDiff, Int.reduceLT, Int.reduceLE, Int.reduceEq, reduceCtorEq, Int.reduceBEq, Int.reduceBNe, Int.reduceToNat, Nat.reduceSub, Nat.reduceDiv, Int.reduceNeg, Int.reduceAdd, Int.reduceSub, Int.reduceMul, Heap.gets, Heap.sets, Heap.get, bytesA_length, bytesA_one, bytesA_plains, List.take_of_length_le, List.drop_of_length_le, Nat.add_zero, V.one, Nat.reduceLeDiff, List.all_cons, List.all_nil, ne_eq, not_false_eq_true, Nat.zero_le, h]; rfl) ?_ | refine To.nop hxE0 ?_ | (refine To.condT hxE0 ?_ ?_; focus (simp only [go_sem, eqs hxE0, reduceIte, Nat.reduceEqDiff, Nat.reduceAdd, Nat.reduceMul, Nat.reduceLT, Nat.reduceLeDiff, Int.reduceLT, Int.reduceLE, Int.reduceEq, reduceCtorEq, Int.reduceBEq, Int.reduceBNe, Int.reduceToNat, Nat.reduceSub, Nat.reduceDiv, Int.reduceNeg, Int.reduceAdd, Int.reduceSub, Int.reduceMul, Heap.gets, Heap.sets, Heap.get, bytesA_length, bytesA_one, bytesA_plains, List.take_of_length_le, List.drop_of_length_le, Nat.add_zero, V.one, Nat.reduceLeDiff, List.all_cons, List.all_nil, ne_eq, not_false_eq_true, Nat.zero_le, h]; done)) | (refine To.condF hxE0 ?_ ?_; focus (simp only [go_sem, eqs hxE0, reduceIte, Nat.reduceEqDiff, Nat.reduceAdd, Nat.reduceMul, Nat.reduceLT, Nat.reduceLeDiff, Int.reduceLT, Int.reduceLE, Int.reduceEq, reduceCtorEq, Int.reduceBEq, Int.reduceBNe, Int.reduceToNat, Nat.reduceSub, Nat.reduceDiv, Int.reduceNeg, Int.reduceAdd, Int.reduceSub, Int.reduceMul, Heap.gets, Heap.sets, Heap.get, bytesA_length, bytesA_one, bytesA_plains, List.take_of_length_le, List.drop_of_length_le, Nat.add_zero, V.one, Nat.reduceLeDiff, List.all_cons, List.all_nil, ne_eq, not_false_eq_true, Nat.zero_le, h]; done)) | refine To.block hxE0 ?_ | refine To.scope hxE0 ?_ | refine To.ret hxE0 ?_ | refine To.exit hxE0 ?_ | refine To.skip hxE0 ?_ | refine To.label hxE0 ?_))
    refine ⟨_, _, fin1 (i := 2) rfl, by simp only [get_fput, reduceIte, Nat.reduceEqDiff]; simp [burnB], ?_⟩
    simp only [burnC, if_true, List.cons_append, List.nil_append, hid]
    obtain ⟨d2, q1, q2⟩ := leave_same (e := e) (d := d) (d' := o.length) (v := .bool false) rfl rfl (fun _ => rfl)
    exact ⟨d2, by simp only [get_fput, reduceIte, Nat.reduceEqDiff]; exact q1, by omega⟩
  cases on
  case false =>
    (repeat' (first | refine To.seq hxE0 ?_ | refine To.op0 hxE0 (by simp only [go_sem, eqs hxE0, reduceIte, Nat.reduceEqDiff, Nat.reduceAdd, Nat.reduceMul, Nat.reduceLT, Nat.reduceLeDiff, Int.reduceLT, Int.reduceLE, Int.reduceEq, reduceCtorEq, Int.reduceBEq, Int.reduceBNe, Int.reduceToNat, Nat.reduceSub, Nat.reduceDiv, Int.reduceNeg, Int.reduceAdd, Int.reduceSub, Int.reduceMul, Heap.gets, Heap.sets, Heap.get, bytesA_length, bytesA_one, bytesA_plains, List.take_of_length_le, List.drop_of_length_le, Nat.add_zero, V.one, Nat.reduceLeDiff, List.all_cons, List.all_nil, ne_eq, not_false_eq_true, Nat.zero_le, h]; rfl) ?_ | refine To.op1 hxE0 (by simp only [go_sem, eqs hxE0, reduceIte, Nat.reduceEqDiff, Nat.reduceAdd, Nat.reduceMul, Nat.reduceLT, Nat.reduceLeDiff, Int.reduceLT, Int.reduceLE, Int.reduceEq, reduceCtorEq, Int.reduceBEq, Int.reduceBNe, Int.reduceToNat, Nat.reduceSub, Nat.reduceDiv, Int.reduceNeg, Int.reduceAdd, Int.reduceSub, Int.reduceMul, Heap.gets, Heap.sets, Heap.get, bytesA_length, bytesA_one, bytesA_plains, List.take_of_length_le, List.drop_of_length_le, Nat.add_zero, V.one, Nat.reduceLeDiff, List.all_cons, List.all_nil, ne_eq, not_false_eq_true, Nat.zero_le, h]; rfl) ?_ | refine To.nop hxE0 ?_ | (refine To.condT hxE0 ?_ ?_; focus (simp only [go_sem, eqs hxE0, reduceIte, Nat.reduceEqDiff, Nat.reduceAdd, Nat.reduceMul, Nat.reduceLT, Nat.reduceLeDiff, Int.reduceLT, Int.reduceLE, Int.reduceEq, reduceCtorEq, Int.reduceBEq, Int.reduceBNe, Int.reduceToNat, Nat.reduceSub, Nat.reduceDiv, Int.reduceNeg, Int.reduceAdd, Int.reduceSub, Int.reduceMul, Heap.gets, Heap.sets, Heap.get, bytesA_length, bytesA_one, bytesA_plains, List.take_of_length_le, List.drop_of_length_le, Nat.add_zero, V.one, Nat.reduceLeDiff, List.all_cons, List.all_nil, ne_eq, not_false_eq_true, Nat.zero_le, h]; done)) | (refine To.condF hxE0 ?_ ?_; focus (simp only [go_sem, eqs hxE0, reduceIte, Nat.reduceEqDiff, Nat.reduceAdd, Nat.reduceMul, Nat.reduceLT, Nat.reduceLeDiff, Int.reduceLT, Int.reduceLE, Int.reduceEq, reduceCtorEq, Int.reduceBEq, Int.reduceBNe, Int.reduceToNat, Nat.reduceSub, Nat.reduceDiv, Int.reduceNeg, Int.reduceAdd, Int.reduceSub, Int.reduceMul, Heap.gets, Heap.sets, Heap.get, bytesA_length, bytesA_one, bytesA_plains, List.take_of_length_le, List.drop_of_length_le, Nat.add_zero, V.one, Nat.reduceLeDiff, List.all_cons, List.all_nil, ne_eq, not_false_eq_true, Nat.zero_le, h]; done)) | refine To.block hxE0 ?_ | refine To.scope hxE0 ?_ | refine To.ret hxE0 ?_ | refine To.exit hxE0 ?_ | refine To.skip hxE0 ?_ | refine To.label hxE0 ?_))
    refine ⟨_, _, fin1 (i := 2) rfl, by simp only [get_fput, reduceIte, Nat.reduceEqDiff]; simp [burnB], ?_⟩
    simp only [burnC, Bool.false_eq_true, if_false, List.cons_append, List.nil_append, hid]
    obtain ⟨d2, q1, q2⟩ := leave_same (e := e) (d := d) (d' := o.length) (v := .bool true) rfl rfl (fun _ => rfl)
    exact ⟨d2, by simp only [get_fput, reduceIte, Nat.reduceEqDiff]; exact q1, by omega⟩
  (repeat' (first | refine To.seq hxE0 ?_ | refine To.op0 hxE0 (by simp only [go_sem, eqs hxE0, reduceIte, Nat.reduceEqDiff, Nat.reduceAdd, Nat.reduceMul, Nat.reduceLT, Nat.reduceLeDiff, Int.reduceLT, Int.reduceLE, Int.reduceEq, reduceCtorEq, Int.reduceBEq, Int.reduceBNe, Int.reduceToNat, Nat.reduceSub, Nat.reduceDiv, Int.reduceNeg, Int.reduceAdd, Int.reduceSub, Int.reduceMul, Heap.gets, Heap.sets, Heap.get, bytesA_length, bytesA_one, bytesA_plains, List.take_of_length_le, List.drop_of_length_le, Nat.add_zero, V.one, Nat.reduceLeDiff, List.all_cons, List.all_nil, ne_eq, not_false_eq_true, Nat.zero_le, h, hs, List.set_set, l1, l2, m1, m2]; rfl) ?_ | refine To.op1 hxE0 (by simp only [go_sem, eqs hxE0, reduceIte, Nat.reduceEqDiff, Nat.reduceAdd, Nat.reduceMul, Nat.reduceLT, Nat.reduceLeDiff, Int.reduceLT, Int.reduceLE, Int.reduceEq, reduceCtorEq, Int.reduceBEq, Int.reduceBNe, Int.reduceToNat, Nat.reduceSub, Nat.reduceDiv, Int.reduceNeg, Int.reduceAdd, Int.reduceSub, Int.reduceMul, Heap.gets, Heap.sets, Heap.get, bytesA_length, bytesA_one, bytesA_plains, List.take_of_length_le, List.drop_of_length_le, Nat.add_zero, V.one, Nat.reduceLeDiff, List.all_cons, List.all_nil, ne_eq, not_false_eq_true, Nat.zero_le, h, hs, List.set_set, l1, l2, m1, m2]; rfl) ?_ | refine To.nop hxE0 ?_ | (refine To.condT hxE0 ?_ ?_; focus (simp only [go_sem, eqs hxE0, reduceIte, Nat.reduceEqDiff, Nat.reduceAdd, Nat.reduceMul, Nat.reduceLT, Nat.reduceLeDiff, Int.reduceLT, Int.reduceLE, Int.reduceEq, reduceCtorEq, Int.reduceBEq, Int.reduceBNe, Int.reduceToNat, Nat.reduceSub, Nat.reduceDiv, Int.reduceNeg, Int.reduceAdd, Int.reduceSub, Int.reduceMul, Heap.gets, Heap.sets, Heap.get, bytesA_length, bytesA_one, bytesA_plains, List.take_of_length_le, List.drop_of_length_le, Nat.add_zero, V.one, Nat.reduceLeDiff, List.all_cons, List.all_nil, ne_eq, not_false_eq_true, Nat.zero_le, h, hs, List.set_set, l1, l2, m1, m2]; done)) | (refine To.condF hxE0 ?_ ?_; focus (simp only [go_sem, eqs hxE0, reduceIte, Nat.reduceEqDiff, Nat.reduceAdd, Nat.reduceMul, Nat.reduceLT, Nat.reduceLeDiff, Int.reduceLT, Int.reduceLE, Int.reduceEq, reduceCtorEq, Int.reduceBEq, Int.reduceBNe, Int.reduceToNat, Nat.reduceSub, Nat.reduceDiv, Int.reduceNeg, Int.reduceAdd, Int.reduceSub, Int.reduceMul, Heap.gets, Heap.sets, Heap.get, bytesA_length, bytesA_one, bytesA_plains, List.take_of_length_le, List.drop_of_length_le, Nat.add_zero, V.one, Nat.reduceLeDiff, List.all_cons, List.all_nil, ne_eq, not_false_eq_true, Nat.zero_le, h, hs, List.set_set, l1, l2, m1, m2]; done)) | refine To.block hxE0 ?_ | refine To.scope hxE0 ?_ | refine To.ret hxE0 ?_ | refine To.exit hxE0 ?_ | refine To.skip hxE0 ?_ | refine To.label hxE0 ?_))
  refine ⟨_, _, fin1 (i := 2) rfl, by simp only [get_fput, reduceIte, Nat.reduceEqDiff]; simp [burnB], ?_⟩
  simp only [burnC, Bool.false_eq_true, if_false, if_true, List.cons_append, List.nil_append]
  obtain ⟨d2, q1, q2⟩ := leave_same (o := o) (o' := o.set dd (.cells .ex t 0 (.bool true :: .bool (decide (IntKind.i64.wrap (left - 1) < 0)) :: .int .i64 (IntKind.i64.wrap (left - 1)) :: r))) (e := e) (d := d) (d' := min (min o.length dd) dd) (v := .bool (!decide (IntKind.i64.wrap (left - 1) < 0))) rfl (by simp) (fun hc => by omega)
  exact ⟨d2, by simp only [get_fput, reduceIte, Nat.reduceEqDiff]; exact q1, by omega⟩
end Go.Proofs.Ytfbkeieoeagkdaa

/- Disk: Flush by hand: that it is so. -/
namespace Go.Proofs.Ytfbkeieoeagkdaa
open Go AM
set_option linter.unusedSimpArgs false
set_option linter.unusedVariables false
set_option maxRecDepth 100000

def flushG : List V → Heap → Option (Out × Option Heap)
  | [.nilp], _ => some (.val (.int .i64 5), none)
  | [.ptr dd 0], h => match h.o[dd]? with
    | some (.cells .ex t 0 [.bool on, .bool down, .int .i64 left, .slice pg 0 np 64, .map lm]) =>
      if burnB on down left = false then some (.val (.int .i64 5), some ⟨h.o.set dd (.cells .ex t 0 (burnC on down left ++ [.slice pg 0 np 64, .map lm])), h.e, min h.d dd⟩)
      else match h.o[pg]?, h.o[lm]? with
        | some (.cells ck t' 0 cs), some (.map es) =>
          if ck ≠ .ro ∧ dd ≠ pg ∧ cs.length = np * 64 ∧ es.all (pageEnt np) = true ∧ apart es = true then
            some (.val (.int .i64 0), some ⟨((h.o.set dd (.cells .ex t 0 (burnC on down left ++ [.slice pg 0 np 64, .map lm]))).set pg (.cells ck t' 0 (layPages es np cs))).set lm (.map []), h.e, min h.d (min dd (min pg lm))⟩)
          else none
        | _, _ => none
    | _ => none
  | _, _ => none

theorem hcall0 : CallOk Try.prog (Den FF E0) := callOk_den mixed ffok sndE0

def R1 : AC := .region [⟨some 5, .mv (.t 0), none⟩, ⟨some 6, .eqf false false [(1, .p)] (.t 5) (.k .nilp), none⟩, ⟨some 7, .mv (.t 6), none⟩, ⟨some 8, .mv (.t 0), some (7, false)⟩, ⟨some 9, .nck (.t 8), some (7, false)⟩, ⟨some 10, .faddr 0 (.t 9), some (7, false)⟩, ⟨some 11, .call 49 [.t 10], some (7, false)⟩, ⟨some 12, .un .not (.t 11), some (7, false)⟩, ⟨some 13, .pick (.t 7) (.k (.bool true)) (.t 12), none⟩] false

set_option maxHeartbeats 4000000 in
theorem flush_nil {h : Heap} {ι : Map} {w : World} (hr : HR ι h.o w) : Calls Try.prog 16 (V.reals ι [.nilp]).toArray w fun e w' => ∃ κ, Nx ι h w κ h w' ∧ OutOk κ h.o.length e (.val (.int .i64 5)) := by
  refine calls_body (h2 := h) (args := [.nilp]) Try.func16 rfl rfl hr ⟨trivial, trivial⟩ (by decide) fun a hs hd => ?_
  apply wp_seq
  refine wp_mono (exec_ok hcall0 mixed (ds := []) (h := enter h) 1 (ac := .region [⟨some 2, .mv (.k (.int .i64 0)), none⟩] false) (by kernel_rfl) hr hs hd (by simp only [exec, go_sem, eqs hxE0, reduceIte, Nat.reduceEqDiff, Nat.reduceAdd, Nat.reduceMul, Nat.reduceLT, Nat.reduceLeDiff, Int.reduceLT, Int.reduceLE, Int.reduceEq, reduceCtorEq, Int.reduceBEq, Int.reduceBNe, Int.reduceToNat, Nat.reduceSub, Nat.reduceDiv, Int.reduceNeg, Int.reduceAdd, Int.reduceSub, Int.reduceMul]; rfl)) ?_
  rintro e1 a1 w1 ⟨κ, hn, hs1, hd1, rfl⟩
  apply wp_seq
  apply wp_seq
  refine wp_mono (exec_ok hcall0 mixed (ds := []) 1 (ac := R1) (by kernel_rfl) hn.hr hs1 hd1 (by simp only [exec, R1, go_sem, eqs hxE0, reduceIte, Nat.reduceEqDiff, Nat.reduceAdd, Nat.reduceMul, Nat.reduceLT, Nat.reduceLeDiff, Int.reduceLT, Int.reduceLE, Int.reduceEq, reduceCtorEq, Int.reduceBEq, Int.reduceBNe, Int.reduceToNat, Nat.reduceSub, Nat.reduceDiv, Int.reduceNeg, Int.reduceAdd, Int.reduceSub, Int.reduceMul, initS]; rfl)) ?_
  rintro e2 a2 w2 ⟨κ2, hn2, hs2, hd2, rfl⟩
  refine wp_cond (t := true) (by have := hs2.val 13; simp only [go_sem, eqs hxE0, reduceIte, Nat.reduceEqDiff, Nat.reduceAdd, Nat.reduceMul, Nat.reduceLT, Nat.reduceLeDiff, Int.reduceLT, Int.reduceLE, Int.reduceEq, reduceCtorEq, Int.reduceBEq, Int.reduceBNe, Int.reduceToNat, Nat.reduceSub, Nat.reduceDiv, Int.reduceNeg, Int.reduceAdd, Int.reduceSub, Int.reduceMul, V.real] at this; exact this) ?_
  apply wp_seq
  refine wp_mono (exec_ok hcall0 mixed (ds := []) 1 (ac := .region [⟨some 2, .mv (.k (.int .i64 5)), none⟩] false) (by kernel_rfl) hn2.hr hs2 hd2 (by simp only [exec, go_sem, eqs hxE0, reduceIte, Nat.reduceEqDiff, Nat.reduceAdd, Nat.reduceMul, Nat.reduceLT, Nat.reduceLeDiff, Int.reduceLT, Int.reduceLE, Int.reduceEq, reduceCtorEq, Int.reduceBEq, Int.reduceBNe, Int.reduceToNat, Nat.reduceSub, Nat.reduceDiv, Int.reduceNeg, Int.reduceAdd, Int.reduceSub, Int.reduceMul]; rfl)) ?_
  rintro e3 a3 w3 ⟨κ3, hn3, hs3, hd3, rfl⟩
  refine wp_ret ⟨.inr rfl, κ3, _, _, hn.trans (hn2.trans hn3), hs3, hd3, [.int .i64 5], ?_, rfl, ?_⟩
  · simp only [go_sem, eqs hxE0, reduceIte, Nat.reduceEqDiff, Nat.reduceAdd, Nat.reduceMul, Nat.reduceLT, Nat.reduceLeDiff, Int.reduceLT, Int.reduceLE, Int.reduceEq, reduceCtorEq, Int.reduceBEq, Int.reduceBNe, Int.reduceToNat, Nat.reduceSub, Nat.reduceDiv, Int.reduceNeg, Int.reduceAdd, Int.reduceSub, Int.reduceMul]
  · rw [show leave h ⟨h.o, h.o.length, h.o.length⟩ (.int .i64 5) = none from leave_plain (Kp.enter' h) rfl]
    exact ⟨rfl, rfl, Nat.le_refl _⟩

theorem take_set {o o' : List AM.Obj} {pg lm : Nat} {x y : AM.Obj} (hlen : o.length ≤ o'.length) (hp : pg < o.length) (hl : lm < o.length) (hx : o'[pg]? = some x) (hne : pg ≠ lm) (hold : ∀ l, l < o.length → l ≠ pg → l ≠ lm → o'[l]? = o[l]?) : (o'.set lm y).take o.length = (o.set pg x).set lm y := by
  apply List.ext_getElem?
  intro i
  rw [List.getElem?_take]
  by_cases hi : i < o.length
  · rw [if_pos hi]
    by_cases h1 : i = lm
    · subst h1
      rw [List.getElem?_set_self (by omega), List.getElem?_set_self (by simpa using hi)]
    · rw [List.getElem?_set_ne (Ne.symm h1), List.getElem?_set_ne (Ne.symm h1)]
      by_cases h2 : i = pg
      · subst h2
        rw [List.getElem?_set_self hi, hx]
      · rw [List.getElem?_set_ne (Ne.symm h2)]
        exact hold i hi h2 h1
  · rw [if_neg hi, List.getElem?_eq_none (by simp; omega)]

set_option maxHeartbeats 8000000 in
theorem flush_go {o : List AM.Obj} {e d dd t pg np lm t' : Nat} {on down : Bool} {left : Int} {ck : CK} {cs : List V} {es : List (V × V)} (hD : o[dd]? = some (.cells .ex t 0 [.bool on, .bool down, .int .i64 left, .slice pg 0 np 64, .map lm])) (hB : burnB on down left = true)
    (hP : o[pg]? = some (.cells ck t' 0 cs)) (hM : o[lm]? = some (.map es)) (hck : ck ≠ .ro) (hdp : dd ≠ pg) (hlen : cs.length = np * 64) (hes : es.all (pageEnt np) = true) (hap : apart es = true) {ι : Map} {w : World} (hr : HR ι o w) :
    Calls Try.prog 16 (V.reals ι [.ptr dd 0]).toArray w fun e1 w' => ∃ κ, Nx ι ⟨o, e, d⟩ w κ ⟨((o.set dd (.cells .ex t 0 (burnC on down left ++ [.slice pg 0 np 64, .map lm]))).set pg (.cells ck t' 0 (layPages es np cs))).set lm (.map []), e, min d (min dd (min pg lm))⟩ w' ∧
      OutOk κ (((o.set dd (.cells .ex t 0 (burnC on down left ++ [.slice pg 0 np 64, .map lm]))).set pg (.cells ck t' 0 (layPages es np cs))).set lm (.map [])).length e1 (.val (.int .i64 0)) := by
  have ldd := get_lt hD
  have lpg := get_lt hP
  have llm := get_lt hM
  have hdl : dd ≠ lm := by rintro rfl; rw [hD] at hM; cases hM
  have hpl : pg ≠ lm := by rintro rfl; rw [hP] at hM; cases hM
  refine calls_body (h2 := ⟨((o.set dd (.cells .ex t 0 (burnC on down left ++ [.slice pg 0 np 64, .map lm]))).set pg (.cells ck t' 0 (layPages es np cs))).set lm (.map []), e, min d (min dd (min pg lm))⟩) (h := ⟨o, e, d⟩) (args := [.ptr dd 0]) Try.func16 rfl rfl hr ⟨ldd, trivial⟩ (Nat.le_of_ble_eq_true rfl) fun a hs hd => ?_
  obtain ⟨vb, ohb, qb, rfl, db, hgb, hdb⟩ := burn_q (e := o.length) (d := o.length) hD
  rw [hB] at qb
  obtain ⟨bc, bl, hbc⟩ : ∃ b1 b2 b3, burnC on down left = [.bool b1, .bool b2, .int .i64 b3] := by
    unfold burnC; split
    · exact ⟨_, _, _, rfl⟩
    · split
      · exact ⟨_, _, _, rfl⟩
      · exact ⟨_, _, _, rfl⟩
  obtain ⟨bn, hbc⟩ := hbc
  rw [hbc] at hgb ⊢
  simp only [List.cons_append, List.nil_append] at hgb ⊢
  generalize ho1 : o.set dd (.cells .ex t 0 [.bool bc, .bool bl, .int .i64 bn, .slice pg 0 np 64, .map lm]) = o1 at hgb ⊢
  have l1 : o1.length = o.length := by rw [← ho1]; simp
  have hD1 : o1[dd]? = some (.cells .ex t 0 [.bool bc, .bool bl, .int .i64 bn, .slice pg 0 np 64, .map lm]) := by rw [← ho1]; exact List.getElem?_set_self ldd
  have hP1 : o1[pg]? = some (.cells ck t' 0 cs) := by rw [← ho1, List.getElem?_set_ne hdp]; exact hP
  have hM1 : o1[lm]? = some (.map es) := by rw [← ho1, List.getElem?_set_ne hdl]; exact hM
  apply wp_seq
  refine wp_mono (exec_ok hcall0 mixed (ds := []) (h := enter ⟨o, e, d⟩) 1 (ac := .region [⟨some 2, .mv (.k (.int .i64 0)), none⟩] false) (by kernel_rfl) hr hs hd (by simp only [exec, go_sem, eqs hxE0, reduceIte, Nat.reduceEqDiff, Nat.reduceAdd, Nat.reduceMul, Nat.reduceLT, Nat.reduceLeDiff, Int.reduceLT, Int.reduceLE, Int.reduceEq, reduceCtorEq, Int.reduceBEq, Int.reduceBNe, Int.reduceToNat, Nat.reduceSub, Nat.reduceDiv, Int.reduceNeg, Int.reduceAdd, Int.reduceSub, Int.reduceMul]; rfl)) ?_
  rintro e1 a1 w1 ⟨κ, hn, hs1, hd1, rfl⟩
  apply wp_seq
  apply wp_seq
  have ex1 : exec (Den FF E0) 1 R1 (fput (initS [.ptr dd 0]) 2 (.int .i64 0)) ⟨o, o.length, o.length⟩ = some (.norm, fput (fput (fput (fput (fput (fput (fput (fput (fput (fput (initS [.ptr dd 0]) 2 (.int .i64 0)) 5 (.ptr dd 0)) 6 (.bool false)) 7 (.bool false)) 8 (.ptr dd 0)) 9 (.ptr dd 0)) 10 (.ptr dd 0)) 11 (.bool true)) 12 (.bool false)) 13 (.bool false), ⟨o1, o.length, db⟩) := by
    simp only [exec, R1, go_sem, eqs hxE0, reduceIte, Nat.reduceEqDiff, Nat.reduceAdd, Nat.reduceMul, Nat.reduceLT, Nat.reduceLeDiff, Int.reduceLT, Int.reduceLE, Int.reduceEq, reduceCtorEq, Int.reduceBEq, Int.reduceBNe, Int.reduceToNat, Nat.reduceSub, Nat.reduceDiv, Int.reduceNeg, Int.reduceAdd, Int.reduceSub, Int.reduceMul, initS, qb]
    cases ohb with
    | none => simp only [Option.getD_none] at hgb; rw [hgb]; simp only [go_sem, eqs hxE0, reduceIte, Nat.reduceEqDiff, Nat.reduceAdd, Nat.reduceMul, Nat.reduceLT, Nat.reduceLeDiff, Int.reduceLT, Int.reduceLE, Int.reduceEq, reduceCtorEq, Int.reduceBEq, Int.reduceBNe, Int.reduceToNat, Nat.reduceSub, Nat.reduceDiv, Int.reduceNeg, Int.reduceAdd, Int.reduceSub, Int.reduceMul]
    | some hh => simp only [Option.getD_some] at hgb; rw [hgb]; simp only [go_sem, eqs hxE0, reduceIte, Nat.reduceEqDiff, Nat.reduceAdd, Nat.reduceMul, Nat.reduceLT, Nat.reduceLeDiff, Int.reduceLT, Int.reduceLE, Int.reduceEq, reduceCtorEq, Int.reduceBEq, Int.reduceBNe, Int.reduceToNat, Nat.reduceSub, Nat.reduceDiv, Int.reduceNeg, Int.reduceAdd, Int.reduceSub, Int.reduceMul]
  refine wp_mono (exec_ok hcall0 mixed (ds := []) 1 (ac := R1) (by kernel_rfl) hn.hr hs1 hd1 ex1) ?_
  rintro e2 a2 w2 ⟨κ2, hn2, hs2, hd2, rfl⟩
  refine wp_cond (t := false) (by have := hs2.val 13; simp only [go_sem, eqs hxE0, reduceIte, Nat.reduceEqDiff, Nat.reduceAdd, Nat.reduceMul, Nat.reduceLT, Nat.reduceLeDiff, Int.reduceLT, Int.reduceLE, Int.reduceEq, reduceCtorEq, Int.reduceBEq, Int.reduceBNe, Int.reduceToNat, Nat.reduceSub, Nat.reduceDiv, Int.reduceNeg, Int.reduceAdd, Int.reduceSub, Int.reduceMul, V.real] at this; exact this) (wp_skip ?_)
  apply wp_seq
  have hdb' : min o.length dd ≤ db := hdb
  have l1' : o1.length ≤ o1.length := Nat.le_refl _
  let Inv : List Nat → (Nat → V) → Heap → Prop := fun done S hc => S 0 = .ptr dd 0 ∧ ∃ cs', hc.o[pg]? = some (.cells ck t' 0 cs') ∧ Laid es np cs done cs' ∧ o1.length < hc.o.length ∧ (∀ l, l < o1.length → l ≠ pg → l ≠ lm → hc.o[l]? = o1[l]?) ∧ hc.e = o.length ∧ min dd (min pg lm) ≤ hc.d
  refine range_block hcall0 mixed (ds := []) (PA := [⟨some 14, .mv (.t 0), none⟩, ⟨some 15, .nck (.t 14), none⟩, ⟨some 16, .faddr 4 (.t 15), none⟩, ⟨some 17, .load none (.t 16), none⟩])
    (RC := [⟨some 22, .extract (.t 21) 0, none⟩, ⟨some 23, .extract (.t 21) 1, none⟩, ⟨some 4, .alloc 31 z64, none⟩, ⟨some 3, .mv (.t 22), none⟩, ⟨none, .store 64 (.t 4) (.t 23), none⟩])
    (AB := .draw 0 [⟨0, ⟨some 24, .mv (.t 0), none⟩, [], none, []⟩, ⟨1, ⟨some 25, .nck (.t 24), none⟩, [], none, []⟩, ⟨2, ⟨some 26, .faddr 3 (.t 25), none⟩, [], none, []⟩, ⟨3, ⟨some 27, .load none (.t 26), none⟩, [], none, []⟩, ⟨4, ⟨some 28, .mv (.t 3), none⟩, [], none, []⟩, ⟨5, ⟨some 29, .load (some 64) (.t 4), none⟩, [], none, []⟩, ⟨6, ⟨some 30, .iaddrS 64 (.t 27) (.t 28), none⟩, [], none, []⟩, ⟨7, ⟨none, .store 64 (.t 30) (.t 29), none⟩, [], none, []⟩])
    (k := 1) rfl rfl rfl rfl rfl (by kernel_rfl) Try.underlying29 (Nat.le_of_ble_eq_true rfl) rfl rfl rfl rfl rfl rfl rfl rfl rfl rfl rfl (by kernel_rfl) (by kernel_rfl) (Nat.le_of_ble_eq_true rfl) (Nat.le_of_ble_eq_true rfl) (Nat.le_of_ble_eq_true rfl) (by decide) (by decide)
    hn2.hr hs2 hd2 (h1 := ⟨o1, o.length, db⟩) (by simp only [go_sem, eqs hxE0, reduceIte, Nat.reduceEqDiff, Nat.reduceAdd, Nat.reduceMul, Nat.reduceLT, Nat.reduceLeDiff, Int.reduceLT, Int.reduceLE, Int.reduceEq, reduceCtorEq, Int.reduceBEq, Int.reduceBNe, Int.reduceToNat, Nat.reduceSub, Nat.reduceDiv, Int.reduceNeg, Int.reduceAdd, Int.reduceSub, Int.reduceMul, Heap.gets, Heap.sets, Heap.get, bytesA_length, bytesA_one, bytesA_plains, List.take_of_length_le, List.drop_of_length_le, Nat.add_zero, V.one, Nat.reduceLeDiff, List.all_cons, List.all_nil, ne_eq, not_false_eq_true, Nat.zero_le, hD1]; rfl) (es := es) (lm := lm) (by simp only [go_sem, eqs hxE0, reduceIte, Nat.reduceEqDiff, Nat.reduceAdd, Nat.reduceMul, Nat.reduceLT, Nat.reduceLeDiff, Int.reduceLT, Int.reduceLE, Int.reduceEq, reduceCtorEq, Int.reduceBEq, Int.reduceBNe, Int.reduceToNat, Nat.reduceSub, Nat.reduceDiv, Int.reduceNeg, Int.reduceAdd, Int.reduceSub, Int.reduceMul]) hM1 (fun e he => ?_) Inv ?_ ?_ ?_ ?_ ?_
  · obtain ⟨k, pgv, rfl, _, _, hp, _⟩ := pageEnt_inv (List.all_eq_true.1 hes e he)
    exact ⟨rfl, hp⟩
  · rintro done S hc x ⟨h1, cs', h2, h3, h4, h5, h6, h7⟩
    refine ⟨h1, cs', ?_, h3, by simpa using h4, fun l hl a b => ?_, h6, ?_⟩
    · show (hc.o.set o1.length _)[pg]? = _
      rw [List.getElem?_set_ne (by omega)]; exact h2
    · show (hc.o.set o1.length _)[l]? = _
      rw [List.getElem?_set_ne (by omega)]; exact h5 l hl a b
    · show _ ≤ min hc.d o1.length
      omega
  · rintro done S hc v u ⟨h1, h2⟩
    exact ⟨by simp only [go_sem, eqs hxE0, reduceIte, Nat.reduceEqDiff, Nat.reduceAdd, Nat.reduceMul, Nat.reduceLT, Nat.reduceLeDiff, Int.reduceLT, Int.reduceLE, Int.reduceEq, reduceCtorEq, Int.reduceBEq, Int.reduceBNe, Int.reduceToNat, Nat.reduceSub, Nat.reduceDiv, Int.reduceNeg, Int.reduceAdd, Int.reduceSub, Int.reduceMul, h1], h2⟩
  · rintro done S hc i en ⟨h1, cs', h2, hL', h4, h5, h6, h7⟩ hit hi hnot ⟨x1, hx1⟩ ⟨x2, hx2⟩
    obtain ⟨k, pgv, rfl, hk, hpl64, hpp, hpo⟩ := pageEnt_inv (List.all_eq_true.1 hes en (List.mem_of_getElem? hi))
    obtain ⟨ho, he, hd'⟩ := hc
    simp only at h2 h4 h5 h6 h7 hx1 hx2
    have gd : ∀ r, (ho ++ r)[dd]? = some (.cells .ex t 0 [.bool bc, .bool bl, .int .i64 bn, .slice pg 0 np 64, .map lm]) := fun r => by rw [List.getElem?_append_left (by omega), h5 dd (by omega) hdp hdl]; exact hD1
    have gp : ∀ r, (ho ++ r)[pg]? = some (.cells ck t' 0 cs') := fun r => by rw [List.getElem?_append_left (by omega)]; exact h2
    have hlen' : cs'.length = np * 64 := hL'.1.trans hlen
    have hkk : (k + 1) * 64 ≤ np * 64 := Nat.mul_le_mul_right 64 hk
    have hk0 : k * 64 + 64 ≤ cs'.length := by omega
    have ix : idxOf np (.int .i64 (k : Int)) = some k := idxOf_nat hk
    have hz : List.drop 64 z64 = [] := rfl
    have hz2 : z64.length = 64 := rfl
    have htk : List.take 64 pgv = pgv := List.take_of_length_le (by omega)
    refine ⟨_, _, .norm, _, _, (by simp only [go_sem, eqs hxE0, reduceIte, Nat.reduceEqDiff, Nat.reduceAdd, Nat.reduceMul, Nat.reduceLT, Nat.reduceLeDiff, Int.reduceLT, Int.reduceLE, Int.reduceEq, reduceCtorEq, Int.reduceBEq, Int.reduceBNe, Int.reduceToNat, Nat.reduceSub, Nat.reduceDiv, Int.reduceNeg, Int.reduceAdd, Int.reduceSub, Int.reduceMul, Heap.gets, Heap.sets, Heap.get, bytesA_length, bytesA_one, bytesA_plains, List.take_of_length_le, List.drop_of_length_le, Nat.add_zero, V.one, Nat.reduceLeDiff, List.all_cons, List.all_nil, ne_eq, not_false_eq_true, Nat.zero_le, hpl64, hpo, hpp, hz, hz2]; rfl), (by simp only [exec, go_sem, eqs hxE0, reduceIte, Nat.reduceEqDiff, Nat.reduceAdd, Nat.reduceMul, Nat.reduceLT, Nat.reduceLeDiff, Int.reduceLT, Int.reduceLE, Int.reduceEq, reduceCtorEq, Int.reduceBEq, Int.reduceBNe, Int.reduceToNat, Nat.reduceSub, Nat.reduceDiv, Int.reduceNeg, Int.reduceAdd, Int.reduceSub, Int.reduceMul, Heap.gets, Heap.sets, Heap.get, bytesA_length, bytesA_one, bytesA_plains, List.take_of_length_le, List.drop_of_length_le, Nat.add_zero, V.one, Nat.reduceLeDiff, List.all_cons, List.all_nil, ne_eq, not_false_eq_true, Nat.zero_le, h1, gd, gp, hpl64, hpo, hpp, htk, ix, hk0, hck]; rfl), .inl rfl, ?_, ?_, ?_, ?_⟩
    · simp only [go_sem, eqs hxE0, reduceIte, Nat.reduceEqDiff, Nat.reduceAdd, Nat.reduceMul, Nat.reduceLT, Nat.reduceLeDiff, Int.reduceLT, Int.reduceLE, Int.reduceEq, reduceCtorEq, Int.reduceBEq, Int.reduceBNe, Int.reduceToNat, Nat.reduceSub, Nat.reduceDiv, Int.reduceNeg, Int.reduceAdd, Int.reduceSub, Int.reduceMul]; exact hit
    · show ((ho ++ [_]).set pg _)[o1.length]? = ho[o1.length]?
      rw [List.getElem?_set_ne (by omega), List.getElem?_append_left (by omega)]
    · show ((ho ++ [_]).set pg _)[lm]? = ho[lm]?
      rw [List.getElem?_set_ne hpl, List.getElem?_append_left (by omega)]
    · refine ⟨by simp only [go_sem, eqs hxE0, reduceIte, Nat.reduceEqDiff, Nat.reduceAdd, Nat.reduceMul, Nat.reduceLT, Nat.reduceLeDiff, Int.reduceLT, Int.reduceLE, Int.reduceEq, reduceCtorEq, Int.reduceBEq, Int.reduceBNe, Int.reduceToNat, Nat.reduceSub, Nat.reduceDiv, Int.reduceNeg, Int.reduceAdd, Int.reduceSub, Int.reduceMul, h1], splice cs' (k * 64) pgv, ?_, hL'.step hi hpl64 (by omega), ?_, fun l hl a b => ?_, h6, ?_⟩
      · show ((ho ++ [_]).set pg _)[pg]? = _
        rw [List.getElem?_set_self (by simp; omega)]
        unfold splice
        rw [hpl64, List.append_assoc]
      · show o1.length < ((ho ++ [_]).set pg _).length
        simp; omega
      · show ((ho ++ [_]).set pg _)[l]? = _
        rw [List.getElem?_set_ne (Ne.symm a), List.getElem?_append_left (by omega)]
        exact h5 l hl a b
      · show _ ≤ min (min hd' ho.length) pg
        omega
  · intro xi xm
    refine ⟨by simp only [go_sem, eqs hxE0, reduceIte, Nat.reduceEqDiff, Nat.reduceAdd, Nat.reduceMul, Nat.reduceLT, Nat.reduceLeDiff, Int.reduceLT, Int.reduceLE, Int.reduceEq, reduceCtorEq, Int.reduceBEq, Int.reduceBNe, Int.reduceToNat, Nat.reduceSub, Nat.reduceDiv, Int.reduceNeg, Int.reduceAdd, Int.reduceSub, Int.reduceMul, initS], cs, ?_, Laid.start es np cs, by simp, fun l hl a b => ?_, rfl, ?_⟩
    · show ((o1 ++ [AM.Obj.raw xi]).set lm _)[pg]? = _
      rw [List.getElem?_set_ne (Ne.symm hpl), List.getElem?_append_left (by omega)]; exact hP1
    · show ((o1 ++ [AM.Obj.raw xi]).set lm _)[l]? = _
      rw [List.getElem?_set_ne (Ne.symm b), List.getElem?_append_left hl]
    · show _ ≤ min db lm
      omega
  · rintro κ3 a3 w3 S3 ⟨ho, he, hd'⟩ done hn3 hs3 hd3 ⟨h1, cs', h2, hL, h4, h5, h6, h7⟩ hall ⟨x, hx⟩
    simp only at h2 h4 h5 h6 h7 hx
    subst h6
    obtain rfl : cs' = layPages es np cs := hL.fin hlen hes hap hall
    have gd : (ho.set lm (.map es))[dd]? = some (.cells .ex t 0 [.bool bc, .bool bl, .int .i64 bn, .slice pg 0 np 64, .map lm]) := by rw [List.getElem?_set_ne (Ne.symm hdl), h5 dd (by omega) hdp hdl]; exact hD1
    have gm : (ho.set lm (.map es))[lm]? = some (.map es) := List.getElem?_set_self (by omega)
    have hs3' : SR κ3 S3 Try.f16.ntmps a3.tmps (ho.set lm (.map es)).length := by rw [List.length_set]; exact hs3
    apply wp_seq
    refine wp_mono (exec_ok hcall0 mixed (ds := []) (h := ⟨ho.set lm (.map es), o.length, min hd' lm⟩) 1 (ac := .region [⟨some 31, .mv (.t 0), none⟩, ⟨some 32, .nck (.t 31), none⟩, ⟨some 33, .faddr 4 (.t 32), none⟩, ⟨some 34, .load none (.t 33), none⟩, ⟨none, .clearM (.t 34), none⟩] false) (by kernel_rfl) hn3.hr hs3' hd3 (by simp only [exec, go_sem, eqs hxE0, reduceIte, Nat.reduceEqDiff, Nat.reduceAdd, Nat.reduceMul, Nat.reduceLT, Nat.reduceLeDiff, Int.reduceLT, Int.reduceLE, Int.reduceEq, reduceCtorEq, Int.reduceBEq, Int.reduceBNe, Int.reduceToNat, Nat.reduceSub, Nat.reduceDiv, Int.reduceNeg, Int.reduceAdd, Int.reduceSub, Int.reduceMul, Heap.gets, Heap.sets, Heap.get, bytesA_length, bytesA_one, bytesA_plains, List.take_of_length_le, List.drop_of_length_le, Nat.add_zero, V.one, Nat.reduceLeDiff, List.all_cons, List.all_nil, ne_eq, not_false_eq_true, Nat.zero_le, h1, gd, gm]; rfl)) ?_
    rintro e4 a4 w4 ⟨κ4, hn4, hs4, hd4, rfl⟩
    apply wp_seq
    refine wp_mono (exec_ok hcall0 mixed (ds := []) 1 (ac := .region [⟨some 2, .mv (.k (.int .i64 0)), none⟩] false) (by kernel_rfl) hn4.hr hs4 hd4 (by simp only [exec, go_sem, eqs hxE0, reduceIte, Nat.reduceEqDiff, Nat.reduceAdd, Nat.reduceMul, Nat.reduceLT, Nat.reduceLeDiff, Int.reduceLT, Int.reduceLE, Int.reduceEq, reduceCtorEq, Int.reduceBEq, Int.reduceBNe, Int.reduceToNat, Nat.reduceSub, Nat.reduceDiv, Int.reduceNeg, Int.reduceAdd, Int.reduceSub, Int.reduceMul]; rfl)) ?_
    rintro e5 a5 w5 ⟨κ5, hn5, hs5, hd5, rfl⟩
    refine wp_ret ⟨.inr rfl, κ5, _, _, hn.trans (hn2.trans (hn3.trans (hn4.trans hn5))), hs5, hd5, [.int .i64 0], ?_, rfl, ?_⟩
    · simp only [go_sem, eqs hxE0, reduceIte, Nat.reduceEqDiff, Nat.reduceAdd, Nat.reduceMul, Nat.reduceLT, Nat.reduceLeDiff, Int.reduceLT, Int.reduceLE, Int.reduceEq, reduceCtorEq, Int.reduceBEq, Int.reduceBNe, Int.reduceToNat, Nat.reduceSub, Nat.reduceDiv, Int.reduceNeg, Int.reduceAdd, Int.reduceSub, Int.reduceMul]
    · have hlv : leave ⟨o, e, d⟩ ⟨(ho.set lm (.map es)).set lm (.map []), o.length, min (min hd' lm) lm⟩ (.int .i64 0) = some ⟨(o1.set pg (.cells ck t' 0 (layPages es np cs))).set lm (.map []), e, min d (min (min hd' lm) lm)⟩ := by
        unfold leave
        simp only
        rw [if_pos ⟨Nat.le_refl _, rfl⟩, if_neg (by omega), List.set_set, ← l1, take_set (by omega) (by omega) (by omega) h2 hpl h5]
      have key : ∀ hh : Heap, hh = ⟨(ho.set lm (.map es)).set lm (.map []), o.length, min (min hd' lm) lm⟩ → (((leave ⟨o, e, d⟩ hh (resV [.int .i64 0])).getD ⟨o, e, d⟩).o = (o1.set pg (.cells ck t' 0 (layPages es np cs))).set lm (.map []) ∧ ((leave ⟨o, e, d⟩ hh (resV [.int .i64 0])).getD ⟨o, e, d⟩).e = e ∧ min d (min dd (min pg lm)) ≤ ((leave ⟨o, e, d⟩ hh (resV [.int .i64 0])).getD ⟨o, e, d⟩).d) := by
        rintro _ rfl
        show ((leave _ _ (.int .i64 0)).getD _).o = _ ∧ _
        rw [show resV [V.int .i64 0] = .int .i64 0 from rfl, hlv]
        exact ⟨rfl, rfl, by show _ ≤ min d (min (min hd' lm) lm); omega⟩
      exact key _ rfl

theorem flush_down {o : List AM.Obj} {e d dd t pg np lm : Nat} {on down : Bool} {left : Int} (hD : o[dd]? = some (.cells .ex t 0 [.bool on, .bool down, .int .i64 left, .slice pg 0 np 64, .map lm])) (hB : burnB on down left = false) {ι : Map} {w : World} (hr : HR ι o w) :
    Calls Try.prog 16 (V.reals ι [.ptr dd 0]).toArray w fun e1 w' => ∃ κ, Nx ι ⟨o, e, d⟩ w κ ⟨o.set dd (.cells .ex t 0 (burnC on down left ++ [.slice pg 0 np 64, .map lm])), e, min d dd⟩ w' ∧
      OutOk κ (o.set dd (.cells .ex t 0 (burnC on down left ++ [.slice pg 0 np 64, .map lm]))).length e1 (.val (.int .i64 5)) := by
  have ldd := get_lt hD
  refine calls_body (h2 := ⟨o.set dd (.cells .ex t 0 (burnC on down left ++ [.slice pg 0 np 64, .map lm])), e, min d dd⟩) (h := ⟨o, e, d⟩) (args := [.ptr dd 0]) Try.func16 rfl rfl hr ⟨ldd, trivial⟩ (Nat.le_of_ble_eq_true rfl) fun a hs hd => ?_
  obtain ⟨vb, ohb, qb, rfl, db, hgb, hdb⟩ := burn_q (e := o.length) (d := o.length) hD
  rw [hB] at qb
  generalize ho1 : o.set dd (.cells .ex t 0 (burnC on down left ++ [.slice pg 0 np 64, .map lm])) = o1 at hgb ⊢
  have l1 : o1.length = o.length := by rw [← ho1]; simp
  apply wp_seq
  refine wp_mono (exec_ok hcall0 mixed (ds := []) (h := enter ⟨o, e, d⟩) 1 (ac := .region [⟨some 2, .mv (.k (.int .i64 0)), none⟩] false) (by kernel_rfl) hr hs hd (by simp only [exec, go_sem, eqs hxE0, reduceIte, Nat.reduceEqDiff, Nat.reduceAdd, Nat.reduceMul, Nat.reduceLT, Nat.reduceLeDiff, Int.reduceLT, Int.reduceLE, Int.reduceEq, reduceCtorEq, Int.reduceBEq, Int.reduceBNe, Int.reduceToNat, Nat.reduceSub, Nat.reduceDiv, Int.reduceNeg, Int.reduceAdd, Int.reduceSub, Int.reduceMul]; rfl)) ?_
  rintro e1 a1 w1 ⟨κ, hn, hs1, hd1, rfl⟩
  apply wp_seq
  apply wp_seq
  have ex1 : exec (Den FF E0) 1 R1 (fput (initS [.ptr dd 0]) 2 (.int .i64 0)) ⟨o, o.length, o.length⟩ = some (.norm, fput (fput (fput (fput (fput (fput (fput (fput (fput (fput (initS [.ptr dd 0]) 2 (.int .i64 0)) 5 (.ptr dd 0)) 6 (.bool false)) 7 (.bool false)) 8 (.ptr dd 0)) 9 (.ptr dd 0)) 10 (.ptr dd 0)) 11 (.bool false)) 12 (.bool true)) 13 (.bool true), ⟨o1, o.length, db⟩) := by
    simp only [exec, R1, go_sem, eqs hxE0, reduceIte, Nat.reduceEqDiff, Nat.reduceAdd, Nat.reduceMul, Nat.reduceLT, Nat.reduceLeDiff, Int.reduceLT, Int.reduceLE, Int.reduceEq, reduceCtorEq, Int.reduceBEq, Int.reduceBNe, Int.reduceToNat, Nat.reduceSub, Nat.reduceDiv, Int.reduceNeg, Int.reduceAdd, Int.reduceSub, Int.reduceMul, initS, qb]
    cases ohb with
    | none => simp only [Option.getD_none] at hgb; rw [hgb]; simp only [go_sem, eqs hxE0, reduceIte, Nat.reduceEqDiff, Nat.reduceAdd, Nat.reduceMul, Nat.reduceLT, Nat.reduceLeDiff, Int.reduceLT, Int.reduceLE, Int.reduceEq, reduceCtorEq, Int.reduceBEq, Int.reduceBNe, Int.reduceToNat, Nat.reduceSub, Nat.reduceDiv, Int.reduceNeg, Int.reduceAdd, Int.reduceSub, Int.reduceMul]
    | some hh => simp only [Option.getD_some] at hgb; rw [hgb]; simp only [go_sem, eqs hxE0, reduceIte, Nat.reduceEqDiff, Nat.reduceAdd, Nat.reduceMul, Nat.reduceLT, Nat.reduceLeDiff, Int.reduceLT, Int.reduceLE, Int.reduceEq, reduceCtorEq, Int.reduceBEq, Int.reduceBNe, Int.reduceToNat, Nat.reduceSub, Nat.reduceDiv, Int.reduceNeg, Int.reduceAdd, Int.reduceSub, Int.reduceMul]
  refine wp_mono (exec_ok hcall0 mixed (ds := []) 1 (ac := R1) (by kernel_rfl) hn.hr hs1 hd1 ex1) ?_
  rintro e2 a2 w2 ⟨κ2, hn2, hs2, hd2, rfl⟩
  refine wp_cond (t := true) (by have := hs2.val 13; simp only [go_sem, eqs hxE0, reduceIte, Nat.reduceEqDiff, Nat.reduceAdd, Nat.reduceMul, Nat.reduceLT, Nat.reduceLeDiff, Int.reduceLT, Int.reduceLE, Int.reduceEq, reduceCtorEq, Int.reduceBEq, Int.reduceBNe, Int.reduceToNat, Nat.reduceSub, Nat.reduceDiv, Int.reduceNeg, Int.reduceAdd, Int.reduceSub, Int.reduceMul, V.real] at this; exact this) ?_
  apply wp_seq
  refine wp_mono (exec_ok hcall0 mixed (ds := []) 1 (ac := .region [⟨some 2, .mv (.k (.int .i64 5)), none⟩] false) (by kernel_rfl) hn2.hr hs2 hd2 (by simp only [exec, go_sem, eqs hxE0, reduceIte, Nat.reduceEqDiff, Nat.reduceAdd, Nat.reduceMul, Nat.reduceLT, Nat.reduceLeDiff, Int.reduceLT, Int.reduceLE, Int.reduceEq, reduceCtorEq, Int.reduceBEq, Int.reduceBNe, Int.reduceToNat, Nat.reduceSub, Nat.reduceDiv, Int.reduceNeg, Int.reduceAdd, Int.reduceSub, Int.reduceMul]; rfl)) ?_
  rintro e3 a3 w3 ⟨κ3, hn3, hs3, hd3, rfl⟩
  refine wp_ret ⟨.inr rfl, κ3, _, ⟨o1, o.length, min db dd⟩, (hn.trans (hn2.trans hn3)).low (Nat.min_le_left _ _), hs3, hd3, [.int .i64 5], ?_, rfl, ?_⟩
  · simp only [go_sem, eqs hxE0, reduceIte, Nat.reduceEqDiff, Nat.reduceAdd, Nat.reduceMul, Nat.reduceLT, Nat.reduceLeDiff, Int.reduceLT, Int.reduceLE, Int.reduceEq, reduceCtorEq, Int.reduceBEq, Int.reduceBNe, Int.reduceToNat, Nat.reduceSub, Nat.reduceDiv, Int.reduceNeg, Int.reduceAdd, Int.reduceSub, Int.reduceMul]
  · show ((leave _ _ (.int .i64 5)).getD _).o = _ ∧ ((leave _ _ (.int .i64 5)).getD _).e = _ ∧ _ ≤ ((leave _ _ (.int .i64 5)).getD _).d
    unfold leave
    simp only
    rw [if_pos ⟨Nat.le_refl _, rfl⟩, if_neg (by omega), ← l1, List.take_of_length_le (Nat.le_refl _)]
    exact ⟨rfl, rfl, by show _ ≤ min d (min db dd); omega⟩

/-- Flush by hand is so. -/
theorem flushOk (args : List V) (h : Heap) (out : Out) (oh : Option Heap) (he : flushG args h = some (out, oh)) : callOk Try.prog 16 = true ∧ ∀ ι w, HR ι h.o w → V.scs h.o.length args →
    Calls Try.prog 16 (V.reals ι args).toArray w fun e w' => ∃ κ, Nx ι h w κ (oh.getD h) w' ∧ OutOk κ (oh.getD h).o.length e out := by
  refine ⟨by kernel_rfl, fun ι w hr hsc => ?_⟩
  obtain ⟨o, e, d⟩ := h
  unfold flushG at he
  split at he
  · cases he
    exact flush_nil hr
  · simp only at he
    split at he
    · rename_i dd t on down left pg np lm hD
      split at he
      · rename_i hB
        cases he
        exact flush_down hD hB hr
      · rename_i hB
        split at he
        · rename_i ck t' cs es hP hM
          split at he
          · rename_i hc
            obtain ⟨h1, h2, h3, h4, h5⟩ := hc
            cases he
            exact flush_go hD (by simpa using hB) hP hM h1 h2 h3 h4 h5 hr
          · cases he
        · cases he
    · cases he
  · cases he
end Go.Proofs.Ytfbkeieoeagkdaa

/- Disk: the sorted keys of a map: the contracts of the kit's shelf laid at this program, written out by the kit's tool (lay-plain). -/
namespace Go.Proofs
open Go.Shelf
def Try.keysA_ren : Go.Shelf.Ren := ⟨fun | 10 => 69 | n => n, fun | 33 => 122 | 23 => 29 | 0 => 0 | 4 => 4 | 26 => 3 | 3 => 31 | n => n, fun | n => n⟩
theorem Try.keysA : Go.Proofs.SlLaysZI.n10 Try.prog Try.keysA_ren := {
  mixed := by kernel_rfl
  f10 := ⟨Try.f69.name, by decide, Try.func69.trans (congrArg some (by kernel_rfl))⟩
  t0 := Try.underlying0
  a0 := Try.isAgg0
  z0 := Try.sizeOf0
  v0 := Try.zeroValue0
  t4 := Try.underlying4
  a4 := Try.isAgg4
  z4 := Try.sizeOf4
  v4 := Try.zeroValue4
  t23 := Try.underlying29
  a23 := Try.isAgg29
  z23 := Try.sizeOf29
  v23 := Try.zeroValue29
  t26 := Try.underlying3
  a26 := Try.isAgg3
  z26 := Try.sizeOf3
  v26 := Try.zeroValue3
  t33 := Try.underlying122
  a33 := Try.isAgg122
  z33 := Try.sizeOf122
  v33 := Try.zeroValue122 }
def Try.sortedA_ren : Go.Shelf.Ren := ⟨fun | 6 => 50 | 8 => 67 | 9 => 68 | 11 => 83 | 13 => 85 | 12 => 84 | 23 => 101 | 24 => 102 | 14 => 92 | 15 => 93 | 16 => 94 | 17 => 95 | 18 => 96 | 19 => 97 | 20 => 98 | 21 => 99 | 22 => 100 | 25 => 104 | 26 => 105 | 27 => 106 | 28 => 107 | 29 => 108 | 30 => 109 | 31 => 110 | n => n, fun | 26 => 3 | 28 => 97 | 24 => 58 | 0 => 0 | 3 => 3 | 37 => 137 | 48 => 101 | 50 => 153 | 4 => 4 | 40 => 145 | 39 => 144 | 45 => 149 | 5 => 5 | 9 => 9 | 51 => 156 | 55 => 160 | 57 => 162 | 58 => 163 | 33 => 122 | n => n, fun | n => n⟩
theorem Try.sortedA : Go.Proofs.SlLaysZI.n6 Try.prog Try.sortedA_ren := {
  mixed := by kernel_rfl
  f6 := ⟨Try.f50.name, by decide, Try.func50.trans (congrArg some (by kernel_rfl))⟩
  f8 := ⟨Try.f67.name, by decide, Try.func67.trans (congrArg some (by kernel_rfl))⟩
  f11 := ⟨Try.f83.name, by decide, Try.func83.trans (congrArg some (by kernel_rfl))⟩
  t0 := Try.underlying0
  a0 := Try.isAgg0
  z0 := Try.sizeOf0
  v0 := Try.zeroValue0
  t24 := Try.underlying58
  a24 := Try.isAgg58
  z24 := Try.sizeOf58
  v24 := Try.zeroValue58
  t26 := Try.underlying3
  a26 := Try.isAgg3
  z26 := Try.sizeOf3
  v26 := Try.zeroValue3
  t28 := Try.underlying97
  a28 := Try.isAgg97
  z28 := Try.sizeOf97
  v28 := Try.zeroValue97
  i26 := by kernel_rfl }
def Try.sortA_ren : Go.Shelf.Ren := ⟨fun | 5 => 68 | 8 => 85 | 7 => 84 | 19 => 101 | 20 => 102 | 10 => 92 | 11 => 93 | 12 => 94 | 13 => 95 | 14 => 96 | 15 => 97 | 16 => 98 | 17 => 99 | 18 => 100 | 30 => 104 | 31 => 105 | 32 => 106 | 33 => 107 | 34 => 108 | 35 => 109 | 40 => 110 | n => n, fun | 23 => 58 | 25 => 3 | 3 => 3 | 32 => 137 | 22 => 58 | 0 => 0 | 44 => 101 | 46 => 153 | 4 => 4 | 36 => 145 | 35 => 144 | 41 => 149 | 5 => 5 | 9 => 9 | 53 => 156 | 57 => 160 | 63 => 162 | 64 => 163 | n => n, fun | n => n⟩
theorem Try.sortA : Go.Proofs.SlLaysM.n5 Try.prog Try.sortA_ren := {
  mixed := by kernel_rfl
  f5 := ⟨Try.f68.name, by decide, Try.func68.trans (congrArg some (by kernel_rfl))⟩
  f7 := ⟨Try.f84.name, by decide, Try.func84.trans (congrArg some (by kernel_rfl))⟩
  f8 := Try.func85.trans (congrArg some (by kernel_rfl))
  f10 := ⟨Try.f92.name, by decide, Try.func92.trans (congrArg some (by kernel_rfl))⟩
  f11 := ⟨Try.f93.name, by decide, Try.func93.trans (congrArg some (by kernel_rfl))⟩
  f12 := ⟨Try.f94.name, by decide, Try.func94.trans (congrArg some (by kernel_rfl))⟩
  f13 := ⟨Try.f95.name, by decide, Try.func95.trans (congrArg some (by kernel_rfl))⟩
  f14 := ⟨Try.f96.name, by decide, Try.func96.trans (congrArg some (by kernel_rfl))⟩
  f15 := ⟨Try.f97.name, by decide, Try.func97.trans (congrArg some (by kernel_rfl))⟩
  f16 := ⟨Try.f98.name, by decide, Try.func98.trans (congrArg some (by kernel_rfl))⟩
  f17 := ⟨Try.f99.name, by decide, Try.func99.trans (congrArg some (by kernel_rfl))⟩
  f18 := ⟨Try.f100.name, by decide, Try.func100.trans (congrArg some (by kernel_rfl))⟩
  f19 := Try.func101.trans (congrArg some (by kernel_rfl))
  f20 := Try.func102.trans (congrArg some (by kernel_rfl))
  f30 := ⟨Try.f104.name, by decide, Try.func104.trans (congrArg some (by kernel_rfl))⟩
  f31 := Try.func105.trans (congrArg some (by kernel_rfl))
  f32 := Try.func106.trans (congrArg some (by kernel_rfl))
  f33 := ⟨Try.f107.name, by decide, Try.func107.trans (congrArg some (by kernel_rfl))⟩
  f34 := ⟨Try.f108.name, by decide, Try.func108.trans (congrArg some (by kernel_rfl))⟩
  f35 := ⟨Try.f109.name, by decide, Try.func109.trans (congrArg some (by kernel_rfl))⟩
  f40 := ⟨Try.f110.name, by decide, Try.func110.trans (congrArg some (by kernel_rfl))⟩
  t0 := Try.underlying0
  a0 := Try.isAgg0
  z0 := Try.sizeOf0
  v0 := Try.zeroValue0
  t3 := Try.underlying3
  a3 := Try.isAgg3
  z3 := Try.sizeOf3
  v3 := Try.zeroValue3
  t4 := Try.underlying4
  a4 := Try.isAgg4
  z4 := Try.sizeOf4
  v4 := Try.zeroValue4
  t5 := Try.underlying5
  a5 := Try.isAgg5
  z5 := Try.sizeOf5
  v5 := Try.zeroValue5
  t9 := Try.underlying9
  a9 := Try.isAgg9
  z9 := Try.sizeOf9
  v9 := Try.zeroValue9
  t22 := Try.underlying58
  a22 := Try.isAgg58
  z22 := Try.sizeOf58
  v22 := Try.zeroValue58
  t23 := Try.underlying58
  a23 := Try.isAgg58
  z23 := Try.sizeOf58
  v23 := Try.zeroValue58
  t25 := Try.underlying3
  a25 := Try.isAgg3
  z25 := Try.sizeOf3
  v25 := Try.zeroValue3
  t32 := Try.underlying137
  a32 := Try.isAgg137
  z32 := Try.sizeOf137
  v32 := Try.zeroValue137
  t35 := Try.underlying144
  a35 := Try.isAgg144
  z35 := Try.sizeOf144
  v35 := Try.zeroValue144
  t36 := Try.underlying145
  a36 := Try.isAgg145
  z36 := Try.sizeOf145
  v36 := Try.zeroValue145
  t41 := Try.underlying149
  a41 := Try.isAgg149
  z41 := Try.sizeOf149
  v41 := Try.zeroValue149
  t44 := Try.underlying101
  a44 := Try.isAgg101
  z44 := Try.sizeOf101
  v44 := Try.zeroValue101
  t46 := Try.underlying153
  a46 := Try.isAgg153
  z46 := Try.sizeOf153
  v46 := Try.zeroValue153
  t53 := Try.underlying156
  a53 := Try.isAgg156
  z53 := Try.sizeOf156
  v53 := Try.zeroValue156
  t57 := Try.underlying160
  a57 := Try.isAgg160
  z57 := Try.sizeOf160
  v57 := Try.zeroValue160
  t63 := Try.underlying162
  a63 := Try.isAgg162
  z63 := Try.sizeOf162
  v63 := Try.zeroValue162
  t64 := Try.underlying163
  a64 := Try.isAgg163
  z64 := Try.sizeOf163
  v64 := Try.zeroValue163 }
end Go.Proofs

/- Disk: the sorted keys of a map, by hand. -/
namespace Go.Proofs.Ytfbkeieoeagkdaa
open Go AM
open Go.RowKit Go.Maps Go.Sort Go.Shelf Go.WideShapes
set_option linter.unusedSimpArgs false
set_option linter.unusedVariables false
set_option maxRecDepth 100000

def keysOf : List (V × V) → Option (List Int)
  | [] => some []
  | (.int .i64 k, _) :: r => if -9223372036854775808 ≤ k ∧ k ≤ 9223372036854775807 then (keysOf r).map (k :: ·) else none
  | _ => none
def insI (x : Int) : List Int → List Int
  | [] => [x]
  | y :: r => if x ≤ y then x :: y :: r else y :: insI x r
def isort : List Int → List Int
  | [] => []
  | x :: r => insI x (isort r)

theorem insI_perm (x : Int) : ∀ l, (insI x l).Perm (x :: l)
  | [] => List.Perm.refl _
  | y :: r => by
    unfold insI
    split
    · exact List.Perm.refl _
    · exact ((insI_perm x r).cons y).trans (.swap x y r)
theorem isort_perm : ∀ l, (isort l).Perm l
  | [] => List.Perm.refl _
  | x :: r => (insI_perm x _).trans ((isort_perm r).cons x)
theorem insI_sorted (x : Int) : ∀ {l : List Int}, l.Pairwise (· ≤ ·) → (insI x l).Pairwise (· ≤ ·)
  | [], h => List.pairwise_singleton _ _
  | y :: r, h => by
    obtain ⟨h1, h2⟩ := List.pairwise_cons.1 h
    unfold insI
    split
    · rename_i hxy
      exact List.pairwise_cons.2 ⟨fun z hz => by
        rcases List.mem_cons.1 hz with rfl | hz
        · exact hxy
        · exact Int.le_trans hxy (h1 z hz), h⟩
    · rename_i hxy
      refine List.pairwise_cons.2 ⟨fun z hz => ?_, insI_sorted x h2⟩
      rcases List.mem_cons.1 ((insI_perm x r).mem_iff.1 hz) with rfl | hz
      · omega
      · exact h1 z hz
theorem isort_sorted : ∀ l, (isort l).Pairwise (· ≤ ·)
  | [] => List.Pairwise.nil
  | x :: r => insI_sorted x (isort_sorted r)
theorem merge_isort {ss ks : List Int} (h : ss.Perm ks) : ss.mergeSort (fun x y => decide (x ≤ y)) = isort ks := by
  have tr : ∀ a b c : Int, decide (a ≤ b) = true → decide (b ≤ c) = true → decide (a ≤ c) = true := fun a b c h1 h2 => by simp only [decide_eq_true_eq] at *; exact Int.le_trans h1 h2
  have to : ∀ a b : Int, (decide (a ≤ b) || decide (b ≤ a)) = true := fun a b => by simp only [Bool.or_eq_true, decide_eq_true_eq]; exact Int.le_total a b
  refine List.Perm.eq_of_pairwise (le := fun a b => decide (a ≤ b) = true) (fun a b _ _ h1 h2 => ?_) (List.pairwise_mergeSort tr to ss) ((isort_sorted ks).imp fun h => by simpa using h) (((List.mergeSort_perm ss _).trans h).trans (isort_perm ks).symm)
  simp only [decide_eq_true_eq] at h1 h2
  exact Int.le_antisymm h1 h2

theorem keysOf_map : ∀ {es : List (V × V)} {ks : List Int}, keysOf es = some ks → es.map (·.1) = ks.map (V.int .i64) ∧ ∀ k ∈ ks, -9223372036854775808 ≤ k ∧ k ≤ 9223372036854775807
  | [], ks, h => by simp only [keysOf, Option.some.injEq] at h; subst h; exact ⟨rfl, by simp⟩
  | (.int .i64 k, v) :: r, ks, h => by
    simp only [keysOf] at h
    split at h
    · rename_i hk
      simp only [Option.map_eq_some_iff] at h
      obtain ⟨l, hl, rfl⟩ := h
      obtain ⟨h1, h2⟩ := keysOf_map hl
      refine ⟨by simp [h1], fun x hx => ?_⟩
      rcases List.mem_cons.1 hx with rfl | hx
      · exact hk
      · exact h2 x hx
    · cases h

/-- A new object in a block of a world in which nothing else has turned. -/
theorem nx_at {ι : Map} {h : Heap} {w w' : World} (hr : HR ι h.o w) (hb : Below w.heap.size w w') (o : AM.Obj) (p : AM.Place) (hp : w.heap.size ≤ p.blk) (hor : OR (ι.upd h.o.length p) w' p o) (hsc : o.sc (h.o.length + 1)) (how : o.own = true) : Nx ι h w (ι.upd h.o.length p) ⟨h.o ++ [o], h.e, h.d⟩ w' := by
  have ag := Map.agree_upd ι h.o.length p
  have look : ∀ (k : Nat) (y : AM.Obj), (h.o ++ [o])[k]? = some y → (k = h.o.length ∧ y = o) ∨ (k < h.o.length ∧ h.o[k]? = some y) := by
    intro k y hy
    rw [List.getElem?_append] at hy
    split at hy
    · exact .inr ⟨by assumption, hy⟩
    · have hk : k - h.o.length = 0 := by
        rcases Nat.eq_zero_or_pos (k - h.o.length) with h0 | h0
        · exact h0
        · rw [List.getElem?_eq_none (by simp; omega)] at hy; simp at hy
      rw [hk] at hy
      simp at hy
      exact .inl ⟨by omega, hy.symm⟩
  have old : ∀ k, k < h.o.length → (ι.upd h.o.length p) k = ι k := fun k hk => ag k hk
  have oldLt : ∀ (k : Nat) (y : AM.Obj), h.o[k]? = some y → y.live = true → (ι k).blk < w.heap.size := fun k y hy hl => (hr.obj k y hy).lt hl
  refine ⟨⟨fun k y hy => ?_, fun k k' y y' hkk hy hy' hyo hyl => ?_, fun k y hy => ?_⟩, ag, by simp, ⟨hb.os, hb.tape, hb.output, hb.size, fun b hb' _ => hb.block b hb', fun b hb' hb2 hc => ?_⟩, fun k n hkn hke hc y hy => ?_, ⟨Nat.le_refl _, Nat.le_refl _⟩, fun k hk _ => List.getElem?_append_left hk, fun k y hy hyl hyo => ?_⟩
  · rcases look k y hy with ⟨rfl, rfl⟩ | ⟨hk, hy'⟩
    · rw [Map.upd_same]; exact hor
    · rw [old k hk]
      have h1 := hr.obj k y hy'
      cases hlive : y.live with
      | false => cases y <;> simp_all [Obj.live, OR]
      | true => exact (h1.of_block (hb.block _ (oldLt k y hy' hlive))).agree ag (hr.sc k y hy')
  · rcases look k y hy with ⟨rfl, rfl⟩ | ⟨hk, hyy⟩ <;> rcases look k' y' hy' with ⟨rfl, rfl⟩ | ⟨hk', hyy'⟩
    · exact absurd rfl hkk
    · rw [Map.upd_same, old k' hk']
      have := oldLt k' y' hyy' hyl
      omega
    · rw [Map.upd_same, old k hk]
      have := oldLt k y hyy (Obj.live_of_own hyo)
      omega
    · rw [old k hk, old k' hk']
      exact hr.apart k k' y y' hkk hyy hyy' hyo hyl
  · simp only [List.length_append, List.length_cons, List.length_nil]
    rcases look k y hy with ⟨rfl, rfl⟩ | ⟨hk, hy'⟩
    · exact hsc
    · exact Obj.sc_mono (by omega) (hr.sc k y hy')
  · obtain ⟨k, y, hy, hyo, hb2'⟩ := hc
    rcases look k y hy with ⟨rfl, rfl⟩ | ⟨hk, hy'⟩
    · rw [Map.upd_same] at hb2'; omega
    · rw [old k hk] at hb2'
      exact hb2 ⟨k, y, hy', hyo, hb2'⟩
  · rcases look k y hy with ⟨rfl, rfl⟩ | ⟨hk', hy'⟩
    · omega
    · exact hc y hy'
  · rcases look k y hy with ⟨rfl, rfl⟩ | ⟨hk', hy'⟩
    · rw [how] at hyo; cases hyo
    · exact hy'

def sortedG : List V → Heap → Option (Out × Option Heap)
  | [.fn 69 [] [.ptr b 0]], h => match h.o[b]? with
    | some (.cells .ex _ 0 [.map l]) => match h.o[l]? with
      | some (.map es) => match keysOf es with
        | some ks => if apart es = true ∧ es.length ≤ 1000000 then
            (if ks = [] then some (.val .nils, none) else some (.val (.slice h.o.length 0 ks.length 1), some ⟨h.o ++ [.cells .gr 3 0 ((isort ks).map (V.int .i64))], h.e, h.d⟩))
          else none
        | none => none
      | _ => none
    | _ => none
  | _, _ => none

theorem sorts (m : Nat) : AnyZI.SortsIn Try.prog Try.sortedA_ren Fence.wide m :=
  ⟨fun blk off cap ss W hH hblk hsz => callsIn_wide.2 (AnyM.slices_Sort_int Try.sortA blk off cap ss W hH hblk hsz),
   fun p cap W => callsIn_wide.2 (AnyM.slices_Sort_int_none Try.sortA p cap W)⟩

set_option maxHeartbeats 2000000 in
theorem sorted_go {o : List AM.Obj} {e d b l t : Nat} {es : List (V × V)} {ks : List Int} (hb : o[b]? = some (.cells .ex t 0 [.map l])) (hl : o[l]? = some (.map es)) (hk : keysOf es = some ks) (hap : apart es = true) (hlen : es.length ≤ 1000000) {ι : Map} {w : World} (hr : HR ι o w) :
    Calls Try.prog 50 (V.reals ι [.fn 69 [] [.ptr b 0]]).toArray w fun e1 w' => ∃ (v : Value) (ss : List Int), e1 = .returned v ∧ ss.Perm ks ∧
      w'.ownsRow w.heap.size 3 1 v ss.length ((isort ks).map encZ) ∧ (v = .slice none 0 0 ↔ ss = []) ∧ Below w.heap.size w w' := by
  obtain ⟨hm, hrange⟩ := keysOf_map hk
  obtain ⟨arr, t', lo, hi, hbb, hsz, _, hcell, hex, hro⟩ := hr.obj b _ hb
  obtain ⟨hbase, _⟩ := hro (by decide)
  obtain ⟨ents, c, hmb, hents, hborn, hnd⟩ := hr.obj l _ hl
  have hk3 : Try.prog.underlying 3 = some (.int .i64) := Try.underlying3
  have hents1 : ents.toList.map (·.key) = ks.map (Value.int .i64) := by
    have h1 := congrArg (List.map Prod.fst) hents
    have h2 := congrArg (List.map (V.real ι)) hm
    simp only [List.map_map] at h1 h2
    have e1 : (Prod.fst ∘ fun e : MapEntry => (e.key, e.val)) = (·.key) := rfl
    have e2 : (Prod.fst ∘ fun e : V × V => (e.1.real ι, e.2.real ι)) = (V.real ι ∘ fun x => x.1) := rfl
    have e3 : (V.real ι ∘ V.int .i64) = Value.int .i64 := rfl
    rw [e1, e2, h2, e3] at h1
    exact h1
  have hks : ks.Nodup := by
    rw [List.nodup_iff_pairwise_ne, List.pairwise_iff_getElem]
    intro i j hi hj hij heq
    have hle : ks.length = es.length := by have := congrArg List.length hm; simpa using this.symm
    have g1 : (es.map (·.1))[i]? = some (V.int .i64 ks[i]) := by rw [hm, List.getElem?_map, List.getElem?_eq_getElem hi]; rfl
    have g2 : (es.map (·.1))[j]? = some (V.int .i64 ks[j]) := by rw [hm, List.getElem?_map, List.getElem?_eq_getElem hj]; rfl
    rw [List.getElem?_map, Option.map_eq_some_iff] at g1 g2
    obtain ⟨a, ha, ha1⟩ := g1
    obtain ⟨c, hc, hc1⟩ := g2
    have := apart_key hap ha hc ⟨.i64, ks[i], ha1, by rw [hc1, heq]⟩
    omega
  have hwf : ∀ k ∈ ks, (Lit.int .i64 k).wf = true := fun k hk => by
    have := hrange k hk
    have e1 : IntKind.i64.min = -9223372036854775808 := by decide
    have e2 : IntKind.i64.max = 9223372036854775807 := by decide
    simp only [Lit.wf, e1, e2, Bool.and_eq_true, decide_eq_true_eq]
    exact this
  have hkey : ∀ x ∈ ents.toList, ∃ k ∈ ks, x.key = .int .i64 k := fun x hx => by
    have : x.key ∈ ents.toList.map (·.key) := List.mem_map_of_mem hx
    rw [hents1] at this
    obtain ⟨k, hk, he⟩ := List.mem_map.1 this
    exact ⟨k, hk, he.symm⟩
  let R : Value → Option (DataW Unit × List MemPlace) := fun _ => some (.nil, [])
  have hrd : ∀ x ∈ ents.toList, ∀ k, x.key = .int .i64 k → k ∈ ks → Go.WideElems.rd Try.prog 3 R x = some (.int .i64 k, .nil) := fun x hx k he hkm => by
    unfold Go.WideElems.rd
    rw [he, keyOf_int_mk hk3 (hwf k hkm)]
    rfl
  have hfit : Go.WideElems.Fit Try.prog 3 R ents c := by
    refine ⟨?_, ⟨hborn, hnd, ?_⟩, fun x hx => ?_⟩
    · have : ents.size = es.length := by have := congrArg List.length hents; simpa using this
      rw [this]
      exact Nat.le_trans hlen (by decide)
    · rw [hents1]
      exact List.pairwise_map.2 (hks.imp fun hne e => hne (by simpa using e))
    · obtain ⟨k, hkm, he⟩ := hkey x hx
      exact ⟨_, hrd x hx k he hkm⟩
  let D0 : DataW Unit := .map ((ents.toList.map (Go.WideElems.rg Try.prog 3 R)).foldr DataW.insert [])
  have hown : w.ownsMap Try.prog 3 R (ι l).blk ents.size D0 := ⟨ents, c, hmb, hfit, Nat.le_refl _, rfl⟩
  have hperm : (intKeys D0).Perm ks := by
    show (List.map (fun p : Lit × DataW Unit => Go.intOf p.1) _).Perm ks
    refine ((sorted_perm _).map _).trans ?_
    rw [List.map_map]
    have : ents.toList.map ((fun p : Lit × DataW Unit => Go.intOf p.1) ∘ Go.WideElems.rg Try.prog 3 R) = ks := by
      have h1 : ents.toList.map (fun x => (Value.int .i64 (Go.intOf (Go.WideElems.rg Try.prog 3 R x).1))) = ents.toList.map (·.key) := List.map_congr_left fun x hx => by
        obtain ⟨k, hkm, he⟩ := hkey x hx
        rw [Go.WideElems.rg_of (hrd x hx k he hkm), he]; rfl
      rw [hents1] at h1
      have h2 : (ents.toList.map ((fun p : Lit × DataW Unit => Go.intOf p.1) ∘ Go.WideElems.rg Try.prog 3 R)).map (Value.int .i64) = ks.map (Value.int .i64) := by
        rw [List.map_map]; exact h1
      exact (List.map_inj_right (fun x y h => by simpa using h)).1 h2
    rw [this]
  have hsize : Maps.size D0 = ents.size := by
    show (List.foldr DataW.insert [] _).length = _
    rw [(sorted_perm _).length_eq, List.length_map, Array.length_toList]
  have hes : ents.size ≤ 1000000 := by
    have : ents.size = es.length := by have := congrArg List.length hents; simpa using this
    omega
  have hbl : (ι b).blk < w.heap.size := (Array.getElem?_eq_some_iff.1 hbb).1
  have hcellb : w.cell? ⟨(ι b).blk, 0, none⟩ = some (.map (some (ι l).blk)) := by
    have := hcell 0 (.map l) rfl
    rw [hbase] at this
    simp only [World.cell?, hbb]
    simpa [V.real] using this
  have hseq : SeqGives Fence.wide 2 Try.prog 69 #[.pointer (some ⟨(ι b).blk, 0, none⟩)] encZ (fun ss => ss.Perm (intKeys D0)) (Maps.size D0) w :=
    AnyZI.keys_gives (ρ := Try.keysA_ren) Try.keysA Fence.wide _ trivial rfl (by omega) (ι b).blk (ι l).blk ents.size D0 w hbl hcellb hown
  have cS := AnyZI.sorted_in Try.sortedA Fence.wide 5 trivial trivial trivial trivial rfl (by omega) (sorts _) (enters_of Try.func68 (by kernel_rfl) rfl) 69 #[.pointer (some ⟨(ι b).blk, 0, none⟩)] trivial (enters_of Try.func69 (by kernel_rfl) rfl) _ _ (by rw [hsize]; exact Nat.le_trans hes (by decide)) (by rw [hsize]; omega) w hseq
  have hargs : (V.reals ι [.fn 69 [] [.ptr b 0]]).toArray = #[.func (.func 69) #[] #[.pointer (some ⟨(ι b).blk, 0, none⟩)]] := by
    simp [V.reals, V.real, hbase]
  rw [hargs]
  refine (callsIn_wide.1 cS).mono ?_
  rintro e1 w' ⟨v, ss, he, hS, hrow, hnil, hbel⟩
  exact ⟨v, ss, he, hS.trans hperm, by rw [← merge_isort (hS.trans hperm)]; exact hrow, hnil, hbel⟩

theorem sortedOk (args : List V) (h : Heap) (out : Out) (oh : Option Heap) (he : sortedG args h = some (out, oh)) : callOk Try.prog 50 = true ∧ ∀ ι w, HR ι h.o w → V.scs h.o.length args →
    Calls Try.prog 50 (V.reals ι args).toArray w fun e w' => ∃ κ, Nx ι h w κ (oh.getD h) w' ∧ OutOk κ (oh.getD h).o.length e out := by
  refine ⟨by kernel_rfl, fun ι w hr hsc => ?_⟩
  obtain ⟨o, e, d⟩ := h
  unfold sortedG at he
  split at he
  · simp only at he
    split at he
    · rename_i b t l hb
      split at he
      · rename_i es hl
        split at he
        · rename_i ks hk
          split at he
          · rename_i hc
            refine (sorted_go (e := e) (d := d) hb hl hk hc.1 hc.2 hr).mono ?_
            rintro e1 w' ⟨v, ss, rfl, hperm, hrow, hnil, hbel⟩
            split at he
            · rename_i h0
              subst h0
              obtain rfl := List.Perm.eq_nil hperm
              cases he
              refine ⟨ι, keep_nx hr ⟨hbel.os, hbel.output, hbel.size, hbel.block⟩ hbel.tape, ?_, trivial⟩
              rw [hnil.2 rfl]; rfl
            · rename_i h0
              cases he
              have hss : ss ≠ [] := fun h => h0 (by subst h; exact List.Perm.nil_eq hperm |>.symm)
              obtain ⟨hl0, ⟨_, h1⟩ | ⟨g, cap, cur, rfl, hg, hgb, hcap, hcm, hcs, htk⟩⟩ := hrow
              · exact absurd (List.eq_nil_of_length_eq_zero h1) hss
              have hlk : ss.length = ks.length := hperm.length_eq
              have hil : (isort ks).length = ks.length := (isort_perm ks).length_eq
              refine ⟨ι.upd o.length ⟨g, 0, cap⟩, nx_at hr hbel _ ⟨g, 0, cap⟩ hg ?_ ?_ rfl, ?_, ?_⟩
              · refine ⟨cur, 3, 0, 0, hgb, by simpa using Nat.le_of_eq hcs.symm, by simp only [List.length_map, hil]; omega, fun i c hi => ?_, fun h => (by cases h), fun _ => ⟨rfl, rfl, Nat.zero_le _, fun i _ _ h => (by omega)⟩⟩
                have hi2 : i < ss.length := by have := (List.getElem?_eq_some_iff.1 hi).1; simp only [List.length_map, hil] at this; omega
                have h2 := congrArg (fun l => l[i]?) htk
                simp only [Nat.mul_one, List.getElem?_take, if_pos hi2, List.getElem?_map] at h2
                rw [List.getElem?_map, Option.map_eq_some_iff] at hi
                obtain ⟨x, hx, rfl⟩ := hi
                rw [hx] at h2
                show cur[0 + i]? = some (encZ x)
                rw [Nat.zero_add]
                simpa using h2
              · refine (V.scs_iff _ _).2 fun v hv => ?_
                obtain ⟨x, _, rfl⟩ := List.mem_map.1 hv
                trivial
              · simp [V.real, Map.upd_same, hlk]
              · show o.length < (o ++ _).length
                simp
          · cases he
        · cases he
      · cases he
    · cases he
  · cases he
end Go.Proofs.Ytfbkeieoeagkdaa

/- Disk: the functions by hand in one table; the document's example. -/
namespace Go.Proofs.Ytfbkeieoeagkdaa
open Go AM
set_option linter.unusedSimpArgs false
set_option linter.unusedVariables false
set_option maxRecDepth 100000

def t1 : HandT
  | 50 => some sortedG
  | 16 => some flushG
  | _ => none
theorem ok1 : HandOk Try.prog t1 := by
  intro f k args h out oh hk he
  unfold t1 at hk
  split at hk
  · cases hk; exact sortedOk args h out oh he
  · cases hk; exact flushOk args h out oh he
  · cases hk
def g1 : Nat → Option Ans := fun _ => none
def E1 : ExtF := extH g1 t1
theorem hxE1 : ExtMono E1 := extH_mono g1 t1
theorem plE1 : ExtSound Try.prog (plainExt g1) := plain0_sound
theorem sndE1 : ExtSound Try.prog E1 := extH_sound plE1 ok1
theorem E1_none {f : Nat} (h : g1 f = none) (h' : t1 f = none := by rfl) (c : CallF) : E1 c f = none := extH_none h h' c
def tAwake : Ans
  | [] => some (.bool true)
  | _ => none
theorem okAwake03 : SpOk FF E1 11 tAwake := by
  intro args v h hpl
  unfold tAwake at h
  split at h
  · cases h
    exact ⟨rfl, none, Den_of hxE1 (k := 100) (by kernel_rfl)⟩
  · cases h
def g2 : Nat → Option Ans := addG g1 [(11, tAwake)]
def E2 : ExtF := extH g2 t1
theorem hxE2 : ExtMono E2 := extH_mono g2 t1
theorem plE2 : ExtSound Try.prog (plainExt g2) := addH_sound mixed ffok sndE1 plE1 (by
  intro p hp
  simp only [List.mem_cons, List.not_mem_nil, or_false] at hp
  rcases hp with rfl
  · exact okAwake03)
theorem sndE2 : ExtSound Try.prog E2 := extH_sound plE2 ok1
theorem E2_none {f : Nat} (h : g2 f = none) (h' : t1 f = none := by rfl) (c : CallF) : E2 c f = none := extH_none h h' c
theorem eAwake03_2 (_ : Unit) (h : Heap) : Den FF E2 11 [] h = some (.val (.bool true), none) := denH_plain (sp := tAwake) h rfl (by rfl) (by first | (simp [V.plains, V.plain, bytesA_plains]; done) | rfl)
end Go.Proofs.Ytfbkeieoeagkdaa

/- Disk: what a disk is in memory; calls that read it. -/
namespace Go.Proofs.Ytfbkeieoeagkdaa
open Go AM
set_option linter.unusedSimpArgs false
set_option linter.unusedVariables false
set_option maxRecDepth 100000

abbrev Pg := List UInt8
def pgC (pgs : List Pg) : List V := pgs.flatMap bytesA
def ent (x : Nat × Pg) : V × V := (.int .i64 (x.1 : Int), .agg (bytesA x.2))
def findC (k : Nat) (ca : List (Nat × Pg)) : Option Pg := (ca.find? fun e => e.1 == k).map (·.2)
def putC (k : Nat) (p : Pg) : List (Nat × Pg) → List (Nat × Pg)
  | [] => [(k, p)]
  | e :: r => if k = e.1 then (k, p) :: r else e :: putC k p r
def layP (ca : List (Nat × Pg)) (pgs : List Pg) : List Pg := (List.range pgs.length).map fun i => (findC i ca).getD (pgs.getD i [])

theorem pgC_len : ∀ {pgs : List Pg}, (∀ p ∈ pgs, p.length = 64) → (pgC pgs).length = pgs.length * 64
  | [], h => rfl
  | p :: r, h => by
    have ih := pgC_len (pgs := r) fun q hq => h q (List.mem_cons_of_mem _ hq)
    have hp := h p List.mem_cons_self
    unfold pgC at ih ⊢
    rw [List.flatMap_cons, List.length_append, ih, bytesA_length, hp, List.length_cons]
    omega
theorem pgC_at : ∀ {pgs : List Pg} {i : Nat} {p : Pg}, (∀ p ∈ pgs, p.length = 64) → pgs[i]? = some p → ((pgC pgs).drop (i * 64)).take 64 = bytesA p
  | [], i, p, h, hi => by simp at hi
  | q :: r, 0, p, h, hi => by
    simp only [List.getElem?_cons_zero, Option.some.injEq] at hi
    subst hi
    have hq := h q List.mem_cons_self
    unfold pgC
    rw [List.flatMap_cons, Nat.zero_mul, List.drop_zero, List.take_left' (by rw [bytesA_length, hq])]
  | q :: r, i + 1, p, h, hi => by
    simp only [List.getElem?_cons_succ] at hi
    have hq := h q List.mem_cons_self
    have ih := pgC_at (fun p hp => h p (List.mem_cons_of_mem _ hp)) hi
    unfold pgC at ih ⊢
    have e : (i + 1) * 64 = 64 + i * 64 := by omega
    rw [List.flatMap_cons, e, ← List.drop_drop, List.drop_left' (by rw [bytesA_length, hq]), ih]
theorem find_ent (i : Nat) : ∀ (ca : List (Nat × Pg)), (ca.map ent).find? (keyIs i) = (ca.find? fun e => e.1 == i).map ent
  | [] => rfl
  | e :: r => by
    rw [List.map_cons, List.find?_cons, List.find?_cons]
    have : keyIs i (ent e) = (e.1 == i) := by
      unfold keyIs ent
      rw [Bool.eq_iff_iff, beq_iff_eq]
      simp only [decide_eq_true_eq]
      omega
    rw [this]
    cases (e.1 == i)
    · exact find_ent i r
    · rfl
theorem lay_eq {ca : List (Nat × Pg)} {pgs : List Pg} (h : ∀ p ∈ pgs, p.length = 64) : layPages (ca.map ent) pgs.length (pgC pgs) = pgC (layP ca pgs) := by
  unfold layPages layP
  unfold pgC
  rw [List.flatMap_map]
  refine fm_congr fun i hi => ?_
  have hi := List.mem_range.1 hi
  rw [find_ent]
  unfold findC
  cases hf : ca.find? fun e => e.1 == i with
  | none =>
    simp only [Option.map_none, Option.getD_none]
    have hg : pgs[i]? = some pgs[i] := List.getElem?_eq_getElem hi
    have := pgC_at h hg
    unfold pgC at this
    rw [this, List.getD_eq_getElem?_getD, hg]; rfl
  | some e => rfl
theorem mapFind_ent (k : Nat) : ∀ (ca : List (Nat × Pg)), mapFind .i (.int .i64 (k : Int)) (ca.map ent) = some ((findC k ca).map fun p => .agg (bytesA p))
  | [] => rfl
  | e :: r => by
    have ih := mapFind_ent k r
    rw [List.map_cons]
    unfold mapFind ent
    have he : eqK .i (.int .i64 (k : Int)) (.int .i64 (e.1 : Int)) = some (k == e.1) := by
      simp only [eqK, if_true]
      congr 1
      rw [Bool.eq_iff_iff, beq_iff_eq, beq_iff_eq]
      omega
    simp only [he]
    unfold findC
    by_cases h : k = e.1
    · subst h
      simp
    · have h1 : (k == e.1) = false := by simpa using h
      have h2 : (e.1 == k) = false := by simpa using Ne.symm h
      simp only [h1, List.find?_cons, h2]
      exact ih
theorem mapPut_ent (k : Nat) (p : Pg) : ∀ (ca : List (Nat × Pg)), mapPut .i (.int .i64 (k : Int)) (.agg (bytesA p)) (ca.map ent) = some ((putC k p ca).map ent)
  | [] => rfl
  | e :: r => by
    have ih := mapPut_ent k p r
    rw [List.map_cons]
    unfold mapPut ent
    have he : eqK .i (.int .i64 (k : Int)) (.int .i64 (e.1 : Int)) = some (k == e.1) := by
      simp only [eqK, if_true]
      congr 1
      rw [Bool.eq_iff_iff, beq_iff_eq, beq_iff_eq]
      omega
    simp only [he]
    unfold putC
    by_cases h : k = e.1
    · subst h
      simp [ent]
    · have h1 : (k == e.1) = false := by simpa using h
      simp only [h1, if_neg h, List.map_cons]
      unfold ent at ih
      simp only [ih]
theorem putC_mem {k : Nat} {p : Pg} : ∀ {ca : List (Nat × Pg)} {x : Nat × Pg}, x ∈ putC k p ca → x = (k, p) ∨ x ∈ ca
  | [], x, h => .inl (by simpa [putC] using h)
  | e :: r, x, h => by
    unfold putC at h
    split at h
    · rcases List.mem_cons.1 h with h | h
      · exact .inl h
      · exact .inr (List.mem_cons_of_mem _ h)
    · rcases List.mem_cons.1 h with rfl | h
      · exact .inr List.mem_cons_self
      · rcases putC_mem h with h | h
        · exact .inl h
        · exact .inr (List.mem_cons_of_mem _ h)
theorem putC_nodup {k : Nat} {p : Pg} : ∀ {ca : List (Nat × Pg)}, (ca.map (·.1)).Nodup → ((putC k p ca).map (·.1)).Nodup
  | [], h => by simp [putC]
  | e :: r, h => by
    obtain ⟨h1, h2⟩ := List.nodup_cons.1 (by simpa using h : (e.1 :: r.map (·.1)).Nodup)
    unfold putC
    split
    · rename_i hk
      rw [List.map_cons]
      exact List.nodup_cons.2 ⟨by rw [hk]; exact h1, h2⟩
    · rename_i hk
      rw [List.map_cons]
      refine List.nodup_cons.2 ⟨fun hm => ?_, putC_nodup h2⟩
      obtain ⟨x, hx, he⟩ := List.mem_map.1 hm
      rcases putC_mem hx with rfl | hx
      · exact hk he
      · exact h1 (by rw [← he]; exact List.mem_map_of_mem hx)
theorem apart_ent : ∀ {ca : List (Nat × Pg)}, (ca.map (·.1)).Nodup → apart (ca.map ent) = true
  | [], h => rfl
  | e :: r, h => by
    obtain ⟨h1, h2⟩ := List.nodup_cons.1 (by simpa using h : (e.1 :: r.map (·.1)).Nodup)
    rw [List.map_cons]
    simp only [apart, Bool.and_eq_true, List.all_eq_true]
    refine ⟨fun x hx => ?_, apart_ent h2⟩
    obtain ⟨y, hy, rfl⟩ := List.mem_map.1 hx
    have : e.1 ≠ y.1 := fun he => h1 (by rw [he]; exact List.mem_map_of_mem hy)
    simp only [ent, V.beq, decide_true, Bool.true_and, Bool.not_eq_true', beq_eq_false_iff_ne, ne_eq, Int.ofNat_inj]
    exact this
theorem pageEnt_ent {np : Nat} {x : Nat × Pg} (h : x.2.length = 64) (hk : x.1 < np) : pageEnt np (ent x) = true := by
  simp only [ent, pageEnt, bytesA_length, h, bytesA_plains, bytesA_one, decide_true, Bool.and_true, decide_eq_true_eq]
  omega

/-- A disk in memory. -/
structure PD (o : List AM.Obj) (dd pg lm : Nat) (on down : Bool) (left : Int) (pgs : List Pg) (ca : List (Nat × Pg)) : Prop where
  hd : o[dd]? = some (.cells .ex 92 0 [.bool on, .bool down, .int .i64 left, .slice pg 0 pgs.length 64, .map lm])
  hp : o[pg]? = some (.cells .ex 31 0 (pgC pgs))
  hm : o[lm]? = some (.map (ca.map ent))
  p64 : ∀ p ∈ pgs, p.length = 64
  c64 : ∀ e ∈ ca, e.2.length = 64 ∧ e.1 < pgs.length
  nd : (ca.map (·.1)).Nodup

theorem fin_k1 {a : AF} {h : Heap} {S : Nat → V} {h' : Heap} {i : Nat} {v : V} (hr : a.res = [.t i]) (hS : S i = v) (hp : v.plain = true) (k : Kp h h') : finish a h (some (.ret, S, h')) = some (.val v, none) := by
  subst hS
  rw [fin1 hr, leave_plain k hp]
theorem fin_k {a : AF} {h : Heap} {S : Nat → V} {h' : Heap} {vs : List V} {v : V} (hres : resAll S h' a.res = some vs) (hv : resV vs = v) (hp : v.plain = true) (k : Kp h h') : finish a h (some (.ret, S, h')) = some (.val v, none) := by
  subst hv
  simp only [finish, hres, leave_plain k hp]

def hasE (down : Bool) (np : Nat) (i : Int) : Int := if down = true then 5 else if i < 0 ∨ (np : Int) ≤ i then 22 else 0
def lastP (pgs : List Pg) (i : Int) : Pg := if i < 0 then zs 64 else pgs.getD i.toNat (zs 64)
section
variable {o : List AM.Obj} {e d dd pg lm : Nat} {on down : Bool} {left : Int} {pgs : List Pg} {ca : List (Nat × Pg)}

theorem down_q (P : PD o dd pg lm on down left pgs ca) : Den FF E2 19 [.ptr dd 0] ⟨o, e, d⟩ = some (.val (.bool down), none) := by
  refine To.den hxE2 (f := 19) (a := af19) rfl (E2_none rfl) (Nat.le_of_ble_eq_true rfl) ?_
  (repeat' (first | refine To.seq hxE2 ?_ | refine To.op0 hxE2 (by simp only [go_sem, eqs hxE2, reduceIte, Nat.reduceEqDiff, Nat.reduceAdd, Nat.reduceMul, Nat.reduceLT, Nat.reduceLeDiff, Int.reduceLT, Int.reduceLE, Int.reduceEq, reduceCtorEq, Int.reduceBEq, Int.reduceBNe, Int.reduceToNat, Nat.reduceSub, Nat.reduceDiv, Int.reduceNeg, Int.reduceAdd, Int.reduceSub, Int.reduceMul, Heap.gets, Heap.sets, Heap.get, bytesA_length, bytesA_one, bytesA_plains, List.take_of_length_le, List.drop_of_length_le, Nat.add_zero, V.one, Nat.reduceLeDiff, List.all_cons, List.all_nil, ne_eq, not_false_eq_true, Nat.zero_le, P.hd]; rfl) ?_ | refine To.op1 hxE2 (by simp only [go_sem, eqs hxE2, reduceIte, Nat.reduceEqDiff, Nat.reduceAdd, Nat.reduceMul, Nat.reduceLT, Nat.reduceLeDiff, Int.reduceLT, Int.reduceLE, Int.reduceEq, reduceCtorEq, Int.reduceBEq, Int.reduceBNe, Int.reduceToNat, Nat.reduceSub, Nat.reduceDiv, Int.reduceNeg, Int.reduceAdd, Int.reduceSub, Int.reduceMul, Heap.gets, Heap.sets, Heap.get, bytesA_length, bytesA_one, bytesA_plains, List.take_of_length_le, List.drop_of_length_le, Nat.add_zero, V.one, Nat.reduceLeDiff, List.all_cons, List.all_nil, ne_eq, not_false_eq_true, Nat.zero_le, P.hd]; rfl) ?_ | refine To.nop hxE2 ?_ | (refine To.condT hxE2 ?_ ?_; focus (simp only [go_sem, eqs hxE2, reduceIte, Nat.reduceEqDiff, Nat.reduceAdd, Nat.reduceMul, Nat.reduceLT, Nat.reduceLeDiff, Int.reduceLT, Int.reduceLE, Int.reduceEq, reduceCtorEq, Int.reduceBEq, Int.reduceBNe, Int.reduceToNat, Nat.reduceSub, Nat.reduceDiv, Int.reduceNeg, Int.reduceAdd, Int.reduceSub, Int.reduceMul, Heap.gets, Heap.sets, Heap.get, bytesA_length, bytesA_one, bytesA_plains, List.take_of_length_le, List.drop_of_length_le, Nat.add_zero, V.one, Nat.reduceLeDiff, List.all_cons, List.all_nil, ne_eq, not_false_eq_true, Nat.zero_le, P.hd]; done)) | (refine To.condF hxE2 ?_ ?_; focus (simp only [go_sem, eqs hxE2, reduceIte, Nat.reduceEqDiff, Nat.reduceAdd, Nat.reduceMul, Nat.reduceLT, Nat.reduceLeDiff, Int.reduceLT, Int.reduceLE, Int.reduceEq, reduceCtorEq, Int.reduceBEq, Int.reduceBNe, Int.reduceToNat, Nat.reduceSub, Nat.reduceDiv, Int.reduceNeg, Int.reduceAdd, Int.reduceSub, Int.reduceMul, Heap.gets, Heap.sets, Heap.get, bytesA_length, bytesA_one, bytesA_plains, List.take_of_length_le, List.drop_of_length_le, Nat.add_zero, V.one, Nat.reduceLeDiff, List.all_cons, List.all_nil, ne_eq, not_false_eq_true, Nat.zero_le, P.hd]; done)) | refine To.block hxE2 ?_ | refine To.scope hxE2 ?_ | refine To.ret hxE2 ?_ | refine To.exit hxE2 ?_ | refine To.skip hxE2 ?_ | refine To.label hxE2 ?_))
  try simp only [andThen, outOf]
  exact fin_k1 (i := 2) (v := .bool down) rfl (by simp only [go_sem, eqs hxE2, reduceIte, Nat.reduceEqDiff, Nat.reduceAdd, Nat.reduceMul, Nat.reduceLT, Nat.reduceLeDiff, Int.reduceLT, Int.reduceLE, Int.reduceEq, reduceCtorEq, Int.reduceBEq, Int.reduceBNe, Int.reduceToNat, Nat.reduceSub, Nat.reduceDiv, Int.reduceNeg, Int.reduceAdd, Int.reduceSub, Int.reduceMul]) rfl (Kp.enter' _)
theorem pages_q (P : PD o dd pg lm on down left pgs ca) : Den FF E2 27 [.ptr dd 0] ⟨o, e, d⟩ = some (.val (.int .i64 (pgs.length : Int)), none) := by
  refine To.den hxE2 (f := 27) (a := af27) rfl (E2_none rfl) (Nat.le_of_ble_eq_true rfl) ?_
  (repeat' (first | refine To.seq hxE2 ?_ | refine To.op0 hxE2 (by simp only [go_sem, eqs hxE2, reduceIte, Nat.reduceEqDiff, Nat.reduceAdd, Nat.reduceMul, Nat.reduceLT, Nat.reduceLeDiff, Int.reduceLT, Int.reduceLE, Int.reduceEq, reduceCtorEq, Int.reduceBEq, Int.reduceBNe, Int.reduceToNat, Nat.reduceSub, Nat.reduceDiv, Int.reduceNeg, Int.reduceAdd, Int.reduceSub, Int.reduceMul, Heap.gets, Heap.sets, Heap.get, bytesA_length, bytesA_one, bytesA_plains, List.take_of_length_le, List.drop_of_length_le, Nat.add_zero, V.one, Nat.reduceLeDiff, List.all_cons, List.all_nil, ne_eq, not_false_eq_true, Nat.zero_le, P.hd]; rfl) ?_ | refine To.op1 hxE2 (by simp only [go_sem, eqs hxE2, reduceIte, Nat.reduceEqDiff, Nat.reduceAdd, Nat.reduceMul, Nat.reduceLT, Nat.reduceLeDiff, Int.reduceLT, Int.reduceLE, Int.reduceEq, reduceCtorEq, Int.reduceBEq, Int.reduceBNe, Int.reduceToNat, Nat.reduceSub, Nat.reduceDiv, Int.reduceNeg, Int.reduceAdd, Int.reduceSub, Int.reduceMul, Heap.gets, Heap.sets, Heap.get, bytesA_length, bytesA_one, bytesA_plains, List.take_of_length_le, List.drop_of_length_le, Nat.add_zero, V.one, Nat.reduceLeDiff, List.all_cons, List.all_nil, ne_eq, not_false_eq_true, Nat.zero_le, P.hd]; rfl) ?_ | refine To.nop hxE2 ?_ | (refine To.condT hxE2 ?_ ?_; focus (simp only [go_sem, eqs hxE2, reduceIte, Nat.reduceEqDiff, Nat.reduceAdd, Nat.reduceMul, Nat.reduceLT, Nat.reduceLeDiff, Int.reduceLT, Int.reduceLE, Int.reduceEq, reduceCtorEq, Int.reduceBEq, Int.reduceBNe, Int.reduceToNat, Nat.reduceSub, Nat.reduceDiv, Int.reduceNeg, Int.reduceAdd, Int.reduceSub, Int.reduceMul, Heap.gets, Heap.sets, Heap.get, bytesA_length, bytesA_one, bytesA_plains, List.take_of_length_le, List.drop_of_length_le, Nat.add_zero, V.one, Nat.reduceLeDiff, List.all_cons, List.all_nil, ne_eq, not_false_eq_true, Nat.zero_le, P.hd]; done)) | (refine To.condF hxE2 ?_ ?_; focus (simp only [go_sem, eqs hxE2, reduceIte, Nat.reduceEqDiff, Nat.reduceAdd, Nat.reduceMul, Nat.reduceLT, Nat.reduceLeDiff, Int.reduceLT, Int.reduceLE, Int.reduceEq, reduceCtorEq, Int.reduceBEq, Int.reduceBNe, Int.reduceToNat, Nat.reduceSub, Nat.reduceDiv, Int.reduceNeg, Int.reduceAdd, Int.reduceSub, Int.reduceMul, Heap.gets, Heap.sets, Heap.get, bytesA_length, bytesA_one, bytesA_plains, List.take_of_length_le, List.drop_of_length_le, Nat.add_zero, V.one, Nat.reduceLeDiff, List.all_cons, List.all_nil, ne_eq, not_false_eq_true, Nat.zero_le, P.hd]; done)) | refine To.block hxE2 ?_ | refine To.scope hxE2 ?_ | refine To.ret hxE2 ?_ | refine To.exit hxE2 ?_ | refine To.skip hxE2 ?_ | refine To.label hxE2 ?_))
  try simp only [andThen, outOf]
  exact fin_k1 (v := .int .i64 (pgs.length : Int)) rfl (by simp only [go_sem, eqs hxE2, reduceIte, Nat.reduceEqDiff, Nat.reduceAdd, Nat.reduceMul, Nat.reduceLT, Nat.reduceLeDiff, Int.reduceLT, Int.reduceLE, Int.reduceEq, reduceCtorEq, Int.reduceBEq, Int.reduceBNe, Int.reduceToNat, Nat.reduceSub, Nat.reduceDiv, Int.reduceNeg, Int.reduceAdd, Int.reduceSub, Int.reduceMul]) rfl (Kp.enter' _)
theorem cached_q (P : PD o dd pg lm on down left pgs ca) : Den FF E2 15 [.ptr dd 0] ⟨o, e, d⟩ = some (.val (.int .i64 (ca.length : Int)), none) := by
  refine To.den hxE2 (f := 15) (a := af15) rfl (E2_none rfl) (Nat.le_of_ble_eq_true rfl) ?_
  (repeat' (first | refine To.seq hxE2 ?_ | refine To.op0 hxE2 (by simp only [go_sem, eqs hxE2, reduceIte, Nat.reduceEqDiff, Nat.reduceAdd, Nat.reduceMul, Nat.reduceLT, Nat.reduceLeDiff, Int.reduceLT, Int.reduceLE, Int.reduceEq, reduceCtorEq, Int.reduceBEq, Int.reduceBNe, Int.reduceToNat, Nat.reduceSub, Nat.reduceDiv, Int.reduceNeg, Int.reduceAdd, Int.reduceSub, Int.reduceMul, Heap.gets, Heap.sets, Heap.get, bytesA_length, bytesA_one, bytesA_plains, List.take_of_length_le, List.drop_of_length_le, Nat.add_zero, V.one, Nat.reduceLeDiff, List.all_cons, List.all_nil, ne_eq, not_false_eq_true, Nat.zero_le, P.hd, P.hm, List.length_map]; rfl) ?_ | refine To.op1 hxE2 (by simp only [go_sem, eqs hxE2, reduceIte, Nat.reduceEqDiff, Nat.reduceAdd, Nat.reduceMul, Nat.reduceLT, Nat.reduceLeDiff, Int.reduceLT, Int.reduceLE, Int.reduceEq, reduceCtorEq, Int.reduceBEq, Int.reduceBNe, Int.reduceToNat, Nat.reduceSub, Nat.reduceDiv, Int.reduceNeg, Int.reduceAdd, Int.reduceSub, Int.reduceMul, Heap.gets, Heap.sets, Heap.get, bytesA_length, bytesA_one, bytesA_plains, List.take_of_length_le, List.drop_of_length_le, Nat.add_zero, V.one, Nat.reduceLeDiff, List.all_cons, List.all_nil, ne_eq, not_false_eq_true, Nat.zero_le, P.hd, P.hm, List.length_map]; rfl) ?_ | refine To.nop hxE2 ?_ | (refine To.condT hxE2 ?_ ?_; focus (simp only [go_sem, eqs hxE2, reduceIte, Nat.reduceEqDiff, Nat.reduceAdd, Nat.reduceMul, Nat.reduceLT, Nat.reduceLeDiff, Int.reduceLT, Int.reduceLE, Int.reduceEq, reduceCtorEq, Int.reduceBEq, Int.reduceBNe, Int.reduceToNat, Nat.reduceSub, Nat.reduceDiv, Int.reduceNeg, Int.reduceAdd, Int.reduceSub, Int.reduceMul, Heap.gets, Heap.sets, Heap.get, bytesA_length, bytesA_one, bytesA_plains, List.take_of_length_le, List.drop_of_length_le, Nat.add_zero, V.one, Nat.reduceLeDiff, List.all_cons, List.all_nil, ne_eq, not_false_eq_true, Nat.zero_le, P.hd, P.hm, List.length_map]; done)) | (refine To.condF hxE2 ?_ ?_; focus (simp only [go_sem, eqs hxE2, reduceIte, Nat.reduceEqDiff, Nat.reduceAdd, Nat.reduceMul, Nat.reduceLT, Nat.reduceLeDiff, Int.reduceLT, Int.reduceLE, Int.reduceEq, reduceCtorEq, Int.reduceBEq, Int.reduceBNe, Int.reduceToNat, Nat.reduceSub, Nat.reduceDiv, Int.reduceNeg, Int.reduceAdd, Int.reduceSub, Int.reduceMul, Heap.gets, Heap.sets, Heap.get, bytesA_length, bytesA_one, bytesA_plains, List.take_of_length_le, List.drop_of_length_le, Nat.add_zero, V.one, Nat.reduceLeDiff, List.all_cons, List.all_nil, ne_eq, not_false_eq_true, Nat.zero_le, P.hd, P.hm, List.length_map]; done)) | refine To.block hxE2 ?_ | refine To.scope hxE2 ?_ | refine To.ret hxE2 ?_ | refine To.exit hxE2 ?_ | refine To.skip hxE2 ?_ | refine To.label hxE2 ?_))
  try simp only [andThen, outOf]
  exact fin_k1 (v := .int .i64 (ca.length : Int)) rfl (by simp only [go_sem, eqs hxE2, reduceIte, Nat.reduceEqDiff, Nat.reduceAdd, Nat.reduceMul, Nat.reduceLT, Nat.reduceLeDiff, Int.reduceLT, Int.reduceLE, Int.reduceEq, reduceCtorEq, Int.reduceBEq, Int.reduceBNe, Int.reduceToNat, Nat.reduceSub, Nat.reduceDiv, Int.reduceNeg, Int.reduceAdd, Int.reduceSub, Int.reduceMul]) rfl (Kp.enter' _)
theorem has_q (P : PD o dd pg lm on down left pgs ca) (i : Int) : Den FF E2 48 [.ptr dd 0, .int .i64 i] ⟨o, e, d⟩ = some (.val (.int .i64 (hasE down pgs.length i)), none) := by
  refine To.den hxE2 (f := 48) (a := af48) rfl (E2_none rfl) (Nat.le_of_ble_eq_true rfl) ?_
  have q := down_q (e := o.length) (d := o.length) P
  unfold hasE
  cases down
  case true =>
    (repeat' (first | refine To.seq hxE2 ?_ | refine To.op0 hxE2 (by simp only [go_sem, eqs hxE2, reduceIte, Nat.reduceEqDiff, Nat.reduceAdd, Nat.reduceMul, Nat.reduceLT, Nat.reduceLeDiff, Int.reduceLT, Int.reduceLE, Int.reduceEq, reduceCtorEq, Int.reduceBEq, Int.reduceBNe, Int.reduceToNat, Nat.reduceSub, Nat.reduceDiv, Int.reduceNeg, Int.reduceAdd, Int.reduceSub, Int.reduceMul, Heap.gets, Heap.sets, Heap.get, bytesA_length, bytesA_one, bytesA_plains, List.take_of_length_le, List.drop_of_length_le, Nat.add_zero, V.one, Nat.reduceLeDiff, List.all_cons, List.all_nil, ne_eq, not_false_eq_true, Nat.zero_le, P.hd, q]; rfl) ?_ | refine To.op1 hxE2 (by simp only [go_sem, eqs hxE2, reduceIte, Nat.reduceEqDiff, Nat.reduceAdd, Nat.reduceMul, Nat.reduceLT, Nat.reduceLeDiff, Int.reduceLT, Int.reduceLE, Int.reduceEq, reduceCtorEq, Int.reduceBEq, Int.reduceBNe, Int.reduceToNat, Nat.reduceSub, Nat.reduceDiv, Int.reduceNeg, Int.reduceAdd, Int.reduceSub, Int.reduceMul, Heap.gets, Heap.sets, Heap.get, bytesA_length, bytesA_one, bytesA_plains, List.take_of_length_le, List.drop_of_length_le, Nat.add_zero, V.one, Nat.reduceLeDiff, List.all_cons, List.all_nil, ne_eq, not_false_eq_true, Nat.zero_le, P.hd, q]; rfl) ?_ | refine To.nop hxE2 ?_ | (refine To.condT hxE2 ?_ ?_; focus (simp only [go_sem, eqs hxE2, reduceIte, Nat.reduceEqDiff, Nat.reduceAdd, Nat.reduceMul, Nat.reduceLT, Nat.reduceLeDiff, Int.reduceLT, Int.reduceLE, Int.reduceEq, reduceCtorEq, Int.reduceBEq, Int.reduceBNe, Int.reduceToNat, Nat.reduceSub, Nat.reduceDiv, Int.reduceNeg, Int.reduceAdd, Int.reduceSub, Int.reduceMul, Heap.gets, Heap.sets, Heap.get, bytesA_length, bytesA_one, bytesA_plains, List.take_of_length_le, List.drop_of_length_le, Nat.add_zero, V.one, Nat.reduceLeDiff, List.all_cons, List.all_nil, ne_eq, not_false_eq_true, Nat.zero_le, P.hd, q]; done)) | (refine To.condF hxE2 ?_ ?_; focus (simp only [go_sem, eqs hxE2, reduceIte, Nat.reduceEqDiff, Nat.reduceAdd, Nat.reduceMul, Nat.reduceLT, Nat.reduceLeDiff, Int.reduceLT, Int.reduceLE, Int.reduceEq, reduceCtorEq, Int.reduceBEq, Int.reduceBNe, Int.reduceToNat, Nat.reduceSub, Nat.reduceDiv, Int.reduceNeg, Int.reduceAdd, Int.reduceSub, Int.reduceMul, Heap.gets, Heap.sets, Heap.get, bytesA_length, bytesA_one, bytesA_plains, List.take_of_length_le, List.drop_of_length_le, Nat.add_zero, V.one, Nat.reduceLeDiff, List.all_cons, List.all_nil, ne_eq, not_false_eq_true, Nat.zero_le, P.hd, q]; done)) | refine To.block hxE2 ?_ | refine To.scope hxE2 ?_ | refine To.ret hxE2 ?_ | refine To.exit hxE2 ?_ | refine To.skip hxE2 ?_ | refine To.label hxE2 ?_))
    try simp only [andThen, outOf]
    exact fin_k1 (v := .int .i64 5) rfl (by simp only [go_sem, eqs hxE2, reduceIte, Nat.reduceEqDiff, Nat.reduceAdd, Nat.reduceMul, Nat.reduceLT, Nat.reduceLeDiff, Int.reduceLT, Int.reduceLE, Int.reduceEq, reduceCtorEq, Int.reduceBEq, Int.reduceBNe, Int.reduceToNat, Nat.reduceSub, Nat.reduceDiv, Int.reduceNeg, Int.reduceAdd, Int.reduceSub, Int.reduceMul]) rfl (Kp.enter' _)
  by_cases h1 : i < 0
  · have d1 : decide (i < 0) = true := decide_eq_true h1
    (repeat' (first | refine To.seq hxE2 ?_ | refine To.op0 hxE2 (by simp only [go_sem, eqs hxE2, reduceIte, Nat.reduceEqDiff, Nat.reduceAdd, Nat.reduceMul, Nat.reduceLT, Nat.reduceLeDiff, Int.reduceLT, Int.reduceLE, Int.reduceEq, reduceCtorEq, Int.reduceBEq, Int.reduceBNe, Int.reduceToNat, Nat.reduceSub, Nat.reduceDiv, Int.reduceNeg, Int.reduceAdd, Int.reduceSub, Int.reduceMul, Heap.gets, Heap.sets, Heap.get, bytesA_length, bytesA_one, bytesA_plains, List.take_of_length_le, List.drop_of_length_le, Nat.add_zero, V.one, Nat.reduceLeDiff, List.all_cons, List.all_nil, ne_eq, not_false_eq_true, Nat.zero_le, P.hd, q, d1]; rfl) ?_ | refine To.op1 hxE2 (by simp only [go_sem, eqs hxE2, reduceIte, Nat.reduceEqDiff, Nat.reduceAdd, Nat.reduceMul, Nat.reduceLT, Nat.reduceLeDiff, Int.reduceLT, Int.reduceLE, Int.reduceEq, reduceCtorEq, Int.reduceBEq, Int.reduceBNe, Int.reduceToNat, Nat.reduceSub, Nat.reduceDiv, Int.reduceNeg, Int.reduceAdd, Int.reduceSub, Int.reduceMul, Heap.gets, Heap.sets, Heap.get, bytesA_length, bytesA_one, bytesA_plains, List.take_of_length_le, List.drop_of_length_le, Nat.add_zero, V.one, Nat.reduceLeDiff, List.all_cons, List.all_nil, ne_eq, not_false_eq_true, Nat.zero_le, P.hd, q, d1]; rfl) ?_ | refine To.nop hxE2 ?_ | (refine To.condT hxE2 ?_ ?_; focus (simp only [go_sem, eqs hxE2, reduceIte, Nat.reduceEqDiff, Nat.reduceAdd, Nat.reduceMul, Nat.reduceLT, Nat.reduceLeDiff, Int.reduceLT, Int.reduceLE, Int.reduceEq, reduceCtorEq, Int.reduceBEq, Int.reduceBNe, Int.reduceToNat, Nat.reduceSub, Nat.reduceDiv, Int.reduceNeg, Int.reduceAdd, Int.reduceSub, Int.reduceMul, Heap.gets, Heap.sets, Heap.get, bytesA_length, bytesA_one, bytesA_plains, List.take_of_length_le, List.drop_of_length_le, Nat.add_zero, V.one, Nat.reduceLeDiff, List.all_cons, List.all_nil, ne_eq, not_false_eq_true, Nat.zero_le, P.hd, q, d1]; done)) | (refine To.condF hxE2 ?_ ?_; focus (simp only [go_sem, eqs hxE2, reduceIte, Nat.reduceEqDiff, Nat.reduceAdd, Nat.reduceMul, Nat.reduceLT, Nat.reduceLeDiff, Int.reduceLT, Int.reduceLE, Int.reduceEq, reduceCtorEq, Int.reduceBEq, Int.reduceBNe, Int.reduceToNat, Nat.reduceSub, Nat.reduceDiv, Int.reduceNeg, Int.reduceAdd, Int.reduceSub, Int.reduceMul, Heap.gets, Heap.sets, Heap.get, bytesA_length, bytesA_one, bytesA_plains, List.take_of_length_le, List.drop_of_length_le, Nat.add_zero, V.one, Nat.reduceLeDiff, List.all_cons, List.all_nil, ne_eq, not_false_eq_true, Nat.zero_le, P.hd, q, d1]; done)) | refine To.block hxE2 ?_ | refine To.scope hxE2 ?_ | refine To.ret hxE2 ?_ | refine To.exit hxE2 ?_ | refine To.skip hxE2 ?_ | refine To.label hxE2 ?_))
    try simp only [andThen, outOf]
    rw [if_neg (by simp), if_pos (.inl h1)]
    exact fin_k1 (v := .int .i64 22) rfl (by simp only [go_sem, eqs hxE2, reduceIte, Nat.reduceEqDiff, Nat.reduceAdd, Nat.reduceMul, Nat.reduceLT, Nat.reduceLeDiff, Int.reduceLT, Int.reduceLE, Int.reduceEq, reduceCtorEq, Int.reduceBEq, Int.reduceBNe, Int.reduceToNat, Nat.reduceSub, Nat.reduceDiv, Int.reduceNeg, Int.reduceAdd, Int.reduceSub, Int.reduceMul]) rfl (Kp.enter' _)
  have d1 : decide (i < 0) = false := decide_eq_false h1
  by_cases h2 : (pgs.length : Int) ≤ i
  · have d2 : decide ((pgs.length : Int) ≤ i) = true := decide_eq_true h2
    (repeat' (first | refine To.seq hxE2 ?_ | refine To.op0 hxE2 (by simp only [go_sem, eqs hxE2, reduceIte, Nat.reduceEqDiff, Nat.reduceAdd, Nat.reduceMul, Nat.reduceLT, Nat.reduceLeDiff, Int.reduceLT, Int.reduceLE, Int.reduceEq, reduceCtorEq, Int.reduceBEq, Int.reduceBNe, Int.reduceToNat, Nat.reduceSub, Nat.reduceDiv, Int.reduceNeg, Int.reduceAdd, Int.reduceSub, Int.reduceMul, Heap.gets, Heap.sets, Heap.get, bytesA_length, bytesA_one, bytesA_plains, List.take_of_length_le, List.drop_of_length_le, Nat.add_zero, V.one, Nat.reduceLeDiff, List.all_cons, List.all_nil, ne_eq, not_false_eq_true, Nat.zero_le, P.hd, q, d1, d2]; rfl) ?_ | refine To.op1 hxE2 (by simp only [go_sem, eqs hxE2, reduceIte, Nat.reduceEqDiff, Nat.reduceAdd, Nat.reduceMul, Nat.reduceLT, Nat.reduceLeDiff, Int.reduceLT, Int.reduceLE, Int.reduceEq, reduceCtorEq, Int.reduceBEq, Int.reduceBNe, Int.reduceToNat, Nat.reduceSub, Nat.reduceDiv, Int.reduceNeg, Int.reduceAdd, Int.reduceSub, Int.reduceMul, Heap.gets, Heap.sets, Heap.get, bytesA_length, bytesA_one, bytesA_plains, List.take_of_length_le, List.drop_of_length_le, Nat.add_zero, V.one, Nat.reduceLeDiff, List.all_cons, List.all_nil, ne_eq, not_false_eq_true, Nat.zero_le, P.hd, q, d1, d2]; rfl) ?_ | refine To.nop hxE2 ?_ | (refine To.condT hxE2 ?_ ?_; focus (simp only [go_sem, eqs hxE2, reduceIte, Nat.reduceEqDiff, Nat.reduceAdd, Nat.reduceMul, Nat.reduceLT, Nat.reduceLeDiff, Int.reduceLT, Int.reduceLE, Int.reduceEq, reduceCtorEq, Int.reduceBEq, Int.reduceBNe, Int.reduceToNat, Nat.reduceSub, Nat.reduceDiv, Int.reduceNeg, Int.reduceAdd, Int.reduceSub, Int.reduceMul, Heap.gets, Heap.sets, Heap.get, bytesA_length, bytesA_one, bytesA_plains, List.take_of_length_le, List.drop_of_length_le, Nat.add_zero, V.one, Nat.reduceLeDiff, List.all_cons, List.all_nil, ne_eq, not_false_eq_true, Nat.zero_le, P.hd, q, d1, d2]; done)) | (refine To.condF hxE2 ?_ ?_; focus (simp only [go_sem, eqs hxE2, reduceIte, Nat.reduceEqDiff, Nat.reduceAdd, Nat.reduceMul, Nat.reduceLT, Nat.reduceLeDiff, Int.reduceLT, Int.reduceLE, Int.reduceEq, reduceCtorEq, Int.reduceBEq, Int.reduceBNe, Int.reduceToNat, Nat.reduceSub, Nat.reduceDiv, Int.reduceNeg, Int.reduceAdd, Int.reduceSub, Int.reduceMul, Heap.gets, Heap.sets, Heap.get, bytesA_length, bytesA_one, bytesA_plains, List.take_of_length_le, List.drop_of_length_le, Nat.add_zero, V.one, Nat.reduceLeDiff, List.all_cons, List.all_nil, ne_eq, not_false_eq_true, Nat.zero_le, P.hd, q, d1, d2]; done)) | refine To.block hxE2 ?_ | refine To.scope hxE2 ?_ | refine To.ret hxE2 ?_ | refine To.exit hxE2 ?_ | refine To.skip hxE2 ?_ | refine To.label hxE2 ?_))
    try simp only [andThen, outOf]
    rw [if_neg (by simp), if_pos (.inr h2)]
    exact fin_k1 (v := .int .i64 22) rfl (by simp only [go_sem, eqs hxE2, reduceIte, Nat.reduceEqDiff, Nat.reduceAdd, Nat.reduceMul, Nat.reduceLT, Nat.reduceLeDiff, Int.reduceLT, Int.reduceLE, Int.reduceEq, reduceCtorEq, Int.reduceBEq, Int.reduceBNe, Int.reduceToNat, Nat.reduceSub, Nat.reduceDiv, Int.reduceNeg, Int.reduceAdd, Int.reduceSub, Int.reduceMul]) rfl (Kp.enter' _)
  have d2 : decide ((pgs.length : Int) ≤ i) = false := decide_eq_false h2
  (repeat' (first | refine To.seq hxE2 ?_ | refine To.op0 hxE2 (by simp only [go_sem, eqs hxE2, reduceIte, Nat.reduceEqDiff, Nat.reduceAdd, Nat.reduceMul, Nat.reduceLT, Nat.reduceLeDiff, Int.reduceLT, Int.reduceLE, Int.reduceEq, reduceCtorEq, Int.reduceBEq, Int.reduceBNe, Int.reduceToNat, Nat.reduceSub, Nat.reduceDiv, Int.reduceNeg, Int.reduceAdd, Int.reduceSub, Int.reduceMul, Heap.gets, Heap.sets, Heap.get, bytesA_length, bytesA_one, bytesA_plains, List.take_of_length_le, List.drop_of_length_le, Nat.add_zero, V.one, Nat.reduceLeDiff, List.all_cons, List.all_nil, ne_eq, not_false_eq_true, Nat.zero_le, P.hd, q, d1, d2]; rfl) ?_ | refine To.op1 hxE2 (by simp only [go_sem, eqs hxE2, reduceIte, Nat.reduceEqDiff, Nat.reduceAdd, Nat.reduceMul, Nat.reduceLT, Nat.reduceLeDiff, Int.reduceLT, Int.reduceLE, Int.reduceEq, reduceCtorEq, Int.reduceBEq, Int.reduceBNe, Int.reduceToNat, Nat.reduceSub, Nat.reduceDiv, Int.reduceNeg, Int.reduceAdd, Int.reduceSub, Int.reduceMul, Heap.gets, Heap.sets, Heap.get, bytesA_length, bytesA_one, bytesA_plains, List.take_of_length_le, List.drop_of_length_le, Nat.add_zero, V.one, Nat.reduceLeDiff, List.all_cons, List.all_nil, ne_eq, not_false_eq_true, Nat.zero_le, P.hd, q, d1, d2]; rfl) ?_ | refine To.nop hxE2 ?_ | (refine To.condT hxE2 ?_ ?_; focus (simp only [go_sem, eqs hxE2, reduceIte, Nat.reduceEqDiff, Nat.reduceAdd, Nat.reduceMul, Nat.reduceLT, Nat.reduceLeDiff, Int.reduceLT, Int.reduceLE, Int.reduceEq, reduceCtorEq, Int.reduceBEq, Int.reduceBNe, Int.reduceToNat, Nat.reduceSub, Nat.reduceDiv, Int.reduceNeg, Int.reduceAdd, Int.reduceSub, Int.reduceMul, Heap.gets, Heap.sets, Heap.get, bytesA_length, bytesA_one, bytesA_plains, List.take_of_length_le, List.drop_of_length_le, Nat.add_zero, V.one, Nat.reduceLeDiff, List.all_cons, List.all_nil, ne_eq, not_false_eq_true, Nat.zero_le, P.hd, q, d1, d2]; done)) | (refine To.condF hxE2 ?_ ?_; focus (simp only [go_sem, eqs hxE2, reduceIte, Nat.reduceEqDiff, Nat.reduceAdd, Nat.reduceMul, Nat.reduceLT, Nat.reduceLeDiff, Int.reduceLT, Int.reduceLE, Int.reduceEq, reduceCtorEq, Int.reduceBEq, Int.reduceBNe, Int.reduceToNat, Nat.reduceSub, Nat.reduceDiv, Int.reduceNeg, Int.reduceAdd, Int.reduceSub, Int.reduceMul, Heap.gets, Heap.sets, Heap.get, bytesA_length, bytesA_one, bytesA_plains, List.take_of_length_le, List.drop_of_length_le, Nat.add_zero, V.one, Nat.reduceLeDiff, List.all_cons, List.all_nil, ne_eq, not_false_eq_true, Nat.zero_le, P.hd, q, d1, d2]; done)) | refine To.block hxE2 ?_ | refine To.scope hxE2 ?_ | refine To.ret hxE2 ?_ | refine To.exit hxE2 ?_ | refine To.skip hxE2 ?_ | refine To.label hxE2 ?_))
  try simp only [andThen, outOf]
  rw [if_neg (by simp), if_neg (by rintro (h | h) <;> omega)]
  exact fin_k1 (v := .int .i64 0) rfl (by simp only [go_sem, eqs hxE2, reduceIte, Nat.reduceEqDiff, Nat.reduceAdd, Nat.reduceMul, Nat.reduceLT, Nat.reduceLeDiff, Int.reduceLT, Int.reduceLE, Int.reduceEq, reduceCtorEq, Int.reduceBEq, Int.reduceBNe, Int.reduceToNat, Nat.reduceSub, Nat.reduceDiv, Int.reduceNeg, Int.reduceAdd, Int.reduceSub, Int.reduceMul]) rfl (Kp.enter' _)
end
end Go.Proofs.Ytfbkeieoeagkdaa

/- Disk: calls. -/
namespace Go.Proofs.Ytfbkeieoeagkdaa
open Go AM
set_option linter.unusedSimpArgs false
set_option linter.unusedVariables false
set_option maxRecDepth 100000

theorem leave_same2 {o o' : List AM.Obj} {e d d' : Nat} {v : V} (hv : v.plain = true) (hl : o'.length = o.length) (hd : o.length ≤ d' → o' = o) : ∃ d'', (leave ⟨o, e, d⟩ ⟨o', o.length, d'⟩ v).getD ⟨o, e, d⟩ = ⟨o', e, d''⟩ ∧ min d d' ≤ d'' ∧ (o' = o ∨ d'' ≤ d') := by
  unfold leave
  simp only
  rw [if_pos ⟨Nat.le_refl _, hv⟩]
  split
  · rename_i hc
    exact ⟨d, by rw [hd hc]; rfl, Nat.min_le_left _ _, .inl (hd hc)⟩
  · exact ⟨min d d', by rw [List.take_of_length_le (by omega)]; rfl, Nat.le_refl _, .inr (Nat.min_le_right _ _)⟩

set_option maxHeartbeats 4000000 in
theorem burn_q2 {o : List AM.Obj} {e d dd t : Nat} {on down : Bool} {left : Int} {r : List V} (h : o[dd]? = some (.cells .ex t 0 (.bool on :: .bool down :: .int .i64 left :: r))) :
    ∃ v oh, Den FF E2 49 [.ptr dd 0] ⟨o, e, d⟩ = some (v, oh) ∧ v = .val (.bool (burnB on down left)) ∧ ∃ d', oh.getD ⟨o, e, d⟩ = ⟨o.set dd (.cells .ex t 0 (burnC on down left ++ r)), e, d'⟩ ∧ min d dd ≤ d' ∧ (o.set dd (.cells .ex t 0 (burnC on down left ++ r)) = o ∨ d' ≤ dd) := by
  have hl := get_lt h
  have hs : ∀ x, (o.set dd x)[dd]? = some x := fun x => List.getElem?_set_self hl
  have hid : o.set dd (.cells .ex t 0 (.bool on :: .bool down :: .int .i64 left :: r)) = o := by
    apply List.ext_getElem?
    intro i
    by_cases hi : dd = i
    · subst hi; rw [hs, h]
    · rw [List.getElem?_set_ne hi]
  refine To.denE hxE2 (f := 49) (a := af49) rfl (E2_none rfl) (Nat.le_of_ble_eq_true rfl) ?_
  have l2 : ∀ n, (2 : Nat) < n + 1 + 1 + 1 := fun n => by omega
  have l1 : ∀ n, (1 : Nat) < n + 1 + 1 + 1 := fun n => by omega
  have m2 : ∀ n, (2 : Nat) + 1 ≤ n + 1 + 1 + 1 := fun n => by omega
  have m1 : ∀ n, (1 : Nat) + 1 ≤ n + 1 + 1 + 1 := fun n => by omega
  cases down
  case true =>
    (repeat' (first | refine To.seq hxE2 ?_ | refine To.op0 hxE2 (by simp only [go_sem, eqs hxE2, reduceIte, Nat.reduceEqDiff, Nat.reduceAdd, Nat.reduceMul, Nat.reduceLT, Nat.reduceLeDiff, Int.reduceLT, Int.reduceLE, Int.reduceEq, reduceCtorEq, Int.reduceBEq, Int.reduceBNe, Int.reduceToNat, Nat.reduceSub, Nat.reduceDiv, Int.reduceNeg, Int.reduceAdd, Int.reduceSub, Int.reduceMul, Heap.gets, Heap.sets, Heap.get, bytesA_length, bytesA_one, bytesA_plains, List.take_of_length_le, List.drop_of_length_le, Nat.add_zero, V.one, Nat.reduceLeDiff, List.all_cons, List.all_nil, ne_eq, not_false_eq_true, Nat.zero_le, h]; rfl) ?_ | refine To.op1 hxE2 (by simp only [go_sem, eqs hxE2, reduceIte, Nat.reduceEqDiff, Nat.reduceAdd, Nat.reduceMul, Nat.reduceLT, Nat.reduceLeDiff, Int.reduceLT, Int.reduceLE, Int.reduceEq, reduceCtorEq, Int.reduceBEq, Int.reduceBNe, Int.reduceToNat, Nat.reduceSub, Nat.reduceDiv, Int.reduceNeg, Int.reduceAdd, Int.reduceSub, Int.reduceMul, Heap.gets, Heap.sets, Heap.get, bytesA_length, bytesA_one, bytesA_plains, List.take_of_length_le, List.drop_of_length_le, Nat.add_zero, V.one, Nat.reduceLeDiff, List.all_cons, List.all_nil, ne_eq, not_false_eq_true, Nat.zero_le, h]; rfl) ?_ | refine To.nop hxE2 ?_ | (refine To.condT hxE2 ?_ ?_; focus (simp only [go_sem, eqs hxE2, reduceIte, Nat.reduceEqDiff, Nat.reduceAdd, Nat.reduceMul, Nat.reduceLT, Nat.reduceLeDiff, Int.reduceLT, Int.reduceLE, Int.reduceEq, reduceCtorEq, Int.reduceBEq, Int.reduceBNe, Int.reduceToNat, Nat.reduceSub, Nat.reduceDiv, Int.reduceNeg, Int.reduceAdd, Int.reduceSub, Int.reduceMul, Heap.gets, Heap.sets, Heap.get, bytesA_length, bytesA_one, bytesA_plains, List.take_of_length_le, List.drop_of_length_le, Nat.add_zero, V.one, Nat.reduceLeDiff, List.all_cons, List.all_nil, ne_eq, not_false_eq_true, Nat.zero_le, h]; done)) | (refine To.condF hxE2 ?_ ?_; focus (simp only [go_sem, eqs hxE2, reduceIte, Nat.reduceEqDiff, Nat.reduceAdd, Nat.reduceMul, Nat.reduceLT, Nat.reduceLeDiff, Int.reduceLT, Int.reduceLE, Int.reduceEq, reduceCtorEq, Int.reduceBEq, Int.reduceBNe, Int.reduceToNat, Nat.reduceSub, Nat.reduceDiv, Int.reduceNeg, Int.reduceAdd, Int.reduceSub, Int.reduceMul, Heap.gets, Heap.sets, Heap.get, bytesA_length, bytesA_one, bytesA_plains, List.take_of_length_le, List.drop_of_length_le, Nat.add_zero, V.one, Nat.reduceLeDiff, List.all_cons, List.all_nil, ne_eq, not_false_eq_true, Nat.zero_le, h]; done)) | refine To.block hxE2 ?_ | refine To.scope hxE2 ?_ | refine To.ret hxE2 ?_ | refine To.exit hxE2 ?_ | refine To.skip hxE2 ?_ | refine To.label hxE2 ?_))
    refine ⟨_, _, fin1 (i := 2) rfl, by simp only [get_fput, reduceIte, Nat.reduceEqDiff]; simp [burnB], ?_⟩
    simp only [burnC, if_true, List.cons_append, List.nil_append, hid]
    obtain ⟨d2, q1, q2, q3⟩ := leave_same2 (e := e) (d := d) (d' := o.length) (v := .bool false) rfl rfl (fun _ => rfl)
    exact ⟨d2, by simp only [get_fput, reduceIte, Nat.reduceEqDiff]; exact q1, by omega, .inl trivial⟩
  cases on
  case false =>
    (repeat' (first | refine To.seq hxE2 ?_ | refine To.op0 hxE2 (by simp only [go_sem, eqs hxE2, reduceIte, Nat.reduceEqDiff, Nat.reduceAdd, Nat.reduceMul, Nat.reduceLT, Nat.reduceLeDiff, Int.reduceLT, Int.reduceLE, Int.reduceEq, reduceCtorEq, Int.reduceBEq, Int.reduceBNe, Int.reduceToNat, Nat.reduceSub, Nat.reduceDiv, Int.reduceNeg, Int.reduceAdd, Int.reduceSub, Int.reduceMul, Heap.gets, Heap.sets, Heap.get, bytesA_length, bytesA_one, bytesA_plains, List.take_of_length_le, List.drop_of_length_le, Nat.add_zero, V.one, Nat.reduceLeDiff, List.all_cons, List.all_nil, ne_eq, not_false_eq_true, Nat.zero_le, h]; rfl) ?_ | refine To.op1 hxE2 (by simp only [go_sem, eqs hxE2, reduceIte, Nat.reduceEqDiff, Nat.reduceAdd, Nat.reduceMul, Nat.reduceLT, Nat.reduceLeDiff, Int.reduceLT, Int.reduceLE, Int.reduceEq, reduceCtorEq, Int.reduceBEq, Int.reduceBNe, Int.reduceToNat, Nat.reduceSub, Nat.reduceDiv, Int.reduceNeg, Int.reduceAdd, Int.reduceSub, Int.reduceMul, Heap.gets, Heap.sets, Heap.get, bytesA_length, bytesA_one, bytesA_plains, List.take_of_length_le, List.drop_of_length_le, Nat.add_zero, V.one, Nat.reduceLeDiff, List.all_cons, List.all_nil, ne_eq, not_false_eq_true, Nat.zero_le, h]; rfl) ?_ | refine To.nop hxE2 ?_ | (refine To.condT hxE2 ?_ ?_; focus (simp only [go_sem, eqs hxE2, reduceIte, Nat.reduceEqDiff, Nat.reduceAdd, Nat.reduceMul, Nat.reduceLT, Nat.reduceLeDiff, Int.reduceLT, Int.reduceLE, Int.reduceEq, reduceCtorEq, Int.reduceBEq, Int.reduceBNe, Int.reduceToNat, Nat.reduceSub, Nat.reduceDiv, Int.reduceNeg, Int.reduceAdd, Int.reduceSub, Int.reduceMul, Heap.gets, Heap.sets, Heap.get, bytesA_length, bytesA_one, bytesA_plains, List.take_of_length_le, List.drop_of_length_le, Nat.add_zero, V.one, Nat.reduceLeDiff, List.all_cons, List.all_nil, ne_eq, not_false_eq_true, Nat.zero_le, h]; done)) | (refine To.condF hxE2 ?_ ?_; focus (simp only [go_sem, eqs hxE2, reduceIte, Nat.reduceEqDiff, Nat.reduceAdd, Nat.reduceMul, Nat.reduceLT, Nat.reduceLeDiff, Int.reduceLT, Int.reduceLE, Int.reduceEq, reduceCtorEq, Int.reduceBEq, Int.reduceBNe, Int.reduceToNat, Nat.reduceSub, Nat.reduceDiv, Int.reduceNeg, Int.reduceAdd, Int.reduceSub, Int.reduceMul, Heap.gets, Heap.sets, Heap.get, bytesA_length, bytesA_one, bytesA_plains, List.take_of_length_le, List.drop_of_length_le, Nat.add_zero, V.one, Nat.reduceLeDiff, List.all_cons, List.all_nil, ne_eq, not_false_eq_true, Nat.zero_le, h]; done)) | refine To.block hxE2 ?_ | refine To.scope hxE2 ?_ | refine To.ret hxE2 ?_ | refine To.exit hxE2 ?_ | refine To.skip hxE2 ?_ | refine To.label hxE2 ?_))
    refine ⟨_, _, fin1 (i := 2) rfl, by simp only [get_fput, reduceIte, Nat.reduceEqDiff]; simp [burnB], ?_⟩
    simp only [burnC, Bool.false_eq_true, if_false, List.cons_append, List.nil_append, hid]
    obtain ⟨d2, q1, q2, q3⟩ := leave_same2 (e := e) (d := d) (d' := o.length) (v := .bool true) rfl rfl (fun _ => rfl)
    exact ⟨d2, by simp only [get_fput, reduceIte, Nat.reduceEqDiff]; exact q1, by omega, .inl trivial⟩
  (repeat' (first | refine To.seq hxE2 ?_ | refine To.op0 hxE2 (by simp only [go_sem, eqs hxE2, reduceIte, Nat.reduceEqDiff, Nat.reduceAdd, Nat.reduceMul, Nat.reduceLT, Nat.reduceLeDiff, Int.reduceLT, Int.reduceLE, Int.reduceEq, reduceCtorEq, Int.reduceBEq, Int.reduceBNe, Int.reduceToNat, Nat.reduceSub, Nat.reduceDiv, Int.reduceNeg, Int.reduceAdd, Int.reduceSub, Int.reduceMul, Heap.gets, Heap.sets, Heap.get, bytesA_length, bytesA_one, bytesA_plains, List.take_of_length_le, List.drop_of_length_le, Nat.add_zero, V.one, Nat.reduceLeDiff, List.all_cons, List.all_nil, ne_eq, not_false_eq_true, Nat.zero_le, h, hs, List.set_set, l1, l2, m1, m2]; rfl) ?_ | refine To.op1 hxE2 (by simp only [go_sem, eqs hxE2, reduceIte, Nat.reduceEqDiff, Nat.reduceAdd, Nat.reduceMul, Nat.reduceLT, Nat.reduceLeDiff, Int.reduceLT, Int.reduceLE, Int.reduceEq, reduceCtorEq, Int.reduceBEq, Int.reduceBNe, Int.reduceToNat, Nat.reduceSub, Nat.reduceDiv, Int.reduceNeg, Int.reduceAdd, Int.reduceSub, Int.reduceMul, Heap.gets, Heap.sets, Heap.get, bytesA_length, bytesA_one, bytesA_plains, List.take_of_length_le, List.drop_of_length_le, Nat.add_zero, V.one, Nat.reduceLeDiff, List.all_cons, List.all_nil, ne_eq, not_false_eq_true, Nat.zero_le, h, hs, List.set_set, l1, l2, m1, m2]; rfl) ?_ | refine To.nop hxE2 ?_ | (refine To.condT hxE2 ?_ ?_; focus (simp only [go_sem, eqs hxE2, reduceIte, Nat.reduceEqDiff, Nat.reduceAdd, Nat.reduceMul, Nat.reduceLT, Nat.reduceLeDiff, Int.reduceLT, Int.reduceLE, Int.reduceEq, reduceCtorEq, Int.reduceBEq, Int.reduceBNe, Int.reduceToNat, Nat.reduceSub, Nat.reduceDiv, Int.reduceNeg, Int.reduceAdd, Int.reduceSub, Int.reduceMul, Heap.gets, Heap.sets, Heap.get, bytesA_length, bytesA_one, bytesA_plains, List.take_of_length_le, List.drop_of_length_le, Nat.add_zero, V.one, Nat.reduceLeDiff, List.all_cons, List.all_nil, ne_eq, not_false_eq_true, Nat.zero_le, h, hs, List.set_set, l1, l2, m1, m2]; done)) | (refine To.condF hxE2 ?_ ?_; focus (simp only [go_sem, eqs hxE2, reduceIte, Nat.reduceEqDiff, Nat.reduceAdd, Nat.reduceMul, Nat.reduceLT, Nat.reduceLeDiff, Int.reduceLT, Int.reduceLE, Int.reduceEq, reduceCtorEq, Int.reduceBEq, Int.reduceBNe, Int.reduceToNat, Nat.reduceSub, Nat.reduceDiv, Int.reduceNeg, Int.reduceAdd, Int.reduceSub, Int.reduceMul, Heap.gets, Heap.sets, Heap.get, bytesA_length, bytesA_one, bytesA_plains, List.take_of_length_le, List.drop_of_length_le, Nat.add_zero, V.one, Nat.reduceLeDiff, List.all_cons, List.all_nil, ne_eq, not_false_eq_true, Nat.zero_le, h, hs, List.set_set, l1, l2, m1, m2]; done)) | refine To.block hxE2 ?_ | refine To.scope hxE2 ?_ | refine To.ret hxE2 ?_ | refine To.exit hxE2 ?_ | refine To.skip hxE2 ?_ | refine To.label hxE2 ?_))
  refine ⟨_, _, fin1 (i := 2) rfl, by simp only [get_fput, reduceIte, Nat.reduceEqDiff]; simp [burnB], ?_⟩
  simp only [burnC, Bool.false_eq_true, if_false, if_true, List.cons_append, List.nil_append]
  obtain ⟨d2, q1, q2, q3⟩ := leave_same2 (o := o) (o' := o.set dd (.cells .ex t 0 (.bool true :: .bool (decide (IntKind.i64.wrap (left - 1) < 0)) :: .int .i64 (IntKind.i64.wrap (left - 1)) :: r))) (e := e) (d := d) (d' := min (min o.length dd) dd) (v := .bool (!decide (IntKind.i64.wrap (left - 1) < 0))) rfl (by simp) (fun hc => by omega)
  exact ⟨d2, by simp only [get_fput, reduceIte, Nat.reduceEqDiff]; exact q1, by omega, q3.imp id (fun h => by omega)⟩

theorem z64_len : z64.length = 64 := rfl
theorem z64_drop : List.drop 64 z64 = [] := rfl
theorem z64_take : List.take 64 z64 = z64 := rfl
theorem z64_one : z64.all V.one = true := rfl
theorem z64_plains : V.plains z64 = true := rfl

def burnD (on down : Bool) (left : Int) : Bool := if down = true then down else if on = true then decide (IntKind.i64.wrap (left - 1) < 0) else down
def burnL (on down : Bool) (left : Int) : Int := if down = true then left else if on = true then IntKind.i64.wrap (left - 1) else left
theorem burnC_eq (on down : Bool) (left : Int) : burnC on down left = [.bool on, .bool (burnD on down left), .int .i64 (burnL on down left)] := by
  unfold burnC burnD burnL
  cases down <;> cases on <;> rfl

section
variable {o : List AM.Obj} {e d dd pg lm : Nat} {on down : Bool} {left : Int} {pgs : List Pg} {ca : List (Nat × Pg)}
theorem PD.lp (P : PD o dd pg lm on down left pgs ca) : pg < o.length := get_lt P.hp
theorem PD.ld (P : PD o dd pg lm on down left pgs ca) : dd < o.length := get_lt P.hd
theorem PD.ll (P : PD o dd pg lm on down left pgs ca) : lm < o.length := get_lt P.hm

theorem fin_kc {a : AF} {h : Heap} {S : Nat → V} {h' : Heap} {j l n : Nat} {cs : List V} (hr : a.res = [.c j (some n)]) (hS : S j = .ptr l 0) (hg : h'.gets l 0 n = some cs) (hp : V.plains cs = true) (k : Kp h h') : finish a h (some (.ret, S, h')) = some (.val (.agg cs), none) := by
  have h1 : resAll S h' a.res = some [.agg cs] := by
    rw [hr]; unfold resAll resOne; simp only [get_slots, hS, hg, Option.map_some, resAll]
  exact fin_k (vs := [.agg cs]) h1 rfl hp k
theorem fin_kc2 {a : AF} {h : Heap} {S : Nat → V} {h' : Heap} {j i l n : Nat} {cs : List V} {v : V} (hr : a.res = [.c j (some n), .t i]) (hS : S j = .ptr l 0) (hi : S i = v) (hg : h'.gets l 0 n = some cs) (hp : V.plains cs = true) (hv : v.plain = true) (k : Kp h h') : finish a h (some (.ret, S, h')) = some (.val (.tuple [.agg cs, v]), none) := by
  have h1 : resAll S h' a.res = some [.agg cs, v] := by
    rw [hr]; unfold resAll resOne; simp only [get_slots, hS, hg, hi, Option.map_some, resAll, resOne]
  exact fin_k (vs := [.agg cs, v]) h1 rfl (by simp [V.plain, V.plains, hp, hv]) k
theorem kp_app {o r : List AM.Obj} {e d e' d' : Nat} (he : o.length ≤ e') (hd : o.length ≤ d') : Kp ⟨o, e, d⟩ ⟨o ++ r, e', d'⟩ := Kp.app (Kp.enter' ⟨o, e, d⟩) r he hd
theorem gets_app {o : List AM.Obj} {e d t : Nat} {cs : List V} (h : cs.length = 64) : (⟨o ++ [.cells .ex t 0 cs], e, d⟩ : Heap).gets o.length 0 64 = some cs := by
  simp only [Heap.gets, app_get0, Nat.zero_add, h, Nat.le_refl, if_true, List.drop_zero]
  rw [if_neg (by decide), List.take_of_length_le (by omega)]

theorem PD.app (P : PD o dd pg lm on down left pgs ca) (r : List AM.Obj) : PD (o ++ r) dd pg lm on down left pgs ca := ⟨app_old P.hd r, app_old P.hp r, app_old P.hm r, P.p64, P.c64, P.nd⟩
theorem gets_app2 {o : List AM.Obj} {e d t : Nat} {cs : List V} {r : List AM.Obj} (h : cs.length = 64) : (⟨o ++ (.cells .ex t 0 cs :: r), e, d⟩ : Heap).gets o.length 0 64 = some cs := by
  simp only [Heap.gets, app_get0, Nat.zero_add, h, Nat.le_refl, if_true, List.drop_zero]
  rw [if_neg (by decide), List.take_of_length_le (by omega)]

set_option maxHeartbeats 4000000 in
theorem lasts_q (P : PD o dd pg lm on down left pgs ca) (i : Int) : Den FF E2 14 [.ptr dd 0, .int .i64 i] ⟨o, e, d⟩ = some (.val (.agg (bytesA (lastP pgs i))), none) := by
  refine To.den hxE2 (f := 14) (a := af14) rfl (E2_none rfl) (Nat.le_of_ble_eq_true rfl) ?_
  have gd : ∀ r, (o ++ r)[dd]? = some (.cells .ex 92 0 [.bool on, .bool down, .int .i64 left, .slice pg 0 pgs.length 64, .map lm]) := fun r => app_old P.hd r
  have gp : ∀ r, (o ++ r)[pg]? = some (.cells .ex 31 0 (pgC pgs)) := fun r => app_old P.hp r
  unfold lastP
  by_cases h1 : i < 0
  · have d1 : decide (i < 0) = true := decide_eq_true h1
    rw [if_pos h1]
    (repeat' (first | refine To.seq hxE2 ?_ | refine To.op0 hxE2 (by simp only [go_sem, eqs hxE2, reduceIte, Nat.reduceEqDiff, Nat.reduceAdd, Nat.reduceMul, Nat.reduceLT, Nat.reduceLeDiff, Int.reduceLT, Int.reduceLE, Int.reduceEq, reduceCtorEq, Int.reduceBEq, Int.reduceBNe, Int.reduceToNat, Nat.reduceSub, Nat.reduceDiv, Int.reduceNeg, Int.reduceAdd, Int.reduceSub, Int.reduceMul, Heap.gets, Heap.sets, Heap.get, bytesA_length, bytesA_one, bytesA_plains, List.take_of_length_le, List.drop_of_length_le, Nat.add_zero, V.one, Nat.reduceLeDiff, List.all_cons, List.all_nil, ne_eq, not_false_eq_true, Nat.zero_le, gd, d1, z64_len, z64_drop, z64_one, z64_plains]; rfl) ?_ | refine To.op1 hxE2 (by simp only [go_sem, eqs hxE2, reduceIte, Nat.reduceEqDiff, Nat.reduceAdd, Nat.reduceMul, Nat.reduceLT, Nat.reduceLeDiff, Int.reduceLT, Int.reduceLE, Int.reduceEq, reduceCtorEq, Int.reduceBEq, Int.reduceBNe, Int.reduceToNat, Nat.reduceSub, Nat.reduceDiv, Int.reduceNeg, Int.reduceAdd, Int.reduceSub, Int.reduceMul, Heap.gets, Heap.sets, Heap.get, bytesA_length, bytesA_one, bytesA_plains, List.take_of_length_le, List.drop_of_length_le, Nat.add_zero, V.one, Nat.reduceLeDiff, List.all_cons, List.all_nil, ne_eq, not_false_eq_true, Nat.zero_le, gd, d1, z64_len, z64_drop, z64_one, z64_plains]; rfl) ?_ | refine To.nop hxE2 ?_ | (refine To.condT hxE2 ?_ ?_; focus (simp only [go_sem, eqs hxE2, reduceIte, Nat.reduceEqDiff, Nat.reduceAdd, Nat.reduceMul, Nat.reduceLT, Nat.reduceLeDiff, Int.reduceLT, Int.reduceLE, Int.reduceEq, reduceCtorEq, Int.reduceBEq, Int.reduceBNe, Int.reduceToNat, Nat.reduceSub, Nat.reduceDiv, Int.reduceNeg, Int.reduceAdd, Int.reduceSub, Int.reduceMul, Heap.gets, Heap.sets, Heap.get, bytesA_length, bytesA_one, bytesA_plains, List.take_of_length_le, List.drop_of_length_le, Nat.add_zero, V.one, Nat.reduceLeDiff, List.all_cons, List.all_nil, ne_eq, not_false_eq_true, Nat.zero_le, gd, d1, z64_len, z64_drop, z64_one, z64_plains]; done)) | (refine To.condF hxE2 ?_ ?_; focus (simp only [go_sem, eqs hxE2, reduceIte, Nat.reduceEqDiff, Nat.reduceAdd, Nat.reduceMul, Nat.reduceLT, Nat.reduceLeDiff, Int.reduceLT, Int.reduceLE, Int.reduceEq, reduceCtorEq, Int.reduceBEq, Int.reduceBNe, Int.reduceToNat, Nat.reduceSub, Nat.reduceDiv, Int.reduceNeg, Int.reduceAdd, Int.reduceSub, Int.reduceMul, Heap.gets, Heap.sets, Heap.get, bytesA_length, bytesA_one, bytesA_plains, List.take_of_length_le, List.drop_of_length_le, Nat.add_zero, V.one, Nat.reduceLeDiff, List.all_cons, List.all_nil, ne_eq, not_false_eq_true, Nat.zero_le, gd, d1, z64_len, z64_drop, z64_one, z64_plains]; done)) | refine To.block hxE2 ?_ | refine To.scope hxE2 ?_ | refine To.ret hxE2 ?_ | refine To.exit hxE2 ?_ | refine To.skip hxE2 ?_ | refine To.label hxE2 ?_))
    try simp only [andThen, outOf]
    exact fin_kc (cs := z64) (l := o.length) rfl (by simp only [go_sem, eqs hxE2, reduceIte, Nat.reduceEqDiff, Nat.reduceAdd, Nat.reduceMul, Nat.reduceLT, Nat.reduceLeDiff, Int.reduceLT, Int.reduceLE, Int.reduceEq, reduceCtorEq, Int.reduceBEq, Int.reduceBNe, Int.reduceToNat, Nat.reduceSub, Nat.reduceDiv, Int.reduceNeg, Int.reduceAdd, Int.reduceSub, Int.reduceMul]) (gets_app rfl) rfl (kp_app (by omega) (by omega))
  have d1 : decide (i < 0) = false := decide_eq_false h1
  rw [if_neg h1]
  obtain ⟨k, rfl⟩ := Int.eq_ofNat_of_zero_le (Int.not_lt.1 h1)
  by_cases h2 : pgs.length ≤ k
  · have d2 : decide ((pgs.length : Int) ≤ (k : Int)) = true := decide_eq_true (by omega)
    (repeat' (first | refine To.seq hxE2 ?_ | refine To.op0 hxE2 (by simp only [go_sem, eqs hxE2, reduceIte, Nat.reduceEqDiff, Nat.reduceAdd, Nat.reduceMul, Nat.reduceLT, Nat.reduceLeDiff, Int.reduceLT, Int.reduceLE, Int.reduceEq, reduceCtorEq, Int.reduceBEq, Int.reduceBNe, Int.reduceToNat, Nat.reduceSub, Nat.reduceDiv, Int.reduceNeg, Int.reduceAdd, Int.reduceSub, Int.reduceMul, Heap.gets, Heap.sets, Heap.get, bytesA_length, bytesA_one, bytesA_plains, List.take_of_length_le, List.drop_of_length_le, Nat.add_zero, V.one, Nat.reduceLeDiff, List.all_cons, List.all_nil, ne_eq, not_false_eq_true, Nat.zero_le, gd, d1, d2, z64_len, z64_drop, z64_one, z64_plains]; rfl) ?_ | refine To.op1 hxE2 (by simp only [go_sem, eqs hxE2, reduceIte, Nat.reduceEqDiff, Nat.reduceAdd, Nat.reduceMul, Nat.reduceLT, Nat.reduceLeDiff, Int.reduceLT, Int.reduceLE, Int.reduceEq, reduceCtorEq, Int.reduceBEq, Int.reduceBNe, Int.reduceToNat, Nat.reduceSub, Nat.reduceDiv, Int.reduceNeg, Int.reduceAdd, Int.reduceSub, Int.reduceMul, Heap.gets, Heap.sets, Heap.get, bytesA_length, bytesA_one, bytesA_plains, List.take_of_length_le, List.drop_of_length_le, Nat.add_zero, V.one, Nat.reduceLeDiff, List.all_cons, List.all_nil, ne_eq, not_false_eq_true, Nat.zero_le, gd, d1, d2, z64_len, z64_drop, z64_one, z64_plains]; rfl) ?_ | refine To.nop hxE2 ?_ | (refine To.condT hxE2 ?_ ?_; focus (simp only [go_sem, eqs hxE2, reduceIte, Nat.reduceEqDiff, Nat.reduceAdd, Nat.reduceMul, Nat.reduceLT, Nat.reduceLeDiff, Int.reduceLT, Int.reduceLE, Int.reduceEq, reduceCtorEq, Int.reduceBEq, Int.reduceBNe, Int.reduceToNat, Nat.reduceSub, Nat.reduceDiv, Int.reduceNeg, Int.reduceAdd, Int.reduceSub, Int.reduceMul, Heap.gets, Heap.sets, Heap.get, bytesA_length, bytesA_one, bytesA_plains, List.take_of_length_le, List.drop_of_length_le, Nat.add_zero, V.one, Nat.reduceLeDiff, List.all_cons, List.all_nil, ne_eq, not_false_eq_true, Nat.zero_le, gd, d1, d2, z64_len, z64_drop, z64_one, z64_plains]; done)) | (refine To.condF hxE2 ?_ ?_; focus (simp only [go_sem, eqs hxE2, reduceIte, Nat.reduceEqDiff, Nat.reduceAdd, Nat.reduceMul, Nat.reduceLT, Nat.reduceLeDiff, Int.reduceLT, Int.reduceLE, Int.reduceEq, reduceCtorEq, Int.reduceBEq, Int.reduceBNe, Int.reduceToNat, Nat.reduceSub, Nat.reduceDiv, Int.reduceNeg, Int.reduceAdd, Int.reduceSub, Int.reduceMul, Heap.gets, Heap.sets, Heap.get, bytesA_length, bytesA_one, bytesA_plains, List.take_of_length_le, List.drop_of_length_le, Nat.add_zero, V.one, Nat.reduceLeDiff, List.all_cons, List.all_nil, ne_eq, not_false_eq_true, Nat.zero_le, gd, d1, d2, z64_len, z64_drop, z64_one, z64_plains]; done)) | refine To.block hxE2 ?_ | refine To.scope hxE2 ?_ | refine To.ret hxE2 ?_ | refine To.exit hxE2 ?_ | refine To.skip hxE2 ?_ | refine To.label hxE2 ?_))
    try simp only [andThen, outOf]
    have e1 : pgs.getD (Int.toNat (k : Int)) (zs 64) = zs 64 := by rw [Int.toNat_natCast, List.getD_eq_getElem?_getD, List.getElem?_eq_none h2]; rfl
    rw [e1]
    exact fin_kc (cs := z64) (l := o.length) rfl (by simp only [go_sem, eqs hxE2, reduceIte, Nat.reduceEqDiff, Nat.reduceAdd, Nat.reduceMul, Nat.reduceLT, Nat.reduceLeDiff, Int.reduceLT, Int.reduceLE, Int.reduceEq, reduceCtorEq, Int.reduceBEq, Int.reduceBNe, Int.reduceToNat, Nat.reduceSub, Nat.reduceDiv, Int.reduceNeg, Int.reduceAdd, Int.reduceSub, Int.reduceMul]) (gets_app rfl) rfl (kp_app (by omega) (by omega))
  have d2 : decide ((pgs.length : Int) ≤ (k : Int)) = false := decide_eq_false (by omega)
  have hk : k < pgs.length := by omega
  have hg : pgs[k]? = some pgs[k] := List.getElem?_eq_getElem hk
  have e1 : pgs.getD (Int.toNat (k : Int)) (zs 64) = pgs[k] := by rw [Int.toNat_natCast, List.getD_eq_getElem?_getD, hg]; rfl
  rw [e1]
  have hat := pgC_at P.p64 hg
  have hkk : (k + 1) * 64 ≤ pgs.length * 64 := Nat.mul_le_mul_right 64 hk
  have hle : k * 64 + 64 ≤ (pgC pgs).length := by rw [pgC_len P.p64]; omega
  have ix : idxOf pgs.length (.int .i64 (k : Int)) = some k := idxOf_nat hk
  have h64 := P.p64 _ (List.getElem_mem hk)
  generalize pgs[k] = p at hat h64 ⊢
  (repeat' (first | refine To.seq hxE2 ?_ | refine To.op0 hxE2 (by simp only [go_sem, eqs hxE2, reduceIte, Nat.reduceEqDiff, Nat.reduceAdd, Nat.reduceMul, Nat.reduceLT, Nat.reduceLeDiff, Int.reduceLT, Int.reduceLE, Int.reduceEq, reduceCtorEq, Int.reduceBEq, Int.reduceBNe, Int.reduceToNat, Nat.reduceSub, Nat.reduceDiv, Int.reduceNeg, Int.reduceAdd, Int.reduceSub, Int.reduceMul, Heap.gets, Heap.sets, Heap.get, bytesA_length, bytesA_one, bytesA_plains, List.take_of_length_le, List.drop_of_length_le, Nat.add_zero, V.one, Nat.reduceLeDiff, List.all_cons, List.all_nil, ne_eq, not_false_eq_true, Nat.zero_le, gd, gp, d1, d2, ix, hle, hat, h64, z64_len, z64_drop, z64_one, z64_plains]; rfl) ?_ | refine To.op1 hxE2 (by simp only [go_sem, eqs hxE2, reduceIte, Nat.reduceEqDiff, Nat.reduceAdd, Nat.reduceMul, Nat.reduceLT, Nat.reduceLeDiff, Int.reduceLT, Int.reduceLE, Int.reduceEq, reduceCtorEq, Int.reduceBEq, Int.reduceBNe, Int.reduceToNat, Nat.reduceSub, Nat.reduceDiv, Int.reduceNeg, Int.reduceAdd, Int.reduceSub, Int.reduceMul, Heap.gets, Heap.sets, Heap.get, bytesA_length, bytesA_one, bytesA_plains, List.take_of_length_le, List.drop_of_length_le, Nat.add_zero, V.one, Nat.reduceLeDiff, List.all_cons, List.all_nil, ne_eq, not_false_eq_true, Nat.zero_le, gd, gp, d1, d2, ix, hle, hat, h64, z64_len, z64_drop, z64_one, z64_plains]; rfl) ?_ | refine To.nop hxE2 ?_ | (refine To.condT hxE2 ?_ ?_; focus (simp only [go_sem, eqs hxE2, reduceIte, Nat.reduceEqDiff, Nat.reduceAdd, Nat.reduceMul, Nat.reduceLT, Nat.reduceLeDiff, Int.reduceLT, Int.reduceLE, Int.reduceEq, reduceCtorEq, Int.reduceBEq, Int.reduceBNe, Int.reduceToNat, Nat.reduceSub, Nat.reduceDiv, Int.reduceNeg, Int.reduceAdd, Int.reduceSub, Int.reduceMul, Heap.gets, Heap.sets, Heap.get, bytesA_length, bytesA_one, bytesA_plains, List.take_of_length_le, List.drop_of_length_le, Nat.add_zero, V.one, Nat.reduceLeDiff, List.all_cons, List.all_nil, ne_eq, not_false_eq_true, Nat.zero_le, gd, gp, d1, d2, ix, hle, hat, h64, z64_len, z64_drop, z64_one, z64_plains]; done)) | (refine To.condF hxE2 ?_ ?_; focus (simp only [go_sem, eqs hxE2, reduceIte, Nat.reduceEqDiff, Nat.reduceAdd, Nat.reduceMul, Nat.reduceLT, Nat.reduceLeDiff, Int.reduceLT, Int.reduceLE, Int.reduceEq, reduceCtorEq, Int.reduceBEq, Int.reduceBNe, Int.reduceToNat, Nat.reduceSub, Nat.reduceDiv, Int.reduceNeg, Int.reduceAdd, Int.reduceSub, Int.reduceMul, Heap.gets, Heap.sets, Heap.get, bytesA_length, bytesA_one, bytesA_plains, List.take_of_length_le, List.drop_of_length_le, Nat.add_zero, V.one, Nat.reduceLeDiff, List.all_cons, List.all_nil, ne_eq, not_false_eq_true, Nat.zero_le, gd, gp, d1, d2, ix, hle, hat, h64, z64_len, z64_drop, z64_one, z64_plains]; done)) | refine To.block hxE2 ?_ | refine To.scope hxE2 ?_ | refine To.ret hxE2 ?_ | refine To.exit hxE2 ?_ | refine To.skip hxE2 ?_ | refine To.label hxE2 ?_))
  try simp only [andThen, outOf]
  exact fin_kc (cs := bytesA p) (l := o.length) rfl (by simp only [go_sem, eqs hxE2, reduceIte, Nat.reduceEqDiff, Nat.reduceAdd, Nat.reduceMul, Nat.reduceLT, Nat.reduceLeDiff, Int.reduceLT, Int.reduceLE, Int.reduceEq, reduceCtorEq, Int.reduceBEq, Int.reduceBNe, Int.reduceToNat, Nat.reduceSub, Nat.reduceDiv, Int.reduceNeg, Int.reduceAdd, Int.reduceSub, Int.reduceMul]) (gets_app (by rw [bytesA_length]; exact h64)) (bytesA_plains _) (kp_app (by omega) (by omega))

def readP (down : Bool) (pgs : List Pg) (ca : List (Nat × Pg)) (i : Int) : Pg := if hasE down pgs.length i = 0 then (findC i.toNat ca).getD (pgs.getD i.toNat (zs 64)) else zs 64

theorem hasE_ok {i : Int} {n : Nat} (h : hasE down n i = 0) : down = false ∧ ∃ k : Nat, i = (k : Int) ∧ k < n := by
  unfold hasE at h
  split at h
  · cases h
  · rename_i hd
    split at h
    · cases h
    · rename_i hi
      obtain ⟨k, rfl⟩ := Int.eq_ofNat_of_zero_le (a := i) (by omega)
      exact ⟨by simpa using hd, k, rfl, by omega⟩
set_option maxHeartbeats 4000000 in
theorem read_q (P : PD o dd pg lm on down left pgs ca) (i : Int) : Den FF E2 17 [.ptr dd 0, .int .i64 i] ⟨o, e, d⟩ = some (.val (.tuple [.agg (bytesA (readP down pgs ca i)), .int .i64 (hasE down pgs.length i)]), none) := by
  refine To.den hxE2 (f := 17) (a := af17) rfl (E2_none rfl) (Nat.le_of_ble_eq_true rfl) ?_
  have q := has_q (e := o.length) (d := o.length) (P.app [.cells .ex 31 0 z64]) i
  have gd : ∀ r, (o ++ r)[dd]? = some (.cells .ex 92 0 [.bool on, .bool down, .int .i64 left, .slice pg 0 pgs.length 64, .map lm]) := fun r => app_old P.hd r
  have gp : ∀ r, (o ++ r)[pg]? = some (.cells .ex 31 0 (pgC pgs)) := fun r => app_old P.hp r
  have gm : ∀ r, (o ++ r)[lm]? = some (.map (ca.map ent)) := fun r => app_old P.hm r
  unfold readP
  by_cases h0 : hasE down pgs.length i = 0
  · rw [if_pos h0]
    rw [h0] at q ⊢
    obtain ⟨_, k, rfl, hk⟩ := hasE_ok h0
    rw [Int.toNat_natCast]
    have hkey : V.key .i (.int .i64 (k : Int)) = true := rfl
    have hmf := mapFind_ent k ca
    cases hf : findC k ca with
    | some p =>
      rw [hf] at hmf
      have hp64 : p.length = 64 := by
        unfold findC at hf
        obtain ⟨x, hx, rfl⟩ := Option.map_eq_some_iff.1 hf
        exact (P.c64 x (List.mem_of_find?_eq_some hx)).1
      have htk : List.take 64 (bytesA p) = bytesA p := List.take_of_length_le (by rw [bytesA_length]; omega)
      have hdr : List.drop 64 (bytesA p) = [] := List.drop_eq_nil_of_le (by rw [bytesA_length]; omega)
      (repeat' (first | refine To.seq hxE2 ?_ | refine To.op0 hxE2 (by simp only [go_sem, eqs hxE2, reduceIte, Nat.reduceEqDiff, Nat.reduceAdd, Nat.reduceMul, Nat.reduceLT, Nat.reduceLeDiff, Int.reduceLT, Int.reduceLE, Int.reduceEq, reduceCtorEq, Int.reduceBEq, Int.reduceBNe, Int.reduceToNat, Nat.reduceSub, Nat.reduceDiv, Int.reduceNeg, Int.reduceAdd, Int.reduceSub, Int.reduceMul, Heap.gets, Heap.sets, Heap.get, bytesA_length, bytesA_one, bytesA_plains, List.take_of_length_le, List.drop_of_length_le, Nat.add_zero, V.one, Nat.reduceLeDiff, List.all_cons, List.all_nil, ne_eq, not_false_eq_true, Nat.zero_le, q, gd, gp, gm, hkey, hmf, hp64, htk, hdr, z64_len, z64_drop, z64_one, z64_plains, bne_self_eq_false, Option.isSome_some]; rfl) ?_ | refine To.op1 hxE2 (by simp only [go_sem, eqs hxE2, reduceIte, Nat.reduceEqDiff, Nat.reduceAdd, Nat.reduceMul, Nat.reduceLT, Nat.reduceLeDiff, Int.reduceLT, Int.reduceLE, Int.reduceEq, reduceCtorEq, Int.reduceBEq, Int.reduceBNe, Int.reduceToNat, Nat.reduceSub, Nat.reduceDiv, Int.reduceNeg, Int.reduceAdd, Int.reduceSub, Int.reduceMul, Heap.gets, Heap.sets, Heap.get, bytesA_length, bytesA_one, bytesA_plains, List.take_of_length_le, List.drop_of_length_le, Nat.add_zero, V.one, Nat.reduceLeDiff, List.all_cons, List.all_nil, ne_eq, not_false_eq_true, Nat.zero_le, q, gd, gp, gm, hkey, hmf, hp64, htk, hdr, z64_len, z64_drop, z64_one, z64_plains, bne_self_eq_false, Option.isSome_some]; rfl) ?_ | refine To.nop hxE2 ?_ | (refine To.condT hxE2 ?_ ?_; focus (simp only [go_sem, eqs hxE2, reduceIte, Nat.reduceEqDiff, Nat.reduceAdd, Nat.reduceMul, Nat.reduceLT, Nat.reduceLeDiff, Int.reduceLT, Int.reduceLE, Int.reduceEq, reduceCtorEq, Int.reduceBEq, Int.reduceBNe, Int.reduceToNat, Nat.reduceSub, Nat.reduceDiv, Int.reduceNeg, Int.reduceAdd, Int.reduceSub, Int.reduceMul, Heap.gets, Heap.sets, Heap.get, bytesA_length, bytesA_one, bytesA_plains, List.take_of_length_le, List.drop_of_length_le, Nat.add_zero, V.one, Nat.reduceLeDiff, List.all_cons, List.all_nil, ne_eq, not_false_eq_true, Nat.zero_le, q, gd, gp, gm, hkey, hmf, hp64, htk, hdr, z64_len, z64_drop, z64_one, z64_plains, bne_self_eq_false, Option.isSome_some]; done)) | (refine To.condF hxE2 ?_ ?_; focus (simp only [go_sem, eqs hxE2, reduceIte, Nat.reduceEqDiff, Nat.reduceAdd, Nat.reduceMul, Nat.reduceLT, Nat.reduceLeDiff, Int.reduceLT, Int.reduceLE, Int.reduceEq, reduceCtorEq, Int.reduceBEq, Int.reduceBNe, Int.reduceToNat, Nat.reduceSub, Nat.reduceDiv, Int.reduceNeg, Int.reduceAdd, Int.reduceSub, Int.reduceMul, Heap.gets, Heap.sets, Heap.get, bytesA_length, bytesA_one, bytesA_plains, List.take_of_length_le, List.drop_of_length_le, Nat.add_zero, V.one, Nat.reduceLeDiff, List.all_cons, List.all_nil, ne_eq, not_false_eq_true, Nat.zero_le, q, gd, gp, gm, hkey, hmf, hp64, htk, hdr, z64_len, z64_drop, z64_one, z64_plains, bne_self_eq_false, Option.isSome_some]; done)) | refine To.block hxE2 ?_ | refine To.scope hxE2 ?_ | refine To.ret hxE2 ?_ | refine To.exit hxE2 ?_ | refine To.skip hxE2 ?_ | refine To.label hxE2 ?_))
      try simp only [andThen, outOf]
      exact fin_kc2 (cs := bytesA p) (l := o.length) rfl (by simp only [go_sem, eqs hxE2, reduceIte, Nat.reduceEqDiff, Nat.reduceAdd, Nat.reduceMul, Nat.reduceLT, Nat.reduceLeDiff, Int.reduceLT, Int.reduceLE, Int.reduceEq, reduceCtorEq, Int.reduceBEq, Int.reduceBNe, Int.reduceToNat, Nat.reduceSub, Nat.reduceDiv, Int.reduceNeg, Int.reduceAdd, Int.reduceSub, Int.reduceMul]) (by simp only [go_sem, eqs hxE2, reduceIte, Nat.reduceEqDiff, Nat.reduceAdd, Nat.reduceMul, Nat.reduceLT, Nat.reduceLeDiff, Int.reduceLT, Int.reduceLE, Int.reduceEq, reduceCtorEq, Int.reduceBEq, Int.reduceBNe, Int.reduceToNat, Nat.reduceSub, Nat.reduceDiv, Int.reduceNeg, Int.reduceAdd, Int.reduceSub, Int.reduceMul]) (gets_app2 (by rw [bytesA_length]; exact hp64)) (bytesA_plains _) rfl (kp_app (by omega) (by omega))
    | none =>
      rw [hf] at hmf
      have hg : pgs[k]? = some pgs[k] := List.getElem?_eq_getElem hk
      have e1 : pgs.getD k (zs 64) = pgs[k] := by rw [List.getD_eq_getElem?_getD, hg]; rfl
      rw [Option.getD_none, e1]
      have hat := pgC_at P.p64 hg
      have hkk : (k + 1) * 64 ≤ pgs.length * 64 := Nat.mul_le_mul_right 64 hk
      have hle : k * 64 + 64 ≤ (pgC pgs).length := by rw [pgC_len P.p64]; omega
      have ix : idxOf pgs.length (.int .i64 (k : Int)) = some k := idxOf_nat hk
      have h64 := P.p64 _ (List.getElem_mem hk)
      generalize pgs[k] = p at hat h64 ⊢
      (repeat' (first | refine To.seq hxE2 ?_ | refine To.op0 hxE2 (by simp only [go_sem, eqs hxE2, reduceIte, Nat.reduceEqDiff, Nat.reduceAdd, Nat.reduceMul, Nat.reduceLT, Nat.reduceLeDiff, Int.reduceLT, Int.reduceLE, Int.reduceEq, reduceCtorEq, Int.reduceBEq, Int.reduceBNe, Int.reduceToNat, Nat.reduceSub, Nat.reduceDiv, Int.reduceNeg, Int.reduceAdd, Int.reduceSub, Int.reduceMul, Heap.gets, Heap.sets, Heap.get, bytesA_length, bytesA_one, bytesA_plains, List.take_of_length_le, List.drop_of_length_le, Nat.add_zero, V.one, Nat.reduceLeDiff, List.all_cons, List.all_nil, ne_eq, not_false_eq_true, Nat.zero_le, q, gd, gp, gm, hkey, hmf, ix, hle, hat, h64, z64_len, z64_drop, z64_one, z64_plains, bne_self_eq_false, Option.isSome_none, Option.getD_none]; rfl) ?_ | refine To.op1 hxE2 (by simp only [go_sem, eqs hxE2, reduceIte, Nat.reduceEqDiff, Nat.reduceAdd, Nat.reduceMul, Nat.reduceLT, Nat.reduceLeDiff, Int.reduceLT, Int.reduceLE, Int.reduceEq, reduceCtorEq, Int.reduceBEq, Int.reduceBNe, Int.reduceToNat, Nat.reduceSub, Nat.reduceDiv, Int.reduceNeg, Int.reduceAdd, Int.reduceSub, Int.reduceMul, Heap.gets, Heap.sets, Heap.get, bytesA_length, bytesA_one, bytesA_plains, List.take_of_length_le, List.drop_of_length_le, Nat.add_zero, V.one, Nat.reduceLeDiff, List.all_cons, List.all_nil, ne_eq, not_false_eq_true, Nat.zero_le, q, gd, gp, gm, hkey, hmf, ix, hle, hat, h64, z64_len, z64_drop, z64_one, z64_plains, bne_self_eq_false, Option.isSome_none, Option.getD_none]; rfl) ?_ | refine To.nop hxE2 ?_ | (refine To.condT hxE2 ?_ ?_; focus (simp only [go_sem, eqs hxE2, reduceIte, Nat.reduceEqDiff, Nat.reduceAdd, Nat.reduceMul, Nat.reduceLT, Nat.reduceLeDiff, Int.reduceLT, Int.reduceLE, Int.reduceEq, reduceCtorEq, Int.reduceBEq, Int.reduceBNe, Int.reduceToNat, Nat.reduceSub, Nat.reduceDiv, Int.reduceNeg, Int.reduceAdd, Int.reduceSub, Int.reduceMul, Heap.gets, Heap.sets, Heap.get, bytesA_length, bytesA_one, bytesA_plains, List.take_of_length_le, List.drop_of_length_le, Nat.add_zero, V.one, Nat.reduceLeDiff, List.all_cons, List.all_nil, ne_eq, not_false_eq_true, Nat.zero_le, q, gd, gp, gm, hkey, hmf, ix, hle, hat, h64, z64_len, z64_drop, z64_one, z64_plains, bne_self_eq_false, Option.isSome_none, Option.getD_none]; done)) | (refine To.condF hxE2 ?_ ?_; focus (simp only [go_sem, eqs hxE2, reduceIte, Nat.reduceEqDiff, Nat.reduceAdd, Nat.reduceMul, Nat.reduceLT, Nat.reduceLeDiff, Int.reduceLT, Int.reduceLE, Int.reduceEq, reduceCtorEq, Int.reduceBEq, Int.reduceBNe, Int.reduceToNat, Nat.reduceSub, Nat.reduceDiv, Int.reduceNeg, Int.reduceAdd, Int.reduceSub, Int.reduceMul, Heap.gets, Heap.sets, Heap.get, bytesA_length, bytesA_one, bytesA_plains, List.take_of_length_le, List.drop_of_length_le, Nat.add_zero, V.one, Nat.reduceLeDiff, List.all_cons, List.all_nil, ne_eq, not_false_eq_true, Nat.zero_le, q, gd, gp, gm, hkey, hmf, ix, hle, hat, h64, z64_len, z64_drop, z64_one, z64_plains, bne_self_eq_false, Option.isSome_none, Option.getD_none]; done)) | refine To.block hxE2 ?_ | refine To.scope hxE2 ?_ | refine To.ret hxE2 ?_ | refine To.exit hxE2 ?_ | refine To.skip hxE2 ?_ | refine To.label hxE2 ?_))
      try simp only [andThen, outOf]
      exact fin_kc2 (cs := bytesA p) (l := o.length) rfl (by simp only [go_sem, eqs hxE2, reduceIte, Nat.reduceEqDiff, Nat.reduceAdd, Nat.reduceMul, Nat.reduceLT, Nat.reduceLeDiff, Int.reduceLT, Int.reduceLE, Int.reduceEq, reduceCtorEq, Int.reduceBEq, Int.reduceBNe, Int.reduceToNat, Nat.reduceSub, Nat.reduceDiv, Int.reduceNeg, Int.reduceAdd, Int.reduceSub, Int.reduceMul]) (by simp only [go_sem, eqs hxE2, reduceIte, Nat.reduceEqDiff, Nat.reduceAdd, Nat.reduceMul, Nat.reduceLT, Nat.reduceLeDiff, Int.reduceLT, Int.reduceLE, Int.reduceEq, reduceCtorEq, Int.reduceBEq, Int.reduceBNe, Int.reduceToNat, Nat.reduceSub, Nat.reduceDiv, Int.reduceNeg, Int.reduceAdd, Int.reduceSub, Int.reduceMul]) (gets_app2 (by rw [bytesA_length]; exact h64)) (bytesA_plains _) rfl (kp_app (by omega) (by omega))
  · rw [if_neg h0]
    have hb : (hasE down pgs.length i != 0) = true := by simpa using h0
    generalize hasE down pgs.length i = er at q hb ⊢
    (repeat' (first | refine To.seq hxE2 ?_ | refine To.op0 hxE2 (by simp only [go_sem, eqs hxE2, reduceIte, Nat.reduceEqDiff, Nat.reduceAdd, Nat.reduceMul, Nat.reduceLT, Nat.reduceLeDiff, Int.reduceLT, Int.reduceLE, Int.reduceEq, reduceCtorEq, Int.reduceBEq, Int.reduceBNe, Int.reduceToNat, Nat.reduceSub, Nat.reduceDiv, Int.reduceNeg, Int.reduceAdd, Int.reduceSub, Int.reduceMul, Heap.gets, Heap.sets, Heap.get, bytesA_length, bytesA_one, bytesA_plains, List.take_of_length_le, List.drop_of_length_le, Nat.add_zero, V.one, Nat.reduceLeDiff, List.all_cons, List.all_nil, ne_eq, not_false_eq_true, Nat.zero_le, q, gd, gp, gm, hb, z64_len, z64_drop, z64_one, z64_plains]; rfl) ?_ | refine To.op1 hxE2 (by simp only [go_sem, eqs hxE2, reduceIte, Nat.reduceEqDiff, Nat.reduceAdd, Nat.reduceMul, Nat.reduceLT, Nat.reduceLeDiff, Int.reduceLT, Int.reduceLE, Int.reduceEq, reduceCtorEq, Int.reduceBEq, Int.reduceBNe, Int.reduceToNat, Nat.reduceSub, Nat.reduceDiv, Int.reduceNeg, Int.reduceAdd, Int.reduceSub, Int.reduceMul, Heap.gets, Heap.sets, Heap.get, bytesA_length, bytesA_one, bytesA_plains, List.take_of_length_le, List.drop_of_length_le, Nat.add_zero, V.one, Nat.reduceLeDiff, List.all_cons, List.all_nil, ne_eq, not_false_eq_true, Nat.zero_le, q, gd, gp, gm, hb, z64_len, z64_drop, z64_one, z64_plains]; rfl) ?_ | refine To.nop hxE2 ?_ | (refine To.condT hxE2 ?_ ?_; focus (simp only [go_sem, eqs hxE2, reduceIte, Nat.reduceEqDiff, Nat.reduceAdd, Nat.reduceMul, Nat.reduceLT, Nat.reduceLeDiff, Int.reduceLT, Int.reduceLE, Int.reduceEq, reduceCtorEq, Int.reduceBEq, Int.reduceBNe, Int.reduceToNat, Nat.reduceSub, Nat.reduceDiv, Int.reduceNeg, Int.reduceAdd, Int.reduceSub, Int.reduceMul, Heap.gets, Heap.sets, Heap.get, bytesA_length, bytesA_one, bytesA_plains, List.take_of_length_le, List.drop_of_length_le, Nat.add_zero, V.one, Nat.reduceLeDiff, List.all_cons, List.all_nil, ne_eq, not_false_eq_true, Nat.zero_le, q, gd, gp, gm, hb, z64_len, z64_drop, z64_one, z64_plains]; done)) | (refine To.condF hxE2 ?_ ?_; focus (simp only [go_sem, eqs hxE2, reduceIte, Nat.reduceEqDiff, Nat.reduceAdd, Nat.reduceMul, Nat.reduceLT, Nat.reduceLeDiff, Int.reduceLT, Int.reduceLE, Int.reduceEq, reduceCtorEq, Int.reduceBEq, Int.reduceBNe, Int.reduceToNat, Nat.reduceSub, Nat.reduceDiv, Int.reduceNeg, Int.reduceAdd, Int.reduceSub, Int.reduceMul, Heap.gets, Heap.sets, Heap.get, bytesA_length, bytesA_one, bytesA_plains, List.take_of_length_le, List.drop_of_length_le, Nat.add_zero, V.one, Nat.reduceLeDiff, List.all_cons, List.all_nil, ne_eq, not_false_eq_true, Nat.zero_le, q, gd, gp, gm, hb, z64_len, z64_drop, z64_one, z64_plains]; done)) | refine To.block hxE2 ?_ | refine To.scope hxE2 ?_ | refine To.ret hxE2 ?_ | refine To.exit hxE2 ?_ | refine To.skip hxE2 ?_ | refine To.label hxE2 ?_))
    try simp only [andThen, outOf]
    exact fin_kc2 (cs := z64) (l := o.length) rfl (by simp only [go_sem, eqs hxE2, reduceIte, Nat.reduceEqDiff, Nat.reduceAdd, Nat.reduceMul, Nat.reduceLT, Nat.reduceLeDiff, Int.reduceLT, Int.reduceLE, Int.reduceEq, reduceCtorEq, Int.reduceBEq, Int.reduceBNe, Int.reduceToNat, Nat.reduceSub, Nat.reduceDiv, Int.reduceNeg, Int.reduceAdd, Int.reduceSub, Int.reduceMul]) (by simp only [go_sem, eqs hxE2, reduceIte, Nat.reduceEqDiff, Nat.reduceAdd, Nat.reduceMul, Nat.reduceLT, Nat.reduceLeDiff, Int.reduceLT, Int.reduceLE, Int.reduceEq, reduceCtorEq, Int.reduceBEq, Int.reduceBNe, Int.reduceToNat, Nat.reduceSub, Nat.reduceDiv, Int.reduceNeg, Int.reduceAdd, Int.reduceSub, Int.reduceMul]) (gets_app2 rfl) rfl rfl (kp_app (by omega) (by omega))
end
end Go.Proofs.Ytfbkeieoeagkdaa

/- Disk: calls that turn it. -/
namespace Go.Proofs.Ytfbkeieoeagkdaa
open Go AM
set_option linter.unusedSimpArgs false
set_option linter.unusedVariables false
set_option maxRecDepth 100000

/-- All but the disk's own three objects stays. -/
structure Dx (dd pg lm : Nat) (o o' : List AM.Obj) : Prop where
  len : o'.length = o.length
  get : ∀ l, l ≠ dd → l ≠ pg → l ≠ lm → o'[l]? = o[l]?
theorem Dx.refl {dd pg lm : Nat} {o : List AM.Obj} : Dx dd pg lm o o := ⟨rfl, fun _ _ _ _ => rfl⟩
theorem Dx.trans {dd pg lm : Nat} {o o' o'' : List AM.Obj} (h : Dx dd pg lm o o') (k : Dx dd pg lm o' o'') : Dx dd pg lm o o'' := ⟨k.len.trans h.len, fun l a b c => (k.get l a b c).trans (h.get l a b c)⟩
section
variable {o : List AM.Obj} {e d dd pg lm : Nat} {on down : Bool} {left : Int} {pgs : List Pg} {ca : List (Nat × Pg)}
theorem PD.ne1 (P : PD o dd pg lm on down left pgs ca) : dd ≠ lm := by rintro rfl; have := P.hd; rw [P.hm] at this; cases this
theorem PD.ne2 (P : PD o dd pg lm on down left pgs ca) : pg ≠ lm := by rintro rfl; have := P.hp; rw [P.hm] at this; cases this
theorem PD.ne3 (P : PD o dd pg lm on down left pgs ca) : dd ≠ pg := by
  rintro rfl
  have := P.hd
  rw [P.hp] at this
  simp only [Option.some.injEq] at this
  injection this with _ h
  exact absurd h (by decide)

/-- The fuse turned. -/
theorem PD.fuse (P : PD o dd pg lm on down left pgs ca) (on' down' : Bool) (left' : Int) : PD (o.set dd (.cells .ex 92 0 [.bool on', .bool down', .int .i64 left', .slice pg 0 pgs.length 64, .map lm])) dd pg lm on' down' left' pgs ca :=
  ⟨List.getElem?_set_self P.ld, by rw [List.getElem?_set_ne P.ne3]; exact P.hp, by rw [List.getElem?_set_ne P.ne1]; exact P.hm, P.p64, P.c64, P.nd⟩
theorem dx_dd (x : AM.Obj) : Dx dd pg lm o (o.set dd x) := ⟨by simp, fun l a _ _ => List.getElem?_set_ne (Ne.symm a)⟩
theorem dx_lm (x : AM.Obj) : Dx dd pg lm o (o.set lm x) := ⟨by simp, fun l _ _ c => List.getElem?_set_ne (Ne.symm c)⟩
theorem dx_pg (x : AM.Obj) : Dx dd pg lm o (o.set pg x) := ⟨by simp, fun l _ b _ => List.getElem?_set_ne (Ne.symm b)⟩

theorem set_app (o r : List AM.Obj) {l : Nat} (x : AM.Obj) (h : l < o.length) : (o ++ r).set l x = o.set l x ++ r := List.set_append_left _ _ h

/-- What is left behind objects that are let go. -/
theorem leave_app {o o' r : List AM.Obj} {e d e' d' : Nat} {v : V} (hv : v.plain = true) (hl : o'.length = o.length) (he : o.length ≤ e') (hd : o.length ≤ d' → o' = o) : ∃ d'', (leave ⟨o, e, d⟩ ⟨o' ++ r, e', d'⟩ v).getD ⟨o, e, d⟩ = ⟨o', e, d''⟩ := by
  unfold leave
  simp only
  rw [if_pos ⟨he, hv⟩]
  split
  · rename_i hc
    exact ⟨d, by rw [hd hc]; rfl⟩
  · exact ⟨_, by rw [← hl, List.take_left]; rfl⟩

set_option maxHeartbeats 4000000 in
theorem write_no (P : PD o dd pg lm on down left pgs ca) {i : Int} {p : Pg} (hp : p.length = 64) (h0 : hasE down pgs.length i ≠ 0) : Den FF E2 13 [.ptr dd 0, .int .i64 i, .agg (bytesA p)] ⟨o, e, d⟩ = some (.val (.int .i64 (hasE down pgs.length i)), none) := by
  refine To.den hxE2 (f := 13) (a := af13) rfl (E2_none rfl) (Nat.le_of_ble_eq_true rfl) ?_
  have q := has_q (e := o.length) (d := o.length) (P.app [.cells .ex 31 0 (bytesA p)]) i
  have hb : (hasE down pgs.length i != 0) = true := by simpa using h0
  generalize hasE down pgs.length i = er at q hb ⊢
  (repeat' (first | refine To.seq hxE2 ?_ | refine To.op0 hxE2 (by simp only [go_sem, eqs hxE2, reduceIte, Nat.reduceEqDiff, Nat.reduceAdd, Nat.reduceMul, Nat.reduceLT, Nat.reduceLeDiff, Int.reduceLT, Int.reduceLE, Int.reduceEq, reduceCtorEq, Int.reduceBEq, Int.reduceBNe, Int.reduceToNat, Nat.reduceSub, Nat.reduceDiv, Int.reduceNeg, Int.reduceAdd, Int.reduceSub, Int.reduceMul, Heap.gets, Heap.sets, Heap.get, bytesA_length, bytesA_one, bytesA_plains, List.take_of_length_le, List.drop_of_length_le, Nat.add_zero, V.one, Nat.reduceLeDiff, List.all_cons, List.all_nil, ne_eq, not_false_eq_true, Nat.zero_le, q, hb]; rfl) ?_ | refine To.op1 hxE2 (by simp only [go_sem, eqs hxE2, reduceIte, Nat.reduceEqDiff, Nat.reduceAdd, Nat.reduceMul, Nat.reduceLT, Nat.reduceLeDiff, Int.reduceLT, Int.reduceLE, Int.reduceEq, reduceCtorEq, Int.reduceBEq, Int.reduceBNe, Int.reduceToNat, Nat.reduceSub, Nat.reduceDiv, Int.reduceNeg, Int.reduceAdd, Int.reduceSub, Int.reduceMul, Heap.gets, Heap.sets, Heap.get, bytesA_length, bytesA_one, bytesA_plains, List.take_of_length_le, List.drop_of_length_le, Nat.add_zero, V.one, Nat.reduceLeDiff, List.all_cons, List.all_nil, ne_eq, not_false_eq_true, Nat.zero_le, q, hb]; rfl) ?_ | refine To.nop hxE2 ?_ | (refine To.condT hxE2 ?_ ?_; focus (simp only [go_sem, eqs hxE2, reduceIte, Nat.reduceEqDiff, Nat.reduceAdd, Nat.reduceMul, Nat.reduceLT, Nat.reduceLeDiff, Int.reduceLT, Int.reduceLE, Int.reduceEq, reduceCtorEq, Int.reduceBEq, Int.reduceBNe, Int.reduceToNat, Nat.reduceSub, Nat.reduceDiv, Int.reduceNeg, Int.reduceAdd, Int.reduceSub, Int.reduceMul, Heap.gets, Heap.sets, Heap.get, bytesA_length, bytesA_one, bytesA_plains, List.take_of_length_le, List.drop_of_length_le, Nat.add_zero, V.one, Nat.reduceLeDiff, List.all_cons, List.all_nil, ne_eq, not_false_eq_true, Nat.zero_le, q, hb]; done)) | (refine To.condF hxE2 ?_ ?_; focus (simp only [go_sem, eqs hxE2, reduceIte, Nat.reduceEqDiff, Nat.reduceAdd, Nat.reduceMul, Nat.reduceLT, Nat.reduceLeDiff, Int.reduceLT, Int.reduceLE, Int.reduceEq, reduceCtorEq, Int.reduceBEq, Int.reduceBNe, Int.reduceToNat, Nat.reduceSub, Nat.reduceDiv, Int.reduceNeg, Int.reduceAdd, Int.reduceSub, Int.reduceMul, Heap.gets, Heap.sets, Heap.get, bytesA_length, bytesA_one, bytesA_plains, List.take_of_length_le, List.drop_of_length_le, Nat.add_zero, V.one, Nat.reduceLeDiff, List.all_cons, List.all_nil, ne_eq, not_false_eq_true, Nat.zero_le, q, hb]; done)) | refine To.block hxE2 ?_ | refine To.scope hxE2 ?_ | refine To.ret hxE2 ?_ | refine To.exit hxE2 ?_ | refine To.skip hxE2 ?_ | refine To.label hxE2 ?_))
  try simp only [andThen, outOf]
  exact fin_k1 (i := 6) (v := .int .i64 er) rfl (by simp only [go_sem, eqs hxE2, reduceIte, Nat.reduceEqDiff, Nat.reduceAdd, Nat.reduceMul, Nat.reduceLT, Nat.reduceLeDiff, Int.reduceLT, Int.reduceLE, Int.reduceEq, reduceCtorEq, Int.reduceBEq, Int.reduceBNe, Int.reduceToNat, Nat.reduceSub, Nat.reduceDiv, Int.reduceNeg, Int.reduceAdd, Int.reduceSub, Int.reduceMul]) rfl (kp_app (by omega) (by omega))

set_option maxHeartbeats 4000000 in
theorem write_burnt (P : PD o dd pg lm on down left pgs ca) {i : Int} {p : Pg} (hp : p.length = 64) (h0 : hasE down pgs.length i = 0) (hB : burnB on down left = false) :
    ∃ v oh, Den FF E2 13 [.ptr dd 0, .int .i64 i, .agg (bytesA p)] ⟨o, e, d⟩ = some (v, oh) ∧ v = .val (.int .i64 5) ∧ ∃ o' d', oh.getD ⟨o, e, d⟩ = ⟨o', e, d'⟩ ∧ PD o' dd pg lm on (burnD on down left) (burnL on down left) pgs ca ∧ Dx dd pg lm o o' := by
  refine To.denE hxE2 (f := 13) (a := af13) rfl (E2_none rfl) (Nat.le_of_ble_eq_true rfl) ?_
  have q := has_q (e := o.length) (d := o.length) (P.app [.cells .ex 31 0 (bytesA p)]) i
  rw [h0] at q
  obtain ⟨vb, ohb, qb, rfl, db, hgb, hdb, hdu⟩ := burn_q2 (e := o.length) (d := o.length) (P.app [.cells .ex 31 0 (bytesA p)]).hd
  rw [hB] at qb
  rw [burnC_eq] at hgb hdu
  simp only [List.cons_append, List.nil_append] at hgb hdu
  rw [set_app _ _ _ P.ld] at hgb hdu
  have P2 := P.fuse on (burnD on down left) (burnL on down left)
  have dx := dx_dd (dd := dd) (pg := pg) (lm := lm) (o := o) (.cells .ex 92 0 [.bool on, .bool (burnD on down left), .int .i64 (burnL on down left), .slice pg 0 pgs.length 64, .map lm])
  have hld := P.ld
  generalize hO : o.set dd (.cells .ex 92 0 [.bool on, .bool (burnD on down left), .int .i64 (burnL on down left), .slice pg 0 pgs.length 64, .map lm]) = o1 at hgb P2 dx hdu
  (repeat' (first | refine To.seq hxE2 ?_ | refine To.op0 hxE2 (by simp only [go_sem, eqs hxE2, reduceIte, Nat.reduceEqDiff, Nat.reduceAdd, Nat.reduceMul, Nat.reduceLT, Nat.reduceLeDiff, Int.reduceLT, Int.reduceLE, Int.reduceEq, reduceCtorEq, Int.reduceBEq, Int.reduceBNe, Int.reduceToNat, Nat.reduceSub, Nat.reduceDiv, Int.reduceNeg, Int.reduceAdd, Int.reduceSub, Int.reduceMul, Heap.gets, Heap.sets, Heap.get, bytesA_length, bytesA_one, bytesA_plains, List.take_of_length_le, List.drop_of_length_le, Nat.add_zero, V.one, Nat.reduceLeDiff, List.all_cons, List.all_nil, ne_eq, not_false_eq_true, Nat.zero_le, q, bne_self_eq_false]; rfl) ?_ | refine To.op1 hxE2 (by simp only [go_sem, eqs hxE2, reduceIte, Nat.reduceEqDiff, Nat.reduceAdd, Nat.reduceMul, Nat.reduceLT, Nat.reduceLeDiff, Int.reduceLT, Int.reduceLE, Int.reduceEq, reduceCtorEq, Int.reduceBEq, Int.reduceBNe, Int.reduceToNat, Nat.reduceSub, Nat.reduceDiv, Int.reduceNeg, Int.reduceAdd, Int.reduceSub, Int.reduceMul, Heap.gets, Heap.sets, Heap.get, bytesA_length, bytesA_one, bytesA_plains, List.take_of_length_le, List.drop_of_length_le, Nat.add_zero, V.one, Nat.reduceLeDiff, List.all_cons, List.all_nil, ne_eq, not_false_eq_true, Nat.zero_le, q, bne_self_eq_false]; rfl) ?_ | refine To.nop hxE2 ?_ | (refine To.condT hxE2 ?_ ?_; focus (simp only [go_sem, eqs hxE2, reduceIte, Nat.reduceEqDiff, Nat.reduceAdd, Nat.reduceMul, Nat.reduceLT, Nat.reduceLeDiff, Int.reduceLT, Int.reduceLE, Int.reduceEq, reduceCtorEq, Int.reduceBEq, Int.reduceBNe, Int.reduceToNat, Nat.reduceSub, Nat.reduceDiv, Int.reduceNeg, Int.reduceAdd, Int.reduceSub, Int.reduceMul, Heap.gets, Heap.sets, Heap.get, bytesA_length, bytesA_one, bytesA_plains, List.take_of_length_le, List.drop_of_length_le, Nat.add_zero, V.one, Nat.reduceLeDiff, List.all_cons, List.all_nil, ne_eq, not_false_eq_true, Nat.zero_le, q, bne_self_eq_false]; done)) | (refine To.condF hxE2 ?_ ?_; focus (simp only [go_sem, eqs hxE2, reduceIte, Nat.reduceEqDiff, Nat.reduceAdd, Nat.reduceMul, Nat.reduceLT, Nat.reduceLeDiff, Int.reduceLT, Int.reduceLE, Int.reduceEq, reduceCtorEq, Int.reduceBEq, Int.reduceBNe, Int.reduceToNat, Nat.reduceSub, Nat.reduceDiv, Int.reduceNeg, Int.reduceAdd, Int.reduceSub, Int.reduceMul, Heap.gets, Heap.sets, Heap.get, bytesA_length, bytesA_one, bytesA_plains, List.take_of_length_le, List.drop_of_length_le, Nat.add_zero, V.one, Nat.reduceLeDiff, List.all_cons, List.all_nil, ne_eq, not_false_eq_true, Nat.zero_le, q, bne_self_eq_false]; done)) | refine To.block hxE2 ?_ | refine To.scope hxE2 ?_ | refine To.ret hxE2 ?_ | refine To.exit hxE2 ?_ | refine To.skip hxE2 ?_ | refine To.label hxE2 ?_))
  refine To.op hxE2 (by simp only [go_sem, eqs hxE2, reduceIte, Nat.reduceEqDiff, Nat.reduceAdd, Nat.reduceMul, Nat.reduceLT, Nat.reduceLeDiff, Int.reduceLT, Int.reduceLE, Int.reduceEq, reduceCtorEq, Int.reduceBEq, Int.reduceBNe, Int.reduceToNat, Nat.reduceSub, Nat.reduceDiv, Int.reduceNeg, Int.reduceAdd, Int.reduceSub, Int.reduceMul, qb]; rfl) ?_
  rw [hgb]
  (repeat' (first | refine To.seq hxE2 ?_ | refine To.op0 hxE2 (by simp only [go_sem, eqs hxE2, reduceIte, Nat.reduceEqDiff, Nat.reduceAdd, Nat.reduceMul, Nat.reduceLT, Nat.reduceLeDiff, Int.reduceLT, Int.reduceLE, Int.reduceEq, reduceCtorEq, Int.reduceBEq, Int.reduceBNe, Int.reduceToNat, Nat.reduceSub, Nat.reduceDiv, Int.reduceNeg, Int.reduceAdd, Int.reduceSub, Int.reduceMul, Heap.gets, Heap.sets, Heap.get, bytesA_length, bytesA_one, bytesA_plains, List.take_of_length_le, List.drop_of_length_le, Nat.add_zero, V.one, Nat.reduceLeDiff, List.all_cons, List.all_nil, ne_eq, not_false_eq_true, Nat.zero_le]; rfl) ?_ | refine To.op1 hxE2 (by simp only [go_sem, eqs hxE2, reduceIte, Nat.reduceEqDiff, Nat.reduceAdd, Nat.reduceMul, Nat.reduceLT, Nat.reduceLeDiff, Int.reduceLT, Int.reduceLE, Int.reduceEq, reduceCtorEq, Int.reduceBEq, Int.reduceBNe, Int.reduceToNat, Nat.reduceSub, Nat.reduceDiv, Int.reduceNeg, Int.reduceAdd, Int.reduceSub, Int.reduceMul, Heap.gets, Heap.sets, Heap.get, bytesA_length, bytesA_one, bytesA_plains, List.take_of_length_le, List.drop_of_length_le, Nat.add_zero, V.one, Nat.reduceLeDiff, List.all_cons, List.all_nil, ne_eq, not_false_eq_true, Nat.zero_le]; rfl) ?_ | refine To.nop hxE2 ?_ | (refine To.condT hxE2 ?_ ?_; focus (simp only [go_sem, eqs hxE2, reduceIte, Nat.reduceEqDiff, Nat.reduceAdd, Nat.reduceMul, Nat.reduceLT, Nat.reduceLeDiff, Int.reduceLT, Int.reduceLE, Int.reduceEq, reduceCtorEq, Int.reduceBEq, Int.reduceBNe, Int.reduceToNat, Nat.reduceSub, Nat.reduceDiv, Int.reduceNeg, Int.reduceAdd, Int.reduceSub, Int.reduceMul, Heap.gets, Heap.sets, Heap.get, bytesA_length, bytesA_one, bytesA_plains, List.take_of_length_le, List.drop_of_length_le, Nat.add_zero, V.one, Nat.reduceLeDiff, List.all_cons, List.all_nil, ne_eq, not_false_eq_true, Nat.zero_le]; done)) | (refine To.condF hxE2 ?_ ?_; focus (simp only [go_sem, eqs hxE2, reduceIte, Nat.reduceEqDiff, Nat.reduceAdd, Nat.reduceMul, Nat.reduceLT, Nat.reduceLeDiff, Int.reduceLT, Int.reduceLE, Int.reduceEq, reduceCtorEq, Int.reduceBEq, Int.reduceBNe, Int.reduceToNat, Nat.reduceSub, Nat.reduceDiv, Int.reduceNeg, Int.reduceAdd, Int.reduceSub, Int.reduceMul, Heap.gets, Heap.sets, Heap.get, bytesA_length, bytesA_one, bytesA_plains, List.take_of_length_le, List.drop_of_length_le, Nat.add_zero, V.one, Nat.reduceLeDiff, List.all_cons, List.all_nil, ne_eq, not_false_eq_true, Nat.zero_le]; done)) | refine To.block hxE2 ?_ | refine To.scope hxE2 ?_ | refine To.ret hxE2 ?_ | refine To.exit hxE2 ?_ | refine To.skip hxE2 ?_ | refine To.label hxE2 ?_))
  refine ⟨_, _, fin1 (i := 6) rfl, by simp only [go_sem, eqs hxE2, reduceIte, Nat.reduceEqDiff, Nat.reduceAdd, Nat.reduceMul, Nat.reduceLT, Nat.reduceLeDiff, Int.reduceLT, Int.reduceLE, Int.reduceEq, reduceCtorEq, Int.reduceBEq, Int.reduceBNe, Int.reduceToNat, Nat.reduceSub, Nat.reduceDiv, Int.reduceNeg, Int.reduceAdd, Int.reduceSub, Int.reduceMul], ?_⟩
  obtain ⟨d2, hlv⟩ := leave_app (o := o) (o' := o1) (r := [.cells .ex 31 0 (bytesA p)]) (e := e) (d := d) (e' := o.length) (d' := db) (v := .int .i64 5) rfl dx.len (Nat.le_refl _) (fun h => by
    rcases hdu with hdu | hdu
    · exact List.append_cancel_right hdu
    · omega)
  exact ⟨o1, d2, by simp only [get_fput, reduceIte, Nat.reduceEqDiff]; exact hlv, P2, dx⟩

set_option maxHeartbeats 8000000 in
theorem write_ok (P : PD o dd pg lm on down left pgs ca) {k : Nat} {p : Pg} (hp : p.length = 64) (hk : k < pgs.length) (h0 : hasE down pgs.length (k : Int) = 0) (hB : burnB on down left = true) :
    ∃ v oh, Den FF E2 13 [.ptr dd 0, .int .i64 (k : Int), .agg (bytesA p)] ⟨o, e, d⟩ = some (v, oh) ∧ v = .val (.int .i64 0) ∧ ∃ o' d', oh.getD ⟨o, e, d⟩ = ⟨o', e, d'⟩ ∧ PD o' dd pg lm on (burnD on down left) (burnL on down left) pgs (putC k p ca) ∧ Dx dd pg lm o o' := by
  refine To.denE hxE2 (f := 13) (a := af13) rfl (E2_none rfl) (Nat.le_of_ble_eq_true rfl) ?_
  have q := has_q (e := o.length) (d := o.length) (P.app [.cells .ex 31 0 (bytesA p)]) (k : Int)
  rw [h0] at q
  obtain ⟨vb, ohb, qb, rfl, db, hgb, hdb, hdu⟩ := burn_q2 (e := o.length) (d := o.length) (P.app [.cells .ex 31 0 (bytesA p)]).hd
  rw [hB] at qb
  rw [burnC_eq] at hgb hdu
  simp only [List.cons_append, List.nil_append] at hgb hdu
  rw [set_app _ _ _ P.ld] at hgb hdu
  have P2 := P.fuse on (burnD on down left) (burnL on down left)
  have dx := dx_dd (dd := dd) (pg := pg) (lm := lm) (o := o) (.cells .ex 92 0 [.bool on, .bool (burnD on down left), .int .i64 (burnL on down left), .slice pg 0 pgs.length 64, .map lm])
  have hll := P.ll
  generalize hO : o.set dd (.cells .ex 92 0 [.bool on, .bool (burnD on down left), .int .i64 (burnL on down left), .slice pg 0 pgs.length 64, .map lm]) = o1 at hgb P2 dx hdu
  have gd : ∀ r, (o1 ++ r)[dd]? = some (.cells .ex 92 0 [.bool on, .bool (burnD on down left), .int .i64 (burnL on down left), .slice pg 0 pgs.length 64, .map lm]) := fun r => app_old P2.hd r
  have gm : ∀ r, (o1 ++ r)[lm]? = some (.map (ca.map ent)) := fun r => app_old P2.hm r
  have gb : (o1 ++ [AM.Obj.cells .ex 31 0 (bytesA p)])[o.length]? = some (.cells .ex 31 0 (bytesA p)) := by rw [← dx.len]; exact app_get0 _ _ _
  have hkey : V.key .i (.int .i64 (k : Int)) = true := rfl
  have hmp := mapPut_ent k p ca
  have htk : List.take 64 (bytesA p) = bytesA p := List.take_of_length_le (by rw [bytesA_length]; omega)
  have hst : ∀ x, (o1 ++ [AM.Obj.cells .ex 31 0 (bytesA p)]).set lm x = o1.set lm x ++ [AM.Obj.cells .ex 31 0 (bytesA p)] := fun x => set_app _ _ _ (by rw [dx.len]; exact hll)
  (repeat' (first | refine To.seq hxE2 ?_ | refine To.op0 hxE2 (by simp only [go_sem, eqs hxE2, reduceIte, Nat.reduceEqDiff, Nat.reduceAdd, Nat.reduceMul, Nat.reduceLT, Nat.reduceLeDiff, Int.reduceLT, Int.reduceLE, Int.reduceEq, reduceCtorEq, Int.reduceBEq, Int.reduceBNe, Int.reduceToNat, Nat.reduceSub, Nat.reduceDiv, Int.reduceNeg, Int.reduceAdd, Int.reduceSub, Int.reduceMul, Heap.gets, Heap.sets, Heap.get, bytesA_length, bytesA_one, bytesA_plains, List.take_of_length_le, List.drop_of_length_le, Nat.add_zero, V.one, Nat.reduceLeDiff, List.all_cons, List.all_nil, ne_eq, not_false_eq_true, Nat.zero_le, q, bne_self_eq_false]; rfl) ?_ | refine To.op1 hxE2 (by simp only [go_sem, eqs hxE2, reduceIte, Nat.reduceEqDiff, Nat.reduceAdd, Nat.reduceMul, Nat.reduceLT, Nat.reduceLeDiff, Int.reduceLT, Int.reduceLE, Int.reduceEq, reduceCtorEq, Int.reduceBEq, Int.reduceBNe, Int.reduceToNat, Nat.reduceSub, Nat.reduceDiv, Int.reduceNeg, Int.reduceAdd, Int.reduceSub, Int.reduceMul, Heap.gets, Heap.sets, Heap.get, bytesA_length, bytesA_one, bytesA_plains, List.take_of_length_le, List.drop_of_length_le, Nat.add_zero, V.one, Nat.reduceLeDiff, List.all_cons, List.all_nil, ne_eq, not_false_eq_true, Nat.zero_le, q, bne_self_eq_false]; rfl) ?_ | refine To.nop hxE2 ?_ | (refine To.condT hxE2 ?_ ?_; focus (simp only [go_sem, eqs hxE2, reduceIte, Nat.reduceEqDiff, Nat.reduceAdd, Nat.reduceMul, Nat.reduceLT, Nat.reduceLeDiff, Int.reduceLT, Int.reduceLE, Int.reduceEq, reduceCtorEq, Int.reduceBEq, Int.reduceBNe, Int.reduceToNat, Nat.reduceSub, Nat.reduceDiv, Int.reduceNeg, Int.reduceAdd, Int.reduceSub, Int.reduceMul, Heap.gets, Heap.sets, Heap.get, bytesA_length, bytesA_one, bytesA_plains, List.take_of_length_le, List.drop_of_length_le, Nat.add_zero, V.one, Nat.reduceLeDiff, List.all_cons, List.all_nil, ne_eq, not_false_eq_true, Nat.zero_le, q, bne_self_eq_false]; done)) | (refine To.condF hxE2 ?_ ?_; focus (simp only [go_sem, eqs hxE2, reduceIte, Nat.reduceEqDiff, Nat.reduceAdd, Nat.reduceMul, Nat.reduceLT, Nat.reduceLeDiff, Int.reduceLT, Int.reduceLE, Int.reduceEq, reduceCtorEq, Int.reduceBEq, Int.reduceBNe, Int.reduceToNat, Nat.reduceSub, Nat.reduceDiv, Int.reduceNeg, Int.reduceAdd, Int.reduceSub, Int.reduceMul, Heap.gets, Heap.sets, Heap.get, bytesA_length, bytesA_one, bytesA_plains, List.take_of_length_le, List.drop_of_length_le, Nat.add_zero, V.one, Nat.reduceLeDiff, List.all_cons, List.all_nil, ne_eq, not_false_eq_true, Nat.zero_le, q, bne_self_eq_false]; done)) | refine To.block hxE2 ?_ | refine To.scope hxE2 ?_ | refine To.ret hxE2 ?_ | refine To.exit hxE2 ?_ | refine To.skip hxE2 ?_ | refine To.label hxE2 ?_))
  refine To.op hxE2 (by simp only [go_sem, eqs hxE2, reduceIte, Nat.reduceEqDiff, Nat.reduceAdd, Nat.reduceMul, Nat.reduceLT, Nat.reduceLeDiff, Int.reduceLT, Int.reduceLE, Int.reduceEq, reduceCtorEq, Int.reduceBEq, Int.reduceBNe, Int.reduceToNat, Nat.reduceSub, Nat.reduceDiv, Int.reduceNeg, Int.reduceAdd, Int.reduceSub, Int.reduceMul, qb]; rfl) ?_
  rw [hgb]
  (repeat' (first | refine To.seq hxE2 ?_ | refine To.op0 hxE2 (by simp only [go_sem, eqs hxE2, reduceIte, Nat.reduceEqDiff, Nat.reduceAdd, Nat.reduceMul, Nat.reduceLT, Nat.reduceLeDiff, Int.reduceLT, Int.reduceLE, Int.reduceEq, reduceCtorEq, Int.reduceBEq, Int.reduceBNe, Int.reduceToNat, Nat.reduceSub, Nat.reduceDiv, Int.reduceNeg, Int.reduceAdd, Int.reduceSub, Int.reduceMul, Heap.gets, Heap.sets, Heap.get, bytesA_length, bytesA_one, bytesA_plains, List.take_of_length_le, List.drop_of_length_le, Nat.add_zero, V.one, Nat.reduceLeDiff, List.all_cons, List.all_nil, ne_eq, not_false_eq_true, Nat.zero_le, gd, gm, gb, hkey, hmp, htk, hp, hst, Heap.setMap]; rfl) ?_ | refine To.op1 hxE2 (by simp only [go_sem, eqs hxE2, reduceIte, Nat.reduceEqDiff, Nat.reduceAdd, Nat.reduceMul, Nat.reduceLT, Nat.reduceLeDiff, Int.reduceLT, Int.reduceLE, Int.reduceEq, reduceCtorEq, Int.reduceBEq, Int.reduceBNe, Int.reduceToNat, Nat.reduceSub, Nat.reduceDiv, Int.reduceNeg, Int.reduceAdd, Int.reduceSub, Int.reduceMul, Heap.gets, Heap.sets, Heap.get, bytesA_length, bytesA_one, bytesA_plains, List.take_of_length_le, List.drop_of_length_le, Nat.add_zero, V.one, Nat.reduceLeDiff, List.all_cons, List.all_nil, ne_eq, not_false_eq_true, Nat.zero_le, gd, gm, gb, hkey, hmp, htk, hp, hst, Heap.setMap]; rfl) ?_ | refine To.nop hxE2 ?_ | (refine To.condT hxE2 ?_ ?_; focus (simp only [go_sem, eqs hxE2, reduceIte, Nat.reduceEqDiff, Nat.reduceAdd, Nat.reduceMul, Nat.reduceLT, Nat.reduceLeDiff, Int.reduceLT, Int.reduceLE, Int.reduceEq, reduceCtorEq, Int.reduceBEq, Int.reduceBNe, Int.reduceToNat, Nat.reduceSub, Nat.reduceDiv, Int.reduceNeg, Int.reduceAdd, Int.reduceSub, Int.reduceMul, Heap.gets, Heap.sets, Heap.get, bytesA_length, bytesA_one, bytesA_plains, List.take_of_length_le, List.drop_of_length_le, Nat.add_zero, V.one, Nat.reduceLeDiff, List.all_cons, List.all_nil, ne_eq, not_false_eq_true, Nat.zero_le, gd, gm, gb, hkey, hmp, htk, hp, hst, Heap.setMap]; done)) | (refine To.condF hxE2 ?_ ?_; focus (simp only [go_sem, eqs hxE2, reduceIte, Nat.reduceEqDiff, Nat.reduceAdd, Nat.reduceMul, Nat.reduceLT, Nat.reduceLeDiff, Int.reduceLT, Int.reduceLE, Int.reduceEq, reduceCtorEq, Int.reduceBEq, Int.reduceBNe, Int.reduceToNat, Nat.reduceSub, Nat.reduceDiv, Int.reduceNeg, Int.reduceAdd, Int.reduceSub, Int.reduceMul, Heap.gets, Heap.sets, Heap.get, bytesA_length, bytesA_one, bytesA_plains, List.take_of_length_le, List.drop_of_length_le, Nat.add_zero, V.one, Nat.reduceLeDiff, List.all_cons, List.all_nil, ne_eq, not_false_eq_true, Nat.zero_le, gd, gm, gb, hkey, hmp, htk, hp, hst, Heap.setMap]; done)) | refine To.block hxE2 ?_ | refine To.scope hxE2 ?_ | refine To.ret hxE2 ?_ | refine To.exit hxE2 ?_ | refine To.skip hxE2 ?_ | refine To.label hxE2 ?_ | refine To.draw0 hxE2 ?_ | refine ToD.op0 (by simp only [go_sem, eqs hxE2, reduceIte, Nat.reduceEqDiff, Nat.reduceAdd, Nat.reduceMul, Nat.reduceLT, Nat.reduceLeDiff, Int.reduceLT, Int.reduceLE, Int.reduceEq, reduceCtorEq, Int.reduceBEq, Int.reduceBNe, Int.reduceToNat, Nat.reduceSub, Nat.reduceDiv, Int.reduceNeg, Int.reduceAdd, Int.reduceSub, Int.reduceMul, Heap.gets, Heap.sets, Heap.get, bytesA_length, bytesA_one, bytesA_plains, List.take_of_length_le, List.drop_of_length_le, Nat.add_zero, V.one, Nat.reduceLeDiff, List.all_cons, List.all_nil, ne_eq, not_false_eq_true, Nat.zero_le, gd, gm, gb, hkey, hmp, htk, hp, hst, Heap.setMap]; rfl) (by simp only [put_some, put_none]; rfl) ?_ | refine ToD.op1 (by simp only [go_sem, eqs hxE2, reduceIte, Nat.reduceEqDiff, Nat.reduceAdd, Nat.reduceMul, Nat.reduceLT, Nat.reduceLeDiff, Int.reduceLT, Int.reduceLE, Int.reduceEq, reduceCtorEq, Int.reduceBEq, Int.reduceBNe, Int.reduceToNat, Nat.reduceSub, Nat.reduceDiv, Int.reduceNeg, Int.reduceAdd, Int.reduceSub, Int.reduceMul, Heap.gets, Heap.sets, Heap.get, bytesA_length, bytesA_one, bytesA_plains, List.take_of_length_le, List.drop_of_length_le, Nat.add_zero, V.one, Nat.reduceLeDiff, List.all_cons, List.all_nil, ne_eq, not_false_eq_true, Nat.zero_le, gd, gm, gb, hkey, hmp, htk, hp, hst, Heap.setMap]; rfl) (by simp only [put_some, put_none]; rfl) (by simp only [KD.app, go_sem, eqs hxE2, reduceIte, Nat.reduceEqDiff, Nat.reduceAdd, Nat.reduceMul, Nat.reduceLT, Nat.reduceLeDiff, Int.reduceLT, Int.reduceLE, Int.reduceEq, reduceCtorEq, Int.reduceBEq, Int.reduceBNe, Int.reduceToNat, Nat.reduceSub, Nat.reduceDiv, Int.reduceNeg, Int.reduceAdd, Int.reduceSub, Int.reduceMul, Heap.gets, Heap.sets, Heap.get, bytesA_length, bytesA_one, bytesA_plains, List.take_of_length_le, List.drop_of_length_le, Nat.add_zero, V.one, Nat.reduceLeDiff, List.all_cons, List.all_nil, ne_eq, not_false_eq_true, Nat.zero_le, gd, gm, gb, hkey, hmp, htk, hp, hst, Heap.setMap]; rfl) ?_ | refine ToD.nop ?_ | refine To.draw hxE2 (by decide) ?_))
  refine ⟨_, _, fin1 (i := 6) rfl, by simp only [go_sem, eqs hxE2, reduceIte, Nat.reduceEqDiff, Nat.reduceAdd, Nat.reduceMul, Nat.reduceLT, Nat.reduceLeDiff, Int.reduceLT, Int.reduceLE, Int.reduceEq, reduceCtorEq, Int.reduceBEq, Int.reduceBNe, Int.reduceToNat, Nat.reduceSub, Nat.reduceDiv, Int.reduceNeg, Int.reduceAdd, Int.reduceSub, Int.reduceMul], ?_⟩
  obtain ⟨d2, hlv⟩ := leave_app (o := o) (o' := o1.set lm (.map ((putC k p ca).map ent))) (r := [.cells .ex 31 0 (bytesA p)]) (e := e) (d := d) (e' := o.length) (d' := min db lm) (v := .int .i64 0) rfl (by simp [dx.len]) (Nat.le_refl _) (fun h => by omega)
  refine ⟨o1.set lm (.map ((putC k p ca).map ent)), d2, by simp only [get_fput, reduceIte, Nat.reduceEqDiff]; exact hlv, ?_, dx.trans (dx_lm _)⟩
  refine ⟨by rw [List.getElem?_set_ne (Ne.symm P.ne1)]; exact P2.hd, by rw [List.getElem?_set_ne (Ne.symm P.ne2)]; exact P2.hp, List.getElem?_set_self P2.ll, P.p64, fun x hx => ?_, putC_nodup P.nd⟩
  rcases putC_mem hx with rfl | hx
  · exact ⟨hp, hk⟩
  · exact P.c64 x hx

theorem layP_len : (layP ca pgs).length = pgs.length := by simp [layP]
theorem layP_get {i : Nat} (hi : i < pgs.length) : (layP ca pgs)[i]? = some ((findC i ca).getD (pgs.getD i [])) := by
  unfold layP
  rw [List.getElem?_map, List.getElem?_range hi]; rfl
theorem layP_64 (P : PD o dd pg lm on down left pgs ca) : ∀ p ∈ layP ca pgs, p.length = 64 := by
  intro p hp
  obtain ⟨i, hi, rfl⟩ := List.mem_map.1 hp
  have hi := List.mem_range.1 hi
  cases hf : findC i ca with
  | some q =>
    obtain ⟨x, hx, rfl⟩ := Option.map_eq_some_iff.1 hf
    exact (P.c64 x (List.mem_of_find?_eq_some hx)).1
  | none =>
    rw [Option.getD_none, List.getD_eq_getElem?_getD, List.getElem?_eq_getElem hi]
    exact P.p64 _ (List.getElem_mem hi)

theorem flush_no (P : PD o dd pg lm on down left pgs ca) (hB : burnB on down left = false) :
    ∃ v oh, Den FF E2 16 [.ptr dd 0] ⟨o, e, d⟩ = some (v, oh) ∧ v = .val (.int .i64 5) ∧ ∃ o' d', oh.getD ⟨o, e, d⟩ = ⟨o', e, d'⟩ ∧ PD o' dd pg lm on (burnD on down left) (burnL on down left) pgs ca ∧ Dx dd pg lm o o' := by
  refine ⟨_, _, den_hand rfl rfl (by unfold flushG; simp only [P.hd, hB, if_true]; rfl), rfl, ?_⟩
  rw [burnC_eq]
  exact ⟨_, _, rfl, P.fuse _ _ _, dx_dd _⟩
theorem flush_ok (P : PD o dd pg lm on down left pgs ca) (hB : burnB on down left = true) :
    ∃ v oh, Den FF E2 16 [.ptr dd 0] ⟨o, e, d⟩ = some (v, oh) ∧ v = .val (.int .i64 0) ∧ ∃ o' d', oh.getD ⟨o, e, d⟩ = ⟨o', e, d'⟩ ∧ PD o' dd pg lm on (burnD on down left) (burnL on down left) (layP ca pgs) [] ∧ Dx dd pg lm o o' := by
  have hes : (ca.map ent).all (pageEnt pgs.length) = true := by
    rw [List.all_eq_true]
    intro x hx
    obtain ⟨y, hy, rfl⟩ := List.mem_map.1 hx
    exact pageEnt_ent (P.c64 y hy).1 (P.c64 y hy).2
  have hck : CK.ex ≠ CK.ro := by decide
  refine ⟨_, _, den_hand rfl rfl (by unfold flushG; simp only [P.hd, P.hp, P.hm, hB, Bool.true_eq_false, if_false]; rw [if_pos ⟨hck, P.ne3, pgC_len P.p64, hes, apart_ent P.nd⟩]), rfl, ?_⟩
  rw [burnC_eq, lay_eq P.p64]
  refine ⟨_, _, rfl, ⟨?_, ?_, ?_, layP_64 P, by simp, by simp⟩, ((dx_dd _).trans (dx_pg _)).trans (dx_lm _)⟩
  · rw [List.getElem?_set_ne (Ne.symm P.ne1), List.getElem?_set_ne (Ne.symm P.ne3), List.getElem?_set_self P.ld, layP_len]; rfl
  · rw [List.getElem?_set_ne (Ne.symm P.ne2), List.getElem?_set_self (by simpa using P.lp)]
  · rw [List.getElem?_set_self (by simpa using P.ll)]; rfl
end
end Go.Proofs.Ytfbkeieoeagkdaa

/- Disk: a new disk; arguments. -/
namespace Go.Proofs.Ytfbkeieoeagkdaa
open Go AM
set_option linter.unusedSimpArgs false
set_option linter.unusedVariables false
set_option maxRecDepth 100000

theorem reps_pages : ∀ N : Nat, reps z64 N = pgC (List.replicate N (zs 64))
  | 0 => rfl
  | N + 1 => by
    rw [List.replicate_succ]
    unfold pgC
    rw [List.flatMap_cons]
    have := reps_pages N
    unfold pgC at this
    rw [← this]; rfl

set_option maxHeartbeats 2000000 in
theorem newD_q {o : List AM.Obj} {e d N : Nat} (h1 : 1 ≤ N) (h2 : N ≤ 512) : ∃ v oh, Den FF E2 12 [.int .i64 (N : Int)] ⟨o, e, d⟩ = some (v, oh) ∧ v = .val (.tuple [.ptr (o.length + 2) 0, .int .i64 0]) ∧
    ∃ rr e' d', rr.length = 3 ∧ oh.getD ⟨o, e, d⟩ = ⟨o ++ rr, e', d'⟩ ∧ PD (o ++ rr) (o.length + 2) o.length (o.length + 1) false false 0 (List.replicate N (zs 64)) [] := by
  refine To.denE hxE2 (f := 12) (a := af12) rfl (E2_none rfl) (Nat.le_of_ble_eq_true rfl) ?_
  have d1 : decide ((N : Int) < 1) = false := decide_eq_false (by omega)
  have d2 : decide ((512 : Int) < (N : Int)) = false := decide_eq_false (by omega)
  have c1 : (0 : Int) ≤ (N : Int) := by omega
  have c2 : (N : Int) * ((64 : Nat) : Int) ≤ (AM.ok1 : Int) := by unfold AM.ok1; omega
  have c3 : (N : Int) ≤ (AM.ok1 : Int) := by unfold AM.ok1; omega
  have c2' : (N : Int) * 64 ≤ (AM.ok1 : Int) := c2
  (repeat' (first | refine To.seq hxE2 ?_ | refine To.op0 hxE2 (by simp only [go_sem, eqs hxE2, reduceIte, Nat.reduceEqDiff, Nat.reduceAdd, Nat.reduceMul, Nat.reduceLT, Nat.reduceLeDiff, Int.reduceLT, Int.reduceLE, Int.reduceEq, reduceCtorEq, Int.reduceBEq, Int.reduceBNe, Int.reduceToNat, Nat.reduceSub, Nat.reduceDiv, Int.reduceNeg, Int.reduceAdd, Int.reduceSub, Int.reduceMul, Heap.gets, Heap.sets, Heap.get, bytesA_length, bytesA_one, bytesA_plains, List.take_of_length_le, List.drop_of_length_le, Nat.add_zero, V.one, Nat.reduceLeDiff, List.all_cons, List.all_nil, ne_eq, not_false_eq_true, Nat.zero_le, d1, d2, c1, c2, c2', c3, Int.le_refl, Int.toNat_natCast]; rfl) ?_ | refine To.op1 hxE2 (by simp only [go_sem, eqs hxE2, reduceIte, Nat.reduceEqDiff, Nat.reduceAdd, Nat.reduceMul, Nat.reduceLT, Nat.reduceLeDiff, Int.reduceLT, Int.reduceLE, Int.reduceEq, reduceCtorEq, Int.reduceBEq, Int.reduceBNe, Int.reduceToNat, Nat.reduceSub, Nat.reduceDiv, Int.reduceNeg, Int.reduceAdd, Int.reduceSub, Int.reduceMul, Heap.gets, Heap.sets, Heap.get, bytesA_length, bytesA_one, bytesA_plains, List.take_of_length_le, List.drop_of_length_le, Nat.add_zero, V.one, Nat.reduceLeDiff, List.all_cons, List.all_nil, ne_eq, not_false_eq_true, Nat.zero_le, d1, d2, c1, c2, c2', c3, Int.le_refl, Int.toNat_natCast]; rfl) ?_ | refine To.nop hxE2 ?_ | (refine To.condT hxE2 ?_ ?_; focus (simp only [go_sem, eqs hxE2, reduceIte, Nat.reduceEqDiff, Nat.reduceAdd, Nat.reduceMul, Nat.reduceLT, Nat.reduceLeDiff, Int.reduceLT, Int.reduceLE, Int.reduceEq, reduceCtorEq, Int.reduceBEq, Int.reduceBNe, Int.reduceToNat, Nat.reduceSub, Nat.reduceDiv, Int.reduceNeg, Int.reduceAdd, Int.reduceSub, Int.reduceMul, Heap.gets, Heap.sets, Heap.get, bytesA_length, bytesA_one, bytesA_plains, List.take_of_length_le, List.drop_of_length_le, Nat.add_zero, V.one, Nat.reduceLeDiff, List.all_cons, List.all_nil, ne_eq, not_false_eq_true, Nat.zero_le, d1, d2, c1, c2, c2', c3, Int.le_refl, Int.toNat_natCast]; done)) | (refine To.condF hxE2 ?_ ?_; focus (simp only [go_sem, eqs hxE2, reduceIte, Nat.reduceEqDiff, Nat.reduceAdd, Nat.reduceMul, Nat.reduceLT, Nat.reduceLeDiff, Int.reduceLT, Int.reduceLE, Int.reduceEq, reduceCtorEq, Int.reduceBEq, Int.reduceBNe, Int.reduceToNat, Nat.reduceSub, Nat.reduceDiv, Int.reduceNeg, Int.reduceAdd, Int.reduceSub, Int.reduceMul, Heap.gets, Heap.sets, Heap.get, bytesA_length, bytesA_one, bytesA_plains, List.take_of_length_le, List.drop_of_length_le, Nat.add_zero, V.one, Nat.reduceLeDiff, List.all_cons, List.all_nil, ne_eq, not_false_eq_true, Nat.zero_le, d1, d2, c1, c2, c2', c3, Int.le_refl, Int.toNat_natCast]; done)) | refine To.block hxE2 ?_ | refine To.scope hxE2 ?_ | refine To.ret hxE2 ?_ | refine To.exit hxE2 ?_ | refine To.skip hxE2 ?_ | refine To.label hxE2 ?_))
  try simp only [andThen, outOf]
  refine ⟨_, _, fin2 (i := 2) (j := 3) rfl, by simp only [go_sem, eqs hxE2, reduceIte, Nat.reduceEqDiff, Nat.reduceAdd, Nat.reduceMul, Nat.reduceLT, Nat.reduceLeDiff, Int.reduceLT, Int.reduceLE, Int.reduceEq, reduceCtorEq, Int.reduceBEq, Int.reduceBNe, Int.reduceToNat, Nat.reduceSub, Nat.reduceDiv, Int.reduceNeg, Int.reduceAdd, Int.reduceSub, Int.reduceMul], ?_⟩
  have hlv : ∀ h' : Heap, ∀ x y : V, V.plain x = false → (leave ⟨o, e, d⟩ h' (.tuple [x, y])) = some ⟨h'.o, min e h'.e, min d h'.d⟩ := fun h' x y hx => leave_some (by simp [V.plain, V.plains, hx])
  rw [hlv _ _ _ (by simp only [get_fput, reduceIte, Nat.reduceEqDiff]; rfl)]
  refine ⟨[.cells .ex 31 0 (pgC (List.replicate N (zs 64))), .map [], .cells .ex 92 0 [.bool false, .bool false, .int .i64 0, .slice o.length 0 N 64, .map (o.length + 1)]], min e o.length, min d o.length, rfl, ?_, ?_⟩
  · rw [← reps_pages]; rfl
  · refine ⟨?_, ?_, ?_, ?_, by simp, by simp⟩
    · rw [List.length_replicate]; exact app_getk _ _ 2
    · exact app_get0 _ _ _
    · exact app_getk _ _ 1
    · intro p hp
      rw [List.eq_of_mem_replicate hp]; rfl

/-- A slice of bytes, of pages, as an argument. -/
structure BArg (o : List AM.Obj) (v : V) (b : List UInt8) : Prop where
  len : lenLV v = some (.int .i64 (b.length : Int), none)
  at_ : b ≠ [] → ∃ l t, v = .slice l 0 b.length 1 ∧ o[l]? = some (.cells .ro t 0 (bytesA b))
structure PArg (o : List AM.Obj) (v : V) (ps : List Pg) : Prop where
  len : lenLV v = some (.int .i64 (ps.length : Int), none)
  at_ : ps ≠ [] → ∃ l t, v = .slice l 0 ps.length 64 ∧ o[l]? = some (.cells .ro t 0 (pgC ps))
  p64 : ∀ p ∈ ps, p.length = 64
theorem has_u8 {o : List AM.Obj} : ∀ {xs : List (List V)}, (∀ x ∈ xs, Ty.has o (.int .u8) x) → ∃ b : List UInt8, List.flatten xs = bytesA b ∧ b.length = xs.length
  | [], _ => ⟨[], rfl, rfl⟩
  | x :: xs, h => by
    obtain ⟨b, h1, h2⟩ := has_u8 (xs := xs) fun y hy => h y (List.mem_cons_of_mem _ hy)
    obtain ⟨n, rfl, hn1, hn2⟩ := h x List.mem_cons_self
    obtain ⟨c, rfl⟩ := u8_byte hn1 hn2
    exact ⟨c :: b, by rw [List.flatten_cons, h1]; rfl, by simp [h2]⟩
theorem barg_of {o : List AM.Obj} {v : V} (h : Ty.arg o (.slice (.int .u8)) v) : ∃ b, BArg o v b ∧ b.length ≤ maxLen := by
  rcases arg_slice h with rfl | ⟨a, rfl⟩ | ⟨l, n, rfl, hn, u, xs, h1, h2, h3⟩
  · exact ⟨[], ⟨rfl, fun h => absurd rfl h⟩, Nat.zero_le _⟩
  · exact ⟨[], ⟨rfl, fun h => absurd rfl h⟩, Nat.zero_le _⟩
  · obtain ⟨b, hb, hbl⟩ := has_u8 h3
    rw [hb] at h1
    subst h2
    rw [← hbl] at hn ⊢
    exact ⟨b, ⟨rfl, fun _ => ⟨l, u, rfl, h1⟩⟩, hn⟩
theorem has_pgs {o : List AM.Obj} : ∀ {xs : List (List V)}, (∀ x ∈ xs, Ty.has o (.arr 64 (.int .u8)) x) → ∃ ps : List Pg, List.flatten xs = pgC ps ∧ ps.length = xs.length ∧ ∀ p ∈ ps, p.length = 64
  | [], _ => ⟨[], rfl, rfl, by simp⟩
  | x :: xs, h => by
    obtain ⟨ps, h1, h2, h3⟩ := has_pgs (xs := xs) fun y hy => h y (List.mem_cons_of_mem _ hy)
    obtain ⟨p, rfl, hp⟩ := has_bytes (h x List.mem_cons_self)
    refine ⟨p :: ps, by rw [List.flatten_cons, h1]; rfl, by simp [h2], fun q hq => ?_⟩
    rcases List.mem_cons.1 hq with rfl | hq
    · exact hp
    · exact h3 q hq
theorem parg_of {o : List AM.Obj} {v : V} (h : Ty.arg o (.slice (.arr 64 (.int .u8))) v) : ∃ ps, PArg o v ps ∧ ps.length ≤ maxLen := by
  rcases arg_slice h with rfl | ⟨a, rfl⟩ | ⟨l, n, rfl, hn, u, xs, h1, h2, h3⟩
  · exact ⟨[], ⟨rfl, fun h => absurd rfl h, by simp⟩, Nat.zero_le _⟩
  · exact ⟨[], ⟨rfl, fun h => absurd rfl h, by simp⟩, Nat.zero_le _⟩
  · obtain ⟨ps, hb, hbl, h64⟩ := has_pgs h3
    rw [hb] at h1
    subst h2
    rw [← hbl] at hn ⊢
    exact ⟨ps, ⟨rfl, fun _ => ⟨l, u, rfl, h1⟩, h64⟩, hn⟩
end Go.Proofs.Ytfbkeieoeagkdaa

/- Disk: Fuse and Crash as facts. -/
namespace Go.Proofs.Ytfbkeieoeagkdaa
open Go AM
set_option linter.unusedSimpArgs false
set_option linter.unusedVariables false
set_option maxRecDepth 100000

def tear (c : Nat) (p q : Pg) : Pg := p.take c ++ q.drop c
def hasK (ca : List (Nat × Pg)) (i : Nat) : Bool := (findC i ca).isSome
def keysN (n : Nat) (ca : List (Nat × Pg)) : List Nat := (List.range n).filter (hasK ca)
/-- What a crash leaves of the pages: from the k-th key on. -/
def crashN (ca : List (Nat × Pg)) (ch : List UInt8) : Nat → List Nat → List Pg → List Pg
  | _, [], pgs => pgs
  | k, i :: r, pgs => crashN ca ch (k + 1) r (match ch[k]? with
    | some c => pgs.set i (tear (c.toNat % 65) ((findC i ca).getD (zs 64)) (pgs.getD i (zs 64)))
    | none => pgs)

theorem hasK_iff {i : Nat} : ∀ {ca : List (Nat × Pg)}, hasK ca i = true ↔ i ∈ ca.map (·.1)
  | [] => by simp [hasK, findC]
  | e :: r => by
    have ih := hasK_iff (i := i) (ca := r)
    unfold hasK findC at ih ⊢
    rw [List.find?_cons]
    by_cases h : e.1 = i
    · subst h; simp
    · have h1 : (e.1 == i) = false := by simpa using h
      simp only [h1, List.map_cons, List.mem_cons]
      rw [ih]
      constructor
      · exact .inr
      · rintro (rfl | h2)
        · exact absurd rfl h
        · exact h2
theorem keysN_mem {n i : Nat} {ca : List (Nat × Pg)} : i ∈ keysN n ca ↔ i < n ∧ i ∈ ca.map (·.1) := by
  unfold keysN
  rw [List.mem_filter, List.mem_range, hasK_iff]

theorem isort_keys {n : Nat} {ca : List (Nat × Pg)} (hnd : (ca.map (·.1)).Nodup) (hlt : ∀ e ∈ ca, e.1 < n) : isort (ca.map fun e => (e.1 : Int)) = (keysN n ca).map fun i : Nat => (i : Int) := by
  have hp : (keysN n ca).Perm (ca.map (·.1)) := by
    refine (List.perm_ext_iff_of_nodup (List.nodup_range.filter _) hnd).2 fun i => ?_
    show i ∈ keysN n ca ↔ _
    rw [keysN_mem]
    constructor
    · exact fun h => h.2
    · intro h
      obtain ⟨e, he, rfl⟩ := List.mem_map.1 h
      exact ⟨hlt e he, h⟩
  have hq : (isort (ca.map fun e => (e.1 : Int))).Perm ((keysN n ca).map fun i : Nat => (i : Int)) := by
    refine (isort_perm _).trans ?_
    have h2 := (hp.map fun i : Nat => (i : Int)).symm
    rw [List.map_map] at h2
    exact h2
  refine List.Perm.eq_of_pairwise (le := fun a b => a ≤ b) (fun a b _ _ h1 h2 => Int.le_antisymm h1 h2) (isort_sorted _) ?_ hq
  refine List.pairwise_map.2 ?_
  have : (List.range n).Pairwise (· ≤ ·) := List.pairwise_lt_range.imp fun h => Nat.le_of_lt h
  exact (this.filter _).imp fun h => by omega

theorem keysOf_ent : ∀ {ca : List (Nat × Pg)}, (∀ e ∈ ca, e.1 < 1000000) → keysOf (ca.map ent) = some (ca.map fun e => (e.1 : Int))
  | [], h => rfl
  | e :: r, h => by
    have ih := keysOf_ent fun x hx => h x (List.mem_cons_of_mem _ hx)
    have := h e List.mem_cons_self
    rw [List.map_cons]
    unfold ent keysOf
    rw [if_pos (by omega)]
    unfold ent at ih
    rw [ih]; rfl

theorem tear_len {c : Nat} {p q : Pg} (hp : p.length = 64) (hq : q.length = 64) (hc : c ≤ 64) : (tear c p q).length = 64 := by
  unfold tear
  rw [List.length_append, List.length_take, List.length_drop]; omega
theorem tk64 {A B : List V} {k : Nat} (h : A.length = 64) : (A ++ B).take (64 + k) = A ++ B.take k := by
  rw [List.take_append, h, List.take_of_length_le (by omega), Nat.add_sub_cancel_left]
theorem dr64 {A B : List V} {k : Nat} (h : A.length = 64) : (A ++ B).drop (64 + k) = B.drop k := by
  rw [← List.drop_drop, List.drop_left' h]
theorem pgC_set : ∀ {pgs : List Pg} {i : Nat} {q x : Pg}, (∀ p ∈ pgs, p.length = 64) → pgs[i]? = some q → x.length = 64 → pgC (pgs.set i x) = (pgC pgs).take (i * 64) ++ bytesA x ++ (pgC pgs).drop (i * 64 + 64)
  | [], i, q, x, h, hi, hx => by simp at hi
  | p :: r, 0, q, x, h, hi, hx => by
    have hp := h p List.mem_cons_self
    unfold pgC
    rw [List.set_cons_zero, List.flatMap_cons, List.flatMap_cons, Nat.zero_mul, List.take_zero, List.nil_append, Nat.zero_add, List.drop_left' (by rw [bytesA_length, hp])]
  | p :: r, i + 1, q, x, h, hi, hx => by
    have hp := h p List.mem_cons_self
    have ih := pgC_set (fun y hy => h y (List.mem_cons_of_mem _ hy)) (by simpa using hi : r[i]? = some q) hx
    unfold pgC at ih ⊢
    rw [List.set_cons_succ, List.flatMap_cons, List.flatMap_cons, ih]
    have e1 : (i + 1) * 64 = 64 + i * 64 := by omega
    have e2 : 64 + i * 64 + 64 = 64 + (i * 64 + 64) := by omega
    rw [e1, e2, tk64 (by rw [bytesA_length, hp]), dr64 (by rw [bytesA_length, hp]), List.append_assoc, List.append_assoc, List.append_assoc]
/-- A beginning of a page laid over one. -/
theorem pgC_tear {pgs : List Pg} {i c : Nat} {p q : Pg} (h : ∀ p ∈ pgs, p.length = 64) (hi : pgs[i]? = some q) (hp : p.length = 64) (hc : c ≤ 64) : splice (pgC pgs) (i * 64) ((bytesA p).take c) = pgC (pgs.set i (tear c p q)) := by
  have hq := h q (List.mem_of_getElem? hi)
  rw [pgC_set h hi (tear_len hp hq hc)]
  have hat := pgC_at h hi
  have hlen := pgC_len h
  have hil : i < pgs.length := (List.getElem?_eq_some_iff.1 hi).1
  have hkk : (i + 1) * 64 ≤ pgs.length * 64 := Nat.mul_le_mul_right 64 hil
  unfold splice tear
  rw [bytesA_append, ← bytesA_take, ← bytesA_drop, ← hat]
  have l1 : ((bytesA p).take c).length = c := by rw [List.length_take, bytesA_length]; omega
  rw [l1, List.drop_take, List.drop_drop, List.append_assoc, List.append_assoc, List.append_assoc]
  congr 2
  have e1 : List.drop (i * 64 + c) (pgC pgs) = List.take (64 - c) (List.drop (i * 64 + c) (pgC pgs)) ++ List.drop (64 - c) (List.drop (i * 64 + c) (pgC pgs)) := (List.take_append_drop _ _).symm
  rw [e1, List.drop_drop, List.take_append_of_le_length (by rw [List.length_take, List.length_drop]; omega), List.take_of_length_le (l := List.take _ _) (by rw [List.length_take]; omega)]
  congr 2; omega

section
variable {o : List AM.Obj} {e d dd pg lm : Nat} {on down : Bool} {left : Int} {pgs : List Pg} {ca : List (Nat × Pg)}
set_option maxHeartbeats 2000000 in
theorem fuse_q (P : PD o dd pg lm on down left pgs ca) (n : Int) : ∃ v oh, Den FF E2 18 [.ptr dd 0, .int .i64 n] ⟨o, e, d⟩ = some (v, oh) ∧ v = .val (.tuple []) ∧ ∃ o' d', oh.getD ⟨o, e, d⟩ = ⟨o', e, d'⟩ ∧ PD o' dd pg lm (decide (0 ≤ n)) down (if 0 > n then 0 else n) pgs ca ∧ Dx dd pg lm o o' := by
  refine To.denE hxE2 (f := 18) (a := af18) rfl (E2_none rfl) (Nat.le_of_ble_eq_true rfl) ?_
  have hs : ∀ x, (o.set dd x)[dd]? = some x := fun x => List.getElem?_set_self P.ld
  have hld := P.ld
  (repeat' (first | refine To.seq hxE2 ?_ | refine To.op0 hxE2 (by simp only [go_sem, eqs hxE2, reduceIte, Nat.reduceEqDiff, Nat.reduceAdd, Nat.reduceMul, Nat.reduceLT, Nat.reduceLeDiff, Int.reduceLT, Int.reduceLE, Int.reduceEq, reduceCtorEq, Int.reduceBEq, Int.reduceBNe, Int.reduceToNat, Nat.reduceSub, Nat.reduceDiv, Int.reduceNeg, Int.reduceAdd, Int.reduceSub, Int.reduceMul, Heap.gets, Heap.sets, Heap.get, bytesA_length, bytesA_one, bytesA_plains, List.take_of_length_le, List.drop_of_length_le, Nat.add_zero, V.one, Nat.reduceLeDiff, List.all_cons, List.all_nil, ne_eq, not_false_eq_true, Nat.zero_le, P.hd, hs, List.set_set]; rfl) ?_ | refine To.op1 hxE2 (by simp only [go_sem, eqs hxE2, reduceIte, Nat.reduceEqDiff, Nat.reduceAdd, Nat.reduceMul, Nat.reduceLT, Nat.reduceLeDiff, Int.reduceLT, Int.reduceLE, Int.reduceEq, reduceCtorEq, Int.reduceBEq, Int.reduceBNe, Int.reduceToNat, Nat.reduceSub, Nat.reduceDiv, Int.reduceNeg, Int.reduceAdd, Int.reduceSub, Int.reduceMul, Heap.gets, Heap.sets, Heap.get, bytesA_length, bytesA_one, bytesA_plains, List.take_of_length_le, List.drop_of_length_le, Nat.add_zero, V.one, Nat.reduceLeDiff, List.all_cons, List.all_nil, ne_eq, not_false_eq_true, Nat.zero_le, P.hd, hs, List.set_set]; rfl) ?_ | refine To.nop hxE2 ?_ | (refine To.condT hxE2 ?_ ?_; focus (simp only [go_sem, eqs hxE2, reduceIte, Nat.reduceEqDiff, Nat.reduceAdd, Nat.reduceMul, Nat.reduceLT, Nat.reduceLeDiff, Int.reduceLT, Int.reduceLE, Int.reduceEq, reduceCtorEq, Int.reduceBEq, Int.reduceBNe, Int.reduceToNat, Nat.reduceSub, Nat.reduceDiv, Int.reduceNeg, Int.reduceAdd, Int.reduceSub, Int.reduceMul, Heap.gets, Heap.sets, Heap.get, bytesA_length, bytesA_one, bytesA_plains, List.take_of_length_le, List.drop_of_length_le, Nat.add_zero, V.one, Nat.reduceLeDiff, List.all_cons, List.all_nil, ne_eq, not_false_eq_true, Nat.zero_le, P.hd, hs, List.set_set]; done)) | (refine To.condF hxE2 ?_ ?_; focus (simp only [go_sem, eqs hxE2, reduceIte, Nat.reduceEqDiff, Nat.reduceAdd, Nat.reduceMul, Nat.reduceLT, Nat.reduceLeDiff, Int.reduceLT, Int.reduceLE, Int.reduceEq, reduceCtorEq, Int.reduceBEq, Int.reduceBNe, Int.reduceToNat, Nat.reduceSub, Nat.reduceDiv, Int.reduceNeg, Int.reduceAdd, Int.reduceSub, Int.reduceMul, Heap.gets, Heap.sets, Heap.get, bytesA_length, bytesA_one, bytesA_plains, List.take_of_length_le, List.drop_of_length_le, Nat.add_zero, V.one, Nat.reduceLeDiff, List.all_cons, List.all_nil, ne_eq, not_false_eq_true, Nat.zero_le, P.hd, hs, List.set_set]; done)) | refine To.block hxE2 ?_ | refine To.scope hxE2 ?_ | refine To.ret hxE2 ?_ | refine To.exit hxE2 ?_ | refine To.skip hxE2 ?_ | refine To.label hxE2 ?_))
  try simp only [andThen, outOf]
  refine ⟨_, _, fin0n rfl, rfl, ?_⟩
  obtain ⟨d2, hlv, _⟩ := leave_same2 (o := o) (o' := o.set dd (.cells .ex 92 0 [.bool (decide (0 ≤ n)), .bool down, .int .i64 (if 0 > n then 0 else n), .slice pg 0 pgs.length 64, .map lm])) (e := e) (d := d) (d' := min (min o.length dd) dd) (v := .tuple []) rfl (by simp) (fun h => by omega)
  exact ⟨_, d2, hlv, P.fuse _ _ _, dx_dd _⟩
end
end Go.Proofs.Ytfbkeieoeagkdaa

