/- Own texts, joined: S12Fs, S12Base, S12PgA, S12SlA, S12SlB, S12SlC, S12SlD, S12SlE. -/
import Derived.Test.YtabnocdebldpmaaProg
import Derived.Test.YtabnocdebldpmaaChecked
import Derived.Lib.Strings
import Derived.Lib.Slices
import Derived.Lib.Walk
import Derived.Lib.Bytealg
import Derived.Lib.IndexAny
import Derived.Test.YtabnocdebldpmaaAmPart3
/- The abstract code of the functions of this seat: what the engine makes of the program's own code. Printed by a program (genfs.py); Lean checks each one. -/
namespace Go.Proofs.Ytabnocdebldpmaa
open Go AM

def af3 : AF := ⟨25, [.t 2], .seq (.region [⟨some 1, .box 23 (.t 0), none⟩, ⟨some 2, .mv (.k (.bool false)), none⟩] false) (.seq (.seq (.region [⟨some 3, .call 8 [], none⟩, ⟨some 4, .un .not (.t 3), none⟩] false) (.cond (.t 4) (.seq (.region [⟨some 2, .mv (.k (.bool false)), none⟩] false) .ret) .skip)) (.seq (.draw 0 [⟨0, ⟨some 5, .faddr 1 (.t 1), none⟩, [], none, []⟩, ⟨1, ⟨some 6, .load none (.t 5), none⟩, [], none, []⟩, ⟨2, ⟨some 7, .lenS (.t 6), none⟩, [], none, []⟩, ⟨3, ⟨some 8, .bin .gtr (.t 7) (.k (.int .i64 300)), none⟩, [], none, []⟩, ⟨4, ⟨some 9, .mv (.t 8), none⟩, [], none, []⟩, ⟨5, ⟨some 10, .faddr 1 (.t 1), some (9, false)⟩, [], none, []⟩, ⟨6, ⟨some 11, .load none (.t 10), some (9, false)⟩, [], none, []⟩, ⟨8, ⟨some 13, .faddr 1 (.t 1), some (9, false)⟩, [], none, []⟩, ⟨9, ⟨some 14, .load none (.t 13), some (9, false)⟩, [], none, []⟩, ⟨7, ⟨some 12, .call 9 [.t 11], some (9, false)⟩, [], none, [⟨some 14, .load none (.t 13), some (9, false)⟩]⟩, ⟨10, ⟨some 15, .call 10 [.t 14], some (9, false)⟩, [], none, []⟩, ⟨11, ⟨some 16, .bin .eql (.t 12) (.t 15), some (9, false)⟩, [], none, []⟩, ⟨12, ⟨some 17, .mv (.t 16), some (9, false)⟩, [], none, []⟩, ⟨13, ⟨some 18, .load (some 2) (.t 1), some (17, true)⟩, [], none, []⟩, ⟨15, ⟨some 20, .load (some 2) (.t 1), some (17, true)⟩, [], none, []⟩, ⟨14, ⟨some 19, .call 11 [.t 18], some (17, true)⟩, [], none, [⟨some 20, .load (some 2) (.t 1), some (17, true)⟩]⟩, ⟨16, ⟨some 21, .call 12 [.t 20], some (17, true)⟩, [], none, []⟩, ⟨17, ⟨some 22, .eqf false false [(1, .b)] (.t 19) (.t 21), some (17, true)⟩, [], none, []⟩, ⟨18, ⟨some 23, .pick (.t 17) (.t 22) (.k (.bool false)), some (9, false)⟩, [], none, []⟩, ⟨19, ⟨some 24, .pick (.t 9) (.k (.bool true)) (.t 23), none⟩, [], none, []⟩, ⟨20, ⟨some 2, .mv (.t 24), none⟩, [], none, []⟩]) .ret))⟩
theorem tr3 : trProg Try.prog 3 = some af3 := by kernel_rfl
def af4 : AF := ⟨63, [.t 6], .seq (.region [⟨some 3, .box 32 (.t 0), none⟩, ⟨some 5, .box 23 (.t 2), none⟩, ⟨some 6, .mv (.k (.bool false)), none⟩] false) (.seq (.seq (.region [⟨some 11, .call 8 [], none⟩, ⟨some 12, .un .not (.t 11), none⟩] false) (.cond (.t 12) (.seq (.region [⟨some 6, .mv (.k (.bool false)), none⟩] false) .ret) .skip)) (.seq (.seq (.region [⟨some 13, .faddr 1 (.t 5), none⟩, ⟨some 14, .load none (.t 13), none⟩, ⟨some 15, .lenS (.t 14), none⟩, ⟨some 16, .bin .gtr (.t 15) (.k (.int .i64 300)), none⟩] false) (.cond (.t 16) (.seq (.region [⟨some 6, .mv (.k (.bool true)), none⟩] false) .ret) .skip)) (.seq (.region [⟨some 17, .load (some 2) (.t 5), none⟩, ⟨some 7, .alloc 30 [.int .i64 0, .str []], none⟩, ⟨none, .store 2 (.t 7) (.t 17), none⟩] false) (.seq (.region [⟨some 18, .load (some 64) (.t 3), none⟩, ⟨some 19, .mv (.t 1), none⟩, ⟨some 20, .load (some 2) (.t 5), none⟩, ⟨some 21, .call 13 [.t 18, .t 19, .t 20], none⟩, ⟨some 8, .alloc 32 z64, none⟩, ⟨none, .store 64 (.t 8) (.t 21), none⟩] false) (.seq (.seq (.region [⟨some 22, .mv (.t 1), none⟩, ⟨some 23, .bin .lss (.t 22) (.k (.int .i64 0)), none⟩, ⟨some 24, .mv (.t 23), none⟩, ⟨some 25, .mv (.t 1), some (24, false)⟩, ⟨some 26, .bin .gtr (.t 25) (.k (.int .i64 3)), some (24, false)⟩, ⟨some 27, .pick (.t 24) (.k (.bool true)) (.t 26), none⟩, ⟨some 28, .mv (.t 27), none⟩, ⟨some 29, .load (some 2) (.t 7), some (28, false)⟩, ⟨some 30, .call 12 [.t 29], some (28, false)⟩, ⟨some 31, .un .not (.t 30), some (28, false)⟩, ⟨some 32, .mv (.t 31), some (28, false)⟩, ⟨some 33, .load (some 2) (.t 7), some (32, true)⟩, ⟨some 34, .build [.int .i64 0, .str []] [], some (32, true)⟩, ⟨some 35, .eqf true true [(1, .i), (1, .s)] (.t 33) (.t 34), some (32, true)⟩, ⟨some 36, .pick (.t 32) (.t 35) (.k (.bool false)), some (28, false)⟩, ⟨some 37, .pick (.t 28) (.k (.bool true)) (.t 36), none⟩] false) (.cond (.t 37) (.seq (.region [⟨some 38, .load (some 64) (.t 8), none⟩, ⟨some 39, .load (some 64) (.t 3), none⟩, ⟨some 40, .eqf false true [(64, .i)] (.t 38) (.t 39), none⟩, ⟨some 6, .mv (.t 40), none⟩] false) .ret) .skip)) (.seq (.region [⟨some 42, .load (some 64) (.t 8), none⟩, ⟨some 43, .mv (.t 1), none⟩, ⟨some 44, .call 14 [.t 42, .t 43], none⟩, ⟨some 41, .mv (.t 44), none⟩, ⟨some 45, .extract (.t 41) 0, none⟩, ⟨some 46, .extract (.t 41) 1, none⟩, ⟨some 9, .alloc 23 [.int .i64 0, .str []], none⟩, ⟨none, .store 2 (.t 9) (.t 45), none⟩, ⟨some 10, .mv (.t 46), none⟩] false) (.seq (.draw 0 [⟨0, ⟨some 47, .load (some 64) (.t 8), none⟩, [], none, []⟩, ⟨1, ⟨some 48, .load (some 64) (.t 3), none⟩, [], none, []⟩, ⟨2, ⟨some 49, .mv (.t 1), none⟩, [], none, []⟩, ⟨3, ⟨some 50, .load (some 2) (.t 7), none⟩, [], none, []⟩, ⟨4, ⟨some 51, .call 16 [.t 50], none⟩, [], none, [⟨some 48, .load (some 64) (.t 3), none⟩, ⟨some 47, .load (some 64) (.t 8), none⟩]⟩, ⟨5, ⟨some 52, .call 15 [.t 48, .t 49, .t 51], none⟩, [], none, [⟨some 47, .load (some 64) (.t 8), none⟩]⟩, ⟨6, ⟨some 53, .eqf false true [(64, .i)] (.t 47) (.t 52), none⟩, [], none, []⟩, ⟨7, ⟨some 54, .mv (.t 53), none⟩, [], none, []⟩, ⟨8, ⟨some 55, .mv (.t 10), some (54, true)⟩, [], none, []⟩, ⟨9, ⟨some 56, .bin .eql (.t 55) (.k (.int .i64 0)), some (54, true)⟩, [], none, []⟩, ⟨10, ⟨some 57, .pick (.t 54) (.t 56) (.k (.bool false)), none⟩, [], none, []⟩, ⟨11, ⟨some 58, .mv (.t 57), none⟩, [], none, []⟩, ⟨12, ⟨some 59, .load (some 2) (.t 9), some (58, true)⟩, [], none, []⟩, ⟨13, ⟨some 60, .load (some 2) (.t 5), some (58, true)⟩, [], none, []⟩, ⟨14, ⟨some 61, .eqf false true [(1, .i), (1, .s)] (.t 59) (.t 60), some (58, true)⟩, [], none, []⟩, ⟨15, ⟨some 62, .pick (.t 58) (.t 61) (.k (.bool false)), none⟩, [], none, []⟩, ⟨16, ⟨some 6, .mv (.t 62), none⟩, [], none, []⟩]) .ret)))))))⟩
theorem tr4 : trProg Try.prog 4 = some af4 := by kernel_rfl
def af5 : AF := ⟨52, [.t 4], .seq (.region [⟨some 2, .box 32 (.t 0), none⟩, ⟨some 4, .mv (.k (.bool false)), none⟩] false) (.seq (.seq (.region [⟨some 9, .call 8 [], none⟩, ⟨some 10, .un .not (.t 9), none⟩] false) (.cond (.t 10) (.seq (.region [⟨some 4, .mv (.k (.bool false)), none⟩] false) .ret) .skip)) (.seq (.region [⟨some 12, .load (some 64) (.t 2), none⟩, ⟨some 13, .mv (.t 1), none⟩, ⟨some 14, .call 14 [.t 12, .t 13], none⟩, ⟨some 11, .mv (.t 14), none⟩, ⟨some 15, .extract (.t 11) 0, none⟩, ⟨some 16, .extract (.t 11) 1, none⟩, ⟨some 5, .alloc 23 [.int .i64 0, .str []], none⟩, ⟨none, .store 2 (.t 5) (.t 15), none⟩, ⟨some 6, .mv (.t 16), none⟩] false) (.seq (.seq (.region [⟨some 17, .mv (.t 1), none⟩, ⟨some 18, .bin .lss (.t 17) (.k (.int .i64 0)), none⟩, ⟨some 19, .mv (.t 18), none⟩, ⟨some 20, .mv (.t 1), some (19, false)⟩, ⟨some 21, .bin .gtr (.t 20) (.k (.int .i64 3)), some (19, false)⟩, ⟨some 22, .pick (.t 19) (.k (.bool true)) (.t 21), none⟩] false) (.cond (.t 22) (.seq (.region [⟨some 23, .load (some 2) (.t 5), none⟩, ⟨some 24, .build [.int .i64 0, .str []] [], none⟩, ⟨some 25, .eqf false true [(1, .i), (1, .s)] (.t 23) (.t 24), none⟩, ⟨some 26, .mv (.t 25), none⟩, ⟨some 27, .mv (.t 6), some (26, true)⟩, ⟨some 28, .bin .eql (.t 27) (.k (.int .i64 22)), some (26, true)⟩, ⟨some 29, .pick (.t 26) (.t 28) (.k (.bool false)), none⟩, ⟨some 4, .mv (.t 29), none⟩] false) .ret) .skip)) (.seq (.region [⟨some 31, .load (some 64) (.t 2), none⟩, ⟨some 32, .mv (.t 1), none⟩, ⟨some 33, .call 17 [.t 31, .t 32], none⟩, ⟨some 30, .mv (.t 33), none⟩, ⟨some 34, .extract (.t 30) 0, none⟩, ⟨some 35, .extract (.t 30) 1, none⟩, ⟨some 7, .alloc 30 [.int .i64 0, .str []], none⟩, ⟨none, .store 2 (.t 7) (.t 34), none⟩, ⟨some 8, .mv (.t 35), none⟩] false) (.seq (.region [⟨some 36, .load (some 2) (.t 5), none⟩, ⟨some 37, .load (some 2) (.t 7), none⟩, ⟨some 38, .eqf false true [(1, .i), (1, .s)] (.t 36) (.t 37), none⟩, ⟨some 39, .mv (.t 38), none⟩, ⟨some 40, .mv (.t 6), some (39, true)⟩, ⟨some 41, .bin .eql (.t 40) (.k (.int .i64 0)), some (39, true)⟩, ⟨some 42, .mv (.t 8), some (39, true)⟩, ⟨some 43, .eqf false false [(1, .b)] (.t 41) (.t 42), some (39, true)⟩, ⟨some 44, .pick (.t 39) (.t 43) (.k (.bool false)), none⟩, ⟨some 45, .mv (.t 44), none⟩, ⟨some 46, .mv (.t 8), some (45, true)⟩, ⟨some 47, .mv (.t 46), some (45, true)⟩, ⟨some 48, .mv (.t 6), some (47, false)⟩, ⟨some 49, .bin .eql (.t 48) (.k (.int .i64 5)), some (47, false)⟩, ⟨some 50, .pick (.t 47) (.k (.bool true)) (.t 49), some (45, true)⟩, ⟨some 51, .pick (.t 45) (.t 50) (.k (.bool false)), none⟩, ⟨some 4, .mv (.t 51), none⟩] false) .ret)))))⟩
theorem tr5 : trProg Try.prog 5 = some af5 := by kernel_rfl
def af6 : AF := ⟨74, [.t 2], .seq (.region [⟨some 2, .mv (.k (.bool false)), none⟩] false) (.seq (.seq (.region [⟨some 11, .call 8 [], none⟩, ⟨some 12, .un .not (.t 11), none⟩] false) (.cond (.t 12) (.seq (.region [⟨some 2, .mv (.k (.bool false)), none⟩] false) .ret) .skip)) (.seq (.seq (.region [⟨some 13, .mv (.t 0), none⟩, ⟨some 14, .lenL (.t 13), none⟩, ⟨some 15, .bin .gtr (.t 14) (.k (.int .i64 20)), none⟩] false) (.cond (.t 15) (.seq (.region [⟨some 2, .mv (.k (.bool true)), none⟩] false) .ret) .skip)) (.seq (.region [⟨some 17, .mv (.t 0), none⟩, ⟨some 18, .call 18 [.t 17], none⟩, ⟨some 16, .mv (.t 18), none⟩, ⟨some 19, .extract (.t 16) 0, none⟩, ⟨some 20, .extract (.t 16) 1, none⟩, ⟨some 3, .mv (.t 19), none⟩, ⟨some 4, .mv (.t 20), none⟩] false) (.seq (.region [⟨some 5, .mv (.k (.int .i64 0)), none⟩] false) (.seq (.seq (.region [⟨some 21, .mv (.t 0), none⟩, ⟨some 22, .lenL (.t 21), none⟩, ⟨some 23, .mv (.k (.int .i64 0)), none⟩] false) (.block 0 (.loop (.seq (.region [⟨some 24, .bin .lss (.t 23) (.t 22), none⟩] false) (.seq (.cond (.t 24) .skip (.exit 0)) (.seq (.block 1 (.seq (.region [⟨some 25, .iaddrS 64 (.t 21) (.t 23), none⟩, ⟨some 26, .load (some 64) (.t 25), none⟩, ⟨some 7, .alloc 32 z64, none⟩, ⟨none, .store 64 (.t 7) (.t 26), none⟩] false) (.seq (.region [⟨some 8, .mv (.k (.int .i64 0)), none⟩] false) (.block 2 (.loop (.seq (.seq (.region [⟨some 27, .mv (.t 8), none⟩, ⟨some 28, .bin .lss (.t 27) (.k (.int .i64 4)), none⟩] false) (.cond (.t 28) .skip (.exit 2))) (.seq (.block 3 (.seq (.region [⟨some 32, .load (some 64) (.t 7), none⟩, ⟨some 33, .mv (.t 8), none⟩, ⟨some 34, .call 17 [.t 32, .t 33], none⟩, ⟨some 31, .mv (.t 34), none⟩, ⟨some 35, .extract (.t 31) 0, none⟩, ⟨some 36, .extract (.t 31) 1, none⟩, ⟨some 9, .alloc 30 [.int .i64 0, .str []], none⟩, ⟨none, .store 2 (.t 9) (.t 35), none⟩, ⟨some 10, .mv (.t 36), none⟩] false) (.seq (.seq (.region [⟨some 37, .mv (.t 10), none⟩, ⟨some 38, .un .not (.t 37), none⟩] false) (.cond (.t 38) (.seq (.region [⟨some 39, .mv (.t 3), none⟩, ⟨some 40, .lenL (.t 39), none⟩, ⟨some 41, .bin .eql (.t 40) (.k (.int .i64 0)), none⟩, ⟨some 42, .mv (.t 41), none⟩, ⟨some 43, .mv (.t 4), some (42, true)⟩, ⟨some 44, .bin .eql (.t 43) (.k (.int .i64 5)), some (42, true)⟩, ⟨some 45, .pick (.t 42) (.t 44) (.k (.bool false)), none⟩, ⟨some 2, .mv (.t 45), none⟩] false) .ret) .skip)) (.seq (.seq (.draw 0 [⟨0, ⟨some 46, .mv (.t 3), none⟩, [], none, []⟩, ⟨1, ⟨some 47, .lenL (.t 46), none⟩, [], none, []⟩, ⟨2, ⟨some 48, .bin .gtr (.t 47) (.k (.int .i64 0)), none⟩, [], none, []⟩, ⟨3, ⟨some 49, .mv (.t 48), none⟩, [], none, []⟩, ⟨4, ⟨some 50, .mv (.t 5), some (49, true)⟩, [], none, []⟩, ⟨5, ⟨some 51, .mv (.t 3), some (49, true)⟩, [], none, []⟩, ⟨6, ⟨some 52, .lenL (.t 51), some (49, true)⟩, [], none, []⟩, ⟨7, ⟨some 53, .bin .geq (.t 50) (.t 52), some (49, true)⟩, [], none, []⟩, ⟨8, ⟨some 54, .mv (.t 53), some (49, true)⟩, [], none, []⟩, ⟨9, ⟨some 55, .mv (.t 3), some (54, false)⟩, [], none, []⟩, ⟨10, ⟨some 56, .mv (.t 5), some (54, false)⟩, [], none, []⟩, ⟨11, ⟨some 57, .iaddrS 2 (.t 55) (.t 56), some (54, false)⟩, [], none, []⟩, ⟨12, ⟨some 58, .load (some 2) (.t 57), some (54, false)⟩, [], none, []⟩, ⟨13, ⟨some 59, .load (some 2) (.t 9), some (54, false)⟩, [], none, []⟩, ⟨14, ⟨some 60, .eqf true true [(1, .i), (1, .s)] (.t 58) (.t 59), some (54, false)⟩, [], none, []⟩, ⟨15, ⟨some 61, .pick (.t 54) (.k (.bool true)) (.t 60), some (49, true)⟩, [], none, []⟩, ⟨16, ⟨some 62, .pick (.t 49) (.t 61) (.k (.bool false)), none⟩, [], none, []⟩]) (.cond (.t 62) (.seq (.region [⟨some 2, .mv (.k (.bool false)), none⟩] false) .ret) .skip)) (.region [⟨some 63, .mv (.t 5), none⟩, ⟨some 64, .bin .add (.t 63) (.k (.int .i64 1)), none⟩, ⟨some 5, .mv (.t 64), none⟩] false))))) (.region [⟨some 29, .mv (.t 8), none⟩, ⟨some 30, .bin .add (.t 29) (.k (.int .i64 1)), none⟩, ⟨some 8, .mv (.t 30), none⟩] false)))))))) (.region [⟨some 65, .bin .add (.t 23) (.k (.int .i64 1)), none⟩, ⟨some 23, .mv (.t 65), none⟩] false))))))) (.seq (.region [⟨some 66, .mv (.t 4), none⟩, ⟨some 67, .bin .eql (.t 66) (.k (.int .i64 0)), none⟩, ⟨some 68, .mv (.t 67), none⟩, ⟨some 69, .mv (.t 3), some (68, true)⟩, ⟨some 70, .lenL (.t 69), some (68, true)⟩, ⟨some 71, .mv (.t 5), some (68, true)⟩, ⟨some 72, .bin .eql (.t 70) (.t 71), some (68, true)⟩, ⟨some 73, .pick (.t 68) (.t 72) (.k (.bool false)), none⟩, ⟨some 2, .mv (.t 73), none⟩] false) .ret))))))⟩
theorem tr6 : trProg Try.prog 6 = some af6 := by kernel_rfl
def af7 : AF := ⟨86, [.t 4], .seq (.region [⟨some 4, .mv (.k (.bool false)), none⟩] false) (.seq (.seq (.region [⟨some 13, .call 8 [], none⟩, ⟨some 14, .un .not (.t 13), none⟩] false) (.cond (.t 14) (.seq (.region [⟨some 4, .mv (.k (.bool false)), none⟩] false) .ret) .skip)) (.seq (.seq (.region [⟨some 15, .mv (.t 0), none⟩, ⟨some 16, .lenL (.t 15), none⟩, ⟨some 17, .bin .gtr (.t 16) (.k (.int .i64 30)), none⟩, ⟨some 18, .mv (.t 17), none⟩, ⟨some 19, .mv (.t 1), some (18, false)⟩, ⟨some 20, .lenL (.t 19), some (18, false)⟩, ⟨some 21, .bin .gtr (.t 20) (.k (.int .i64 30)), some (18, false)⟩, ⟨some 22, .pick (.t 18) (.k (.bool true)) (.t 21), none⟩] false) (.cond (.t 22) (.seq (.region [⟨some 4, .mv (.k (.bool true)), none⟩] false) .ret) .skip)) (.seq (.region [⟨some 5, .alloc 32 z64, none⟩] false) (.seq (.region [⟨some 6, .alloc 49 [.int .i64 0, .str [], .int .i64 0, .str [], .int .i64 0, .str [], .int .i64 0, .str []], none⟩] false) (.seq (.seq (.region [⟨some 23, .mv (.t 1), none⟩, ⟨some 24, .lenL (.t 23), none⟩, ⟨some 25, .mv (.k (.int .i64 0)), none⟩] false) (.block 0 (.loop (.seq (.region [⟨some 26, .bin .lss (.t 25) (.t 24), none⟩] false) (.seq (.cond (.t 26) .skip (.exit 0)) (.seq (.block 1 (.seq (.region [⟨some 27, .mv (.t 25), none⟩, ⟨some 28, .iaddrS 2 (.t 23) (.t 25), none⟩, ⟨some 29, .load (some 2) (.t 28), none⟩, ⟨some 8, .alloc 23 [.int .i64 0, .str []], none⟩, ⟨some 7, .mv (.t 27), none⟩, ⟨none, .store 2 (.t 8) (.t 29), none⟩] false) (.seq (.seq (.region [⟨some 30, .mv (.t 7), none⟩, ⟨some 31, .mv (.t 0), none⟩, ⟨some 32, .lenL (.t 31), none⟩, ⟨some 33, .bin .geq (.t 30) (.t 32), none⟩, ⟨some 34, .mv (.t 33), none⟩, ⟨some 35, .faddr 1 (.t 8), some (34, false)⟩, ⟨some 36, .load none (.t 35), some (34, false)⟩, ⟨some 37, .lenS (.t 36), some (34, false)⟩, ⟨some 38, .bin .gtr (.t 37) (.k (.int .i64 100)), some (34, false)⟩, ⟨some 39, .pick (.t 34) (.k (.bool true)) (.t 38), none⟩] false) (.cond (.t 39) (.exit 0) .skip)) (.seq (.region [⟨some 40, .mv (.t 0), none⟩, ⟨some 41, .mv (.t 7), none⟩, ⟨some 42, .iaddrS 1 (.t 40) (.t 41), none⟩, ⟨some 43, .load none (.t 42), none⟩, ⟨some 44, .toInt .i64 (.t 43), none⟩, ⟨some 45, .bin .rem (.t 44) (.k (.int .i64 4)), none⟩, ⟨some 9, .mv (.t 45), none⟩] false) (.seq (.region [⟨some 46, .load (some 64) (.t 5), none⟩, ⟨some 47, .mv (.t 9), none⟩, ⟨some 48, .load (some 2) (.t 8), none⟩, ⟨some 49, .call 13 [.t 46, .t 47, .t 48], none⟩, ⟨none, .store 64 (.t 5) (.t 49), none⟩] false) (.seq (.region [⟨some 50, .load (some 2) (.t 8), none⟩, ⟨some 51, .call 11 [.t 50], none⟩, ⟨some 52, .mv (.t 51), none⟩, ⟨some 53, .load (some 2) (.t 8), some (52, false)⟩, ⟨some 54, .build [.int .i64 0, .str []] [], some (52, false)⟩, ⟨some 55, .eqf false true [(1, .i), (1, .s)] (.t 53) (.t 54), some (52, false)⟩, ⟨some 56, .pick (.t 52) (.k (.bool true)) (.t 55), none⟩] false) (.cond (.t 56) (.region [⟨some 57, .mv (.t 9), none⟩, ⟨some 58, .load (some 2) (.t 8), none⟩, ⟨some 59, .iaddrA 4 2 (.t 6) (.t 57), none⟩, ⟨none, .store 2 (.t 59) (.t 58), none⟩] false) .skip))))))) (.region [⟨some 60, .bin .add (.t 25) (.k (.int .i64 1)), none⟩, ⟨some 25, .mv (.t 60), none⟩] false))))))) (.seq (.region [⟨some 62, .load (some 64) (.t 5), none⟩, ⟨some 63, .bslice 32 64 z64 [(0, (64, .t 62))], none⟩, ⟨some 64, .call 18 [.t 63], none⟩, ⟨some 61, .mv (.t 64), none⟩, ⟨some 65, .extract (.t 61) 0, none⟩, ⟨some 66, .extract (.t 61) 1, none⟩, ⟨some 10, .mv (.t 65), none⟩, ⟨some 11, .mv (.t 66), none⟩] false) (.seq (.seq (.region [⟨some 67, .mv (.t 11), none⟩, ⟨some 68, .bin .neq (.t 67) (.k (.int .i64 0)), none⟩, ⟨some 69, .mv (.t 68), none⟩, ⟨some 70, .mv (.t 10), some (69, false)⟩, ⟨some 71, .lenL (.t 70), some (69, false)⟩, ⟨some 72, .bin .neq (.t 71) (.k (.int .i64 4)), some (69, false)⟩, ⟨some 73, .pick (.t 69) (.k (.bool true)) (.t 72), none⟩] false) (.cond (.t 73) (.seq (.region [⟨some 4, .mv (.k (.bool false)), none⟩] false) .ret) .skip)) (.seq (.seq (.region [⟨some 74, .mv (.k (.int .i64 0)), none⟩] false) (.block 2 (.loop (.seq (.region [⟨some 75, .bin .lss (.t 74) (.k (.int .i64 4)), none⟩] false) (.seq (.cond (.t 75) .skip (.exit 2)) (.seq (.block 3 (.seq (.region [⟨some 76, .mv (.t 74), none⟩, ⟨some 12, .mv (.t 76), none⟩] false) (.seq (.draw 0 [⟨0, ⟨some 77, .mv (.t 10), none⟩, [], none, []⟩, ⟨1, ⟨some 78, .mv (.t 12), none⟩, [], none, []⟩, ⟨2, ⟨some 79, .iaddrS 2 (.t 77) (.t 78), none⟩, [], none, []⟩, ⟨3, ⟨some 80, .load (some 2) (.t 79), none⟩, [], none, []⟩, ⟨4, ⟨some 81, .mv (.t 12), none⟩, [], none, []⟩, ⟨5, ⟨some 82, .iaddrA 4 2 (.t 6) (.t 81), none⟩, [], none, []⟩, ⟨6, ⟨some 83, .load (some 2) (.t 82), none⟩, [], none, []⟩, ⟨7, ⟨some 84, .eqf true true [(1, .i), (1, .s)] (.t 80) (.t 83), none⟩, [], none, []⟩]) (.cond (.t 84) (.seq (.region [⟨some 4, .mv (.k (.bool false)), none⟩] false) .ret) .skip)))) (.region [⟨some 85, .bin .add (.t 74) (.k (.int .i64 1)), none⟩, ⟨some 74, .mv (.t 85), none⟩] false))))))) (.seq (.region [⟨some 4, .mv (.k (.bool true)), none⟩] false) .ret)))))))))⟩
theorem tr7 : trProg Try.prog 7 = some af7 := by kernel_rfl
def af8 : AF := ⟨44, [.t 0], .seq (.region [⟨some 0, .mv (.k (.bool false)), none⟩] false) (.seq (.region [⟨some 4, .build z64 [], none⟩, ⟨some 5, .build [.int .i64 0, .str []] [(0, (1, .k (.int .i64 258))), (1, (1, .k (.str [97, 98])))], none⟩, ⟨some 6, .call 13 [.t 4, .k (.int .i64 1), .t 5], none⟩, ⟨some 1, .alloc 32 z64, none⟩, ⟨none, .store 64 (.t 1) (.t 6), none⟩] false) (.seq (.region [⟨some 8, .load (some 64) (.t 1), none⟩, ⟨some 9, .call 14 [.t 8, .k (.int .i64 1)], none⟩, ⟨some 7, .mv (.t 9), none⟩, ⟨some 10, .extract (.t 7) 0, none⟩, ⟨some 11, .extract (.t 7) 1, none⟩, ⟨some 2, .alloc 23 [.int .i64 0, .str []], none⟩, ⟨none, .store 2 (.t 2) (.t 10), none⟩, ⟨some 3, .mv (.t 11), none⟩] false) (.seq (.region [⟨some 12, .iaddrA 64 1 (.t 1) (.k (.int .i64 16)), none⟩, ⟨some 13, .load none (.t 12), none⟩, ⟨some 14, .bin .eql (.t 13) (.k (.int .u8 1)), none⟩, ⟨some 15, .mv (.t 14), none⟩, ⟨some 16, .iaddrA 64 1 (.t 1) (.k (.int .i64 17)), some (15, true)⟩, ⟨some 17, .load none (.t 16), some (15, true)⟩, ⟨some 18, .bin .eql (.t 17) (.k (.int .u8 2)), some (15, true)⟩, ⟨some 19, .pick (.t 15) (.t 18) (.k (.bool false)), none⟩, ⟨some 20, .mv (.t 19), none⟩, ⟨some 21, .iaddrA 64 1 (.t 1) (.k (.int .i64 18)), some (20, true)⟩, ⟨some 22, .load none (.t 21), some (20, true)⟩, ⟨some 23, .bin .eql (.t 22) (.k (.int .u8 2)), some (20, true)⟩, ⟨some 24, .pick (.t 20) (.t 23) (.k (.bool false)), none⟩, ⟨some 25, .mv (.t 24), none⟩, ⟨some 26, .iaddrA 64 1 (.t 1) (.k (.int .i64 19)), some (25, true)⟩, ⟨some 27, .load none (.t 26), some (25, true)⟩, ⟨some 28, .bin .eql (.t 27) (.k (.int .u8 97)), some (25, true)⟩, ⟨some 29, .pick (.t 25) (.t 28) (.k (.bool false)), none⟩, ⟨some 30, .mv (.t 29), none⟩, ⟨some 31, .iaddrA 64 1 (.t 1) (.k (.int .i64 20)), some (30, true)⟩, ⟨some 32, .load none (.t 31), some (30, true)⟩, ⟨some 33, .bin .eql (.t 32) (.k (.int .u8 98)), some (30, true)⟩, ⟨some 34, .pick (.t 30) (.t 33) (.k (.bool false)), none⟩, ⟨some 35, .mv (.t 34), none⟩, ⟨some 36, .mv (.t 3), some (35, true)⟩, ⟨some 37, .bin .eql (.t 36) (.k (.int .i64 0)), some (35, true)⟩, ⟨some 38, .pick (.t 35) (.t 37) (.k (.bool false)), none⟩, ⟨some 39, .mv (.t 38), none⟩, ⟨some 40, .load (some 2) (.t 2), some (39, true)⟩, ⟨some 41, .build [.int .i64 0, .str []] [(0, (1, .k (.int .i64 258))), (1, (1, .k (.str [97, 98])))], some (39, true)⟩, ⟨some 42, .eqf false true [(1, .i), (1, .s)] (.t 40) (.t 41), some (39, true)⟩, ⟨some 43, .pick (.t 39) (.t 42) (.k (.bool false)), none⟩, ⟨some 0, .mv (.t 43), none⟩] false) .ret)))⟩
theorem tr8 : trProg Try.prog 8 = some af8 := by kernel_rfl
def af9 : AF := ⟨25, [.t 2], .seq (.region [⟨some 2, .mv (.k (.int .i64 0)), none⟩] false) (.seq (.block 0 (.seq (.region [⟨some 4, .mv (.t 0), none⟩, ⟨some 5, .bin .eql (.t 4) (.k (.str [])), none⟩, ⟨some 3, .mv (.t 5), none⟩] false) (.cond (.t 3) (.seq (.region [⟨some 2, .mv (.k (.int .i64 2)), none⟩] false) .ret) (.seq (.region [⟨some 7, .mv (.t 0), none⟩, ⟨some 8, .lenS (.t 7), none⟩, ⟨some 9, .bin .gtr (.t 8) (.k (.int .i64 13)), none⟩, ⟨some 6, .mv (.t 9), none⟩] false) (.cond (.t 6) (.seq (.region [⟨some 2, .mv (.k (.int .i64 36)), none⟩] false) .ret) (.seq (.region [⟨some 11, .mv (.t 0), none⟩, ⟨some 12, .bin .eql (.t 11) (.k (.str [46])), none⟩, ⟨some 13, .mv (.t 12), none⟩, ⟨some 14, .mv (.t 0), some (13, false)⟩, ⟨some 15, .bin .eql (.t 14) (.k (.str [46, 46])), some (13, false)⟩, ⟨some 16, .pick (.t 13) (.k (.bool true)) (.t 15), none⟩, ⟨some 17, .mv (.t 16), none⟩, ⟨some 18, .mv (.t 0), some (17, false)⟩, ⟨some 19, .call 19 [.t 18, .k (.str [47])], some (17, false)⟩, ⟨some 20, .pick (.t 17) (.k (.bool true)) (.t 19), none⟩, ⟨some 21, .mv (.t 20), none⟩, ⟨some 22, .mv (.t 0), some (21, false)⟩, ⟨some 23, .call 19 [.t 22, .k (.str [0])], some (21, false)⟩, ⟨some 24, .pick (.t 21) (.k (.bool true)) (.t 23), none⟩, ⟨some 10, .mv (.t 24), none⟩] false) (.cond (.t 10) (.seq (.region [⟨some 2, .mv (.k (.int .i64 22)), none⟩] false) .ret) .skip))))))) (.seq (.region [⟨some 2, .mv (.k (.int .i64 0)), none⟩] false) .ret))⟩
theorem tr9 : trProg Try.prog 9 = some af9 := by kernel_rfl
def af10 : AF := ⟨32, [.t 2], .seq (.region [⟨some 2, .mv (.k (.int .i64 0)), none⟩] false) (.seq (.seq (.region [⟨some 4, .mv (.t 0), none⟩, ⟨some 5, .lenS (.t 4), none⟩, ⟨some 6, .bin .eql (.t 5) (.k (.int .i64 0)), none⟩] false) (.cond (.t 6) (.seq (.region [⟨some 2, .mv (.k (.int .i64 2)), none⟩] false) .ret) .skip)) (.seq (.seq (.region [⟨some 7, .mv (.t 0), none⟩, ⟨some 8, .lenS (.t 7), none⟩, ⟨some 9, .bin .gtr (.t 8) (.k (.int .i64 13)), none⟩] false) (.cond (.t 9) (.seq (.region [⟨some 2, .mv (.k (.int .i64 36)), none⟩] false) .ret) .skip)) (.seq (.seq (.region [⟨some 10, .mv (.t 0), none⟩, ⟨some 11, .bin .eql (.t 10) (.k (.str [46])), none⟩, ⟨some 12, .mv (.t 11), none⟩, ⟨some 13, .mv (.t 0), some (12, false)⟩, ⟨some 14, .bin .eql (.t 13) (.k (.str [46, 46])), some (12, false)⟩, ⟨some 15, .pick (.t 12) (.k (.bool true)) (.t 14), none⟩] false) (.cond (.t 15) (.seq (.region [⟨some 2, .mv (.k (.int .i64 22)), none⟩] false) .ret) .skip)) (.seq (.seq (.region [⟨some 3, .mv (.k (.int .i64 0)), none⟩] false) (.block 0 (.loop (.seq (.seq (.region [⟨some 16, .mv (.t 3), none⟩, ⟨some 17, .mv (.t 0), none⟩, ⟨some 18, .lenS (.t 17), none⟩, ⟨some 19, .bin .lss (.t 16) (.t 18), none⟩] false) (.cond (.t 19) .skip (.exit 0))) (.seq (.block 1 (.seq (.region [⟨some 22, .mv (.t 0), none⟩, ⟨some 23, .mv (.t 3), none⟩, ⟨some 24, .idxS (.t 22) (.t 23), none⟩, ⟨some 25, .bin .eql (.t 24) (.k (.int .u8 0)), none⟩, ⟨some 26, .mv (.t 25), none⟩, ⟨some 27, .mv (.t 0), some (26, false)⟩, ⟨some 28, .mv (.t 3), some (26, false)⟩, ⟨some 29, .idxS (.t 27) (.t 28), some (26, false)⟩, ⟨some 30, .bin .eql (.t 29) (.k (.int .u8 47)), some (26, false)⟩, ⟨some 31, .pick (.t 26) (.k (.bool true)) (.t 30), none⟩] false) (.cond (.t 31) (.seq (.region [⟨some 2, .mv (.k (.int .i64 22)), none⟩] false) .ret) .skip))) (.region [⟨some 20, .mv (.t 3), none⟩, ⟨some 21, .bin .add (.t 20) (.k (.int .i64 1)), none⟩, ⟨some 3, .mv (.t 21), none⟩] false)))))) (.seq (.region [⟨some 2, .mv (.k (.int .i64 0)), none⟩] false) .ret)))))⟩
theorem tr10 : trProg Try.prog 10 = some af10 := by kernel_rfl
def af11 : AF := ⟨17, [.t 2], .seq (.region [⟨some 1, .box 23 (.t 0), none⟩, ⟨some 2, .mv (.k (.bool false)), none⟩] false) (.seq (.region [⟨some 3, .faddr 0 (.t 1), none⟩, ⟨some 4, .load none (.t 3), none⟩, ⟨some 5, .bin .geq (.t 4) (.k (.int .i64 1)), none⟩, ⟨some 6, .mv (.t 5), none⟩, ⟨some 7, .faddr 0 (.t 1), some (6, true)⟩, ⟨some 8, .load none (.t 7), some (6, true)⟩, ⟨some 9, .bin .leq (.t 8) (.k (.int .i64 65535)), some (6, true)⟩, ⟨some 10, .pick (.t 6) (.t 9) (.k (.bool false)), none⟩, ⟨some 11, .mv (.t 10), none⟩, ⟨some 12, .faddr 1 (.t 1), some (11, true)⟩, ⟨some 13, .load none (.t 12), some (11, true)⟩, ⟨some 14, .call 9 [.t 13], some (11, true)⟩, ⟨some 15, .bin .eql (.t 14) (.k (.int .i64 0)), some (11, true)⟩, ⟨some 16, .pick (.t 11) (.t 15) (.k (.bool false)), none⟩, ⟨some 2, .mv (.t 16), none⟩] false) .ret)⟩
theorem tr11 : trProg Try.prog 11 = some af11 := by kernel_rfl
def af12 : AF := ⟨17, [.t 2], .seq (.region [⟨some 1, .box 30 (.t 0), none⟩, ⟨some 2, .mv (.k (.bool false)), none⟩] false) (.seq (.region [⟨some 3, .faddr 0 (.t 1), none⟩, ⟨some 4, .load none (.t 3), none⟩, ⟨some 5, .bin .gtr (.t 4) (.k (.int .i64 0)), none⟩, ⟨some 6, .mv (.t 5), none⟩, ⟨some 7, .faddr 0 (.t 1), some (6, true)⟩, ⟨some 8, .load none (.t 7), some (6, true)⟩, ⟨some 9, .bin .lss (.t 8) (.k (.int .i64 65536)), some (6, true)⟩, ⟨some 10, .pick (.t 6) (.t 9) (.k (.bool false)), none⟩, ⟨some 11, .mv (.t 10), none⟩, ⟨some 12, .faddr 1 (.t 1), some (11, true)⟩, ⟨some 13, .load none (.t 12), some (11, true)⟩, ⟨some 14, .call 10 [.t 13], some (11, true)⟩, ⟨some 15, .bin .eql (.t 14) (.k (.int .i64 0)), some (11, true)⟩, ⟨some 16, .pick (.t 11) (.t 15) (.k (.bool false)), none⟩, ⟨some 2, .mv (.t 16), none⟩] false) .ret)⟩
theorem tr12 : trProg Try.prog 12 = some af12 := by kernel_rfl
def af13 : AF := ⟨46, [.c 6 (some 64)], .seq (.region [⟨some 3, .box 32 (.t 0), none⟩, ⟨some 5, .box 23 (.t 2), none⟩, ⟨some 6, .alloc 32 z64, none⟩] false) (.seq (.seq (.region [⟨some 8, .mv (.t 1), none⟩, ⟨some 9, .call 20 [.t 8], none⟩, ⟨some 10, .un .not (.t 9), none⟩, ⟨some 11, .mv (.t 10), none⟩, ⟨some 12, .load (some 2) (.t 5), some (11, false)⟩, ⟨some 13, .call 11 [.t 12], some (11, false)⟩, ⟨some 14, .un .not (.t 13), some (11, false)⟩, ⟨some 15, .mv (.t 14), some (11, false)⟩, ⟨some 16, .load (some 2) (.t 5), some (15, true)⟩, ⟨some 17, .build [.int .i64 0, .str []] [], some (15, true)⟩, ⟨some 18, .eqf true true [(1, .i), (1, .s)] (.t 16) (.t 17), some (15, true)⟩, ⟨some 19, .pick (.t 15) (.t 18) (.k (.bool false)), some (11, false)⟩, ⟨some 20, .pick (.t 11) (.k (.bool true)) (.t 19), none⟩] false) (.cond (.t 20) (.seq (.region [⟨some 21, .load (some 64) (.t 3), none⟩, ⟨none, .store 64 (.t 6) (.t 21), none⟩] false) .ret) .skip)) (.seq (.region [⟨some 22, .mv (.t 1), none⟩, ⟨some 23, .bin .mul (.t 22) (.k (.int .i64 16)), none⟩, ⟨some 7, .mv (.t 23), none⟩] false) (.seq (.region [⟨some 24, .mv (.t 7), none⟩, ⟨some 25, .mv (.t 7), none⟩, ⟨some 26, .bin .add (.t 25) (.k (.int .i64 16)), none⟩, ⟨some 27, .slA 64 1 (.t 3) (some (.t 24)) (some (.t 26)), none⟩, ⟨none, .clearL 1 [.int .u8 0] (.t 27), none⟩] false) (.seq (.region [⟨some 28, .load (some 64) (.t 3), none⟩, ⟨some 29, .mv (.t 7), none⟩, ⟨some 30, .faddr 0 (.t 5), none⟩, ⟨some 31, .load none (.t 30), none⟩, ⟨some 32, .call 21 [.t 28, .t 29, .k (.int .i64 2), .t 31], none⟩, ⟨none, .store 64 (.t 3) (.t 32), none⟩] false) (.seq (.region [⟨some 33, .load (some 64) (.t 3), none⟩, ⟨some 34, .mv (.t 7), none⟩, ⟨some 35, .bin .add (.t 34) (.k (.int .i64 2)), none⟩, ⟨some 36, .faddr 1 (.t 5), none⟩, ⟨some 37, .load none (.t 36), none⟩, ⟨some 38, .lenS (.t 37), none⟩, ⟨some 39, .call 21 [.t 33, .t 35, .k (.int .i64 1), .t 38], none⟩, ⟨none, .store 64 (.t 3) (.t 39), none⟩] false) (.seq (.region [⟨some 40, .load (some 64) (.t 3), none⟩, ⟨some 41, .mv (.t 7), none⟩, ⟨some 42, .bin .add (.t 41) (.k (.int .i64 3)), none⟩, ⟨some 43, .faddr 1 (.t 5), none⟩, ⟨some 44, .load none (.t 43), none⟩, ⟨some 45, .call 22 [.t 40, .t 42, .t 44], none⟩, ⟨none, .store 64 (.t 6) (.t 45), none⟩] false) .ret))))))⟩
theorem tr13 : trProg Try.prog 13 = some af13 := by kernel_rfl
def af14 : AF := ⟨46, [.c 4 (some 2), .t 5], .seq (.region [⟨some 2, .box 32 (.t 0), none⟩, ⟨some 4, .alloc 23 [.int .i64 0, .str []], none⟩, ⟨some 5, .mv (.k (.int .i64 0)), none⟩] false) (.seq (.seq (.region [⟨some 8, .mv (.t 1), none⟩, ⟨some 9, .call 20 [.t 8], none⟩, ⟨some 10, .un .not (.t 9), none⟩] false) (.cond (.t 10) (.seq (.region [⟨some 11, .build [.int .i64 0, .str []] [], none⟩, ⟨none, .store 2 (.t 4) (.t 11), none⟩, ⟨some 5, .mv (.k (.int .i64 22)), none⟩] false) .ret) .skip)) (.seq (.region [⟨some 12, .mv (.t 1), none⟩, ⟨some 13, .bin .mul (.t 12) (.k (.int .i64 16)), none⟩, ⟨some 6, .mv (.t 13), none⟩] false) (.seq (.draw 1 [⟨0, ⟨some 14, .load (some 64) (.t 2), none⟩, [], none, []⟩, ⟨1, ⟨some 15, .mv (.t 6), none⟩, [], none, []⟩, ⟨3, ⟨some 17, .load (some 64) (.t 2), none⟩, [], none, []⟩, ⟨4, ⟨some 18, .mv (.t 6), none⟩, [], none, []⟩, ⟨5, ⟨some 19, .bin .add (.t 18) (.k (.int .i64 3)), none⟩, [], none, []⟩, ⟨6, ⟨some 20, .mv (.t 6), none⟩, [], none, []⟩, ⟨7, ⟨some 21, .bin .add (.t 20) (.k (.int .i64 2)), none⟩, [], none, []⟩, ⟨8, ⟨some 22, .iaddrA 64 1 (.t 2) (.t 21), none⟩, [], none, []⟩, ⟨9, ⟨some 23, .load none (.t 22), none⟩, [], none, []⟩, ⟨10, ⟨some 24, .toInt .i64 (.t 23), none⟩, [], none, []⟩, ⟨11, ⟨some 25, .minmax false [.t 24, .k (.int .i64 13)], none⟩, [], none, []⟩, ⟨2, ⟨some 16, .call 23 [.t 14, .t 15, .k (.int .i64 2)], none⟩, [], none, [⟨some 23, .load none (.t 22), none⟩, ⟨some 17, .load (some 64) (.t 2), none⟩]⟩, ⟨12, ⟨some 26, .call 24 [.t 17, .t 19, .t 25], none⟩, [], none, []⟩, ⟨13, ⟨some 27, .build [.int .i64 0, .str []] [(0, (1, .t 16)), (1, (1, .t 26))], none⟩, [], none, []⟩, ⟨14, ⟨some 7, .alloc 23 [.int .i64 0, .str []], none⟩, [], some 0, []⟩, ⟨15, ⟨none, .store 2 (.t 7) (.t 27), none⟩, [0], none, []⟩]) (.seq (.seq (.draw 0 [⟨0, ⟨some 28, .load (some 2) (.t 7), none⟩, [], none, []⟩, ⟨1, ⟨some 29, .call 11 [.t 28], none⟩, [], none, []⟩, ⟨2, ⟨some 30, .un .not (.t 29), none⟩, [], none, []⟩, ⟨3, ⟨some 31, .mv (.t 30), none⟩, [], none, []⟩, ⟨4, ⟨some 32, .load (some 2) (.t 7), some (31, true)⟩, [], none, []⟩, ⟨5, ⟨some 33, .build [.int .i64 0, .str []] [], some (31, true)⟩, [], none, []⟩, ⟨6, ⟨some 34, .eqf true true [(1, .i), (1, .s)] (.t 32) (.t 33), some (31, true)⟩, [], none, []⟩, ⟨7, ⟨some 35, .pick (.t 31) (.t 34) (.k (.bool false)), none⟩, [], none, []⟩, ⟨8, ⟨some 36, .mv (.t 35), none⟩, [], none, []⟩, ⟨9, ⟨some 37, .load (some 64) (.t 2), some (36, false)⟩, [], none, []⟩, ⟨10, ⟨some 38, .mv (.t 1), some (36, false)⟩, [], none, []⟩, ⟨11, ⟨some 39, .load (some 2) (.t 7), some (36, false)⟩, [], none, []⟩, ⟨13, ⟨some 41, .load (some 64) (.t 2), some (36, false)⟩, [], none, []⟩, ⟨12, ⟨some 40, .call 13 [.t 37, .t 38, .t 39], some (36, false)⟩, [], none, [⟨some 41, .load (some 64) (.t 2), some (36, false)⟩]⟩, ⟨14, ⟨some 42, .eqf true true [(64, .i)] (.t 40) (.t 41), some (36, false)⟩, [], none, []⟩, ⟨15, ⟨some 43, .pick (.t 36) (.k (.bool true)) (.t 42), none⟩, [], none, []⟩]) (.cond (.t 43) (.seq (.region [⟨some 44, .build [.int .i64 0, .str []] [], none⟩, ⟨none, .store 2 (.t 4) (.t 44), none⟩, ⟨some 5, .mv (.k (.int .i64 5)), none⟩] false) .ret) .skip)) (.seq (.region [⟨some 45, .load (some 2) (.t 7), none⟩, ⟨none, .store 2 (.t 4) (.t 45), none⟩, ⟨some 5, .mv (.k (.int .i64 0)), none⟩] false) .ret)))))⟩
theorem tr14 : trProg Try.prog 14 = some af14 := by kernel_rfl
def af15 : AF := ⟨21, [.c 6 (some 64)], .seq (.region [⟨some 3, .box 32 (.t 0), none⟩, ⟨some 5, .box 37 (.t 2), none⟩, ⟨some 6, .alloc 32 z64, none⟩] false) (.seq (.seq (.region [⟨some 7, .mv (.k (.int .i64 0)), none⟩] false) (.block 0 (.loop (.seq (.seq (.region [⟨some 8, .mv (.t 7), none⟩, ⟨some 9, .bin .lss (.t 8) (.k (.int .i64 16)), none⟩] false) (.cond (.t 9) .skip (.exit 0))) (.seq (.block 1 (.region [⟨some 12, .mv (.t 1), none⟩, ⟨some 13, .bin .mul (.k (.int .i64 16)) (.t 12), none⟩, ⟨some 14, .mv (.t 7), none⟩, ⟨some 15, .bin .add (.t 13) (.t 14), none⟩, ⟨some 16, .mv (.t 7), none⟩, ⟨some 17, .iaddrA 16 1 (.t 5) (.t 16), none⟩, ⟨some 18, .load none (.t 17), none⟩, ⟨some 19, .iaddrA 64 1 (.t 3) (.t 15), none⟩, ⟨none, .store 1 (.t 19) (.t 18), none⟩] false)) (.region [⟨some 10, .mv (.t 7), none⟩, ⟨some 11, .bin .add (.t 10) (.k (.int .i64 1)), none⟩, ⟨some 7, .mv (.t 11), none⟩] false)))))) (.seq (.region [⟨some 20, .load (some 64) (.t 3), none⟩, ⟨none, .store 64 (.t 6) (.t 20), none⟩] false) .ret))⟩
theorem tr15 : trProg Try.prog 15 = some af15 := by kernel_rfl
def af16 : AF := ⟨36, [.c 2 (some 16)], .seq (.region [⟨some 1, .box 30 (.t 0), none⟩, ⟨some 2, .alloc 37 z16, none⟩] false) (.seq (.region [⟨some 5, .build z16 [], none⟩, ⟨some 3, .alloc 37 z16, none⟩, ⟨none, .store 16 (.t 3) (.t 5), none⟩] false) (.seq (.draw 0 [⟨0, ⟨some 6, .faddr 0 (.t 1), none⟩, [], none, []⟩, ⟨1, ⟨some 7, .load none (.t 6), none⟩, [], none, []⟩, ⟨2, ⟨some 8, .bin .quo (.t 7) (.k (.int .i64 256)), none⟩, [], none, []⟩, ⟨3, ⟨some 9, .toInt .u8 (.t 8), none⟩, [], none, []⟩, ⟨4, ⟨some 10, .faddr 0 (.t 1), none⟩, [], none, []⟩, ⟨5, ⟨some 11, .load none (.t 10), none⟩, [], none, []⟩, ⟨6, ⟨some 12, .bin .rem (.t 11) (.k (.int .i64 256)), none⟩, [], none, []⟩, ⟨7, ⟨some 13, .toInt .u8 (.t 12), none⟩, [], none, []⟩, ⟨8, ⟨some 14, .faddr 1 (.t 1), none⟩, [], none, []⟩, ⟨9, ⟨some 15, .load none (.t 14), none⟩, [], none, []⟩, ⟨10, ⟨some 16, .lenS (.t 15), none⟩, [], none, []⟩, ⟨11, ⟨some 17, .toInt .u8 (.t 16), none⟩, [], none, []⟩, ⟨12, ⟨some 18, .iaddrA 16 1 (.t 3) (.k (.int .i64 0)), none⟩, [], none, []⟩, ⟨13, ⟨none, .store 1 (.t 18) (.t 9), none⟩, [], none, [⟨some 15, .load none (.t 14), none⟩, ⟨some 11, .load none (.t 10), none⟩]⟩, ⟨14, ⟨some 19, .iaddrA 16 1 (.t 3) (.k (.int .i64 1)), none⟩, [], none, []⟩, ⟨15, ⟨none, .store 1 (.t 19) (.t 13), none⟩, [], none, [⟨some 15, .load none (.t 14), none⟩]⟩, ⟨16, ⟨some 20, .iaddrA 16 1 (.t 3) (.k (.int .i64 2)), none⟩, [], none, []⟩, ⟨17, ⟨none, .store 1 (.t 20) (.t 17), none⟩, [], none, []⟩]) (.seq (.seq (.region [⟨some 4, .mv (.k (.int .i64 0)), none⟩] false) (.block 0 (.loop (.seq (.seq (.region [⟨some 21, .mv (.t 4), none⟩, ⟨some 22, .faddr 1 (.t 1), none⟩, ⟨some 23, .load none (.t 22), none⟩, ⟨some 24, .lenS (.t 23), none⟩, ⟨some 25, .bin .lss (.t 21) (.t 24), none⟩] false) (.cond (.t 25) .skip (.exit 0))) (.seq (.block 1 (.region [⟨some 28, .mv (.t 4), none⟩, ⟨some 29, .bin .add (.k (.int .i64 3)) (.t 28), none⟩, ⟨some 30, .faddr 1 (.t 1), none⟩, ⟨some 31, .load none (.t 30), none⟩, ⟨some 32, .mv (.t 4), none⟩, ⟨some 33, .idxS (.t 31) (.t 32), none⟩, ⟨some 34, .iaddrA 16 1 (.t 3) (.t 29), none⟩, ⟨none, .store 1 (.t 34) (.t 33), none⟩] false)) (.region [⟨some 26, .mv (.t 4), none⟩, ⟨some 27, .bin .add (.t 26) (.k (.int .i64 1)), none⟩, ⟨some 4, .mv (.t 27), none⟩] false)))))) (.seq (.region [⟨some 35, .load (some 16) (.t 3), none⟩, ⟨none, .store 16 (.t 2) (.t 35), none⟩] false) .ret))))⟩
theorem tr16 : trProg Try.prog 16 = some af16 := by kernel_rfl
def af17 : AF := ⟨68, [.c 4 (some 2), .t 5], .seq (.region [⟨some 2, .box 32 (.t 0), none⟩, ⟨some 4, .alloc 30 [.int .i64 0, .str []], none⟩, ⟨some 5, .mv (.k (.bool false)), none⟩] false) (.seq (.region [⟨some 11, .build z16 [], none⟩, ⟨some 6, .alloc 37 z16, none⟩, ⟨none, .store 16 (.t 6) (.t 11), none⟩] false) (.seq (.seq (.region [⟨some 7, .mv (.k (.int .i64 0)), none⟩] false) (.block 0 (.loop (.seq (.seq (.region [⟨some 12, .mv (.t 7), none⟩, ⟨some 13, .bin .lss (.t 12) (.k (.int .i64 16)), none⟩] false) (.cond (.t 13) .skip (.exit 0))) (.seq (.block 1 (.region [⟨some 16, .mv (.t 7), none⟩, ⟨some 17, .mv (.t 1), none⟩, ⟨some 18, .bin .mul (.k (.int .i64 16)) (.t 17), none⟩, ⟨some 19, .mv (.t 7), none⟩, ⟨some 20, .bin .add (.t 18) (.t 19), none⟩, ⟨some 21, .iaddrA 64 1 (.t 2) (.t 20), none⟩, ⟨some 22, .load none (.t 21), none⟩, ⟨some 23, .iaddrA 16 1 (.t 6) (.t 16), none⟩, ⟨none, .store 1 (.t 23) (.t 22), none⟩] false)) (.region [⟨some 14, .mv (.t 7), none⟩, ⟨some 15, .bin .add (.t 14) (.k (.int .i64 1)), none⟩, ⟨some 7, .mv (.t 15), none⟩] false)))))) (.seq (.seq (.region [⟨some 24, .load (some 16) (.t 6), none⟩, ⟨some 25, .build z16 [], none⟩, ⟨some 26, .eqf false true [(16, .i)] (.t 24) (.t 25), none⟩] false) (.cond (.t 26) (.seq (.region [⟨some 27, .build [.int .i64 0, .str []] [], none⟩, ⟨none, .store 2 (.t 4) (.t 27), none⟩, ⟨some 5, .mv (.k (.bool true)), none⟩] false) .ret) .skip)) (.seq (.seq (.region [⟨some 28, .iaddrA 16 1 (.t 6) (.k (.int .i64 2)), none⟩, ⟨some 29, .load none (.t 28), none⟩, ⟨some 30, .bin .gtr (.t 29) (.k (.int .u8 13)), none⟩] false) (.cond (.t 30) (.seq (.region [⟨some 31, .build [.int .i64 0, .str []] [], none⟩, ⟨none, .store 2 (.t 4) (.t 31), none⟩, ⟨some 5, .mv (.k (.bool false)), none⟩] false) .ret) .skip)) (.seq (.region [⟨some 8, .mv (.k (.str [])), none⟩] false) (.seq (.seq (.region [⟨some 9, .mv (.k (.int .i64 0)), none⟩] false) (.block 2 (.loop (.seq (.seq (.region [⟨some 32, .mv (.t 9), none⟩, ⟨some 33, .iaddrA 16 1 (.t 6) (.k (.int .i64 2)), none⟩, ⟨some 34, .load none (.t 33), none⟩, ⟨some 35, .toInt .i64 (.t 34), none⟩, ⟨some 36, .bin .lss (.t 32) (.t 35), none⟩] false) (.cond (.t 36) .skip (.exit 2))) (.seq (.block 3 (.region [⟨some 39, .mv (.t 8), none⟩, ⟨some 40, .mv (.t 9), none⟩, ⟨some 41, .bin .add (.k (.int .i64 3)) (.t 40), none⟩, ⟨some 42, .iaddrA 16 1 (.t 6) (.t 41), none⟩, ⟨some 43, .load none (.t 42), none⟩, ⟨some 44, .bslice 5 1 [.int .u8 0] [(0, (1, .t 43))], none⟩, ⟨some 45, .toStr (.t 44), none⟩, ⟨some 46, .bin .add (.t 39) (.t 45), none⟩, ⟨some 8, .mv (.t 46), none⟩] false)) (.region [⟨some 37, .mv (.t 9), none⟩, ⟨some 38, .bin .add (.t 37) (.k (.int .i64 1)), none⟩, ⟨some 9, .mv (.t 38), none⟩] false)))))) (.seq (.region [⟨some 47, .iaddrA 16 1 (.t 6) (.k (.int .i64 0)), none⟩, ⟨some 48, .load none (.t 47), none⟩, ⟨some 49, .toInt .i64 (.t 48), none⟩, ⟨some 50, .bin .mul (.t 49) (.k (.int .i64 256)), none⟩, ⟨some 51, .iaddrA 16 1 (.t 6) (.k (.int .i64 1)), none⟩, ⟨some 52, .load none (.t 51), none⟩, ⟨some 53, .toInt .i64 (.t 52), none⟩, ⟨some 54, .bin .add (.t 50) (.t 53), none⟩, ⟨some 55, .mv (.t 8), none⟩, ⟨some 56, .build [.int .i64 0, .str []] [(0, (1, .t 54)), (1, (1, .t 55))], none⟩, ⟨some 10, .alloc 30 [.int .i64 0, .str []], none⟩, ⟨none, .store 2 (.t 10) (.t 56), none⟩] false) (.seq (.seq (.draw 0 [⟨0, ⟨some 57, .load (some 2) (.t 10), none⟩, [], none, []⟩, ⟨1, ⟨some 58, .call 12 [.t 57], none⟩, [], none, []⟩, ⟨2, ⟨some 59, .un .not (.t 58), none⟩, [], none, []⟩, ⟨3, ⟨some 60, .mv (.t 59), none⟩, [], none, []⟩, ⟨4, ⟨some 61, .load (some 2) (.t 10), some (60, false)⟩, [], none, []⟩, ⟨6, ⟨some 63, .load (some 16) (.t 6), some (60, false)⟩, [], none, []⟩, ⟨5, ⟨some 62, .call 16 [.t 61], some (60, false)⟩, [], none, [⟨some 63, .load (some 16) (.t 6), some (60, false)⟩]⟩, ⟨7, ⟨some 64, .eqf true true [(16, .i)] (.t 62) (.t 63), some (60, false)⟩, [], none, []⟩, ⟨8, ⟨some 65, .pick (.t 60) (.k (.bool true)) (.t 64), none⟩, [], none, []⟩]) (.cond (.t 65) (.seq (.region [⟨some 66, .build [.int .i64 0, .str []] [], none⟩, ⟨none, .store 2 (.t 4) (.t 66), none⟩, ⟨some 5, .mv (.k (.bool false)), none⟩] false) .ret) .skip)) (.seq (.region [⟨some 67, .load (some 2) (.t 10), none⟩, ⟨none, .store 2 (.t 4) (.t 67), none⟩, ⟨some 5, .mv (.k (.bool true)), none⟩] false) .ret)))))))))⟩
theorem tr17 : trProg Try.prog 17 = some af17 := by kernel_rfl
def af18 : AF := ⟨35, [.t 2, .t 3], .seq (.region [⟨some 2, .mv (.k .nils), none⟩, ⟨some 3, .mv (.k (.int .i64 0)), none⟩] false) (.seq (.region [⟨some 4, .mv (.k .nils), none⟩] false) (.seq (.seq (.region [⟨some 10, .mv (.t 0), none⟩, ⟨some 11, .lenL (.t 10), none⟩, ⟨some 12, .mv (.k (.int .i64 0)), none⟩] false) (.block 0 (.loop (.seq (.region [⟨some 13, .bin .lss (.t 12) (.t 11), none⟩] false) (.seq (.cond (.t 13) .skip (.exit 0)) (.seq (.block 1 (.seq (.region [⟨some 14, .iaddrS 64 (.t 10) (.t 12), none⟩, ⟨some 15, .load (some 64) (.t 14), none⟩, ⟨some 6, .alloc 32 z64, none⟩, ⟨none, .store 64 (.t 6) (.t 15), none⟩] false) (.seq (.region [⟨some 16, .mv (.k (.int .i64 0)), none⟩] false) (.block 2 (.loop (.seq (.region [⟨some 17, .bin .lss (.t 16) (.k (.int .i64 4)), none⟩] false) (.seq (.cond (.t 17) .skip (.exit 2)) (.seq (.block 3 (.seq (.region [⟨some 18, .mv (.t 16), none⟩, ⟨some 7, .mv (.t 18), none⟩] false) (.seq (.region [⟨some 20, .load (some 64) (.t 6), none⟩, ⟨some 21, .mv (.t 7), none⟩, ⟨some 22, .call 14 [.t 20, .t 21], none⟩, ⟨some 19, .mv (.t 22), none⟩, ⟨some 23, .extract (.t 19) 0, none⟩, ⟨some 24, .extract (.t 19) 1, none⟩, ⟨some 8, .alloc 23 [.int .i64 0, .str []], none⟩, ⟨none, .store 2 (.t 8) (.t 23), none⟩, ⟨some 9, .mv (.t 24), none⟩] false) (.seq (.seq (.region [⟨some 25, .mv (.t 9), none⟩, ⟨some 26, .bin .neq (.t 25) (.k (.int .i64 0)), none⟩] false) (.cond (.t 26) (.seq (.region [⟨some 27, .mv (.t 9), none⟩, ⟨some 2, .mv (.k .nils), none⟩, ⟨some 3, .mv (.t 27), none⟩] false) .ret) .skip)) (.region [⟨some 28, .mv (.t 4), none⟩, ⟨some 29, .load (some 2) (.t 8), none⟩, ⟨some 30, .bslice 23 2 [.int .i64 0, .str []] [(0, (2, .t 29))], none⟩, ⟨some 31, .app 23 2 24 [.int .i64 0, .str []] (.t 28) (.t 30), none⟩, ⟨some 4, .mv (.t 31), none⟩] false))))) (.region [⟨some 32, .bin .add (.t 16) (.k (.int .i64 1)), none⟩, ⟨some 16, .mv (.t 32), none⟩] false))))))))) (.region [⟨some 33, .bin .add (.t 12) (.k (.int .i64 1)), none⟩, ⟨some 12, .mv (.t 33), none⟩] false))))))) (.seq (.region [⟨some 34, .mv (.t 4), none⟩, ⟨some 2, .mv (.t 34), none⟩, ⟨some 3, .mv (.k (.int .i64 0)), none⟩] false) .ret)))⟩
theorem tr18 : trProg Try.prog 18 = some af18 := by kernel_rfl
def af20 : AF := ⟨9, [.t 2], .seq (.region [⟨some 2, .mv (.k (.bool false)), none⟩] false) (.seq (.region [⟨some 3, .mv (.t 0), none⟩, ⟨some 4, .bin .geq (.t 3) (.k (.int .i64 0)), none⟩, ⟨some 5, .mv (.t 4), none⟩, ⟨some 6, .mv (.t 0), some (5, true)⟩, ⟨some 7, .bin .lss (.t 6) (.k (.int .i64 4)), some (5, true)⟩, ⟨some 8, .pick (.t 5) (.t 7) (.k (.bool false)), none⟩, ⟨some 2, .mv (.t 8), none⟩] false) .ret)⟩
theorem tr20 : trProg Try.prog 20 = some af20 := by kernel_rfl
def af21 : AF := ⟨33, [.c 8 (some 64)], .seq (.region [⟨some 4, .box 32 (.t 0), none⟩, ⟨some 8, .alloc 32 z64, none⟩] false) (.seq (.seq (.region [⟨some 10, .mv (.t 1), none⟩, ⟨some 11, .mv (.t 2), none⟩, ⟨some 12, .call 26 [.t 10, .t 11], none⟩, ⟨some 13, .un .not (.t 12), none⟩] false) (.cond (.t 13) (.seq (.region [⟨some 14, .load (some 64) (.t 4), none⟩, ⟨none, .store 64 (.t 8) (.t 14), none⟩] false) .ret) .skip)) (.seq (.seq (.region [⟨some 15, .mv (.t 2), none⟩, ⟨some 16, .mv (.k (.int .i64 0)), none⟩] false) (.block 0 (.loop (.seq (.region [⟨some 17, .bin .lss (.t 16) (.t 15), none⟩] false) (.seq (.cond (.t 17) .skip (.exit 0)) (.seq (.block 1 (.seq (.region [⟨some 18, .mv (.t 16), none⟩, ⟨some 9, .mv (.t 18), none⟩] false) (.region [⟨some 19, .mv (.t 1), none⟩, ⟨some 20, .mv (.t 2), none⟩, ⟨some 21, .bin .add (.t 19) (.t 20), none⟩, ⟨some 22, .bin .sub (.t 21) (.k (.int .i64 1)), none⟩, ⟨some 23, .mv (.t 9), none⟩, ⟨some 24, .bin .sub (.t 22) (.t 23), none⟩, ⟨some 25, .mv (.t 3), none⟩, ⟨some 26, .mv (.t 9), none⟩, ⟨some 27, .bin .mul (.k (.int .i64 8)) (.t 26), none⟩, ⟨some 28, .bin .shr (.t 25) (.t 27), none⟩, ⟨some 29, .toInt .u8 (.t 28), none⟩, ⟨some 30, .iaddrA 64 1 (.t 4) (.t 24), none⟩, ⟨none, .store 1 (.t 30) (.t 29), none⟩] false))) (.region [⟨some 31, .bin .add (.t 16) (.k (.int .i64 1)), none⟩, ⟨some 16, .mv (.t 31), none⟩] false))))))) (.seq (.region [⟨some 32, .load (some 64) (.t 4), none⟩, ⟨none, .store 64 (.t 8) (.t 32), none⟩] false) .ret)))⟩
theorem tr21 : trProg Try.prog 21 = some af21 := by kernel_rfl
def af22 : AF := ⟨16, [.c 6 (some 64)], .seq (.region [⟨some 3, .box 32 (.t 0), none⟩, ⟨some 6, .alloc 32 z64, none⟩] false) (.seq (.seq (.region [⟨some 7, .mv (.t 1), none⟩, ⟨some 8, .mv (.t 2), none⟩, ⟨some 9, .lenS (.t 8), none⟩, ⟨some 10, .call 27 [.t 7, .t 9], none⟩] false) (.cond (.t 10) (.region [⟨some 11, .mv (.t 1), none⟩, ⟨some 12, .slA 64 1 (.t 3) (some (.t 11)) none, none⟩, ⟨some 13, .mv (.t 2), none⟩, ⟨some 14, .copyS (.t 12) (.t 13), none⟩] false) .skip)) (.seq (.region [⟨some 15, .load (some 64) (.t 3), none⟩, ⟨none, .store 64 (.t 6) (.t 15), none⟩] false) .ret))⟩
theorem tr22 : trProg Try.prog 22 = some af22 := by kernel_rfl
def af23 : AF := ⟨31, [.t 6], .seq (.region [⟨some 3, .box 32 (.t 0), none⟩, ⟨some 6, .mv (.k (.int .i64 0)), none⟩] false) (.seq (.seq (.region [⟨some 10, .mv (.t 1), none⟩, ⟨some 11, .mv (.t 2), none⟩, ⟨some 12, .call 26 [.t 10, .t 11], none⟩, ⟨some 13, .un .not (.t 12), none⟩] false) (.cond (.t 13) (.seq (.region [⟨some 6, .mv (.k (.int .i64 0)), none⟩] false) .ret) .skip)) (.seq (.region [⟨some 7, .mv (.k (.int .i64 0)), none⟩] false) (.seq (.seq (.region [⟨some 14, .mv (.t 1), none⟩, ⟨some 15, .mv (.t 1), none⟩, ⟨some 16, .mv (.t 2), none⟩, ⟨some 17, .bin .add (.t 15) (.t 16), none⟩, ⟨some 18, .slA 64 1 (.t 3) (some (.t 14)) (some (.t 17)), none⟩, ⟨some 19, .lenL (.t 18), none⟩, ⟨some 20, .mv (.k (.int .i64 0)), none⟩] false) (.block 0 (.loop (.seq (.region [⟨some 21, .bin .lss (.t 20) (.t 19), none⟩] false) (.seq (.cond (.t 21) .skip (.exit 0)) (.seq (.block 1 (.seq (.region [⟨some 22, .iaddrS 1 (.t 18) (.t 20), none⟩, ⟨some 23, .load none (.t 22), none⟩, ⟨some 9, .mv (.t 23), none⟩] false) (.region [⟨some 24, .mv (.t 7), none⟩, ⟨some 25, .bin .shl (.t 24) (.k (.int .u64 8)), none⟩, ⟨some 26, .mv (.t 9), none⟩, ⟨some 27, .toInt .i64 (.t 26), none⟩, ⟨some 28, .bin .or (.t 25) (.t 27), none⟩, ⟨some 7, .mv (.t 28), none⟩] false))) (.region [⟨some 29, .bin .add (.t 20) (.k (.int .i64 1)), none⟩, ⟨some 20, .mv (.t 29), none⟩] false))))))) (.seq (.region [⟨some 30, .mv (.t 7), none⟩, ⟨some 6, .mv (.t 30), none⟩] false) .ret))))⟩
theorem tr23 : trProg Try.prog 23 = some af23 := by kernel_rfl
def af24 : AF := ⟨17, [.t 6], .seq (.region [⟨some 3, .box 32 (.t 0), none⟩, ⟨some 6, .mv (.k (.str [])), none⟩] false) (.seq (.seq (.region [⟨some 7, .mv (.t 1), none⟩, ⟨some 8, .mv (.t 2), none⟩, ⟨some 9, .call 27 [.t 7, .t 8], none⟩, ⟨some 10, .un .not (.t 9), none⟩] false) (.cond (.t 10) (.seq (.region [⟨some 6, .mv (.k (.str [])), none⟩] false) .ret) .skip)) (.seq (.region [⟨some 11, .mv (.t 1), none⟩, ⟨some 12, .mv (.t 1), none⟩, ⟨some 13, .mv (.t 2), none⟩, ⟨some 14, .bin .add (.t 12) (.t 13), none⟩, ⟨some 15, .slA 64 1 (.t 3) (some (.t 11)) (some (.t 14)), none⟩, ⟨some 16, .toStr (.t 15), none⟩, ⟨some 6, .mv (.t 16), none⟩] false) .ret))⟩
theorem tr24 : trProg Try.prog 24 = some af24 := by kernel_rfl
def af26 : AF := ⟨16, [.t 4], .seq (.region [⟨some 4, .mv (.k (.bool false)), none⟩] false) (.seq (.region [⟨some 5, .mv (.t 1), none⟩, ⟨some 6, .bin .geq (.t 5) (.k (.int .i64 1)), none⟩, ⟨some 7, .mv (.t 6), none⟩, ⟨some 8, .mv (.t 1), some (7, true)⟩, ⟨some 9, .bin .leq (.t 8) (.k (.int .i64 4)), some (7, true)⟩, ⟨some 10, .pick (.t 7) (.t 9) (.k (.bool false)), none⟩, ⟨some 11, .mv (.t 10), none⟩, ⟨some 12, .mv (.t 0), some (11, true)⟩, ⟨some 13, .mv (.t 1), some (11, true)⟩, ⟨some 14, .call 27 [.t 12, .t 13], some (11, true)⟩, ⟨some 15, .pick (.t 11) (.t 14) (.k (.bool false)), none⟩, ⟨some 4, .mv (.t 15), none⟩] false) .ret)⟩
theorem tr26 : trProg Try.prog 26 = some af26 := by kernel_rfl
def af27 : AF := ⟨21, [.t 4], .seq (.region [⟨some 4, .mv (.k (.bool false)), none⟩] false) (.seq (.region [⟨some 5, .mv (.t 0), none⟩, ⟨some 6, .bin .geq (.t 5) (.k (.int .i64 0)), none⟩, ⟨some 7, .mv (.t 6), none⟩, ⟨some 8, .mv (.t 1), some (7, true)⟩, ⟨some 9, .bin .geq (.t 8) (.k (.int .i64 0)), some (7, true)⟩, ⟨some 10, .pick (.t 7) (.t 9) (.k (.bool false)), none⟩, ⟨some 11, .mv (.t 10), none⟩, ⟨some 12, .mv (.t 1), some (11, true)⟩, ⟨some 13, .bin .leq (.t 12) (.k (.int .i64 64)), some (11, true)⟩, ⟨some 14, .pick (.t 11) (.t 13) (.k (.bool false)), none⟩, ⟨some 15, .mv (.t 14), none⟩, ⟨some 16, .mv (.t 0), some (15, true)⟩, ⟨some 17, .mv (.t 1), some (15, true)⟩, ⟨some 18, .bin .sub (.k (.int .i64 64)) (.t 17), some (15, true)⟩, ⟨some 19, .bin .leq (.t 16) (.t 18), some (15, true)⟩, ⟨some 20, .pick (.t 15) (.t 19) (.k (.bool false)), none⟩, ⟨some 4, .mv (.t 20), none⟩] false) .ret)⟩
theorem tr27 : trProg Try.prog 27 = some af27 := by kernel_rfl

def FF : Nat → Option AF
  | 3 => some af3
  | 4 => some af4
  | 5 => some af5
  | 6 => some af6
  | 7 => some af7
  | 8 => some af8
  | 9 => some af9
  | 10 => some af10
  | 11 => some af11
  | 12 => some af12
  | 13 => some af13
  | 14 => some af14
  | 15 => some af15
  | 16 => some af16
  | 17 => some af17
  | 18 => some af18
  | 20 => some af20
  | 21 => some af21
  | 22 => some af22
  | 23 => some af23
  | 24 => some af24
  | 26 => some af26
  | 27 => some af27
  | _ => none

theorem ffok : ∀ f af, FF f = some af → trProg Try.prog f = some af := by
  intro f af h
  unfold FF at h
  split at h
  · cases h; exact tr3
  · cases h; exact tr4
  · cases h; exact tr5
  · cases h; exact tr6
  · cases h; exact tr7
  · cases h; exact tr8
  · cases h; exact tr9
  · cases h; exact tr10
  · cases h; exact tr11
  · cases h; exact tr12
  · cases h; exact tr13
  · cases h; exact tr14
  · cases h; exact tr15
  · cases h; exact tr16
  · cases h; exact tr17
  · cases h; exact tr18
  · cases h; exact tr20
  · cases h; exact tr21
  · cases h; exact tr22
  · cases h; exact tr23
  · cases h; exact tr24
  · cases h; exact tr26
  · cases h; exact tr27
  · cases h

theorem mixed : Try.prog.follows .mixedOrders = true := by kernel_rfl
end Go.Proofs.Ytabnocdebldpmaa

/- The ground layer of this seat: strings.Contains at one byte. -/
set_option linter.unusedSimpArgs false
namespace Go.Proofs.Ytabnocdebldpmaa
open Go

set_option maxHeartbeats 1000000 in
set_option maxRecDepth 100000 in
theorem ixByte (s : ByteArray) (c : Int) (w : World) : Calls Try.prog 29 #[.string s, .int .u8 c] w fun e w' => e = .returned (.int .i64 (Lib.indexByte s.data.toList c.toNat.toUInt8)) ∧ w' = w := by
  go_enter Try.func29, Try.ntmps29
  go_wp2
  rw [run_callFunc_extern Try.func33 (by kernel_rfl) (by kernel_rfl) (by kernel_rfl) (e := Extern.BytealgIndexByte.indexByte) (by kernel_rfl), Lib.run_indexByteString]
  simp only [Result.andThen]
  rw [Oper.upon_value]
  go_wp2
  go_ret
  exact ⟨rfl, rfl⟩

set_option maxHeartbeats 2000000 in
set_option maxRecDepth 100000 in
theorem ixLite (s : ByteArray) (c : UInt8) (w : World) : Calls Try.prog 28 #[.string s, .string ⟨#[c]⟩] w fun e w' => e = .returned (.int .i64 (Lib.indexByte s.data.toList c)) ∧ w' = w := by
  go_enter Try.func28, Try.ntmps28
  go_wp2_with (go_at_call 29; refine (ixByte _ _ _).mono ?_; rintro e w' ⟨rfl, rfl⟩)
  · have h : ([c] == s.toList) = true := by assumption
    go_ret
    refine ⟨?_, rfl⟩
    have e : s.data.toList = [c] := by rw [← Lib.toList_data]; exact (beq_iff_eq.1 h).symm
    rw [e]
    simp [Lib.indexByte]
  · go_ret
    exact ⟨rfl, rfl⟩

set_option maxHeartbeats 1000000 in
theorem ixStr (s : ByteArray) (c : UInt8) (w : World) : Calls Try.prog 25 #[.string s, .string ⟨#[c]⟩] w fun e w' => e = .returned (.int .i64 (Lib.indexByte s.data.toList c)) ∧ w' = w := by
  go_enter Try.func25, Try.ntmps25
  go_wp2_with (go_at_call 28; refine (ixLite _ _ _).mono ?_; rintro e w' ⟨rfl, rfl⟩)
  go_ret
  exact ⟨rfl, rfl⟩

set_option maxHeartbeats 1000000 in
theorem conStr (s : ByteArray) (c : UInt8) (w : World) : Calls Try.prog 19 #[.string s, .string ⟨#[c]⟩] w fun e w' => e = .returned (.bool (decide (0 ≤ Lib.indexByte s.data.toList c))) ∧ w' = w := by
  go_enter Try.func19, Try.ntmps19
  go_wp2_with (go_at_call 25; refine (ixStr _ _ _).mono ?_; rintro e w' ⟨rfl, rfl⟩)
  go_ret
  exact ⟨rfl, rfl⟩

open AM
def tContains : Ans
  | [.str s, .str [c]] => some (.bool (s.contains c))
  | _ => none
def g0 : Nat → Option Ans
  | 19 => some tContains
  | _ => none
def E0 : ExtF := plainExt g0
theorem hxE0 : ExtMono E0 := plainExt_mono g0
theorem sndE0 : ExtSound Try.prog E0 := by
  refine plainExt_calls ?_
  intro f sp args v hg hs hp
  unfold g0 at hg
  split at hg
  · cases hg
    unfold tContains at hs
    split at hs
    · rename_i s c
      cases hs
      refine ⟨by kernel_rfl, rfl, fun w => ?_⟩
      rw [Lib.contains_iff_indexByte]
      exact conStr ⟨s.toArray⟩ c w
    · cases hs
  · cases hg
theorem E0_none {f : Nat} (h : g0 f = none) (c : CallF) : E0 c f = none := plainExt_none h c
theorem eContains_0 (s : List UInt8) (c : UInt8) (h : Heap) : Den FF E0 19 [.str s, .str [c]] h = some (.val (.bool (s.contains c)), none) := den_plain (sp := tContains) h rfl (by rfl) (by first | (simp [V.plains, V.plain, bytesA_plains]; done) | rfl)
end Go.Proofs.Ytabnocdebldpmaa

/- Pages: what the functions of numbers and texts in pages come to. -/
namespace Go.Proofs.Ytabnocdebldpmaa
open Go AM
set_option linter.unusedSimpArgs false
set_option linter.unusedVariables false
set_option maxRecDepth 100000
def insideB (a s : Int) : Bool := decide (0 ≤ a) && decide (0 ≤ s) && decide (s ≤ 64) && decide (a ≤ 64 - s)
def tInside : Ans
  | [.int .i64 a, .int .i64 s] => some (.bool (insideB a s))
  | _ => none
theorem okInside : SpOk FF E0 27 tInside := by
  intro args v h hpl
  unfold tInside at h
  split at h
  · rename_i a s
    cases h
    refine ⟨rfl, _, (?_ : Den FF E0 27 [.int .i64 a, .int .i64 s] H0 = some (.val (.bool (insideB a s)), none))⟩
    rw [eq_den hxE0 _ (f := 27) (a := af27) rfl (E0_none rfl) _ (Nat.le_of_ble_eq_true rfl)]
    unfold insideB
    by_cases h1 : 0 ≤ a
    · by_cases h2 : 0 ≤ s
      · by_cases h3 : s ≤ 64
        · have hw : IntKind.i64.wrap (64 - s) = 64 - s := wrap_i64 (by omega) (by omega)
          simp only [go_sem, eqs hxE0, reduceIte, Nat.reduceEqDiff, Nat.reduceAdd, Nat.reduceMul, Nat.reduceLT, Nat.reduceLeDiff, Int.reduceLT, Int.reduceLE, Int.reduceEq, reduceCtorEq, Int.reduceBEq, Int.reduceBNe, Int.reduceToNat, Nat.reduceSub, Nat.reduceDiv, Int.reduceNeg, Int.reduceAdd, Int.reduceSub, Int.reduceMul, af27, h1, h2, h3, hw]
        · simp only [go_sem, eqs hxE0, reduceIte, Nat.reduceEqDiff, Nat.reduceAdd, Nat.reduceMul, Nat.reduceLT, Nat.reduceLeDiff, Int.reduceLT, Int.reduceLE, Int.reduceEq, reduceCtorEq, Int.reduceBEq, Int.reduceBNe, Int.reduceToNat, Nat.reduceSub, Nat.reduceDiv, Int.reduceNeg, Int.reduceAdd, Int.reduceSub, Int.reduceMul, af27, h1, h2, h3, Bool.false_and, Bool.and_false]
      · simp only [go_sem, eqs hxE0, reduceIte, Nat.reduceEqDiff, Nat.reduceAdd, Nat.reduceMul, Nat.reduceLT, Nat.reduceLeDiff, Int.reduceLT, Int.reduceLE, Int.reduceEq, reduceCtorEq, Int.reduceBEq, Int.reduceBNe, Int.reduceToNat, Nat.reduceSub, Nat.reduceDiv, Int.reduceNeg, Int.reduceAdd, Int.reduceSub, Int.reduceMul, af27, h1, h2, Bool.false_and, Bool.and_false]
    · simp only [go_sem, eqs hxE0, reduceIte, Nat.reduceEqDiff, Nat.reduceAdd, Nat.reduceMul, Nat.reduceLT, Nat.reduceLeDiff, Int.reduceLT, Int.reduceLE, Int.reduceEq, reduceCtorEq, Int.reduceBEq, Int.reduceBNe, Int.reduceToNat, Nat.reduceSub, Nat.reduceDiv, Int.reduceNeg, Int.reduceAdd, Int.reduceSub, Int.reduceMul, af27, h1, Bool.false_and, Bool.and_false]
  · cases h
def g1 : Nat → Option Ans := addG g0 [(27, tInside)]
def E1 : ExtF := plainExt g1
theorem hxE1 : ExtMono E1 := plainExt_mono g1
theorem sndE1 : ExtSound Try.prog E1 := addG_sound mixed ffok sndE0 (by
  intro p hp
  simp only [List.mem_cons, List.not_mem_nil, or_false] at hp
  rcases hp with rfl
  · exact okInside)
theorem E1_none {f : Nat} (h : g1 f = none) (c : CallF) : E1 c f = none := plainExt_none h c
theorem eContains_1 (s : List UInt8) (c : UInt8) (h : Heap) : Den FF E1 19 [.str s, .str [c]] h = some (.val (.bool (s.contains c)), none) := den_plain (sp := tContains) h rfl (by rfl) (by first | (simp [V.plains, V.plain, bytesA_plains]; done) | rfl)
theorem eInside_1 (a s : Int) (h : Heap) : Den FF E1 27 [.int .i64 a, .int .i64 s] h = some (.val (.bool (insideB a s)), none) := den_plain (sp := tInside) h rfl (by rfl) (by first | (simp [V.plains, V.plain, bytesA_plains]; done) | rfl)

def numberB (a s : Int) : Bool := decide (1 ≤ s) && decide (s ≤ 4) && insideB a s
def tNumber : Ans
  | [.int .i64 a, .int .i64 s] => some (.bool (numberB a s))
  | _ => none
theorem okNumber : SpOk FF E1 26 tNumber := by
  intro args v h hpl
  unfold tNumber at h
  split at h
  · rename_i a s
    cases h
    refine ⟨rfl, _, (?_ : Den FF E1 26 [.int .i64 a, .int .i64 s] H0 = some (.val (.bool (numberB a s)), none))⟩
    rw [eq_den hxE1 _ (f := 26) (a := af26) rfl (E1_none rfl) _ (Nat.le_of_ble_eq_true rfl)]
    unfold numberB
    by_cases h1 : 1 ≤ s
    · by_cases h2 : s ≤ 4
      · simp only [go_sem, eqs hxE1, reduceIte, Nat.reduceEqDiff, Nat.reduceAdd, Nat.reduceMul, Nat.reduceLT, Nat.reduceLeDiff, Int.reduceLT, Int.reduceLE, Int.reduceEq, reduceCtorEq, Int.reduceBEq, Int.reduceBNe, Int.reduceToNat, Nat.reduceSub, Nat.reduceDiv, Int.reduceNeg, Int.reduceAdd, Int.reduceSub, Int.reduceMul, af26, h1, h2, eContains_1, eInside_1]
      · simp only [go_sem, eqs hxE1, reduceIte, Nat.reduceEqDiff, Nat.reduceAdd, Nat.reduceMul, Nat.reduceLT, Nat.reduceLeDiff, Int.reduceLT, Int.reduceLE, Int.reduceEq, reduceCtorEq, Int.reduceBEq, Int.reduceBNe, Int.reduceToNat, Nat.reduceSub, Nat.reduceDiv, Int.reduceNeg, Int.reduceAdd, Int.reduceSub, Int.reduceMul, af26, h1, h2, Bool.false_and, Bool.and_false]
    · simp only [go_sem, eqs hxE1, reduceIte, Nat.reduceEqDiff, Nat.reduceAdd, Nat.reduceMul, Nat.reduceLT, Nat.reduceLeDiff, Int.reduceLT, Int.reduceLE, Int.reduceEq, reduceCtorEq, Int.reduceBEq, Int.reduceBNe, Int.reduceToNat, Nat.reduceSub, Nat.reduceDiv, Int.reduceNeg, Int.reduceAdd, Int.reduceSub, Int.reduceMul, af26, h1, Bool.false_and, Bool.and_false]
  · cases h
def g2 : Nat → Option Ans := addG g1 [(26, tNumber)]
def E2 : ExtF := plainExt g2
theorem hxE2 : ExtMono E2 := plainExt_mono g2
theorem sndE2 : ExtSound Try.prog E2 := addG_sound mixed ffok sndE1 (by
  intro p hp
  simp only [List.mem_cons, List.not_mem_nil, or_false] at hp
  rcases hp with rfl
  · exact okNumber)
theorem E2_none {f : Nat} (h : g2 f = none) (c : CallF) : E2 c f = none := plainExt_none h c
theorem eContains_2 (s : List UInt8) (c : UInt8) (h : Heap) : Den FF E2 19 [.str s, .str [c]] h = some (.val (.bool (s.contains c)), none) := den_plain (sp := tContains) h rfl (by rfl) (by first | (simp [V.plains, V.plain, bytesA_plains]; done) | rfl)
theorem eInside_2 (a s : Int) (h : Heap) : Den FF E2 27 [.int .i64 a, .int .i64 s] h = some (.val (.bool (insideB a s)), none) := den_plain (sp := tInside) h rfl (by rfl) (by first | (simp [V.plains, V.plain, bytesA_plains]; done) | rfl)
theorem eNumber_2 (a s : Int) (h : Heap) : Den FF E2 26 [.int .i64 a, .int .i64 s] h = some (.val (.bool (numberB a s)), none) := den_plain (sp := tNumber) h rfl (by rfl) (by first | (simp [V.plains, V.plain, bytesA_plains]; done) | rfl)

theorem inside_nat {a s : Int} (h : insideB a s = true) : ∃ m n : Nat, a = (m : Int) ∧ s = (n : Int) ∧ m + n ≤ 64 := by
  simp only [insideB, Bool.and_eq_true, decide_eq_true_eq] at h
  exact ⟨a.toNat, s.toNat, by omega, by omega, by omega⟩
theorem inside_of {m n : Nat} (h : m + n ≤ 64) : insideB (m : Int) (n : Int) = true := by
  simp only [insideB, Bool.and_eq_true, decide_eq_true_eq]; omega

/-- A part of a page as a slice. -/
theorem bounds_mn {len m n : Nat} (h : m + n ≤ len) : boundsA len len (some (.int .i64 (m : Int))) (some (.int .i64 ((m : Int) + (n : Int)))) = some (m, m + n) := by
  simp only [boundsA, hiB, loB]
  rw [if_pos (by omega)]
  simp only
  rw [if_pos (by omega)]
  have e1 : ((m : Int) + (n : Int)).toNat = m + n := by omega
  simp only [e1, Int.toNat_natCast]
theorem bounds_m {len m : Nat} (h : m ≤ len) : boundsA len len (some (.int .i64 (m : Int))) none = some (m, len) := by
  simp only [boundsA, hiB, loB]
  rw [if_pos (by omega)]
  simp
theorem sl_fin {l m n len : Nat} (h : m < len) : (if m = 0 then some (V.slice l 0 (m + n) 1, (none : Option Heap)) else if m < len then some (V.slice l m (m + n - m) 1, none) else none) = some (V.slice l m n 1, none) := by
  by_cases h0 : m = 0
  · subst h0; simp
  · rw [if_neg h0, if_pos h, Nat.add_sub_cancel_left]
theorem sl_fin2 {l m len : Nat} (h : m < len) : (if m = 0 then some (V.slice l 0 len 1, (none : Option Heap)) else if m < len then some (V.slice l m (len - m) 1, none) else none) = some (V.slice l m (len - m) 1, none) := by
  by_cases h0 : m = 0
  · subst h0; simp
  · rw [if_neg h0, if_pos h]

def pgGet (p : List UInt8) (a s : Int) : Int := if numberB a s = true then ((be ((p.drop a.toNat).take s.toNat) : Nat) : Int) else 0
def tPgGet : Ans
  | [v, .int .i64 a, .int .i64 s] => (pageOf 64 v).map fun p => .int .i64 (pgGet p a s)
  | _ => none
theorem okPgGet : SpOk FF E2 23 tPgGet := by
  intro args v h hpl
  unfold tPgGet at h
  split at h
  · rename_i v0 a s
    simp only [Option.map_eq_some_iff] at h
    obtain ⟨p, hpg, rfl⟩ := h
    obtain ⟨rfl, hp⟩ := of_pageOf hpg
    refine ⟨rfl, _, (?_ : Den FF E2 23 [.agg (bytesA p), .int .i64 a, .int .i64 s] H0 = some (.val (.int .i64 (pgGet p a s)), none))⟩
    cases hn : numberB a s with
    | false =>
      have hr : pgGet p a s = 0 := by simp [pgGet, hn]
      refine To.den hxE2 (f := 23) (a := af23) rfl (E2_none rfl) (Nat.le_of_ble_eq_true rfl) (To.of (by simp only [go_sem, eqs hxE2, reduceIte, Nat.reduceEqDiff, Nat.reduceAdd, Nat.reduceMul, Nat.reduceLT, Nat.reduceLeDiff, Int.reduceLT, Int.reduceLE, Int.reduceEq, reduceCtorEq, Int.reduceBEq, Int.reduceBNe, Int.reduceToNat, Nat.reduceSub, Nat.reduceDiv, Int.reduceNeg, Int.reduceAdd, Int.reduceSub, Int.reduceMul, af23, eContains_2, eInside_2, eNumber_2, hn, Bool.not_false]; rfl) ?_)
      simp only [go_sem, eqs hxE2, reduceIte, Nat.reduceEqDiff, Nat.reduceAdd, Nat.reduceMul, Nat.reduceLT, Nat.reduceLeDiff, Int.reduceLT, Int.reduceLE, Int.reduceEq, reduceCtorEq, Int.reduceBEq, Int.reduceBNe, Int.reduceToNat, Nat.reduceSub, Nat.reduceDiv, Int.reduceNeg, Int.reduceAdd, Int.reduceSub, Int.reduceMul, af23, hr]
    | true =>
      have hin : insideB a s = true := by simp only [numberB, Bool.and_eq_true] at hn; exact hn.2
      have hs4 : 1 ≤ s ∧ s ≤ 4 := by simp only [numberB, Bool.and_eq_true, decide_eq_true_eq] at hn; exact hn.1
      obtain ⟨m, n, rfl, rfl, hmn⟩ := inside_nat hin
      have hr : pgGet p m n = ((be ((p.drop m).take n) : Nat) : Int) := by simp [pgGet, hn]
      rw [hr]
      generalize hbs : (p.drop m).take n = bs
      have hbl : bs.length = n := by rw [← hbs]; simp; omega
      have hw0 : IntKind.i64.wrap ((m : Int) + (n : Int)) = (m : Int) + (n : Int) := wrap_i64 (by omega) (by omega)
      have hbd := bounds_mn hmn
      have hsl := sl_fin (l := 0) (m := m) (n := n) (len := 64) (by omega)
      refine To.den hxE2 (f := 23) (a := af23) rfl (E2_none rfl) (Nat.le_of_ble_eq_true rfl) ?_
      refine To.sq hxE2 (by simp only [go_sem, eqs hxE2, reduceIte, Nat.reduceEqDiff, Nat.reduceAdd, Nat.reduceMul, Nat.reduceLT, Nat.reduceLeDiff, Int.reduceLT, Int.reduceLE, Int.reduceEq, reduceCtorEq, Int.reduceBEq, Int.reduceBNe, Int.reduceToNat, Nat.reduceSub, Nat.reduceDiv, Int.reduceNeg, Int.reduceAdd, Int.reduceSub, Int.reduceMul]; rfl) ?_
      refine To.sq hxE2 (by simp only [go_sem, eqs hxE2, reduceIte, Nat.reduceEqDiff, Nat.reduceAdd, Nat.reduceMul, Nat.reduceLT, Nat.reduceLeDiff, Int.reduceLT, Int.reduceLE, Int.reduceEq, reduceCtorEq, Int.reduceBEq, Int.reduceBNe, Int.reduceToNat, Nat.reduceSub, Nat.reduceDiv, Int.reduceNeg, Int.reduceAdd, Int.reduceSub, Int.reduceMul, eContains_2, eInside_2, eNumber_2, hn, Bool.not_true]; rfl) ?_
      refine To.sq hxE2 (by simp only [go_sem, eqs hxE2, reduceIte, Nat.reduceEqDiff, Nat.reduceAdd, Nat.reduceMul, Nat.reduceLT, Nat.reduceLeDiff, Int.reduceLT, Int.reduceLE, Int.reduceEq, reduceCtorEq, Int.reduceBEq, Int.reduceBNe, Int.reduceToNat, Nat.reduceSub, Nat.reduceDiv, Int.reduceNeg, Int.reduceAdd, Int.reduceSub, Int.reduceMul]; rfl) ?_
      refine To.seq hxE2 (To.sq hxE2 (by simp only [go_sem, eqs hxE2, reduceIte, Nat.reduceEqDiff, Nat.reduceAdd, Nat.reduceMul, Nat.reduceLT, Nat.reduceLeDiff, Int.reduceLT, Int.reduceLE, Int.reduceEq, reduceCtorEq, Int.reduceBEq, Int.reduceBNe, Int.reduceToNat, Nat.reduceSub, Nat.reduceDiv, Int.reduceNeg, Int.reduceAdd, Int.reduceSub, Int.reduceMul, hw0, bytesA_length, hp, hbd, hsl]; rfl) (To.block hxE2 ?_))
      refine To.loop hxE2 (fun k S h' => ∃ t, h' = ⟨[.cells .ex t 0 (bytesA p)], 0, 0⟩ ∧ ∃ i, i + k = n ∧ S 18 = .slice 0 m n 1 ∧ S 19 = .int .i64 (n : Int) ∧ S 20 = .int .i64 (i : Int) ∧ S 7 = .int .i64 ((be (bs.take i) : Nat) : Int)) ?_ n _ _ ?_
      · rintro k S _ ⟨t, rfl, i, hk, h18, h19, h20, h7⟩
        by_cases hi : i < n
        · have hlt : decide ((i : Int) < (n : Int)) = true := by simp; omega
          obtain ⟨b, hb⟩ : ∃ b, bs[i]? = some b := ⟨bs[i]'(by omega), List.getElem?_eq_getElem (by omega)⟩
          have hpb : p[m + i]? = some b := by
            rw [← hbs, List.getElem?_take, if_pos hi, List.getElem?_drop] at hb; exact hb
          have hgb : (⟨[.cells .ex t 0 (bytesA p)], 0, 0⟩ : Heap).get 0 (m + i) = some (.int .u8 (b.toNat : Int)) := get_bytes (by rfl) hpb
          have htk : bs.take (i + 1) = bs.take i ++ [b] := by rw [List.take_add_one, hb]; rfl
          have hbb : be (bs.take i) < 256 ^ i := by
            have := be_lt (bs.take i)
            rwa [List.length_take, Nat.min_eq_left (by omega)] at this
          have hp4 : 256 ^ i * 256 ≤ 256 ^ 4 := by rw [← Nat.pow_succ]; exact Nat.pow_le_pow_right (by decide) (by omega)
          have e4 : (256 : Nat) ^ 4 = 4294967296 := by decide
          have hb256 : b.toNat < 256 := b.toNat_lt
          have hsh := shl8_i (x := be (bs.take i)) (by omega)
          have hor := or_add_i (a := be (bs.take i)) (c := b.toNat) hb256 (by omega)
          have hw := wrap_i64 (n := (b.toNat : Int)) (by omega) (by omega)
          have hw1 := wrap_i64 (n := (i : Int) + 1) (by omega) (by omega)
          have hix : idxOf n (.int .i64 (i : Int)) = some i := idxOf_nat hi
          refine To.of (by simp only [go_sem, eqs hxE2, reduceIte, Nat.reduceEqDiff, Nat.reduceAdd, Nat.reduceMul, Nat.reduceLT, Nat.reduceLeDiff, Int.reduceLT, Int.reduceLE, Int.reduceEq, reduceCtorEq, Int.reduceBEq, Int.reduceBNe, Int.reduceToNat, Nat.reduceSub, Nat.reduceDiv, Int.reduceNeg, Int.reduceAdd, Int.reduceSub, Int.reduceMul, h18, h19, h20, h7, hlt, hix, hgb, hsh, hor, hw, hw1]; rfl) ?_
          refine ⟨k - 1, by omega, t, rfl, i + 1, by omega, ?_⟩
          rw [htk, be_snoc]
          simp only [get_fput, h18, h19, h20, h7, reduceIte, Nat.reduceEqDiff]
          exact ⟨trivial, trivial, rfl, trivial⟩
        · have hlt : decide ((i : Int) < (n : Int)) = false := by simp; omega
          have hi' : bs.take i = bs := List.take_of_length_le (by omega)
          rw [hi'] at h7
          refine To.of (by simp only [go_sem, eqs hxE2, reduceIte, Nat.reduceEqDiff, Nat.reduceAdd, Nat.reduceMul, Nat.reduceLT, Nat.reduceLeDiff, Int.reduceLT, Int.reduceLE, Int.reduceEq, reduceCtorEq, Int.reduceBEq, Int.reduceBNe, Int.reduceToNat, Nat.reduceSub, Nat.reduceDiv, Int.reduceNeg, Int.reduceAdd, Int.reduceSub, Int.reduceMul, h18, h19, h20, h7, hlt]; rfl) ?_
          simp only [outOf, andThen, if_true]
          refine To.of (by simp only [go_sem, eqs hxE2, reduceIte, Nat.reduceEqDiff, Nat.reduceAdd, Nat.reduceMul, Nat.reduceLT, Nat.reduceLeDiff, Int.reduceLT, Int.reduceLE, Int.reduceEq, reduceCtorEq, Int.reduceBEq, Int.reduceBNe, Int.reduceToNat, Nat.reduceSub, Nat.reduceDiv, Int.reduceNeg, Int.reduceAdd, Int.reduceSub, Int.reduceMul, h7]; rfl) ?_
          simp only [go_sem, eqs hxE2, reduceIte, Nat.reduceEqDiff, Nat.reduceAdd, Nat.reduceMul, Nat.reduceLT, Nat.reduceLeDiff, Int.reduceLT, Int.reduceLE, Int.reduceEq, reduceCtorEq, Int.reduceBEq, Int.reduceBNe, Int.reduceToNat, Nat.reduceSub, Nat.reduceDiv, Int.reduceNeg, Int.reduceAdd, Int.reduceSub, Int.reduceMul]
          rfl
      · refine ⟨_, rfl, 0, by omega, ?_⟩
        simp only [go_sem, eqs hxE2, reduceIte, Nat.reduceEqDiff, Nat.reduceAdd, Nat.reduceMul, Nat.reduceLT, Nat.reduceLeDiff, Int.reduceLT, Int.reduceLE, Int.reduceEq, reduceCtorEq, Int.reduceBEq, Int.reduceBNe, Int.reduceToNat, Nat.reduceSub, Nat.reduceDiv, Int.reduceNeg, Int.reduceAdd, Int.reduceSub, Int.reduceMul, be, List.foldl_nil]
  · cases h

def pgText (p : List UInt8) (a s : Int) : List UInt8 := if insideB a s = true then (p.drop a.toNat).take s.toNat else []
def tPgText : Ans
  | [v, .int .i64 a, .int .i64 s] => (pageOf 64 v).bind fun p => if a < 64 then some (.str (pgText p a s)) else none
  | _ => none
theorem okPgText : SpOk FF E2 24 tPgText := by
  intro args v h hpl
  unfold tPgText at h
  split at h
  · rename_i v0 a s
    simp only [Option.bind_eq_some_iff] at h
    obtain ⟨p, hpg, h⟩ := h
    split at h
    · rename_i h64
      simp only [Option.some.injEq] at h; subst h
      obtain ⟨rfl, hp⟩ := of_pageOf hpg
      refine ⟨rfl, _, (?_ : Den FF E2 24 [.agg (bytesA p), .int .i64 a, .int .i64 s] H0 = some (.val (.str (pgText p a s)), none))⟩
      cases hn : insideB a s with
      | false =>
        have hr : pgText p a s = [] := by simp [pgText, hn]
        refine To.den hxE2 (f := 24) (a := af24) rfl (E2_none rfl) (Nat.le_of_ble_eq_true rfl) (To.of (by simp only [go_sem, eqs hxE2, reduceIte, Nat.reduceEqDiff, Nat.reduceAdd, Nat.reduceMul, Nat.reduceLT, Nat.reduceLeDiff, Int.reduceLT, Int.reduceLE, Int.reduceEq, reduceCtorEq, Int.reduceBEq, Int.reduceBNe, Int.reduceToNat, Nat.reduceSub, Nat.reduceDiv, Int.reduceNeg, Int.reduceAdd, Int.reduceSub, Int.reduceMul, af24, eContains_2, eInside_2, eNumber_2, hn, Bool.not_false]; rfl) ?_)
        simp only [go_sem, eqs hxE2, reduceIte, Nat.reduceEqDiff, Nat.reduceAdd, Nat.reduceMul, Nat.reduceLT, Nat.reduceLeDiff, Int.reduceLT, Int.reduceLE, Int.reduceEq, reduceCtorEq, Int.reduceBEq, Int.reduceBNe, Int.reduceToNat, Nat.reduceSub, Nat.reduceDiv, Int.reduceNeg, Int.reduceAdd, Int.reduceSub, Int.reduceMul, af24, hr]
      | true =>
        obtain ⟨m, n, rfl, rfl, hmn⟩ := inside_nat hn
        have hr : pgText p m n = (p.drop m).take n := by simp [pgText, hn]
        rw [hr]
        have hw0 : IntKind.i64.wrap ((m : Int) + (n : Int)) = (m : Int) + (n : Int) := wrap_i64 (by omega) (by omega)
        have hbd := bounds_mn hmn
        have hsl := sl_fin (l := 0) (m := m) (n := n) (len := 64) (by omega)
        have hg := fun t => gets_bytes (o := [.cells .ex t 0 (bytesA p)]) (e := 0) (d := 0) (l := 0) (t := t) (i := m) (n := n) rfl (by omega)
        refine To.den hxE2 (f := 24) (a := af24) rfl (E2_none rfl) (Nat.le_of_ble_eq_true rfl) (To.of (by simp only [go_sem, eqs hxE2, reduceIte, Nat.reduceEqDiff, Nat.reduceAdd, Nat.reduceMul, Nat.reduceLT, Nat.reduceLeDiff, Int.reduceLT, Int.reduceLE, Int.reduceEq, reduceCtorEq, Int.reduceBEq, Int.reduceBNe, Int.reduceToNat, Nat.reduceSub, Nat.reduceDiv, Int.reduceNeg, Int.reduceAdd, Int.reduceSub, Int.reduceMul, af24, eContains_2, eInside_2, eNumber_2, hn, Bool.not_true, hw0, bytesA_length, hp, hbd, hsl, hg, strOf_bytes]; rfl) ?_)
        simp only [go_sem, eqs hxE2, reduceIte, Nat.reduceEqDiff, Nat.reduceAdd, Nat.reduceMul, Nat.reduceLT, Nat.reduceLeDiff, Int.reduceLT, Int.reduceLE, Int.reduceEq, reduceCtorEq, Int.reduceBEq, Int.reduceBNe, Int.reduceToNat, Nat.reduceSub, Nat.reduceDiv, Int.reduceNeg, Int.reduceAdd, Int.reduceSub, Int.reduceMul, af24]
    · cases h
  · cases h

def pgSetText (p : List UInt8) (a : Int) (s : List UInt8) : List UInt8 := if insideB a (s.length : Int) = true then lay p a.toNat s else p
theorem pgSetText_length {p : List UInt8} (hp : p.length = 64) (a : Int) (s : List UInt8) : (pgSetText p a s).length = 64 := by
  unfold pgSetText
  split
  · rename_i h
    simp only [insideB, Bool.and_eq_true, decide_eq_true_eq] at h
    rw [lay_length (by omega), hp]
  · exact hp
def tPgSetText : Ans
  | [v, .int .i64 a, .str s] => (pageOf 64 v).bind fun p => if a < 64 then some (.agg (bytesA (pgSetText p a s))) else none
  | _ => none
theorem okPgSetText : SpOk FF E2 22 tPgSetText := by
  intro args v h hpl
  unfold tPgSetText at h
  split at h
  · rename_i v0 a s
    simp only [Option.bind_eq_some_iff] at h
    obtain ⟨p, hpg, h⟩ := h
    split at h
    · rename_i h64
      simp only [Option.some.injEq] at h; subst h
      obtain ⟨rfl, hp⟩ := of_pageOf hpg
      refine ⟨by simp [V.plain, bytesA_plains], _, (?_ : Den FF E2 22 [.agg (bytesA p), .int .i64 a, .str s] H0 = some (.val (.agg (bytesA (pgSetText p a s))), none))⟩
      have hlz := zs_length 64
      cases hn : insideB a (s.length : Int) with
      | false =>
        have hr : pgSetText p a s = p := by simp [pgSetText, hn]
        have hg := fun t u => gets_all (o := [.cells .ex t 0 (bytesA p), .cells .ex u 0 (bytesA (zs 64))]) (e := 0) (d := 0) (l := 0) (n := 64) rfl (by rw [bytesA_length, hp])
        have hst := fun t u d => sets_bytes (o := [.cells .ex t 0 (bytesA p), .cells .ex u 0 (bytesA (zs 64))]) (e := 0) (d := d) (l := 1) (i := 0) (s := p) rfl (by decide) (by rw [hp, hlz]; decide)
        have hlay : lay (zs 64) 0 p = p := lay_all (by rw [hp, hlz])
        have hg2 := fun t u d => gets_all (o := [.cells .ex t 0 (bytesA p), .cells .ex u 0 (bytesA p)]) (e := 0) (d := d) (l := 1) (n := 64) rfl (by rw [bytesA_length, hp])
        refine To.den hxE2 (f := 22) (a := af22) rfl (E2_none rfl) (Nat.le_of_ble_eq_true rfl) (To.of (by simp only [go_sem, eqs hxE2, reduceIte, Nat.reduceEqDiff, Nat.reduceAdd, Nat.reduceMul, Nat.reduceLT, Nat.reduceLeDiff, Int.reduceLT, Int.reduceLE, Int.reduceEq, reduceCtorEq, Int.reduceBEq, Int.reduceBNe, Int.reduceToNat, Nat.reduceSub, Nat.reduceDiv, Int.reduceNeg, Int.reduceAdd, Int.reduceSub, Int.reduceMul, af22, eContains_2, eInside_2, eNumber_2, hn, Bool.not_false, z64_eq, hg, hst, hlay, bytesA_length, hp]; rfl) ?_)
        simp only [go_sem, eqs hxE2, reduceIte, Nat.reduceEqDiff, Nat.reduceAdd, Nat.reduceMul, Nat.reduceLT, Nat.reduceLeDiff, Int.reduceLT, Int.reduceLE, Int.reduceEq, reduceCtorEq, Int.reduceBEq, Int.reduceBNe, Int.reduceToNat, Nat.reduceSub, Nat.reduceDiv, Int.reduceNeg, Int.reduceAdd, Int.reduceSub, Int.reduceMul, af22, hr, hg2]
      | true =>
        obtain ⟨m, n, rfl, hsn, hmn⟩ := inside_nat hn
        have hsn : s.length = n := by omega
        subst hsn
        have hr : pgSetText p m s = lay p m s := by simp [pgSetText, hn]
        have hl : (lay p m s).length = 64 := by rw [lay_length (by omega), hp]
        have hbd := bounds_m (len := 64) (m := m) (by omega)
        have hsl := sl_fin2 (l := 0) (m := m) (len := 64) (by omega)
        have htk : s.take (64 - m) = s := List.take_of_length_le (by omega)
        have hst0 := fun t u d => sets_bytes (o := [.cells .ex t 0 (bytesA p), .cells .ex u 0 (bytesA (zs 64))]) (e := 0) (d := d) (l := 0) (i := m) (s := s) rfl (by decide) (by omega)
        have hg := fun t u d => gets_all (o := [.cells .ex t 0 (bytesA (lay p m s)), .cells .ex u 0 (bytesA (zs 64))]) (e := 0) (d := d) (l := 0) (n := 64) rfl (by rw [bytesA_length, hl])
        have hst := fun t u d => sets_bytes (o := [.cells .ex t 0 (bytesA (lay p m s)), .cells .ex u 0 (bytesA (zs 64))]) (e := 0) (d := d) (l := 1) (i := 0) (s := lay p m s) rfl (by decide) (by rw [hl, hlz]; decide)
        have hlay : lay (zs 64) 0 (lay p m s) = lay p m s := lay_all (by rw [hl, hlz])
        have hg2 := fun t u d => gets_all (o := [.cells .ex t 0 (bytesA (lay p m s)), .cells .ex u 0 (bytesA (lay p m s))]) (e := 0) (d := d) (l := 1) (n := 64) rfl (by rw [bytesA_length, hl])
        refine To.den hxE2 (f := 22) (a := af22) rfl (E2_none rfl) (Nat.le_of_ble_eq_true rfl) (To.of (by simp only [go_sem, eqs hxE2, reduceIte, Nat.reduceEqDiff, Nat.reduceAdd, Nat.reduceMul, Nat.reduceLT, Nat.reduceLeDiff, Int.reduceLT, Int.reduceLE, Int.reduceEq, reduceCtorEq, Int.reduceBEq, Int.reduceBNe, Int.reduceToNat, Nat.reduceSub, Nat.reduceDiv, Int.reduceNeg, Int.reduceAdd, Int.reduceSub, Int.reduceMul, af22, eContains_2, eInside_2, eNumber_2, hn, z64_eq, hbd, hsl, htk, hst0, hg, hst, hlay, bytesA_length, hp, hl]; rfl) ?_)
        simp only [go_sem, eqs hxE2, reduceIte, Nat.reduceEqDiff, Nat.reduceAdd, Nat.reduceMul, Nat.reduceLT, Nat.reduceLeDiff, Int.reduceLT, Int.reduceLE, Int.reduceEq, reduceCtorEq, Int.reduceBEq, Int.reduceBNe, Int.reduceToNat, Nat.reduceSub, Nat.reduceDiv, Int.reduceNeg, Int.reduceAdd, Int.reduceSub, Int.reduceMul, af22, hr, hg2]
    · cases h
  · cases h
def pgSet (p : List UInt8) (a s v : Int) : List UInt8 := if numberB a s = true then lay p a.toNat (tobeI s.toNat v) else p
theorem pgSet_length {p : List UInt8} (hp : p.length = 64) (a s v : Int) : (pgSet p a s v).length = 64 := by
  unfold pgSet
  split
  · rename_i h
    simp only [numberB, insideB, Bool.and_eq_true, decide_eq_true_eq] at h
    rw [lay_length (by rw [tobeI_length]; omega), hp]
  · exact hp
def tPgSet : Ans
  | [v, .int .i64 a, .int .i64 s, .int .i64 x] => (pageOf 64 v).map fun p => .agg (bytesA (pgSet p a s x))
  | _ => none
theorem okPgSet : SpOk FF E2 21 tPgSet := by
  intro args v h hpl
  unfold tPgSet at h
  split at h
  · rename_i v0 a s x
    simp only [Option.map_eq_some_iff] at h
    obtain ⟨p, hpg, rfl⟩ := h
    obtain ⟨rfl, hp⟩ := of_pageOf hpg
    refine ⟨by simp [V.plain, bytesA_plains], _, (?_ : Den FF E2 21 [.agg (bytesA p), .int .i64 a, .int .i64 s, .int .i64 x] H0 = some (.val (.agg (bytesA (pgSet p a s x))), none))⟩
    have hlz := zs_length 64
    cases hn : numberB a s with
    | false =>
      have hr : pgSet p a s x = p := by simp [pgSet, hn]
      have hg := fun t u => gets_all (o := [.cells .ex t 0 (bytesA p), .cells .ex u 0 (bytesA (zs 64))]) (e := 0) (d := 0) (l := 0) (n := 64) rfl (by rw [bytesA_length, hp])
      have hst := fun t u d => sets_bytes (o := [.cells .ex t 0 (bytesA p), .cells .ex u 0 (bytesA (zs 64))]) (e := 0) (d := d) (l := 1) (i := 0) (s := p) rfl (by decide) (by rw [hp, hlz]; decide)
      have hlay : lay (zs 64) 0 p = p := lay_all (by rw [hp, hlz])
      have hg2 := fun t u d => gets_all (o := [.cells .ex t 0 (bytesA p), .cells .ex u 0 (bytesA p)]) (e := 0) (d := d) (l := 1) (n := 64) rfl (by rw [bytesA_length, hp])
      refine To.den hxE2 (f := 21) (a := af21) rfl (E2_none rfl) (Nat.le_of_ble_eq_true rfl) (To.of (by simp only [go_sem, eqs hxE2, reduceIte, Nat.reduceEqDiff, Nat.reduceAdd, Nat.reduceMul, Nat.reduceLT, Nat.reduceLeDiff, Int.reduceLT, Int.reduceLE, Int.reduceEq, reduceCtorEq, Int.reduceBEq, Int.reduceBNe, Int.reduceToNat, Nat.reduceSub, Nat.reduceDiv, Int.reduceNeg, Int.reduceAdd, Int.reduceSub, Int.reduceMul, af21, eContains_2, eInside_2, eNumber_2, hn, Bool.not_false, z64_eq, hg, hst, hlay, bytesA_length, hp]; rfl) ?_)
      simp only [go_sem, eqs hxE2, reduceIte, Nat.reduceEqDiff, Nat.reduceAdd, Nat.reduceMul, Nat.reduceLT, Nat.reduceLeDiff, Int.reduceLT, Int.reduceLE, Int.reduceEq, reduceCtorEq, Int.reduceBEq, Int.reduceBNe, Int.reduceToNat, Nat.reduceSub, Nat.reduceDiv, Int.reduceNeg, Int.reduceAdd, Int.reduceSub, Int.reduceMul, af21, hr, hg2]
    | true =>
      have hin : insideB a s = true := by simp only [numberB, Bool.and_eq_true] at hn; exact hn.2
      have hs4 : 1 ≤ s ∧ s ≤ 4 := by simp only [numberB, Bool.and_eq_true, decide_eq_true_eq] at hn; exact hn.1
      obtain ⟨m, n, rfl, rfl, hmn⟩ := inside_nat hin
      have hr : pgSet p m n x = lay p m (tobeI n x) := by simp [pgSet, hn]
      refine To.den hxE2 (f := 21) (a := af21) rfl (E2_none rfl) (Nat.le_of_ble_eq_true rfl) ?_
      refine To.sq hxE2 (by simp only [go_sem, eqs hxE2, reduceIte, Nat.reduceEqDiff, Nat.reduceAdd, Nat.reduceMul, Nat.reduceLT, Nat.reduceLeDiff, Int.reduceLT, Int.reduceLE, Int.reduceEq, reduceCtorEq, Int.reduceBEq, Int.reduceBNe, Int.reduceToNat, Nat.reduceSub, Nat.reduceDiv, Int.reduceNeg, Int.reduceAdd, Int.reduceSub, Int.reduceMul, z64_eq]; rfl) ?_
      refine To.sq hxE2 (by simp only [go_sem, eqs hxE2, reduceIte, Nat.reduceEqDiff, Nat.reduceAdd, Nat.reduceMul, Nat.reduceLT, Nat.reduceLeDiff, Int.reduceLT, Int.reduceLE, Int.reduceEq, reduceCtorEq, Int.reduceBEq, Int.reduceBNe, Int.reduceToNat, Nat.reduceSub, Nat.reduceDiv, Int.reduceNeg, Int.reduceAdd, Int.reduceSub, Int.reduceMul, eContains_2, eInside_2, eNumber_2, hn, Bool.not_true]; rfl) ?_
      refine To.seq hxE2 (To.sq hxE2 (by simp only [go_sem, eqs hxE2, reduceIte, Nat.reduceEqDiff, Nat.reduceAdd, Nat.reduceMul, Nat.reduceLT, Nat.reduceLeDiff, Int.reduceLT, Int.reduceLE, Int.reduceEq, reduceCtorEq, Int.reduceBEq, Int.reduceBNe, Int.reduceToNat, Nat.reduceSub, Nat.reduceDiv, Int.reduceNeg, Int.reduceAdd, Int.reduceSub, Int.reduceMul]; rfl) (To.block hxE2 ?_))
      refine To.loop hxE2 (fun k S h' => ∃ t u q, h' = ⟨[.cells .ex t 0 (bytesA q), .cells .ex u 0 (bytesA (zs 64))], 0, 0⟩ ∧ ∃ i, i + k = n ∧ S 1 = .int .i64 (m : Int) ∧ S 2 = .int .i64 (n : Int) ∧ S 3 = .int .i64 x ∧ S 4 = .ptr 0 0 ∧ S 8 = .ptr 1 0 ∧ S 15 = .int .i64 (n : Int) ∧ S 16 = .int .i64 (i : Int) ∧
        q.length = 64 ∧ ∀ k, q[k]? = if m + n - i ≤ k ∧ k < m + n then some (byteAt x (m + n - 1 - k)) else p[k]?) ?_ n _ _ ?_
      · rintro k S _ ⟨t, u, q, rfl, i, hk, h1, h2, h3, h4, h8, h15, h16, hq, hqk⟩
        by_cases hi : i < n
        · have hlt : decide ((i : Int) < (n : Int)) = true := by simp; omega
          have w1 : IntKind.i64.wrap ((m : Int) + (n : Int)) = (m : Int) + (n : Int) := wrap_i64 (by omega) (by omega)
          have w2 : IntKind.i64.wrap ((m : Int) + (n : Int) - 1) = (m : Int) + (n : Int) - 1 := wrap_i64 (by omega) (by omega)
          have w3 : IntKind.i64.wrap ((m : Int) + (n : Int) - 1 - (i : Int)) = ((m + n - 1 - i : Nat) : Int) := by rw [wrap_i64 (by omega) (by omega)]; omega
          have w4 : IntKind.i64.wrap (8 * (i : Int)) = 8 * (i : Int) := wrap_i64 (by omega) (by omega)
          have w5 : IntKind.i64.wrap ((i : Int) + 1) = ((i + 1 : Nat) : Int) := by rw [wrap_i64 (by omega) (by omega)]; omega
          have hsh := shr_i (n := x) (i := i) (by omega)
          have hby : IntKind.u8.wrap (x.fdiv (2 ^ (8 * i))) = ((byteAt x i).toNat : Int) := wrap_byte _
          have hix : idxOf 64 (.int .i64 ((m + n - 1 - i : Nat) : Int)) = some (m + n - 1 - i) := idxOf_nat (by omega)
          have hst := sets_bytes (o := [.cells .ex t 0 (bytesA q), .cells .ex u 0 (bytesA (zs 64))]) (e := 0) (d := 0) (l := 0) (i := m + n - 1 - i) (s := [byteAt x i]) rfl (by decide) (by simp; omega)
          rw [show bytesA [byteAt x i] = [.int .u8 ((byteAt x i).toNat : Int)] from rfl] at hst
          refine To.of (by simp only [go_sem, eqs hxE2, reduceIte, Nat.reduceEqDiff, Nat.reduceAdd, Nat.reduceMul, Nat.reduceLT, Nat.reduceLeDiff, Int.reduceLT, Int.reduceLE, Int.reduceEq, reduceCtorEq, Int.reduceBEq, Int.reduceBNe, Int.reduceToNat, Nat.reduceSub, Nat.reduceDiv, Int.reduceNeg, Int.reduceAdd, Int.reduceSub, Int.reduceMul, h1, h2, h3, h4, h8, h15, h16, hlt, w1, w2, w3, w4, w5, hsh, hby, hix, hst]; rfl) ?_
          refine ⟨k - 1, by omega, t, u, lay q (m + n - 1 - i) [byteAt x i], rfl, i + 1, by omega, ?_⟩
          simp only [get_fput, h1, h2, h3, h4, h8, h15, h16, reduceIte, Nat.reduceEqDiff, true_and]
          refine ⟨by rw [lay_length (by simp; omega), hq], fun j => ?_⟩
          rw [lay_get (by simp; omega), hqk]
          simp only [List.length_cons, List.length_nil, Nat.zero_add]
          by_cases hj : j = m + n - 1 - i
          · rw [if_pos (by omega), if_pos (by omega)]
            have e1 : j - (m + n - 1 - i) = 0 := by omega
            have e2 : m + n - 1 - j = i := by omega
            rw [e1, e2]
            rfl
          · rw [if_neg (by omega)]
            by_cases hj2 : m + n - i ≤ j ∧ j < m + n
            · rw [if_pos hj2, if_pos (by omega)]
            · rw [if_neg hj2, if_neg (by omega)]
        · have hlt : decide ((i : Int) < (n : Int)) = false := by simp; omega
          have hqp : q = lay p m (tobeI n x) := by
            apply List.ext_getElem?
            intro j
            rw [hqk, lay_get (by rw [tobeI_length]; omega), tobeI_length]
            by_cases hj : m ≤ j ∧ j < m + n
            · rw [if_pos (by omega), if_pos hj, tobeI_get (by omega)]
              congr 2; omega
            · rw [if_neg (by omega), if_neg hj]
          have hg := fun t u d => gets_all (o := [.cells .ex t 0 (bytesA q), .cells .ex u 0 (bytesA (zs 64))]) (e := 0) (d := d) (l := 0) (n := 64) rfl (by rw [bytesA_length, hq])
          have hst := fun t u d => sets_bytes (o := [.cells .ex t 0 (bytesA q), .cells .ex u 0 (bytesA (zs 64))]) (e := 0) (d := d) (l := 1) (i := 0) (s := q) rfl (by decide) (by rw [hq, hlz]; decide)
          have hlay : lay (zs 64) 0 q = q := lay_all (by rw [hq, hlz])
          have hg2 := fun t u d => gets_all (o := [.cells .ex t 0 (bytesA q), .cells .ex u 0 (bytesA q)]) (e := 0) (d := d) (l := 1) (n := 64) rfl (by rw [bytesA_length, hq])
          refine To.of (by simp only [go_sem, eqs hxE2, reduceIte, Nat.reduceEqDiff, Nat.reduceAdd, Nat.reduceMul, Nat.reduceLT, Nat.reduceLeDiff, Int.reduceLT, Int.reduceLE, Int.reduceEq, reduceCtorEq, Int.reduceBEq, Int.reduceBNe, Int.reduceToNat, Nat.reduceSub, Nat.reduceDiv, Int.reduceNeg, Int.reduceAdd, Int.reduceSub, Int.reduceMul, h1, h2, h3, h4, h8, h15, h16, hlt]; rfl) ?_
          simp only [outOf, andThen, if_true]
          refine To.of (by simp only [go_sem, eqs hxE2, reduceIte, Nat.reduceEqDiff, Nat.reduceAdd, Nat.reduceMul, Nat.reduceLT, Nat.reduceLeDiff, Int.reduceLT, Int.reduceLE, Int.reduceEq, reduceCtorEq, Int.reduceBEq, Int.reduceBNe, Int.reduceToNat, Nat.reduceSub, Nat.reduceDiv, Int.reduceNeg, Int.reduceAdd, Int.reduceSub, Int.reduceMul, h4, h8, hg, hst, hlay, bytesA_length, hq]; rfl) ?_
          simp only [go_sem, eqs hxE2, reduceIte, Nat.reduceEqDiff, Nat.reduceAdd, Nat.reduceMul, Nat.reduceLT, Nat.reduceLeDiff, Int.reduceLT, Int.reduceLE, Int.reduceEq, reduceCtorEq, Int.reduceBEq, Int.reduceBNe, Int.reduceToNat, Nat.reduceSub, Nat.reduceDiv, Int.reduceNeg, Int.reduceAdd, Int.reduceSub, Int.reduceMul, af21, hr, h8, hg2]
          rw [← hqp]
      · refine ⟨_, _, p, rfl, 0, by omega, ?_⟩
        simp only [go_sem, eqs hxE2, reduceIte, Nat.reduceEqDiff, Nat.reduceAdd, Nat.reduceMul, Nat.reduceLT, Nat.reduceLeDiff, Int.reduceLT, Int.reduceLE, Int.reduceEq, reduceCtorEq, Int.reduceBEq, Int.reduceBNe, Int.reduceToNat, Nat.reduceSub, Nat.reduceDiv, Int.reduceNeg, Int.reduceAdd, Int.reduceSub, Int.reduceMul]
        refine ⟨hp, fun j => ?_⟩
        rw [if_neg (by omega)]
  · cases h
end Go.Proofs.Ytabnocdebldpmaa

/- Slots: names, right entries. -/
namespace Go.Proofs.Ytabnocdebldpmaa
open Go AM
set_option linter.unusedSimpArgs false
set_option linter.unusedVariables false
set_option maxRecDepth 100000

def checkN (s : List UInt8) : Int := if (s == []) = true then 2 else if decide (13 < s.length) = true then 36 else if (s == [46] || s == [46, 46] || s.contains 47 || s.contains 0) = true then 22 else 0
def tHas : Ans
  | [.int .i64 i] => some (.bool (decide (0 ≤ i) && decide (i < 4)))
  | _ => none
theorem okHas : SpOk FF E2 20 tHas := by
  intro args v h hpl
  unfold tHas at h
  split at h
  · rename_i i
    cases h
    refine ⟨rfl, _, (?_ : Den FF E2 20 [.int .i64 i] H0 = some (.val (.bool (decide (0 ≤ i) && decide (i < 4))), none))⟩
    rw [eq_den hxE2 _ (f := 20) (a := af20) rfl (E2_none rfl) _ (Nat.le_of_ble_eq_true rfl)]
    by_cases h1 : 0 ≤ i
    · simp only [go_sem, eqs hxE2, reduceIte, Nat.reduceEqDiff, Nat.reduceAdd, Nat.reduceMul, Nat.reduceLT, Nat.reduceLeDiff, Int.reduceLT, Int.reduceLE, Int.reduceEq, reduceCtorEq, Int.reduceBEq, Int.reduceBNe, Int.reduceToNat, Nat.reduceSub, Nat.reduceDiv, Int.reduceNeg, Int.reduceAdd, Int.reduceSub, Int.reduceMul, af20, h1]
    · simp only [go_sem, eqs hxE2, reduceIte, Nat.reduceEqDiff, Nat.reduceAdd, Nat.reduceMul, Nat.reduceLT, Nat.reduceLeDiff, Int.reduceLT, Int.reduceLE, Int.reduceEq, reduceCtorEq, Int.reduceBEq, Int.reduceBNe, Int.reduceToNat, Nat.reduceSub, Nat.reduceDiv, Int.reduceNeg, Int.reduceAdd, Int.reduceSub, Int.reduceMul, af20, h1, Bool.false_and]
  · cases h

def tCheck : Ans
  | [.str s] => some (.int .i64 (checkN s))
  | _ => none
theorem okCheck : SpOk FF E2 9 tCheck := by
  intro args v h hpl
  unfold tCheck at h
  split at h
  · rename_i s
    cases h
    refine ⟨rfl, _, (?_ : Den FF E2 9 [.str s] H0 = some (.val (.int .i64 (checkN s)), none))⟩
    refine To.den hxE2 (f := 9) (a := af9) rfl (E2_none rfl) (Nat.le_of_ble_eq_true rfl) ?_
    unfold checkN
    cases h0 : (s == [])
    · have hc : (13 < (s.length : Int)) = (13 < s.length) := propext (by omega)
      by_cases h1 : 13 < s.length
      · refine To.of (by simp only [go_sem, eqs hxE2, reduceIte, Nat.reduceEqDiff, Nat.reduceAdd, Nat.reduceMul, Nat.reduceLT, Nat.reduceLeDiff, Int.reduceLT, Int.reduceLE, Int.reduceEq, reduceCtorEq, Int.reduceBEq, Int.reduceBNe, Int.reduceToNat, Nat.reduceSub, Nat.reduceDiv, Int.reduceNeg, Int.reduceAdd, Int.reduceSub, Int.reduceMul, af9, eContains_2, eInside_2, eNumber_2, strA, h0, hc, h1]; rfl) ?_
        simp only [go_sem, eqs hxE2, reduceIte, Nat.reduceEqDiff, Nat.reduceAdd, Nat.reduceMul, Nat.reduceLT, Nat.reduceLeDiff, Int.reduceLT, Int.reduceLE, Int.reduceEq, reduceCtorEq, Int.reduceBEq, Int.reduceBNe, Int.reduceToNat, Nat.reduceSub, Nat.reduceDiv, Int.reduceNeg, Int.reduceAdd, Int.reduceSub, Int.reduceMul, af9, h1]
      · cases h2 : (s == [46]) <;> cases h3 : (s == [46, 46]) <;> cases h4 : s.contains 47 <;> cases h5 : s.contains 0
        all_goals
          refine To.of (by simp only [go_sem, eqs hxE2, reduceIte, Nat.reduceEqDiff, Nat.reduceAdd, Nat.reduceMul, Nat.reduceLT, Nat.reduceLeDiff, Int.reduceLT, Int.reduceLE, Int.reduceEq, reduceCtorEq, Int.reduceBEq, Int.reduceBNe, Int.reduceToNat, Nat.reduceSub, Nat.reduceDiv, Int.reduceNeg, Int.reduceAdd, Int.reduceSub, Int.reduceMul, af9, eContains_2, eInside_2, eNumber_2, strA, h0, hc, h1, h2, h3, h4, h5]; rfl) ?_
          simp only [go_sem, eqs hxE2, reduceIte, Nat.reduceEqDiff, Nat.reduceAdd, Nat.reduceMul, Nat.reduceLT, Nat.reduceLeDiff, Int.reduceLT, Int.reduceLE, Int.reduceEq, reduceCtorEq, Int.reduceBEq, Int.reduceBNe, Int.reduceToNat, Nat.reduceSub, Nat.reduceDiv, Int.reduceNeg, Int.reduceAdd, Int.reduceSub, Int.reduceMul, af9, h1, Bool.or_true, Bool.or_false, Bool.true_or]
    · refine To.of (by simp only [go_sem, eqs hxE2, reduceIte, Nat.reduceEqDiff, Nat.reduceAdd, Nat.reduceMul, Nat.reduceLT, Nat.reduceLeDiff, Int.reduceLT, Int.reduceLE, Int.reduceEq, reduceCtorEq, Int.reduceBEq, Int.reduceBNe, Int.reduceToNat, Nat.reduceSub, Nat.reduceDiv, Int.reduceNeg, Int.reduceAdd, Int.reduceSub, Int.reduceMul, af9, eContains_2, eInside_2, eNumber_2, strA, h0]; rfl) ?_
      simp only [go_sem, eqs hxE2, reduceIte, Nat.reduceEqDiff, Nat.reduceAdd, Nat.reduceMul, Nat.reduceLT, Nat.reduceLeDiff, Int.reduceLT, Int.reduceLE, Int.reduceEq, reduceCtorEq, Int.reduceBEq, Int.reduceBNe, Int.reduceToNat, Nat.reduceSub, Nat.reduceDiv, Int.reduceNeg, Int.reduceAdd, Int.reduceSub, Int.reduceMul, af9]
  · cases h

theorem okRCheck : SpOk FF E2 10 tCheck := by
  intro args v h hpl
  unfold tCheck at h
  split at h
  · rename_i s
    cases h
    refine ⟨rfl, _, (?_ : Den FF E2 10 [.str s] H0 = some (.val (.int .i64 (checkN s)), none))⟩
    refine To.den hxE2 (f := 10) (a := af10) rfl (E2_none rfl) (Nat.le_of_ble_eq_true rfl) ?_
    have hc : (13 < (s.length : Int)) = (13 < s.length) := propext (by omega)
    by_cases h0 : s = []
    · subst h0
      refine To.of (by simp only [go_sem, eqs hxE2, reduceIte, Nat.reduceEqDiff, Nat.reduceAdd, Nat.reduceMul, Nat.reduceLT, Nat.reduceLeDiff, Int.reduceLT, Int.reduceLE, Int.reduceEq, reduceCtorEq, Int.reduceBEq, Int.reduceBNe, Int.reduceToNat, Nat.reduceSub, Nat.reduceDiv, Int.reduceNeg, Int.reduceAdd, Int.reduceSub, Int.reduceMul, af10, List.length_nil, Int.natCast_zero, beq_self_eq_true, Int.ofNat_zero]; rfl) ?_
      simp only [go_sem, eqs hxE2, reduceIte, Nat.reduceEqDiff, Nat.reduceAdd, Nat.reduceMul, Nat.reduceLT, Nat.reduceLeDiff, Int.reduceLT, Int.reduceLE, Int.reduceEq, reduceCtorEq, Int.reduceBEq, Int.reduceBNe, Int.reduceToNat, Nat.reduceSub, Nat.reduceDiv, Int.reduceNeg, Int.reduceAdd, Int.reduceSub, Int.reduceMul, af10]; rfl
    · have h00 : (s == []) = false := by simp [h0]
      have hl : ((s.length : Int) == 0) = false := by
        have : s.length ≠ 0 := fun h => h0 (List.length_eq_zero_iff.1 h)
        simp only [beq_eq_false_iff_ne, ne_eq]; omega
      by_cases h1 : 13 < s.length
      · refine To.of (by simp only [go_sem, eqs hxE2, reduceIte, Nat.reduceEqDiff, Nat.reduceAdd, Nat.reduceMul, Nat.reduceLT, Nat.reduceLeDiff, Int.reduceLT, Int.reduceLE, Int.reduceEq, reduceCtorEq, Int.reduceBEq, Int.reduceBNe, Int.reduceToNat, Nat.reduceSub, Nat.reduceDiv, Int.reduceNeg, Int.reduceAdd, Int.reduceSub, Int.reduceMul, af10, hl, hc, h1]; rfl) ?_
        simp only [go_sem, eqs hxE2, reduceIte, Nat.reduceEqDiff, Nat.reduceAdd, Nat.reduceMul, Nat.reduceLT, Nat.reduceLeDiff, Int.reduceLT, Int.reduceLE, Int.reduceEq, reduceCtorEq, Int.reduceBEq, Int.reduceBNe, Int.reduceToNat, Nat.reduceSub, Nat.reduceDiv, Int.reduceNeg, Int.reduceAdd, Int.reduceSub, Int.reduceMul, af10, checkN, h00, h1]
      · by_cases h23 : (s == [46] || s == [46, 46]) = true
        · have hr : checkN s = 22 := by
            simp only [checkN, h00, h1, h23, Bool.true_or, Bool.false_eq_true, if_false, decide_false, if_true]
          cases h2 : (s == [46]) <;> cases h3 : (s == [46, 46])
          · rw [h2, h3] at h23; cases h23
          all_goals
            refine To.of (by simp only [go_sem, eqs hxE2, reduceIte, Nat.reduceEqDiff, Nat.reduceAdd, Nat.reduceMul, Nat.reduceLT, Nat.reduceLeDiff, Int.reduceLT, Int.reduceLE, Int.reduceEq, reduceCtorEq, Int.reduceBEq, Int.reduceBNe, Int.reduceToNat, Nat.reduceSub, Nat.reduceDiv, Int.reduceNeg, Int.reduceAdd, Int.reduceSub, Int.reduceMul, af10, strA, hl, hc, h1, h2, h3]; rfl) ?_
            simp only [go_sem, eqs hxE2, reduceIte, Nat.reduceEqDiff, Nat.reduceAdd, Nat.reduceMul, Nat.reduceLT, Nat.reduceLeDiff, Int.reduceLT, Int.reduceLE, Int.reduceEq, reduceCtorEq, Int.reduceBEq, Int.reduceBNe, Int.reduceToNat, Nat.reduceSub, Nat.reduceDiv, Int.reduceNeg, Int.reduceAdd, Int.reduceSub, Int.reduceMul, af10, hr]
        · have h2 : (s == [46]) = false := by cases h : (s == [46]) <;> simp_all
          have h3 : (s == [46, 46]) = false := by cases h : (s == [46, 46]) <;> simp_all
          have hr : checkN s = if (s.contains 47 || s.contains 0) = true then 22 else 0 := by
            simp only [checkN, h00, h1, h2, h3, Bool.false_or, Bool.false_eq_true, if_false, decide_false]
          refine To.sq hxE2 (by simp only [go_sem, eqs hxE2, reduceIte, Nat.reduceEqDiff, Nat.reduceAdd, Nat.reduceMul, Nat.reduceLT, Nat.reduceLeDiff, Int.reduceLT, Int.reduceLE, Int.reduceEq, reduceCtorEq, Int.reduceBEq, Int.reduceBNe, Int.reduceToNat, Nat.reduceSub, Nat.reduceDiv, Int.reduceNeg, Int.reduceAdd, Int.reduceSub, Int.reduceMul]; rfl) ?_
          refine To.sq hxE2 (by simp only [go_sem, eqs hxE2, reduceIte, Nat.reduceEqDiff, Nat.reduceAdd, Nat.reduceMul, Nat.reduceLT, Nat.reduceLeDiff, Int.reduceLT, Int.reduceLE, Int.reduceEq, reduceCtorEq, Int.reduceBEq, Int.reduceBNe, Int.reduceToNat, Nat.reduceSub, Nat.reduceDiv, Int.reduceNeg, Int.reduceAdd, Int.reduceSub, Int.reduceMul, hl]; rfl) ?_
          refine To.sq hxE2 (by simp only [go_sem, eqs hxE2, reduceIte, Nat.reduceEqDiff, Nat.reduceAdd, Nat.reduceMul, Nat.reduceLT, Nat.reduceLeDiff, Int.reduceLT, Int.reduceLE, Int.reduceEq, reduceCtorEq, Int.reduceBEq, Int.reduceBNe, Int.reduceToNat, Nat.reduceSub, Nat.reduceDiv, Int.reduceNeg, Int.reduceAdd, Int.reduceSub, Int.reduceMul, hc, h1]; rfl) ?_
          refine To.sq hxE2 (by simp only [go_sem, eqs hxE2, reduceIte, Nat.reduceEqDiff, Nat.reduceAdd, Nat.reduceMul, Nat.reduceLT, Nat.reduceLeDiff, Int.reduceLT, Int.reduceLE, Int.reduceEq, reduceCtorEq, Int.reduceBEq, Int.reduceBNe, Int.reduceToNat, Nat.reduceSub, Nat.reduceDiv, Int.reduceNeg, Int.reduceAdd, Int.reduceSub, Int.reduceMul, strA, h2, h3]; rfl) ?_
          refine To.seq hxE2 (To.sq hxE2 (by simp only [go_sem, eqs hxE2, reduceIte, Nat.reduceEqDiff, Nat.reduceAdd, Nat.reduceMul, Nat.reduceLT, Nat.reduceLeDiff, Int.reduceLT, Int.reduceLE, Int.reduceEq, reduceCtorEq, Int.reduceBEq, Int.reduceBNe, Int.reduceToNat, Nat.reduceSub, Nat.reduceDiv, Int.reduceNeg, Int.reduceAdd, Int.reduceSub, Int.reduceMul]; rfl) (To.block hxE2 ?_))
          refine To.loop hxE2 (fun k S h' => h' = ⟨[], 0, 0⟩ ∧ ∃ i, i + k = s.length ∧ S 0 = .str s ∧ S 3 = .int .i64 (i : Int) ∧ ∀ j b, j < i → s[j]? = some b → b ≠ 0 ∧ b ≠ 47) ?_ s.length _ _ ?_
          · rintro k S _ ⟨rfl, i, hk, hS0, hS3, hall⟩
            by_cases hi : i < s.length
            · have hlt : decide ((i : Int) < (s.length : Int)) = true := by simp; omega
              obtain ⟨b, hb⟩ : ∃ b, s[i]? = some b := ⟨s[i], List.getElem?_eq_getElem hi⟩
              have hix : idxOf s.length (.int .i64 (i : Int)) = some i := idxOf_nat hi
              have w1 : IntKind.i64.wrap ((i : Int) + 1) = ((i + 1 : Nat) : Int) := by rw [wrap_i64 (by omega) (by omega)]; omega
              by_cases hz : b = 0
              · subst hz
                have hbz : (((0 : UInt8).toNat : Int) == 0) = true := rfl
                have hres : checkN s = 22 := by rw [hr, if_pos]; simp [List.mem_iff_getElem?]; exact .inr ⟨i, hb⟩
                refine To.of (by simp only [go_sem, eqs hxE2, reduceIte, Nat.reduceEqDiff, Nat.reduceAdd, Nat.reduceMul, Nat.reduceLT, Nat.reduceLeDiff, Int.reduceLT, Int.reduceLE, Int.reduceEq, reduceCtorEq, Int.reduceBEq, Int.reduceBNe, Int.reduceToNat, Nat.reduceSub, Nat.reduceDiv, Int.reduceNeg, Int.reduceAdd, Int.reduceSub, Int.reduceMul, hS0, hS3, hlt, hix, hb, hbz]; rfl) ?_
                simp only [outOf, andThen]
                simp only [go_sem, eqs hxE2, reduceIte, Nat.reduceEqDiff, Nat.reduceAdd, Nat.reduceMul, Nat.reduceLT, Nat.reduceLeDiff, Int.reduceLT, Int.reduceLE, Int.reduceEq, reduceCtorEq, Int.reduceBEq, Int.reduceBNe, Int.reduceToNat, Nat.reduceSub, Nat.reduceDiv, Int.reduceNeg, Int.reduceAdd, Int.reduceSub, Int.reduceMul, af10, hres]
              · have hbz : (((b.toNat : Nat) : Int) == 0) = false := by
                  simp only [beq_eq_false_iff_ne, ne_eq]
                  intro e; exact hz (UInt8.toNat_inj.1 (by simpa using e))
                by_cases h47 : b = 47
                · subst h47
                  have hb47 : (((47 : UInt8).toNat : Int) == 47) = true := rfl
                  have hres : checkN s = 22 := by rw [hr, if_pos]; simp [List.mem_iff_getElem?]; exact .inl ⟨i, hb⟩
                  refine To.of (by simp only [go_sem, eqs hxE2, reduceIte, Nat.reduceEqDiff, Nat.reduceAdd, Nat.reduceMul, Nat.reduceLT, Nat.reduceLeDiff, Int.reduceLT, Int.reduceLE, Int.reduceEq, reduceCtorEq, Int.reduceBEq, Int.reduceBNe, Int.reduceToNat, Nat.reduceSub, Nat.reduceDiv, Int.reduceNeg, Int.reduceAdd, Int.reduceSub, Int.reduceMul, hS0, hS3, hlt, hix, hb, hbz, hb47]; rfl) ?_
                  simp only [outOf, andThen]
                  simp only [go_sem, eqs hxE2, reduceIte, Nat.reduceEqDiff, Nat.reduceAdd, Nat.reduceMul, Nat.reduceLT, Nat.reduceLeDiff, Int.reduceLT, Int.reduceLE, Int.reduceEq, reduceCtorEq, Int.reduceBEq, Int.reduceBNe, Int.reduceToNat, Nat.reduceSub, Nat.reduceDiv, Int.reduceNeg, Int.reduceAdd, Int.reduceSub, Int.reduceMul, af10, hres]
                · have hb47 : (((b.toNat : Nat) : Int) == 47) = false := by
                    simp only [beq_eq_false_iff_ne, ne_eq]
                    intro e; exact h47 (UInt8.toNat_inj.1 (by simp; omega))
                  refine To.of (by simp only [go_sem, eqs hxE2, reduceIte, Nat.reduceEqDiff, Nat.reduceAdd, Nat.reduceMul, Nat.reduceLT, Nat.reduceLeDiff, Int.reduceLT, Int.reduceLE, Int.reduceEq, reduceCtorEq, Int.reduceBEq, Int.reduceBNe, Int.reduceToNat, Nat.reduceSub, Nat.reduceDiv, Int.reduceNeg, Int.reduceAdd, Int.reduceSub, Int.reduceMul, hS0, hS3, hlt, hix, hb, hbz, hb47, w1]; rfl) ?_
                  refine ⟨k - 1, by omega, rfl, i + 1, by omega, ?_⟩
                  simp only [get_fput, hS0, hS3, reduceIte, Nat.reduceEqDiff, true_and]
                  intro j c hj hc'
                  by_cases hji : j = i
                  · subst hji; rw [hb] at hc'; cases hc'; exact ⟨hz, h47⟩
                  · exact hall j c (by omega) hc'
            · have hlt : decide ((i : Int) < (s.length : Int)) = false := by simp; omega
              have hno : ∀ b ∈ s, b ≠ 0 ∧ b ≠ 47 := by
                intro b hb
                obtain ⟨j, hj⟩ := List.mem_iff_getElem?.1 hb
                have := (List.getElem?_eq_some_iff.1 hj).1
                exact hall j b (by omega) hj
              have hres : checkN s = 0 := by
                rw [hr, if_neg]
                simp only [Bool.or_eq_true, List.contains_iff_mem, not_or]
                exact ⟨fun h => (hno _ h).2 rfl, fun h => (hno _ h).1 rfl⟩
              refine To.of (by simp only [go_sem, eqs hxE2, reduceIte, Nat.reduceEqDiff, Nat.reduceAdd, Nat.reduceMul, Nat.reduceLT, Nat.reduceLeDiff, Int.reduceLT, Int.reduceLE, Int.reduceEq, reduceCtorEq, Int.reduceBEq, Int.reduceBNe, Int.reduceToNat, Nat.reduceSub, Nat.reduceDiv, Int.reduceNeg, Int.reduceAdd, Int.reduceSub, Int.reduceMul, hS0, hS3, hlt]; rfl) ?_
              simp only [outOf, andThen, if_true]
              refine To.of (by simp only [go_sem, eqs hxE2, reduceIte, Nat.reduceEqDiff, Nat.reduceAdd, Nat.reduceMul, Nat.reduceLT, Nat.reduceLeDiff, Int.reduceLT, Int.reduceLE, Int.reduceEq, reduceCtorEq, Int.reduceBEq, Int.reduceBNe, Int.reduceToNat, Nat.reduceSub, Nat.reduceDiv, Int.reduceNeg, Int.reduceAdd, Int.reduceSub, Int.reduceMul]; rfl) ?_
              simp only [go_sem, eqs hxE2, reduceIte, Nat.reduceEqDiff, Nat.reduceAdd, Nat.reduceMul, Nat.reduceLT, Nat.reduceLeDiff, Int.reduceLT, Int.reduceLE, Int.reduceEq, reduceCtorEq, Int.reduceBEq, Int.reduceBNe, Int.reduceToNat, Nat.reduceSub, Nat.reduceDiv, Int.reduceNeg, Int.reduceAdd, Int.reduceSub, Int.reduceMul, af10, hres]
          · refine ⟨rfl, 0, by omega, ?_⟩
            simp only [go_sem, eqs hxE2, reduceIte, Nat.reduceEqDiff, Nat.reduceAdd, Nat.reduceMul, Nat.reduceLT, Nat.reduceLeDiff, Int.reduceLT, Int.reduceLE, Int.reduceEq, reduceCtorEq, Int.reduceBEq, Int.reduceBNe, Int.reduceToNat, Nat.reduceSub, Nat.reduceDiv, Int.reduceNeg, Int.reduceAdd, Int.reduceSub, Int.reduceMul]
            exact fun j b hj => absurd hj (by omega)
  · cases h
def g3 : Nat → Option Ans := addG g2 [(23, tPgGet), (24, tPgText), (22, tPgSetText), (21, tPgSet), (20, tHas), (9, tCheck), (10, tCheck)]
def E3 : ExtF := plainExt g3
theorem hxE3 : ExtMono E3 := plainExt_mono g3
theorem sndE3 : ExtSound Try.prog E3 := addG_sound mixed ffok sndE2 (by
  intro p hp
  simp only [List.mem_cons, List.not_mem_nil, or_false] at hp
  rcases hp with rfl | rfl | rfl | rfl | rfl | rfl | rfl
  · exact okPgGet
  · exact okPgText
  · exact okPgSetText
  · exact okPgSet
  · exact okHas
  · exact okCheck
  · exact okRCheck)
theorem E3_none {f : Nat} (h : g3 f = none) (c : CallF) : E3 c f = none := plainExt_none h c
theorem eContains_3 (s : List UInt8) (c : UInt8) (h : Heap) : Den FF E3 19 [.str s, .str [c]] h = some (.val (.bool (s.contains c)), none) := den_plain (sp := tContains) h rfl (by rfl) (by first | (simp [V.plains, V.plain, bytesA_plains]; done) | rfl)
theorem eInside_3 (a s : Int) (h : Heap) : Den FF E3 27 [.int .i64 a, .int .i64 s] h = some (.val (.bool (insideB a s)), none) := den_plain (sp := tInside) h rfl (by rfl) (by first | (simp [V.plains, V.plain, bytesA_plains]; done) | rfl)
theorem eNumber_3 (a s : Int) (h : Heap) : Den FF E3 26 [.int .i64 a, .int .i64 s] h = some (.val (.bool (numberB a s)), none) := den_plain (sp := tNumber) h rfl (by rfl) (by first | (simp [V.plains, V.plain, bytesA_plains]; done) | rfl)
theorem ePgGet_3 {p : List UInt8} (hp : p.length = 64) (a s : Int) (h : Heap) : Den FF E3 23 [.agg (bytesA p), .int .i64 a, .int .i64 s] h = some (.val (.int .i64 (pgGet p a s)), none) := den_plain (sp := tPgGet) h rfl (by simp [tPgGet, pageOf_bytes hp]) (by first | (simp [V.plains, V.plain, bytesA_plains]; done) | rfl)
theorem ePgText_3 {p : List UInt8} (hp : p.length = 64) {a : Int} (ha : a < 64) (s : Int) (h : Heap) : Den FF E3 24 [.agg (bytesA p), .int .i64 a, .int .i64 s] h = some (.val (.str (pgText p a s)), none) := den_plain (sp := tPgText) h rfl (by simp [tPgText, pageOf_bytes hp, ha]) (by first | (simp [V.plains, V.plain, bytesA_plains]; done) | rfl)
theorem ePgSetText_3 {p : List UInt8} (hp : p.length = 64) {a : Int} (ha : a < 64) (s : List UInt8) (h : Heap) : Den FF E3 22 [.agg (bytesA p), .int .i64 a, .str s] h = some (.val (.agg (bytesA (pgSetText p a s))), none) := den_plain (sp := tPgSetText) h rfl (by simp [tPgSetText, pageOf_bytes hp, ha]) (by first | (simp [V.plains, V.plain, bytesA_plains]; done) | rfl)
theorem ePgSet_3 {p : List UInt8} (hp : p.length = 64) (a s x : Int) (h : Heap) : Den FF E3 21 [.agg (bytesA p), .int .i64 a, .int .i64 s, .int .i64 x] h = some (.val (.agg (bytesA (pgSet p a s x))), none) := den_plain (sp := tPgSet) h rfl (by simp [tPgSet, pageOf_bytes hp]) (by first | (simp [V.plains, V.plain, bytesA_plains]; done) | rfl)
theorem eHas_3 (i : Int) (h : Heap) : Den FF E3 20 [.int .i64 i] h = some (.val (.bool (decide (0 ≤ i) && decide (i < 4))), none) := den_plain (sp := tHas) h rfl (by rfl) (by first | (simp [V.plains, V.plain, bytesA_plains]; done) | rfl)
theorem eCheck_3 (s : List UInt8) (h : Heap) : Den FF E3 9 [.str s] h = some (.val (.int .i64 (checkN s)), none) := den_plain (sp := tCheck) h rfl (by rfl) (by first | (simp [V.plains, V.plain, bytesA_plains]; done) | rfl)
theorem eRCheck_3 (s : List UInt8) (h : Heap) : Den FF E3 10 [.str s] h = some (.val (.int .i64 (checkN s)), none) := den_plain (sp := tCheck) h rfl (by rfl) (by first | (simp [V.plains, V.plain, bytesA_plains]; done) | rfl)

def rightB (i : Int) (s : List UInt8) : Bool := decide (1 ≤ i) && decide (i ≤ 65535) && (checkN s == 0)
def tRight : Ans
  | [.agg [.int .i64 i, .str s]] => some (.bool (rightB i s))
  | _ => none
theorem okRight : SpOk FF E3 11 tRight := by
  intro args v h hpl
  unfold tRight at h
  split at h
  · rename_i i s
    cases h
    refine ⟨rfl, _, (?_ : Den FF E3 11 [.agg [.int .i64 i, .str s]] H0 = some (.val (.bool (rightB i s)), none))⟩
    refine To.den hxE3 (f := 11) (a := af11) rfl (E3_none rfl) (Nat.le_of_ble_eq_true rfl) ?_
    unfold rightB
    by_cases h1 : 1 ≤ i
    · by_cases h2 : i ≤ 65535
      · refine To.of (by simp only [go_sem, eqs hxE3, reduceIte, Nat.reduceEqDiff, Nat.reduceAdd, Nat.reduceMul, Nat.reduceLT, Nat.reduceLeDiff, Int.reduceLT, Int.reduceLE, Int.reduceEq, reduceCtorEq, Int.reduceBEq, Int.reduceBNe, Int.reduceToNat, Nat.reduceSub, Nat.reduceDiv, Int.reduceNeg, Int.reduceAdd, Int.reduceSub, Int.reduceMul, af11, eContains_3, eInside_3, eNumber_3, ePgGet_3, ePgText_3, ePgSetText_3, ePgSet_3, eHas_3, eCheck_3, eRCheck_3, h1, h2, Heap.get]; rfl) ?_
        simp only [go_sem, eqs hxE3, reduceIte, Nat.reduceEqDiff, Nat.reduceAdd, Nat.reduceMul, Nat.reduceLT, Nat.reduceLeDiff, Int.reduceLT, Int.reduceLE, Int.reduceEq, reduceCtorEq, Int.reduceBEq, Int.reduceBNe, Int.reduceToNat, Nat.reduceSub, Nat.reduceDiv, Int.reduceNeg, Int.reduceAdd, Int.reduceSub, Int.reduceMul, af11, h1, h2]
      · refine To.of (by simp only [go_sem, eqs hxE3, reduceIte, Nat.reduceEqDiff, Nat.reduceAdd, Nat.reduceMul, Nat.reduceLT, Nat.reduceLeDiff, Int.reduceLT, Int.reduceLE, Int.reduceEq, reduceCtorEq, Int.reduceBEq, Int.reduceBNe, Int.reduceToNat, Nat.reduceSub, Nat.reduceDiv, Int.reduceNeg, Int.reduceAdd, Int.reduceSub, Int.reduceMul, af11, eContains_3, eInside_3, eNumber_3, ePgGet_3, ePgText_3, ePgSetText_3, ePgSet_3, eHas_3, eCheck_3, eRCheck_3, h1, h2, Heap.get]; rfl) ?_
        simp only [go_sem, eqs hxE3, reduceIte, Nat.reduceEqDiff, Nat.reduceAdd, Nat.reduceMul, Nat.reduceLT, Nat.reduceLeDiff, Int.reduceLT, Int.reduceLE, Int.reduceEq, reduceCtorEq, Int.reduceBEq, Int.reduceBNe, Int.reduceToNat, Nat.reduceSub, Nat.reduceDiv, Int.reduceNeg, Int.reduceAdd, Int.reduceSub, Int.reduceMul, af11, h1, h2, Bool.false_and]
    · refine To.of (by simp only [go_sem, eqs hxE3, reduceIte, Nat.reduceEqDiff, Nat.reduceAdd, Nat.reduceMul, Nat.reduceLT, Nat.reduceLeDiff, Int.reduceLT, Int.reduceLE, Int.reduceEq, reduceCtorEq, Int.reduceBEq, Int.reduceBNe, Int.reduceToNat, Nat.reduceSub, Nat.reduceDiv, Int.reduceNeg, Int.reduceAdd, Int.reduceSub, Int.reduceMul, af11, eContains_3, eInside_3, eNumber_3, ePgGet_3, ePgText_3, ePgSetText_3, ePgSet_3, eHas_3, eCheck_3, eRCheck_3, h1, Heap.get]; rfl) ?_
      simp only [go_sem, eqs hxE3, reduceIte, Nat.reduceEqDiff, Nat.reduceAdd, Nat.reduceMul, Nat.reduceLT, Nat.reduceLeDiff, Int.reduceLT, Int.reduceLE, Int.reduceEq, reduceCtorEq, Int.reduceBEq, Int.reduceBNe, Int.reduceToNat, Nat.reduceSub, Nat.reduceDiv, Int.reduceNeg, Int.reduceAdd, Int.reduceSub, Int.reduceMul, af11, h1, Bool.false_and]
  · cases h
theorem okRRight : SpOk FF E3 12 tRight := by
  intro args v h hpl
  unfold tRight at h
  split at h
  · rename_i i s
    cases h
    refine ⟨rfl, _, (?_ : Den FF E3 12 [.agg [.int .i64 i, .str s]] H0 = some (.val (.bool (rightB i s)), none))⟩
    refine To.den hxE3 (f := 12) (a := af12) rfl (E3_none rfl) (Nat.le_of_ble_eq_true rfl) ?_
    unfold rightB
    have e1 : (0 < i) = (1 ≤ i) := propext (by omega)
    have e2 : (i < 65536) = (i ≤ 65535) := propext (by omega)
    by_cases h1 : 1 ≤ i
    · by_cases h2 : i ≤ 65535
      · refine To.of (by simp only [go_sem, eqs hxE3, reduceIte, Nat.reduceEqDiff, Nat.reduceAdd, Nat.reduceMul, Nat.reduceLT, Nat.reduceLeDiff, Int.reduceLT, Int.reduceLE, Int.reduceEq, reduceCtorEq, Int.reduceBEq, Int.reduceBNe, Int.reduceToNat, Nat.reduceSub, Nat.reduceDiv, Int.reduceNeg, Int.reduceAdd, Int.reduceSub, Int.reduceMul, af12, eContains_3, eInside_3, eNumber_3, ePgGet_3, ePgText_3, ePgSetText_3, ePgSet_3, eHas_3, eCheck_3, eRCheck_3, e1, e2, h1, h2, Heap.get]; rfl) ?_
        simp only [go_sem, eqs hxE3, reduceIte, Nat.reduceEqDiff, Nat.reduceAdd, Nat.reduceMul, Nat.reduceLT, Nat.reduceLeDiff, Int.reduceLT, Int.reduceLE, Int.reduceEq, reduceCtorEq, Int.reduceBEq, Int.reduceBNe, Int.reduceToNat, Nat.reduceSub, Nat.reduceDiv, Int.reduceNeg, Int.reduceAdd, Int.reduceSub, Int.reduceMul, af12, h1, h2]
      · refine To.of (by simp only [go_sem, eqs hxE3, reduceIte, Nat.reduceEqDiff, Nat.reduceAdd, Nat.reduceMul, Nat.reduceLT, Nat.reduceLeDiff, Int.reduceLT, Int.reduceLE, Int.reduceEq, reduceCtorEq, Int.reduceBEq, Int.reduceBNe, Int.reduceToNat, Nat.reduceSub, Nat.reduceDiv, Int.reduceNeg, Int.reduceAdd, Int.reduceSub, Int.reduceMul, af12, eContains_3, eInside_3, eNumber_3, ePgGet_3, ePgText_3, ePgSetText_3, ePgSet_3, eHas_3, eCheck_3, eRCheck_3, e1, e2, h1, h2, Heap.get]; rfl) ?_
        simp only [go_sem, eqs hxE3, reduceIte, Nat.reduceEqDiff, Nat.reduceAdd, Nat.reduceMul, Nat.reduceLT, Nat.reduceLeDiff, Int.reduceLT, Int.reduceLE, Int.reduceEq, reduceCtorEq, Int.reduceBEq, Int.reduceBNe, Int.reduceToNat, Nat.reduceSub, Nat.reduceDiv, Int.reduceNeg, Int.reduceAdd, Int.reduceSub, Int.reduceMul, af12, h1, h2, Bool.false_and]
    · refine To.of (by simp only [go_sem, eqs hxE3, reduceIte, Nat.reduceEqDiff, Nat.reduceAdd, Nat.reduceMul, Nat.reduceLT, Nat.reduceLeDiff, Int.reduceLT, Int.reduceLE, Int.reduceEq, reduceCtorEq, Int.reduceBEq, Int.reduceBNe, Int.reduceToNat, Nat.reduceSub, Nat.reduceDiv, Int.reduceNeg, Int.reduceAdd, Int.reduceSub, Int.reduceMul, af12, eContains_3, eInside_3, eNumber_3, ePgGet_3, ePgText_3, ePgSetText_3, ePgSet_3, eHas_3, eCheck_3, eRCheck_3, e1, e2, h1, Heap.get]; rfl) ?_
      simp only [go_sem, eqs hxE3, reduceIte, Nat.reduceEqDiff, Nat.reduceAdd, Nat.reduceMul, Nat.reduceLT, Nat.reduceLeDiff, Int.reduceLT, Int.reduceLE, Int.reduceEq, reduceCtorEq, Int.reduceBEq, Int.reduceBNe, Int.reduceToNat, Nat.reduceSub, Nat.reduceDiv, Int.reduceNeg, Int.reduceAdd, Int.reduceSub, Int.reduceMul, af12, h1, Bool.false_and]
  · cases h
def g4 : Nat → Option Ans := addG g3 [(11, tRight), (12, tRight)]
def E4 : ExtF := plainExt g4
theorem hxE4 : ExtMono E4 := plainExt_mono g4
theorem sndE4 : ExtSound Try.prog E4 := addG_sound mixed ffok sndE3 (by
  intro p hp
  simp only [List.mem_cons, List.not_mem_nil, or_false] at hp
  rcases hp with rfl | rfl
  · exact okRight
  · exact okRRight)
theorem E4_none {f : Nat} (h : g4 f = none) (c : CallF) : E4 c f = none := plainExt_none h c
theorem eContains_4 (s : List UInt8) (c : UInt8) (h : Heap) : Den FF E4 19 [.str s, .str [c]] h = some (.val (.bool (s.contains c)), none) := den_plain (sp := tContains) h rfl (by rfl) (by first | (simp [V.plains, V.plain, bytesA_plains]; done) | rfl)
theorem eInside_4 (a s : Int) (h : Heap) : Den FF E4 27 [.int .i64 a, .int .i64 s] h = some (.val (.bool (insideB a s)), none) := den_plain (sp := tInside) h rfl (by rfl) (by first | (simp [V.plains, V.plain, bytesA_plains]; done) | rfl)
theorem eNumber_4 (a s : Int) (h : Heap) : Den FF E4 26 [.int .i64 a, .int .i64 s] h = some (.val (.bool (numberB a s)), none) := den_plain (sp := tNumber) h rfl (by rfl) (by first | (simp [V.plains, V.plain, bytesA_plains]; done) | rfl)
theorem ePgGet_4 {p : List UInt8} (hp : p.length = 64) (a s : Int) (h : Heap) : Den FF E4 23 [.agg (bytesA p), .int .i64 a, .int .i64 s] h = some (.val (.int .i64 (pgGet p a s)), none) := den_plain (sp := tPgGet) h rfl (by simp [tPgGet, pageOf_bytes hp]) (by first | (simp [V.plains, V.plain, bytesA_plains]; done) | rfl)
theorem ePgText_4 {p : List UInt8} (hp : p.length = 64) {a : Int} (ha : a < 64) (s : Int) (h : Heap) : Den FF E4 24 [.agg (bytesA p), .int .i64 a, .int .i64 s] h = some (.val (.str (pgText p a s)), none) := den_plain (sp := tPgText) h rfl (by simp [tPgText, pageOf_bytes hp, ha]) (by first | (simp [V.plains, V.plain, bytesA_plains]; done) | rfl)
theorem ePgSetText_4 {p : List UInt8} (hp : p.length = 64) {a : Int} (ha : a < 64) (s : List UInt8) (h : Heap) : Den FF E4 22 [.agg (bytesA p), .int .i64 a, .str s] h = some (.val (.agg (bytesA (pgSetText p a s))), none) := den_plain (sp := tPgSetText) h rfl (by simp [tPgSetText, pageOf_bytes hp, ha]) (by first | (simp [V.plains, V.plain, bytesA_plains]; done) | rfl)
theorem ePgSet_4 {p : List UInt8} (hp : p.length = 64) (a s x : Int) (h : Heap) : Den FF E4 21 [.agg (bytesA p), .int .i64 a, .int .i64 s, .int .i64 x] h = some (.val (.agg (bytesA (pgSet p a s x))), none) := den_plain (sp := tPgSet) h rfl (by simp [tPgSet, pageOf_bytes hp]) (by first | (simp [V.plains, V.plain, bytesA_plains]; done) | rfl)
theorem eHas_4 (i : Int) (h : Heap) : Den FF E4 20 [.int .i64 i] h = some (.val (.bool (decide (0 ≤ i) && decide (i < 4))), none) := den_plain (sp := tHas) h rfl (by rfl) (by first | (simp [V.plains, V.plain, bytesA_plains]; done) | rfl)
theorem eCheck_4 (s : List UInt8) (h : Heap) : Den FF E4 9 [.str s] h = some (.val (.int .i64 (checkN s)), none) := den_plain (sp := tCheck) h rfl (by rfl) (by first | (simp [V.plains, V.plain, bytesA_plains]; done) | rfl)
theorem eRCheck_4 (s : List UInt8) (h : Heap) : Den FF E4 10 [.str s] h = some (.val (.int .i64 (checkN s)), none) := den_plain (sp := tCheck) h rfl (by rfl) (by first | (simp [V.plains, V.plain, bytesA_plains]; done) | rfl)
theorem eRight_4 (i : Int) (s : List UInt8) (h : Heap) : Den FF E4 11 [.agg [.int .i64 i, .str s]] h = some (.val (.bool (rightB i s)), none) := den_plain (sp := tRight) h rfl (by rfl) (by first | (simp [V.plains, V.plain, bytesA_plains]; done) | rfl)
theorem eRRight_4 (i : Int) (s : List UInt8) (h : Heap) : Den FF E4 12 [.agg [.int .i64 i, .str s]] h = some (.val (.bool (rightB i s)), none) := den_plain (sp := tRight) h rfl (by rfl) (by first | (simp [V.plains, V.plain, bytesA_plains]; done) | rfl)
end Go.Proofs.Ytabnocdebldpmaa

/- Slots: entries in pages. -/
namespace Go.Proofs.Ytabnocdebldpmaa
open Go AM
set_option linter.unusedSimpArgs false
set_option linter.unusedVariables false
set_option maxRecDepth 100000

/-- The 16 bytes of an entry. -/
def slotB (i : Int) (s : List UInt8) : List UInt8 := tobeI 2 i ++ (tobeI 1 (s.length : Int) ++ (s ++ zs (13 - s.length)))
theorem slotB_length {i : Int} {s : List UInt8} (h : s.length ≤ 13) : (slotB i s).length = 16 := by
  simp only [slotB, List.length_append, tobeI_length, zs_length]; omega
def goodB (i : Int) (s : List UInt8) : Bool := rightB i s || (i == 0 && s == [])
theorem good_len {i : Int} {s : List UInt8} (h : goodB i s = true) : s.length ≤ 13 := by
  unfold goodB rightB checkN at h
  simp only [Bool.or_eq_true, Bool.and_eq_true, beq_iff_eq] at h
  rcases h with ⟨_, h⟩ | ⟨_, h⟩
  · split at h
    · cases h
    · split at h
      · cases h
      · rename_i h2; simp only [decide_eq_true_eq] at h2; omega
  · subst h; simp
def slotPut (p : List UInt8) (i n : Int) (s : List UInt8) : List UInt8 := if (decide (0 ≤ i) && decide (i < 4) && goodB n s) = true then lay p (16 * i.toNat) (slotB n s) else p
theorem slotPut_length {p : List UInt8} (hp : p.length = 64) (i n : Int) (s : List UInt8) : (slotPut p i n s).length = 64 := by
  unfold slotPut
  split
  · rename_i h
    simp only [Bool.and_eq_true, decide_eq_true_eq] at h
    rw [lay_length (by rw [slotB_length (good_len h.2)]; omega), hp]
  · exact hp

theorem lay4 {p s : List UInt8} {i : Nat} {n : Int} (hp : p.length = 64) (hi : i < 4) (hs : s.length ≤ 13) :
    pgSetText (pgSet (pgSet (lay p (16 * i) (zs 16)) (16 * (i : Int)) 2 n) (16 * (i : Int) + 2) 1 (s.length : Int)) (16 * (i : Int) + 3) s = lay p (16 * i) (slotB n s) := by
  have n1 : numberB (16 * (i : Int)) 2 = true := by simp only [numberB, insideB, Bool.and_eq_true, decide_eq_true_eq]; omega
  have n2 : numberB (16 * (i : Int) + 2) 1 = true := by simp only [numberB, insideB, Bool.and_eq_true, decide_eq_true_eq]; omega
  have n3 : insideB (16 * (i : Int) + 3) (s.length : Int) = true := by simp only [insideB, Bool.and_eq_true, decide_eq_true_eq]; omega
  have e1 : (16 * (i : Int)).toNat = 16 * i := by omega
  have e2 : (16 * (i : Int) + 2).toNat = 16 * i + 2 := by omega
  have e3 : (16 * (i : Int) + 3).toNat = 16 * i + 3 := by omega
  unfold pgSetText pgSet
  rw [if_pos n1, if_pos n2, if_pos n3, e1, e2, e3]
  have l0 : (lay p (16 * i) (zs 16)).length = 64 := by rw [lay_length (by rw [zs_length]; omega), hp]
  have l1 : (lay (lay p (16 * i) (zs 16)) (16 * i) (tobeI (Int.toNat 2) n)).length = 64 := by rw [lay_length (by rw [tobeI_length, l0]; simp; omega), l0]
  have l2 : (lay (lay (lay p (16 * i) (zs 16)) (16 * i) (tobeI (Int.toNat 2) n)) (16 * i + 2) (tobeI (Int.toNat 1) (s.length : Int))).length = 64 := by rw [lay_length (by rw [tobeI_length, l1]; simp; omega), l1]
  apply List.ext_getElem?
  intro k
  rw [lay_get (by rw [l2]; omega), lay_get (by rw [tobeI_length, l1]; simp; omega), lay_get (by rw [tobeI_length, l0]; simp; omega), lay_get (by rw [zs_length]; omega), lay_get (by rw [slotB_length hs]; omega)]
  simp only [tobeI_length, zs_length, slotB_length hs]
  have t2 : Int.toNat 2 = 2 := rfl
  have t1 : Int.toNat 1 = 1 := rfl
  rw [t2, t1]
  by_cases hk : 16 * i ≤ k ∧ k < 16 * i + 16
  · simp only [if_pos hk]
    obtain ⟨j, rfl⟩ : ∃ j, k = 16 * i + j := ⟨k - 16 * i, by omega⟩
    have hj : j < 16 := by omega
    simp only [Nat.add_sub_cancel_left]
    unfold slotB
    by_cases h2 : j < 2
    · rw [if_neg (by omega), if_neg (by omega), if_pos (by omega), List.getElem?_append_left (by rw [tobeI_length]; omega)]
    · rw [List.getElem?_append_right (by rw [tobeI_length]; omega), tobeI_length]
      by_cases h3 : j < 3
      · rw [if_neg (by omega), if_pos (by omega), List.getElem?_append_left (by rw [tobeI_length]; omega)]
        congr 1; omega
      · rw [List.getElem?_append_right (by rw [tobeI_length]; omega), tobeI_length]
        by_cases h4 : j < 3 + s.length
        · rw [if_pos (by omega), List.getElem?_append_left (by omega)]
          congr 1; omega
        · rw [if_neg (by omega), if_neg (by omega), if_neg (by omega), List.getElem?_append_right (by omega), zs_get (by omega), zs_get (by omega)]
  · rw [if_neg (by omega), if_neg (by omega), if_neg (by omega), if_neg (by omega), if_neg hk]

def tPut : Ans
  | [v, .int .i64 i, .agg [.int .i64 n, .str s]] => (pageOf 64 v).map fun p => .agg (bytesA (slotPut p i n s))
  | _ => none
theorem okPut : SpOk FF E4 13 tPut := by
  intro args v h hpl
  unfold tPut at h
  split at h
  · rename_i v0 i n s
    simp only [Option.map_eq_some_iff] at h
    obtain ⟨p, hpg, rfl⟩ := h
    obtain ⟨rfl, hp⟩ := of_pageOf hpg
    refine ⟨by simp [V.plain, bytesA_plains], _, (?_ : Den FF E4 13 [.agg (bytesA p), .int .i64 i, .agg [.int .i64 n, .str s]] H0 = some (.val (.agg (bytesA (slotPut p i n s))), none))⟩
    refine To.den hxE4 (f := 13) (a := af13) rfl (E4_none rfl) (Nat.le_of_ble_eq_true rfl) ?_
    have hlz := zs_length 64
    by_cases hgo : (decide (0 ≤ i) && decide (i < 4) && goodB n s) = true
    · have hr : slotPut p i n s = lay p (16 * i.toNat) (slotB n s) := by unfold slotPut; rw [if_pos hgo]
      simp only [Bool.and_eq_true] at hgo
      obtain ⟨⟨hi1, hi2⟩, hg⟩ := hgo
      have hs := good_len hg
      have hi1' := of_decide_eq_true hi1
      have hi2' := of_decide_eq_true hi2
      obtain ⟨j, rfl⟩ : ∃ j : Nat, i = (j : Int) := ⟨i.toNat, by omega⟩
      have hj : j < 4 := by omega
      have hcond : ∀ S : Nat → V, (rightB n s = true ∨ (rightB n s = false ∧ (n == 0 && s == []) = true)) := by
        intro _
        unfold goodB at hg
        cases hq : rightB n s
        · rw [hq, Bool.false_or] at hg; exact .inr ⟨rfl, hg⟩
        · exact .inl rfl
      have w0 : IntKind.i64.wrap ((j : Int) * 16) = 16 * (j : Int) := by rw [wrap_i64 (by omega) (by omega)]; omega
      have w1 : IntKind.i64.wrap (16 * (j : Int) + 16) = 16 * (j : Int) + 16 := wrap_i64 (by omega) (by omega)
      have w2 : IntKind.i64.wrap (16 * (j : Int) + 2) = 16 * (j : Int) + 2 := wrap_i64 (by omega) (by omega)
      have w3 : IntKind.i64.wrap (16 * (j : Int) + 3) = 16 * (j : Int) + 3 := wrap_i64 (by omega) (by omega)
      have hbd : boundsA 64 64 (some (.int .i64 (16 * (j : Int)))) (some (.int .i64 (16 * (j : Int) + 16))) = some (16 * j, 16 * j + 16) := by
        have := bounds_mn (len := 64) (m := 16 * j) (n := 16) (by omega)
        have e1 : ((16 * j : Nat) : Int) = 16 * (j : Int) := by omega
        rw [e1] at this
        exact this
      have hsl := sl_fin (l := 0) (m := 16 * j) (n := 16) (len := 64) (by omega)
      have h30 : 16 * (j : Int) + 3 < 64 := by omega
      -- the pages on the way
      generalize hq0 : lay p (16 * j) (zs 16) = q0
      have l0 : q0.length = 64 := by rw [← hq0, lay_length (by rw [zs_length]; omega), hp]
      generalize hq1 : pgSet q0 (16 * (j : Int)) 2 n = q1
      have l1 : q1.length = 64 := by rw [← hq1]; exact pgSet_length l0 _ _ _
      generalize hq2 : pgSet q1 (16 * (j : Int) + 2) 1 (s.length : Int) = q2
      have l2 : q2.length = 64 := by rw [← hq2]; exact pgSet_length l1 _ _ _
      generalize hq3 : pgSetText q2 (16 * (j : Int) + 3) s = q3
      have l3 : q3.length = 64 := by rw [← hq3]; exact pgSetText_length l2 _ _
      have hfin : q3 = slotPut p j n s := by
        rw [← hq3, ← hq2, ← hq1, ← hq0, lay4 hp hj hs, hr, Int.toNat_natCast]
      rw [← hfin]
      have c1 := fun h => ePgSet_4 l0 (16 * (j : Int)) 2 n h
      have c2 := fun h => ePgSet_4 l1 (16 * (j : Int) + 2) 1 (s.length : Int) h
      have c3 := fun h => ePgSetText_4 l2 h30 s h
      rw [hq1] at c1
      rw [hq2] at c2
      rw [hq3] at c3
      have st0 := fun t u x d => sets_bytes (o := [.cells .ex t 0 (bytesA p), .cells .ex u 0 [.int .i64 n, .str s], .cells .ex x 0 (bytesA (zs 64))]) (e := 0) (d := d) (l := 0) (i := 16 * j) (s := zs 16) rfl (by decide) (by rw [zs_length]; omega)
      rw [hq0] at st0
      have g0 := fun t u x d => gets_all (o := [.cells .ex t 0 (bytesA q0), .cells .ex u 0 [.int .i64 n, .str s], .cells .ex x 0 (bytesA (zs 64))]) (e := 0) (d := d) (l := 0) (n := 64) rfl (by rw [bytesA_length, l0])
      have st1 := fun t u x d => sets_bytes (o := [.cells .ex t 0 (bytesA q0), .cells .ex u 0 [.int .i64 n, .str s], .cells .ex x 0 (bytesA (zs 64))]) (e := 0) (d := d) (l := 0) (i := 0) (s := q1) rfl (by decide) (by rw [l0, l1]; decide)
      rw [lay_all (by rw [l0, l1])] at st1
      have g1 := fun t u x d => gets_all (o := [.cells .ex t 0 (bytesA q1), .cells .ex u 0 [.int .i64 n, .str s], .cells .ex x 0 (bytesA (zs 64))]) (e := 0) (d := d) (l := 0) (n := 64) rfl (by rw [bytesA_length, l1])
      have st2 := fun t u x d => sets_bytes (o := [.cells .ex t 0 (bytesA q1), .cells .ex u 0 [.int .i64 n, .str s], .cells .ex x 0 (bytesA (zs 64))]) (e := 0) (d := d) (l := 0) (i := 0) (s := q2) rfl (by decide) (by rw [l1, l2]; decide)
      rw [lay_all (by rw [l1, l2])] at st2
      have g2 := fun t u x d => gets_all (o := [.cells .ex t 0 (bytesA q2), .cells .ex u 0 [.int .i64 n, .str s], .cells .ex x 0 (bytesA (zs 64))]) (e := 0) (d := d) (l := 0) (n := 64) rfl (by rw [bytesA_length, l2])
      have st3 := fun t u x d => sets_bytes (o := [.cells .ex t 0 (bytesA q2), .cells .ex u 0 [.int .i64 n, .str s], .cells .ex x 0 (bytesA (zs 64))]) (e := 0) (d := d) (l := 2) (i := 0) (s := q3) rfl (by decide) (by rw [hlz, l3]; decide)
      rw [lay_all (by rw [hlz, l3])] at st3
      have g3 := fun t u x d => gets_all (o := [.cells .ex t 0 (bytesA q2), .cells .ex u 0 [.int .i64 n, .str s], .cells .ex x 0 (bytesA q3)]) (e := 0) (d := d) (l := 2) (n := 64) rfl (by rw [bytesA_length, l3])
      have gE : ∀ t u x d, (⟨[.cells .ex t 0 (bytesA p), .cells .ex u 0 [.int .i64 n, .str s], .cells .ex x 0 (bytesA (zs 64))], 0, d⟩ : Heap).gets 1 0 2 = some [.int .i64 n, .str s] := fun _ _ _ _ => rfl
      rcases hcond (initS []) with hc | ⟨hc, hc2⟩
      · refine To.of (by simp only [go_sem, eqs hxE4, reduceIte, Nat.reduceEqDiff, Nat.reduceAdd, Nat.reduceMul, Nat.reduceLT, Nat.reduceLeDiff, Int.reduceLT, Int.reduceLE, Int.reduceEq, reduceCtorEq, Int.reduceBEq, Int.reduceBNe, Int.reduceToNat, Nat.reduceSub, Nat.reduceDiv, Int.reduceNeg, Int.reduceAdd, Int.reduceSub, Int.reduceMul, af13, eHas_4, eRight_4, z64_eq, hi1, hi2, hc, Bool.not_true, Bool.not_false, gE, Heap.get, w0, w1, w2, w3, hbd, hsl, bytesA_length, hp, l0, l1, l2, l3, reps_zero, st0, g0, c1, st1, g1, c2, st2, g2, c3, st3]; rfl) ?_
        simp only [go_sem, eqs hxE4, reduceIte, Nat.reduceEqDiff, Nat.reduceAdd, Nat.reduceMul, Nat.reduceLT, Nat.reduceLeDiff, Int.reduceLT, Int.reduceLE, Int.reduceEq, reduceCtorEq, Int.reduceBEq, Int.reduceBNe, Int.reduceToNat, Nat.reduceSub, Nat.reduceDiv, Int.reduceNeg, Int.reduceAdd, Int.reduceSub, Int.reduceMul, af13, g3]
      · refine To.of (by simp only [go_sem, eqs hxE4, reduceIte, Nat.reduceEqDiff, Nat.reduceAdd, Nat.reduceMul, Nat.reduceLT, Nat.reduceLeDiff, Int.reduceLT, Int.reduceLE, Int.reduceEq, reduceCtorEq, Int.reduceBEq, Int.reduceBNe, Int.reduceToNat, Nat.reduceSub, Nat.reduceDiv, Int.reduceNeg, Int.reduceAdd, Int.reduceSub, Int.reduceMul, af13, eHas_4, eRight_4, z64_eq, hi1, hi2, hc, hc2, Bool.not_true, Bool.not_false, eqKs_entry, gE, Heap.get, w0, w1, w2, w3, hbd, hsl, bytesA_length, hp, l0, l1, l2, l3, reps_zero, st0, g0, c1, st1, g1, c2, st2, g2, c3, st3]; rfl) ?_
        simp only [go_sem, eqs hxE4, reduceIte, Nat.reduceEqDiff, Nat.reduceAdd, Nat.reduceMul, Nat.reduceLT, Nat.reduceLeDiff, Int.reduceLT, Int.reduceLE, Int.reduceEq, reduceCtorEq, Int.reduceBEq, Int.reduceBNe, Int.reduceToNat, Nat.reduceSub, Nat.reduceDiv, Int.reduceNeg, Int.reduceAdd, Int.reduceSub, Int.reduceMul, af13, g3]
    · have hr : slotPut p i n s = p := by unfold slotPut; rw [if_neg hgo]
      have g0 := fun t u x d => gets_all (o := [.cells .ex t 0 (bytesA p), .cells .ex u 0 [.int .i64 n, .str s], .cells .ex x 0 (bytesA (zs 64))]) (e := 0) (d := d) (l := 0) (n := 64) rfl (by rw [bytesA_length, hp])
      have st3 := fun t u x d => sets_bytes (o := [.cells .ex t 0 (bytesA p), .cells .ex u 0 [.int .i64 n, .str s], .cells .ex x 0 (bytesA (zs 64))]) (e := 0) (d := d) (l := 2) (i := 0) (s := p) rfl (by decide) (by rw [hlz, hp]; decide)
      have hlay : lay (zs 64) 0 p = p := lay_all (by rw [hlz, hp])
      have g3 := fun t u x d => gets_all (o := [.cells .ex t 0 (bytesA p), .cells .ex u 0 [.int .i64 n, .str s], .cells .ex x 0 (bytesA p)]) (e := 0) (d := d) (l := 2) (n := 64) rfl (by rw [bytesA_length, hp])
      rw [hr]
      cases hi : (decide (0 ≤ i) && decide (i < 4))
      · refine To.of (by simp only [go_sem, eqs hxE4, reduceIte, Nat.reduceEqDiff, Nat.reduceAdd, Nat.reduceMul, Nat.reduceLT, Nat.reduceLeDiff, Int.reduceLT, Int.reduceLE, Int.reduceEq, reduceCtorEq, Int.reduceBEq, Int.reduceBNe, Int.reduceToNat, Nat.reduceSub, Nat.reduceDiv, Int.reduceNeg, Int.reduceAdd, Int.reduceSub, Int.reduceMul, af13, eHas_4, eRight_4, z64_eq, hi, Bool.not_true, Bool.not_false, g0, bytesA_length, hp, st3, hlay]; rfl) ?_
        simp only [go_sem, eqs hxE4, reduceIte, Nat.reduceEqDiff, Nat.reduceAdd, Nat.reduceMul, Nat.reduceLT, Nat.reduceLeDiff, Int.reduceLT, Int.reduceLE, Int.reduceEq, reduceCtorEq, Int.reduceBEq, Int.reduceBNe, Int.reduceToNat, Nat.reduceSub, Nat.reduceDiv, Int.reduceNeg, Int.reduceAdd, Int.reduceSub, Int.reduceMul, af13, g3]
      · have hg : goodB n s = false := by
          rw [hi, Bool.true_and] at hgo
          simpa using hgo
        unfold goodB at hg
        simp only [Bool.or_eq_false_iff] at hg
        obtain ⟨hc, hc2⟩ := hg
        have g1 : ∀ t u x d, (⟨[.cells .ex t 0 (bytesA p), .cells .ex u 0 [.int .i64 n, .str s], .cells .ex x 0 (bytesA (zs 64))], 0, d⟩ : Heap).gets 1 0 2 = some [.int .i64 n, .str s] := fun _ _ _ _ => rfl
        refine To.of (by simp only [go_sem, eqs hxE4, reduceIte, Nat.reduceEqDiff, Nat.reduceAdd, Nat.reduceMul, Nat.reduceLT, Nat.reduceLeDiff, Int.reduceLT, Int.reduceLE, Int.reduceEq, reduceCtorEq, Int.reduceBEq, Int.reduceBNe, Int.reduceToNat, Nat.reduceSub, Nat.reduceDiv, Int.reduceNeg, Int.reduceAdd, Int.reduceSub, Int.reduceMul, af13, eHas_4, eRight_4, z64_eq, hi, hc, hc2, Bool.not_true, Bool.not_false, eqKs_entry, g0, g1, bytesA_length, hp, st3, hlay]; rfl) ?_
        simp only [go_sem, eqs hxE4, reduceIte, Nat.reduceEqDiff, Nat.reduceAdd, Nat.reduceMul, Nat.reduceLT, Nat.reduceLeDiff, Int.reduceLT, Int.reduceLE, Int.reduceEq, reduceCtorEq, Int.reduceBEq, Int.reduceBNe, Int.reduceToNat, Nat.reduceSub, Nat.reduceDiv, Int.reduceNeg, Int.reduceAdd, Int.reduceSub, Int.reduceMul, af13, g3]
  · cases h
end Go.Proofs.Ytabnocdebldpmaa

/- Slots: what stands in a page. -/
namespace Go.Proofs.Ytabnocdebldpmaa
open Go AM
set_option linter.unusedSimpArgs false
set_option linter.unusedVariables false
set_option maxRecDepth 100000
def g5 : Nat → Option Ans := addG g4 [(13, tPut)]
def E5 : ExtF := plainExt g5
theorem hxE5 : ExtMono E5 := plainExt_mono g5
theorem sndE5 : ExtSound Try.prog E5 := addG_sound mixed ffok sndE4 (by
  intro p hp
  simp only [List.mem_cons, List.not_mem_nil, or_false] at hp
  rcases hp with rfl
  · exact okPut)
theorem E5_none {f : Nat} (h : g5 f = none) (c : CallF) : E5 c f = none := plainExt_none h c
theorem eContains_5 (s : List UInt8) (c : UInt8) (h : Heap) : Den FF E5 19 [.str s, .str [c]] h = some (.val (.bool (s.contains c)), none) := den_plain (sp := tContains) h rfl (by rfl) (by first | (simp [V.plains, V.plain, bytesA_plains]; done) | rfl)
theorem eInside_5 (a s : Int) (h : Heap) : Den FF E5 27 [.int .i64 a, .int .i64 s] h = some (.val (.bool (insideB a s)), none) := den_plain (sp := tInside) h rfl (by rfl) (by first | (simp [V.plains, V.plain, bytesA_plains]; done) | rfl)
theorem eNumber_5 (a s : Int) (h : Heap) : Den FF E5 26 [.int .i64 a, .int .i64 s] h = some (.val (.bool (numberB a s)), none) := den_plain (sp := tNumber) h rfl (by rfl) (by first | (simp [V.plains, V.plain, bytesA_plains]; done) | rfl)
theorem ePgGet_5 {p : List UInt8} (hp : p.length = 64) (a s : Int) (h : Heap) : Den FF E5 23 [.agg (bytesA p), .int .i64 a, .int .i64 s] h = some (.val (.int .i64 (pgGet p a s)), none) := den_plain (sp := tPgGet) h rfl (by simp [tPgGet, pageOf_bytes hp]) (by first | (simp [V.plains, V.plain, bytesA_plains]; done) | rfl)
theorem ePgText_5 {p : List UInt8} (hp : p.length = 64) {a : Int} (ha : a < 64) (s : Int) (h : Heap) : Den FF E5 24 [.agg (bytesA p), .int .i64 a, .int .i64 s] h = some (.val (.str (pgText p a s)), none) := den_plain (sp := tPgText) h rfl (by simp [tPgText, pageOf_bytes hp, ha]) (by first | (simp [V.plains, V.plain, bytesA_plains]; done) | rfl)
theorem ePgSetText_5 {p : List UInt8} (hp : p.length = 64) {a : Int} (ha : a < 64) (s : List UInt8) (h : Heap) : Den FF E5 22 [.agg (bytesA p), .int .i64 a, .str s] h = some (.val (.agg (bytesA (pgSetText p a s))), none) := den_plain (sp := tPgSetText) h rfl (by simp [tPgSetText, pageOf_bytes hp, ha]) (by first | (simp [V.plains, V.plain, bytesA_plains]; done) | rfl)
theorem ePgSet_5 {p : List UInt8} (hp : p.length = 64) (a s x : Int) (h : Heap) : Den FF E5 21 [.agg (bytesA p), .int .i64 a, .int .i64 s, .int .i64 x] h = some (.val (.agg (bytesA (pgSet p a s x))), none) := den_plain (sp := tPgSet) h rfl (by simp [tPgSet, pageOf_bytes hp]) (by first | (simp [V.plains, V.plain, bytesA_plains]; done) | rfl)
theorem eHas_5 (i : Int) (h : Heap) : Den FF E5 20 [.int .i64 i] h = some (.val (.bool (decide (0 ≤ i) && decide (i < 4))), none) := den_plain (sp := tHas) h rfl (by rfl) (by first | (simp [V.plains, V.plain, bytesA_plains]; done) | rfl)
theorem eCheck_5 (s : List UInt8) (h : Heap) : Den FF E5 9 [.str s] h = some (.val (.int .i64 (checkN s)), none) := den_plain (sp := tCheck) h rfl (by rfl) (by first | (simp [V.plains, V.plain, bytesA_plains]; done) | rfl)
theorem eRCheck_5 (s : List UInt8) (h : Heap) : Den FF E5 10 [.str s] h = some (.val (.int .i64 (checkN s)), none) := den_plain (sp := tCheck) h rfl (by rfl) (by first | (simp [V.plains, V.plain, bytesA_plains]; done) | rfl)
theorem eRight_5 (i : Int) (s : List UInt8) (h : Heap) : Den FF E5 11 [.agg [.int .i64 i, .str s]] h = some (.val (.bool (rightB i s)), none) := den_plain (sp := tRight) h rfl (by rfl) (by first | (simp [V.plains, V.plain, bytesA_plains]; done) | rfl)
theorem eRRight_5 (i : Int) (s : List UInt8) (h : Heap) : Den FF E5 12 [.agg [.int .i64 i, .str s]] h = some (.val (.bool (rightB i s)), none) := den_plain (sp := tRight) h rfl (by rfl) (by first | (simp [V.plains, V.plain, bytesA_plains]; done) | rfl)
theorem ePut_5 {p : List UInt8} (hp : p.length = 64) (i n : Int) (s : List UInt8) (h : Heap) : Den FF E5 13 [.agg (bytesA p), .int .i64 i, .agg [.int .i64 n, .str s]] h = some (.val (.agg (bytesA (slotPut p i n s))), none) := den_plain (sp := tPut) h rfl (by simp [tPut, pageOf_bytes hp]) (by first | (simp [V.plains, V.plain, bytesA_plains]; done) | rfl)

def cntB (p : List UInt8) (i : Nat) : Nat := ((p[16 * i + 2]?).getD 0).toNat
def getN (p : List UInt8) (i : Nat) : Int := ((be ((p.drop (16 * i)).take 2) : Nat) : Int)
def getS (p : List UInt8) (i : Nat) : List UInt8 := (p.drop (16 * i + 3)).take (min (cntB p i) 13)
def slotGet (p : List UInt8) (i : Int) : V :=
  if (decide (0 ≤ i) && decide (i < 4)) = true then
    (if (goodB (getN p i.toNat) (getS p i.toNat) && slotPut p i (getN p i.toNat) (getS p i.toNat) == p) = true then .tuple [.agg [.int .i64 (getN p i.toNat), .str (getS p i.toNat)], .int .i64 0]
    else .tuple [.agg [.int .i64 0, .str []], .int .i64 5])
  else .tuple [.agg [.int .i64 0, .str []], .int .i64 22]
theorem slotGet_plain (p : List UInt8) (i : Int) : (slotGet p i).plain = true := by
  unfold slotGet; split
  · split <;> rfl
  · rfl
def tGet : Ans
  | [v, .int .i64 i] => (pageOf 64 v).map fun p => slotGet p i
  | _ => none
set_option maxHeartbeats 4000000 in
theorem okGet : SpOk FF E5 14 tGet := by
  intro args v h hpl
  unfold tGet at h
  split at h
  · rename_i v0 i
    simp only [Option.map_eq_some_iff] at h
    obtain ⟨p, hpg, rfl⟩ := h
    obtain ⟨rfl, hp⟩ := of_pageOf hpg
    refine ⟨slotGet_plain p i, _, (?_ : Den FF E5 14 [.agg (bytesA p), .int .i64 i] H0 = some (.val (slotGet p i), none))⟩
    refine To.den hxE5 (f := 14) (a := af14) rfl (E5_none rfl) (Nat.le_of_ble_eq_true rfl) ?_
    cases hi : (decide (0 ≤ i) && decide (i < 4))
    · have hr : slotGet p i = .tuple [.agg [.int .i64 0, .str []], .int .i64 22] := by unfold slotGet; rw [hi]; rfl
      refine To.of (by simp only [go_sem, eqs hxE5, reduceIte, Nat.reduceEqDiff, Nat.reduceAdd, Nat.reduceMul, Nat.reduceLT, Nat.reduceLeDiff, Int.reduceLT, Int.reduceLE, Int.reduceEq, reduceCtorEq, Int.reduceBEq, Int.reduceBNe, Int.reduceToNat, Nat.reduceSub, Nat.reduceDiv, Int.reduceNeg, Int.reduceAdd, Int.reduceSub, Int.reduceMul, af14, eHas_5, hi, Bool.not_true, Bool.not_false, Heap.sets, V.one, CK]; rfl) ?_
      rw [hr]
      simp only [go_sem, eqs hxE5, reduceIte, Nat.reduceEqDiff, Nat.reduceAdd, Nat.reduceMul, Nat.reduceLT, Nat.reduceLeDiff, Int.reduceLT, Int.reduceLE, Int.reduceEq, reduceCtorEq, Int.reduceBEq, Int.reduceBNe, Int.reduceToNat, Nat.reduceSub, Nat.reduceDiv, Int.reduceNeg, Int.reduceAdd, Int.reduceSub, Int.reduceMul, af14, Heap.gets]
    · simp only [Bool.and_eq_true, decide_eq_true_eq] at hi
      obtain ⟨hi1, hi2⟩ := hi
      obtain ⟨j, rfl⟩ : ∃ j : Nat, i = (j : Int) := ⟨i.toNat, by omega⟩
      have hj : j < 4 := by omega
      have hib : (decide (0 ≤ (j : Int)) && decide ((j : Int) < 4)) = true := by simp; omega
      obtain ⟨b, hb⟩ : ∃ b, p[16 * j + 2]? = some b := ⟨p[16 * j + 2]'(by omega), List.getElem?_eq_getElem (by omega)⟩
      have hcnt : cntB p j = b.toNat := by simp [cntB, hb]
      have w0 : IntKind.i64.wrap ((j : Int) * 16) = 16 * (j : Int) := by rw [wrap_i64 (by omega) (by omega)]; omega
      have w2 : IntKind.i64.wrap (16 * (j : Int) + 2) = ((16 * j + 2 : Nat) : Int) := by rw [wrap_i64 (by omega) (by omega)]; omega
      have w3 : IntKind.i64.wrap (16 * (j : Int) + 3) = 16 * (j : Int) + 3 := wrap_i64 (by omega) (by omega)
      have wb : IntKind.i64.wrap (b.toNat : Int) = (b.toNat : Int) := by have := b.toNat_lt; exact wrap_i64 (by omega) (by omega)
      have hmn : (if (13 : Int) < (b.toNat : Int) then (13 : Int) else (b.toNat : Int)) = ((min (cntB p j) 13 : Nat) : Int) := by
        rw [hcnt]; split <;> omega
      have c1 : pgGet p (16 * (j : Int)) 2 = getN p j := by
        have : numberB (16 * (j : Int)) 2 = true := by simp only [numberB, insideB, Bool.and_eq_true, decide_eq_true_eq]; omega
        have e1 : (16 * (j : Int)).toNat = 16 * j := by omega
        simp only [pgGet, this, if_true, e1, getN]; rfl
      have c2 : pgText p (16 * (j : Int) + 3) ((min (cntB p j) 13 : Nat) : Int) = getS p j := by
        have : insideB (16 * (j : Int) + 3) ((min (cntB p j) 13 : Nat) : Int) = true := by simp only [insideB, Bool.and_eq_true, decide_eq_true_eq]; omega
        have e1 : (16 * (j : Int) + 3).toNat = 16 * j + 3 := by omega
        simp only [pgText, this, if_true, e1, getS, Int.toNat_natCast]
      have hix : idxOf 64 (.int .i64 ((16 * j + 2 : Nat) : Int)) = some (16 * j + 2) := idxOf_nat (by omega)
      have q1 := fun h => ePgGet_5 hp (16 * (j : Int)) 2 h
      have q2 := fun h => ePgText_5 hp (a := 16 * (j : Int) + 3) (by omega) ((min (cntB p j) 13 : Nat) : Int) h
      rw [c1] at q1
      rw [c2] at q2
      generalize hn : getN p j = n at *
      generalize hs : getS p j = s at *
      have hr : slotGet p j = if (goodB n s && slotPut p j n s == p) = true then .tuple [.agg [.int .i64 n, .str s], .int .i64 0] else .tuple [.agg [.int .i64 0, .str []], .int .i64 5] := by
        unfold slotGet; rw [if_pos hib, Int.toNat_natCast, hn, hs]
      have q3 := fun h => ePut_5 hp (j : Int) n s h
      have hq3 := slotPut_length hp (j : Int) n s
      have heq := eqKs_page hq3 hp
      have hgt : ∀ t u d e, (⟨[.cells .ex t 0 (bytesA p), .cells .ex u 0 [.int .i64 0, .str []], .dead], e, d⟩ : Heap).gets 0 0 64 = some (bytesA p) := fun t u d e => gets_all rfl (by rw [bytesA_length, hp])
      have hgb : ∀ t u d e, (⟨[.cells .ex t 0 (bytesA p), .cells .ex u 0 [.int .i64 0, .str []], .dead], e, d⟩ : Heap).get 0 (16 * j + 2) = some (.int .u8 (b.toNat : Int)) := fun t u d e => get_bytes rfl hb
      have hgt2 : ∀ t u x y d e, (⟨[.cells .ex t 0 (bytesA p), .cells .ex u 0 [.int .i64 0, .str []], .cells .ex x 0 y], e, d⟩ : Heap).gets 0 0 64 = some (bytesA p) := fun t u x y d e => gets_all rfl (by rw [bytesA_length, hp])
      refine To.sq hxE5 (by simp only [go_sem, eqs hxE5, reduceIte, Nat.reduceEqDiff, Nat.reduceAdd, Nat.reduceMul, Nat.reduceLT, Nat.reduceLeDiff, Int.reduceLT, Int.reduceLE, Int.reduceEq, reduceCtorEq, Int.reduceBEq, Int.reduceBNe, Int.reduceToNat, Nat.reduceSub, Nat.reduceDiv, Int.reduceNeg, Int.reduceAdd, Int.reduceSub, Int.reduceMul]; rfl) ?_
      refine To.sq hxE5 (by simp only [go_sem, eqs hxE5, reduceIte, Nat.reduceEqDiff, Nat.reduceAdd, Nat.reduceMul, Nat.reduceLT, Nat.reduceLeDiff, Int.reduceLT, Int.reduceLE, Int.reduceEq, reduceCtorEq, Int.reduceBEq, Int.reduceBNe, Int.reduceToNat, Nat.reduceSub, Nat.reduceDiv, Int.reduceNeg, Int.reduceAdd, Int.reduceSub, Int.reduceMul, eHas_5, hib, Bool.not_true]; rfl) ?_
      refine To.sq hxE5 (by simp only [go_sem, eqs hxE5, reduceIte, Nat.reduceEqDiff, Nat.reduceAdd, Nat.reduceMul, Nat.reduceLT, Nat.reduceLeDiff, Int.reduceLT, Int.reduceLE, Int.reduceEq, reduceCtorEq, Int.reduceBEq, Int.reduceBNe, Int.reduceToNat, Nat.reduceSub, Nat.reduceDiv, Int.reduceNeg, Int.reduceAdd, Int.reduceSub, Int.reduceMul, w0]; rfl) ?_
      refine To.sq hxE5 (by simp only [go_sem, eqs hxE5, reduceIte, Nat.reduceEqDiff, Nat.reduceAdd, Nat.reduceMul, Nat.reduceLT, Nat.reduceLeDiff, Int.reduceLT, Int.reduceLE, Int.reduceEq, reduceCtorEq, Int.reduceBEq, Int.reduceBNe, Int.reduceToNat, Nat.reduceSub, Nat.reduceDiv, Int.reduceNeg, Int.reduceAdd, Int.reduceSub, Int.reduceMul, hgt, hgb, w2, w3, hix, wb, hmn, q1, q2]; rfl) ?_
      have gE : ∀ t u x d e, (⟨[.cells .ex t 0 (bytesA p), .cells .ex u 0 [.int .i64 0, .str []], .cells .ex x 0 [.int .i64 n, .str s]], e, d⟩ : Heap).gets 2 0 2 = some [.int .i64 n, .str s] := fun _ _ _ _ _ => rfl
      have sE : ∀ t u x d e, (⟨[.cells .ex t 0 (bytesA p), .cells .ex u 0 [.int .i64 0, .str []], .cells .ex x 0 [.int .i64 n, .str s]], e, d⟩ : Heap).sets 1 0 [.int .i64 n, .str s] = some ⟨[.cells .ex t 0 (bytesA p), .cells .ex u 0 [.int .i64 n, .str s], .cells .ex x 0 [.int .i64 n, .str s]], e, min d 1⟩ := fun _ _ _ _ _ => rfl
      have sZ : ∀ t u x d e, (⟨[.cells .ex t 0 (bytesA p), .cells .ex u 0 [.int .i64 0, .str []], .cells .ex x 0 [.int .i64 n, .str s]], e, d⟩ : Heap).sets 1 0 [.int .i64 0, .str []] = some ⟨[.cells .ex t 0 (bytesA p), .cells .ex u 0 [.int .i64 0, .str []], .cells .ex x 0 [.int .i64 n, .str s]], e, min d 1⟩ := fun _ _ _ _ _ => rfl
      rw [hr]
      have hgood : goodB n s = (rightB n s || (n == 0 && s == [])) := rfl
      cases h1 : rightB n s <;> cases h2 : (n == 0 && s == []) <;> cases h3 : (slotPut p j n s == p)
      all_goals
        rw [h1, h2] at hgood
        simp only [Bool.or_true, Bool.or_false, Bool.true_or, Bool.false_or] at hgood
        refine To.seq hxE5 (To.sq hxE5 (by simp only [go_sem, eqs hxE5, reduceIte, Nat.reduceEqDiff, Nat.reduceAdd, Nat.reduceMul, Nat.reduceLT, Nat.reduceLeDiff, Int.reduceLT, Int.reduceLE, Int.reduceEq, reduceCtorEq, Int.reduceBEq, Int.reduceBNe, Int.reduceToNat, Nat.reduceSub, Nat.reduceDiv, Int.reduceNeg, Int.reduceAdd, Int.reduceSub, Int.reduceMul, eRight_5, h1, h2, h3, eqKs_entry, hgt2, gE, q3, heq]; rfl) ?_)
        refine To.of (by simp only [go_sem, eqs hxE5, reduceIte, Nat.reduceEqDiff, Nat.reduceAdd, Nat.reduceMul, Nat.reduceLT, Nat.reduceLeDiff, Int.reduceLT, Int.reduceLE, Int.reduceEq, reduceCtorEq, Int.reduceBEq, Int.reduceBNe, Int.reduceToNat, Nat.reduceSub, Nat.reduceDiv, Int.reduceNeg, Int.reduceAdd, Int.reduceSub, Int.reduceMul, sZ]; rfl) ?_
        simp only [andThen]
        first
        | (simp only [go_sem, eqs hxE5, reduceIte, Nat.reduceEqDiff, Nat.reduceAdd, Nat.reduceMul, Nat.reduceLT, Nat.reduceLeDiff, Int.reduceLT, Int.reduceLE, Int.reduceEq, reduceCtorEq, Int.reduceBEq, Int.reduceBNe, Int.reduceToNat, Nat.reduceSub, Nat.reduceDiv, Int.reduceNeg, Int.reduceAdd, Int.reduceSub, Int.reduceMul, af14, hgood, h3, Heap.gets, Bool.true_and, Bool.and_true, Bool.false_and, Bool.and_false]; done)
        | (refine To.of (by simp only [go_sem, eqs hxE5, reduceIte, Nat.reduceEqDiff, Nat.reduceAdd, Nat.reduceMul, Nat.reduceLT, Nat.reduceLeDiff, Int.reduceLT, Int.reduceLE, Int.reduceEq, reduceCtorEq, Int.reduceBEq, Int.reduceBNe, Int.reduceToNat, Nat.reduceSub, Nat.reduceDiv, Int.reduceNeg, Int.reduceAdd, Int.reduceSub, Int.reduceMul, gE, sE]; rfl) ?_
           simp only [go_sem, eqs hxE5, reduceIte, Nat.reduceEqDiff, Nat.reduceAdd, Nat.reduceMul, Nat.reduceLT, Nat.reduceLeDiff, Int.reduceLT, Int.reduceLE, Int.reduceEq, reduceCtorEq, Int.reduceBEq, Int.reduceBNe, Int.reduceToNat, Nat.reduceSub, Nat.reduceDiv, Int.reduceNeg, Int.reduceAdd, Int.reduceSub, Int.reduceMul, af14, hgood, h3, Heap.gets, Bool.true_and, Bool.and_true, Bool.false_and, Bool.and_false])
  · cases h
end Go.Proofs.Ytabnocdebldpmaa

/- Slots: the document's own functions of slots. -/
namespace Go.Proofs.Ytabnocdebldpmaa
open Go AM
set_option linter.unusedSimpArgs false
set_option linter.unusedVariables false
set_option maxRecDepth 100000

theorem tobeI_two (i : Int) : tobeI 2 i = [byteAt i 1, byteAt i 0] := rfl
theorem tobeI_one (i : Int) : tobeI 1 i = [byteAt i 0] := rfl
theorem byte1 {i : Int} (h : 0 ≤ i) (h2 : i < 65536) : IntKind.u8.wrap (IntKind.i64.wrap (i.tdiv 256)) = ((byteAt i 1).toNat : Int) := by
  have e : i.tdiv 256 = i.fdiv (2 ^ (8 * 1)) := by
    rw [Int.tdiv_eq_ediv_of_nonneg h, Int.fdiv_eq_ediv_of_nonneg _ (by decide)]; rfl
  have hd : i.tdiv 256 = i / 256 := Int.tdiv_eq_ediv_of_nonneg h
  rw [wrap_i64 (by omega) (by omega), e]
  exact wrap_byte _
theorem byte0 {i : Int} (h : 0 ≤ i) : IntKind.u8.wrap (i.tmod 256) = ((byteAt i 0).toNat : Int) := by
  have e : i.tmod 256 = i % 256 := Int.tmod_eq_emod_of_nonneg h
  unfold byteAt
  rw [e, wrap_byte]
  have : (i.fdiv (2 ^ (8 * 0))) % 256 = i % 256 % 256 := by simp
  rw [this]
theorem byteLen {n : Nat} : IntKind.u8.wrap (n : Int) = ((byteAt (n : Int) 0).toNat : Int) := by
  unfold byteAt
  rw [wrap_byte]
  simp

theorem lay_mid (a c : List UInt8) (x b : UInt8) : lay (a ++ x :: c) a.length [b] = a ++ b :: c := by
  simp [lay, List.drop_append]
def slotQ (s : List UInt8) (j : Nat) (B1 B0 Bl : UInt8) : List UInt8 := B1 :: B0 :: Bl :: (s.take j ++ zs (13 - j))
theorem slotQ_step {s : List UInt8} {j : Nat} {b B1 B0 Bl : UInt8} (hj : j < 13) (hb : s[j]? = some b) : lay (slotQ s j B1 B0 Bl) (3 + j) [b] = slotQ s (j + 1) B1 B0 Bl := by
  have hjl := (List.getElem?_eq_some_iff.1 hb).1
  have e1 : zs (13 - j) = 0 :: zs (13 - (j + 1)) := by
    have : 13 - j = (13 - (j + 1)) + 1 := by omega
    rw [this]; rfl
  have e2 : s.take (j + 1) = s.take j ++ [b] := by rw [List.take_add_one, hb]; rfl
  have e3 : (B1 :: B0 :: Bl :: s.take j).length = 3 + j := by simp; omega
  have := lay_mid (B1 :: B0 :: Bl :: s.take j) (zs (13 - (j + 1))) 0 b
  rw [e3] at this
  unfold slotQ
  rw [e1, e2]
  simpa using this
theorem slotQ_length {s : List UInt8} {j : Nat} {B1 B0 Bl : UInt8} (hj : j ≤ s.length) (h13 : s.length ≤ 13) : (slotQ s j B1 B0 Bl).length = 16 := by
  simp [slotQ, zs]; omega

def tSlot : Ans
  | [.agg [.int .i64 i, .str s]] => if 0 ≤ i ∧ i < 65536 ∧ s.length ≤ 13 then some (.agg (bytesA (slotB i s))) else none
  | _ => none
theorem okSlot : SpOk FF E5 16 tSlot := by
  intro args v h hpl
  unfold tSlot at h
  split at h
  · rename_i i s
    split at h
    · rename_i hc
      obtain ⟨hc0, hc1, hc2⟩ := hc
      simp only [Option.some.injEq] at h; subst h
      refine ⟨by simp [V.plain, bytesA_plains], _, (?_ : Den FF E5 16 [.agg [.int .i64 i, .str s]] H0 = some (.val (.agg (bytesA (slotB i s))), none))⟩
      refine To.den hxE5 (f := 16) (a := af16) rfl (E5_none rfl) (Nat.le_of_ble_eq_true rfl) ?_
      have w1 : IntKind.i64.wrap (i.tdiv 256) = i.tdiv 256 := wrap_i64 (by rw [Int.tdiv_eq_ediv_of_nonneg hc0]; omega) (by rw [Int.tdiv_eq_ediv_of_nonneg hc0]; omega)
      have b1 := byte1 hc0 hc1
      rw [w1] at b1
      have b0 := byte0 hc0
      have bl : IntKind.u8.wrap (s.length : Int) = ((byteAt (s.length : Int) 0).toNat : Int) := byteLen
      generalize hB1 : byteAt i 1 = B1 at *
      generalize hB0 : byteAt i 0 = B0 at *
      generalize hBl : byteAt (s.length : Int) 0 = Bl at *
      have h16 := zs_length 16
      have gE : ∀ t u x y z e d, (⟨[.cells .ex t 0 [.int .i64 i, .str s], .cells .ex u 0 y, .cells .ex x 0 z], e, d⟩ : Heap).get 0 0 = some (.int .i64 i) := fun _ _ _ _ _ _ _ => rfl
      have gS : ∀ t u x y z e d, (⟨[.cells .ex t 0 [.int .i64 i, .str s], .cells .ex u 0 y, .cells .ex x 0 z], e, d⟩ : Heap).get 0 1 = some (.str s) := fun _ _ _ _ _ _ _ => rfl
      have st0 : ∀ t u x e d, (⟨[.cells .ex t 0 [.int .i64 i, .str s], .cells .ex u 0 (bytesA (zs 16)), .cells .ex x 0 (bytesA (zs 16))], e, d⟩ : Heap).sets 2 0 (bytesA (zs 16)) = some ⟨[.cells .ex t 0 [.int .i64 i, .str s], .cells .ex u 0 (bytesA (zs 16)), .cells .ex x 0 (bytesA (zs 16))], e, min d 2⟩ := fun _ _ _ _ _ => rfl
      have st1 : ∀ t u x (q : List UInt8) (k : Nat) (b : UInt8) e d, k < q.length → (⟨[.cells .ex t 0 [.int .i64 i, .str s], .cells .ex u 0 (bytesA (zs 16)), .cells .ex x 0 (bytesA q)], e, d⟩ : Heap).sets 2 k [.int .u8 (b.toNat : Int)] = some ⟨[.cells .ex t 0 [.int .i64 i, .str s], .cells .ex u 0 (bytesA (zs 16)), .cells .ex x 0 (bytesA (lay q k [b]))], e, min d 2⟩ := by
        intro t u x q k b e d hk
        have := sets_bytes (o := [.cells .ex t 0 [.int .i64 i, .str s], .cells .ex u 0 (bytesA (zs 16)), .cells .ex x 0 (bytesA q)]) (e := e) (d := d) (l := 2) (i := k) (s := [b]) rfl (by decide) (by simp; omega)
        exact this
      have l1 : (lay (zs 16) 0 [B1]).length = 16 := by rw [lay_length (by simp [zs]), h16]
      have l2 : (lay (lay (zs 16) 0 [B1]) 1 [B0]).length = 16 := by rw [lay_length (by rw [l1]; simp), l1]
      have k0 : 0 < (zs 16).length := by rw [h16]; decide
      have k1 : 1 < (lay (zs 16) 0 [B1]).length := by rw [l1]; decide
      have k2 : 2 < (lay (lay (zs 16) 0 [B1]) 1 [B0]).length := by rw [l2]; decide
      have i0 : idxOf 16 (.int .i64 0) = some 0 := rfl
      have i1 : idxOf 16 (.int .i64 1) = some 1 := rfl
      have i2 : idxOf 16 (.int .i64 2) = some 2 := rfl
      have r0 := st1
      (repeat' (first | refine To.seq hxE5 ?_ | refine To.op0 hxE5 (by simp only [go_sem, eqs hxE5, reduceIte, Nat.reduceEqDiff, Nat.reduceAdd, Nat.reduceMul, Nat.reduceLT, Nat.reduceLeDiff, Int.reduceLT, Int.reduceLE, Int.reduceEq, reduceCtorEq, Int.reduceBEq, Int.reduceBNe, Int.reduceToNat, Nat.reduceSub, Nat.reduceDiv, Int.reduceNeg, Int.reduceAdd, Int.reduceSub, Int.reduceMul, z16_eq, gE, gS, st0, w1, b1, b0, bl, i0, i1, i2, st1, k0, k1, k2, bytesA_length, h16]; rfl) ?_ | refine To.op1 hxE5 (by simp only [go_sem, eqs hxE5, reduceIte, Nat.reduceEqDiff, Nat.reduceAdd, Nat.reduceMul, Nat.reduceLT, Nat.reduceLeDiff, Int.reduceLT, Int.reduceLE, Int.reduceEq, reduceCtorEq, Int.reduceBEq, Int.reduceBNe, Int.reduceToNat, Nat.reduceSub, Nat.reduceDiv, Int.reduceNeg, Int.reduceAdd, Int.reduceSub, Int.reduceMul, z16_eq, gE, gS, st0, w1, b1, b0, bl, i0, i1, i2, st1, k0, k1, k2, bytesA_length, h16]; rfl) ?_ | refine To.nop hxE5 ?_ | (refine To.condT hxE5 ?_ ?_; focus (simp only [go_sem, eqs hxE5, reduceIte, Nat.reduceEqDiff, Nat.reduceAdd, Nat.reduceMul, Nat.reduceLT, Nat.reduceLeDiff, Int.reduceLT, Int.reduceLE, Int.reduceEq, reduceCtorEq, Int.reduceBEq, Int.reduceBNe, Int.reduceToNat, Nat.reduceSub, Nat.reduceDiv, Int.reduceNeg, Int.reduceAdd, Int.reduceSub, Int.reduceMul, z16_eq, gE, gS, st0, w1, b1, b0, bl, i0, i1, i2, st1, k0, k1, k2, bytesA_length, h16]; done)) | (refine To.condF hxE5 ?_ ?_; focus (simp only [go_sem, eqs hxE5, reduceIte, Nat.reduceEqDiff, Nat.reduceAdd, Nat.reduceMul, Nat.reduceLT, Nat.reduceLeDiff, Int.reduceLT, Int.reduceLE, Int.reduceEq, reduceCtorEq, Int.reduceBEq, Int.reduceBNe, Int.reduceToNat, Nat.reduceSub, Nat.reduceDiv, Int.reduceNeg, Int.reduceAdd, Int.reduceSub, Int.reduceMul, z16_eq, gE, gS, st0, w1, b1, b0, bl, i0, i1, i2, st1, k0, k1, k2, bytesA_length, h16]; done)) | refine To.block hxE5 ?_ | refine To.scope hxE5 ?_ | refine To.ret hxE5 ?_ | refine To.exit hxE5 ?_ | refine To.skip hxE5 ?_ | refine To.label hxE5 ?_ | refine To.draw0 hxE5 ?_ | refine ToD.op0 (by simp only [go_sem, eqs hxE5, reduceIte, Nat.reduceEqDiff, Nat.reduceAdd, Nat.reduceMul, Nat.reduceLT, Nat.reduceLeDiff, Int.reduceLT, Int.reduceLE, Int.reduceEq, reduceCtorEq, Int.reduceBEq, Int.reduceBNe, Int.reduceToNat, Nat.reduceSub, Nat.reduceDiv, Int.reduceNeg, Int.reduceAdd, Int.reduceSub, Int.reduceMul, z16_eq, gE, gS, st0, w1, b1, b0, bl, i0, i1, i2, st1, k0, k1, k2, bytesA_length, h16]; rfl) (by simp only [put_some, put_none]; rfl) ?_ | refine ToD.op1 (by simp only [go_sem, eqs hxE5, reduceIte, Nat.reduceEqDiff, Nat.reduceAdd, Nat.reduceMul, Nat.reduceLT, Nat.reduceLeDiff, Int.reduceLT, Int.reduceLE, Int.reduceEq, reduceCtorEq, Int.reduceBEq, Int.reduceBNe, Int.reduceToNat, Nat.reduceSub, Nat.reduceDiv, Int.reduceNeg, Int.reduceAdd, Int.reduceSub, Int.reduceMul, z16_eq, gE, gS, st0, w1, b1, b0, bl, i0, i1, i2, st1, k0, k1, k2, bytesA_length, h16]; rfl) (by simp only [put_some, put_none]; rfl) (by simp only [KD.app, go_sem, eqs hxE5, reduceIte, Nat.reduceEqDiff, Nat.reduceAdd, Nat.reduceMul, Nat.reduceLT, Nat.reduceLeDiff, Int.reduceLT, Int.reduceLE, Int.reduceEq, reduceCtorEq, Int.reduceBEq, Int.reduceBNe, Int.reduceToNat, Nat.reduceSub, Nat.reduceDiv, Int.reduceNeg, Int.reduceAdd, Int.reduceSub, Int.reduceMul, z16_eq, gE, gS, st0, w1, b1, b0, bl, i0, i1, i2, st1, k0, k1, k2, bytesA_length, h16]; rfl) ?_ | refine ToD.nop ?_ | refine To.draw hxE5 (by decide) ?_))
      have hq0 : lay (lay (lay (zs 16) 0 [B1]) 1 [B0]) 2 [Bl] = slotQ s 0 B1 B0 Bl := by simp [slotQ]; rfl
      rw [hq0]
      have hres : slotB i s = slotQ s s.length B1 B0 Bl := by
        unfold slotB slotQ
        rw [tobeI_two, tobeI_one, hB1, hB0, hBl, List.take_length]
        rfl
      rw [hres]
      refine To.loop hxE5 (fun k S h' => ∃ t u x, ∃ j, j + k = s.length ∧ h' = ⟨[.cells .ex t 0 [.int .i64 i, .str s], .cells .ex u 0 (bytesA (zs 16)), .cells .ex x 0 (bytesA (slotQ s j B1 B0 Bl))], 0, 0⟩ ∧ S 1 = .ptr 0 0 ∧ S 2 = .ptr 1 0 ∧ S 3 = .ptr 2 0 ∧ S 4 = .int .i64 (j : Int)) ?_ s.length _ _ ?_
      · rintro k S _ ⟨t, u, x, j, hk, rfl, h1, h2, h3, h4⟩
        by_cases hj : j < s.length
        · have hlt : decide ((j : Int) < (s.length : Int)) = true := by simp; omega
          obtain ⟨b, hb⟩ : ∃ b, s[j]? = some b := ⟨s[j], List.getElem?_eq_getElem hj⟩
          have hix : idxOf s.length (.int .i64 (j : Int)) = some j := idxOf_nat hj
          have w1 : IntKind.i64.wrap ((j : Int) + 1) = ((j + 1 : Nat) : Int) := by rw [wrap_i64 (by omega) (by omega)]; omega
          have w2 : IntKind.i64.wrap (3 + (j : Int)) = ((3 + j : Nat) : Int) := by rw [wrap_i64 (by omega) (by omega)]; omega
          have hi3 : idxOf 16 (.int .i64 ((3 + j : Nat) : Int)) = some (3 + j) := idxOf_nat (by omega)
          have hl := slotQ_length (B1 := B1) (B0 := B0) (Bl := Bl) (Nat.le_of_lt hj) hc2
          have hst := fun e d => st1 t u x (slotQ s j B1 B0 Bl) (3 + j) b e d (by rw [hl]; omega)
          rw [slotQ_step (by omega) hb] at hst
          (repeat' (first | refine To.seq hxE5 ?_ | refine To.op0 hxE5 (by simp only [go_sem, eqs hxE5, reduceIte, Nat.reduceEqDiff, Nat.reduceAdd, Nat.reduceMul, Nat.reduceLT, Nat.reduceLeDiff, Int.reduceLT, Int.reduceLE, Int.reduceEq, reduceCtorEq, Int.reduceBEq, Int.reduceBNe, Int.reduceToNat, Nat.reduceSub, Nat.reduceDiv, Int.reduceNeg, Int.reduceAdd, Int.reduceSub, Int.reduceMul, h1, h2, h3, h4, gS, hlt, hix, hb, w1, w2, hi3, hst]; rfl) ?_ | refine To.op1 hxE5 (by simp only [go_sem, eqs hxE5, reduceIte, Nat.reduceEqDiff, Nat.reduceAdd, Nat.reduceMul, Nat.reduceLT, Nat.reduceLeDiff, Int.reduceLT, Int.reduceLE, Int.reduceEq, reduceCtorEq, Int.reduceBEq, Int.reduceBNe, Int.reduceToNat, Nat.reduceSub, Nat.reduceDiv, Int.reduceNeg, Int.reduceAdd, Int.reduceSub, Int.reduceMul, h1, h2, h3, h4, gS, hlt, hix, hb, w1, w2, hi3, hst]; rfl) ?_ | refine To.nop hxE5 ?_ | (refine To.condT hxE5 ?_ ?_; focus (simp only [go_sem, eqs hxE5, reduceIte, Nat.reduceEqDiff, Nat.reduceAdd, Nat.reduceMul, Nat.reduceLT, Nat.reduceLeDiff, Int.reduceLT, Int.reduceLE, Int.reduceEq, reduceCtorEq, Int.reduceBEq, Int.reduceBNe, Int.reduceToNat, Nat.reduceSub, Nat.reduceDiv, Int.reduceNeg, Int.reduceAdd, Int.reduceSub, Int.reduceMul, h1, h2, h3, h4, gS, hlt, hix, hb, w1, w2, hi3, hst]; done)) | (refine To.condF hxE5 ?_ ?_; focus (simp only [go_sem, eqs hxE5, reduceIte, Nat.reduceEqDiff, Nat.reduceAdd, Nat.reduceMul, Nat.reduceLT, Nat.reduceLeDiff, Int.reduceLT, Int.reduceLE, Int.reduceEq, reduceCtorEq, Int.reduceBEq, Int.reduceBNe, Int.reduceToNat, Nat.reduceSub, Nat.reduceDiv, Int.reduceNeg, Int.reduceAdd, Int.reduceSub, Int.reduceMul, h1, h2, h3, h4, gS, hlt, hix, hb, w1, w2, hi3, hst]; done)) | refine To.block hxE5 ?_ | refine To.scope hxE5 ?_ | refine To.ret hxE5 ?_ | refine To.exit hxE5 ?_ | refine To.skip hxE5 ?_ | refine To.label hxE5 ?_ | refine To.draw0 hxE5 ?_ | refine ToD.op0 (by simp only [go_sem, eqs hxE5, reduceIte, Nat.reduceEqDiff, Nat.reduceAdd, Nat.reduceMul, Nat.reduceLT, Nat.reduceLeDiff, Int.reduceLT, Int.reduceLE, Int.reduceEq, reduceCtorEq, Int.reduceBEq, Int.reduceBNe, Int.reduceToNat, Nat.reduceSub, Nat.reduceDiv, Int.reduceNeg, Int.reduceAdd, Int.reduceSub, Int.reduceMul, h1, h2, h3, h4, gS, hlt, hix, hb, w1, w2, hi3, hst]; rfl) (by simp only [put_some, put_none]; rfl) ?_ | refine ToD.op1 (by simp only [go_sem, eqs hxE5, reduceIte, Nat.reduceEqDiff, Nat.reduceAdd, Nat.reduceMul, Nat.reduceLT, Nat.reduceLeDiff, Int.reduceLT, Int.reduceLE, Int.reduceEq, reduceCtorEq, Int.reduceBEq, Int.reduceBNe, Int.reduceToNat, Nat.reduceSub, Nat.reduceDiv, Int.reduceNeg, Int.reduceAdd, Int.reduceSub, Int.reduceMul, h1, h2, h3, h4, gS, hlt, hix, hb, w1, w2, hi3, hst]; rfl) (by simp only [put_some, put_none]; rfl) (by simp only [KD.app, go_sem, eqs hxE5, reduceIte, Nat.reduceEqDiff, Nat.reduceAdd, Nat.reduceMul, Nat.reduceLT, Nat.reduceLeDiff, Int.reduceLT, Int.reduceLE, Int.reduceEq, reduceCtorEq, Int.reduceBEq, Int.reduceBNe, Int.reduceToNat, Nat.reduceSub, Nat.reduceDiv, Int.reduceNeg, Int.reduceAdd, Int.reduceSub, Int.reduceMul, h1, h2, h3, h4, gS, hlt, hix, hb, w1, w2, hi3, hst]; rfl) ?_ | refine ToD.nop ?_ | refine To.draw hxE5 (by decide) ?_))
          try simp only [andThen]
          refine ⟨k - 1, by omega, t, u, x, j + 1, by omega, rfl, ?_⟩
          simp only [get_fput, h1, h2, h3, h4, reduceIte, Nat.reduceEqDiff]
          try trivial
        · have hjj : j = s.length := by omega
          subst hjj
          have hlt : decide ((s.length : Int) < (s.length : Int)) = false := by simp
          have hl := slotQ_length (B1 := B1) (B0 := B0) (Bl := Bl) (Nat.le_refl s.length) hc2
          have g1 : ∀ e d, (⟨[.cells .ex t 0 [.int .i64 i, .str s], .cells .ex u 0 (bytesA (zs 16)), .cells .ex x 0 (bytesA (slotQ s s.length B1 B0 Bl))], e, d⟩ : Heap).gets 2 0 16 = some (bytesA (slotQ s s.length B1 B0 Bl)) := fun e d => gets_all rfl (by rw [bytesA_length, hl])
          have st2 : ∀ e d, (⟨[.cells .ex t 0 [.int .i64 i, .str s], .cells .ex u 0 (bytesA (zs 16)), .cells .ex x 0 (bytesA (slotQ s s.length B1 B0 Bl))], e, d⟩ : Heap).sets 1 0 (bytesA (slotQ s s.length B1 B0 Bl)) = some ⟨[.cells .ex t 0 [.int .i64 i, .str s], .cells .ex u 0 (bytesA (slotQ s s.length B1 B0 Bl)), .cells .ex x 0 (bytesA (slotQ s s.length B1 B0 Bl))], e, min d 1⟩ := by
            intro e d
            have := sets_bytes (o := [.cells .ex t 0 [.int .i64 i, .str s], .cells .ex u 0 (bytesA (zs 16)), .cells .ex x 0 (bytesA (slotQ s s.length B1 B0 Bl))]) (e := e) (d := d) (l := 1) (i := 0) (s := slotQ s s.length B1 B0 Bl) rfl (by decide) (by rw [hl, h16]; decide)
            rw [lay_all (by rw [h16, hl])] at this
            exact this
          have g2 : ∀ e d, (⟨[.cells .ex t 0 [.int .i64 i, .str s], .cells .ex u 0 (bytesA (slotQ s s.length B1 B0 Bl)), .cells .ex x 0 (bytesA (slotQ s s.length B1 B0 Bl))], e, d⟩ : Heap).gets 1 0 16 = some (bytesA (slotQ s s.length B1 B0 Bl)) := fun e d => gets_all rfl (by rw [bytesA_length, hl])
          (repeat' (first | refine To.seq hxE5 ?_ | refine To.op0 hxE5 (by simp only [go_sem, eqs hxE5, reduceIte, Nat.reduceEqDiff, Nat.reduceAdd, Nat.reduceMul, Nat.reduceLT, Nat.reduceLeDiff, Int.reduceLT, Int.reduceLE, Int.reduceEq, reduceCtorEq, Int.reduceBEq, Int.reduceBNe, Int.reduceToNat, Nat.reduceSub, Nat.reduceDiv, Int.reduceNeg, Int.reduceAdd, Int.reduceSub, Int.reduceMul, h1, h2, h3, h4, gS, hlt, g1, st2, bytesA_length, hl]; rfl) ?_ | refine To.op1 hxE5 (by simp only [go_sem, eqs hxE5, reduceIte, Nat.reduceEqDiff, Nat.reduceAdd, Nat.reduceMul, Nat.reduceLT, Nat.reduceLeDiff, Int.reduceLT, Int.reduceLE, Int.reduceEq, reduceCtorEq, Int.reduceBEq, Int.reduceBNe, Int.reduceToNat, Nat.reduceSub, Nat.reduceDiv, Int.reduceNeg, Int.reduceAdd, Int.reduceSub, Int.reduceMul, h1, h2, h3, h4, gS, hlt, g1, st2, bytesA_length, hl]; rfl) ?_ | refine To.nop hxE5 ?_ | (refine To.condT hxE5 ?_ ?_; focus (simp only [go_sem, eqs hxE5, reduceIte, Nat.reduceEqDiff, Nat.reduceAdd, Nat.reduceMul, Nat.reduceLT, Nat.reduceLeDiff, Int.reduceLT, Int.reduceLE, Int.reduceEq, reduceCtorEq, Int.reduceBEq, Int.reduceBNe, Int.reduceToNat, Nat.reduceSub, Nat.reduceDiv, Int.reduceNeg, Int.reduceAdd, Int.reduceSub, Int.reduceMul, h1, h2, h3, h4, gS, hlt, g1, st2, bytesA_length, hl]; done)) | (refine To.condF hxE5 ?_ ?_; focus (simp only [go_sem, eqs hxE5, reduceIte, Nat.reduceEqDiff, Nat.reduceAdd, Nat.reduceMul, Nat.reduceLT, Nat.reduceLeDiff, Int.reduceLT, Int.reduceLE, Int.reduceEq, reduceCtorEq, Int.reduceBEq, Int.reduceBNe, Int.reduceToNat, Nat.reduceSub, Nat.reduceDiv, Int.reduceNeg, Int.reduceAdd, Int.reduceSub, Int.reduceMul, h1, h2, h3, h4, gS, hlt, g1, st2, bytesA_length, hl]; done)) | refine To.block hxE5 ?_ | refine To.scope hxE5 ?_ | refine To.ret hxE5 ?_ | refine To.exit hxE5 ?_ | refine To.skip hxE5 ?_ | refine To.label hxE5 ?_ | refine To.draw0 hxE5 ?_ | refine ToD.op0 (by simp only [go_sem, eqs hxE5, reduceIte, Nat.reduceEqDiff, Nat.reduceAdd, Nat.reduceMul, Nat.reduceLT, Nat.reduceLeDiff, Int.reduceLT, Int.reduceLE, Int.reduceEq, reduceCtorEq, Int.reduceBEq, Int.reduceBNe, Int.reduceToNat, Nat.reduceSub, Nat.reduceDiv, Int.reduceNeg, Int.reduceAdd, Int.reduceSub, Int.reduceMul, h1, h2, h3, h4, gS, hlt, g1, st2, bytesA_length, hl]; rfl) (by simp only [put_some, put_none]; rfl) ?_ | refine ToD.op1 (by simp only [go_sem, eqs hxE5, reduceIte, Nat.reduceEqDiff, Nat.reduceAdd, Nat.reduceMul, Nat.reduceLT, Nat.reduceLeDiff, Int.reduceLT, Int.reduceLE, Int.reduceEq, reduceCtorEq, Int.reduceBEq, Int.reduceBNe, Int.reduceToNat, Nat.reduceSub, Nat.reduceDiv, Int.reduceNeg, Int.reduceAdd, Int.reduceSub, Int.reduceMul, h1, h2, h3, h4, gS, hlt, g1, st2, bytesA_length, hl]; rfl) (by simp only [put_some, put_none]; rfl) (by simp only [KD.app, go_sem, eqs hxE5, reduceIte, Nat.reduceEqDiff, Nat.reduceAdd, Nat.reduceMul, Nat.reduceLT, Nat.reduceLeDiff, Int.reduceLT, Int.reduceLE, Int.reduceEq, reduceCtorEq, Int.reduceBEq, Int.reduceBNe, Int.reduceToNat, Nat.reduceSub, Nat.reduceDiv, Int.reduceNeg, Int.reduceAdd, Int.reduceSub, Int.reduceMul, h1, h2, h3, h4, gS, hlt, g1, st2, bytesA_length, hl]; rfl) ?_ | refine ToD.nop ?_ | refine To.draw hxE5 (by decide) ?_))
          simp only [andThen, outOf, go_sem, eqs hxE5, reduceIte, Nat.reduceEqDiff, Nat.reduceAdd, Nat.reduceMul, Nat.reduceLT, Nat.reduceLeDiff, Int.reduceLT, Int.reduceLE, Int.reduceEq, reduceCtorEq, Int.reduceBEq, Int.reduceBNe, Int.reduceToNat, Nat.reduceSub, Nat.reduceDiv, Int.reduceNeg, Int.reduceAdd, Int.reduceSub, Int.reduceMul, af16, h2, g2]
      · refine ⟨_, _, _, 0, by omega, rfl, ?_⟩
        simp only [go_sem, eqs hxE5, reduceIte, Nat.reduceEqDiff, Nat.reduceAdd, Nat.reduceMul, Nat.reduceLT, Nat.reduceLeDiff, Int.reduceLT, Int.reduceLE, Int.reduceEq, reduceCtorEq, Int.reduceBEq, Int.reduceBNe, Int.reduceToNat, Nat.reduceSub, Nat.reduceDiv, Int.reduceNeg, Int.reduceAdd, Int.reduceSub, Int.reduceMul]
    · cases h
  · cases h
end Go.Proofs.Ytabnocdebldpmaa

/- Slots: the document's Put and Get. -/
namespace Go.Proofs.Ytabnocdebldpmaa
open Go AM
set_option linter.unusedSimpArgs false
set_option linter.unusedVariables false
set_option maxRecDepth 100000
def g6 : Nat → Option Ans := addG g5 [(14, tGet), (16, tSlot)]
def E6 : ExtF := plainExt g6
theorem hxE6 : ExtMono E6 := plainExt_mono g6
theorem sndE6 : ExtSound Try.prog E6 := addG_sound mixed ffok sndE5 (by
  intro p hp
  simp only [List.mem_cons, List.not_mem_nil, or_false] at hp
  rcases hp with rfl | rfl
  · exact okGet
  · exact okSlot)
theorem E6_none {f : Nat} (h : g6 f = none) (c : CallF) : E6 c f = none := plainExt_none h c
theorem eContains_6 (s : List UInt8) (c : UInt8) (h : Heap) : Den FF E6 19 [.str s, .str [c]] h = some (.val (.bool (s.contains c)), none) := den_plain (sp := tContains) h rfl (by rfl) (by first | (simp [V.plains, V.plain, bytesA_plains]; done) | rfl)
theorem eInside_6 (a s : Int) (h : Heap) : Den FF E6 27 [.int .i64 a, .int .i64 s] h = some (.val (.bool (insideB a s)), none) := den_plain (sp := tInside) h rfl (by rfl) (by first | (simp [V.plains, V.plain, bytesA_plains]; done) | rfl)
theorem eNumber_6 (a s : Int) (h : Heap) : Den FF E6 26 [.int .i64 a, .int .i64 s] h = some (.val (.bool (numberB a s)), none) := den_plain (sp := tNumber) h rfl (by rfl) (by first | (simp [V.plains, V.plain, bytesA_plains]; done) | rfl)
theorem ePgGet_6 {p : List UInt8} (hp : p.length = 64) (a s : Int) (h : Heap) : Den FF E6 23 [.agg (bytesA p), .int .i64 a, .int .i64 s] h = some (.val (.int .i64 (pgGet p a s)), none) := den_plain (sp := tPgGet) h rfl (by simp [tPgGet, pageOf_bytes hp]) (by first | (simp [V.plains, V.plain, bytesA_plains]; done) | rfl)
theorem ePgText_6 {p : List UInt8} (hp : p.length = 64) {a : Int} (ha : a < 64) (s : Int) (h : Heap) : Den FF E6 24 [.agg (bytesA p), .int .i64 a, .int .i64 s] h = some (.val (.str (pgText p a s)), none) := den_plain (sp := tPgText) h rfl (by simp [tPgText, pageOf_bytes hp, ha]) (by first | (simp [V.plains, V.plain, bytesA_plains]; done) | rfl)
theorem ePgSetText_6 {p : List UInt8} (hp : p.length = 64) {a : Int} (ha : a < 64) (s : List UInt8) (h : Heap) : Den FF E6 22 [.agg (bytesA p), .int .i64 a, .str s] h = some (.val (.agg (bytesA (pgSetText p a s))), none) := den_plain (sp := tPgSetText) h rfl (by simp [tPgSetText, pageOf_bytes hp, ha]) (by first | (simp [V.plains, V.plain, bytesA_plains]; done) | rfl)
theorem ePgSet_6 {p : List UInt8} (hp : p.length = 64) (a s x : Int) (h : Heap) : Den FF E6 21 [.agg (bytesA p), .int .i64 a, .int .i64 s, .int .i64 x] h = some (.val (.agg (bytesA (pgSet p a s x))), none) := den_plain (sp := tPgSet) h rfl (by simp [tPgSet, pageOf_bytes hp]) (by first | (simp [V.plains, V.plain, bytesA_plains]; done) | rfl)
theorem eHas_6 (i : Int) (h : Heap) : Den FF E6 20 [.int .i64 i] h = some (.val (.bool (decide (0 ≤ i) && decide (i < 4))), none) := den_plain (sp := tHas) h rfl (by rfl) (by first | (simp [V.plains, V.plain, bytesA_plains]; done) | rfl)
theorem eCheck_6 (s : List UInt8) (h : Heap) : Den FF E6 9 [.str s] h = some (.val (.int .i64 (checkN s)), none) := den_plain (sp := tCheck) h rfl (by rfl) (by first | (simp [V.plains, V.plain, bytesA_plains]; done) | rfl)
theorem eRCheck_6 (s : List UInt8) (h : Heap) : Den FF E6 10 [.str s] h = some (.val (.int .i64 (checkN s)), none) := den_plain (sp := tCheck) h rfl (by rfl) (by first | (simp [V.plains, V.plain, bytesA_plains]; done) | rfl)
theorem eRight_6 (i : Int) (s : List UInt8) (h : Heap) : Den FF E6 11 [.agg [.int .i64 i, .str s]] h = some (.val (.bool (rightB i s)), none) := den_plain (sp := tRight) h rfl (by rfl) (by first | (simp [V.plains, V.plain, bytesA_plains]; done) | rfl)
theorem eRRight_6 (i : Int) (s : List UInt8) (h : Heap) : Den FF E6 12 [.agg [.int .i64 i, .str s]] h = some (.val (.bool (rightB i s)), none) := den_plain (sp := tRight) h rfl (by rfl) (by first | (simp [V.plains, V.plain, bytesA_plains]; done) | rfl)
theorem ePut_6 {p : List UInt8} (hp : p.length = 64) (i n : Int) (s : List UInt8) (h : Heap) : Den FF E6 13 [.agg (bytesA p), .int .i64 i, .agg [.int .i64 n, .str s]] h = some (.val (.agg (bytesA (slotPut p i n s))), none) := den_plain (sp := tPut) h rfl (by simp [tPut, pageOf_bytes hp]) (by first | (simp [V.plains, V.plain, bytesA_plains]; done) | rfl)
theorem eGet_6 {p : List UInt8} (hp : p.length = 64) (i : Int) (h : Heap) : Den FF E6 14 [.agg (bytesA p), .int .i64 i] h = some (.val (slotGet p i), none) := den_plain (sp := tGet) h rfl (by simp [tGet, pageOf_bytes hp]) (by first | (simp [V.plains, V.plain, bytesA_plains]; done) | rfl)
theorem eSlot_6 {i : Int} {s : List UInt8} (hc : 0 ≤ i ∧ i < 65536 ∧ s.length ≤ 13) (h : Heap) : Den FF E6 16 [.agg [.int .i64 i, .str s]] h = some (.val (.agg (bytesA (slotB i s))), none) := den_plain (sp := tSlot) h rfl (by simp [tSlot, hc]) (by first | (simp [V.plains, V.plain, bytesA_plains]; done) | rfl)

theorem lay_snoc {p s : List UInt8} {m : Nat} {x : UInt8} (h : m + s.length < p.length) : lay (lay p m s) (m + s.length) [x] = lay p m (s ++ [x]) := by
  have hl : (lay p m s).length = p.length := lay_length (by omega)
  apply List.ext_getElem?
  intro k
  rw [lay_get (p := lay p m s) (s := [x]) (by simp only [hl, List.length_singleton]; omega), lay_get (p := p) (s := s ++ [x]) (by simp only [List.length_append, List.length_singleton]; omega), lay_get (p := p) (s := s) (by omega)]
  simp only [List.length_append, List.length_cons, List.length_nil, Nat.zero_add]
  by_cases h1 : k = m + s.length
  · subst h1
    rw [if_pos (by omega), if_pos (by omega), Nat.sub_self, Nat.add_sub_cancel_left, List.getElem?_append_right (Nat.le_refl _), Nat.sub_self]
  · rw [if_neg (by omega)]
    by_cases h2 : m ≤ k ∧ k < m + s.length
    · rw [if_pos h2, if_pos (by omega), List.getElem?_append_left (by omega)]
    · rw [if_neg h2, if_neg (by omega)]

def tRPut : Ans
  | [v, .int .i64 i, u] => (pageOf 64 v).bind fun p => (pageOf 16 u).bind fun b => if 0 ≤ i ∧ i < 4 then some (.agg (bytesA (lay p (16 * i.toNat) b))) else none
  | _ => none
theorem okRPut : SpOk FF E6 15 tRPut := by
  intro args v h hpl
  unfold tRPut at h
  split at h
  · rename_i v0 i u0
    simp only [Option.bind_eq_some_iff] at h
    obtain ⟨p, hpg, b, hbg, h⟩ := h
    split at h
    · rename_i hi
      simp only [Option.some.injEq] at h; subst h
      obtain ⟨rfl, hp⟩ := of_pageOf hpg
      obtain ⟨rfl, hb⟩ := of_pageOf hbg
      obtain ⟨j, rfl⟩ : ∃ j : Nat, i = (j : Int) := ⟨i.toNat, by omega⟩
      rw [Int.toNat_natCast]
      refine ⟨by simp [V.plain, bytesA_plains], _, (?_ : Den FF E6 15 [.agg (bytesA p), .int .i64 (j : Int), .agg (bytesA b)] H0 = some (.val (.agg (bytesA (lay p (16 * j) b))), none))⟩
      refine To.den hxE6 (f := 15) (a := af15) rfl (E6_none rfl) (Nat.le_of_ble_eq_true rfl) ?_
      have h64 := zs_length 64
      (repeat' (first | refine To.seq hxE6 ?_ | refine To.op0 hxE6 (by simp only [go_sem, eqs hxE6, reduceIte, Nat.reduceEqDiff, Nat.reduceAdd, Nat.reduceMul, Nat.reduceLT, Nat.reduceLeDiff, Int.reduceLT, Int.reduceLE, Int.reduceEq, reduceCtorEq, Int.reduceBEq, Int.reduceBNe, Int.reduceToNat, Nat.reduceSub, Nat.reduceDiv, Int.reduceNeg, Int.reduceAdd, Int.reduceSub, Int.reduceMul, z64_eq]; rfl) ?_ | refine To.op1 hxE6 (by simp only [go_sem, eqs hxE6, reduceIte, Nat.reduceEqDiff, Nat.reduceAdd, Nat.reduceMul, Nat.reduceLT, Nat.reduceLeDiff, Int.reduceLT, Int.reduceLE, Int.reduceEq, reduceCtorEq, Int.reduceBEq, Int.reduceBNe, Int.reduceToNat, Nat.reduceSub, Nat.reduceDiv, Int.reduceNeg, Int.reduceAdd, Int.reduceSub, Int.reduceMul, z64_eq]; rfl) ?_ | refine To.nop hxE6 ?_ | (refine To.condT hxE6 ?_ ?_; focus (simp only [go_sem, eqs hxE6, reduceIte, Nat.reduceEqDiff, Nat.reduceAdd, Nat.reduceMul, Nat.reduceLT, Nat.reduceLeDiff, Int.reduceLT, Int.reduceLE, Int.reduceEq, reduceCtorEq, Int.reduceBEq, Int.reduceBNe, Int.reduceToNat, Nat.reduceSub, Nat.reduceDiv, Int.reduceNeg, Int.reduceAdd, Int.reduceSub, Int.reduceMul, z64_eq]; done)) | (refine To.condF hxE6 ?_ ?_; focus (simp only [go_sem, eqs hxE6, reduceIte, Nat.reduceEqDiff, Nat.reduceAdd, Nat.reduceMul, Nat.reduceLT, Nat.reduceLeDiff, Int.reduceLT, Int.reduceLE, Int.reduceEq, reduceCtorEq, Int.reduceBEq, Int.reduceBNe, Int.reduceToNat, Nat.reduceSub, Nat.reduceDiv, Int.reduceNeg, Int.reduceAdd, Int.reduceSub, Int.reduceMul, z64_eq]; done)) | refine To.block hxE6 ?_ | refine To.scope hxE6 ?_ | refine To.ret hxE6 ?_ | refine To.exit hxE6 ?_ | refine To.skip hxE6 ?_ | refine To.label hxE6 ?_ | refine To.draw0 hxE6 ?_ | refine ToD.op0 (by simp only [go_sem, eqs hxE6, reduceIte, Nat.reduceEqDiff, Nat.reduceAdd, Nat.reduceMul, Nat.reduceLT, Nat.reduceLeDiff, Int.reduceLT, Int.reduceLE, Int.reduceEq, reduceCtorEq, Int.reduceBEq, Int.reduceBNe, Int.reduceToNat, Nat.reduceSub, Nat.reduceDiv, Int.reduceNeg, Int.reduceAdd, Int.reduceSub, Int.reduceMul, z64_eq]; rfl) (by simp only [put_some, put_none]; rfl) ?_ | refine ToD.op1 (by simp only [go_sem, eqs hxE6, reduceIte, Nat.reduceEqDiff, Nat.reduceAdd, Nat.reduceMul, Nat.reduceLT, Nat.reduceLeDiff, Int.reduceLT, Int.reduceLE, Int.reduceEq, reduceCtorEq, Int.reduceBEq, Int.reduceBNe, Int.reduceToNat, Nat.reduceSub, Nat.reduceDiv, Int.reduceNeg, Int.reduceAdd, Int.reduceSub, Int.reduceMul, z64_eq]; rfl) (by simp only [put_some, put_none]; rfl) (by simp only [KD.app, go_sem, eqs hxE6, reduceIte, Nat.reduceEqDiff, Nat.reduceAdd, Nat.reduceMul, Nat.reduceLT, Nat.reduceLeDiff, Int.reduceLT, Int.reduceLE, Int.reduceEq, reduceCtorEq, Int.reduceBEq, Int.reduceBNe, Int.reduceToNat, Nat.reduceSub, Nat.reduceDiv, Int.reduceNeg, Int.reduceAdd, Int.reduceSub, Int.reduceMul, z64_eq]; rfl) ?_ | refine ToD.nop ?_ | refine To.draw hxE6 (by decide) ?_))
      refine To.loop hxE6 (fun k S h' => ∃ t u x q, ∃ n, n + k = 16 ∧ h' = ⟨[.cells .ex t 0 (bytesA q), .cells .ex u 0 (bytesA b), .cells .ex x 0 (bytesA (zs 64))], 0, 0⟩ ∧ q = lay p (16 * j) (b.take n) ∧ S 1 = .int .i64 (j : Int) ∧ S 3 = .ptr 0 0 ∧ S 5 = .ptr 1 0 ∧ S 6 = .ptr 2 0 ∧ S 7 = .int .i64 (n : Int)) ?_ 16 _ _ ?_
      · rintro k S _ ⟨t, u, x, _, n, hk, rfl, rfl, h1, h3, h5, h6, h7⟩
        have hln : (b.take n).length = n := by simp; omega
        have hlq : (lay p (16 * j) (b.take n)).length = 64 := by rw [lay_length (by rw [hln]; omega), hp]
        by_cases hj : n < 16
        · have hlt : decide ((n : Int) < 16) = true := by simp; omega
          obtain ⟨c, hc⟩ : ∃ c, b[n]? = some c := ⟨b[n]'(by omega), List.getElem?_eq_getElem (by omega)⟩
          have hix : idxOf 16 (.int .i64 (n : Int)) = some n := idxOf_nat hj
          have w1 : IntKind.i64.wrap ((n : Int) + 1) = ((n + 1 : Nat) : Int) := by rw [wrap_i64 (by omega) (by omega)]; omega
          have w2 : IntKind.i64.wrap (16 * (j : Int)) = 16 * (j : Int) := wrap_i64 (by omega) (by omega)
          have w3 : IntKind.i64.wrap (16 * (j : Int) + (n : Int)) = ((16 * j + n : Nat) : Int) := by rw [wrap_i64 (by omega) (by omega)]; omega
          have hi3 : idxOf 64 (.int .i64 ((16 * j + n : Nat) : Int)) = some (16 * j + n) := idxOf_nat (by omega)
          have gb : ∀ e d, (⟨[.cells .ex t 0 (bytesA (lay p (16 * j) (b.take n))), .cells .ex u 0 (bytesA b), .cells .ex x 0 (bytesA (zs 64))], e, d⟩ : Heap).get 1 n = some (.int .u8 (c.toNat : Int)) := fun e d => get_bytes rfl hc
          have st : ∀ e d, (⟨[.cells .ex t 0 (bytesA (lay p (16 * j) (b.take n))), .cells .ex u 0 (bytesA b), .cells .ex x 0 (bytesA (zs 64))], e, d⟩ : Heap).sets 0 (16 * j + n) [.int .u8 (c.toNat : Int)] = some ⟨[.cells .ex t 0 (bytesA (lay p (16 * j) (b.take (n + 1)))), .cells .ex u 0 (bytesA b), .cells .ex x 0 (bytesA (zs 64))], e, min d 0⟩ := by
            intro e d
            have := sets_bytes (o := [.cells .ex t 0 (bytesA (lay p (16 * j) (b.take n))), .cells .ex u 0 (bytesA b), .cells .ex x 0 (bytesA (zs 64))]) (e := e) (d := d) (l := 0) (i := 16 * j + n) (s := [c]) rfl (by decide) (by rw [hlq]; simp; omega)
            have e1 := lay_snoc (p := p) (s := b.take n) (m := 16 * j) (x := c) (by rw [hln]; omega)
            rw [hln] at e1
            have e2 : b.take (n + 1) = b.take n ++ [c] := by rw [List.take_add_one, hc]; rfl
            rw [e1, ← e2] at this
            exact this
          (repeat' (first | refine To.seq hxE6 ?_ | refine To.op0 hxE6 (by simp only [go_sem, eqs hxE6, reduceIte, Nat.reduceEqDiff, Nat.reduceAdd, Nat.reduceMul, Nat.reduceLT, Nat.reduceLeDiff, Int.reduceLT, Int.reduceLE, Int.reduceEq, reduceCtorEq, Int.reduceBEq, Int.reduceBNe, Int.reduceToNat, Nat.reduceSub, Nat.reduceDiv, Int.reduceNeg, Int.reduceAdd, Int.reduceSub, Int.reduceMul, h1, h3, h5, h6, h7, hlt, hix, w1, w2, w3, hi3, gb, st]; rfl) ?_ | refine To.op1 hxE6 (by simp only [go_sem, eqs hxE6, reduceIte, Nat.reduceEqDiff, Nat.reduceAdd, Nat.reduceMul, Nat.reduceLT, Nat.reduceLeDiff, Int.reduceLT, Int.reduceLE, Int.reduceEq, reduceCtorEq, Int.reduceBEq, Int.reduceBNe, Int.reduceToNat, Nat.reduceSub, Nat.reduceDiv, Int.reduceNeg, Int.reduceAdd, Int.reduceSub, Int.reduceMul, h1, h3, h5, h6, h7, hlt, hix, w1, w2, w3, hi3, gb, st]; rfl) ?_ | refine To.nop hxE6 ?_ | (refine To.condT hxE6 ?_ ?_; focus (simp only [go_sem, eqs hxE6, reduceIte, Nat.reduceEqDiff, Nat.reduceAdd, Nat.reduceMul, Nat.reduceLT, Nat.reduceLeDiff, Int.reduceLT, Int.reduceLE, Int.reduceEq, reduceCtorEq, Int.reduceBEq, Int.reduceBNe, Int.reduceToNat, Nat.reduceSub, Nat.reduceDiv, Int.reduceNeg, Int.reduceAdd, Int.reduceSub, Int.reduceMul, h1, h3, h5, h6, h7, hlt, hix, w1, w2, w3, hi3, gb, st]; done)) | (refine To.condF hxE6 ?_ ?_; focus (simp only [go_sem, eqs hxE6, reduceIte, Nat.reduceEqDiff, Nat.reduceAdd, Nat.reduceMul, Nat.reduceLT, Nat.reduceLeDiff, Int.reduceLT, Int.reduceLE, Int.reduceEq, reduceCtorEq, Int.reduceBEq, Int.reduceBNe, Int.reduceToNat, Nat.reduceSub, Nat.reduceDiv, Int.reduceNeg, Int.reduceAdd, Int.reduceSub, Int.reduceMul, h1, h3, h5, h6, h7, hlt, hix, w1, w2, w3, hi3, gb, st]; done)) | refine To.block hxE6 ?_ | refine To.scope hxE6 ?_ | refine To.ret hxE6 ?_ | refine To.exit hxE6 ?_ | refine To.skip hxE6 ?_ | refine To.label hxE6 ?_ | refine To.draw0 hxE6 ?_ | refine ToD.op0 (by simp only [go_sem, eqs hxE6, reduceIte, Nat.reduceEqDiff, Nat.reduceAdd, Nat.reduceMul, Nat.reduceLT, Nat.reduceLeDiff, Int.reduceLT, Int.reduceLE, Int.reduceEq, reduceCtorEq, Int.reduceBEq, Int.reduceBNe, Int.reduceToNat, Nat.reduceSub, Nat.reduceDiv, Int.reduceNeg, Int.reduceAdd, Int.reduceSub, Int.reduceMul, h1, h3, h5, h6, h7, hlt, hix, w1, w2, w3, hi3, gb, st]; rfl) (by simp only [put_some, put_none]; rfl) ?_ | refine ToD.op1 (by simp only [go_sem, eqs hxE6, reduceIte, Nat.reduceEqDiff, Nat.reduceAdd, Nat.reduceMul, Nat.reduceLT, Nat.reduceLeDiff, Int.reduceLT, Int.reduceLE, Int.reduceEq, reduceCtorEq, Int.reduceBEq, Int.reduceBNe, Int.reduceToNat, Nat.reduceSub, Nat.reduceDiv, Int.reduceNeg, Int.reduceAdd, Int.reduceSub, Int.reduceMul, h1, h3, h5, h6, h7, hlt, hix, w1, w2, w3, hi3, gb, st]; rfl) (by simp only [put_some, put_none]; rfl) (by simp only [KD.app, go_sem, eqs hxE6, reduceIte, Nat.reduceEqDiff, Nat.reduceAdd, Nat.reduceMul, Nat.reduceLT, Nat.reduceLeDiff, Int.reduceLT, Int.reduceLE, Int.reduceEq, reduceCtorEq, Int.reduceBEq, Int.reduceBNe, Int.reduceToNat, Nat.reduceSub, Nat.reduceDiv, Int.reduceNeg, Int.reduceAdd, Int.reduceSub, Int.reduceMul, h1, h3, h5, h6, h7, hlt, hix, w1, w2, w3, hi3, gb, st]; rfl) ?_ | refine ToD.nop ?_ | refine To.draw hxE6 (by decide) ?_))
          try simp only [andThen]
          refine ⟨k - 1, by omega, t, u, x, _, n + 1, by omega, rfl, rfl, ?_⟩
          simp only [get_fput, h1, h3, h5, h6, h7, reduceIte, Nat.reduceEqDiff]
          try trivial
        · have hn : n = 16 := by omega
          subst hn
          have hbt : b.take 16 = b := List.take_of_length_le (by omega)
          rw [hbt] at hlq ⊢
          have hlt : decide (((16 : Nat) : Int) < 16) = false := rfl
          have g1 : ∀ y e d, (⟨[.cells .ex t 0 (bytesA (lay p (16 * j) b)), .cells .ex u 0 (bytesA b), .cells .ex x 0 y], e, d⟩ : Heap).gets 0 0 64 = some (bytesA (lay p (16 * j) b)) := fun y e d => gets_all rfl (by rw [bytesA_length, hlq])
          have st : ∀ e d, (⟨[.cells .ex t 0 (bytesA (lay p (16 * j) b)), .cells .ex u 0 (bytesA b), .cells .ex x 0 (bytesA (zs 64))], e, d⟩ : Heap).sets 2 0 (bytesA (lay p (16 * j) b)) = some ⟨[.cells .ex t 0 (bytesA (lay p (16 * j) b)), .cells .ex u 0 (bytesA b), .cells .ex x 0 (bytesA (lay p (16 * j) b))], e, min d 2⟩ := by
            intro e d
            have := sets_bytes (o := [.cells .ex t 0 (bytesA (lay p (16 * j) b)), .cells .ex u 0 (bytesA b), .cells .ex x 0 (bytesA (zs 64))]) (e := e) (d := d) (l := 2) (i := 0) (s := lay p (16 * j) b) rfl (by decide) (by rw [hlq, h64]; decide)
            rw [lay_all (by rw [h64, hlq])] at this
            exact this
          have g2 : ∀ e d, (⟨[.cells .ex t 0 (bytesA (lay p (16 * j) b)), .cells .ex u 0 (bytesA b), .cells .ex x 0 (bytesA (lay p (16 * j) b))], e, d⟩ : Heap).gets 2 0 64 = some (bytesA (lay p (16 * j) b)) := fun e d => gets_all rfl (by rw [bytesA_length, hlq])
          (repeat' (first | refine To.seq hxE6 ?_ | refine To.op0 hxE6 (by simp only [go_sem, eqs hxE6, reduceIte, Nat.reduceEqDiff, Nat.reduceAdd, Nat.reduceMul, Nat.reduceLT, Nat.reduceLeDiff, Int.reduceLT, Int.reduceLE, Int.reduceEq, reduceCtorEq, Int.reduceBEq, Int.reduceBNe, Int.reduceToNat, Nat.reduceSub, Nat.reduceDiv, Int.reduceNeg, Int.reduceAdd, Int.reduceSub, Int.reduceMul, h1, h3, h5, h6, h7, hlt, g1, st, bytesA_length, hlq]; rfl) ?_ | refine To.op1 hxE6 (by simp only [go_sem, eqs hxE6, reduceIte, Nat.reduceEqDiff, Nat.reduceAdd, Nat.reduceMul, Nat.reduceLT, Nat.reduceLeDiff, Int.reduceLT, Int.reduceLE, Int.reduceEq, reduceCtorEq, Int.reduceBEq, Int.reduceBNe, Int.reduceToNat, Nat.reduceSub, Nat.reduceDiv, Int.reduceNeg, Int.reduceAdd, Int.reduceSub, Int.reduceMul, h1, h3, h5, h6, h7, hlt, g1, st, bytesA_length, hlq]; rfl) ?_ | refine To.nop hxE6 ?_ | (refine To.condT hxE6 ?_ ?_; focus (simp only [go_sem, eqs hxE6, reduceIte, Nat.reduceEqDiff, Nat.reduceAdd, Nat.reduceMul, Nat.reduceLT, Nat.reduceLeDiff, Int.reduceLT, Int.reduceLE, Int.reduceEq, reduceCtorEq, Int.reduceBEq, Int.reduceBNe, Int.reduceToNat, Nat.reduceSub, Nat.reduceDiv, Int.reduceNeg, Int.reduceAdd, Int.reduceSub, Int.reduceMul, h1, h3, h5, h6, h7, hlt, g1, st, bytesA_length, hlq]; done)) | (refine To.condF hxE6 ?_ ?_; focus (simp only [go_sem, eqs hxE6, reduceIte, Nat.reduceEqDiff, Nat.reduceAdd, Nat.reduceMul, Nat.reduceLT, Nat.reduceLeDiff, Int.reduceLT, Int.reduceLE, Int.reduceEq, reduceCtorEq, Int.reduceBEq, Int.reduceBNe, Int.reduceToNat, Nat.reduceSub, Nat.reduceDiv, Int.reduceNeg, Int.reduceAdd, Int.reduceSub, Int.reduceMul, h1, h3, h5, h6, h7, hlt, g1, st, bytesA_length, hlq]; done)) | refine To.block hxE6 ?_ | refine To.scope hxE6 ?_ | refine To.ret hxE6 ?_ | refine To.exit hxE6 ?_ | refine To.skip hxE6 ?_ | refine To.label hxE6 ?_ | refine To.draw0 hxE6 ?_ | refine ToD.op0 (by simp only [go_sem, eqs hxE6, reduceIte, Nat.reduceEqDiff, Nat.reduceAdd, Nat.reduceMul, Nat.reduceLT, Nat.reduceLeDiff, Int.reduceLT, Int.reduceLE, Int.reduceEq, reduceCtorEq, Int.reduceBEq, Int.reduceBNe, Int.reduceToNat, Nat.reduceSub, Nat.reduceDiv, Int.reduceNeg, Int.reduceAdd, Int.reduceSub, Int.reduceMul, h1, h3, h5, h6, h7, hlt, g1, st, bytesA_length, hlq]; rfl) (by simp only [put_some, put_none]; rfl) ?_ | refine ToD.op1 (by simp only [go_sem, eqs hxE6, reduceIte, Nat.reduceEqDiff, Nat.reduceAdd, Nat.reduceMul, Nat.reduceLT, Nat.reduceLeDiff, Int.reduceLT, Int.reduceLE, Int.reduceEq, reduceCtorEq, Int.reduceBEq, Int.reduceBNe, Int.reduceToNat, Nat.reduceSub, Nat.reduceDiv, Int.reduceNeg, Int.reduceAdd, Int.reduceSub, Int.reduceMul, h1, h3, h5, h6, h7, hlt, g1, st, bytesA_length, hlq]; rfl) (by simp only [put_some, put_none]; rfl) (by simp only [KD.app, go_sem, eqs hxE6, reduceIte, Nat.reduceEqDiff, Nat.reduceAdd, Nat.reduceMul, Nat.reduceLT, Nat.reduceLeDiff, Int.reduceLT, Int.reduceLE, Int.reduceEq, reduceCtorEq, Int.reduceBEq, Int.reduceBNe, Int.reduceToNat, Nat.reduceSub, Nat.reduceDiv, Int.reduceNeg, Int.reduceAdd, Int.reduceSub, Int.reduceMul, h1, h3, h5, h6, h7, hlt, g1, st, bytesA_length, hlq]; rfl) ?_ | refine ToD.nop ?_ | refine To.draw hxE6 (by decide) ?_))
          simp only [andThen, outOf, go_sem, eqs hxE6, reduceIte, Nat.reduceEqDiff, Nat.reduceAdd, Nat.reduceMul, Nat.reduceLT, Nat.reduceLeDiff, Int.reduceLT, Int.reduceLE, Int.reduceEq, reduceCtorEq, Int.reduceBEq, Int.reduceBNe, Int.reduceToNat, Nat.reduceSub, Nat.reduceDiv, Int.reduceNeg, Int.reduceAdd, Int.reduceSub, Int.reduceMul, af15, h6, g2]
      · refine ⟨_, _, _, p, 0, by omega, rfl, by simp [lay], ?_⟩
        simp only [go_sem, eqs hxE6, reduceIte, Nat.reduceEqDiff, Nat.reduceAdd, Nat.reduceMul, Nat.reduceLT, Nat.reduceLeDiff, Int.reduceLT, Int.reduceLE, Int.reduceEq, reduceCtorEq, Int.reduceBEq, Int.reduceBNe, Int.reduceToNat, Nat.reduceSub, Nat.reduceDiv, Int.reduceNeg, Int.reduceAdd, Int.reduceSub, Int.reduceMul]
        try trivial
    · cases h
  · cases h
end Go.Proofs.Ytabnocdebldpmaa

