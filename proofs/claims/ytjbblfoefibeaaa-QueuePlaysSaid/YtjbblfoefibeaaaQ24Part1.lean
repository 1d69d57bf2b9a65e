/- Own texts, joined: Q24Fs, Q24Base, Q24A, Q24T, Q24WA, Q24WC, Q24WK, Q24WD. -/
import Derived.Test.YtjbblfoefibeaaaProg
import Derived.Test.YtjbblfoefibeaaaChecked
import Derived.Lib.Strings
import Derived.Lib.Slices
import Derived.Lib.Walk
import Derived.Lib.Bytealg
import Derived.Lib.IndexAny
import Derived.Test.YtjbblfoefibeaaaAmPart3
/- The abstract code of the functions of this seat: what the engine makes of the program's own code. Printed by a program (genfs.py); Lean checks each one. -/
namespace Go.Proofs.Ytjbblfoefibeaaa
open Go AM

def af9 : AF := ⟨242, [.t 2], .seq (.region [⟨some 2, .mv (.k (.bool false)), none⟩] false) (.seq (.seq (.region [⟨some 27, .call 27 [], none⟩, ⟨some 28, .un .not (.t 27), none⟩] false) (.cond (.t 28) (.seq (.region [⟨some 2, .mv (.k (.bool false)), none⟩] false) .ret) .skip)) (.seq (.seq (.region [⟨some 29, .mv (.t 0), none⟩, ⟨some 30, .call 28 [.t 29], none⟩] false) (.cond (.t 30) (.seq (.region [⟨some 2, .mv (.k (.bool true)), none⟩] false) .ret) .skip)) (.seq (.region [⟨some 31, .call 29 [], none⟩, ⟨some 32, .build [.nils, .nils, .nils, .int .i64 0, .bool false] [], none⟩, ⟨some 33, .box 85 (.t 32), none⟩, ⟨some 3, .mv (.t 31), none⟩, ⟨some 4, .mv (.t 33), none⟩] false) (.seq (.seq (.region [⟨some 34, .mv (.t 0), none⟩, ⟨some 35, .lenL (.t 34), none⟩, ⟨some 36, .mv (.k (.int .i64 0)), none⟩] false) (.block 0 (.loop (.seq (.region [⟨some 37, .bin .lss (.t 36) (.t 35), none⟩] false) (.seq (.cond (.t 37) .skip (.exit 0)) (.seq (.block 1 (.seq (.region [⟨some 38, .iaddrS 11 (.t 34) (.t 36), none⟩, ⟨some 39, .load (some 11) (.t 38), none⟩, ⟨some 6, .alloc 69 [.int .i64 0, .int .i64 0, .int .i64 0, .int .i64 0, .int .i64 0, .int .i64 0, .int .i64 0, .int .i64 0, .str [], .str [], .nils], none⟩, ⟨none, .store 11 (.t 6) (.t 39), none⟩] false) (.seq (.seq (.region [⟨some 40, .faddr 0 (.t 6), none⟩, ⟨some 41, .load none (.t 40), none⟩] false) (.block 2 (.seq (.region [⟨some 43, .bin .eql (.t 41) (.k (.int .i64 0)), none⟩, ⟨some 42, .mv (.t 43), none⟩] false) (.cond (.t 42) (.seq (.region [⟨some 45, .mv (.t 3), none⟩, ⟨some 46, .faddr 2 (.t 6), none⟩, ⟨some 47, .load (some 8) (.t 46), none⟩, ⟨some 48, .call 30 [.t 45, .t 47], none⟩, ⟨some 44, .mv (.t 48), none⟩, ⟨some 49, .extract (.t 44) 0, none⟩, ⟨some 50, .extract (.t 44) 1, none⟩, ⟨some 7, .mv (.t 49), none⟩, ⟨some 8, .mv (.t 50), none⟩] false) (.seq (.region [⟨some 52, .mv (.t 4), none⟩, ⟨some 53, .faddr 2 (.t 6), none⟩, ⟨some 54, .load (some 8) (.t 53), none⟩, ⟨some 55, .call 40 [.t 52, .t 54], none⟩, ⟨some 51, .mv (.t 55), none⟩, ⟨some 56, .extract (.t 51) 0, none⟩, ⟨some 57, .extract (.t 51) 1, none⟩, ⟨some 9, .mv (.t 56), none⟩, ⟨some 10, .mv (.t 57), none⟩] false) (.seq (.region [⟨some 58, .mv (.t 7), none⟩, ⟨some 59, .mv (.t 9), none⟩, ⟨some 60, .bin .neq (.t 58) (.t 59), none⟩, ⟨some 61, .mv (.t 60), none⟩, ⟨some 62, .mv (.t 8), some (61, false)⟩, ⟨some 63, .mv (.t 10), some (61, false)⟩, ⟨some 64, .bin .neq (.t 62) (.t 63), some (61, false)⟩, ⟨some 65, .pick (.t 61) (.k (.bool true)) (.t 64), none⟩] false) (.cond (.t 65) (.seq (.region [⟨some 2, .mv (.k (.bool false)), none⟩] false) .ret) .skip)))) (.seq (.region [⟨some 67, .bin .eql (.t 41) (.k (.int .i64 1)), none⟩, ⟨some 66, .mv (.t 67), none⟩] false) (.cond (.t 66) (.seq (.region [⟨some 69, .mv (.t 3), none⟩, ⟨some 70, .call 31 [.t 69], none⟩, ⟨some 68, .mv (.t 70), none⟩, ⟨some 71, .extract (.t 68) 0, none⟩, ⟨some 72, .extract (.t 68) 1, none⟩, ⟨some 11, .alloc 23 [.int .i64 0, .int .i64 0, .int .i64 0, .int .i64 0, .int .i64 0, .int .i64 0, .str [], .str []], none⟩, ⟨none, .store 8 (.t 11) (.t 71), none⟩, ⟨some 12, .mv (.t 72), none⟩] false) (.seq (.region [⟨some 74, .mv (.t 4), none⟩, ⟨some 75, .call 41 [.t 74], none⟩, ⟨some 73, .mv (.t 75), none⟩, ⟨some 76, .extract (.t 73) 0, none⟩, ⟨some 77, .extract (.t 73) 1, none⟩, ⟨some 13, .alloc 25 [.int .i64 0, .int .i64 0, .int .i64 0, .int .i64 0, .int .i64 0, .int .i64 0, .str [], .str []], none⟩, ⟨none, .store 8 (.t 13) (.t 76), none⟩, ⟨some 14, .mv (.t 77), none⟩] false) (.seq (.region [⟨some 78, .load (some 8) (.t 11), none⟩, ⟨some 79, .load (some 8) (.t 13), none⟩, ⟨some 80, .eqf true true [(1, .i), (1, .i), (1, .i), (1, .i), (1, .i), (1, .i), (1, .s), (1, .s)] (.t 78) (.t 79), none⟩, ⟨some 81, .mv (.t 80), none⟩, ⟨some 82, .mv (.t 12), some (81, false)⟩, ⟨some 83, .mv (.t 14), some (81, false)⟩, ⟨some 84, .eqf true false [(1, .b)] (.t 82) (.t 83), some (81, false)⟩, ⟨some 85, .pick (.t 81) (.k (.bool true)) (.t 84), none⟩] false) (.cond (.t 85) (.seq (.region [⟨some 2, .mv (.k (.bool false)), none⟩] false) .ret) .skip)))) (.seq (.region [⟨some 87, .bin .eql (.t 41) (.k (.int .i64 2)), none⟩, ⟨some 86, .mv (.t 87), none⟩] false) (.cond (.t 86) (.seq (.region [⟨some 89, .mv (.t 3), none⟩, ⟨some 90, .faddr 1 (.t 6), none⟩, ⟨some 91, .load none (.t 90), none⟩, ⟨some 92, .call 32 [.t 89, .t 91], none⟩, ⟨some 88, .mv (.t 92), none⟩, ⟨some 93, .extract (.t 88) 0, none⟩, ⟨some 94, .extract (.t 88) 1, none⟩, ⟨some 15, .mv (.t 93), none⟩, ⟨some 16, .mv (.t 94), none⟩] false) (.seq (.region [⟨some 96, .mv (.t 4), none⟩, ⟨some 97, .faddr 1 (.t 6), none⟩, ⟨some 98, .load none (.t 97), none⟩, ⟨some 99, .call 42 [.t 96, .t 98], none⟩, ⟨some 95, .mv (.t 99), none⟩, ⟨some 100, .extract (.t 95) 0, none⟩, ⟨some 101, .extract (.t 95) 1, none⟩, ⟨some 17, .mv (.t 100), none⟩, ⟨some 18, .mv (.t 101), none⟩] false) (.seq (.region [⟨some 102, .mv (.t 15), none⟩, ⟨some 103, .mv (.t 17), none⟩, ⟨some 104, .bin .neq (.t 102) (.t 103), none⟩, ⟨some 105, .mv (.t 104), none⟩, ⟨some 106, .mv (.t 16), some (105, false)⟩, ⟨some 107, .mv (.t 18), some (105, false)⟩, ⟨some 108, .bin .neq (.t 106) (.t 107), some (105, false)⟩, ⟨some 109, .pick (.t 105) (.k (.bool true)) (.t 108), none⟩] false) (.cond (.t 109) (.seq (.region [⟨some 2, .mv (.k (.bool false)), none⟩] false) .ret) .skip)))) (.seq (.region [⟨some 111, .bin .eql (.t 41) (.k (.int .i64 3)), none⟩, ⟨some 110, .mv (.t 111), none⟩] false) (.cond (.t 110) (.seq (.draw 0 [⟨0, ⟨some 112, .mv (.t 3), none⟩, [], none, []⟩, ⟨1, ⟨some 113, .faddr 1 (.t 6), none⟩, [], none, []⟩, ⟨2, ⟨some 114, .load none (.t 113), none⟩, [], none, []⟩, ⟨4, ⟨some 116, .mv (.t 4), none⟩, [], none, []⟩, ⟨5, ⟨some 117, .faddr 1 (.t 6), none⟩, [], none, []⟩, ⟨6, ⟨some 118, .load none (.t 117), none⟩, [], none, []⟩, ⟨3, ⟨some 115, .call 33 [.t 112, .t 114], none⟩, [], none, [⟨some 118, .load none (.t 117), none⟩]⟩, ⟨7, ⟨some 119, .call 43 [.t 116, .t 118], none⟩, [], none, []⟩, ⟨8, ⟨some 120, .bin .neq (.t 115) (.t 119), none⟩, [], none, []⟩]) (.cond (.t 120) (.seq (.region [⟨some 2, .mv (.k (.bool false)), none⟩] false) .ret) .skip)) (.seq (.region [⟨some 122, .bin .eql (.t 41) (.k (.int .i64 4)), none⟩, ⟨some 121, .mv (.t 122), none⟩] false) (.cond (.t 121) (.seq (.draw 0 [⟨0, ⟨some 123, .mv (.t 3), none⟩, [], none, []⟩, ⟨1, ⟨some 124, .faddr 10 (.t 6), none⟩, [], none, []⟩, ⟨2, ⟨some 125, .load none (.t 124), none⟩, [], none, []⟩, ⟨4, ⟨some 127, .mv (.t 4), none⟩, [], none, []⟩, ⟨5, ⟨some 128, .faddr 10 (.t 6), none⟩, [], none, []⟩, ⟨6, ⟨some 129, .load none (.t 128), none⟩, [], none, []⟩, ⟨3, ⟨some 126, .call 34 [.t 123, .t 125], none⟩, [], none, [⟨some 129, .load none (.t 128), none⟩]⟩, ⟨7, ⟨some 130, .call 45 [.t 129], none⟩, [], none, []⟩, ⟨8, ⟨some 131, .call 44 [.t 127, .t 130], none⟩, [], none, []⟩, ⟨9, ⟨some 132, .bin .neq (.t 126) (.t 131), none⟩, [], none, []⟩]) (.cond (.t 132) (.seq (.region [⟨some 2, .mv (.k (.bool false)), none⟩] false) .ret) .skip)) (.seq (.region [⟨some 134, .bin .eql (.t 41) (.k (.int .i64 5)), none⟩, ⟨some 133, .mv (.t 134), none⟩] false) (.cond (.t 133) (.seq (.region [⟨some 136, .mv (.t 3), none⟩, ⟨some 137, .call 46 [.t 136], none⟩, ⟨some 135, .mv (.t 137), none⟩, ⟨some 138, .extract (.t 135) 0, none⟩, ⟨some 139, .extract (.t 135) 1, none⟩, ⟨some 19, .alloc 39 [.int .i64 0, .int .i64 0, .str []], none⟩, ⟨none, .store 3 (.t 19) (.t 138), none⟩, ⟨some 20, .mv (.t 139), none⟩] false) (.seq (.region [⟨some 141, .mv (.t 4), none⟩, ⟨some 142, .call 47 [.t 141], none⟩, ⟨some 140, .mv (.t 142), none⟩, ⟨some 143, .extract (.t 140) 0, none⟩, ⟨some 144, .extract (.t 140) 1, none⟩, ⟨some 21, .alloc 40 [.int .i64 0, .int .i64 0, .str []], none⟩, ⟨none, .store 3 (.t 21) (.t 143), none⟩, ⟨some 22, .mv (.t 144), none⟩] false) (.seq (.region [⟨some 145, .load (some 3) (.t 19), none⟩, ⟨some 146, .load (some 3) (.t 21), none⟩, ⟨some 147, .eqf true true [(1, .i), (1, .i), (1, .s)] (.t 145) (.t 146), none⟩, ⟨some 148, .mv (.t 147), none⟩, ⟨some 149, .mv (.t 20), some (148, false)⟩, ⟨some 150, .mv (.t 22), some (148, false)⟩, ⟨some 151, .eqf true false [(1, .b)] (.t 149) (.t 150), some (148, false)⟩, ⟨some 152, .pick (.t 148) (.k (.bool true)) (.t 151), none⟩] false) (.cond (.t 152) (.seq (.region [⟨some 2, .mv (.k (.bool false)), none⟩] false) .ret) .skip)))) (.seq (.region [⟨some 154, .bin .eql (.t 41) (.k (.int .i64 6)), none⟩, ⟨some 153, .mv (.t 154), none⟩] false) (.cond (.t 153) (.seq (.seq (.draw 0 [⟨0, ⟨some 155, .mv (.t 3), none⟩, [], none, []⟩, ⟨2, ⟨some 157, .mv (.t 4), none⟩, [], none, []⟩, ⟨3, ⟨some 158, .nck (.t 157), none⟩, [], none, []⟩, ⟨4, ⟨some 159, .faddr 4 (.t 158), none⟩, [], none, []⟩, ⟨5, ⟨some 160, .load none (.t 159), none⟩, [], none, []⟩, ⟨1, ⟨some 156, .call 38 [.t 155], none⟩, [], none, [⟨some 160, .load none (.t 159), none⟩]⟩, ⟨6, ⟨some 161, .eqf true false [(1, .b)] (.t 156) (.t 160), none⟩, [], none, []⟩]) (.cond (.t 161) (.seq (.region [⟨some 2, .mv (.k (.bool false)), none⟩] false) .ret) .skip)) (.region [⟨some 162, .mv (.t 4), none⟩, ⟨some 163, .nck (.t 162), none⟩, ⟨some 164, .faddr 4 (.t 163), none⟩, ⟨none, .store 1 (.t 164) (.k (.bool false)), none⟩] false)) (.seq (.region [⟨some 166, .bin .eql (.t 41) (.k (.int .i64 7)), none⟩, ⟨some 165, .mv (.t 166), none⟩] false) (.cond (.t 165) (.seq (.region [⟨some 167, .mv (.t 3), none⟩, ⟨some 168, .faddr 1 (.t 6), none⟩, ⟨some 169, .load none (.t 168), none⟩, ⟨some 170, .call 39 [.t 167, .t 169], none⟩, ⟨some 23, .mv (.t 170), none⟩] false) (.seq (.seq (.region [⟨some 24, .mv (.k (.int .i64 0)), none⟩] false) (.block 3 (.loop (.seq (.seq (.region [⟨some 171, .mv (.t 24), none⟩, ⟨some 172, .mv (.t 23), none⟩, ⟨some 173, .lenL (.t 172), none⟩, ⟨some 174, .bin .lss (.t 171) (.t 173), none⟩] false) (.cond (.t 174) .skip (.exit 3))) (.seq (.block 4 (.seq (.region [⟨some 178, .mv (.t 4), none⟩, ⟨some 179, .call 47 [.t 178], none⟩, ⟨some 177, .mv (.t 179), none⟩, ⟨some 180, .extract (.t 177) 0, none⟩, ⟨some 181, .extract (.t 177) 1, none⟩, ⟨some 25, .alloc 40 [.int .i64 0, .int .i64 0, .str []], none⟩, ⟨none, .store 3 (.t 25) (.t 180), none⟩, ⟨some 26, .mv (.t 181), none⟩] false) (.seq (.draw 0 [⟨0, ⟨some 182, .mv (.t 26), none⟩, [], none, []⟩, ⟨1, ⟨some 183, .un .not (.t 182), none⟩, [], none, []⟩, ⟨2, ⟨some 184, .mv (.t 183), none⟩, [], none, []⟩, ⟨3, ⟨some 185, .mv (.t 23), some (184, false)⟩, [], none, []⟩, ⟨4, ⟨some 186, .mv (.t 24), some (184, false)⟩, [], none, []⟩, ⟨5, ⟨some 187, .iaddrS 3 (.t 185) (.t 186), some (184, false)⟩, [], none, []⟩, ⟨6, ⟨some 188, .load (some 3) (.t 187), some (184, false)⟩, [], none, []⟩, ⟨7, ⟨some 189, .load (some 3) (.t 25), some (184, false)⟩, [], none, []⟩, ⟨8, ⟨some 190, .eqf true true [(1, .i), (1, .i), (1, .s)] (.t 188) (.t 189), some (184, false)⟩, [], none, []⟩, ⟨9, ⟨some 191, .pick (.t 184) (.k (.bool true)) (.t 190), none⟩, [], none, []⟩]) (.cond (.t 191) (.seq (.region [⟨some 2, .mv (.k (.bool false)), none⟩] false) .ret) .skip)))) (.region [⟨some 175, .mv (.t 24), none⟩, ⟨some 176, .bin .add (.t 175) (.k (.int .i64 1)), none⟩, ⟨some 24, .mv (.t 176), none⟩] false)))))) (.seq (.region [⟨some 192, .mv (.t 23), none⟩, ⟨some 193, .lenL (.t 192), none⟩, ⟨some 194, .faddr 1 (.t 6), none⟩, ⟨some 195, .load none (.t 194), none⟩, ⟨some 196, .minmax true [.t 195, .k (.int .i64 0)], none⟩, ⟨some 197, .bin .gtr (.t 193) (.t 196), none⟩, ⟨some 198, .mv (.t 197), none⟩, ⟨some 199, .mv (.t 23), some (198, false)⟩, ⟨some 200, .lenL (.t 199), some (198, false)⟩, ⟨some 201, .faddr 1 (.t 6), some (198, false)⟩, ⟨some 202, .load none (.t 201), some (198, false)⟩, ⟨some 203, .bin .lss (.t 200) (.t 202), some (198, false)⟩, ⟨some 204, .mv (.t 203), some (198, false)⟩, ⟨some 205, .mv (.t 4), some (204, true)⟩, ⟨some 206, .nck (.t 205), some (204, true)⟩, ⟨some 207, .faddr 2 (.t 206), some (204, true)⟩, ⟨some 208, .load none (.t 207), some (204, true)⟩, ⟨some 209, .lenL (.t 208), some (204, true)⟩, ⟨some 210, .bin .gtr (.t 209) (.k (.int .i64 0)), some (204, true)⟩, ⟨some 211, .pick (.t 204) (.t 210) (.k (.bool false)), some (198, false)⟩, ⟨some 212, .pick (.t 198) (.k (.bool true)) (.t 211), none⟩] false) (.cond (.t 212) (.seq (.region [⟨some 2, .mv (.k (.bool false)), none⟩] false) .ret) .skip)))) .skip)))))))))))))))))) (.seq (.draw 0 [⟨0, ⟨some 213, .mv (.t 3), none⟩, [], none, []⟩, ⟨2, ⟨some 215, .mv (.t 4), none⟩, [], none, []⟩, ⟨3, ⟨some 216, .nck (.t 215), none⟩, [], none, []⟩, ⟨4, ⟨some 217, .faddr 0 (.t 216), none⟩, [], none, []⟩, ⟨5, ⟨some 218, .load none (.t 217), none⟩, [], none, []⟩, ⟨6, ⟨some 219, .lenL (.t 218), none⟩, [], none, []⟩, ⟨1, ⟨some 214, .call 35 [.t 213], none⟩, [], none, [⟨some 218, .load none (.t 217), none⟩]⟩, ⟨7, ⟨some 220, .bin .neq (.t 214) (.t 219), none⟩, [], none, []⟩, ⟨8, ⟨some 221, .mv (.t 220), none⟩, [], none, []⟩, ⟨9, ⟨some 222, .mv (.t 3), some (221, false)⟩, [], none, []⟩, ⟨11, ⟨some 224, .mv (.t 4), some (221, false)⟩, [], none, []⟩, ⟨12, ⟨some 225, .nck (.t 224), some (221, false)⟩, [], none, []⟩, ⟨13, ⟨some 226, .faddr 1 (.t 225), some (221, false)⟩, [], none, []⟩, ⟨14, ⟨some 227, .load none (.t 226), some (221, false)⟩, [], none, []⟩, ⟨15, ⟨some 228, .lenL (.t 227), some (221, false)⟩, [], none, []⟩, ⟨10, ⟨some 223, .call 37 [.t 222], some (221, false)⟩, [], none, [⟨some 227, .load none (.t 226), some (221, false)⟩]⟩, ⟨16, ⟨some 229, .bin .neq (.t 223) (.t 228), some (221, false)⟩, [], none, []⟩, ⟨17, ⟨some 230, .pick (.t 221) (.k (.bool true)) (.t 229), none⟩, [], none, []⟩, ⟨18, ⟨some 231, .mv (.t 230), none⟩, [], none, []⟩, ⟨19, ⟨some 232, .mv (.t 3), some (231, false)⟩, [], none, []⟩, ⟨21, ⟨some 234, .mv (.t 4), some (231, false)⟩, [], none, []⟩, ⟨22, ⟨some 235, .nck (.t 234), some (231, false)⟩, [], none, []⟩, ⟨23, ⟨some 236, .faddr 2 (.t 235), some (231, false)⟩, [], none, []⟩, ⟨24, ⟨some 237, .load none (.t 236), some (231, false)⟩, [], none, []⟩, ⟨25, ⟨some 238, .lenL (.t 237), some (231, false)⟩, [], none, []⟩, ⟨20, ⟨some 233, .call 36 [.t 232], some (231, false)⟩, [], none, [⟨some 237, .load none (.t 236), some (231, false)⟩]⟩, ⟨26, ⟨some 239, .bin .neq (.t 233) (.t 238), some (231, false)⟩, [], none, []⟩, ⟨27, ⟨some 240, .pick (.t 231) (.k (.bool true)) (.t 239), none⟩, [], none, []⟩]) (.cond (.t 240) (.seq (.region [⟨some 2, .mv (.k (.bool false)), none⟩] false) .ret) .skip))))) (.region [⟨some 241, .bin .add (.t 36) (.k (.int .i64 1)), none⟩, ⟨some 36, .mv (.t 241), none⟩] false))))))) (.seq (.region [⟨some 2, .mv (.k (.bool true)), none⟩] false) .ret)))))⟩
theorem tr9 : trProg Try.prog 9 = some af9 := by kernel_rfl
def af11 : AF := ⟨15, [.t 0], .seq (.region [⟨some 0, .mv (.k (.bool false)), none⟩] false) (.seq (.region [⟨some 4, .build [.int .i64 0, .int .i64 0, .int .i64 0, .int .i64 0, .int .i64 0, .int .i64 0, .str [], .str []] [(0, (1, .k (.int .i64 7))), (1, (1, .k (.int .i64 2))), (2, (1, .k (.int .i64 2)))], none⟩, ⟨some 5, .call 13 [.t 4], none⟩, ⟨some 3, .mv (.t 5), none⟩, ⟨some 6, .extract (.t 3) 0, none⟩, ⟨some 7, .extract (.t 3) 1, none⟩, ⟨some 1, .mv (.t 6), none⟩, ⟨some 2, .mv (.t 7), none⟩] false) (.seq (.region [⟨some 8, .mv (.t 2), none⟩, ⟨some 9, .bin .eql (.t 8) (.k (.int .i64 0)), none⟩, ⟨some 10, .mv (.t 9), none⟩, ⟨some 11, .mv (.t 1), some (10, true)⟩, ⟨some 12, .lenS (.t 11), some (10, true)⟩, ⟨some 13, .bin .eql (.t 12) (.k (.int .i64 26)), some (10, true)⟩, ⟨some 14, .pick (.t 10) (.t 13) (.k (.bool false)), none⟩, ⟨some 0, .mv (.t 14), none⟩] false) .ret))⟩
theorem tr11 : trProg Try.prog 11 = some af11 := by kernel_rfl
def af12 : AF := ⟨126, [.t 2], .seq (.region [⟨some 1, .box 25 (.t 0), none⟩, ⟨some 2, .mv (.k (.bool false)), none⟩] false) (.seq (.seq (.region [⟨some 8, .faddr 1 (.t 1), none⟩, ⟨some 9, .load none (.t 8), none⟩, ⟨some 10, .bin .lss (.t 9) (.k (.int .i64 1)), none⟩, ⟨some 11, .mv (.t 10), none⟩, ⟨some 12, .faddr 1 (.t 1), some (11, false)⟩, ⟨some 13, .load none (.t 12), some (11, false)⟩, ⟨some 14, .bin .gtr (.t 13) (.k (.int .i64 19)), some (11, false)⟩, ⟨some 15, .pick (.t 11) (.k (.bool true)) (.t 14), none⟩, ⟨some 16, .mv (.t 15), none⟩, ⟨some 17, .faddr 0 (.t 1), some (16, false)⟩, ⟨some 18, .load none (.t 17), some (16, false)⟩, ⟨some 19, .call 48 [.t 18], some (16, false)⟩, ⟨some 20, .un .not (.t 19), some (16, false)⟩, ⟨some 21, .pick (.t 16) (.k (.bool true)) (.t 20), none⟩, ⟨some 22, .mv (.t 21), none⟩, ⟨some 23, .faddr 2 (.t 1), some (22, false)⟩, ⟨some 24, .load none (.t 23), some (22, false)⟩, ⟨some 25, .call 48 [.t 24], some (22, false)⟩, ⟨some 26, .un .not (.t 25), some (22, false)⟩, ⟨some 27, .pick (.t 22) (.k (.bool true)) (.t 26), none⟩, ⟨some 28, .mv (.t 27), none⟩, ⟨some 29, .faddr 3 (.t 1), some (28, false)⟩, ⟨some 30, .load none (.t 29), some (28, false)⟩, ⟨some 31, .call 48 [.t 30], some (28, false)⟩, ⟨some 32, .un .not (.t 31), some (28, false)⟩, ⟨some 33, .pick (.t 28) (.k (.bool true)) (.t 32), none⟩, ⟨some 34, .mv (.t 33), none⟩, ⟨some 35, .faddr 4 (.t 1), some (34, false)⟩, ⟨some 36, .load none (.t 35), some (34, false)⟩, ⟨some 37, .call 48 [.t 36], some (34, false)⟩, ⟨some 38, .un .not (.t 37), some (34, false)⟩, ⟨some 39, .pick (.t 34) (.k (.bool true)) (.t 38), none⟩, ⟨some 40, .mv (.t 39), none⟩, ⟨some 41, .faddr 5 (.t 1), some (40, false)⟩, ⟨some 42, .load none (.t 41), some (40, false)⟩, ⟨some 43, .call 48 [.t 42], some (40, false)⟩, ⟨some 44, .un .not (.t 43), some (40, false)⟩, ⟨some 45, .pick (.t 40) (.k (.bool true)) (.t 44), none⟩, ⟨some 46, .mv (.t 45), none⟩, ⟨some 47, .faddr 6 (.t 1), some (46, false)⟩, ⟨some 48, .load none (.t 47), some (46, false)⟩, ⟨some 49, .lenS (.t 48), some (46, false)⟩, ⟨some 50, .bin .gtr (.t 49) (.k (.int .i64 512)), some (46, false)⟩, ⟨some 51, .pick (.t 46) (.k (.bool true)) (.t 50), none⟩, ⟨some 52, .mv (.t 51), none⟩, ⟨some 53, .faddr 7 (.t 1), some (52, false)⟩, ⟨some 54, .load none (.t 53), some (52, false)⟩, ⟨some 55, .lenS (.t 54), some (52, false)⟩, ⟨some 56, .bin .gtr (.t 55) (.k (.int .i64 512)), some (52, false)⟩, ⟨some 57, .pick (.t 52) (.k (.bool true)) (.t 56), none⟩] false) (.cond (.t 57) (.seq (.region [⟨some 2, .mv (.k (.bool false)), none⟩] false) .ret) .skip)) (.seq (.region [⟨some 58, .faddr 1 (.t 1), none⟩, ⟨some 59, .load none (.t 58), none⟩, ⟨some 60, .bslice 3 1 [.int .i64 0, .int .i64 0, .int .i64 0, .int .i64 0, .int .i64 0, .int .i64 0, .int .i64 0, .int .i64 0] [(0, (1, .k (.int .i64 1))), (1, (1, .k (.int .i64 6))), (2, (1, .k (.int .i64 7))), (3, (1, .k (.int .i64 8))), (4, (1, .k (.int .i64 10))), (5, (1, .k (.int .i64 11))), (6, (1, .k (.int .i64 12))), (7, (1, .k (.int .i64 13)))], none⟩, ⟨some 61, .call 49 [.t 59, .t 60], none⟩, ⟨some 3, .mv (.t 61), none⟩] false) (.seq (.region [⟨some 62, .faddr 1 (.t 1), none⟩, ⟨some 63, .load none (.t 62), none⟩, ⟨some 64, .bslice 3 1 [.int .i64 0, .int .i64 0, .int .i64 0] [(0, (1, .k (.int .i64 8))), (1, (1, .k (.int .i64 13))), (2, (1, .k (.int .i64 15)))], none⟩, ⟨some 65, .call 49 [.t 63, .t 64], none⟩, ⟨some 4, .mv (.t 65), none⟩] false) (.seq (.region [⟨some 66, .faddr 1 (.t 1), none⟩, ⟨some 67, .load none (.t 66), none⟩, ⟨some 68, .bslice 3 1 [.int .i64 0, .int .i64 0] [(0, (1, .k (.int .i64 10))), (1, (1, .k (.int .i64 13)))], none⟩, ⟨some 69, .call 49 [.t 67, .t 68], none⟩, ⟨some 5, .mv (.t 69), none⟩] false) (.seq (.region [⟨some 70, .faddr 1 (.t 1), none⟩, ⟨some 71, .load none (.t 70), none⟩, ⟨some 72, .bslice 3 1 [.int .i64 0, .int .i64 0, .int .i64 0, .int .i64 0, .int .i64 0, .int .i64 0, .int .i64 0] [(0, (1, .k (.int .i64 3))), (1, (1, .k (.int .i64 4))), (2, (1, .k (.int .i64 5))), (3, (1, .k (.int .i64 6))), (4, (1, .k (.int .i64 7))), (5, (1, .k (.int .i64 14))), (6, (1, .k (.int .i64 15)))], none⟩, ⟨some 73, .call 49 [.t 71, .t 72], none⟩, ⟨some 6, .mv (.t 73), none⟩] false) (.seq (.region [⟨some 74, .faddr 1 (.t 1), none⟩, ⟨some 75, .load none (.t 74), none⟩, ⟨some 76, .bslice 3 1 [.int .i64 0, .int .i64 0, .int .i64 0, .int .i64 0] [(0, (1, .k (.int .i64 6))), (1, (1, .k (.int .i64 7))), (2, (1, .k (.int .i64 8))), (3, (1, .k (.int .i64 14)))], none⟩, ⟨some 77, .call 49 [.t 75, .t 76], none⟩, ⟨some 7, .mv (.t 77), none⟩] false) (.seq (.region [⟨some 78, .mv (.t 3), none⟩, ⟨some 79, .mv (.t 78), none⟩, ⟨some 80, .faddr 6 (.t 1), some (79, false)⟩, ⟨some 81, .load none (.t 80), some (79, false)⟩, ⟨some 82, .bin .eql (.t 81) (.k (.str [])), some (79, false)⟩, ⟨some 83, .pick (.t 79) (.k (.bool true)) (.t 82), none⟩, ⟨some 84, .mv (.t 83), none⟩, ⟨some 85, .mv (.t 4), some (84, true)⟩, ⟨some 86, .mv (.t 85), some (84, true)⟩, ⟨some 87, .faddr 7 (.t 1), some (86, false)⟩, ⟨some 88, .load none (.t 87), some (86, false)⟩, ⟨some 89, .bin .eql (.t 88) (.k (.str [])), some (86, false)⟩, ⟨some 90, .pick (.t 86) (.k (.bool true)) (.t 89), some (84, true)⟩, ⟨some 91, .pick (.t 84) (.t 90) (.k (.bool false)), none⟩, ⟨some 92, .mv (.t 91), none⟩, ⟨some 93, .mv (.t 5), some (92, true)⟩, ⟨some 94, .mv (.t 93), some (92, true)⟩, ⟨some 95, .faddr 3 (.t 1), some (94, false)⟩, ⟨some 96, .load none (.t 95), some (94, false)⟩, ⟨some 97, .bin .eql (.t 96) (.k (.int .i64 0)), some (94, false)⟩, ⟨some 98, .pick (.t 94) (.k (.bool true)) (.t 97), some (92, true)⟩, ⟨some 99, .pick (.t 92) (.t 98) (.k (.bool false)), none⟩, ⟨some 100, .mv (.t 99), none⟩, ⟨some 101, .mv (.t 6), some (100, true)⟩, ⟨some 102, .mv (.t 101), some (100, true)⟩, ⟨some 103, .faddr 4 (.t 1), some (102, false)⟩, ⟨some 104, .load none (.t 103), some (102, false)⟩, ⟨some 105, .bin .eql (.t 104) (.k (.int .i64 0)), some (102, false)⟩, ⟨some 106, .pick (.t 102) (.k (.bool true)) (.t 105), some (100, true)⟩, ⟨some 107, .pick (.t 100) (.t 106) (.k (.bool false)), none⟩, ⟨some 108, .mv (.t 107), none⟩, ⟨some 109, .mv (.t 7), some (108, true)⟩, ⟨some 110, .mv (.t 109), some (108, true)⟩, ⟨some 111, .faddr 5 (.t 1), some (110, false)⟩, ⟨some 112, .load none (.t 111), some (110, false)⟩, ⟨some 113, .bin .eql (.t 112) (.k (.int .i64 0)), some (110, false)⟩, ⟨some 114, .pick (.t 110) (.k (.bool true)) (.t 113), some (108, true)⟩, ⟨some 115, .pick (.t 108) (.t 114) (.k (.bool false)), none⟩, ⟨some 116, .mv (.t 115), none⟩, ⟨some 117, .faddr 1 (.t 1), some (116, true)⟩, ⟨some 118, .load none (.t 117), some (116, true)⟩, ⟨some 119, .bin .neq (.t 118) (.k (.int .i64 19)), some (116, true)⟩, ⟨some 120, .mv (.t 119), some (116, true)⟩, ⟨some 121, .faddr 2 (.t 1), some (120, false)⟩, ⟨some 122, .load none (.t 121), some (120, false)⟩, ⟨some 123, .bin .eql (.t 122) (.k (.int .i64 0)), some (120, false)⟩, ⟨some 124, .pick (.t 120) (.k (.bool true)) (.t 123), some (116, true)⟩, ⟨some 125, .pick (.t 116) (.t 124) (.k (.bool false)), none⟩, ⟨some 2, .mv (.t 125), none⟩] false) .ret)))))))⟩
theorem tr12 : trProg Try.prog 12 = some af12 := by kernel_rfl
def af13 : AF := ⟨32, [.t 2, .t 3], .seq (.region [⟨some 1, .box 23 (.t 0), none⟩, ⟨some 2, .mv (.k (.str [])), none⟩, ⟨some 3, .mv (.k (.int .i64 0)), none⟩] false) (.seq (.seq (.region [⟨some 5, .load (some 8) (.t 1), none⟩, ⟨some 6, .call 14 [.t 5], none⟩, ⟨some 7, .un .not (.t 6), none⟩] false) (.cond (.t 7) (.seq (.region [⟨some 2, .mv (.k (.str [])), none⟩, ⟨some 3, .mv (.k (.int .i64 22)), none⟩] false) .ret) .skip)) (.seq (.region [⟨some 4, .alloc 105 [.nilp, .nils], none⟩] false) (.seq (.region [⟨some 8, .call 50 [.t 4, .k (.int .i64 1), .k (.int .i64 1)], none⟩] false) (.seq (.region [⟨some 9, .faddr 1 (.t 1), none⟩, ⟨some 10, .load none (.t 9), none⟩, ⟨some 11, .call 50 [.t 4, .t 10, .k (.int .i64 1)], none⟩] false) (.seq (.region [⟨some 12, .faddr 0 (.t 1), none⟩, ⟨some 13, .load none (.t 12), none⟩, ⟨some 14, .faddr 2 (.t 1), none⟩, ⟨some 15, .load none (.t 14), none⟩, ⟨some 16, .faddr 3 (.t 1), none⟩, ⟨some 17, .load none (.t 16), none⟩, ⟨some 18, .faddr 4 (.t 1), none⟩, ⟨some 19, .load none (.t 18), none⟩, ⟨some 20, .faddr 5 (.t 1), none⟩, ⟨some 21, .load none (.t 20), none⟩, ⟨some 22, .bslice 3 1 [.int .i64 0, .int .i64 0, .int .i64 0, .int .i64 0, .int .i64 0] [(0, (1, .t 13)), (1, (1, .t 15)), (2, (1, .t 17)), (3, (1, .t 19)), (4, (1, .t 21))], none⟩, ⟨some 23, .call 51 [.t 4, .t 22], none⟩] false) (.seq (.region [⟨some 24, .faddr 6 (.t 1), none⟩, ⟨some 25, .load none (.t 24), none⟩, ⟨some 26, .call 52 [.t 4, .t 25], none⟩] false) (.seq (.region [⟨some 27, .faddr 7 (.t 1), none⟩, ⟨some 28, .load none (.t 27), none⟩, ⟨some 29, .call 52 [.t 4, .t 28], none⟩] false) (.seq (.region [⟨some 30, .faddr 0 (.t 4), none⟩, ⟨some 31, .call 53 [.t 30], none⟩, ⟨some 2, .mv (.t 31), none⟩, ⟨some 3, .mv (.k (.int .i64 0)), none⟩] false) .ret))))))))⟩
theorem tr13 : trProg Try.prog 13 = some af13 := by kernel_rfl
def af14 : AF := ⟨42, [.t 2], .seq (.region [⟨some 1, .box 23 (.t 0), none⟩, ⟨some 2, .mv (.k (.bool false)), none⟩] false) (.seq (.region [⟨some 6, .load (some 8) (.t 1), none⟩, ⟨some 7, .call 54 [.t 6], none⟩, ⟨some 5, .mv (.t 7), none⟩, ⟨some 8, .extract (.t 5) 0, none⟩, ⟨some 9, .extract (.t 5) 1, none⟩, ⟨some 3, .alloc 23 [.int .i64 0, .int .i64 0, .int .i64 0, .int .i64 0, .int .i64 0, .int .i64 0, .str [], .str []], none⟩, ⟨none, .store 8 (.t 3) (.t 8), none⟩, ⟨some 4, .mv (.t 9), none⟩] false) (.seq (.region [⟨some 10, .mv (.t 4), none⟩, ⟨some 11, .mv (.t 10), none⟩, ⟨some 12, .load (some 8) (.t 3), some (11, true)⟩, ⟨some 13, .load (some 8) (.t 1), some (11, true)⟩, ⟨some 14, .eqf false true [(1, .i), (1, .i), (1, .i), (1, .i), (1, .i), (1, .i), (1, .s), (1, .s)] (.t 12) (.t 13), some (11, true)⟩, ⟨some 15, .pick (.t 11) (.t 14) (.k (.bool false)), none⟩, ⟨some 16, .mv (.t 15), none⟩, ⟨some 17, .faddr 0 (.t 1), some (16, true)⟩, ⟨some 18, .load none (.t 17), some (16, true)⟩, ⟨some 19, .faddr 2 (.t 1), some (16, true)⟩, ⟨some 20, .load none (.t 19), some (16, true)⟩, ⟨some 21, .faddr 3 (.t 1), some (16, true)⟩, ⟨some 22, .load none (.t 21), some (16, true)⟩, ⟨some 23, .faddr 4 (.t 1), some (16, true)⟩, ⟨some 24, .load none (.t 23), some (16, true)⟩, ⟨some 25, .faddr 5 (.t 1), some (16, true)⟩, ⟨some 26, .load none (.t 25), some (16, true)⟩, ⟨some 27, .bslice 3 1 [.int .i64 0, .int .i64 0, .int .i64 0, .int .i64 0, .int .i64 0] [(0, (1, .t 18)), (1, (1, .t 20)), (2, (1, .t 22)), (3, (1, .t 24)), (4, (1, .t 26))], some (16, true)⟩, ⟨some 28, .call 55 [.t 27], some (16, true)⟩, ⟨some 29, .pick (.t 16) (.t 28) (.k (.bool false)), none⟩, ⟨some 30, .mv (.t 29), none⟩, ⟨some 31, .faddr 6 (.t 1), some (30, true)⟩, ⟨some 32, .load none (.t 31), some (30, true)⟩, ⟨some 33, .lenS (.t 32), some (30, true)⟩, ⟨some 34, .bin .leq (.t 33) (.k (.int .i64 512)), some (30, true)⟩, ⟨some 35, .pick (.t 30) (.t 34) (.k (.bool false)), none⟩, ⟨some 36, .mv (.t 35), none⟩, ⟨some 37, .faddr 7 (.t 1), some (36, true)⟩, ⟨some 38, .load none (.t 37), some (36, true)⟩, ⟨some 39, .lenS (.t 38), some (36, true)⟩, ⟨some 40, .bin .leq (.t 39) (.k (.int .i64 512)), some (36, true)⟩, ⟨some 41, .pick (.t 36) (.t 40) (.k (.bool false)), none⟩, ⟨some 2, .mv (.t 41), none⟩] false) .ret))⟩
theorem tr14 : trProg Try.prog 14 = some af14 := by kernel_rfl
def af18 : AF := ⟨32, [.t 2], .seq (.region [⟨some 1, .box 40 (.t 0), none⟩, ⟨some 2, .mv (.k (.bool false)), none⟩] false) (.seq (.region [⟨some 3, .faddr 1 (.t 1), none⟩, ⟨some 4, .load none (.t 3), none⟩, ⟨some 5, .bin .geq (.t 4) (.k (.int .i64 1)), none⟩, ⟨some 6, .mv (.t 5), none⟩, ⟨some 7, .faddr 1 (.t 1), some (6, true)⟩, ⟨some 8, .load none (.t 7), some (6, true)⟩, ⟨some 9, .bin .leq (.t 8) (.k (.int .i64 128)), some (6, true)⟩, ⟨some 10, .pick (.t 6) (.t 9) (.k (.bool false)), none⟩, ⟨some 11, .mv (.t 10), none⟩, ⟨some 12, .faddr 0 (.t 1), some (11, true)⟩, ⟨some 13, .load none (.t 12), some (11, true)⟩, ⟨some 14, .bin .eql (.t 13) (.k (.int .i64 1)), some (11, true)⟩, ⟨some 15, .mv (.t 14), some (11, true)⟩, ⟨some 16, .faddr 2 (.t 1), some (15, true)⟩, ⟨some 17, .load none (.t 16), some (15, true)⟩, ⟨some 18, .bin .eql (.t 17) (.k (.str [])), some (15, true)⟩, ⟨some 19, .pick (.t 15) (.t 18) (.k (.bool false)), some (11, true)⟩, ⟨some 20, .mv (.t 19), some (11, true)⟩, ⟨some 21, .faddr 0 (.t 1), some (20, false)⟩, ⟨some 22, .load none (.t 21), some (20, false)⟩, ⟨some 23, .bin .eql (.t 22) (.k (.int .i64 2)), some (20, false)⟩, ⟨some 24, .mv (.t 23), some (20, false)⟩, ⟨some 25, .faddr 2 (.t 1), some (24, true)⟩, ⟨some 26, .load none (.t 25), some (24, true)⟩, ⟨some 27, .call 64 [.t 26], some (24, true)⟩, ⟨some 28, .bin .eql (.t 27) (.k (.int .i64 0)), some (24, true)⟩, ⟨some 29, .pick (.t 24) (.t 28) (.k (.bool false)), some (20, false)⟩, ⟨some 30, .pick (.t 20) (.k (.bool true)) (.t 29), some (11, true)⟩, ⟨some 31, .pick (.t 11) (.t 30) (.k (.bool false)), none⟩, ⟨some 2, .mv (.t 31), none⟩] false) .ret)⟩
theorem tr18 : trProg Try.prog 18 = some af18 := by kernel_rfl
def af20 : AF := ⟨26, [.t 2], .seq (.region [⟨some 1, .box 39 (.t 0), none⟩, ⟨some 2, .mv (.k (.bool false)), none⟩] false) (.seq (.seq (.region [⟨some 3, .faddr 1 (.t 1), none⟩, ⟨some 4, .load none (.t 3), none⟩, ⟨some 5, .call 65 [.t 4, .k (.int .i64 1), .k (.int .i64 128)], none⟩, ⟨some 6, .un .not (.t 5), none⟩] false) (.cond (.t 6) (.seq (.region [⟨some 2, .mv (.k (.bool false)), none⟩] false) .ret) .skip)) (.seq (.region [⟨some 7, .faddr 0 (.t 1), none⟩, ⟨some 8, .load none (.t 7), none⟩, ⟨some 9, .bin .eql (.t 8) (.k (.int .i64 1)), none⟩, ⟨some 10, .mv (.t 9), none⟩, ⟨some 11, .faddr 2 (.t 1), some (10, true)⟩, ⟨some 12, .load none (.t 11), some (10, true)⟩, ⟨some 13, .bin .eql (.t 12) (.k (.str [])), some (10, true)⟩, ⟨some 14, .pick (.t 10) (.t 13) (.k (.bool false)), none⟩, ⟨some 15, .mv (.t 14), none⟩, ⟨some 16, .faddr 0 (.t 1), some (15, false)⟩, ⟨some 17, .load none (.t 16), some (15, false)⟩, ⟨some 18, .bin .eql (.t 17) (.k (.int .i64 2)), some (15, false)⟩, ⟨some 19, .mv (.t 18), some (15, false)⟩, ⟨some 20, .faddr 2 (.t 1), some (19, true)⟩, ⟨some 21, .load none (.t 20), some (19, true)⟩, ⟨some 22, .call 66 [.t 21], some (19, true)⟩, ⟨some 23, .bin .eql (.t 22) (.k (.int .i64 0)), some (19, true)⟩, ⟨some 24, .pick (.t 19) (.t 23) (.k (.bool false)), some (15, false)⟩, ⟨some 25, .pick (.t 15) (.k (.bool true)) (.t 24), none⟩, ⟨some 2, .mv (.t 25), none⟩] false) .ret))⟩
theorem tr20 : trProg Try.prog 20 = some af20 := by kernel_rfl
def af24 : AF := ⟨61, [.t 2], .seq (.region [⟨some 1, .box 51 (.t 0), none⟩, ⟨some 2, .mv (.k (.bool false)), none⟩] false) (.seq (.region [⟨some 3, .faddr 0 (.t 1), none⟩, ⟨some 4, .load none (.t 3), none⟩, ⟨some 5, .bin .geq (.t 4) (.k (.int .i64 1)), none⟩, ⟨some 6, .mv (.t 5), none⟩, ⟨some 7, .faddr 0 (.t 1), some (6, true)⟩, ⟨some 8, .load none (.t 7), some (6, true)⟩, ⟨some 9, .bin .leq (.t 8) (.k (.int .i64 128)), some (6, true)⟩, ⟨some 10, .pick (.t 6) (.t 9) (.k (.bool false)), none⟩, ⟨some 11, .mv (.t 10), none⟩, ⟨some 12, .faddr 1 (.t 1), some (11, true)⟩, ⟨some 13, .load none (.t 12), some (11, true)⟩, ⟨some 14, .bin .geq (.t 13) (.k (.int .i64 1)), some (11, true)⟩, ⟨some 15, .pick (.t 11) (.t 14) (.k (.bool false)), none⟩, ⟨some 16, .mv (.t 15), none⟩, ⟨some 17, .faddr 1 (.t 1), some (16, true)⟩, ⟨some 18, .load none (.t 17), some (16, true)⟩, ⟨some 19, .bin .leq (.t 18) (.k (.int .i64 3)), some (16, true)⟩, ⟨some 20, .pick (.t 16) (.t 19) (.k (.bool false)), none⟩, ⟨some 21, .mv (.t 20), none⟩, ⟨some 22, .faddr 2 (.t 1), some (21, true)⟩, ⟨some 23, .load none (.t 22), some (21, true)⟩, ⟨some 24, .bin .geq (.t 23) (.k (.int .i64 0)), some (21, true)⟩, ⟨some 25, .pick (.t 21) (.t 24) (.k (.bool false)), none⟩, ⟨some 26, .mv (.t 25), none⟩, ⟨some 27, .faddr 2 (.t 1), some (26, true)⟩, ⟨some 28, .load none (.t 27), some (26, true)⟩, ⟨some 29, .bin .leq (.t 28) (.k (.int .i64 511)), some (26, true)⟩, ⟨some 30, .pick (.t 26) (.t 29) (.k (.bool false)), none⟩, ⟨some 31, .mv (.t 30), none⟩, ⟨some 32, .faddr 3 (.t 1), some (31, true)⟩, ⟨some 33, .load none (.t 32), some (31, true)⟩, ⟨some 34, .bin .geq (.t 33) (.k (.int .i64 0)), some (31, true)⟩, ⟨some 35, .pick (.t 31) (.t 34) (.k (.bool false)), none⟩, ⟨some 36, .mv (.t 35), none⟩, ⟨some 37, .faddr 3 (.t 1), some (36, true)⟩, ⟨some 38, .load none (.t 37), some (36, true)⟩, ⟨some 39, .bin .leq (.t 38) (.k (.int .i64 65535)), some (36, true)⟩, ⟨some 40, .pick (.t 36) (.t 39) (.k (.bool false)), none⟩, ⟨some 41, .mv (.t 40), none⟩, ⟨some 42, .faddr 4 (.t 1), some (41, true)⟩, ⟨some 43, .load none (.t 42), some (41, true)⟩, ⟨some 44, .bin .geq (.t 43) (.k (.int .i64 0)), some (41, true)⟩, ⟨some 45, .pick (.t 41) (.t 44) (.k (.bool false)), none⟩, ⟨some 46, .mv (.t 45), none⟩, ⟨some 47, .faddr 4 (.t 1), some (46, true)⟩, ⟨some 48, .load none (.t 47), some (46, true)⟩, ⟨some 49, .bin .leq (.t 48) (.k (.int .i64 40)), some (46, true)⟩, ⟨some 50, .pick (.t 46) (.t 49) (.k (.bool false)), none⟩, ⟨some 51, .mv (.t 50), none⟩, ⟨some 52, .faddr 5 (.t 1), some (51, true)⟩, ⟨some 53, .load none (.t 52), some (51, true)⟩, ⟨some 54, .bin .geq (.t 53) (.k (.int .i64 0)), some (51, true)⟩, ⟨some 55, .pick (.t 51) (.t 54) (.k (.bool false)), none⟩, ⟨some 56, .mv (.t 55), none⟩, ⟨some 57, .faddr 5 (.t 1), some (56, true)⟩, ⟨some 58, .load none (.t 57), some (56, true)⟩, ⟨some 59, .bin .leq (.t 58) (.k (.int .i64 67840)), some (56, true)⟩, ⟨some 60, .pick (.t 56) (.t 59) (.k (.bool false)), none⟩, ⟨some 2, .mv (.t 60), none⟩] false) .ret)⟩
theorem tr24 : trProg Try.prog 24 = some af24 := by kernel_rfl
def af25 : AF := ⟨31, [.t 2], .seq (.region [⟨some 1, .box 51 (.t 0), none⟩, ⟨some 2, .mv (.k (.bool false)), none⟩] false) (.seq (.region [⟨some 3, .faddr 0 (.t 1), none⟩, ⟨some 4, .load none (.t 3), none⟩, ⟨some 5, .call 65 [.t 4, .k (.int .i64 1), .k (.int .i64 128)], none⟩, ⟨some 6, .mv (.t 5), none⟩, ⟨some 7, .faddr 1 (.t 1), some (6, true)⟩, ⟨some 8, .load none (.t 7), some (6, true)⟩, ⟨some 9, .call 65 [.t 8, .k (.int .i64 1), .k (.int .i64 3)], some (6, true)⟩, ⟨some 10, .pick (.t 6) (.t 9) (.k (.bool false)), none⟩, ⟨some 11, .mv (.t 10), none⟩, ⟨some 12, .faddr 2 (.t 1), some (11, true)⟩, ⟨some 13, .load none (.t 12), some (11, true)⟩, ⟨some 14, .call 65 [.t 13, .k (.int .i64 0), .k (.int .i64 511)], some (11, true)⟩, ⟨some 15, .pick (.t 11) (.t 14) (.k (.bool false)), none⟩, ⟨some 16, .mv (.t 15), none⟩, ⟨some 17, .faddr 3 (.t 1), some (16, true)⟩, ⟨some 18, .load none (.t 17), some (16, true)⟩, ⟨some 19, .call 65 [.t 18, .k (.int .i64 0), .k (.int .i64 65535)], some (16, true)⟩, ⟨some 20, .pick (.t 16) (.t 19) (.k (.bool false)), none⟩, ⟨some 21, .mv (.t 20), none⟩, ⟨some 22, .faddr 4 (.t 1), some (21, true)⟩, ⟨some 23, .load none (.t 22), some (21, true)⟩, ⟨some 24, .call 65 [.t 23, .k (.int .i64 0), .k (.int .i64 40)], some (21, true)⟩, ⟨some 25, .pick (.t 21) (.t 24) (.k (.bool false)), none⟩, ⟨some 26, .mv (.t 25), none⟩, ⟨some 27, .faddr 5 (.t 1), some (26, true)⟩, ⟨some 28, .load none (.t 27), some (26, true)⟩, ⟨some 29, .call 65 [.t 28, .k (.int .i64 0), .k (.int .i64 67840)], some (26, true)⟩, ⟨some 30, .pick (.t 26) (.t 29) (.k (.bool false)), none⟩, ⟨some 2, .mv (.t 30), none⟩] false) .ret)⟩
theorem tr25 : trProg Try.prog 25 = some af25 := by kernel_rfl
def af27 : AF := ⟨77, [.t 0], .seq (.region [⟨some 0, .mv (.k (.bool false)), none⟩] false) (.seq (.region [⟨some 14, .call 29 [], none⟩, ⟨some 1, .mv (.t 14), none⟩] false) (.seq (.region [⟨some 16, .mv (.t 1), none⟩, ⟨some 17, .build [.int .i64 0, .int .i64 0, .int .i64 0, .int .i64 0, .int .i64 0, .int .i64 0, .str [], .str []] [(1, (1, .k (.int .i64 2))), (2, (1, .k (.int .i64 1)))], none⟩, ⟨some 18, .call 30 [.t 16, .t 17], none⟩, ⟨some 15, .mv (.t 18), none⟩, ⟨some 19, .extract (.t 15) 0, none⟩, ⟨some 20, .extract (.t 15) 1, none⟩, ⟨some 2, .mv (.t 19), none⟩, ⟨some 3, .mv (.t 20), none⟩] false) (.seq (.region [⟨some 22, .mv (.t 1), none⟩, ⟨some 23, .build [.int .i64 0, .int .i64 0, .int .i64 0, .int .i64 0, .int .i64 0, .int .i64 0, .str [], .str []] [(1, (1, .k (.int .i64 19)))], none⟩, ⟨some 24, .call 30 [.t 22, .t 23], none⟩, ⟨some 21, .mv (.t 24), none⟩, ⟨some 25, .extract (.t 21) 0, none⟩, ⟨some 26, .extract (.t 21) 1, none⟩, ⟨some 4, .mv (.t 25), none⟩, ⟨some 5, .mv (.t 26), none⟩] false) (.seq (.region [⟨some 28, .mv (.t 1), none⟩, ⟨some 29, .call 31 [.t 28], none⟩, ⟨some 27, .mv (.t 29), none⟩, ⟨some 30, .extract (.t 27) 0, none⟩, ⟨some 31, .extract (.t 27) 1, none⟩, ⟨some 6, .alloc 23 [.int .i64 0, .int .i64 0, .int .i64 0, .int .i64 0, .int .i64 0, .int .i64 0, .str [], .str []], none⟩, ⟨none, .store 8 (.t 6) (.t 30), none⟩, ⟨some 7, .mv (.t 31), none⟩] false) (.seq (.region [⟨some 33, .mv (.t 1), none⟩, ⟨some 34, .call 32 [.t 33, .k (.int .i64 1)], none⟩, ⟨some 32, .mv (.t 34), none⟩, ⟨some 35, .extract (.t 32) 0, none⟩, ⟨some 36, .extract (.t 32) 1, none⟩, ⟨some 8, .mv (.t 35), none⟩, ⟨some 9, .mv (.t 36), none⟩] false) (.seq (.region [⟨some 38, .mv (.t 1), none⟩, ⟨some 39, .call 32 [.t 38, .k (.int .i64 1)], none⟩, ⟨some 37, .mv (.t 39), none⟩, ⟨some 40, .extract (.t 37) 0, none⟩, ⟨some 41, .extract (.t 37) 1, none⟩, ⟨some 10, .mv (.t 40), none⟩, ⟨some 11, .mv (.t 41), none⟩] false) (.seq (.region [⟨some 43, .mv (.t 1), none⟩, ⟨some 44, .call 32 [.t 43, .k (.int .i64 2)], none⟩, ⟨some 42, .mv (.t 44), none⟩, ⟨some 45, .extract (.t 42) 0, none⟩, ⟨some 46, .extract (.t 42) 1, none⟩, ⟨some 12, .mv (.t 45), none⟩, ⟨some 13, .mv (.t 46), none⟩] false) (.seq (.region [⟨some 47, .mv (.t 2), none⟩, ⟨some 48, .bin .eql (.t 47) (.k (.int .i64 1)), none⟩, ⟨some 49, .mv (.t 48), none⟩, ⟨some 50, .mv (.t 4), some (49, true)⟩, ⟨some 51, .bin .eql (.t 50) (.k (.int .i64 2)), some (49, true)⟩, ⟨some 52, .pick (.t 49) (.t 51) (.k (.bool false)), none⟩, ⟨some 53, .mv (.t 52), none⟩, ⟨some 54, .mv (.t 7), some (53, true)⟩, ⟨some 55, .pick (.t 53) (.t 54) (.k (.bool false)), none⟩, ⟨some 56, .mv (.t 55), none⟩, ⟨some 57, .faddr 0 (.t 6), some (56, true)⟩, ⟨some 58, .load none (.t 57), some (56, true)⟩, ⟨some 59, .bin .eql (.t 58) (.k (.int .i64 1)), some (56, true)⟩, ⟨some 60, .pick (.t 56) (.t 59) (.k (.bool false)), none⟩, ⟨some 61, .mv (.t 60), none⟩, ⟨some 62, .mv (.t 8), some (61, true)⟩, ⟨some 63, .bin .eql (.t 62) (.k (.int .i64 2)), some (61, true)⟩, ⟨some 64, .pick (.t 61) (.t 63) (.k (.bool false)), none⟩, ⟨some 65, .mv (.t 64), none⟩, ⟨some 66, .mv (.t 9), some (65, true)⟩, ⟨some 67, .bin .eql (.t 66) (.k (.int .i64 0)), some (65, true)⟩, ⟨some 68, .pick (.t 65) (.t 67) (.k (.bool false)), none⟩, ⟨some 69, .mv (.t 68), none⟩, ⟨some 70, .mv (.t 11), some (69, true)⟩, ⟨some 71, .bin .eql (.t 70) (.k (.int .i64 22)), some (69, true)⟩, ⟨some 72, .pick (.t 69) (.t 71) (.k (.bool false)), none⟩, ⟨some 73, .mv (.t 72), none⟩, ⟨some 74, .mv (.t 13), some (73, true)⟩, ⟨some 75, .bin .eql (.t 74) (.k (.int .i64 22)), some (73, true)⟩, ⟨some 76, .pick (.t 73) (.t 75) (.k (.bool false)), none⟩, ⟨some 0, .mv (.t 76), none⟩] false) .ret))))))))⟩
theorem tr27 : trProg Try.prog 27 = some af27 := by kernel_rfl
def af28 : AF := ⟨47, [.t 2], .seq (.region [⟨some 2, .mv (.k (.bool false)), none⟩] false) (.seq (.seq (.region [⟨some 7, .mv (.t 0), none⟩, ⟨some 8, .lenL (.t 7), none⟩, ⟨some 9, .bin .gtr (.t 8) (.k (.int .i64 150)), none⟩] false) (.cond (.t 9) (.seq (.region [⟨some 2, .mv (.k (.bool true)), none⟩] false) .ret) .skip)) (.seq (.seq (.region [⟨some 10, .mv (.t 0), none⟩, ⟨some 11, .lenL (.t 10), none⟩, ⟨some 12, .mv (.k (.int .i64 0)), none⟩] false) (.block 0 (.loop (.seq (.region [⟨some 13, .bin .lss (.t 12) (.t 11), none⟩] false) (.seq (.cond (.t 13) .skip (.exit 0)) (.seq (.block 1 (.seq (.region [⟨some 14, .iaddrS 11 (.t 10) (.t 12), none⟩, ⟨some 15, .load (some 11) (.t 14), none⟩, ⟨some 4, .alloc 69 [.int .i64 0, .int .i64 0, .int .i64 0, .int .i64 0, .int .i64 0, .int .i64 0, .int .i64 0, .int .i64 0, .str [], .str [], .nils], none⟩, ⟨none, .store 11 (.t 4) (.t 15), none⟩] false) (.seq (.seq (.region [⟨some 16, .faddr 10 (.t 4), none⟩, ⟨some 17, .load none (.t 16), none⟩, ⟨some 18, .lenL (.t 17), none⟩, ⟨some 19, .bin .gtr (.t 18) (.k (.int .i64 40)), none⟩, ⟨some 20, .mv (.t 19), none⟩, ⟨some 21, .faddr 2 (.t 4), some (20, false)⟩, ⟨some 22, .faddr 6 (.t 21), some (20, false)⟩, ⟨some 23, .load none (.t 22), some (20, false)⟩, ⟨some 24, .lenS (.t 23), some (20, false)⟩, ⟨some 25, .bin .gtr (.t 24) (.k (.int .i64 1000)), some (20, false)⟩, ⟨some 26, .pick (.t 20) (.k (.bool true)) (.t 25), none⟩, ⟨some 27, .mv (.t 26), none⟩, ⟨some 28, .faddr 2 (.t 4), some (27, false)⟩, ⟨some 29, .faddr 7 (.t 28), some (27, false)⟩, ⟨some 30, .load none (.t 29), some (27, false)⟩, ⟨some 31, .lenS (.t 30), some (27, false)⟩, ⟨some 32, .bin .gtr (.t 31) (.k (.int .i64 1000)), some (27, false)⟩, ⟨some 33, .pick (.t 27) (.k (.bool true)) (.t 32), none⟩] false) (.cond (.t 33) (.seq (.region [⟨some 2, .mv (.k (.bool true)), none⟩] false) .ret) .skip)) (.seq (.region [⟨some 34, .faddr 10 (.t 4), none⟩, ⟨some 35, .load none (.t 34), none⟩, ⟨some 36, .lenL (.t 35), none⟩, ⟨some 37, .mv (.k (.int .i64 0)), none⟩] false) (.block 2 (.loop (.seq (.region [⟨some 38, .bin .lss (.t 37) (.t 36), none⟩] false) (.seq (.cond (.t 38) .skip (.exit 2)) (.seq (.block 3 (.seq (.region [⟨some 39, .iaddrS 3 (.t 35) (.t 37), none⟩, ⟨some 40, .load (some 3) (.t 39), none⟩, ⟨some 6, .alloc 39 [.int .i64 0, .int .i64 0, .str []], none⟩, ⟨none, .store 3 (.t 6) (.t 40), none⟩] false) (.seq (.region [⟨some 41, .faddr 2 (.t 6), none⟩, ⟨some 42, .load none (.t 41), none⟩, ⟨some 43, .lenS (.t 42), none⟩, ⟨some 44, .bin .gtr (.t 43) (.k (.int .i64 300)), none⟩] false) (.cond (.t 44) (.seq (.region [⟨some 2, .mv (.k (.bool true)), none⟩] false) .ret) .skip)))) (.region [⟨some 45, .bin .add (.t 37) (.k (.int .i64 1)), none⟩, ⟨some 37, .mv (.t 45), none⟩] false)))))))))) (.region [⟨some 46, .bin .add (.t 12) (.k (.int .i64 1)), none⟩, ⟨some 12, .mv (.t 46), none⟩] false))))))) (.seq (.region [⟨some 2, .mv (.k (.bool false)), none⟩] false) .ret)))⟩
theorem tr28 : trProg Try.prog 28 = some af28 := by kernel_rfl
def af29 : AF := ⟨7, [.t 0], .seq (.region [⟨some 0, .mv (.k .nilp), none⟩] false) (.seq (.draw 5 [⟨0, ⟨some 1, .mkChan 8, none⟩, [], some 0, []⟩, ⟨1, ⟨some 2, .mkChan 16, none⟩, [], some 1, []⟩, ⟨2, ⟨some 3, .mkMap, none⟩, [], some 2, []⟩, ⟨3, ⟨some 4, .mkMap, none⟩, [], some 3, []⟩, ⟨4, ⟨some 5, .build [.nilc, .nilc, .nilm, .nilm, .int .i64 0, .bool false] [(0, (1, .t 1)), (1, (1, .t 2)), (2, (1, .t 3)), (3, (1, .t 4))], none⟩, [3, 2, 1, 0], none, []⟩, ⟨5, ⟨some 6, .box 136 (.t 5), none⟩, [3, 2, 1, 0], some 4, []⟩, ⟨6, ⟨some 0, .mv (.t 6), none⟩, [4, 3, 2, 1, 0], none, []⟩]) .ret)⟩
theorem tr29 : trProg Try.prog 29 = some af29 := by kernel_rfl
def af30 : AF := ⟨38, [.t 4, .t 5], .seq (.region [⟨some 3, .box 23 (.t 1), none⟩, ⟨some 4, .mv (.k (.int .i64 0)), none⟩, ⟨some 5, .mv (.k (.int .i64 0)), none⟩] false) (.seq (.seq (.region [⟨some 6, .mv (.t 0), none⟩, ⟨some 7, .eqf false false [(1, .p)] (.t 6) (.k .nilp), none⟩] false) (.cond (.t 7) (.seq (.region [⟨some 4, .mv (.k (.int .i64 0)), none⟩, ⟨some 5, .mv (.k (.int .i64 11)), none⟩] false) .ret) .skip)) (.seq (.region [⟨some 8, .mv (.t 0), none⟩, ⟨some 9, .nck (.t 8), none⟩, ⟨some 10, .faddr 4 (.t 9), none⟩, ⟨some 11, .load none (.t 10), none⟩, ⟨some 12, .bin .add (.t 11) (.k (.int .i64 1)), none⟩, ⟨some 13, .faddr 0 (.t 3), none⟩, ⟨none, .store 1 (.t 13) (.t 12), none⟩] false) (.seq (.seq (.region [⟨some 14, .load (some 8) (.t 3), none⟩, ⟨some 15, .call 14 [.t 14], none⟩, ⟨some 16, .un .not (.t 15), none⟩] false) (.cond (.t 16) (.seq (.region [⟨some 4, .mv (.k (.int .i64 0)), none⟩, ⟨some 5, .mv (.k (.int .i64 22)), none⟩] false) .ret) .skip)) (.seq (.seq (.region [⟨some 17, .mv (.t 0), none⟩, ⟨some 18, .nck (.t 17), none⟩, ⟨some 19, .faddr 0 (.t 18), none⟩, ⟨some 20, .load none (.t 19), none⟩] false) (.region [⟨some 21, .load (some 8) (.t 3), none⟩] false)) (.seq (.sel (some 22) (some (.t 21)) (.t 20) (.agg [.int .i64 0, .int .i64 0, .int .i64 0, .int .i64 0, .int .i64 0, .int .i64 0, .str [], .str []]) [⟨some 23, .extract (.t 22) 0, none⟩, ⟨some 24, .bin .eql (.t 23) (.k (.int .i64 0)), none⟩]) (.block 0 (.cond (.t 24) (.seq (.region [⟨some 25, .mv (.t 0), none⟩, ⟨some 26, .faddr 0 (.t 3), none⟩, ⟨some 27, .load none (.t 26), none⟩, ⟨some 28, .nck (.t 25), none⟩, ⟨some 29, .faddr 4 (.t 28), none⟩, ⟨none, .store 1 (.t 29) (.t 27), none⟩] false) (.seq (.draw 0 [⟨0, ⟨some 30, .mv (.t 0), none⟩, [], none, []⟩, ⟨1, ⟨some 31, .nck (.t 30), none⟩, [], none, []⟩, ⟨2, ⟨some 32, .faddr 3 (.t 31), none⟩, [], none, []⟩, ⟨3, ⟨some 33, .load none (.t 32), none⟩, [], none, []⟩, ⟨4, ⟨some 34, .faddr 0 (.t 3), none⟩, [], none, []⟩, ⟨5, ⟨some 35, .load none (.t 34), none⟩, [], none, []⟩, ⟨6, ⟨none, .mapSet .i (.t 33) (.t 35) (.k (.bool true)), none⟩, [], none, []⟩]) (.seq (.region [⟨some 36, .faddr 0 (.t 3), none⟩, ⟨some 37, .load none (.t 36), none⟩, ⟨some 4, .mv (.t 37), none⟩, ⟨some 5, .mv (.k (.int .i64 0)), none⟩] false) .ret))) (.seq (.region [⟨some 4, .mv (.k (.int .i64 0)), none⟩, ⟨some 5, .mv (.k (.int .i64 11)), none⟩] false) .ret))))))))⟩
theorem tr30 : trProg Try.prog 30 = some af30 := by kernel_rfl
def af31 : AF := ⟨39, [.c 2 (some 8), .t 3], .seq (.region [⟨some 2, .alloc 23 [.int .i64 0, .int .i64 0, .int .i64 0, .int .i64 0, .int .i64 0, .int .i64 0, .str [], .str []], none⟩, ⟨some 3, .mv (.k (.bool false)), none⟩] false) (.seq (.seq (.region [⟨some 6, .mv (.t 0), none⟩, ⟨some 7, .eqf false false [(1, .p)] (.t 6) (.k .nilp), none⟩] false) (.cond (.t 7) (.seq (.region [⟨some 8, .build [.int .i64 0, .int .i64 0, .int .i64 0, .int .i64 0, .int .i64 0, .int .i64 0, .str [], .str []] [], none⟩, ⟨none, .store 8 (.t 2) (.t 8), none⟩, ⟨some 3, .mv (.k (.bool false)), none⟩] false) .ret) .skip)) (.block 0 (.loop (.block 1 (.seq (.region [⟨some 10, .mv (.t 0), none⟩, ⟨some 11, .call 72 [.t 10], none⟩, ⟨some 9, .mv (.t 11), none⟩, ⟨some 12, .extract (.t 9) 0, none⟩, ⟨some 13, .extract (.t 9) 1, none⟩, ⟨some 4, .alloc 23 [.int .i64 0, .int .i64 0, .int .i64 0, .int .i64 0, .int .i64 0, .int .i64 0, .str [], .str []], none⟩, ⟨none, .store 8 (.t 4) (.t 12), none⟩, ⟨some 5, .mv (.t 13), none⟩] false) (.seq (.seq (.region [⟨some 14, .mv (.t 5), none⟩, ⟨some 15, .un .not (.t 14), none⟩] false) (.cond (.t 15) (.seq (.region [⟨some 16, .load (some 8) (.t 4), none⟩, ⟨none, .store 8 (.t 2) (.t 16), none⟩, ⟨some 3, .mv (.k (.bool false)), none⟩] false) .ret) .skip)) (.seq (.draw 0 [⟨0, ⟨some 17, .mv (.t 0), none⟩, [], none, []⟩, ⟨1, ⟨some 18, .nck (.t 17), none⟩, [], none, []⟩, ⟨2, ⟨some 19, .faddr 3 (.t 18), none⟩, [], none, []⟩, ⟨3, ⟨some 20, .load none (.t 19), none⟩, [], none, []⟩, ⟨4, ⟨some 21, .faddr 0 (.t 4), none⟩, [], none, []⟩, ⟨5, ⟨some 22, .load none (.t 21), none⟩, [], none, []⟩, ⟨6, ⟨some 23, .lookup .i (.bool false) false (.t 20) (.t 22), none⟩, [], none, []⟩]) (.cond (.t 23) (.seq (.draw 0 [⟨0, ⟨some 24, .mv (.t 0), none⟩, [], none, []⟩, ⟨1, ⟨some 25, .nck (.t 24), none⟩, [], none, []⟩, ⟨2, ⟨some 26, .faddr 3 (.t 25), none⟩, [], none, []⟩, ⟨3, ⟨some 27, .load none (.t 26), none⟩, [], none, []⟩, ⟨4, ⟨some 28, .faddr 0 (.t 4), none⟩, [], none, []⟩, ⟨5, ⟨some 29, .load none (.t 28), none⟩, [], none, []⟩, ⟨6, ⟨none, .mapDel .i (.t 27) (.t 29), none⟩, [], none, []⟩]) (.seq (.draw 0 [⟨0, ⟨some 30, .mv (.t 0), none⟩, [], none, []⟩, ⟨1, ⟨some 31, .nck (.t 30), none⟩, [], none, []⟩, ⟨2, ⟨some 32, .faddr 2 (.t 31), none⟩, [], none, []⟩, ⟨3, ⟨some 33, .load none (.t 32), none⟩, [], none, []⟩, ⟨4, ⟨some 34, .faddr 0 (.t 4), none⟩, [], none, []⟩, ⟨5, ⟨some 35, .load none (.t 34), none⟩, [], none, []⟩, ⟨6, ⟨some 36, .faddr 1 (.t 4), none⟩, [], none, []⟩, ⟨7, ⟨some 37, .load none (.t 36), none⟩, [], none, []⟩, ⟨8, ⟨none, .mapSet .i (.t 33) (.t 35) (.t 37), none⟩, [], none, []⟩]) (.seq (.region [⟨some 38, .load (some 8) (.t 4), none⟩, ⟨none, .store 8 (.t 2) (.t 38), none⟩, ⟨some 3, .mv (.k (.bool true)), none⟩] false) .ret))) .skip))))))))⟩
theorem tr31 : trProg Try.prog 31 = some af31 := by kernel_rfl
def af32 : AF := ⟨27, [.t 4, .t 5], .seq (.region [⟨some 4, .mv (.k (.int .i64 0)), none⟩, ⟨some 5, .mv (.k (.int .i64 0)), none⟩] false) (.seq (.seq (.region [⟨some 8, .mv (.t 0), none⟩, ⟨some 9, .eqf false false [(1, .p)] (.t 8) (.k .nilp), none⟩] false) (.cond (.t 9) (.seq (.region [⟨some 4, .mv (.k (.int .i64 0)), none⟩, ⟨some 5, .mv (.k (.int .i64 22)), none⟩] false) .ret) .skip)) (.seq (.region [⟨some 11, .mv (.t 0), none⟩, ⟨some 12, .nck (.t 11), none⟩, ⟨some 13, .faddr 2 (.t 12), none⟩, ⟨some 14, .load none (.t 13), none⟩, ⟨some 15, .mv (.t 1), none⟩, ⟨some 16, .lookup .i (.int .i64 0) true (.t 14) (.t 15), none⟩, ⟨some 10, .mv (.t 16), none⟩, ⟨some 17, .extract (.t 10) 0, none⟩, ⟨some 18, .extract (.t 10) 1, none⟩, ⟨some 6, .mv (.t 17), none⟩, ⟨some 7, .mv (.t 18), none⟩] false) (.seq (.seq (.region [⟨some 19, .mv (.t 7), none⟩, ⟨some 20, .un .not (.t 19), none⟩] false) (.cond (.t 20) (.seq (.region [⟨some 4, .mv (.k (.int .i64 0)), none⟩, ⟨some 5, .mv (.k (.int .i64 22)), none⟩] false) .ret) .skip)) (.seq (.region [⟨some 21, .mv (.t 0), none⟩, ⟨some 22, .nck (.t 21), none⟩, ⟨some 23, .faddr 2 (.t 22), none⟩, ⟨some 24, .load none (.t 23), none⟩, ⟨some 25, .mv (.t 1), none⟩, ⟨none, .mapDel .i (.t 24) (.t 25), none⟩] false) (.seq (.region [⟨some 26, .mv (.t 6), none⟩, ⟨some 4, .mv (.t 26), none⟩, ⟨some 5, .mv (.k (.int .i64 0)), none⟩] false) .ret)))))⟩
theorem tr32 : trProg Try.prog 32 = some af32 := by kernel_rfl
def af33 : AF := ⟨39, [.t 4], .seq (.region [⟨some 4, .mv (.k (.int .i64 0)), none⟩] false) (.seq (.seq (.region [⟨some 7, .mv (.t 0), none⟩, ⟨some 8, .eqf false false [(1, .p)] (.t 7) (.k .nilp), none⟩] false) (.cond (.t 8) (.seq (.region [⟨some 4, .mv (.k (.int .i64 22)), none⟩] false) .ret) .skip)) (.seq (.region [⟨some 10, .mv (.t 0), none⟩, ⟨some 11, .nck (.t 10), none⟩, ⟨some 12, .faddr 2 (.t 11), none⟩, ⟨some 13, .load none (.t 12), none⟩, ⟨some 14, .mv (.t 1), none⟩, ⟨some 15, .lookup .i (.int .i64 0) true (.t 13) (.t 14), none⟩, ⟨some 9, .mv (.t 15), none⟩, ⟨some 16, .extract (.t 9) 0, none⟩, ⟨some 17, .extract (.t 9) 1, none⟩, ⟨some 5, .mv (.t 16), none⟩, ⟨some 6, .mv (.t 17), none⟩] false) (.seq (.seq (.region [⟨some 18, .mv (.t 6), none⟩, ⟨some 19, .un .not (.t 18), none⟩, ⟨some 20, .mv (.t 19), none⟩, ⟨some 21, .mv (.t 0), some (20, true)⟩, ⟨some 22, .nck (.t 21), some (20, true)⟩, ⟨some 23, .faddr 3 (.t 22), some (20, true)⟩, ⟨some 24, .load none (.t 23), some (20, true)⟩, ⟨some 25, .mv (.t 1), some (20, true)⟩, ⟨some 26, .lookup .i (.bool false) false (.t 24) (.t 25), some (20, true)⟩, ⟨some 27, .un .not (.t 26), some (20, true)⟩, ⟨some 28, .pick (.t 20) (.t 27) (.k (.bool false)), none⟩] false) (.cond (.t 28) (.seq (.region [⟨some 4, .mv (.k (.int .i64 22)), none⟩] false) .ret) .skip)) (.seq (.region [⟨some 29, .mv (.t 0), none⟩, ⟨some 30, .nck (.t 29), none⟩, ⟨some 31, .faddr 2 (.t 30), none⟩, ⟨some 32, .load none (.t 31), none⟩, ⟨some 33, .mv (.t 1), none⟩, ⟨none, .mapDel .i (.t 32) (.t 33), none⟩] false) (.seq (.region [⟨some 34, .mv (.t 0), none⟩, ⟨some 35, .nck (.t 34), none⟩, ⟨some 36, .faddr 3 (.t 35), none⟩, ⟨some 37, .load none (.t 36), none⟩, ⟨some 38, .mv (.t 1), none⟩, ⟨none, .mapDel .i (.t 37) (.t 38), none⟩] false) (.seq (.region [⟨some 4, .mv (.k (.int .i64 0)), none⟩] false) .ret))))))⟩
theorem tr33 : trProg Try.prog 33 = some af33 := by kernel_rfl
def af34 : AF := ⟨34, [.t 4], .seq (.region [⟨some 4, .mv (.k (.int .i64 0)), none⟩] false) (.seq (.seq (.region [⟨some 8, .mv (.t 0), none⟩, ⟨some 9, .eqf false false [(1, .p)] (.t 8) (.k .nilp), none⟩] false) (.cond (.t 9) (.seq (.region [⟨some 4, .mv (.k (.int .i64 0)), none⟩] false) .ret) .skip)) (.seq (.region [⟨some 5, .mv (.k (.int .i64 0)), none⟩] false) (.seq (.seq (.region [⟨some 10, .mv (.t 1), none⟩, ⟨some 11, .lenL (.t 10), none⟩, ⟨some 12, .mv (.k (.int .i64 0)), none⟩] false) (.block 0 (.loop (.seq (.region [⟨some 13, .bin .lss (.t 12) (.t 11), none⟩] false) (.seq (.cond (.t 13) .skip (.exit 0)) (.seq (.block 1 (.seq (.region [⟨some 14, .iaddrS 3 (.t 10) (.t 12), none⟩, ⟨some 15, .load (some 3) (.t 14), none⟩, ⟨some 7, .alloc 39 [.int .i64 0, .int .i64 0, .str []], none⟩, ⟨none, .store 3 (.t 7) (.t 15), none⟩] false) (.seq (.seq (.region [⟨some 16, .load (some 3) (.t 7), none⟩, ⟨some 17, .call 20 [.t 16], none⟩, ⟨some 18, .un .not (.t 17), none⟩] false) (.cond (.t 18) (.exit 1) .skip)) (.seq (.seq (.region [⟨some 19, .mv (.t 0), none⟩, ⟨some 20, .nck (.t 19), none⟩, ⟨some 21, .faddr 1 (.t 20), none⟩, ⟨some 22, .load none (.t 21), none⟩] false) (.region [⟨some 23, .load (some 3) (.t 7), none⟩] false)) (.seq (.sel (some 24) (some (.t 23)) (.t 22) (.agg [.int .i64 0, .int .i64 0, .str []]) [⟨some 25, .extract (.t 24) 0, none⟩, ⟨some 26, .bin .eql (.t 25) (.k (.int .i64 0)), none⟩]) (.block 2 (.cond (.t 26) (.region [⟨some 30, .mv (.t 5), none⟩, ⟨some 31, .bin .add (.t 30) (.k (.int .i64 1)), none⟩, ⟨some 5, .mv (.t 31), none⟩] false) (.region [⟨some 27, .mv (.t 0), none⟩, ⟨some 28, .nck (.t 27), none⟩, ⟨some 29, .faddr 5 (.t 28), none⟩, ⟨none, .store 1 (.t 29) (.k (.bool true)), none⟩] false)))))))) (.region [⟨some 32, .bin .add (.t 12) (.k (.int .i64 1)), none⟩, ⟨some 12, .mv (.t 32), none⟩] false))))))) (.seq (.region [⟨some 33, .mv (.t 5), none⟩, ⟨some 4, .mv (.t 33), none⟩] false) .ret))))⟩
theorem tr34 : trProg Try.prog 34 = some af34 := by kernel_rfl
def af35 : AF := ⟨10, [.t 2], .seq (.region [⟨some 2, .mv (.k (.int .i64 0)), none⟩] false) (.seq (.seq (.region [⟨some 3, .mv (.t 0), none⟩, ⟨some 4, .eqf false false [(1, .p)] (.t 3) (.k .nilp), none⟩] false) (.cond (.t 4) (.seq (.region [⟨some 2, .mv (.k (.int .i64 0)), none⟩] false) .ret) .skip)) (.seq (.region [⟨some 5, .mv (.t 0), none⟩, ⟨some 6, .nck (.t 5), none⟩, ⟨some 7, .faddr 0 (.t 6), none⟩, ⟨some 8, .load none (.t 7), none⟩, ⟨some 9, .lenC (.t 8), none⟩, ⟨some 2, .mv (.t 9), none⟩] false) .ret))⟩
theorem tr35 : trProg Try.prog 35 = some af35 := by kernel_rfl
def af36 : AF := ⟨10, [.t 2], .seq (.region [⟨some 2, .mv (.k (.int .i64 0)), none⟩] false) (.seq (.seq (.region [⟨some 3, .mv (.t 0), none⟩, ⟨some 4, .eqf false false [(1, .p)] (.t 3) (.k .nilp), none⟩] false) (.cond (.t 4) (.seq (.region [⟨some 2, .mv (.k (.int .i64 0)), none⟩] false) .ret) .skip)) (.seq (.region [⟨some 5, .mv (.t 0), none⟩, ⟨some 6, .nck (.t 5), none⟩, ⟨some 7, .faddr 1 (.t 6), none⟩, ⟨some 8, .load none (.t 7), none⟩, ⟨some 9, .lenC (.t 8), none⟩, ⟨some 2, .mv (.t 9), none⟩] false) .ret))⟩
theorem tr36 : trProg Try.prog 36 = some af36 := by kernel_rfl
def af37 : AF := ⟨10, [.t 2], .seq (.region [⟨some 2, .mv (.k (.int .i64 0)), none⟩] false) (.seq (.seq (.region [⟨some 3, .mv (.t 0), none⟩, ⟨some 4, .eqf false false [(1, .p)] (.t 3) (.k .nilp), none⟩] false) (.cond (.t 4) (.seq (.region [⟨some 2, .mv (.k (.int .i64 0)), none⟩] false) .ret) .skip)) (.seq (.region [⟨some 5, .mv (.t 0), none⟩, ⟨some 6, .nck (.t 5), none⟩, ⟨some 7, .faddr 2 (.t 6), none⟩, ⟨some 8, .load none (.t 7), none⟩, ⟨some 9, .lenM (.t 8), none⟩, ⟨some 2, .mv (.t 9), none⟩] false) .ret))⟩
theorem tr37 : trProg Try.prog 37 = some af37 := by kernel_rfl
def af38 : AF := ⟨14, [.t 2], .seq (.region [⟨some 2, .mv (.k (.bool false)), none⟩] false) (.seq (.seq (.region [⟨some 4, .mv (.t 0), none⟩, ⟨some 5, .eqf false false [(1, .p)] (.t 4) (.k .nilp), none⟩] false) (.cond (.t 5) (.seq (.region [⟨some 2, .mv (.k (.bool false)), none⟩] false) .ret) .skip)) (.seq (.region [⟨some 6, .mv (.t 0), none⟩, ⟨some 7, .nck (.t 6), none⟩, ⟨some 8, .faddr 5 (.t 7), none⟩, ⟨some 9, .load none (.t 8), none⟩, ⟨some 3, .mv (.t 9), none⟩] false) (.seq (.region [⟨some 10, .mv (.t 0), none⟩, ⟨some 11, .nck (.t 10), none⟩, ⟨some 12, .faddr 5 (.t 11), none⟩, ⟨none, .store 1 (.t 12) (.k (.bool false)), none⟩] false) (.seq (.region [⟨some 13, .mv (.t 3), none⟩, ⟨some 2, .mv (.t 13), none⟩] false) .ret))))⟩
theorem tr38 : trProg Try.prog 38 = some af38 := by kernel_rfl
def af39 : AF := ⟨24, [.t 4], .seq (.region [⟨some 4, .mv (.k .nils), none⟩] false) (.seq (.region [⟨some 5, .mv (.k .nils), none⟩] false) (.seq (.block 0 (.loop (.seq (.seq (.region [⟨some 8, .mv (.t 5), none⟩, ⟨some 9, .lenL (.t 8), none⟩, ⟨some 10, .mv (.t 1), none⟩, ⟨some 11, .bin .lss (.t 9) (.t 10), none⟩] false) (.cond (.t 11) .skip (.exit 0))) (.block 1 (.seq (.region [⟨some 13, .mv (.t 0), none⟩, ⟨some 14, .call 46 [.t 13], none⟩, ⟨some 12, .mv (.t 14), none⟩, ⟨some 15, .extract (.t 12) 0, none⟩, ⟨some 16, .extract (.t 12) 1, none⟩, ⟨some 6, .alloc 39 [.int .i64 0, .int .i64 0, .str []], none⟩, ⟨none, .store 3 (.t 6) (.t 15), none⟩, ⟨some 7, .mv (.t 16), none⟩] false) (.seq (.seq (.region [⟨some 17, .mv (.t 7), none⟩, ⟨some 18, .un .not (.t 17), none⟩] false) (.cond (.t 18) (.exit 0) .skip)) (.region [⟨some 19, .mv (.t 5), none⟩, ⟨some 20, .load (some 3) (.t 6), none⟩, ⟨some 21, .bslice 39 3 [.int .i64 0, .int .i64 0, .str []] [(0, (3, .t 20))], none⟩, ⟨some 22, .app 39 3 32 [.int .i64 0, .int .i64 0, .str []] (.t 19) (.t 21), none⟩, ⟨some 5, .mv (.t 22), none⟩] false))))))) (.seq (.region [⟨some 23, .mv (.t 5), none⟩, ⟨some 4, .mv (.t 23), none⟩] false) .ret)))⟩
theorem tr39 : trProg Try.prog 39 = some af39 := by kernel_rfl
def af40 : AF := ⟨43, [.t 4, .t 5], .seq (.region [⟨some 3, .box 25 (.t 1), none⟩, ⟨some 4, .mv (.k (.int .i64 0)), none⟩, ⟨some 5, .mv (.k (.int .i64 0)), none⟩] false) (.seq (.region [⟨some 6, .mv (.t 0), none⟩, ⟨some 7, .nck (.t 6), none⟩, ⟨some 8, .faddr 3 (.t 7), none⟩, ⟨some 9, .load none (.t 8), none⟩, ⟨some 10, .bin .add (.t 9) (.k (.int .i64 1)), none⟩, ⟨some 11, .faddr 0 (.t 3), none⟩, ⟨none, .store 1 (.t 11) (.t 10), none⟩] false) (.seq (.seq (.region [⟨some 12, .load (some 8) (.t 3), none⟩, ⟨some 13, .call 12 [.t 12], none⟩, ⟨some 14, .un .not (.t 13), none⟩] false) (.cond (.t 14) (.seq (.region [⟨some 4, .mv (.k (.int .i64 0)), none⟩, ⟨some 5, .mv (.k (.int .i64 22)), none⟩] false) .ret) .skip)) (.seq (.seq (.region [⟨some 15, .mv (.t 0), none⟩, ⟨some 16, .nck (.t 15), none⟩, ⟨some 17, .faddr 0 (.t 16), none⟩, ⟨some 18, .load none (.t 17), none⟩, ⟨some 19, .lenL (.t 18), none⟩, ⟨some 20, .bin .geq (.t 19) (.k (.int .i64 8)), none⟩] false) (.cond (.t 20) (.seq (.region [⟨some 4, .mv (.k (.int .i64 0)), none⟩, ⟨some 5, .mv (.k (.int .i64 11)), none⟩] false) .ret) .skip)) (.seq (.region [⟨some 21, .mv (.t 0), none⟩, ⟨some 22, .nck (.t 21), none⟩, ⟨some 23, .faddr 3 (.t 22), none⟩, ⟨some 24, .load none (.t 23), none⟩, ⟨some 25, .bin .add (.t 24) (.k (.int .i64 1)), none⟩, ⟨some 26, .nck (.t 21), none⟩, ⟨some 27, .faddr 3 (.t 26), none⟩, ⟨none, .store 1 (.t 27) (.t 25), none⟩] false) (.seq (.draw 2 [⟨0, ⟨some 28, .mv (.t 0), none⟩, [], none, []⟩, ⟨2, ⟨some 30, .mv (.t 0), none⟩, [], none, []⟩, ⟨3, ⟨some 31, .nck (.t 30), none⟩, [], none, []⟩, ⟨4, ⟨some 32, .faddr 0 (.t 31), none⟩, [], none, []⟩, ⟨5, ⟨some 33, .load none (.t 32), none⟩, [], none, []⟩, ⟨7, ⟨some 35, .load (some 8) (.t 3), none⟩, [], none, []⟩, ⟨8, ⟨some 36, .build [.int .i64 0, .int .i64 0, .int .i64 0, .int .i64 0, .int .i64 0, .int .i64 0, .str [], .str [], .bool false] [(0, (8, .t 35))], none⟩, [], none, []⟩, ⟨1, ⟨some 29, .bslice 138 9 [] [], none⟩, [], some 0, []⟩, ⟨6, ⟨some 34, .app 138 9 88 [.int .i64 0, .int .i64 0, .int .i64 0, .int .i64 0, .int .i64 0, .int .i64 0, .str [], .str [], .bool false] (.t 29) (.t 33), none⟩, [0], none, [⟨some 35, .load (some 8) (.t 3), none⟩]⟩, ⟨9, ⟨some 37, .bslice 138 9 [.int .i64 0, .int .i64 0, .int .i64 0, .int .i64 0, .int .i64 0, .int .i64 0, .str [], .str [], .bool false] [(0, (9, .t 36))], none⟩, [], some 1, []⟩, ⟨10, ⟨some 38, .app 138 9 88 [.int .i64 0, .int .i64 0, .int .i64 0, .int .i64 0, .int .i64 0, .int .i64 0, .str [], .str [], .bool false] (.t 34) (.t 37), none⟩, [1, 0], none, []⟩, ⟨11, ⟨some 39, .nck (.t 28), none⟩, [1, 0], none, []⟩, ⟨12, ⟨some 40, .faddr 0 (.t 39), none⟩, [1, 0], none, []⟩, ⟨13, ⟨none, .store 1 (.t 40) (.t 38), none⟩, [1, 0], none, []⟩]) (.seq (.region [⟨some 41, .faddr 0 (.t 3), none⟩, ⟨some 42, .load none (.t 41), none⟩, ⟨some 4, .mv (.t 42), none⟩, ⟨some 5, .mv (.k (.int .i64 0)), none⟩] false) .ret))))))⟩
theorem tr40 : trProg Try.prog 40 = some af40 := by kernel_rfl
def af41 : AF := ⟨46, [.c 2 (some 8), .t 3], .seq (.region [⟨some 2, .alloc 25 [.int .i64 0, .int .i64 0, .int .i64 0, .int .i64 0, .int .i64 0, .int .i64 0, .str [], .str []], none⟩, ⟨some 3, .mv (.k (.bool false)), none⟩] false) (.seq (.block 0 (.loop (.seq (.seq (.region [⟨some 5, .mv (.t 0), none⟩, ⟨some 6, .nck (.t 5), none⟩, ⟨some 7, .faddr 0 (.t 6), none⟩, ⟨some 8, .load none (.t 7), none⟩, ⟨some 9, .lenL (.t 8), none⟩, ⟨some 10, .bin .gtr (.t 9) (.k (.int .i64 0)), none⟩] false) (.cond (.t 10) .skip (.exit 0))) (.block 1 (.seq (.region [⟨some 11, .mv (.t 0), none⟩, ⟨some 12, .nck (.t 11), none⟩, ⟨some 13, .faddr 0 (.t 12), none⟩, ⟨some 14, .load none (.t 13), none⟩, ⟨some 15, .iaddrS 9 (.t 14) (.k (.int .i64 0)), none⟩, ⟨some 16, .load (some 9) (.t 15), none⟩, ⟨some 4, .alloc 138 [.int .i64 0, .int .i64 0, .int .i64 0, .int .i64 0, .int .i64 0, .int .i64 0, .str [], .str [], .bool false], none⟩, ⟨none, .store 9 (.t 4) (.t 16), none⟩] false) (.seq (.region [⟨some 17, .mv (.t 0), none⟩, ⟨some 18, .bslice 138 9 [] [], none⟩, ⟨some 19, .mv (.t 0), none⟩, ⟨some 20, .nck (.t 19), none⟩, ⟨some 21, .faddr 0 (.t 20), none⟩, ⟨some 22, .load none (.t 21), none⟩, ⟨some 23, .slL 9 (.t 22) (some (.k (.int .i64 1))) none, none⟩, ⟨some 24, .app 138 9 88 [.int .i64 0, .int .i64 0, .int .i64 0, .int .i64 0, .int .i64 0, .int .i64 0, .str [], .str [], .bool false] (.t 18) (.t 23), none⟩, ⟨some 25, .nck (.t 17), none⟩, ⟨some 26, .faddr 0 (.t 25), none⟩, ⟨none, .store 1 (.t 26) (.t 24), none⟩] false) (.seq (.region [⟨some 27, .faddr 8 (.t 4), none⟩, ⟨some 28, .load none (.t 27), none⟩, ⟨some 29, .un .not (.t 28), none⟩] false) (.cond (.t 29) (.seq (.draw 2 [⟨0, ⟨some 30, .mv (.t 0), none⟩, [], none, []⟩, ⟨2, ⟨some 32, .mv (.t 0), none⟩, [], none, []⟩, ⟨3, ⟨some 33, .nck (.t 32), none⟩, [], none, []⟩, ⟨4, ⟨some 34, .faddr 1 (.t 33), none⟩, [], none, []⟩, ⟨5, ⟨some 35, .load none (.t 34), none⟩, [], none, []⟩, ⟨7, ⟨some 37, .faddr 0 (.t 4), none⟩, [], none, []⟩, ⟨8, ⟨some 38, .load (some 8) (.t 37), none⟩, [], none, []⟩, ⟨1, ⟨some 31, .bslice 25 8 [] [], none⟩, [], some 0, []⟩, ⟨6, ⟨some 36, .app 25 8 80 [.int .i64 0, .int .i64 0, .int .i64 0, .int .i64 0, .int .i64 0, .int .i64 0, .str [], .str []] (.t 31) (.t 35), none⟩, [0], none, [⟨some 38, .load (some 8) (.t 37), none⟩]⟩, ⟨9, ⟨some 39, .bslice 25 8 [.int .i64 0, .int .i64 0, .int .i64 0, .int .i64 0, .int .i64 0, .int .i64 0, .str [], .str []] [(0, (8, .t 38))], none⟩, [], some 1, []⟩, ⟨10, ⟨some 40, .app 25 8 80 [.int .i64 0, .int .i64 0, .int .i64 0, .int .i64 0, .int .i64 0, .int .i64 0, .str [], .str []] (.t 36) (.t 39), none⟩, [1, 0], none, []⟩, ⟨11, ⟨some 41, .nck (.t 30), none⟩, [1, 0], none, []⟩, ⟨12, ⟨some 42, .faddr 1 (.t 41), none⟩, [1, 0], none, []⟩, ⟨13, ⟨none, .store 1 (.t 42) (.t 40), none⟩, [1, 0], none, []⟩]) (.seq (.region [⟨some 43, .faddr 0 (.t 4), none⟩, ⟨some 44, .load (some 8) (.t 43), none⟩, ⟨none, .store 8 (.t 2) (.t 44), none⟩, ⟨some 3, .mv (.k (.bool true)), none⟩] false) .ret)) .skip)))))))) (.seq (.region [⟨some 45, .build [.int .i64 0, .int .i64 0, .int .i64 0, .int .i64 0, .int .i64 0, .int .i64 0, .str [], .str []] [], none⟩, ⟨none, .store 8 (.t 2) (.t 45), none⟩, ⟨some 3, .mv (.k (.bool false)), none⟩] false) .ret))⟩
theorem tr41 : trProg Try.prog 41 = some af41 := by kernel_rfl
def af42 : AF := ⟨13, [.t 4, .t 5], .seq (.region [⟨some 4, .mv (.k (.int .i64 0)), none⟩, ⟨some 5, .mv (.k (.int .i64 0)), none⟩] false) (.seq (.region [⟨some 7, .mv (.t 0), none⟩, ⟨some 8, .mv (.t 1), none⟩, ⟨some 9, .call 73 [.t 7, .t 8], none⟩, ⟨some 6, .mv (.t 9), none⟩] false) (.seq (.seq (.region [⟨some 10, .mv (.t 6), none⟩, ⟨some 11, .bin .lss (.t 10) (.k (.int .i64 0)), none⟩] false) (.cond (.t 11) (.seq (.region [⟨some 4, .mv (.k (.int .i64 0)), none⟩, ⟨some 5, .mv (.k (.int .i64 22)), none⟩] false) .ret) .skip)) (.seq (.region [⟨some 12, .mv (.t 6), none⟩, ⟨some 4, .mv (.t 12), none⟩, ⟨some 5, .mv (.k (.int .i64 0)), none⟩] false) .ret)))⟩
theorem tr42 : trProg Try.prog 42 = some af42 := by kernel_rfl
def af43 : AF := ⟨48, [.t 4], .seq (.region [⟨some 4, .mv (.k (.int .i64 0)), none⟩] false) (.seq (.seq (.region [⟨some 6, .mv (.t 0), none⟩, ⟨some 7, .mv (.t 1), none⟩, ⟨some 8, .call 73 [.t 6, .t 7], none⟩, ⟨some 9, .bin .geq (.t 8) (.k (.int .i64 0)), none⟩] false) (.cond (.t 9) (.seq (.region [⟨some 4, .mv (.k (.int .i64 0)), none⟩] false) .ret) .skip)) (.seq (.seq (.region [⟨some 5, .mv (.k (.int .i64 0)), none⟩] false) (.block 0 (.loop (.seq (.seq (.region [⟨some 10, .mv (.t 5), none⟩, ⟨some 11, .mv (.t 0), none⟩, ⟨some 12, .nck (.t 11), none⟩, ⟨some 13, .faddr 0 (.t 12), none⟩, ⟨some 14, .load none (.t 13), none⟩, ⟨some 15, .lenL (.t 14), none⟩, ⟨some 16, .bin .lss (.t 10) (.t 15), none⟩] false) (.cond (.t 16) .skip (.exit 0))) (.seq (.block 1 (.seq (.region [⟨some 19, .mv (.t 0), none⟩, ⟨some 20, .nck (.t 19), none⟩, ⟨some 21, .faddr 0 (.t 20), none⟩, ⟨some 22, .load none (.t 21), none⟩, ⟨some 23, .mv (.t 5), none⟩, ⟨some 24, .iaddrS 9 (.t 22) (.t 23), none⟩, ⟨some 25, .faddr 0 (.t 24), none⟩, ⟨some 26, .faddr 0 (.t 25), none⟩, ⟨some 27, .load none (.t 26), none⟩, ⟨some 28, .mv (.t 1), none⟩, ⟨some 29, .bin .eql (.t 27) (.t 28), none⟩, ⟨some 30, .mv (.t 29), none⟩, ⟨some 31, .mv (.t 0), some (30, true)⟩, ⟨some 32, .nck (.t 31), some (30, true)⟩, ⟨some 33, .faddr 0 (.t 32), some (30, true)⟩, ⟨some 34, .load none (.t 33), some (30, true)⟩, ⟨some 35, .mv (.t 5), some (30, true)⟩, ⟨some 36, .iaddrS 9 (.t 34) (.t 35), some (30, true)⟩, ⟨some 37, .faddr 8 (.t 36), some (30, true)⟩, ⟨some 38, .load none (.t 37), some (30, true)⟩, ⟨some 39, .un .not (.t 38), some (30, true)⟩, ⟨some 40, .pick (.t 30) (.t 39) (.k (.bool false)), none⟩] false) (.cond (.t 40) (.seq (.region [⟨some 41, .mv (.t 0), none⟩, ⟨some 42, .nck (.t 41), none⟩, ⟨some 43, .faddr 0 (.t 42), none⟩, ⟨some 44, .load none (.t 43), none⟩, ⟨some 45, .mv (.t 5), none⟩, ⟨some 46, .iaddrS 9 (.t 44) (.t 45), none⟩, ⟨some 47, .faddr 8 (.t 46), none⟩, ⟨none, .store 1 (.t 47) (.k (.bool true)), none⟩] false) (.seq (.region [⟨some 4, .mv (.k (.int .i64 0)), none⟩] false) .ret)) .skip))) (.region [⟨some 17, .mv (.t 5), none⟩, ⟨some 18, .bin .add (.t 17) (.k (.int .i64 1)), none⟩, ⟨some 5, .mv (.t 18), none⟩] false)))))) (.seq (.region [⟨some 4, .mv (.k (.int .i64 22)), none⟩] false) .ret)))⟩
theorem tr43 : trProg Try.prog 43 = some af43 := by kernel_rfl
def af44 : AF := ⟨46, [.t 4], .seq (.region [⟨some 4, .mv (.k (.int .i64 0)), none⟩] false) (.seq (.region [⟨some 5, .mv (.k (.int .i64 0)), none⟩] false) (.seq (.seq (.region [⟨some 6, .mv (.k (.int .i64 0)), none⟩] false) (.block 0 (.loop (.seq (.seq (.region [⟨some 7, .mv (.t 6), none⟩, ⟨some 8, .mv (.t 1), none⟩, ⟨some 9, .lenL (.t 8), none⟩, ⟨some 10, .bin .lss (.t 7) (.t 9), none⟩] false) (.cond (.t 10) .skip (.exit 0))) (.seq (.block 1 (.seq (.seq (.region [⟨some 13, .mv (.t 1), none⟩, ⟨some 14, .mv (.t 6), none⟩, ⟨some 15, .iaddrS 3 (.t 13) (.t 14), none⟩, ⟨some 16, .load (some 3) (.t 15), none⟩, ⟨some 17, .call 18 [.t 16], none⟩, ⟨some 18, .un .not (.t 17), none⟩] false) (.cond (.t 18) (.exit 1) .skip)) (.seq (.seq (.region [⟨some 19, .mv (.t 0), none⟩, ⟨some 20, .nck (.t 19), none⟩, ⟨some 21, .faddr 2 (.t 20), none⟩, ⟨some 22, .load none (.t 21), none⟩, ⟨some 23, .lenL (.t 22), none⟩, ⟨some 24, .bin .geq (.t 23) (.k (.int .i64 16)), none⟩] false) (.cond (.t 24) (.seq (.region [⟨some 25, .mv (.t 0), none⟩, ⟨some 26, .nck (.t 25), none⟩, ⟨some 27, .faddr 4 (.t 26), none⟩, ⟨none, .store 1 (.t 27) (.k (.bool true)), none⟩] false) (.exit 1)) .skip)) (.seq (.draw 2 [⟨0, ⟨some 28, .mv (.t 0), none⟩, [], none, []⟩, ⟨2, ⟨some 30, .mv (.t 0), none⟩, [], none, []⟩, ⟨3, ⟨some 31, .nck (.t 30), none⟩, [], none, []⟩, ⟨4, ⟨some 32, .faddr 2 (.t 31), none⟩, [], none, []⟩, ⟨5, ⟨some 33, .load none (.t 32), none⟩, [], none, []⟩, ⟨7, ⟨some 35, .mv (.t 1), none⟩, [], none, []⟩, ⟨8, ⟨some 36, .mv (.t 6), none⟩, [], none, []⟩, ⟨9, ⟨some 37, .iaddrS 3 (.t 35) (.t 36), none⟩, [], none, []⟩, ⟨10, ⟨some 38, .load (some 3) (.t 37), none⟩, [], none, []⟩, ⟨1, ⟨some 29, .bslice 40 3 [] [], none⟩, [], some 0, []⟩, ⟨6, ⟨some 34, .app 40 3 32 [.int .i64 0, .int .i64 0, .str []] (.t 29) (.t 33), none⟩, [0], none, [⟨some 38, .load (some 3) (.t 37), none⟩]⟩, ⟨11, ⟨some 39, .bslice 40 3 [.int .i64 0, .int .i64 0, .str []] [(0, (3, .t 38))], none⟩, [], some 1, []⟩, ⟨12, ⟨some 40, .app 40 3 32 [.int .i64 0, .int .i64 0, .str []] (.t 34) (.t 39), none⟩, [1, 0], none, []⟩, ⟨13, ⟨some 41, .nck (.t 28), none⟩, [1, 0], none, []⟩, ⟨14, ⟨some 42, .faddr 2 (.t 41), none⟩, [1, 0], none, []⟩, ⟨15, ⟨none, .store 1 (.t 42) (.t 40), none⟩, [1, 0], none, []⟩]) (.region [⟨some 43, .mv (.t 5), none⟩, ⟨some 44, .bin .add (.t 43) (.k (.int .i64 1)), none⟩, ⟨some 5, .mv (.t 44), none⟩] false))))) (.region [⟨some 11, .mv (.t 6), none⟩, ⟨some 12, .bin .add (.t 11) (.k (.int .i64 1)), none⟩, ⟨some 6, .mv (.t 12), none⟩] false)))))) (.seq (.region [⟨some 45, .mv (.t 5), none⟩, ⟨some 4, .mv (.t 45), none⟩] false) .ret)))⟩
theorem tr44 : trProg Try.prog 44 = some af44 := by kernel_rfl
def af45 : AF := ⟨18, [.t 2], .seq (.region [⟨some 2, .mv (.k .nils), none⟩] false) (.seq (.region [⟨some 3, .mv (.k .nils), none⟩] false) (.seq (.seq (.region [⟨some 6, .mv (.t 0), none⟩, ⟨some 7, .lenL (.t 6), none⟩, ⟨some 8, .mv (.k (.int .i64 0)), none⟩] false) (.block 0 (.loop (.seq (.region [⟨some 9, .bin .lss (.t 8) (.t 7), none⟩] false) (.seq (.cond (.t 9) .skip (.exit 0)) (.seq (.block 1 (.seq (.region [⟨some 10, .iaddrS 3 (.t 6) (.t 8), none⟩, ⟨some 11, .load (some 3) (.t 10), none⟩, ⟨some 5, .alloc 39 [.int .i64 0, .int .i64 0, .str []], none⟩, ⟨none, .store 3 (.t 5) (.t 11), none⟩] false) (.region [⟨some 12, .mv (.t 3), none⟩, ⟨some 13, .load (some 3) (.t 5), none⟩, ⟨some 14, .bslice 40 3 [.int .i64 0, .int .i64 0, .str []] [(0, (3, .t 13))], none⟩, ⟨some 15, .app 40 3 32 [.int .i64 0, .int .i64 0, .str []] (.t 12) (.t 14), none⟩, ⟨some 3, .mv (.t 15), none⟩] false))) (.region [⟨some 16, .bin .add (.t 8) (.k (.int .i64 1)), none⟩, ⟨some 8, .mv (.t 16), none⟩] false))))))) (.seq (.region [⟨some 17, .mv (.t 3), none⟩, ⟨some 2, .mv (.t 17), none⟩] false) .ret)))⟩
theorem tr45 : trProg Try.prog 45 = some af45 := by kernel_rfl
def af46 : AF := ⟨18, [.c 2 (some 3), .t 3], .seq (.region [⟨some 2, .alloc 39 [.int .i64 0, .int .i64 0, .str []], none⟩, ⟨some 3, .mv (.k (.bool false)), none⟩] false) (.seq (.seq (.region [⟨some 5, .mv (.t 0), none⟩, ⟨some 6, .eqf false false [(1, .p)] (.t 5) (.k .nilp), none⟩] false) (.cond (.t 6) (.seq (.region [⟨some 7, .build [.int .i64 0, .int .i64 0, .str []] [], none⟩, ⟨none, .store 3 (.t 2) (.t 7), none⟩, ⟨some 3, .mv (.k (.bool false)), none⟩] false) .ret) .skip)) (.seq (.region [⟨some 8, .mv (.t 0), none⟩, ⟨some 9, .nck (.t 8), none⟩, ⟨some 10, .faddr 1 (.t 9), none⟩, ⟨some 11, .load none (.t 10), none⟩] false) (.seq (.sel (some 12) none (.t 11) (.agg [.int .i64 0, .int .i64 0, .str []]) [⟨some 13, .extract (.t 12) 0, none⟩, ⟨some 14, .bin .eql (.t 13) (.k (.int .i64 0)), none⟩]) (.block 0 (.cond (.t 14) (.seq (.region [⟨some 16, .extract (.t 12) 2, none⟩, ⟨some 4, .alloc 39 [.int .i64 0, .int .i64 0, .str []], none⟩, ⟨none, .store 3 (.t 4) (.t 16), none⟩] false) (.seq (.region [⟨some 17, .load (some 3) (.t 4), none⟩, ⟨none, .store 3 (.t 2) (.t 17), none⟩, ⟨some 3, .mv (.k (.bool true)), none⟩] false) .ret)) (.seq (.region [⟨some 15, .build [.int .i64 0, .int .i64 0, .str []] [], none⟩, ⟨none, .store 3 (.t 2) (.t 15), none⟩, ⟨some 3, .mv (.k (.bool false)), none⟩] false) .ret))))))⟩
theorem tr46 : trProg Try.prog 46 = some af46 := by kernel_rfl
def af47 : AF := ⟨29, [.c 2 (some 3), .t 3], .seq (.region [⟨some 2, .alloc 40 [.int .i64 0, .int .i64 0, .str []], none⟩, ⟨some 3, .mv (.k (.bool false)), none⟩] false) (.seq (.seq (.region [⟨some 5, .mv (.t 0), none⟩, ⟨some 6, .nck (.t 5), none⟩, ⟨some 7, .faddr 2 (.t 6), none⟩, ⟨some 8, .load none (.t 7), none⟩, ⟨some 9, .lenL (.t 8), none⟩, ⟨some 10, .bin .eql (.t 9) (.k (.int .i64 0)), none⟩] false) (.cond (.t 10) (.seq (.region [⟨some 11, .build [.int .i64 0, .int .i64 0, .str []] [], none⟩, ⟨none, .store 3 (.t 2) (.t 11), none⟩, ⟨some 3, .mv (.k (.bool false)), none⟩] false) .ret) .skip)) (.seq (.region [⟨some 12, .mv (.t 0), none⟩, ⟨some 13, .nck (.t 12), none⟩, ⟨some 14, .faddr 2 (.t 13), none⟩, ⟨some 15, .load none (.t 14), none⟩, ⟨some 16, .iaddrS 3 (.t 15) (.k (.int .i64 0)), none⟩, ⟨some 17, .load (some 3) (.t 16), none⟩, ⟨some 4, .alloc 40 [.int .i64 0, .int .i64 0, .str []], none⟩, ⟨none, .store 3 (.t 4) (.t 17), none⟩] false) (.seq (.region [⟨some 18, .mv (.t 0), none⟩, ⟨some 19, .bslice 40 3 [] [], none⟩, ⟨some 20, .mv (.t 0), none⟩, ⟨some 21, .nck (.t 20), none⟩, ⟨some 22, .faddr 2 (.t 21), none⟩, ⟨some 23, .load none (.t 22), none⟩, ⟨some 24, .slL 3 (.t 23) (some (.k (.int .i64 1))) none, none⟩, ⟨some 25, .app 40 3 32 [.int .i64 0, .int .i64 0, .str []] (.t 19) (.t 24), none⟩, ⟨some 26, .nck (.t 18), none⟩, ⟨some 27, .faddr 2 (.t 26), none⟩, ⟨none, .store 1 (.t 27) (.t 25), none⟩] false) (.seq (.region [⟨some 28, .load (some 3) (.t 4), none⟩, ⟨none, .store 3 (.t 2) (.t 28), none⟩, ⟨some 3, .mv (.k (.bool true)), none⟩] false) .ret))))⟩
theorem tr47 : trProg Try.prog 47 = some af47 := by kernel_rfl
def af48 : AF := ⟨9, [.t 2], .seq (.region [⟨some 2, .mv (.k (.bool false)), none⟩] false) (.seq (.region [⟨some 3, .mv (.t 0), none⟩, ⟨some 4, .bin .geq (.t 3) (.k (.int .i64 0)), none⟩, ⟨some 5, .mv (.t 4), none⟩, ⟨some 6, .mv (.t 0), some (5, true)⟩, ⟨some 7, .bin .lss (.t 6) (.k (.int .i64 4294967296)), some (5, true)⟩, ⟨some 8, .pick (.t 5) (.t 7) (.k (.bool false)), none⟩, ⟨some 2, .mv (.t 8), none⟩] false) .ret)⟩
theorem tr48 : trProg Try.prog 48 = some af48 := by kernel_rfl
def af49 : AF := ⟨18, [.t 4], .seq (.region [⟨some 4, .mv (.k (.bool false)), none⟩] false) (.seq (.seq (.region [⟨some 5, .mv (.k (.int .i64 0)), none⟩] false) (.block 0 (.loop (.seq (.seq (.region [⟨some 6, .mv (.t 5), none⟩, ⟨some 7, .mv (.t 1), none⟩, ⟨some 8, .lenL (.t 7), none⟩, ⟨some 9, .bin .lss (.t 6) (.t 8), none⟩] false) (.cond (.t 9) .skip (.exit 0))) (.seq (.block 1 (.seq (.region [⟨some 12, .mv (.t 1), none⟩, ⟨some 13, .mv (.t 5), none⟩, ⟨some 14, .iaddrS 1 (.t 12) (.t 13), none⟩, ⟨some 15, .load none (.t 14), none⟩, ⟨some 16, .mv (.t 0), none⟩, ⟨some 17, .bin .eql (.t 15) (.t 16), none⟩] false) (.cond (.t 17) (.seq (.region [⟨some 4, .mv (.k (.bool true)), none⟩] false) .ret) .skip))) (.region [⟨some 10, .mv (.t 5), none⟩, ⟨some 11, .bin .add (.t 10) (.k (.int .i64 1)), none⟩, ⟨some 5, .mv (.t 11), none⟩] false)))))) (.seq (.region [⟨some 4, .mv (.k (.bool false)), none⟩] false) .ret))⟩
theorem tr49 : trProg Try.prog 49 = some af49 := by kernel_rfl
def af50 : AF := ⟨22, [], .seq (.region [⟨some 7, .mv (.t 2), none⟩, ⟨some 8, .bin .sub (.t 7) (.k (.int .i64 1)), none⟩, ⟨some 6, .mv (.t 8), none⟩] false) (.block 0 (.loop (.seq (.seq (.region [⟨some 9, .mv (.t 6), none⟩, ⟨some 10, .bin .geq (.t 9) (.k (.int .i64 0)), none⟩] false) (.cond (.t 10) .skip (.exit 0))) (.seq (.block 1 (.draw 0 [⟨0, ⟨some 13, .mv (.t 0), none⟩, [], none, []⟩, ⟨1, ⟨some 14, .nck (.t 13), none⟩, [], none, []⟩, ⟨2, ⟨some 15, .faddr 0 (.t 14), none⟩, [], none, []⟩, ⟨3, ⟨some 16, .mv (.t 1), none⟩, [], none, []⟩, ⟨4, ⟨some 17, .mv (.t 6), none⟩, [], none, []⟩, ⟨5, ⟨some 18, .bin .mul (.k (.int .i64 8)) (.t 17), none⟩, [], none, []⟩, ⟨6, ⟨some 19, .bin .shr (.t 16) (.t 18), none⟩, [], none, []⟩, ⟨7, ⟨some 20, .toInt .u8 (.t 19), none⟩, [], none, []⟩, ⟨8, ⟨some 21, .call 74 [.t 15, .t 20], none⟩, [], none, []⟩])) (.region [⟨some 11, .mv (.t 6), none⟩, ⟨some 12, .bin .sub (.t 11) (.k (.int .i64 1)), none⟩, ⟨some 6, .mv (.t 12), none⟩] false)))))⟩
theorem tr50 : trProg Try.prog 50 = some af50 := by kernel_rfl
def af51 : AF := ⟨16, [], .seq (.region [⟨some 6, .mv (.t 1), none⟩, ⟨some 7, .lenL (.t 6), none⟩, ⟨some 8, .mv (.k (.int .i64 0)), none⟩] false) (.block 0 (.loop (.seq (.region [⟨some 9, .bin .lss (.t 8) (.t 7), none⟩] false) (.seq (.cond (.t 9) .skip (.exit 0)) (.seq (.block 1 (.seq (.region [⟨some 10, .iaddrS 1 (.t 6) (.t 8), none⟩, ⟨some 11, .load none (.t 10), none⟩, ⟨some 5, .mv (.t 11), none⟩] false) (.region [⟨some 12, .mv (.t 0), none⟩, ⟨some 13, .mv (.t 5), none⟩, ⟨some 14, .call 50 [.t 12, .t 13, .k (.int .i64 4)], none⟩] false))) (.region [⟨some 15, .bin .add (.t 8) (.k (.int .i64 1)), none⟩, ⟨some 8, .mv (.t 15), none⟩] false))))))⟩
theorem tr51 : trProg Try.prog 51 = some af51 := by kernel_rfl
def af52 : AF := ⟨13, [], .seq (.region [⟨some 4, .mv (.t 0), none⟩, ⟨some 5, .mv (.t 1), none⟩, ⟨some 6, .lenS (.t 5), none⟩, ⟨some 7, .call 50 [.t 4, .t 6, .k (.int .i64 2)], none⟩] false) (.region [⟨some 8, .mv (.t 0), none⟩, ⟨some 9, .nck (.t 8), none⟩, ⟨some 10, .faddr 0 (.t 9), none⟩, ⟨some 11, .mv (.t 1), none⟩, ⟨some 12, .call 75 [.t 10, .t 11], none⟩] false)⟩
theorem tr52 : trProg Try.prog 52 = some af52 := by kernel_rfl
def af53 : AF := ⟨14, [.t 2], .seq (.region [⟨some 2, .mv (.k (.str [])), none⟩] false) (.seq (.draw 0 [⟨0, ⟨some 3, .mv (.t 0), none⟩, [], none, []⟩, ⟨1, ⟨some 4, .nck (.t 3), none⟩, [], none, []⟩, ⟨2, ⟨some 5, .faddr 1 (.t 4), none⟩, [], none, []⟩, ⟨3, ⟨some 6, .load none (.t 5), none⟩, [], none, []⟩, ⟨4, ⟨some 7, .sdata (.t 6), none⟩, [], none, []⟩, ⟨5, ⟨some 8, .mv (.t 0), none⟩, [], none, []⟩, ⟨6, ⟨some 9, .nck (.t 8), none⟩, [], none, []⟩, ⟨7, ⟨some 10, .faddr 1 (.t 9), none⟩, [], none, []⟩, ⟨8, ⟨some 11, .load none (.t 10), none⟩, [], none, []⟩, ⟨9, ⟨some 12, .lenL (.t 11), none⟩, [], none, []⟩, ⟨10, ⟨some 13, .ustr 5 (.t 7) (.t 12), none⟩, [], none, []⟩, ⟨11, ⟨some 2, .mv (.t 13), none⟩, [], none, []⟩]) .ret)⟩
theorem tr53 : trProg Try.prog 53 = some af53 := by kernel_rfl
def af54 : AF := ⟨97, [.c 2 (some 8), .t 3], .seq (.region [⟨some 1, .box 23 (.t 0), none⟩, ⟨some 2, .alloc 23 [.int .i64 0, .int .i64 0, .int .i64 0, .int .i64 0, .int .i64 0, .int .i64 0, .str [], .str []], none⟩, ⟨some 3, .mv (.k (.bool false)), none⟩] false) (.seq (.region [⟨some 5, .faddr 0 (.t 1), none⟩, ⟨some 6, .load none (.t 5), none⟩, ⟨some 7, .faddr 1 (.t 1), none⟩, ⟨some 8, .load none (.t 7), none⟩, ⟨some 9, .faddr 2 (.t 1), none⟩, ⟨some 10, .load none (.t 9), none⟩, ⟨some 11, .build [.int .i64 0, .int .i64 0, .int .i64 0, .int .i64 0, .int .i64 0, .int .i64 0, .str [], .str []] [(0, (1, .t 6)), (1, (1, .t 8)), (2, (1, .t 10))], none⟩, ⟨some 4, .alloc 23 [.int .i64 0, .int .i64 0, .int .i64 0, .int .i64 0, .int .i64 0, .int .i64 0, .str [], .str []], none⟩, ⟨none, .store 8 (.t 4) (.t 11), none⟩] false) (.seq (.seq (.region [⟨some 12, .faddr 1 (.t 1), none⟩, ⟨some 13, .load none (.t 12), none⟩] false) (.block 0 (.seq (.seq (.region [⟨some 16, .bin .eql (.t 13) (.k (.int .i64 1)), none⟩, ⟨some 15, .mv (.t 16), none⟩] false) (.cond (.t 15) .skip (.seq (.region [⟨some 17, .bin .eql (.t 13) (.k (.int .i64 11)), none⟩, ⟨some 15, .mv (.t 17), none⟩] false) (.cond (.t 15) .skip (.region [⟨some 18, .bin .eql (.t 13) (.k (.int .i64 12)), none⟩, ⟨some 15, .mv (.t 18), none⟩] false))))) (.cond (.t 15) (.region [⟨some 19, .faddr 6 (.t 1), none⟩, ⟨some 20, .load none (.t 19), none⟩, ⟨some 21, .faddr 6 (.t 4), none⟩, ⟨none, .store 1 (.t 21) (.t 20), none⟩] false) (.seq (.seq (.region [⟨some 23, .bin .eql (.t 13) (.k (.int .i64 2)), none⟩, ⟨some 22, .mv (.t 23), none⟩] false) (.cond (.t 22) .skip (.seq (.region [⟨some 24, .bin .eql (.t 13) (.k (.int .i64 9)), none⟩, ⟨some 22, .mv (.t 24), none⟩] false) (.cond (.t 22) .skip (.seq (.region [⟨some 25, .bin .eql (.t 13) (.k (.int .i64 16)), none⟩, ⟨some 22, .mv (.t 25), none⟩] false) (.cond (.t 22) .skip (.seq (.region [⟨some 26, .bin .eql (.t 13) (.k (.int .i64 17)), none⟩, ⟨some 22, .mv (.t 26), none⟩] false) (.cond (.t 22) .skip (.region [⟨some 27, .bin .eql (.t 13) (.k (.int .i64 18)), none⟩, ⟨some 22, .mv (.t 27), none⟩] false))))))))) (.cond (.t 22) .skip (.seq (.seq (.region [⟨some 29, .bin .eql (.t 13) (.k (.int .i64 3)), none⟩, ⟨some 28, .mv (.t 29), none⟩] false) (.cond (.t 28) .skip (.seq (.region [⟨some 30, .bin .eql (.t 13) (.k (.int .i64 4)), none⟩, ⟨some 28, .mv (.t 30), none⟩] false) (.cond (.t 28) .skip (.region [⟨some 31, .bin .eql (.t 13) (.k (.int .i64 5)), none⟩, ⟨some 28, .mv (.t 31), none⟩] false))))) (.cond (.t 28) (.region [⟨some 32, .faddr 4 (.t 1), none⟩, ⟨some 33, .load none (.t 32), none⟩, ⟨some 34, .faddr 4 (.t 4), none⟩, ⟨none, .store 1 (.t 34) (.t 33), none⟩] false) (.seq (.seq (.region [⟨some 36, .bin .eql (.t 13) (.k (.int .i64 6)), none⟩, ⟨some 35, .mv (.t 36), none⟩] false) (.cond (.t 35) .skip (.region [⟨some 37, .bin .eql (.t 13) (.k (.int .i64 7)), none⟩, ⟨some 35, .mv (.t 37), none⟩] false))) (.cond (.t 35) (.draw 0 [⟨0, ⟨some 38, .faddr 6 (.t 1), none⟩, [], none, []⟩, ⟨1, ⟨some 39, .load none (.t 38), none⟩, [], none, []⟩, ⟨2, ⟨some 40, .faddr 4 (.t 1), none⟩, [], none, []⟩, ⟨3, ⟨some 41, .load none (.t 40), none⟩, [], none, []⟩, ⟨4, ⟨some 42, .faddr 5 (.t 1), none⟩, [], none, []⟩, ⟨5, ⟨some 43, .load none (.t 42), none⟩, [], none, []⟩, ⟨6, ⟨some 44, .faddr 6 (.t 4), none⟩, [], none, []⟩, ⟨7, ⟨none, .store 1 (.t 44) (.t 39), none⟩, [], none, [⟨some 43, .load none (.t 42), none⟩, ⟨some 41, .load none (.t 40), none⟩]⟩, ⟨8, ⟨some 45, .faddr 4 (.t 4), none⟩, [], none, []⟩, ⟨9, ⟨none, .store 1 (.t 45) (.t 41), none⟩, [], none, [⟨some 43, .load none (.t 42), none⟩]⟩, ⟨10, ⟨some 46, .faddr 5 (.t 4), none⟩, [], none, []⟩, ⟨11, ⟨none, .store 1 (.t 46) (.t 43), none⟩, [], none, []⟩]) (.seq (.region [⟨some 48, .bin .eql (.t 13) (.k (.int .i64 8)), none⟩, ⟨some 47, .mv (.t 48), none⟩] false) (.cond (.t 47) (.draw 0 [⟨0, ⟨some 49, .faddr 6 (.t 1), none⟩, [], none, []⟩, ⟨1, ⟨some 50, .load none (.t 49), none⟩, [], none, []⟩, ⟨2, ⟨some 51, .faddr 7 (.t 1), none⟩, [], none, []⟩, ⟨3, ⟨some 52, .load none (.t 51), none⟩, [], none, []⟩, ⟨4, ⟨some 53, .faddr 5 (.t 1), none⟩, [], none, []⟩, ⟨5, ⟨some 54, .load none (.t 53), none⟩, [], none, []⟩, ⟨6, ⟨some 55, .faddr 6 (.t 4), none⟩, [], none, []⟩, ⟨7, ⟨none, .store 1 (.t 55) (.t 50), none⟩, [], none, [⟨some 54, .load none (.t 53), none⟩, ⟨some 52, .load none (.t 51), none⟩]⟩, ⟨8, ⟨some 56, .faddr 7 (.t 4), none⟩, [], none, []⟩, ⟨9, ⟨none, .store 1 (.t 56) (.t 52), none⟩, [], none, [⟨some 54, .load none (.t 53), none⟩]⟩, ⟨10, ⟨some 57, .faddr 5 (.t 4), none⟩, [], none, []⟩, ⟨11, ⟨none, .store 1 (.t 57) (.t 54), none⟩, [], none, []⟩]) (.seq (.region [⟨some 59, .bin .eql (.t 13) (.k (.int .i64 10)), none⟩, ⟨some 58, .mv (.t 59), none⟩] false) (.cond (.t 58) (.draw 0 [⟨0, ⟨some 60, .faddr 6 (.t 1), none⟩, [], none, []⟩, ⟨1, ⟨some 61, .load none (.t 60), none⟩, [], none, []⟩, ⟨2, ⟨some 62, .faddr 3 (.t 1), none⟩, [], none, []⟩, ⟨3, ⟨some 63, .load none (.t 62), none⟩, [], none, []⟩, ⟨4, ⟨some 64, .faddr 6 (.t 4), none⟩, [], none, []⟩, ⟨5, ⟨none, .store 1 (.t 64) (.t 61), none⟩, [], none, [⟨some 63, .load none (.t 62), none⟩]⟩, ⟨6, ⟨some 65, .faddr 3 (.t 4), none⟩, [], none, []⟩, ⟨7, ⟨none, .store 1 (.t 65) (.t 63), none⟩, [], none, []⟩]) (.seq (.region [⟨some 67, .bin .eql (.t 13) (.k (.int .i64 13)), none⟩, ⟨some 66, .mv (.t 67), none⟩] false) (.cond (.t 66) (.draw 0 [⟨0, ⟨some 68, .faddr 6 (.t 1), none⟩, [], none, []⟩, ⟨1, ⟨some 69, .load none (.t 68), none⟩, [], none, []⟩, ⟨2, ⟨some 70, .faddr 3 (.t 1), none⟩, [], none, []⟩, ⟨3, ⟨some 71, .load none (.t 70), none⟩, [], none, []⟩, ⟨4, ⟨some 72, .faddr 7 (.t 1), none⟩, [], none, []⟩, ⟨5, ⟨some 73, .load none (.t 72), none⟩, [], none, []⟩, ⟨6, ⟨some 74, .faddr 6 (.t 4), none⟩, [], none, []⟩, ⟨7, ⟨none, .store 1 (.t 74) (.t 69), none⟩, [], none, [⟨some 73, .load none (.t 72), none⟩, ⟨some 71, .load none (.t 70), none⟩]⟩, ⟨8, ⟨some 75, .faddr 3 (.t 4), none⟩, [], none, []⟩, ⟨9, ⟨none, .store 1 (.t 75) (.t 71), none⟩, [], none, [⟨some 73, .load none (.t 72), none⟩]⟩, ⟨10, ⟨some 76, .faddr 7 (.t 4), none⟩, [], none, []⟩, ⟨11, ⟨none, .store 1 (.t 76) (.t 73), none⟩, [], none, []⟩]) (.seq (.region [⟨some 78, .bin .eql (.t 13) (.k (.int .i64 14)), none⟩, ⟨some 77, .mv (.t 78), none⟩] false) (.cond (.t 77) (.draw 0 [⟨0, ⟨some 79, .faddr 4 (.t 1), none⟩, [], none, []⟩, ⟨1, ⟨some 80, .load none (.t 79), none⟩, [], none, []⟩, ⟨2, ⟨some 81, .faddr 5 (.t 1), none⟩, [], none, []⟩, ⟨3, ⟨some 82, .load none (.t 81), none⟩, [], none, []⟩, ⟨4, ⟨some 83, .faddr 4 (.t 4), none⟩, [], none, []⟩, ⟨5, ⟨none, .store 1 (.t 83) (.t 80), none⟩, [], none, [⟨some 82, .load none (.t 81), none⟩]⟩, ⟨6, ⟨some 84, .faddr 5 (.t 4), none⟩, [], none, []⟩, ⟨7, ⟨none, .store 1 (.t 84) (.t 82), none⟩, [], none, []⟩]) (.seq (.region [⟨some 86, .bin .eql (.t 13) (.k (.int .i64 15)), none⟩, ⟨some 85, .mv (.t 86), none⟩] false) (.cond (.t 85) (.draw 0 [⟨0, ⟨some 87, .faddr 4 (.t 1), none⟩, [], none, []⟩, ⟨1, ⟨some 88, .load none (.t 87), none⟩, [], none, []⟩, ⟨2, ⟨some 89, .faddr 7 (.t 1), none⟩, [], none, []⟩, ⟨3, ⟨some 90, .load none (.t 89), none⟩, [], none, []⟩, ⟨4, ⟨some 91, .faddr 4 (.t 4), none⟩, [], none, []⟩, ⟨5, ⟨none, .store 1 (.t 91) (.t 88), none⟩, [], none, [⟨some 90, .load none (.t 89), none⟩]⟩, ⟨6, ⟨some 92, .faddr 7 (.t 4), none⟩, [], none, []⟩, ⟨7, ⟨none, .store 1 (.t 92) (.t 90), none⟩, [], none, []⟩]) (.seq (.region [⟨some 94, .bin .eql (.t 13) (.k (.int .i64 19)), none⟩, ⟨some 93, .mv (.t 94), none⟩] false) (.cond (.t 93) (.region [⟨some 95, .faddr 2 (.t 4), none⟩, ⟨none, .store 1 (.t 95) (.k (.int .i64 0)), none⟩] false) (.seq (.region [⟨some 14, .load (some 8) (.t 4), none⟩, ⟨none, .store 8 (.t 2) (.t 14), none⟩, ⟨some 3, .mv (.k (.bool false)), none⟩] false) .ret))))))))))))))))))))))) (.seq (.region [⟨some 96, .load (some 8) (.t 4), none⟩, ⟨none, .store 8 (.t 2) (.t 96), none⟩, ⟨some 3, .mv (.k (.bool true)), none⟩] false) .ret)))⟩
theorem tr54 : trProg Try.prog 54 = some af54 := by kernel_rfl
def af55 : AF := ⟨6, [.t 2], .seq (.region [⟨some 2, .mv (.k (.bool false)), none⟩] false) (.seq (.region [⟨some 3, .mv (.t 0), none⟩, ⟨some 4, .call 76 [.t 3, .f 77], none⟩, ⟨some 5, .un .not (.t 4), none⟩, ⟨some 2, .mv (.t 5), none⟩] false) .ret)⟩
theorem tr55 : trProg Try.prog 55 = some af55 := by kernel_rfl
def af60 : AF := ⟨22, [.t 4], .seq (.region [⟨some 4, .mv (.k (.str [])), none⟩] false) (.seq (.region [⟨some 5, .mv (.k (.str [])), none⟩] false) (.seq (.seq (.region [⟨some 6, .mv (.k (.int .i64 0)), none⟩] false) (.block 0 (.loop (.seq (.seq (.region [⟨some 7, .mv (.t 6), none⟩, ⟨some 8, .mv (.t 1), none⟩, ⟨some 9, .bin .lss (.t 7) (.t 8), none⟩] false) (.cond (.t 9) .skip (.exit 0))) (.seq (.block 1 (.seq (.region [⟨some 12, .mv (.t 0), none⟩, ⟨some 13, .bin .rem (.t 12) (.k (.int .i64 256)), none⟩, ⟨some 14, .toInt .u8 (.t 13), none⟩, ⟨some 15, .bslice 5 1 [.int .u8 0] [(0, (1, .t 14))], none⟩, ⟨some 16, .toStr (.t 15), none⟩, ⟨some 17, .mv (.t 5), none⟩, ⟨some 18, .bin .add (.t 16) (.t 17), none⟩, ⟨some 5, .mv (.t 18), none⟩] false) (.region [⟨some 19, .mv (.t 0), none⟩, ⟨some 20, .bin .quo (.t 19) (.k (.int .i64 256)), none⟩, ⟨some 0, .mv (.t 20), none⟩] false))) (.region [⟨some 10, .mv (.t 6), none⟩, ⟨some 11, .bin .add (.t 10) (.k (.int .i64 1)), none⟩, ⟨some 6, .mv (.t 11), none⟩] false)))))) (.seq (.region [⟨some 21, .mv (.t 5), none⟩, ⟨some 4, .mv (.t 21), none⟩] false) .ret)))⟩
theorem tr60 : trProg Try.prog 60 = some af60 := by kernel_rfl
def af61 : AF := ⟨8, [.t 2], .seq (.region [⟨some 2, .mv (.k (.str [])), none⟩] false) (.seq (.region [⟨some 3, .mv (.t 0), none⟩, ⟨some 4, .lenS (.t 3), none⟩, ⟨some 5, .call 60 [.t 4, .k (.int .i64 2)], none⟩, ⟨some 6, .mv (.t 0), none⟩, ⟨some 7, .bin .add (.t 5) (.t 6), none⟩, ⟨some 2, .mv (.t 7), none⟩] false) .ret)⟩
theorem tr61 : trProg Try.prog 61 = some af61 := by kernel_rfl
def af62 : AF := ⟨35, [.t 6, .t 7], .seq (.region [⟨some 6, .mv (.k (.int .i64 0)), none⟩, ⟨some 7, .mv (.k (.bool false)), none⟩] false) (.seq (.seq (.region [⟨some 10, .mv (.t 1), none⟩, ⟨some 11, .bin .lss (.t 10) (.k (.int .i64 0)), none⟩, ⟨some 12, .mv (.t 11), none⟩, ⟨some 13, .mv (.t 1), some (12, false)⟩, ⟨some 14, .mv (.t 2), some (12, false)⟩, ⟨some 15, .bin .add (.t 13) (.t 14), some (12, false)⟩, ⟨some 16, .mv (.t 0), some (12, false)⟩, ⟨some 17, .lenS (.t 16), some (12, false)⟩, ⟨some 18, .bin .gtr (.t 15) (.t 17), some (12, false)⟩, ⟨some 19, .pick (.t 12) (.k (.bool true)) (.t 18), none⟩] false) (.cond (.t 19) (.seq (.region [⟨some 6, .mv (.k (.int .i64 0)), none⟩, ⟨some 7, .mv (.k (.bool false)), none⟩] false) .ret) .skip)) (.seq (.region [⟨some 8, .mv (.k (.int .i64 0)), none⟩] false) (.seq (.seq (.region [⟨some 9, .mv (.k (.int .i64 0)), none⟩] false) (.block 0 (.loop (.seq (.seq (.region [⟨some 20, .mv (.t 9), none⟩, ⟨some 21, .mv (.t 2), none⟩, ⟨some 22, .bin .lss (.t 20) (.t 21), none⟩] false) (.cond (.t 22) .skip (.exit 0))) (.seq (.block 1 (.region [⟨some 25, .mv (.t 8), none⟩, ⟨some 26, .bin .mul (.t 25) (.k (.int .i64 256)), none⟩, ⟨some 27, .mv (.t 0), none⟩, ⟨some 28, .mv (.t 1), none⟩, ⟨some 29, .mv (.t 9), none⟩, ⟨some 30, .bin .add (.t 28) (.t 29), none⟩, ⟨some 31, .idxS (.t 27) (.t 30), none⟩, ⟨some 32, .toInt .i64 (.t 31), none⟩, ⟨some 33, .bin .add (.t 26) (.t 32), none⟩, ⟨some 8, .mv (.t 33), none⟩] false)) (.region [⟨some 23, .mv (.t 9), none⟩, ⟨some 24, .bin .add (.t 23) (.k (.int .i64 1)), none⟩, ⟨some 9, .mv (.t 24), none⟩] false)))))) (.seq (.region [⟨some 34, .mv (.t 8), none⟩, ⟨some 6, .mv (.t 34), none⟩, ⟨some 7, .mv (.k (.bool true)), none⟩] false) .ret))))⟩
theorem tr62 : trProg Try.prog 62 = some af62 := by kernel_rfl
def af63 : AF := ⟨36, [.t 4, .t 5, .t 6], .seq (.region [⟨some 4, .mv (.k (.str [])), none⟩, ⟨some 5, .mv (.k (.int .i64 0)), none⟩, ⟨some 6, .mv (.k (.bool false)), none⟩] false) (.seq (.region [⟨some 10, .mv (.t 0), none⟩, ⟨some 11, .mv (.t 1), none⟩, ⟨some 12, .call 62 [.t 10, .t 11, .k (.int .i64 2)], none⟩, ⟨some 9, .mv (.t 12), none⟩, ⟨some 13, .extract (.t 9) 0, none⟩, ⟨some 14, .extract (.t 9) 1, none⟩, ⟨some 7, .mv (.t 13), none⟩, ⟨some 8, .mv (.t 14), none⟩] false) (.seq (.seq (.region [⟨some 15, .mv (.t 8), none⟩, ⟨some 16, .un .not (.t 15), none⟩, ⟨some 17, .mv (.t 16), none⟩, ⟨some 18, .mv (.t 1), some (17, false)⟩, ⟨some 19, .bin .add (.t 18) (.k (.int .i64 2)), some (17, false)⟩, ⟨some 20, .mv (.t 7), some (17, false)⟩, ⟨some 21, .bin .add (.t 19) (.t 20), some (17, false)⟩, ⟨some 22, .mv (.t 0), some (17, false)⟩, ⟨some 23, .lenS (.t 22), some (17, false)⟩, ⟨some 24, .bin .gtr (.t 21) (.t 23), some (17, false)⟩, ⟨some 25, .pick (.t 17) (.k (.bool true)) (.t 24), none⟩] false) (.cond (.t 25) (.seq (.region [⟨some 4, .mv (.k (.str [])), none⟩, ⟨some 5, .mv (.k (.int .i64 0)), none⟩, ⟨some 6, .mv (.k (.bool false)), none⟩] false) .ret) .skip)) (.seq (.region [⟨some 26, .mv (.t 0), none⟩, ⟨some 27, .mv (.t 1), none⟩, ⟨some 28, .bin .add (.t 27) (.k (.int .i64 2)), none⟩, ⟨some 29, .mv (.t 1), none⟩, ⟨some 30, .bin .add (.t 29) (.k (.int .i64 2)), none⟩, ⟨some 31, .mv (.t 7), none⟩, ⟨some 32, .bin .add (.t 30) (.t 31), none⟩, ⟨some 33, .slS (.t 26) (some (.t 28)) (some (.t 32)), none⟩, ⟨some 34, .mv (.t 7), none⟩, ⟨some 35, .bin .add (.k (.int .i64 2)) (.t 34), none⟩, ⟨some 4, .mv (.t 33), none⟩, ⟨some 5, .mv (.t 35), none⟩, ⟨some 6, .mv (.k (.bool true)), none⟩] false) .ret)))⟩
theorem tr63 : trProg Try.prog 63 = some af63 := by kernel_rfl
def af64 : AF := ⟨32, [.t 2], .seq (.region [⟨some 2, .mv (.k (.int .i64 0)), none⟩] false) (.seq (.seq (.region [⟨some 4, .mv (.t 0), none⟩, ⟨some 5, .lenS (.t 4), none⟩, ⟨some 6, .bin .eql (.t 5) (.k (.int .i64 0)), none⟩] false) (.cond (.t 6) (.seq (.region [⟨some 2, .mv (.k (.int .i64 2)), none⟩] false) .ret) .skip)) (.seq (.seq (.region [⟨some 7, .mv (.t 0), none⟩, ⟨some 8, .lenS (.t 7), none⟩, ⟨some 9, .bin .gtr (.t 8) (.k (.int .i64 13)), none⟩] false) (.cond (.t 9) (.seq (.region [⟨some 2, .mv (.k (.int .i64 36)), none⟩] false) .ret) .skip)) (.seq (.seq (.region [⟨some 10, .mv (.t 0), none⟩, ⟨some 11, .bin .eql (.t 10) (.k (.str [46])), none⟩, ⟨some 12, .mv (.t 11), none⟩, ⟨some 13, .mv (.t 0), some (12, false)⟩, ⟨some 14, .bin .eql (.t 13) (.k (.str [46, 46])), some (12, false)⟩, ⟨some 15, .pick (.t 12) (.k (.bool true)) (.t 14), none⟩] false) (.cond (.t 15) (.seq (.region [⟨some 2, .mv (.k (.int .i64 22)), none⟩] false) .ret) .skip)) (.seq (.seq (.region [⟨some 3, .mv (.k (.int .i64 0)), none⟩] false) (.block 0 (.loop (.seq (.seq (.region [⟨some 16, .mv (.t 3), none⟩, ⟨some 17, .mv (.t 0), none⟩, ⟨some 18, .lenS (.t 17), none⟩, ⟨some 19, .bin .lss (.t 16) (.t 18), none⟩] false) (.cond (.t 19) .skip (.exit 0))) (.seq (.block 1 (.seq (.region [⟨some 22, .mv (.t 0), none⟩, ⟨some 23, .mv (.t 3), none⟩, ⟨some 24, .idxS (.t 22) (.t 23), none⟩, ⟨some 25, .bin .eql (.t 24) (.k (.int .u8 0)), none⟩, ⟨some 26, .mv (.t 25), none⟩, ⟨some 27, .mv (.t 0), some (26, false)⟩, ⟨some 28, .mv (.t 3), some (26, false)⟩, ⟨some 29, .idxS (.t 27) (.t 28), some (26, false)⟩, ⟨some 30, .bin .eql (.t 29) (.k (.int .u8 47)), some (26, false)⟩, ⟨some 31, .pick (.t 26) (.k (.bool true)) (.t 30), none⟩] false) (.cond (.t 31) (.seq (.region [⟨some 2, .mv (.k (.int .i64 22)), none⟩] false) .ret) .skip))) (.region [⟨some 20, .mv (.t 3), none⟩, ⟨some 21, .bin .add (.t 20) (.k (.int .i64 1)), none⟩, ⟨some 3, .mv (.t 21), none⟩] false)))))) (.seq (.region [⟨some 2, .mv (.k (.int .i64 0)), none⟩] false) .ret)))))⟩
theorem tr64 : trProg Try.prog 64 = some af64 := by kernel_rfl
def af65 : AF := ⟨15, [.t 6], .seq (.region [⟨some 6, .mv (.k (.bool false)), none⟩] false) (.seq (.region [⟨some 7, .mv (.t 0), none⟩, ⟨some 8, .mv (.t 1), none⟩, ⟨some 9, .bin .geq (.t 7) (.t 8), none⟩, ⟨some 10, .mv (.t 9), none⟩, ⟨some 11, .mv (.t 0), some (10, true)⟩, ⟨some 12, .mv (.t 2), some (10, true)⟩, ⟨some 13, .bin .leq (.t 11) (.t 12), some (10, true)⟩, ⟨some 14, .pick (.t 10) (.t 13) (.k (.bool false)), none⟩, ⟨some 6, .mv (.t 14), none⟩] false) .ret)⟩
theorem tr65 : trProg Try.prog 65 = some af65 := by kernel_rfl
def af66 : AF := ⟨25, [.t 2], .seq (.region [⟨some 2, .mv (.k (.int .i64 0)), none⟩] false) (.seq (.block 0 (.seq (.region [⟨some 4, .mv (.t 0), none⟩, ⟨some 5, .bin .eql (.t 4) (.k (.str [])), none⟩, ⟨some 3, .mv (.t 5), none⟩] false) (.cond (.t 3) (.seq (.region [⟨some 2, .mv (.k (.int .i64 2)), none⟩] false) .ret) (.seq (.region [⟨some 7, .mv (.t 0), none⟩, ⟨some 8, .lenS (.t 7), none⟩, ⟨some 9, .bin .gtr (.t 8) (.k (.int .i64 13)), none⟩, ⟨some 6, .mv (.t 9), none⟩] false) (.cond (.t 6) (.seq (.region [⟨some 2, .mv (.k (.int .i64 36)), none⟩] false) .ret) (.seq (.region [⟨some 11, .mv (.t 0), none⟩, ⟨some 12, .bin .eql (.t 11) (.k (.str [46])), none⟩, ⟨some 13, .mv (.t 12), none⟩, ⟨some 14, .mv (.t 0), some (13, false)⟩, ⟨some 15, .bin .eql (.t 14) (.k (.str [46, 46])), some (13, false)⟩, ⟨some 16, .pick (.t 13) (.k (.bool true)) (.t 15), none⟩, ⟨some 17, .mv (.t 16), none⟩, ⟨some 18, .mv (.t 0), some (17, false)⟩, ⟨some 19, .call 79 [.t 18, .k (.str [47])], some (17, false)⟩, ⟨some 20, .pick (.t 17) (.k (.bool true)) (.t 19), none⟩, ⟨some 21, .mv (.t 20), none⟩, ⟨some 22, .mv (.t 0), some (21, false)⟩, ⟨some 23, .call 79 [.t 22, .k (.str [0])], some (21, false)⟩, ⟨some 24, .pick (.t 21) (.k (.bool true)) (.t 23), none⟩, ⟨some 10, .mv (.t 24), none⟩] false) (.cond (.t 10) (.seq (.region [⟨some 2, .mv (.k (.int .i64 22)), none⟩] false) .ret) .skip))))))) (.seq (.region [⟨some 2, .mv (.k (.int .i64 0)), none⟩] false) .ret))⟩
theorem tr66 : trProg Try.prog 66 = some af66 := by kernel_rfl
def af72 : AF := ⟨15, [.c 2 (some 8), .t 3], .seq (.region [⟨some 2, .alloc 23 [.int .i64 0, .int .i64 0, .int .i64 0, .int .i64 0, .int .i64 0, .int .i64 0, .str [], .str []], none⟩, ⟨some 3, .mv (.k (.bool false)), none⟩] false) (.seq (.region [⟨some 5, .mv (.t 0), none⟩, ⟨some 6, .nck (.t 5), none⟩, ⟨some 7, .faddr 0 (.t 6), none⟩, ⟨some 8, .load none (.t 7), none⟩] false) (.seq (.sel (some 9) none (.t 8) (.agg [.int .i64 0, .int .i64 0, .int .i64 0, .int .i64 0, .int .i64 0, .int .i64 0, .str [], .str []]) [⟨some 10, .extract (.t 9) 0, none⟩, ⟨some 11, .bin .eql (.t 10) (.k (.int .i64 0)), none⟩]) (.block 0 (.cond (.t 11) (.seq (.region [⟨some 13, .extract (.t 9) 2, none⟩, ⟨some 4, .alloc 23 [.int .i64 0, .int .i64 0, .int .i64 0, .int .i64 0, .int .i64 0, .int .i64 0, .str [], .str []], none⟩, ⟨none, .store 8 (.t 4) (.t 13), none⟩] false) (.seq (.region [⟨some 14, .load (some 8) (.t 4), none⟩, ⟨none, .store 8 (.t 2) (.t 14), none⟩, ⟨some 3, .mv (.k (.bool true)), none⟩] false) .ret)) (.seq (.region [⟨some 12, .build [.int .i64 0, .int .i64 0, .int .i64 0, .int .i64 0, .int .i64 0, .int .i64 0, .str [], .str []] [], none⟩, ⟨none, .store 8 (.t 2) (.t 12), none⟩, ⟨some 3, .mv (.k (.bool false)), none⟩] false) .ret)))))⟩
theorem tr72 : trProg Try.prog 72 = some af72 := by kernel_rfl
def af73 : AF := ⟨54, [.t 4], .seq (.region [⟨some 4, .mv (.k (.int .i64 0)), none⟩] false) (.seq (.seq (.region [⟨some 5, .mv (.k (.int .i64 0)), none⟩] false) (.block 0 (.loop (.seq (.seq (.region [⟨some 7, .mv (.t 5), none⟩, ⟨some 8, .mv (.t 0), none⟩, ⟨some 9, .nck (.t 8), none⟩, ⟨some 10, .faddr 1 (.t 9), none⟩, ⟨some 11, .load none (.t 10), none⟩, ⟨some 12, .lenL (.t 11), none⟩, ⟨some 13, .bin .lss (.t 7) (.t 12), none⟩] false) (.cond (.t 13) .skip (.exit 0))) (.seq (.block 1 (.seq (.region [⟨some 16, .mv (.t 0), none⟩, ⟨some 17, .nck (.t 16), none⟩, ⟨some 18, .faddr 1 (.t 17), none⟩, ⟨some 19, .load none (.t 18), none⟩, ⟨some 20, .mv (.t 5), none⟩, ⟨some 21, .iaddrS 8 (.t 19) (.t 20), none⟩, ⟨some 22, .faddr 0 (.t 21), none⟩, ⟨some 23, .load none (.t 22), none⟩, ⟨some 24, .mv (.t 1), none⟩, ⟨some 25, .bin .eql (.t 23) (.t 24), none⟩] false) (.cond (.t 25) (.seq (.region [⟨some 26, .mv (.t 0), none⟩, ⟨some 27, .nck (.t 26), none⟩, ⟨some 28, .faddr 1 (.t 27), none⟩, ⟨some 29, .load none (.t 28), none⟩, ⟨some 30, .mv (.t 5), none⟩, ⟨some 31, .iaddrS 8 (.t 29) (.t 30), none⟩, ⟨some 32, .faddr 1 (.t 31), none⟩, ⟨some 33, .load none (.t 32), none⟩, ⟨some 6, .mv (.t 33), none⟩] false) (.seq (.draw 1 [⟨0, ⟨some 34, .mv (.t 0), none⟩, [], none, []⟩, ⟨2, ⟨some 36, .mv (.t 0), none⟩, [], none, []⟩, ⟨3, ⟨some 37, .nck (.t 36), none⟩, [], none, []⟩, ⟨4, ⟨some 38, .faddr 1 (.t 37), none⟩, [], none, []⟩, ⟨5, ⟨some 39, .load none (.t 38), none⟩, [], none, []⟩, ⟨6, ⟨some 40, .mv (.t 5), none⟩, [], none, []⟩, ⟨7, ⟨some 41, .slL 8 (.t 39) none (some (.t 40)), none⟩, [], none, []⟩, ⟨9, ⟨some 43, .mv (.t 0), none⟩, [], none, []⟩, ⟨10, ⟨some 44, .nck (.t 43), none⟩, [], none, []⟩, ⟨11, ⟨some 45, .faddr 1 (.t 44), none⟩, [], none, []⟩, ⟨12, ⟨some 46, .load none (.t 45), none⟩, [], none, []⟩, ⟨13, ⟨some 47, .mv (.t 5), none⟩, [], none, []⟩, ⟨14, ⟨some 48, .bin .add (.t 47) (.k (.int .i64 1)), none⟩, [], none, []⟩, ⟨15, ⟨some 49, .slL 8 (.t 46) (some (.t 48)) none, none⟩, [], none, []⟩, ⟨1, ⟨some 35, .bslice 25 8 [] [], none⟩, [], some 0, []⟩, ⟨8, ⟨some 42, .app 25 8 80 [.int .i64 0, .int .i64 0, .int .i64 0, .int .i64 0, .int .i64 0, .int .i64 0, .str [], .str []] (.t 35) (.t 41), none⟩, [0], none, [⟨some 49, .slL 8 (.t 46) (some (.t 48)) none, none⟩, ⟨some 46, .load none (.t 45), none⟩]⟩, ⟨16, ⟨some 50, .app 25 8 80 [.int .i64 0, .int .i64 0, .int .i64 0, .int .i64 0, .int .i64 0, .int .i64 0, .str [], .str []] (.t 42) (.t 49), none⟩, [0], none, []⟩, ⟨17, ⟨some 51, .nck (.t 34), none⟩, [0], none, []⟩, ⟨18, ⟨some 52, .faddr 1 (.t 51), none⟩, [0], none, []⟩, ⟨19, ⟨none, .store 1 (.t 52) (.t 50), none⟩, [0], none, []⟩]) (.seq (.region [⟨some 53, .mv (.t 6), none⟩, ⟨some 4, .mv (.t 53), none⟩] false) .ret))) .skip))) (.region [⟨some 14, .mv (.t 5), none⟩, ⟨some 15, .bin .add (.t 14) (.k (.int .i64 1)), none⟩, ⟨some 5, .mv (.t 15), none⟩] false)))))) (.seq (.region [⟨some 4, .mv (.k (.int .i64 (-1))), none⟩] false) .ret))⟩
theorem tr73 : trProg Try.prog 73 = some af73 := by kernel_rfl
def af74 : AF := ⟨17, [.t 4], .seq (.region [⟨some 4, .mv (.k .nili), none⟩] false) (.seq (.region [⟨some 5, .mv (.t 0), none⟩, ⟨some 6, .call 82 [.t 5], none⟩] false) (.seq (.region [⟨some 7, .mv (.t 0), none⟩, ⟨some 8, .mv (.t 0), none⟩, ⟨some 9, .nck (.t 8), none⟩, ⟨some 10, .faddr 1 (.t 9), none⟩, ⟨some 11, .load none (.t 10), none⟩, ⟨some 12, .mv (.t 1), none⟩, ⟨some 13, .bslice 5 1 [.int .u8 0] [(0, (1, .t 12))], none⟩, ⟨some 14, .app 5 1 1 [.int .u8 0] (.t 11) (.t 13), none⟩, ⟨some 15, .nck (.t 7), none⟩, ⟨some 16, .faddr 1 (.t 15), none⟩, ⟨none, .store 1 (.t 16) (.t 14), none⟩] false) (.seq (.region [⟨some 4, .mv (.k .nili), none⟩] false) .ret)))⟩
theorem tr74 : trProg Try.prog 74 = some af74 := by kernel_rfl
def af75 : AF := ⟨19, [.t 4, .t 5], .seq (.region [⟨some 4, .mv (.k (.int .i64 0)), none⟩, ⟨some 5, .mv (.k .nili), none⟩] false) (.seq (.region [⟨some 6, .mv (.t 0), none⟩, ⟨some 7, .call 82 [.t 6], none⟩] false) (.seq (.region [⟨some 8, .mv (.t 0), none⟩, ⟨some 9, .mv (.t 0), none⟩, ⟨some 10, .nck (.t 9), none⟩, ⟨some 11, .faddr 1 (.t 10), none⟩, ⟨some 12, .load none (.t 11), none⟩, ⟨some 13, .mv (.t 1), none⟩, ⟨some 14, .appS 5 1 [.int .u8 0] (.t 12) (.t 13), none⟩, ⟨some 15, .nck (.t 8), none⟩, ⟨some 16, .faddr 1 (.t 15), none⟩, ⟨none, .store 1 (.t 16) (.t 14), none⟩] false) (.seq (.region [⟨some 17, .mv (.t 1), none⟩, ⟨some 18, .lenS (.t 17), none⟩, ⟨some 4, .mv (.t 18), none⟩, ⟨some 5, .mv (.k .nili), none⟩] false) .ret)))⟩
theorem tr75 : trProg Try.prog 75 = some af75 := by kernel_rfl
def af76 : AF := ⟨9, [.t 4], .seq (.region [⟨some 4, .mv (.k (.bool false)), none⟩] false) (.seq (.region [⟨some 5, .mv (.t 0), none⟩, ⟨some 6, .mv (.t 1), none⟩, ⟨some 7, .call 83 [.t 5, .t 6], none⟩, ⟨some 8, .bin .geq (.t 7) (.k (.int .i64 0)), none⟩, ⟨some 4, .mv (.t 8), none⟩] false) .ret)⟩
theorem tr76 : trProg Try.prog 76 = some af76 := by kernel_rfl
def af77 : AF := ⟨6, [.t 2], .seq (.region [⟨some 2, .mv (.k (.bool false)), none⟩] false) (.seq (.region [⟨some 3, .mv (.t 0), none⟩, ⟨some 4, .call 65 [.t 3, .k (.int .i64 0), .k (.int .i64 4294967295)], none⟩, ⟨some 5, .un .not (.t 4), none⟩, ⟨some 2, .mv (.t 5), none⟩] false) .ret)⟩
theorem tr77 : trProg Try.prog 77 = some af77 := by kernel_rfl
def af82 : AF := ⟨20, [], .seq (.region [⟨some 2, .mv (.t 0), none⟩, ⟨some 3, .nck (.t 2), none⟩, ⟨some 4, .faddr 0 (.t 3), none⟩, ⟨some 5, .load none (.t 4), none⟩, ⟨some 6, .eqf false false [(1, .p)] (.t 5) (.k .nilp), none⟩] false) (.cond (.t 6) (.region [⟨some 7, .mv (.t 0), none⟩, ⟨some 8, .mv (.t 0), none⟩, ⟨some 9, .cvU (.t 8), none⟩, ⟨some 10, .mv (.t 9), none⟩, ⟨some 11, .cvP [(102, 2), (103, 2), (104, 2), (105, 2)] (.t 10), none⟩, ⟨some 12, .nck (.t 7), none⟩, ⟨some 13, .faddr 0 (.t 12), none⟩, ⟨none, .store 1 (.t 13) (.t 11), none⟩] false) (.seq (.region [⟨some 14, .mv (.t 0), none⟩, ⟨some 15, .nck (.t 14), none⟩, ⟨some 16, .faddr 0 (.t 15), none⟩, ⟨some 17, .load none (.t 16), none⟩, ⟨some 18, .mv (.t 0), none⟩, ⟨some 19, .eqf true false [(1, .p)] (.t 17) (.t 18), none⟩] false) (.cond (.t 19) (.cond (.k .nilp) .skip .skip) .skip)))⟩
theorem tr82 : trProg Try.prog 82 = some af82 := by kernel_rfl
def af83 : AF := ⟨19, [.t 4], .seq (.region [⟨some 4, .mv (.k (.int .i64 0)), none⟩] false) (.seq (.seq (.region [⟨some 6, .mv (.t 0), none⟩, ⟨some 7, .lenL (.t 6), none⟩, ⟨some 8, .mv (.k (.int .i64 0)), none⟩] false) (.block 0 (.loop (.seq (.region [⟨some 9, .bin .lss (.t 8) (.t 7), none⟩] false) (.seq (.cond (.t 9) .skip (.exit 0)) (.seq (.block 1 (.seq (.region [⟨some 10, .mv (.t 8), none⟩, ⟨some 5, .mv (.t 10), none⟩] false) (.seq (.region [⟨some 11, .mv (.t 1), none⟩, ⟨some 12, .mv (.t 0), none⟩, ⟨some 13, .mv (.t 5), none⟩, ⟨some 14, .iaddrS 1 (.t 12) (.t 13), none⟩, ⟨some 15, .load none (.t 14), none⟩, ⟨some 16, .callv (.t 11) [.t 15], none⟩] false) (.cond (.t 16) (.seq (.region [⟨some 17, .mv (.t 5), none⟩, ⟨some 4, .mv (.t 17), none⟩] false) .ret) .skip)))) (.region [⟨some 18, .bin .add (.t 8) (.k (.int .i64 1)), none⟩, ⟨some 8, .mv (.t 18), none⟩] false))))))) (.seq (.region [⟨some 4, .mv (.k (.int .i64 (-1))), none⟩] false) .ret))⟩
theorem tr83 : trProg Try.prog 83 = some af83 := by kernel_rfl

def FF : Nat → Option AF
  | 9 => some af9
  | 11 => some af11
  | 12 => some af12
  | 13 => some af13
  | 14 => some af14
  | 18 => some af18
  | 20 => some af20
  | 24 => some af24
  | 25 => some af25
  | 27 => some af27
  | 28 => some af28
  | 29 => some af29
  | 30 => some af30
  | 31 => some af31
  | 32 => some af32
  | 33 => some af33
  | 34 => some af34
  | 35 => some af35
  | 36 => some af36
  | 37 => some af37
  | 38 => some af38
  | 39 => some af39
  | 40 => some af40
  | 41 => some af41
  | 42 => some af42
  | 43 => some af43
  | 44 => some af44
  | 45 => some af45
  | 46 => some af46
  | 47 => some af47
  | 48 => some af48
  | 49 => some af49
  | 50 => some af50
  | 51 => some af51
  | 52 => some af52
  | 53 => some af53
  | 54 => some af54
  | 55 => some af55
  | 60 => some af60
  | 61 => some af61
  | 62 => some af62
  | 63 => some af63
  | 64 => some af64
  | 65 => some af65
  | 66 => some af66
  | 72 => some af72
  | 73 => some af73
  | 74 => some af74
  | 75 => some af75
  | 76 => some af76
  | 77 => some af77
  | 82 => some af82
  | 83 => some af83
  | _ => none

theorem ffok : ∀ f af, FF f = some af → trProg Try.prog f = some af := by
  intro f af h
  unfold FF at h
  split at h
  · cases h; exact tr9
  · cases h; exact tr11
  · cases h; exact tr12
  · cases h; exact tr13
  · cases h; exact tr14
  · cases h; exact tr18
  · cases h; exact tr20
  · cases h; exact tr24
  · cases h; exact tr25
  · cases h; exact tr27
  · cases h; exact tr28
  · cases h; exact tr29
  · cases h; exact tr30
  · cases h; exact tr31
  · cases h; exact tr32
  · cases h; exact tr33
  · cases h; exact tr34
  · cases h; exact tr35
  · cases h; exact tr36
  · cases h; exact tr37
  · cases h; exact tr38
  · cases h; exact tr39
  · cases h; exact tr40
  · cases h; exact tr41
  · cases h; exact tr42
  · cases h; exact tr43
  · cases h; exact tr44
  · cases h; exact tr45
  · cases h; exact tr46
  · cases h; exact tr47
  · cases h; exact tr48
  · cases h; exact tr49
  · cases h; exact tr50
  · cases h; exact tr51
  · cases h; exact tr52
  · cases h; exact tr53
  · cases h; exact tr54
  · cases h; exact tr55
  · cases h; exact tr60
  · cases h; exact tr61
  · cases h; exact tr62
  · cases h; exact tr63
  · cases h; exact tr64
  · cases h; exact tr65
  · cases h; exact tr66
  · cases h; exact tr72
  · cases h; exact tr73
  · cases h; exact tr74
  · cases h; exact tr75
  · cases h; exact tr76
  · cases h; exact tr77
  · cases h; exact tr82
  · cases h; exact tr83
  · cases h

theorem mixed : Try.prog.follows .mixedOrders = true := by kernel_rfl
end Go.Proofs.Ytjbblfoefibeaaa

/- The ground layer of this seat: strings.Contains at one byte. -/
set_option linter.unusedSimpArgs false
namespace Go.Proofs.Ytjbblfoefibeaaa
open Go

set_option maxHeartbeats 1000000 in
set_option maxRecDepth 100000 in
theorem ixByte (s : ByteArray) (c : Int) (w : World) : Calls Try.prog 87 #[.string s, .int .u8 c] w fun e w' => e = .returned (.int .i64 (Lib.indexByte s.data.toList c.toNat.toUInt8)) ∧ w' = w := by
  go_enter Try.func87, Try.ntmps87
  go_wp2
  rw [run_callFunc_extern Try.func91 (by kernel_rfl) (by kernel_rfl) (by kernel_rfl) (e := Extern.BytealgIndexByte.indexByte) (by kernel_rfl), Lib.run_indexByteString]
  simp only [Result.andThen]
  rw [Oper.upon_value]
  go_wp2
  go_ret
  exact ⟨rfl, rfl⟩

set_option maxHeartbeats 2000000 in
set_option maxRecDepth 100000 in
theorem ixLite (s : ByteArray) (c : UInt8) (w : World) : Calls Try.prog 86 #[.string s, .string ⟨#[c]⟩] w fun e w' => e = .returned (.int .i64 (Lib.indexByte s.data.toList c)) ∧ w' = w := by
  go_enter Try.func86, Try.ntmps86
  go_wp2_with (go_at_call 87; refine (ixByte _ _ _).mono ?_; rintro e w' ⟨rfl, rfl⟩)
  · have h : ([c] == s.toList) = true := by assumption
    go_ret
    refine ⟨?_, rfl⟩
    have e : s.data.toList = [c] := by rw [← Lib.toList_data]; exact (beq_iff_eq.1 h).symm
    rw [e]
    simp [Lib.indexByte]
  · go_ret
    exact ⟨rfl, rfl⟩

set_option maxHeartbeats 1000000 in
theorem ixStr (s : ByteArray) (c : UInt8) (w : World) : Calls Try.prog 84 #[.string s, .string ⟨#[c]⟩] w fun e w' => e = .returned (.int .i64 (Lib.indexByte s.data.toList c)) ∧ w' = w := by
  go_enter Try.func84, Try.ntmps84
  go_wp2_with (go_at_call 86; refine (ixLite _ _ _).mono ?_; rintro e w' ⟨rfl, rfl⟩)
  go_ret
  exact ⟨rfl, rfl⟩

set_option maxHeartbeats 1000000 in
theorem conStr (s : ByteArray) (c : UInt8) (w : World) : Calls Try.prog 79 #[.string s, .string ⟨#[c]⟩] w fun e w' => e = .returned (.bool (decide (0 ≤ Lib.indexByte s.data.toList c))) ∧ w' = w := by
  go_enter Try.func79, Try.ntmps79
  go_wp2_with (go_at_call 84; refine (ixStr _ _ _).mono ?_; rintro e w' ⟨rfl, rfl⟩)
  go_ret
  exact ⟨rfl, rfl⟩

open AM
def tContains : Ans
  | [.str s, .str [c]] => some (.bool (s.contains c))
  | _ => none
def g0 : Nat → Option Ans
  | 79 => some tContains
  | _ => none
def E0 : ExtF := plainExt g0
theorem hxE0 : ExtMono E0 := plainExt_mono g0
theorem sndE0 : ExtSound Try.prog E0 := by
  refine plainExt_calls ?_
  intro f sp args v hg hs hp
  unfold g0 at hg
  split at hg
  · cases hg
    unfold tContains at hs
    split at hs
    · rename_i s c
      cases hs
      refine ⟨by kernel_rfl, rfl, fun w => ?_⟩
      rw [Lib.contains_iff_indexByte]
      exact conStr ⟨s.toArray⟩ c w
    · cases hs
  · cases hg
theorem E0_none {f : Nat} (h : g0 f = none) (c : CallF) : E0 c f = none := plainExt_none h c
theorem eContains_0 (s : List UInt8) (c : UInt8) (h : Heap) : Den FF E0 79 [.str s, .str [c]] h = some (.val (.bool (s.contains c)), none) := den_plain (sp := tContains) h rfl (by rfl) (by first | (simp [V.plains, V.plain, bytesA_plains]; done) | rfl)
end Go.Proofs.Ytjbblfoefibeaaa

/- Queues: the document's examples. -/
namespace Go.Proofs.Ytjbblfoefibeaaa
open Go AM
set_option linter.unusedSimpArgs false
set_option linter.unusedVariables false
set_option maxRecDepth 100000
def tAwake : Ans
  | [] => some (.bool true)
  | _ => none
theorem okAwake24 : SpOk FF E0 27 tAwake := by
  intro args v h hpl
  unfold tAwake at h
  split at h
  · cases h
    exact ⟨rfl, none, Den_of hxE0 (k := 100) (by kernel_rfl)⟩
  · cases h
theorem okAwake23 : SpOk FF E0 11 tAwake := by
  intro args v h hpl
  unfold tAwake at h
  split at h
  · cases h
    exact ⟨rfl, none, Den_of hxE0 (k := 200) (by kernel_rfl)⟩
  · cases h
def g1 : Nat → Option Ans := addG g0 [(27, tAwake), (11, tAwake)]
def E1 : ExtF := plainExt g1
theorem hxE1 : ExtMono E1 := plainExt_mono g1
theorem sndE1 : ExtSound Try.prog E1 := addG_sound mixed ffok sndE0 (by
  intro p hp
  simp only [List.mem_cons, List.not_mem_nil, or_false] at hp
  rcases hp with rfl | rfl
  · exact okAwake24
  · exact okAwake23)
theorem E1_none {f : Nat} (h : g1 f = none) (c : CallF) : E1 c f = none := plainExt_none h c
theorem eContains_1 (s : List UInt8) (c : UInt8) (h : Heap) : Den FF E1 79 [.str s, .str [c]] h = some (.val (.bool (s.contains c)), none) := den_plain (sp := tContains) h rfl (by rfl) (by first | (simp [V.plains, V.plain, bytesA_plains]; done) | rfl)
theorem eAwake24_1 (_ : Unit) (h : Heap) : Den FF E1 27 [] h = some (.val (.bool true), none) := den_plain (sp := tAwake) h rfl (by rfl) (by first | (simp [V.plains, V.plain, bytesA_plains]; done) | rfl)
theorem eAwake23_1 (_ : Unit) (h : Heap) : Den FF E1 11 [] h = some (.val (.bool true), none) := den_plain (sp := tAwake) h rfl (by rfl) (by first | (simp [V.plains, V.plain, bytesA_plains]; done) | rfl)
end Go.Proofs.Ytjbblfoefibeaaa

/- Wire: what a request takes. -/
namespace Go.Proofs.Ytjbblfoefibeaaa
open Go AM
set_option linter.unusedSimpArgs false
set_option linter.unusedVariables false
set_option maxRecDepth 100000

def opsName : List Int := [1, 6, 7, 8, 10, 11, 12, 13]
def opsText : List Int := [8, 13, 15]
def opsOther : List Int := [10, 13]
def opsN : List Int := [3, 4, 5, 6, 7, 14, 15]
def opsM : List Int := [6, 7, 8, 14]
def isOp (op : Int) : Bool := decide (1 ≤ op) && decide (op ≤ 19)
def keepI (l : List Int) (op n : Int) : Int := if l.contains op = true then n else 0
def keepS (l : List Int) (op : Int) (s : List UInt8) : List UInt8 := if l.contains op = true then s else []
def takesF (id op ino oth n m : Int) (nm tx : List UInt8) : List V :=
  [.int .i64 id, .int .i64 op, .int .i64 (if op = 19 then 0 else ino), .int .i64 (keepI opsOther op oth), .int .i64 (keepI opsN op n), .int .i64 (keepI opsM op m), .str (keepS opsName op nm), .str (keepS opsText op tx)]
def tTakes : Ans
  | [.agg [.int .i64 id, .int .i64 op, .int .i64 ino, .int .i64 oth, .int .i64 n, .int .i64 m, .str nm, .str tx]] => some (.tuple [.agg (takesF id op ino oth n m nm tx), .bool (isOp op)])
  | _ => none

set_option maxHeartbeats 8000000 in
theorem okTakes : SpOk FF E1 54 tTakes := by
  intro args v h hpl
  unfold tTakes at h
  split at h
  · rename_i id op ino oth n m nm tx
    cases h
    refine ⟨rfl, _, (?_ : Den FF E1 54 [.agg [.int .i64 id, .int .i64 op, .int .i64 ino, .int .i64 oth, .int .i64 n, .int .i64 m, .str nm, .str tx]] H0 = some (.val (.tuple [.agg (takesF id op ino oth n m nm tx), .bool (isOp op)]), none))⟩
    refine To.den hxE1 (f := 54) (a := af54) rfl (E1_none rfl) (Nat.le_of_ble_eq_true rfl) ?_
    by_cases h : op = 1 ∨ op = 2 ∨ op = 3 ∨ op = 4 ∨ op = 5 ∨ op = 6 ∨ op = 7 ∨ op = 8 ∨ op = 9 ∨ op = 10 ∨ op = 11 ∨ op = 12 ∨ op = 13 ∨ op = 14 ∨ op = 15 ∨ op = 16 ∨ op = 17 ∨ op = 18 ∨ op = 19
    · rcases h with rfl | rfl | rfl | rfl | rfl | rfl | rfl | rfl | rfl | rfl | rfl | rfl | rfl | rfl | rfl | rfl | rfl | rfl | rfl
      all_goals
        (repeat' (first | refine To.seq hxE1 ?_ | refine To.op0 hxE1 (by simp only [go_sem, eqs hxE1, reduceIte, Nat.reduceEqDiff, Nat.reduceAdd, Nat.reduceMul, Nat.reduceLT, Nat.reduceLeDiff, Int.reduceLT, Int.reduceLE, Int.reduceEq, reduceCtorEq, Int.reduceBEq, Int.reduceBNe, Heap.gets, Heap.sets, Heap.get, bytesA_length, bytesA_one, bytesA_plains, List.take_of_length_le, List.drop_of_length_le, Nat.add_zero, V.one, Nat.reduceLeDiff, List.all_cons, List.all_nil, ne_eq, not_false_eq_true, Nat.zero_le]; rfl) ?_ | refine To.op1 hxE1 (by simp only [go_sem, eqs hxE1, reduceIte, Nat.reduceEqDiff, Nat.reduceAdd, Nat.reduceMul, Nat.reduceLT, Nat.reduceLeDiff, Int.reduceLT, Int.reduceLE, Int.reduceEq, reduceCtorEq, Int.reduceBEq, Int.reduceBNe, Heap.gets, Heap.sets, Heap.get, bytesA_length, bytesA_one, bytesA_plains, List.take_of_length_le, List.drop_of_length_le, Nat.add_zero, V.one, Nat.reduceLeDiff, List.all_cons, List.all_nil, ne_eq, not_false_eq_true, Nat.zero_le]; rfl) ?_ | refine To.nop hxE1 ?_ | (refine To.condT hxE1 ?_ ?_; focus (simp only [go_sem, eqs hxE1, reduceIte, Nat.reduceEqDiff, Nat.reduceAdd, Nat.reduceMul, Nat.reduceLT, Nat.reduceLeDiff, Int.reduceLT, Int.reduceLE, Int.reduceEq, reduceCtorEq, Int.reduceBEq, Int.reduceBNe, Heap.gets, Heap.sets, Heap.get, bytesA_length, bytesA_one, bytesA_plains, List.take_of_length_le, List.drop_of_length_le, Nat.add_zero, V.one, Nat.reduceLeDiff, List.all_cons, List.all_nil, ne_eq, not_false_eq_true, Nat.zero_le]; done)) | (refine To.condF hxE1 ?_ ?_; focus (simp only [go_sem, eqs hxE1, reduceIte, Nat.reduceEqDiff, Nat.reduceAdd, Nat.reduceMul, Nat.reduceLT, Nat.reduceLeDiff, Int.reduceLT, Int.reduceLE, Int.reduceEq, reduceCtorEq, Int.reduceBEq, Int.reduceBNe, Heap.gets, Heap.sets, Heap.get, bytesA_length, bytesA_one, bytesA_plains, List.take_of_length_le, List.drop_of_length_le, Nat.add_zero, V.one, Nat.reduceLeDiff, List.all_cons, List.all_nil, ne_eq, not_false_eq_true, Nat.zero_le]; done)) | refine To.block hxE1 ?_ | refine To.ret hxE1 ?_ | refine To.skip hxE1 ?_ | refine To.draw0 hxE1 ?_ | refine ToD.op0 (by simp only [go_sem, eqs hxE1, reduceIte, Nat.reduceEqDiff, Nat.reduceAdd, Nat.reduceMul, Nat.reduceLT, Nat.reduceLeDiff, Int.reduceLT, Int.reduceLE, Int.reduceEq, reduceCtorEq, Int.reduceBEq, Int.reduceBNe, Heap.gets, Heap.sets, Heap.get, bytesA_length, bytesA_one, bytesA_plains, List.take_of_length_le, List.drop_of_length_le, Nat.add_zero, V.one, Nat.reduceLeDiff, List.all_cons, List.all_nil, ne_eq, not_false_eq_true, Nat.zero_le]; rfl) (by simp only [put_some, put_none]; rfl) ?_ | refine ToD.op1 (by simp only [go_sem, eqs hxE1, reduceIte, Nat.reduceEqDiff, Nat.reduceAdd, Nat.reduceMul, Nat.reduceLT, Nat.reduceLeDiff, Int.reduceLT, Int.reduceLE, Int.reduceEq, reduceCtorEq, Int.reduceBEq, Int.reduceBNe, Heap.gets, Heap.sets, Heap.get, bytesA_length, bytesA_one, bytesA_plains, List.take_of_length_le, List.drop_of_length_le, Nat.add_zero, V.one, Nat.reduceLeDiff, List.all_cons, List.all_nil, ne_eq, not_false_eq_true, Nat.zero_le]; rfl) (by simp only [put_some, put_none]; rfl) (by simp only [KD.app, go_sem, eqs hxE1, reduceIte, Nat.reduceEqDiff, Nat.reduceAdd, Nat.reduceMul, Nat.reduceLT, Nat.reduceLeDiff, Int.reduceLT, Int.reduceLE, Int.reduceEq, reduceCtorEq, Int.reduceBEq, Int.reduceBNe, Heap.gets, Heap.sets, Heap.get, bytesA_length, bytesA_one, bytesA_plains, List.take_of_length_le, List.drop_of_length_le, Nat.add_zero, V.one, Nat.reduceLeDiff, List.all_cons, List.all_nil, ne_eq, not_false_eq_true, Nat.zero_le]; rfl) ?_ | refine ToD.nop ?_))
        simp only [go_sem, eqs hxE1, reduceIte, Nat.reduceEqDiff, Nat.reduceAdd, Nat.reduceMul, Nat.reduceLT, Nat.reduceLeDiff, Int.reduceLT, Int.reduceLE, Int.reduceEq, reduceCtorEq, Int.reduceBEq, Int.reduceBNe, Heap.gets, Heap.sets, Heap.get, bytesA_length, bytesA_one, bytesA_plains, List.take_of_length_le, List.drop_of_length_le, Nat.add_zero, V.one, Nat.reduceLeDiff, List.all_cons, List.all_nil, ne_eq, not_false_eq_true, Nat.zero_le, af54]
        rfl
    · have c1 : (op == 1) = false := by simp; omega
      have c2 : (op == 2) = false := by simp; omega
      have c3 : (op == 3) = false := by simp; omega
      have c4 : (op == 4) = false := by simp; omega
      have c5 : (op == 5) = false := by simp; omega
      have c6 : (op == 6) = false := by simp; omega
      have c7 : (op == 7) = false := by simp; omega
      have c8 : (op == 8) = false := by simp; omega
      have c9 : (op == 9) = false := by simp; omega
      have c10 : (op == 10) = false := by simp; omega
      have c11 : (op == 11) = false := by simp; omega
      have c12 : (op == 12) = false := by simp; omega
      have c13 : (op == 13) = false := by simp; omega
      have c14 : (op == 14) = false := by simp; omega
      have c15 : (op == 15) = false := by simp; omega
      have c16 : (op == 16) = false := by simp; omega
      have c17 : (op == 17) = false := by simp; omega
      have c18 : (op == 18) = false := by simp; omega
      have c19 : (op == 19) = false := by simp; omega
      (repeat' (first | refine To.seq hxE1 ?_ | refine To.op0 hxE1 (by simp only [go_sem, eqs hxE1, reduceIte, Nat.reduceEqDiff, Nat.reduceAdd, Nat.reduceMul, Nat.reduceLT, Nat.reduceLeDiff, Int.reduceLT, Int.reduceLE, Int.reduceEq, reduceCtorEq, Int.reduceBEq, Int.reduceBNe, Heap.gets, Heap.sets, Heap.get, bytesA_length, bytesA_one, bytesA_plains, List.take_of_length_le, List.drop_of_length_le, Nat.add_zero, V.one, Nat.reduceLeDiff, List.all_cons, List.all_nil, ne_eq, not_false_eq_true, Nat.zero_le, c1, c2, c3, c4, c5, c6, c7, c8, c9, c10, c11, c12, c13, c14, c15, c16, c17, c18, c19]; rfl) ?_ | refine To.op1 hxE1 (by simp only [go_sem, eqs hxE1, reduceIte, Nat.reduceEqDiff, Nat.reduceAdd, Nat.reduceMul, Nat.reduceLT, Nat.reduceLeDiff, Int.reduceLT, Int.reduceLE, Int.reduceEq, reduceCtorEq, Int.reduceBEq, Int.reduceBNe, Heap.gets, Heap.sets, Heap.get, bytesA_length, bytesA_one, bytesA_plains, List.take_of_length_le, List.drop_of_length_le, Nat.add_zero, V.one, Nat.reduceLeDiff, List.all_cons, List.all_nil, ne_eq, not_false_eq_true, Nat.zero_le, c1, c2, c3, c4, c5, c6, c7, c8, c9, c10, c11, c12, c13, c14, c15, c16, c17, c18, c19]; rfl) ?_ | refine To.nop hxE1 ?_ | (refine To.condF hxE1 ?_ ?_; focus (simp only [go_sem, eqs hxE1, reduceIte, Nat.reduceEqDiff, Nat.reduceAdd, Nat.reduceMul, Nat.reduceLT, Nat.reduceLeDiff, Int.reduceLT, Int.reduceLE, Int.reduceEq, reduceCtorEq, Int.reduceBEq, Int.reduceBNe, Heap.gets, Heap.sets, Heap.get, bytesA_length, bytesA_one, bytesA_plains, List.take_of_length_le, List.drop_of_length_le, Nat.add_zero, V.one, Nat.reduceLeDiff, List.all_cons, List.all_nil, ne_eq, not_false_eq_true, Nat.zero_le, c1, c2, c3, c4, c5, c6, c7, c8, c9, c10, c11, c12, c13, c14, c15, c16, c17, c18, c19]; done)) | refine To.block hxE1 ?_ | refine To.ret hxE1 ?_))
      have hk : takesF id op ino oth n m nm tx = [.int .i64 id, .int .i64 op, .int .i64 ino, .int .i64 0, .int .i64 0, .int .i64 0, .str [], .str []] := by
        simp only [takesF, keepI, keepS, opsOther, opsN, opsM, opsName, opsText, List.contains_cons, List.contains_nil, c1, c2, c3, c4, c5, c6, c7, c8, c9, c10, c11, c12, c13, c14, c15, c16, c17, c18, c19, Bool.or_false, Bool.false_eq_true, if_false, if_neg (show ¬ op = 19 by omega)]
      have ho : isOp op = false := by
        cases hh : isOp op with
        | false => rfl
        | true => simp only [isOp, Bool.and_eq_true, decide_eq_true_eq] at hh; exfalso; omega
      rw [hk, ho]
      simp only [andThen, outOf, go_sem, eqs hxE1, reduceIte, Nat.reduceEqDiff, Nat.reduceAdd, Nat.reduceMul, Nat.reduceLT, Nat.reduceLeDiff, Int.reduceLT, Int.reduceLE, Int.reduceEq, reduceCtorEq, Int.reduceBEq, Int.reduceBNe, Heap.gets, Heap.sets, Heap.get, bytesA_length, bytesA_one, bytesA_plains, List.take_of_length_le, List.drop_of_length_le, Nat.add_zero, V.one, Nat.reduceLeDiff, List.all_cons, List.all_nil, ne_eq, not_false_eq_true, Nat.zero_le, af54]
  · cases h
end Go.Proofs.Ytjbblfoefibeaaa

/- Wire: what is right, of Attrs. -/
namespace Go.Proofs.Ytjbblfoefibeaaa
open Go AM
set_option linter.unusedSimpArgs false
set_option linter.unusedVariables false
set_option maxRecDepth 100000

def inB (n lo hi : Int) : Bool := decide (lo ≤ n) && decide (n ≤ hi)
def numB (n : Int) : Bool := inB n 0 4294967295
def tIn : Ans
  | [.int .i64 n, .int .i64 lo, .int .i64 hi] => some (.bool (inB n lo hi))
  | _ => none
theorem okIn : SpOk FF E1 65 tIn := by
  intro args v h hpl
  unfold tIn at h
  split at h
  · rename_i n lo hi
    cases h
    refine ⟨rfl, _, (?_ : Den FF E1 65 [.int .i64 n, .int .i64 lo, .int .i64 hi] H0 = some (.val (.bool (inB n lo hi)), none))⟩
    refine To.den hxE1 (f := 65) (a := af65) rfl (E1_none rfl) (Nat.le_of_ble_eq_true rfl) ?_
    unfold inB
    by_cases h1 : lo ≤ n
    · (repeat' (first | refine To.seq hxE1 ?_ | refine To.op0 hxE1 (by simp only [go_sem, eqs hxE1, reduceIte, Nat.reduceEqDiff, Nat.reduceAdd, Nat.reduceMul, Nat.reduceLT, Nat.reduceLeDiff, Int.reduceBEq, Int.reduceBNe, h1]; rfl) ?_ | refine To.nop hxE1 ?_ | refine To.ret hxE1 ?_))
      simp only [andThen, outOf, go_sem, eqs hxE1, reduceIte, Nat.reduceEqDiff, Nat.reduceAdd, Nat.reduceMul, Nat.reduceLT, Nat.reduceLeDiff, Int.reduceBEq, Int.reduceBNe, af65, h1]
    · (repeat' (first | refine To.seq hxE1 ?_ | refine To.op0 hxE1 (by simp only [go_sem, eqs hxE1, reduceIte, Nat.reduceEqDiff, Nat.reduceAdd, Nat.reduceMul, Nat.reduceLT, Nat.reduceLeDiff, Int.reduceBEq, Int.reduceBNe, h1]; rfl) ?_ | refine To.nop hxE1 ?_ | refine To.ret hxE1 ?_))
      simp only [andThen, outOf, go_sem, eqs hxE1, reduceIte, Nat.reduceEqDiff, Nat.reduceAdd, Nat.reduceMul, Nat.reduceLT, Nat.reduceLeDiff, Int.reduceBEq, Int.reduceBNe, af65, h1, Bool.false_and]
  · cases h
def g2 : Nat → Option Ans := addG g1 [(65, tIn), (54, tTakes)]
def E2 : ExtF := plainExt g2
theorem hxE2 : ExtMono E2 := plainExt_mono g2
theorem sndE2 : ExtSound Try.prog E2 := addG_sound mixed ffok sndE1 (by
  intro p hp
  simp only [List.mem_cons, List.not_mem_nil, or_false] at hp
  rcases hp with rfl | rfl
  · exact okIn
  · exact okTakes)
theorem E2_none {f : Nat} (h : g2 f = none) (c : CallF) : E2 c f = none := plainExt_none h c
theorem eContains_2 (s : List UInt8) (c : UInt8) (h : Heap) : Den FF E2 79 [.str s, .str [c]] h = some (.val (.bool (s.contains c)), none) := den_plain (sp := tContains) h rfl (by rfl) (by first | (simp [V.plains, V.plain, bytesA_plains]; done) | rfl)
theorem eAwake24_2 (_ : Unit) (h : Heap) : Den FF E2 27 [] h = some (.val (.bool true), none) := den_plain (sp := tAwake) h rfl (by rfl) (by first | (simp [V.plains, V.plain, bytesA_plains]; done) | rfl)
theorem eAwake23_2 (_ : Unit) (h : Heap) : Den FF E2 11 [] h = some (.val (.bool true), none) := den_plain (sp := tAwake) h rfl (by rfl) (by first | (simp [V.plains, V.plain, bytesA_plains]; done) | rfl)
theorem eIn_2 (n lo hi : Int) (h : Heap) : Den FF E2 65 [.int .i64 n, .int .i64 lo, .int .i64 hi] h = some (.val (.bool (inB n lo hi)), none) := den_plain (sp := tIn) h rfl (by rfl) (by first | (simp [V.plains, V.plain, bytesA_plains]; done) | rfl)
theorem eTakes_2 (id op ino oth n m : Int) (nm tx : List UInt8) (h : Heap) : Den FF E2 54 [.agg [.int .i64 id, .int .i64 op, .int .i64 ino, .int .i64 oth, .int .i64 n, .int .i64 m, .str nm, .str tx]] h = some (.val (.tuple [.agg (takesF id op ino oth n m nm tx), .bool (isOp op)]), none) := den_plain (sp := tTakes) h rfl (by rfl) (by first | (simp [V.plains, V.plain, bytesA_plains]; done) | rfl)

def attrB (a0 a1 a2 a3 a4 a5 : Int) : Bool := inB a0 1 128 && (inB a1 1 3 && (inB a2 0 511 && (inB a3 0 65535 && (inB a4 0 40 && inB a5 0 67840))))
def tAttr : Ans
  | [.agg [.int .i64 a0, .int .i64 a1, .int .i64 a2, .int .i64 a3, .int .i64 a4, .int .i64 a5]] => some (.bool (attrB a0 a1 a2 a3 a4 a5))
  | _ => none

set_option maxHeartbeats 4000000 in
theorem okWAttr : SpOk FF E2 25 tAttr := by
  intro args v h hpl
  unfold tAttr at h
  split at h
  · rename_i a0 a1 a2 a3 a4 a5
    cases h
    refine ⟨rfl, _, (?_ : Den FF E2 25 [.agg [.int .i64 a0, .int .i64 a1, .int .i64 a2, .int .i64 a3, .int .i64 a4, .int .i64 a5]] H0 = some (.val (.bool (attrB a0 a1 a2 a3 a4 a5)), none))⟩
    refine To.den hxE2 (f := 25) (a := af25) rfl (E2_none rfl) (Nat.le_of_ble_eq_true rfl) ?_
    cases c0 : inB a0 1 128
    · (repeat' (first | refine To.seq hxE2 ?_ | refine To.op0 hxE2 (by simp only [go_sem, eqs hxE2, reduceIte, Nat.reduceEqDiff, Nat.reduceAdd, Nat.reduceMul, Nat.reduceLT, Nat.reduceLeDiff, Int.reduceBEq, Int.reduceBNe, Heap.gets, Heap.sets, Heap.get, bytesA_length, bytesA_one, bytesA_plains, List.take_of_length_le, List.drop_of_length_le, Nat.add_zero, V.one, Nat.reduceLeDiff, List.all_cons, List.all_nil, ne_eq, not_false_eq_true, Nat.zero_le, eIn_2, c0]; rfl) ?_ | refine To.op1 hxE2 (by simp only [go_sem, eqs hxE2, reduceIte, Nat.reduceEqDiff, Nat.reduceAdd, Nat.reduceMul, Nat.reduceLT, Nat.reduceLeDiff, Int.reduceBEq, Int.reduceBNe, Heap.gets, Heap.sets, Heap.get, bytesA_length, bytesA_one, bytesA_plains, List.take_of_length_le, List.drop_of_length_le, Nat.add_zero, V.one, Nat.reduceLeDiff, List.all_cons, List.all_nil, ne_eq, not_false_eq_true, Nat.zero_le, eIn_2, c0]; rfl) ?_ | refine To.nop hxE2 ?_ | refine To.ret hxE2 ?_))
      simp only [andThen, outOf, go_sem, eqs hxE2, reduceIte, Nat.reduceEqDiff, Nat.reduceAdd, Nat.reduceMul, Nat.reduceLT, Nat.reduceLeDiff, Int.reduceBEq, Int.reduceBNe, af25, attrB, c0, Bool.false_and, Bool.and_false]
    cases c1 : inB a1 1 3
    · (repeat' (first | refine To.seq hxE2 ?_ | refine To.op0 hxE2 (by simp only [go_sem, eqs hxE2, reduceIte, Nat.reduceEqDiff, Nat.reduceAdd, Nat.reduceMul, Nat.reduceLT, Nat.reduceLeDiff, Int.reduceBEq, Int.reduceBNe, Heap.gets, Heap.sets, Heap.get, bytesA_length, bytesA_one, bytesA_plains, List.take_of_length_le, List.drop_of_length_le, Nat.add_zero, V.one, Nat.reduceLeDiff, List.all_cons, List.all_nil, ne_eq, not_false_eq_true, Nat.zero_le, eIn_2, c0, c1]; rfl) ?_ | refine To.op1 hxE2 (by simp only [go_sem, eqs hxE2, reduceIte, Nat.reduceEqDiff, Nat.reduceAdd, Nat.reduceMul, Nat.reduceLT, Nat.reduceLeDiff, Int.reduceBEq, Int.reduceBNe, Heap.gets, Heap.sets, Heap.get, bytesA_length, bytesA_one, bytesA_plains, List.take_of_length_le, List.drop_of_length_le, Nat.add_zero, V.one, Nat.reduceLeDiff, List.all_cons, List.all_nil, ne_eq, not_false_eq_true, Nat.zero_le, eIn_2, c0, c1]; rfl) ?_ | refine To.nop hxE2 ?_ | refine To.ret hxE2 ?_))
      simp only [andThen, outOf, go_sem, eqs hxE2, reduceIte, Nat.reduceEqDiff, Nat.reduceAdd, Nat.reduceMul, Nat.reduceLT, Nat.reduceLeDiff, Int.reduceBEq, Int.reduceBNe, af25, attrB, c0, c1, Bool.false_and, Bool.and_false]
    cases c2 : inB a2 0 511
    · (repeat' (first | refine To.seq hxE2 ?_ | refine To.op0 hxE2 (by simp only [go_sem, eqs hxE2, reduceIte, Nat.reduceEqDiff, Nat.reduceAdd, Nat.reduceMul, Nat.reduceLT, Nat.reduceLeDiff, Int.reduceBEq, Int.reduceBNe, Heap.gets, Heap.sets, Heap.get, bytesA_length, bytesA_one, bytesA_plains, List.take_of_length_le, List.drop_of_length_le, Nat.add_zero, V.one, Nat.reduceLeDiff, List.all_cons, List.all_nil, ne_eq, not_false_eq_true, Nat.zero_le, eIn_2, c0, c1, c2]; rfl) ?_ | refine To.op1 hxE2 (by simp only [go_sem, eqs hxE2, reduceIte, Nat.reduceEqDiff, Nat.reduceAdd, Nat.reduceMul, Nat.reduceLT, Nat.reduceLeDiff, Int.reduceBEq, Int.reduceBNe, Heap.gets, Heap.sets, Heap.get, bytesA_length, bytesA_one, bytesA_plains, List.take_of_length_le, List.drop_of_length_le, Nat.add_zero, V.one, Nat.reduceLeDiff, List.all_cons, List.all_nil, ne_eq, not_false_eq_true, Nat.zero_le, eIn_2, c0, c1, c2]; rfl) ?_ | refine To.nop hxE2 ?_ | refine To.ret hxE2 ?_))
      simp only [andThen, outOf, go_sem, eqs hxE2, reduceIte, Nat.reduceEqDiff, Nat.reduceAdd, Nat.reduceMul, Nat.reduceLT, Nat.reduceLeDiff, Int.reduceBEq, Int.reduceBNe, af25, attrB, c0, c1, c2, Bool.false_and, Bool.and_false]
    cases c3 : inB a3 0 65535
    · (repeat' (first | refine To.seq hxE2 ?_ | refine To.op0 hxE2 (by simp only [go_sem, eqs hxE2, reduceIte, Nat.reduceEqDiff, Nat.reduceAdd, Nat.reduceMul, Nat.reduceLT, Nat.reduceLeDiff, Int.reduceBEq, Int.reduceBNe, Heap.gets, Heap.sets, Heap.get, bytesA_length, bytesA_one, bytesA_plains, List.take_of_length_le, List.drop_of_length_le, Nat.add_zero, V.one, Nat.reduceLeDiff, List.all_cons, List.all_nil, ne_eq, not_false_eq_true, Nat.zero_le, eIn_2, c0, c1, c2, c3]; rfl) ?_ | refine To.op1 hxE2 (by simp only [go_sem, eqs hxE2, reduceIte, Nat.reduceEqDiff, Nat.reduceAdd, Nat.reduceMul, Nat.reduceLT, Nat.reduceLeDiff, Int.reduceBEq, Int.reduceBNe, Heap.gets, Heap.sets, Heap.get, bytesA_length, bytesA_one, bytesA_plains, List.take_of_length_le, List.drop_of_length_le, Nat.add_zero, V.one, Nat.reduceLeDiff, List.all_cons, List.all_nil, ne_eq, not_false_eq_true, Nat.zero_le, eIn_2, c0, c1, c2, c3]; rfl) ?_ | refine To.nop hxE2 ?_ | refine To.ret hxE2 ?_))
      simp only [andThen, outOf, go_sem, eqs hxE2, reduceIte, Nat.reduceEqDiff, Nat.reduceAdd, Nat.reduceMul, Nat.reduceLT, Nat.reduceLeDiff, Int.reduceBEq, Int.reduceBNe, af25, attrB, c0, c1, c2, c3, Bool.false_and, Bool.and_false]
    cases c4 : inB a4 0 40
    · (repeat' (first | refine To.seq hxE2 ?_ | refine To.op0 hxE2 (by simp only [go_sem, eqs hxE2, reduceIte, Nat.reduceEqDiff, Nat.reduceAdd, Nat.reduceMul, Nat.reduceLT, Nat.reduceLeDiff, Int.reduceBEq, Int.reduceBNe, Heap.gets, Heap.sets, Heap.get, bytesA_length, bytesA_one, bytesA_plains, List.take_of_length_le, List.drop_of_length_le, Nat.add_zero, V.one, Nat.reduceLeDiff, List.all_cons, List.all_nil, ne_eq, not_false_eq_true, Nat.zero_le, eIn_2, c0, c1, c2, c3, c4]; rfl) ?_ | refine To.op1 hxE2 (by simp only [go_sem, eqs hxE2, reduceIte, Nat.reduceEqDiff, Nat.reduceAdd, Nat.reduceMul, Nat.reduceLT, Nat.reduceLeDiff, Int.reduceBEq, Int.reduceBNe, Heap.gets, Heap.sets, Heap.get, bytesA_length, bytesA_one, bytesA_plains, List.take_of_length_le, List.drop_of_length_le, Nat.add_zero, V.one, Nat.reduceLeDiff, List.all_cons, List.all_nil, ne_eq, not_false_eq_true, Nat.zero_le, eIn_2, c0, c1, c2, c3, c4]; rfl) ?_ | refine To.nop hxE2 ?_ | refine To.ret hxE2 ?_))
      simp only [andThen, outOf, go_sem, eqs hxE2, reduceIte, Nat.reduceEqDiff, Nat.reduceAdd, Nat.reduceMul, Nat.reduceLT, Nat.reduceLeDiff, Int.reduceBEq, Int.reduceBNe, af25, attrB, c0, c1, c2, c3, c4, Bool.false_and, Bool.and_false]
    cases c5 : inB a5 0 67840
    · (repeat' (first | refine To.seq hxE2 ?_ | refine To.op0 hxE2 (by simp only [go_sem, eqs hxE2, reduceIte, Nat.reduceEqDiff, Nat.reduceAdd, Nat.reduceMul, Nat.reduceLT, Nat.reduceLeDiff, Int.reduceBEq, Int.reduceBNe, Heap.gets, Heap.sets, Heap.get, bytesA_length, bytesA_one, bytesA_plains, List.take_of_length_le, List.drop_of_length_le, Nat.add_zero, V.one, Nat.reduceLeDiff, List.all_cons, List.all_nil, ne_eq, not_false_eq_true, Nat.zero_le, eIn_2, c0, c1, c2, c3, c4, c5]; rfl) ?_ | refine To.op1 hxE2 (by simp only [go_sem, eqs hxE2, reduceIte, Nat.reduceEqDiff, Nat.reduceAdd, Nat.reduceMul, Nat.reduceLT, Nat.reduceLeDiff, Int.reduceBEq, Int.reduceBNe, Heap.gets, Heap.sets, Heap.get, bytesA_length, bytesA_one, bytesA_plains, List.take_of_length_le, List.drop_of_length_le, Nat.add_zero, V.one, Nat.reduceLeDiff, List.all_cons, List.all_nil, ne_eq, not_false_eq_true, Nat.zero_le, eIn_2, c0, c1, c2, c3, c4, c5]; rfl) ?_ | refine To.nop hxE2 ?_ | refine To.ret hxE2 ?_))
      simp only [andThen, outOf, go_sem, eqs hxE2, reduceIte, Nat.reduceEqDiff, Nat.reduceAdd, Nat.reduceMul, Nat.reduceLT, Nat.reduceLeDiff, Int.reduceBEq, Int.reduceBNe, af25, attrB, c0, c1, c2, c3, c4, c5, Bool.false_and, Bool.and_false]
    (repeat' (first | refine To.seq hxE2 ?_ | refine To.op0 hxE2 (by simp only [go_sem, eqs hxE2, reduceIte, Nat.reduceEqDiff, Nat.reduceAdd, Nat.reduceMul, Nat.reduceLT, Nat.reduceLeDiff, Int.reduceBEq, Int.reduceBNe, Heap.gets, Heap.sets, Heap.get, bytesA_length, bytesA_one, bytesA_plains, List.take_of_length_le, List.drop_of_length_le, Nat.add_zero, V.one, Nat.reduceLeDiff, List.all_cons, List.all_nil, ne_eq, not_false_eq_true, Nat.zero_le, eIn_2, c0, c1, c2, c3, c4, c5]; rfl) ?_ | refine To.op1 hxE2 (by simp only [go_sem, eqs hxE2, reduceIte, Nat.reduceEqDiff, Nat.reduceAdd, Nat.reduceMul, Nat.reduceLT, Nat.reduceLeDiff, Int.reduceBEq, Int.reduceBNe, Heap.gets, Heap.sets, Heap.get, bytesA_length, bytesA_one, bytesA_plains, List.take_of_length_le, List.drop_of_length_le, Nat.add_zero, V.one, Nat.reduceLeDiff, List.all_cons, List.all_nil, ne_eq, not_false_eq_true, Nat.zero_le, eIn_2, c0, c1, c2, c3, c4, c5]; rfl) ?_ | refine To.nop hxE2 ?_ | refine To.ret hxE2 ?_))
    simp only [andThen, outOf, go_sem, eqs hxE2, reduceIte, Nat.reduceEqDiff, Nat.reduceAdd, Nat.reduceMul, Nat.reduceLT, Nat.reduceLeDiff, Int.reduceBEq, Int.reduceBNe, af25, attrB, c0, c1, c2, c3, c4, c5, Bool.true_and, Bool.and_true]
  · cases h

set_option maxHeartbeats 4000000 in
theorem okRAttr : SpOk FF E2 24 tAttr := by
  intro args v h hpl
  unfold tAttr at h
  split at h
  · rename_i a0 a1 a2 a3 a4 a5
    cases h
    refine ⟨rfl, _, (?_ : Den FF E2 24 [.agg [.int .i64 a0, .int .i64 a1, .int .i64 a2, .int .i64 a3, .int .i64 a4, .int .i64 a5]] H0 = some (.val (.bool (attrB a0 a1 a2 a3 a4 a5)), none))⟩
    refine To.den hxE2 (f := 24) (a := af24) rfl (E2_none rfl) (Nat.le_of_ble_eq_true rfl) ?_
    cases c0 : decide (1 ≤ a0)
    · (repeat' (first | refine To.seq hxE2 ?_ | refine To.op0 hxE2 (by simp only [go_sem, eqs hxE2, reduceIte, Nat.reduceEqDiff, Nat.reduceAdd, Nat.reduceMul, Nat.reduceLT, Nat.reduceLeDiff, Int.reduceBEq, Int.reduceBNe, Heap.gets, Heap.sets, Heap.get, bytesA_length, bytesA_one, bytesA_plains, List.take_of_length_le, List.drop_of_length_le, Nat.add_zero, V.one, Nat.reduceLeDiff, List.all_cons, List.all_nil, ne_eq, not_false_eq_true, Nat.zero_le, eIn_2, c0]; rfl) ?_ | refine To.op1 hxE2 (by simp only [go_sem, eqs hxE2, reduceIte, Nat.reduceEqDiff, Nat.reduceAdd, Nat.reduceMul, Nat.reduceLT, Nat.reduceLeDiff, Int.reduceBEq, Int.reduceBNe, Heap.gets, Heap.sets, Heap.get, bytesA_length, bytesA_one, bytesA_plains, List.take_of_length_le, List.drop_of_length_le, Nat.add_zero, V.one, Nat.reduceLeDiff, List.all_cons, List.all_nil, ne_eq, not_false_eq_true, Nat.zero_le, eIn_2, c0]; rfl) ?_ | refine To.nop hxE2 ?_ | refine To.ret hxE2 ?_))
      simp only [andThen, outOf, go_sem, eqs hxE2, reduceIte, Nat.reduceEqDiff, Nat.reduceAdd, Nat.reduceMul, Nat.reduceLT, Nat.reduceLeDiff, Int.reduceBEq, Int.reduceBNe, af24, inB, attrB, c0, Bool.false_and, Bool.and_false]
    cases c1 : decide (a0 ≤ 128)
    · (repeat' (first | refine To.seq hxE2 ?_ | refine To.op0 hxE2 (by simp only [go_sem, eqs hxE2, reduceIte, Nat.reduceEqDiff, Nat.reduceAdd, Nat.reduceMul, Nat.reduceLT, Nat.reduceLeDiff, Int.reduceBEq, Int.reduceBNe, Heap.gets, Heap.sets, Heap.get, bytesA_length, bytesA_one, bytesA_plains, List.take_of_length_le, List.drop_of_length_le, Nat.add_zero, V.one, Nat.reduceLeDiff, List.all_cons, List.all_nil, ne_eq, not_false_eq_true, Nat.zero_le, eIn_2, c0, c1]; rfl) ?_ | refine To.op1 hxE2 (by simp only [go_sem, eqs hxE2, reduceIte, Nat.reduceEqDiff, Nat.reduceAdd, Nat.reduceMul, Nat.reduceLT, Nat.reduceLeDiff, Int.reduceBEq, Int.reduceBNe, Heap.gets, Heap.sets, Heap.get, bytesA_length, bytesA_one, bytesA_plains, List.take_of_length_le, List.drop_of_length_le, Nat.add_zero, V.one, Nat.reduceLeDiff, List.all_cons, List.all_nil, ne_eq, not_false_eq_true, Nat.zero_le, eIn_2, c0, c1]; rfl) ?_ | refine To.nop hxE2 ?_ | refine To.ret hxE2 ?_))
      simp only [andThen, outOf, go_sem, eqs hxE2, reduceIte, Nat.reduceEqDiff, Nat.reduceAdd, Nat.reduceMul, Nat.reduceLT, Nat.reduceLeDiff, Int.reduceBEq, Int.reduceBNe, af24, inB, attrB, c0, c1, Bool.false_and, Bool.and_false]
    cases c2 : decide (1 ≤ a1)
    · (repeat' (first | refine To.seq hxE2 ?_ | refine To.op0 hxE2 (by simp only [go_sem, eqs hxE2, reduceIte, Nat.reduceEqDiff, Nat.reduceAdd, Nat.reduceMul, Nat.reduceLT, Nat.reduceLeDiff, Int.reduceBEq, Int.reduceBNe, Heap.gets, Heap.sets, Heap.get, bytesA_length, bytesA_one, bytesA_plains, List.take_of_length_le, List.drop_of_length_le, Nat.add_zero, V.one, Nat.reduceLeDiff, List.all_cons, List.all_nil, ne_eq, not_false_eq_true, Nat.zero_le, eIn_2, c0, c1, c2]; rfl) ?_ | refine To.op1 hxE2 (by simp only [go_sem, eqs hxE2, reduceIte, Nat.reduceEqDiff, Nat.reduceAdd, Nat.reduceMul, Nat.reduceLT, Nat.reduceLeDiff, Int.reduceBEq, Int.reduceBNe, Heap.gets, Heap.sets, Heap.get, bytesA_length, bytesA_one, bytesA_plains, List.take_of_length_le, List.drop_of_length_le, Nat.add_zero, V.one, Nat.reduceLeDiff, List.all_cons, List.all_nil, ne_eq, not_false_eq_true, Nat.zero_le, eIn_2, c0, c1, c2]; rfl) ?_ | refine To.nop hxE2 ?_ | refine To.ret hxE2 ?_))
      simp only [andThen, outOf, go_sem, eqs hxE2, reduceIte, Nat.reduceEqDiff, Nat.reduceAdd, Nat.reduceMul, Nat.reduceLT, Nat.reduceLeDiff, Int.reduceBEq, Int.reduceBNe, af24, inB, attrB, c0, c1, c2, Bool.false_and, Bool.and_false]
    cases c3 : decide (a1 ≤ 3)
    · (repeat' (first | refine To.seq hxE2 ?_ | refine To.op0 hxE2 (by simp only [go_sem, eqs hxE2, reduceIte, Nat.reduceEqDiff, Nat.reduceAdd, Nat.reduceMul, Nat.reduceLT, Nat.reduceLeDiff, Int.reduceBEq, Int.reduceBNe, Heap.gets, Heap.sets, Heap.get, bytesA_length, bytesA_one, bytesA_plains, List.take_of_length_le, List.drop_of_length_le, Nat.add_zero, V.one, Nat.reduceLeDiff, List.all_cons, List.all_nil, ne_eq, not_false_eq_true, Nat.zero_le, eIn_2, c0, c1, c2, c3]; rfl) ?_ | refine To.op1 hxE2 (by simp only [go_sem, eqs hxE2, reduceIte, Nat.reduceEqDiff, Nat.reduceAdd, Nat.reduceMul, Nat.reduceLT, Nat.reduceLeDiff, Int.reduceBEq, Int.reduceBNe, Heap.gets, Heap.sets, Heap.get, bytesA_length, bytesA_one, bytesA_plains, List.take_of_length_le, List.drop_of_length_le, Nat.add_zero, V.one, Nat.reduceLeDiff, List.all_cons, List.all_nil, ne_eq, not_false_eq_true, Nat.zero_le, eIn_2, c0, c1, c2, c3]; rfl) ?_ | refine To.nop hxE2 ?_ | refine To.ret hxE2 ?_))
      simp only [andThen, outOf, go_sem, eqs hxE2, reduceIte, Nat.reduceEqDiff, Nat.reduceAdd, Nat.reduceMul, Nat.reduceLT, Nat.reduceLeDiff, Int.reduceBEq, Int.reduceBNe, af24, inB, attrB, c0, c1, c2, c3, Bool.false_and, Bool.and_false]
    cases c4 : decide (0 ≤ a2)
    · (repeat' (first | refine To.seq hxE2 ?_ | refine To.op0 hxE2 (by simp only [go_sem, eqs hxE2, reduceIte, Nat.reduceEqDiff, Nat.reduceAdd, Nat.reduceMul, Nat.reduceLT, Nat.reduceLeDiff, Int.reduceBEq, Int.reduceBNe, Heap.gets, Heap.sets, Heap.get, bytesA_length, bytesA_one, bytesA_plains, List.take_of_length_le, List.drop_of_length_le, Nat.add_zero, V.one, Nat.reduceLeDiff, List.all_cons, List.all_nil, ne_eq, not_false_eq_true, Nat.zero_le, eIn_2, c0, c1, c2, c3, c4]; rfl) ?_ | refine To.op1 hxE2 (by simp only [go_sem, eqs hxE2, reduceIte, Nat.reduceEqDiff, Nat.reduceAdd, Nat.reduceMul, Nat.reduceLT, Nat.reduceLeDiff, Int.reduceBEq, Int.reduceBNe, Heap.gets, Heap.sets, Heap.get, bytesA_length, bytesA_one, bytesA_plains, List.take_of_length_le, List.drop_of_length_le, Nat.add_zero, V.one, Nat.reduceLeDiff, List.all_cons, List.all_nil, ne_eq, not_false_eq_true, Nat.zero_le, eIn_2, c0, c1, c2, c3, c4]; rfl) ?_ | refine To.nop hxE2 ?_ | refine To.ret hxE2 ?_))
      simp only [andThen, outOf, go_sem, eqs hxE2, reduceIte, Nat.reduceEqDiff, Nat.reduceAdd, Nat.reduceMul, Nat.reduceLT, Nat.reduceLeDiff, Int.reduceBEq, Int.reduceBNe, af24, inB, attrB, c0, c1, c2, c3, c4, Bool.false_and, Bool.and_false]
    cases c5 : decide (a2 ≤ 511)
    · (repeat' (first | refine To.seq hxE2 ?_ | refine To.op0 hxE2 (by simp only [go_sem, eqs hxE2, reduceIte, Nat.reduceEqDiff, Nat.reduceAdd, Nat.reduceMul, Nat.reduceLT, Nat.reduceLeDiff, Int.reduceBEq, Int.reduceBNe, Heap.gets, Heap.sets, Heap.get, bytesA_length, bytesA_one, bytesA_plains, List.take_of_length_le, List.drop_of_length_le, Nat.add_zero, V.one, Nat.reduceLeDiff, List.all_cons, List.all_nil, ne_eq, not_false_eq_true, Nat.zero_le, eIn_2, c0, c1, c2, c3, c4, c5]; rfl) ?_ | refine To.op1 hxE2 (by simp only [go_sem, eqs hxE2, reduceIte, Nat.reduceEqDiff, Nat.reduceAdd, Nat.reduceMul, Nat.reduceLT, Nat.reduceLeDiff, Int.reduceBEq, Int.reduceBNe, Heap.gets, Heap.sets, Heap.get, bytesA_length, bytesA_one, bytesA_plains, List.take_of_length_le, List.drop_of_length_le, Nat.add_zero, V.one, Nat.reduceLeDiff, List.all_cons, List.all_nil, ne_eq, not_false_eq_true, Nat.zero_le, eIn_2, c0, c1, c2, c3, c4, c5]; rfl) ?_ | refine To.nop hxE2 ?_ | refine To.ret hxE2 ?_))
      simp only [andThen, outOf, go_sem, eqs hxE2, reduceIte, Nat.reduceEqDiff, Nat.reduceAdd, Nat.reduceMul, Nat.reduceLT, Nat.reduceLeDiff, Int.reduceBEq, Int.reduceBNe, af24, inB, attrB, c0, c1, c2, c3, c4, c5, Bool.false_and, Bool.and_false]
    cases c6 : decide (0 ≤ a3)
    · (repeat' (first | refine To.seq hxE2 ?_ | refine To.op0 hxE2 (by simp only [go_sem, eqs hxE2, reduceIte, Nat.reduceEqDiff, Nat.reduceAdd, Nat.reduceMul, Nat.reduceLT, Nat.reduceLeDiff, Int.reduceBEq, Int.reduceBNe, Heap.gets, Heap.sets, Heap.get, bytesA_length, bytesA_one, bytesA_plains, List.take_of_length_le, List.drop_of_length_le, Nat.add_zero, V.one, Nat.reduceLeDiff, List.all_cons, List.all_nil, ne_eq, not_false_eq_true, Nat.zero_le, eIn_2, c0, c1, c2, c3, c4, c5, c6]; rfl) ?_ | refine To.op1 hxE2 (by simp only [go_sem, eqs hxE2, reduceIte, Nat.reduceEqDiff, Nat.reduceAdd, Nat.reduceMul, Nat.reduceLT, Nat.reduceLeDiff, Int.reduceBEq, Int.reduceBNe, Heap.gets, Heap.sets, Heap.get, bytesA_length, bytesA_one, bytesA_plains, List.take_of_length_le, List.drop_of_length_le, Nat.add_zero, V.one, Nat.reduceLeDiff, List.all_cons, List.all_nil, ne_eq, not_false_eq_true, Nat.zero_le, eIn_2, c0, c1, c2, c3, c4, c5, c6]; rfl) ?_ | refine To.nop hxE2 ?_ | refine To.ret hxE2 ?_))
      simp only [andThen, outOf, go_sem, eqs hxE2, reduceIte, Nat.reduceEqDiff, Nat.reduceAdd, Nat.reduceMul, Nat.reduceLT, Nat.reduceLeDiff, Int.reduceBEq, Int.reduceBNe, af24, inB, attrB, c0, c1, c2, c3, c4, c5, c6, Bool.false_and, Bool.and_false]
    cases c7 : decide (a3 ≤ 65535)
    · (repeat' (first | refine To.seq hxE2 ?_ | refine To.op0 hxE2 (by simp only [go_sem, eqs hxE2, reduceIte, Nat.reduceEqDiff, Nat.reduceAdd, Nat.reduceMul, Nat.reduceLT, Nat.reduceLeDiff, Int.reduceBEq, Int.reduceBNe, Heap.gets, Heap.sets, Heap.get, bytesA_length, bytesA_one, bytesA_plains, List.take_of_length_le, List.drop_of_length_le, Nat.add_zero, V.one, Nat.reduceLeDiff, List.all_cons, List.all_nil, ne_eq, not_false_eq_true, Nat.zero_le, eIn_2, c0, c1, c2, c3, c4, c5, c6, c7]; rfl) ?_ | refine To.op1 hxE2 (by simp only [go_sem, eqs hxE2, reduceIte, Nat.reduceEqDiff, Nat.reduceAdd, Nat.reduceMul, Nat.reduceLT, Nat.reduceLeDiff, Int.reduceBEq, Int.reduceBNe, Heap.gets, Heap.sets, Heap.get, bytesA_length, bytesA_one, bytesA_plains, List.take_of_length_le, List.drop_of_length_le, Nat.add_zero, V.one, Nat.reduceLeDiff, List.all_cons, List.all_nil, ne_eq, not_false_eq_true, Nat.zero_le, eIn_2, c0, c1, c2, c3, c4, c5, c6, c7]; rfl) ?_ | refine To.nop hxE2 ?_ | refine To.ret hxE2 ?_))
      simp only [andThen, outOf, go_sem, eqs hxE2, reduceIte, Nat.reduceEqDiff, Nat.reduceAdd, Nat.reduceMul, Nat.reduceLT, Nat.reduceLeDiff, Int.reduceBEq, Int.reduceBNe, af24, inB, attrB, c0, c1, c2, c3, c4, c5, c6, c7, Bool.false_and, Bool.and_false]
    cases c8 : decide (0 ≤ a4)
    · (repeat' (first | refine To.seq hxE2 ?_ | refine To.op0 hxE2 (by simp only [go_sem, eqs hxE2, reduceIte, Nat.reduceEqDiff, Nat.reduceAdd, Nat.reduceMul, Nat.reduceLT, Nat.reduceLeDiff, Int.reduceBEq, Int.reduceBNe, Heap.gets, Heap.sets, Heap.get, bytesA_length, bytesA_one, bytesA_plains, List.take_of_length_le, List.drop_of_length_le, Nat.add_zero, V.one, Nat.reduceLeDiff, List.all_cons, List.all_nil, ne_eq, not_false_eq_true, Nat.zero_le, eIn_2, c0, c1, c2, c3, c4, c5, c6, c7, c8]; rfl) ?_ | refine To.op1 hxE2 (by simp only [go_sem, eqs hxE2, reduceIte, Nat.reduceEqDiff, Nat.reduceAdd, Nat.reduceMul, Nat.reduceLT, Nat.reduceLeDiff, Int.reduceBEq, Int.reduceBNe, Heap.gets, Heap.sets, Heap.get, bytesA_length, bytesA_one, bytesA_plains, List.take_of_length_le, List.drop_of_length_le, Nat.add_zero, V.one, Nat.reduceLeDiff, List.all_cons, List.all_nil, ne_eq, not_false_eq_true, Nat.zero_le, eIn_2, c0, c1, c2, c3, c4, c5, c6, c7, c8]; rfl) ?_ | refine To.nop hxE2 ?_ | refine To.ret hxE2 ?_))
      simp only [andThen, outOf, go_sem, eqs hxE2, reduceIte, Nat.reduceEqDiff, Nat.reduceAdd, Nat.reduceMul, Nat.reduceLT, Nat.reduceLeDiff, Int.reduceBEq, Int.reduceBNe, af24, inB, attrB, c0, c1, c2, c3, c4, c5, c6, c7, c8, Bool.false_and, Bool.and_false]
    cases c9 : decide (a4 ≤ 40)
    · (repeat' (first | refine To.seq hxE2 ?_ | refine To.op0 hxE2 (by simp only [go_sem, eqs hxE2, reduceIte, Nat.reduceEqDiff, Nat.reduceAdd, Nat.reduceMul, Nat.reduceLT, Nat.reduceLeDiff, Int.reduceBEq, Int.reduceBNe, Heap.gets, Heap.sets, Heap.get, bytesA_length, bytesA_one, bytesA_plains, List.take_of_length_le, List.drop_of_length_le, Nat.add_zero, V.one, Nat.reduceLeDiff, List.all_cons, List.all_nil, ne_eq, not_false_eq_true, Nat.zero_le, eIn_2, c0, c1, c2, c3, c4, c5, c6, c7, c8, c9]; rfl) ?_ | refine To.op1 hxE2 (by simp only [go_sem, eqs hxE2, reduceIte, Nat.reduceEqDiff, Nat.reduceAdd, Nat.reduceMul, Nat.reduceLT, Nat.reduceLeDiff, Int.reduceBEq, Int.reduceBNe, Heap.gets, Heap.sets, Heap.get, bytesA_length, bytesA_one, bytesA_plains, List.take_of_length_le, List.drop_of_length_le, Nat.add_zero, V.one, Nat.reduceLeDiff, List.all_cons, List.all_nil, ne_eq, not_false_eq_true, Nat.zero_le, eIn_2, c0, c1, c2, c3, c4, c5, c6, c7, c8, c9]; rfl) ?_ | refine To.nop hxE2 ?_ | refine To.ret hxE2 ?_))
      simp only [andThen, outOf, go_sem, eqs hxE2, reduceIte, Nat.reduceEqDiff, Nat.reduceAdd, Nat.reduceMul, Nat.reduceLT, Nat.reduceLeDiff, Int.reduceBEq, Int.reduceBNe, af24, inB, attrB, c0, c1, c2, c3, c4, c5, c6, c7, c8, c9, Bool.false_and, Bool.and_false]
    cases c10 : decide (0 ≤ a5)
    · (repeat' (first | refine To.seq hxE2 ?_ | refine To.op0 hxE2 (by simp only [go_sem, eqs hxE2, reduceIte, Nat.reduceEqDiff, Nat.reduceAdd, Nat.reduceMul, Nat.reduceLT, Nat.reduceLeDiff, Int.reduceBEq, Int.reduceBNe, Heap.gets, Heap.sets, Heap.get, bytesA_length, bytesA_one, bytesA_plains, List.take_of_length_le, List.drop_of_length_le, Nat.add_zero, V.one, Nat.reduceLeDiff, List.all_cons, List.all_nil, ne_eq, not_false_eq_true, Nat.zero_le, eIn_2, c0, c1, c2, c3, c4, c5, c6, c7, c8, c9, c10]; rfl) ?_ | refine To.op1 hxE2 (by simp only [go_sem, eqs hxE2, reduceIte, Nat.reduceEqDiff, Nat.reduceAdd, Nat.reduceMul, Nat.reduceLT, Nat.reduceLeDiff, Int.reduceBEq, Int.reduceBNe, Heap.gets, Heap.sets, Heap.get, bytesA_length, bytesA_one, bytesA_plains, List.take_of_length_le, List.drop_of_length_le, Nat.add_zero, V.one, Nat.reduceLeDiff, List.all_cons, List.all_nil, ne_eq, not_false_eq_true, Nat.zero_le, eIn_2, c0, c1, c2, c3, c4, c5, c6, c7, c8, c9, c10]; rfl) ?_ | refine To.nop hxE2 ?_ | refine To.ret hxE2 ?_))
      simp only [andThen, outOf, go_sem, eqs hxE2, reduceIte, Nat.reduceEqDiff, Nat.reduceAdd, Nat.reduceMul, Nat.reduceLT, Nat.reduceLeDiff, Int.reduceBEq, Int.reduceBNe, af24, inB, attrB, c0, c1, c2, c3, c4, c5, c6, c7, c8, c9, c10, Bool.false_and, Bool.and_false]
    cases c11 : decide (a5 ≤ 67840)
    · (repeat' (first | refine To.seq hxE2 ?_ | refine To.op0 hxE2 (by simp only [go_sem, eqs hxE2, reduceIte, Nat.reduceEqDiff, Nat.reduceAdd, Nat.reduceMul, Nat.reduceLT, Nat.reduceLeDiff, Int.reduceBEq, Int.reduceBNe, Heap.gets, Heap.sets, Heap.get, bytesA_length, bytesA_one, bytesA_plains, List.take_of_length_le, List.drop_of_length_le, Nat.add_zero, V.one, Nat.reduceLeDiff, List.all_cons, List.all_nil, ne_eq, not_false_eq_true, Nat.zero_le, eIn_2, c0, c1, c2, c3, c4, c5, c6, c7, c8, c9, c10, c11]; rfl) ?_ | refine To.op1 hxE2 (by simp only [go_sem, eqs hxE2, reduceIte, Nat.reduceEqDiff, Nat.reduceAdd, Nat.reduceMul, Nat.reduceLT, Nat.reduceLeDiff, Int.reduceBEq, Int.reduceBNe, Heap.gets, Heap.sets, Heap.get, bytesA_length, bytesA_one, bytesA_plains, List.take_of_length_le, List.drop_of_length_le, Nat.add_zero, V.one, Nat.reduceLeDiff, List.all_cons, List.all_nil, ne_eq, not_false_eq_true, Nat.zero_le, eIn_2, c0, c1, c2, c3, c4, c5, c6, c7, c8, c9, c10, c11]; rfl) ?_ | refine To.nop hxE2 ?_ | refine To.ret hxE2 ?_))
      simp only [andThen, outOf, go_sem, eqs hxE2, reduceIte, Nat.reduceEqDiff, Nat.reduceAdd, Nat.reduceMul, Nat.reduceLT, Nat.reduceLeDiff, Int.reduceBEq, Int.reduceBNe, af24, inB, attrB, c0, c1, c2, c3, c4, c5, c6, c7, c8, c9, c10, c11, Bool.false_and, Bool.and_false]
    (repeat' (first | refine To.seq hxE2 ?_ | refine To.op0 hxE2 (by simp only [go_sem, eqs hxE2, reduceIte, Nat.reduceEqDiff, Nat.reduceAdd, Nat.reduceMul, Nat.reduceLT, Nat.reduceLeDiff, Int.reduceBEq, Int.reduceBNe, Heap.gets, Heap.sets, Heap.get, bytesA_length, bytesA_one, bytesA_plains, List.take_of_length_le, List.drop_of_length_le, Nat.add_zero, V.one, Nat.reduceLeDiff, List.all_cons, List.all_nil, ne_eq, not_false_eq_true, Nat.zero_le, eIn_2, c0, c1, c2, c3, c4, c5, c6, c7, c8, c9, c10, c11]; rfl) ?_ | refine To.op1 hxE2 (by simp only [go_sem, eqs hxE2, reduceIte, Nat.reduceEqDiff, Nat.reduceAdd, Nat.reduceMul, Nat.reduceLT, Nat.reduceLeDiff, Int.reduceBEq, Int.reduceBNe, Heap.gets, Heap.sets, Heap.get, bytesA_length, bytesA_one, bytesA_plains, List.take_of_length_le, List.drop_of_length_le, Nat.add_zero, V.one, Nat.reduceLeDiff, List.all_cons, List.all_nil, ne_eq, not_false_eq_true, Nat.zero_le, eIn_2, c0, c1, c2, c3, c4, c5, c6, c7, c8, c9, c10, c11]; rfl) ?_ | refine To.nop hxE2 ?_ | refine To.ret hxE2 ?_))
    simp only [andThen, outOf, go_sem, eqs hxE2, reduceIte, Nat.reduceEqDiff, Nat.reduceAdd, Nat.reduceMul, Nat.reduceLT, Nat.reduceLeDiff, Int.reduceBEq, Int.reduceBNe, af24, inB, attrB, c0, c1, c2, c3, c4, c5, c6, c7, c8, c9, c10, c11, Bool.true_and, Bool.and_true]
  · cases h
def tNum1 : Ans
  | [.int .i64 n] => some (.bool (!numB n))
  | _ => none
theorem okNum1 : SpOk FF E2 77 tNum1 := by
  intro args v h hpl
  unfold tNum1 at h
  split at h
  · rename_i n
    cases h
    refine ⟨rfl, _, (?_ : Den FF E2 77 [.int .i64 n] H0 = some (.val (.bool (!numB n)), none))⟩
    refine To.den hxE2 (f := 77) (a := af77) rfl (E2_none rfl) (Nat.le_of_ble_eq_true rfl) ?_
    (repeat' (first | refine To.seq hxE2 ?_ | refine To.op0 hxE2 (by simp only [go_sem, eqs hxE2, reduceIte, Nat.reduceEqDiff, Nat.reduceAdd, Nat.reduceMul, Nat.reduceLT, Nat.reduceLeDiff, Int.reduceBEq, Int.reduceBNe, eIn_2]; rfl) ?_ | refine To.nop hxE2 ?_ | refine To.ret hxE2 ?_))
    simp only [andThen, outOf, go_sem, eqs hxE2, reduceIte, Nat.reduceEqDiff, Nat.reduceAdd, Nat.reduceMul, Nat.reduceLT, Nat.reduceLeDiff, Int.reduceBEq, Int.reduceBNe, af77, numB]
  · cases h
def g3 : Nat → Option Ans := addG g2 [(25, tAttr), (24, tAttr), (77, tNum1)]
def E3 : ExtF := plainExt g3
theorem hxE3 : ExtMono E3 := plainExt_mono g3
theorem sndE3 : ExtSound Try.prog E3 := addG_sound mixed ffok sndE2 (by
  intro p hp
  simp only [List.mem_cons, List.not_mem_nil, or_false] at hp
  rcases hp with rfl | rfl | rfl
  · exact okWAttr
  · exact okRAttr
  · exact okNum1)
theorem E3_none {f : Nat} (h : g3 f = none) (c : CallF) : E3 c f = none := plainExt_none h c
theorem eContains_3 (s : List UInt8) (c : UInt8) (h : Heap) : Den FF E3 79 [.str s, .str [c]] h = some (.val (.bool (s.contains c)), none) := den_plain (sp := tContains) h rfl (by rfl) (by first | (simp [V.plains, V.plain, bytesA_plains]; done) | rfl)
theorem eAwake24_3 (_ : Unit) (h : Heap) : Den FF E3 27 [] h = some (.val (.bool true), none) := den_plain (sp := tAwake) h rfl (by rfl) (by first | (simp [V.plains, V.plain, bytesA_plains]; done) | rfl)
theorem eAwake23_3 (_ : Unit) (h : Heap) : Den FF E3 11 [] h = some (.val (.bool true), none) := den_plain (sp := tAwake) h rfl (by rfl) (by first | (simp [V.plains, V.plain, bytesA_plains]; done) | rfl)
theorem eIn_3 (n lo hi : Int) (h : Heap) : Den FF E3 65 [.int .i64 n, .int .i64 lo, .int .i64 hi] h = some (.val (.bool (inB n lo hi)), none) := den_plain (sp := tIn) h rfl (by rfl) (by first | (simp [V.plains, V.plain, bytesA_plains]; done) | rfl)
theorem eTakes_3 (id op ino oth n m : Int) (nm tx : List UInt8) (h : Heap) : Den FF E3 54 [.agg [.int .i64 id, .int .i64 op, .int .i64 ino, .int .i64 oth, .int .i64 n, .int .i64 m, .str nm, .str tx]] h = some (.val (.tuple [.agg (takesF id op ino oth n m nm tx), .bool (isOp op)]), none) := den_plain (sp := tTakes) h rfl (by rfl) (by first | (simp [V.plains, V.plain, bytesA_plains]; done) | rfl)
theorem eWAttr_3 (a0 a1 a2 a3 a4 a5 : Int) (h : Heap) : Den FF E3 25 [.agg [.int .i64 a0, .int .i64 a1, .int .i64 a2, .int .i64 a3, .int .i64 a4, .int .i64 a5]] h = some (.val (.bool (attrB a0 a1 a2 a3 a4 a5)), none) := den_plain (sp := tAttr) h rfl (by rfl) (by first | (simp [V.plains, V.plain, bytesA_plains]; done) | rfl)
theorem eRAttr_3 (a0 a1 a2 a3 a4 a5 : Int) (h : Heap) : Den FF E3 24 [.agg [.int .i64 a0, .int .i64 a1, .int .i64 a2, .int .i64 a3, .int .i64 a4, .int .i64 a5]] h = some (.val (.bool (attrB a0 a1 a2 a3 a4 a5)), none) := den_plain (sp := tAttr) h rfl (by rfl) (by first | (simp [V.plains, V.plain, bytesA_plains]; done) | rfl)
theorem eNum1_3 (n : Int) (h : Heap) : Den FF E3 77 [.int .i64 n] h = some (.val (.bool (!numB n)), none) := den_plain (sp := tNum1) h rfl (by rfl) (by first | (simp [V.plains, V.plain, bytesA_plains]; done) | rfl)

def intCells (l : List Int) : List (List V) := l.map fun n => [.int .i64 n]

set_option maxHeartbeats 4000000 in
theorem index_den {h : Heap} {v : V} {l : List Int} (hv : SliceOf h.o v 1 (intCells l)) (hl : l.length ≤ 1000000) :
    ∃ r oh, Den FF E3 83 [v, .fn 77 [] []] h = some (r, oh) ∧ ∃ i : Int, r = .val (.int .i64 i) ∧ oh = none ∧ decide (0 ≤ i) = !l.all numB := by
  refine To.denE hxE3 (f := 83) (a := af83) rfl (E3_none rfl) (Nat.le_of_ble_eq_true rfl) ?_
  have hlen := hv.len
  have hll : (intCells l).length = l.length := by simp [intCells]
  rw [hll] at hlen
  (repeat' (first | refine To.seq hxE3 ?_ | refine To.op0 hxE3 (by simp only [go_sem, eqs hxE3, reduceIte, Nat.reduceEqDiff, Nat.reduceAdd, Nat.reduceMul, Nat.reduceLT, Nat.reduceLeDiff, Int.reduceBEq, Int.reduceBNe, hlen]; rfl) ?_ | refine To.nop hxE3 ?_ | refine To.block hxE3 ?_))
  refine To.loop hxE3 (fun k S h' => ∃ i, i + k = l.length ∧ h' = ⟨h.o, h.o.length, h.o.length⟩ ∧ S 0 = v ∧ S 1 = .fn 77 [] [] ∧ S 7 = .int .i64 (l.length : Int) ∧ S 8 = .int .i64 (i : Int) ∧ ∀ j n, j < i → l[j]? = some n → numB n = true) ?_ l.length _ _ ?_
  · rintro k S _ ⟨i, hk, rfl, h0, h1, h7, h8, hall⟩
    by_cases hi : i < l.length
    · have hlt : decide ((i : Int) < (l.length : Int)) = true := by simp; omega
      obtain ⟨n, hn⟩ : ∃ n, l[i]? = some n := ⟨l[i], List.getElem?_eq_getElem hi⟩
      obtain ⟨x, hvl, hxl, hget⟩ := hv.idx (k := i) (c := [.int .i64 n]) (by simp [intCells, hn])
      rw [hvl, hll] at h0
      have hix : idxOf l.length (.int .i64 (i : Int)) = some i := idxOf_nat hi
      have g1 : ∀ e d, (⟨h.o, e, d⟩ : Heap).get x i = some (.int .i64 n) := fun e d => by
        have := hget h.o e d rfl
        rw [Nat.mul_one] at this
        exact (gets_get this).2 0 _ rfl
      have w1 : IntKind.i64.wrap ((i : Int) + 1) = ((i + 1 : Nat) : Int) := by rw [wrap_i64 (by omega) (by omega)]; omega
      cases hb : numB n
      · (repeat' (first | refine To.seq hxE3 ?_ | refine To.op0 hxE3 (by simp only [go_sem, eqs hxE3, reduceIte, Nat.reduceEqDiff, Nat.reduceAdd, Nat.reduceMul, Nat.reduceLT, Nat.reduceLeDiff, Int.reduceBEq, Int.reduceBNe, h0, h1, h7, h8, hlt, hix, g1, Nat.mul_one, eNum1_3, hb]; rfl) ?_ | refine To.nop hxE3 ?_ | (refine To.condT hxE3 ?_ ?_; focus (simp only [go_sem, eqs hxE3, reduceIte, Nat.reduceEqDiff, Nat.reduceAdd, Nat.reduceMul, Nat.reduceLT, Nat.reduceLeDiff, Int.reduceBEq, Int.reduceBNe, h0, h1, h7, h8, hlt, hix, g1, Nat.mul_one, eNum1_3, hb]; done)) | refine To.block hxE3 ?_ | refine To.ret hxE3 ?_ | refine To.skip hxE3 ?_))
        refine ⟨_, _, fin1 (i := 4) rfl, (i : Int), ?_, ?_, ?_⟩
        · simp only [go_sem, eqs hxE3, reduceIte, Nat.reduceEqDiff, Nat.reduceAdd, Nat.reduceMul, Nat.reduceLT, Nat.reduceLeDiff, Int.reduceBEq, Int.reduceBNe, h8]
        · rw [leave_plain (Kp.enter' h) (by simp only [go_sem, eqs hxE3, reduceIte, Nat.reduceEqDiff, Nat.reduceAdd, Nat.reduceMul, Nat.reduceLT, Nat.reduceLeDiff, Int.reduceBEq, Int.reduceBNe, h8])]
        · have : l.all numB = false := by
            rw [List.all_eq_false]
            exact ⟨n, List.mem_of_getElem? hn, by simp [hb]⟩
          rw [this]
          simp
      · (repeat' (first | refine To.seq hxE3 ?_ | refine To.op0 hxE3 (by simp only [go_sem, eqs hxE3, reduceIte, Nat.reduceEqDiff, Nat.reduceAdd, Nat.reduceMul, Nat.reduceLT, Nat.reduceLeDiff, Int.reduceBEq, Int.reduceBNe, h0, h1, h7, h8, hlt, hix, g1, Nat.mul_one, eNum1_3, hb, w1]; rfl) ?_ | refine To.nop hxE3 ?_ | (refine To.condT hxE3 ?_ ?_; focus (simp only [go_sem, eqs hxE3, reduceIte, Nat.reduceEqDiff, Nat.reduceAdd, Nat.reduceMul, Nat.reduceLT, Nat.reduceLeDiff, Int.reduceBEq, Int.reduceBNe, h0, h1, h7, h8, hlt, hix, g1, Nat.mul_one, eNum1_3, hb, w1]; done)) | (refine To.condF hxE3 ?_ ?_; focus (simp only [go_sem, eqs hxE3, reduceIte, Nat.reduceEqDiff, Nat.reduceAdd, Nat.reduceMul, Nat.reduceLT, Nat.reduceLeDiff, Int.reduceBEq, Int.reduceBNe, h0, h1, h7, h8, hlt, hix, g1, Nat.mul_one, eNum1_3, hb, w1]; done)) | refine To.block hxE3 ?_ | refine To.skip hxE3 ?_))
        try simp only [outOf, andThen]
        refine ⟨k - 1, by omega, i + 1, by omega, by first | rfl | trivial, ?_, ?_, ?_, ?_, ?_⟩
        all_goals try simp only [go_sem, eqs hxE3, reduceIte, Nat.reduceEqDiff, Nat.reduceAdd, Nat.reduceMul, Nat.reduceLT, Nat.reduceLeDiff, Int.reduceBEq, Int.reduceBNe, h0, h1, h7, hvl, hll]
        intro j m hj hm
        by_cases hji : j = i
        · subst hji; rw [hn] at hm; cases hm; exact hb
        · exact hall j m (by omega) hm
    · have hlt : decide ((i : Int) < (l.length : Int)) = false := by simp; omega
      (repeat' (first | refine To.seq hxE3 ?_ | refine To.op0 hxE3 (by simp only [go_sem, eqs hxE3, reduceIte, Nat.reduceEqDiff, Nat.reduceAdd, Nat.reduceMul, Nat.reduceLT, Nat.reduceLeDiff, Int.reduceBEq, Int.reduceBNe, h0, h1, h7, h8, hlt]; rfl) ?_ | refine To.nop hxE3 ?_ | (refine To.condF hxE3 ?_ ?_; focus (simp only [go_sem, eqs hxE3, reduceIte, Nat.reduceEqDiff, Nat.reduceAdd, Nat.reduceMul, Nat.reduceLT, Nat.reduceLeDiff, Int.reduceBEq, Int.reduceBNe, h0, h1, h7, h8, hlt]; done)) | refine To.ret hxE3 ?_ | refine To.exit hxE3 ?_))
      refine ⟨_, _, fin1 (i := 4) rfl, -1, ?_, ?_, ?_⟩
      · simp only [go_sem, eqs hxE3, reduceIte, Nat.reduceEqDiff, Nat.reduceAdd, Nat.reduceMul, Nat.reduceLT, Nat.reduceLeDiff, Int.reduceBEq, Int.reduceBNe]
      · rw [leave_plain (Kp.enter' h) (by simp only [go_sem, eqs hxE3, reduceIte, Nat.reduceEqDiff, Nat.reduceAdd, Nat.reduceMul, Nat.reduceLT, Nat.reduceLeDiff, Int.reduceBEq, Int.reduceBNe])]
      · have : l.all numB = true := by
          rw [List.all_eq_true]
          intro n hn
          obtain ⟨j, hj⟩ := List.mem_iff_getElem?.1 hn
          exact hall j n (by have := (List.getElem?_eq_some_iff.1 hj).1; omega) hj
        rw [this]
        rfl
  · refine ⟨0, by omega, rfl, ?_⟩
    simp only [go_sem, eqs hxE3, reduceIte, Nat.reduceEqDiff, Nat.reduceAdd, Nat.reduceMul, Nat.reduceLT, Nat.reduceLeDiff, Int.reduceBEq, Int.reduceBNe]
    simp

theorem nums_den {h : Heap} {v : V} {l : List Int} (hv : SliceOf h.o v 1 (intCells l)) (hl : l.length ≤ 1000000) : Den FF E3 55 [v] h = some (.val (.bool (l.all numB)), none) := by
  have k1 : ∀ h' : Heap, h'.o = h.o → Den FF E3 76 [v, .fn 77 [] []] h' = some (.val (.bool (!l.all numB)), none) := by
    intro h' hh
    have key : ∃ r oh, Den FF E3 76 [v, .fn 77 [] []] h' = some (r, oh) ∧ r = .val (.bool (!l.all numB)) ∧ oh = none := by
      refine To.denE hxE3 (f := 76) (a := af76) rfl (E3_none rfl) (Nat.le_of_ble_eq_true rfl) ?_
      obtain ⟨r, oh, q1, i, rfl, rfl, hi⟩ := index_den (h := ⟨h'.o, h'.o.length, h'.o.length⟩) (v := v) (l := l) (by show SliceOf h'.o v 1 _; rw [hh]; exact hv) hl
      (repeat' (first | refine To.seq hxE3 ?_ | refine To.op0 hxE3 (by simp only [go_sem, eqs hxE3, reduceIte, Nat.reduceEqDiff, Nat.reduceAdd, Nat.reduceMul, Nat.reduceLT, Nat.reduceLeDiff, Int.reduceBEq, Int.reduceBNe, q1]; rfl) ?_ | refine To.nop hxE3 ?_ | refine To.ret hxE3 ?_))
      refine ⟨_, _, fin1 (i := 4) rfl, ?_, ?_⟩
      · simp only [go_sem, eqs hxE3, reduceIte, Nat.reduceEqDiff, Nat.reduceAdd, Nat.reduceMul, Nat.reduceLT, Nat.reduceLeDiff, Int.reduceBEq, Int.reduceBNe, hi]
      · rw [leave_plain (Kp.enter h') (by simp only [go_sem, eqs hxE3, reduceIte, Nat.reduceEqDiff, Nat.reduceAdd, Nat.reduceMul, Nat.reduceLT, Nat.reduceLeDiff, Int.reduceBEq, Int.reduceBNe])]
    obtain ⟨r, oh, q, rfl, rfl⟩ := key
    exact q
  have key : ∃ r oh, Den FF E3 55 [v] h = some (r, oh) ∧ r = .val (.bool (l.all numB)) ∧ oh = none := by
    refine To.denE hxE3 (f := 55) (a := af55) rfl (E3_none rfl) (Nat.le_of_ble_eq_true rfl) ?_
    have q1 := k1 ⟨h.o, h.o.length, h.o.length⟩ rfl
    (repeat' (first | refine To.seq hxE3 ?_ | refine To.op0 hxE3 (by simp only [go_sem, eqs hxE3, reduceIte, Nat.reduceEqDiff, Nat.reduceAdd, Nat.reduceMul, Nat.reduceLT, Nat.reduceLeDiff, Int.reduceBEq, Int.reduceBNe, q1]; rfl) ?_ | refine To.nop hxE3 ?_ | refine To.ret hxE3 ?_))
    refine ⟨_, _, fin1 (i := 2) rfl, ?_, ?_⟩
    · simp only [go_sem, eqs hxE3, reduceIte, Nat.reduceEqDiff, Nat.reduceAdd, Nat.reduceMul, Nat.reduceLT, Nat.reduceLeDiff, Int.reduceBEq, Int.reduceBNe, Bool.not_not]
    · rw [leave_plain (Kp.enter h) (by simp only [go_sem, eqs hxE3, reduceIte, Nat.reduceEqDiff, Nat.reduceAdd, Nat.reduceMul, Nat.reduceLT, Nat.reduceLeDiff, Int.reduceBEq, Int.reduceBNe])]
  obtain ⟨r, oh, q, rfl, rfl⟩ := key
  exact q
end Go.Proofs.Ytjbblfoefibeaaa

/- Wire: what requests are right. -/
namespace Go.Proofs.Ytjbblfoefibeaaa
open Go AM
set_option linter.unusedSimpArgs false
set_option linter.unusedVariables false
set_option maxRecDepth 100000

def eqR (op ino oth n m : Int) (nm tx : List UInt8) : Bool :=
  ((if op = 19 then 0 else ino) == ino) && (keepI opsOther op oth == oth && (keepI opsN op n == n && (keepI opsM op m == m && (keepS opsName op nm == nm && keepS opsText op tx == tx))))
def rightR (id op ino oth n m : Int) (nm tx : List UInt8) : Bool :=
  isOp op && (eqR op ino oth n m nm tx && ([id, ino, oth, n, m].all numB && (decide (nm.length ≤ 512) && decide (tx.length ≤ 512))))
def tRight : Ans
  | [.agg [.int .i64 id, .int .i64 op, .int .i64 ino, .int .i64 oth, .int .i64 n, .int .i64 m, .str nm, .str tx]] => some (.bool (rightR id op ino oth n m nm tx))
  | _ => none

theorem intCells_flat (l : List Int) : (intCells l).flatten = l.map fun n => .int .i64 n := by
  unfold intCells
  induction l with
  | nil => rfl
  | cons a r ih => rw [List.map_cons, List.flatten_cons, ih]; rfl
theorem sliceOf_ints {o : List AM.Obj} {x : Nat} {l : List Int} (hx : o[x]? = some (.cells .ex 3 0 (l.map fun n => .int .i64 n))) : SliceOf o (.slice x 0 l.length 1) 1 (intCells l) := by
  refine ⟨by simp [intCells], by decide, .inr (.inr ⟨x, .ex, 3, by simp [intCells], ?_⟩)⟩
  rw [hx, intCells_flat]

set_option maxHeartbeats 8000000 in
theorem okRight : SpOk FF E3 14 tRight := by
  intro args v h hpl
  unfold tRight at h
  split at h
  · rename_i id op ino oth n m nm tx
    cases h
    refine ⟨rfl, _, (?_ : Den FF E3 14 [.agg [.int .i64 id, .int .i64 op, .int .i64 ino, .int .i64 oth, .int .i64 n, .int .i64 m, .str nm, .str tx]] H0 = some (.val (.bool (rightR id op ino oth n m nm tx)), none))⟩
    refine To.den hxE3 (f := 14) (a := af14) rfl (E3_none rfl) (Nat.le_of_ble_eq_true rfl) ?_
    cases c0 : isOp op
    · (repeat' (first | refine To.seq hxE3 ?_ | refine To.op0 hxE3 (by simp only [go_sem, eqs hxE3, reduceIte, Nat.reduceEqDiff, Nat.reduceAdd, Nat.reduceMul, Nat.reduceLT, Nat.reduceLeDiff, Int.reduceBEq, Int.reduceBNe, Heap.gets, Heap.sets, Heap.get, bytesA_length, bytesA_one, bytesA_plains, List.take_of_length_le, List.drop_of_length_le, Nat.add_zero, V.one, Nat.reduceLeDiff, List.all_cons, List.all_nil, ne_eq, not_false_eq_true, Nat.zero_le, eTakes_3, c0]; rfl) ?_ | refine To.op1 hxE3 (by simp only [go_sem, eqs hxE3, reduceIte, Nat.reduceEqDiff, Nat.reduceAdd, Nat.reduceMul, Nat.reduceLT, Nat.reduceLeDiff, Int.reduceBEq, Int.reduceBNe, Heap.gets, Heap.sets, Heap.get, bytesA_length, bytesA_one, bytesA_plains, List.take_of_length_le, List.drop_of_length_le, Nat.add_zero, V.one, Nat.reduceLeDiff, List.all_cons, List.all_nil, ne_eq, not_false_eq_true, Nat.zero_le, eTakes_3, c0]; rfl) ?_ | refine To.nop hxE3 ?_ | refine To.ret hxE3 ?_))
      simp only [andThen, outOf, go_sem, eqs hxE3, reduceIte, Nat.reduceEqDiff, Nat.reduceAdd, Nat.reduceMul, Nat.reduceLT, Nat.reduceLeDiff, Int.reduceBEq, Int.reduceBNe, Heap.gets, Heap.sets, Heap.get, bytesA_length, bytesA_one, bytesA_plains, List.take_of_length_le, List.drop_of_length_le, Nat.add_zero, V.one, Nat.reduceLeDiff, List.all_cons, List.all_nil, ne_eq, not_false_eq_true, Nat.zero_le, af14, rightR, c0, Bool.false_and]
    have q5 : ∀ X Y e d, Den FF E3 55 [.slice 2 0 5 1] ⟨[X, Y, .cells .ex 3 0 [.int .i64 id, .int .i64 ino, .int .i64 oth, .int .i64 n, .int .i64 m]], e, d⟩ = some (.val (.bool ([id, ino, oth, n, m].all numB)), none) := fun X Y e d => nums_den (l := [id, ino, oth, n, m]) (sliceOf_ints rfl) (by simp)
    have hr : rightR id op ino oth n m nm tx = (eqR op ino oth n m nm tx && ([id, ino, oth, n, m].all numB && (decide (nm.length ≤ 512) && decide (tx.length ≤ 512)))) := by rw [rightR, c0, Bool.true_and]
    rw [hr]
    generalize [id, ino, oth, n, m].all numB = bn at *
    have l1 : decide ((nm.length : Int) ≤ 512) = decide (nm.length ≤ 512) := by simp; omega
    have l2 : decide ((tx.length : Int) ≤ 512) = decide (tx.length ≤ 512) := by simp; omega
    cases c1 : eqR op ino oth n m nm tx
    · unfold eqR at c1
      (repeat' (first | refine To.seq hxE3 ?_ | refine To.op0 hxE3 (by simp only [go_sem, eqs hxE3, reduceIte, Nat.reduceEqDiff, Nat.reduceAdd, Nat.reduceMul, Nat.reduceLT, Nat.reduceLeDiff, Int.reduceBEq, Int.reduceBNe, Heap.gets, Heap.sets, Heap.get, bytesA_length, bytesA_one, bytesA_plains, List.take_of_length_le, List.drop_of_length_le, Nat.add_zero, V.one, Nat.reduceLeDiff, List.all_cons, List.all_nil, ne_eq, not_false_eq_true, Nat.zero_le, eTakes_3, c0, takesF, c1]; rfl) ?_ | refine To.op1 hxE3 (by simp only [go_sem, eqs hxE3, reduceIte, Nat.reduceEqDiff, Nat.reduceAdd, Nat.reduceMul, Nat.reduceLT, Nat.reduceLeDiff, Int.reduceBEq, Int.reduceBNe, Heap.gets, Heap.sets, Heap.get, bytesA_length, bytesA_one, bytesA_plains, List.take_of_length_le, List.drop_of_length_le, Nat.add_zero, V.one, Nat.reduceLeDiff, List.all_cons, List.all_nil, ne_eq, not_false_eq_true, Nat.zero_le, eTakes_3, c0, takesF, c1]; rfl) ?_ | refine To.nop hxE3 ?_ | refine To.ret hxE3 ?_))
      simp only [andThen, outOf, go_sem, eqs hxE3, reduceIte, Nat.reduceEqDiff, Nat.reduceAdd, Nat.reduceMul, Nat.reduceLT, Nat.reduceLeDiff, Int.reduceBEq, Int.reduceBNe, Heap.gets, Heap.sets, Heap.get, bytesA_length, bytesA_one, bytesA_plains, List.take_of_length_le, List.drop_of_length_le, Nat.add_zero, V.one, Nat.reduceLeDiff, List.all_cons, List.all_nil, ne_eq, not_false_eq_true, Nat.zero_le, af14, Bool.false_and]
    unfold eqR at c1
    cases bn
    · (repeat' (first | refine To.seq hxE3 ?_ | refine To.op0 hxE3 (by simp only [go_sem, eqs hxE3, reduceIte, Nat.reduceEqDiff, Nat.reduceAdd, Nat.reduceMul, Nat.reduceLT, Nat.reduceLeDiff, Int.reduceBEq, Int.reduceBNe, Heap.gets, Heap.sets, Heap.get, bytesA_length, bytesA_one, bytesA_plains, List.take_of_length_le, List.drop_of_length_le, Nat.add_zero, V.one, Nat.reduceLeDiff, List.all_cons, List.all_nil, ne_eq, not_false_eq_true, Nat.zero_le, eTakes_3, c0, takesF, c1, q5]; rfl) ?_ | refine To.op1 hxE3 (by simp only [go_sem, eqs hxE3, reduceIte, Nat.reduceEqDiff, Nat.reduceAdd, Nat.reduceMul, Nat.reduceLT, Nat.reduceLeDiff, Int.reduceBEq, Int.reduceBNe, Heap.gets, Heap.sets, Heap.get, bytesA_length, bytesA_one, bytesA_plains, List.take_of_length_le, List.drop_of_length_le, Nat.add_zero, V.one, Nat.reduceLeDiff, List.all_cons, List.all_nil, ne_eq, not_false_eq_true, Nat.zero_le, eTakes_3, c0, takesF, c1, q5]; rfl) ?_ | refine To.nop hxE3 ?_ | refine To.ret hxE3 ?_))
      simp only [andThen, outOf, go_sem, eqs hxE3, reduceIte, Nat.reduceEqDiff, Nat.reduceAdd, Nat.reduceMul, Nat.reduceLT, Nat.reduceLeDiff, Int.reduceBEq, Int.reduceBNe, Heap.gets, Heap.sets, Heap.get, bytesA_length, bytesA_one, bytesA_plains, List.take_of_length_le, List.drop_of_length_le, Nat.add_zero, V.one, Nat.reduceLeDiff, List.all_cons, List.all_nil, ne_eq, not_false_eq_true, Nat.zero_le, af14, Bool.false_and, Bool.true_and]
    cases c2 : decide (nm.length ≤ 512)
    · (repeat' (first | refine To.seq hxE3 ?_ | refine To.op0 hxE3 (by simp only [go_sem, eqs hxE3, reduceIte, Nat.reduceEqDiff, Nat.reduceAdd, Nat.reduceMul, Nat.reduceLT, Nat.reduceLeDiff, Int.reduceBEq, Int.reduceBNe, Heap.gets, Heap.sets, Heap.get, bytesA_length, bytesA_one, bytesA_plains, List.take_of_length_le, List.drop_of_length_le, Nat.add_zero, V.one, Nat.reduceLeDiff, List.all_cons, List.all_nil, ne_eq, not_false_eq_true, Nat.zero_le, eTakes_3, c0, takesF, c1, q5, l1, c2]; rfl) ?_ | refine To.op1 hxE3 (by simp only [go_sem, eqs hxE3, reduceIte, Nat.reduceEqDiff, Nat.reduceAdd, Nat.reduceMul, Nat.reduceLT, Nat.reduceLeDiff, Int.reduceBEq, Int.reduceBNe, Heap.gets, Heap.sets, Heap.get, bytesA_length, bytesA_one, bytesA_plains, List.take_of_length_le, List.drop_of_length_le, Nat.add_zero, V.one, Nat.reduceLeDiff, List.all_cons, List.all_nil, ne_eq, not_false_eq_true, Nat.zero_le, eTakes_3, c0, takesF, c1, q5, l1, c2]; rfl) ?_ | refine To.nop hxE3 ?_ | refine To.ret hxE3 ?_))
      simp only [andThen, outOf, go_sem, eqs hxE3, reduceIte, Nat.reduceEqDiff, Nat.reduceAdd, Nat.reduceMul, Nat.reduceLT, Nat.reduceLeDiff, Int.reduceBEq, Int.reduceBNe, Heap.gets, Heap.sets, Heap.get, bytesA_length, bytesA_one, bytesA_plains, List.take_of_length_le, List.drop_of_length_le, Nat.add_zero, V.one, Nat.reduceLeDiff, List.all_cons, List.all_nil, ne_eq, not_false_eq_true, Nat.zero_le, af14, Bool.false_and, Bool.true_and]
    (repeat' (first | refine To.seq hxE3 ?_ | refine To.op0 hxE3 (by simp only [go_sem, eqs hxE3, reduceIte, Nat.reduceEqDiff, Nat.reduceAdd, Nat.reduceMul, Nat.reduceLT, Nat.reduceLeDiff, Int.reduceBEq, Int.reduceBNe, Heap.gets, Heap.sets, Heap.get, bytesA_length, bytesA_one, bytesA_plains, List.take_of_length_le, List.drop_of_length_le, Nat.add_zero, V.one, Nat.reduceLeDiff, List.all_cons, List.all_nil, ne_eq, not_false_eq_true, Nat.zero_le, eTakes_3, c0, takesF, c1, q5, l1, l2, c2]; rfl) ?_ | refine To.op1 hxE3 (by simp only [go_sem, eqs hxE3, reduceIte, Nat.reduceEqDiff, Nat.reduceAdd, Nat.reduceMul, Nat.reduceLT, Nat.reduceLeDiff, Int.reduceBEq, Int.reduceBNe, Heap.gets, Heap.sets, Heap.get, bytesA_length, bytesA_one, bytesA_plains, List.take_of_length_le, List.drop_of_length_le, Nat.add_zero, V.one, Nat.reduceLeDiff, List.all_cons, List.all_nil, ne_eq, not_false_eq_true, Nat.zero_le, eTakes_3, c0, takesF, c1, q5, l1, l2, c2]; rfl) ?_ | refine To.nop hxE3 ?_ | refine To.ret hxE3 ?_))
    simp only [andThen, outOf, go_sem, eqs hxE3, reduceIte, Nat.reduceEqDiff, Nat.reduceAdd, Nat.reduceMul, Nat.reduceLT, Nat.reduceLeDiff, Int.reduceBEq, Int.reduceBNe, Heap.gets, Heap.sets, Heap.get, bytesA_length, bytesA_one, bytesA_plains, List.take_of_length_le, List.drop_of_length_le, Nat.add_zero, V.one, Nat.reduceLeDiff, List.all_cons, List.all_nil, ne_eq, not_false_eq_true, Nat.zero_le, af14, Bool.false_and, Bool.true_and]
  · cases h
end Go.Proofs.Ytjbblfoefibeaaa

/- Wire: names, as slots check them. -/
namespace Go.Proofs.Ytjbblfoefibeaaa
open Go AM
set_option linter.unusedSimpArgs false
set_option linter.unusedVariables false
set_option maxRecDepth 100000

def checkN (s : List UInt8) : Int := if (s == []) = true then 2 else if decide (13 < s.length) = true then 36 else if (s == [46] || s == [46, 46] || s.contains 47 || s.contains 0) = true then 22 else 0
def tCheck : Ans
  | [.str s] => some (.int .i64 (checkN s))
  | _ => none
theorem okCheck : SpOk FF E3 66 tCheck := by
  intro args v h hpl
  unfold tCheck at h
  split at h
  · rename_i s
    cases h
    refine ⟨rfl, _, (?_ : Den FF E3 66 [.str s] H0 = some (.val (.int .i64 (checkN s)), none))⟩
    refine To.den hxE3 (f := 66) (a := af66) rfl (E3_none rfl) (Nat.le_of_ble_eq_true rfl) ?_
    unfold checkN
    cases h0 : (s == [])
    · have hc : (13 < (s.length : Int)) = (13 < s.length) := propext (by omega)
      by_cases h1 : 13 < s.length
      · refine To.of (by simp only [go_sem, eqs hxE3, reduceIte, Nat.reduceEqDiff, Nat.reduceAdd, Nat.reduceMul, Nat.reduceLT, Nat.reduceLeDiff, Int.reduceBEq, Int.reduceBNe, af66, eContains_3, strA, h0, hc, h1]; rfl) ?_
        simp only [go_sem, eqs hxE3, reduceIte, Nat.reduceEqDiff, Nat.reduceAdd, Nat.reduceMul, Nat.reduceLT, Nat.reduceLeDiff, Int.reduceBEq, Int.reduceBNe, af66, h1]
      · cases h2 : (s == [46]) <;> cases h3 : (s == [46, 46]) <;> cases h4 : s.contains 47 <;> cases h5 : s.contains 0
        all_goals
          refine To.of (by simp only [go_sem, eqs hxE3, reduceIte, Nat.reduceEqDiff, Nat.reduceAdd, Nat.reduceMul, Nat.reduceLT, Nat.reduceLeDiff, Int.reduceBEq, Int.reduceBNe, af66, eContains_3, strA, h0, hc, h1, h2, h3, h4, h5]; rfl) ?_
          simp only [go_sem, eqs hxE3, reduceIte, Nat.reduceEqDiff, Nat.reduceAdd, Nat.reduceMul, Nat.reduceLT, Nat.reduceLeDiff, Int.reduceBEq, Int.reduceBNe, af66, h1, Bool.or_true, Bool.or_false, Bool.true_or]
    · refine To.of (by simp only [go_sem, eqs hxE3, reduceIte, Nat.reduceEqDiff, Nat.reduceAdd, Nat.reduceMul, Nat.reduceLT, Nat.reduceLeDiff, Int.reduceBEq, Int.reduceBNe, af66, eContains_3, strA, h0]; rfl) ?_
      simp only [go_sem, eqs hxE3, reduceIte, Nat.reduceEqDiff, Nat.reduceAdd, Nat.reduceMul, Nat.reduceLT, Nat.reduceLeDiff, Int.reduceBEq, Int.reduceBNe, af66]
  · cases h
theorem okRCheck : SpOk FF E3 64 tCheck := by
  intro args v h hpl
  unfold tCheck at h
  split at h
  · rename_i s
    cases h
    refine ⟨rfl, _, (?_ : Den FF E3 64 [.str s] H0 = some (.val (.int .i64 (checkN s)), none))⟩
    refine To.den hxE3 (f := 64) (a := af64) rfl (E3_none rfl) (Nat.le_of_ble_eq_true rfl) ?_
    have hc : (13 < (s.length : Int)) = (13 < s.length) := propext (by omega)
    by_cases h0 : s = []
    · subst h0
      refine To.of (by simp only [go_sem, eqs hxE3, reduceIte, Nat.reduceEqDiff, Nat.reduceAdd, Nat.reduceMul, Nat.reduceLT, Nat.reduceLeDiff, Int.reduceBEq, Int.reduceBNe, af64, List.length_nil, Int.natCast_zero, beq_self_eq_true, Int.ofNat_zero]; rfl) ?_
      simp only [go_sem, eqs hxE3, reduceIte, Nat.reduceEqDiff, Nat.reduceAdd, Nat.reduceMul, Nat.reduceLT, Nat.reduceLeDiff, Int.reduceBEq, Int.reduceBNe, af64]; rfl
    · have h00 : (s == []) = false := by simp [h0]
      have hl : ((s.length : Int) == 0) = false := by
        have : s.length ≠ 0 := fun h => h0 (List.length_eq_zero_iff.1 h)
        simp only [beq_eq_false_iff_ne, ne_eq]; omega
      by_cases h1 : 13 < s.length
      · refine To.of (by simp only [go_sem, eqs hxE3, reduceIte, Nat.reduceEqDiff, Nat.reduceAdd, Nat.reduceMul, Nat.reduceLT, Nat.reduceLeDiff, Int.reduceBEq, Int.reduceBNe, af64, hl, hc, h1]; rfl) ?_
        simp only [go_sem, eqs hxE3, reduceIte, Nat.reduceEqDiff, Nat.reduceAdd, Nat.reduceMul, Nat.reduceLT, Nat.reduceLeDiff, Int.reduceBEq, Int.reduceBNe, af64, checkN, h00, h1]
      · by_cases h23 : (s == [46] || s == [46, 46]) = true
        · have hr : checkN s = 22 := by
            simp only [checkN, h00, h1, h23, Bool.true_or, Bool.false_eq_true, if_false, decide_false, if_true]
          cases h2 : (s == [46]) <;> cases h3 : (s == [46, 46])
          · rw [h2, h3] at h23; cases h23
          all_goals
            refine To.of (by simp only [go_sem, eqs hxE3, reduceIte, Nat.reduceEqDiff, Nat.reduceAdd, Nat.reduceMul, Nat.reduceLT, Nat.reduceLeDiff, Int.reduceBEq, Int.reduceBNe, af64, strA, hl, hc, h1, h2, h3]; rfl) ?_
            simp only [go_sem, eqs hxE3, reduceIte, Nat.reduceEqDiff, Nat.reduceAdd, Nat.reduceMul, Nat.reduceLT, Nat.reduceLeDiff, Int.reduceBEq, Int.reduceBNe, af64, hr]
        · have h2 : (s == [46]) = false := by cases h : (s == [46]) <;> simp_all
          have h3 : (s == [46, 46]) = false := by cases h : (s == [46, 46]) <;> simp_all
          have hr : checkN s = if (s.contains 47 || s.contains 0) = true then 22 else 0 := by
            simp only [checkN, h00, h1, h2, h3, Bool.false_or, Bool.false_eq_true, if_false, decide_false]
          refine To.sq hxE3 (by simp only [go_sem, eqs hxE3, reduceIte, Nat.reduceEqDiff, Nat.reduceAdd, Nat.reduceMul, Nat.reduceLT, Nat.reduceLeDiff, Int.reduceBEq, Int.reduceBNe]; rfl) ?_
          refine To.sq hxE3 (by simp only [go_sem, eqs hxE3, reduceIte, Nat.reduceEqDiff, Nat.reduceAdd, Nat.reduceMul, Nat.reduceLT, Nat.reduceLeDiff, Int.reduceBEq, Int.reduceBNe, hl]; rfl) ?_
          refine To.sq hxE3 (by simp only [go_sem, eqs hxE3, reduceIte, Nat.reduceEqDiff, Nat.reduceAdd, Nat.reduceMul, Nat.reduceLT, Nat.reduceLeDiff, Int.reduceBEq, Int.reduceBNe, hc, h1]; rfl) ?_
          refine To.sq hxE3 (by simp only [go_sem, eqs hxE3, reduceIte, Nat.reduceEqDiff, Nat.reduceAdd, Nat.reduceMul, Nat.reduceLT, Nat.reduceLeDiff, Int.reduceBEq, Int.reduceBNe, strA, h2, h3]; rfl) ?_
          refine To.seq hxE3 (To.sq hxE3 (by simp only [go_sem, eqs hxE3, reduceIte, Nat.reduceEqDiff, Nat.reduceAdd, Nat.reduceMul, Nat.reduceLT, Nat.reduceLeDiff, Int.reduceBEq, Int.reduceBNe]; rfl) (To.block hxE3 ?_))
          refine To.loop hxE3 (fun k S h' => h' = ⟨[], 0, 0⟩ ∧ ∃ i, i + k = s.length ∧ S 0 = .str s ∧ S 3 = .int .i64 (i : Int) ∧ ∀ j b, j < i → s[j]? = some b → b ≠ 0 ∧ b ≠ 47) ?_ s.length _ _ ?_
          · rintro k S _ ⟨rfl, i, hk, hS0, hS3, hall⟩
            by_cases hi : i < s.length
            · have hlt : decide ((i : Int) < (s.length : Int)) = true := by simp; omega
              obtain ⟨b, hb⟩ : ∃ b, s[i]? = some b := ⟨s[i], List.getElem?_eq_getElem hi⟩
              have hix : idxOf s.length (.int .i64 (i : Int)) = some i := idxOf_nat hi
              have w1 : IntKind.i64.wrap ((i : Int) + 1) = ((i + 1 : Nat) : Int) := by rw [wrap_i64 (by omega) (by omega)]; omega
              by_cases hz : b = 0
              · subst hz
                have hbz : (((0 : UInt8).toNat : Int) == 0) = true := rfl
                have hres : checkN s = 22 := by rw [hr, if_pos]; simp [List.mem_iff_getElem?]; exact .inr ⟨i, hb⟩
                refine To.of (by simp only [go_sem, eqs hxE3, reduceIte, Nat.reduceEqDiff, Nat.reduceAdd, Nat.reduceMul, Nat.reduceLT, Nat.reduceLeDiff, Int.reduceBEq, Int.reduceBNe, hS0, hS3, hlt, hix, hb, hbz]; rfl) ?_
                simp only [outOf, andThen]
                simp only [go_sem, eqs hxE3, reduceIte, Nat.reduceEqDiff, Nat.reduceAdd, Nat.reduceMul, Nat.reduceLT, Nat.reduceLeDiff, Int.reduceBEq, Int.reduceBNe, af64, hres]
              · have hbz : (((b.toNat : Nat) : Int) == 0) = false := by
                  simp only [beq_eq_false_iff_ne, ne_eq]
                  intro e; exact hz (UInt8.toNat_inj.1 (by simpa using e))
                by_cases h47 : b = 47
                · subst h47
                  have hb47 : (((47 : UInt8).toNat : Int) == 47) = true := rfl
                  have hres : checkN s = 22 := by rw [hr, if_pos]; simp [List.mem_iff_getElem?]; exact .inl ⟨i, hb⟩
                  refine To.of (by simp only [go_sem, eqs hxE3, reduceIte, Nat.reduceEqDiff, Nat.reduceAdd, Nat.reduceMul, Nat.reduceLT, Nat.reduceLeDiff, Int.reduceBEq, Int.reduceBNe, hS0, hS3, hlt, hix, hb, hbz, hb47]; rfl) ?_
                  simp only [outOf, andThen]
                  simp only [go_sem, eqs hxE3, reduceIte, Nat.reduceEqDiff, Nat.reduceAdd, Nat.reduceMul, Nat.reduceLT, Nat.reduceLeDiff, Int.reduceBEq, Int.reduceBNe, af64, hres]
                · have hb47 : (((b.toNat : Nat) : Int) == 47) = false := by
                    simp only [beq_eq_false_iff_ne, ne_eq]
                    intro e; exact h47 (UInt8.toNat_inj.1 (by simp; omega))
                  refine To.of (by simp only [go_sem, eqs hxE3, reduceIte, Nat.reduceEqDiff, Nat.reduceAdd, Nat.reduceMul, Nat.reduceLT, Nat.reduceLeDiff, Int.reduceBEq, Int.reduceBNe, hS0, hS3, hlt, hix, hb, hbz, hb47, w1]; rfl) ?_
                  refine ⟨k - 1, by omega, rfl, i + 1, by omega, ?_⟩
                  simp only [get_fput, hS0, hS3, reduceIte, Nat.reduceEqDiff, true_and]
                  intro j c hj hc'
                  by_cases hji : j = i
                  · subst hji; rw [hb] at hc'; cases hc'; exact ⟨hz, h47⟩
                  · exact hall j c (by omega) hc'
            · have hlt : decide ((i : Int) < (s.length : Int)) = false := by simp; omega
              have hno : ∀ b ∈ s, b ≠ 0 ∧ b ≠ 47 := by
                intro b hb
                obtain ⟨j, hj⟩ := List.mem_iff_getElem?.1 hb
                have := (List.getElem?_eq_some_iff.1 hj).1
                exact hall j b (by omega) hj
              have hres : checkN s = 0 := by
                rw [hr, if_neg]
                simp only [Bool.or_eq_true, List.contains_iff_mem, not_or]
                exact ⟨fun h => (hno _ h).2 rfl, fun h => (hno _ h).1 rfl⟩
              refine To.of (by simp only [go_sem, eqs hxE3, reduceIte, Nat.reduceEqDiff, Nat.reduceAdd, Nat.reduceMul, Nat.reduceLT, Nat.reduceLeDiff, Int.reduceBEq, Int.reduceBNe, hS0, hS3, hlt]; rfl) ?_
              simp only [outOf, andThen, if_true]
              refine To.of (by simp only [go_sem, eqs hxE3, reduceIte, Nat.reduceEqDiff, Nat.reduceAdd, Nat.reduceMul, Nat.reduceLT, Nat.reduceLeDiff, Int.reduceBEq, Int.reduceBNe]; rfl) ?_
              simp only [go_sem, eqs hxE3, reduceIte, Nat.reduceEqDiff, Nat.reduceAdd, Nat.reduceMul, Nat.reduceLT, Nat.reduceLeDiff, Int.reduceBEq, Int.reduceBNe, af64, hres]
          · refine ⟨rfl, 0, by omega, ?_⟩
            simp only [go_sem, eqs hxE3, reduceIte, Nat.reduceEqDiff, Nat.reduceAdd, Nat.reduceMul, Nat.reduceLT, Nat.reduceLeDiff, Int.reduceBEq, Int.reduceBNe]
            exact fun j b hj => absurd hj (by omega)
  · cases h
end Go.Proofs.Ytjbblfoefibeaaa

/- Wire: the document's numbers, as bytes and back. -/
namespace Go.Proofs.Ytjbblfoefibeaaa
open Go AM
set_option linter.unusedSimpArgs false
set_option linter.unusedVariables false
set_option maxRecDepth 100000

def tNumD : Ans
  | [.int .i64 n] => some (.bool (numB n))
  | _ => none
theorem okNumD : SpOk FF E3 48 tNumD := by
  intro args v h hpl
  unfold tNumD at h
  split at h
  · rename_i n
    cases h
    refine ⟨rfl, _, (?_ : Den FF E3 48 [.int .i64 n] H0 = some (.val (.bool (numB n)), none))⟩
    refine To.den hxE3 (f := 48) (a := af48) rfl (E3_none rfl) (Nat.le_of_ble_eq_true rfl) ?_
    unfold numB inB
    have l1 : decide (n < 4294967296) = decide (n ≤ 4294967295) := by simp; omega
    by_cases h1 : 0 ≤ n
    · (repeat' (first | refine To.seq hxE3 ?_ | refine To.op0 hxE3 (by simp only [go_sem, eqs hxE3, reduceIte, Nat.reduceEqDiff, Nat.reduceAdd, Nat.reduceMul, Nat.reduceLT, Nat.reduceLeDiff, Int.reduceLT, Int.reduceLE, Int.reduceEq, reduceCtorEq, Int.reduceBEq, Int.reduceBNe, h1, l1]; rfl) ?_ | refine To.nop hxE3 ?_ | refine To.ret hxE3 ?_))
      simp only [andThen, outOf, go_sem, eqs hxE3, reduceIte, Nat.reduceEqDiff, Nat.reduceAdd, Nat.reduceMul, Nat.reduceLT, Nat.reduceLeDiff, Int.reduceLT, Int.reduceLE, Int.reduceEq, reduceCtorEq, Int.reduceBEq, Int.reduceBNe, af48, h1]
    · (repeat' (first | refine To.seq hxE3 ?_ | refine To.op0 hxE3 (by simp only [go_sem, eqs hxE3, reduceIte, Nat.reduceEqDiff, Nat.reduceAdd, Nat.reduceMul, Nat.reduceLT, Nat.reduceLeDiff, Int.reduceLT, Int.reduceLE, Int.reduceEq, reduceCtorEq, Int.reduceBEq, Int.reduceBNe, h1, l1]; rfl) ?_ | refine To.nop hxE3 ?_ | refine To.ret hxE3 ?_))
      simp only [andThen, outOf, go_sem, eqs hxE3, reduceIte, Nat.reduceEqDiff, Nat.reduceAdd, Nat.reduceMul, Nat.reduceLT, Nat.reduceLeDiff, Int.reduceLT, Int.reduceLE, Int.reduceEq, reduceCtorEq, Int.reduceBEq, Int.reduceBNe, af48, h1, Bool.false_and]
  · cases h

theorem tobe_cons : ∀ (i v : Nat), tobe (i + 1) v = UInt8.ofNat (v / 256 ^ i) :: tobe i v
  | 0, v => by simp [tobe]
  | i + 1, v => by
    rw [tobe, tobe_cons i (v / 256), tobe, Nat.div_div_eq_div_mul, List.cons_append, Nat.pow_succ, Nat.mul_comm 256]

theorem strIn_b' : ∀ l : List UInt8, strOf (bytesA l) = some l
  | [] => rfl
  | b :: l => by
    have e : bytesA (b :: l) = .int .u8 (b.toNat : Int) :: bytesA l := rfl
    rw [e, strOf, strIn_b' l]
    simp
def bigF (n s : Int) : List UInt8 := tobe s.toNat n.toNat
def tBig : Ans
  | [.int .i64 n, .int .i64 s] => if 0 ≤ n ∧ n ≤ 9223372036854775807 ∧ 0 ≤ s ∧ s ≤ 8 then some (.str (bigF n s)) else none
  | _ => none
set_option maxHeartbeats 2000000 in
theorem big_den (v s : Nat) (hv : v ≤ 9223372036854775807) (hs : s ≤ 8) : ∃ r oh, Den FF E3 60 [.int .i64 (v : Int), .int .i64 (s : Int)] H0 = some (r, oh) ∧ r = .val (.str (tobe s v)) ∧ oh = none := by
  refine To.denE hxE3 (f := 60) (a := af60) rfl (E3_none rfl) (Nat.le_of_ble_eq_true rfl) ?_
  (repeat' (first | refine To.seq hxE3 ?_ | refine To.op0 hxE3 (by simp only [go_sem, eqs hxE3, reduceIte, Nat.reduceEqDiff, Nat.reduceAdd, Nat.reduceMul, Nat.reduceLT, Nat.reduceLeDiff, Int.reduceLT, Int.reduceLE, Int.reduceEq, reduceCtorEq, Int.reduceBEq, Int.reduceBNe]; rfl) ?_ | refine To.nop hxE3 ?_ | refine To.block hxE3 ?_))
  refine To.loop hxE3 (fun k S h' => ∃ i o' e' d', i + k = s ∧ h' = ⟨o', e', d'⟩ ∧ S 0 = .int .i64 ((v / 256 ^ i : Nat) : Int) ∧ S 1 = .int .i64 (s : Int) ∧ S 5 = .str (tobe i v) ∧ S 6 = .int .i64 (i : Int)) ?_ s _ _ ?_
  · rintro k S _ ⟨i, o', e', d', hk, rfl, s0, s1, s5, s6⟩
    have hq : v / 256 ^ i ≤ 9223372036854775807 := Nat.le_trans (Nat.div_le_self _ _) hv
    have htl := tobe_length i v
    by_cases hi : i < s
    · have hlt : decide ((i : Int) < (s : Int)) = true := by simp; omega
      have w1 : IntKind.i64.wrap ((i : Int) + 1) = ((i + 1 : Nat) : Int) := by rw [wrap_i64 (by omega) (by omega)]; omega
      have r1 : ((v / 256 ^ i : Nat) : Int).tmod 256 = ((v / 256 ^ i % 256 : Nat) : Int) := rfl
      have wn : ∀ y : Nat, y ≤ 9223372036854775807 → IntKind.i64.wrap (y : Int) = (y : Int) := fun y h => wrap_i64 (by omega) (by omega)
      have r2 : IntKind.i64.wrap ((v / 256 ^ i % 256 : Nat) : Int) = ((v / 256 ^ i % 256 : Nat) : Int) := wrap_i64 (by omega) (by omega)
      have r3 : IntKind.u8.wrap ((v / 256 ^ i % 256 : Nat) : Int) = ((UInt8.ofNat (v / 256 ^ i)).toNat : Int) := by rw [wrap_u8 (by omega) (by omega)]; simp
      have r4 : ((v / 256 ^ i : Nat) : Int).tdiv 256 = ((v / 256 ^ (i + 1) : Nat) : Int) := by
        have : ((v / 256 ^ i : Nat) : Int).tdiv 256 = ((v / 256 ^ i / 256 : Nat) : Int) := rfl
        rw [this, Nat.div_div_eq_div_mul, ← Nat.pow_succ]
      have hq' : v / 256 ^ (i + 1) ≤ 9223372036854775807 := Nat.le_trans (Nat.div_le_self _ _) hv
      have r5 : IntKind.i64.wrap ((v / 256 ^ (i + 1) : Nat) : Int) = ((v / 256 ^ (i + 1) : Nat) : Int) := wn _ hq'
      have st : strOf [.int .u8 ((UInt8.ofNat (v / 256 ^ i)).toNat : Int)] = some [UInt8.ofNat (v / 256 ^ i)] := by
        have hlt := (UInt8.ofNat (v / 256 ^ i)).toNat_lt
        generalize UInt8.ofNat (v / 256 ^ i) = y at *
        exact strIn_b' [y]
      have hl1 : (1 + i ≤ 9223372036854775807) = True := eq_true (by omega)
      (repeat' (first | refine To.seq hxE3 ?_ | refine To.op0 hxE3 (by simp only [go_sem, eqs hxE3, reduceIte, Nat.reduceEqDiff, Nat.reduceAdd, Nat.reduceMul, Nat.reduceLT, Nat.reduceLeDiff, Int.reduceLT, Int.reduceLE, Int.reduceEq, reduceCtorEq, Int.reduceBEq, Int.reduceBNe, Heap.gets, Heap.sets, Heap.get, bytesA_length, bytesA_one, bytesA_plains, List.take_of_length_le, List.drop_of_length_le, Nat.add_zero, V.one, Nat.reduceLeDiff, List.all_cons, List.all_nil, ne_eq, not_false_eq_true, Nat.zero_le, s0, s1, s5, s6, hlt, w1, r1, r2, r3, r4, r5, st, htl, hl1]; rfl) ?_ | refine To.op1 hxE3 (by simp only [go_sem, eqs hxE3, reduceIte, Nat.reduceEqDiff, Nat.reduceAdd, Nat.reduceMul, Nat.reduceLT, Nat.reduceLeDiff, Int.reduceLT, Int.reduceLE, Int.reduceEq, reduceCtorEq, Int.reduceBEq, Int.reduceBNe, Heap.gets, Heap.sets, Heap.get, bytesA_length, bytesA_one, bytesA_plains, List.take_of_length_le, List.drop_of_length_le, Nat.add_zero, V.one, Nat.reduceLeDiff, List.all_cons, List.all_nil, ne_eq, not_false_eq_true, Nat.zero_le, s0, s1, s5, s6, hlt, w1, r1, r2, r3, r4, r5, st, htl, hl1]; rfl) ?_ | refine To.nop hxE3 ?_ | (refine To.condT hxE3 ?_ ?_; focus (simp only [go_sem, eqs hxE3, reduceIte, Nat.reduceEqDiff, Nat.reduceAdd, Nat.reduceMul, Nat.reduceLT, Nat.reduceLeDiff, Int.reduceLT, Int.reduceLE, Int.reduceEq, reduceCtorEq, Int.reduceBEq, Int.reduceBNe, Heap.gets, Heap.sets, Heap.get, bytesA_length, bytesA_one, bytesA_plains, List.take_of_length_le, List.drop_of_length_le, Nat.add_zero, V.one, Nat.reduceLeDiff, List.all_cons, List.all_nil, ne_eq, not_false_eq_true, Nat.zero_le, s0, s1, s5, s6, hlt, w1, r1, r2, r3, r4, r5, st, htl, hl1]; done)) | refine To.block hxE3 ?_ | refine To.skip hxE3 ?_))
      try simp only [andThen, outOf]
      refine ⟨k - 1, by omega, i + 1, _, _, _, by omega, rfl, ?_⟩
      rw [tobe_cons]
      simp only [go_sem, eqs hxE3, reduceIte, Nat.reduceEqDiff, Nat.reduceAdd, Nat.reduceMul, Nat.reduceLT, Nat.reduceLeDiff, Int.reduceLT, Int.reduceLE, Int.reduceEq, reduceCtorEq, Int.reduceBEq, Int.reduceBNe, s0, s1, s5, s6]
    · have hlt : decide ((i : Int) < (s : Int)) = false := by simp; omega
      have hie : i = s := by omega
      subst hie
      (repeat' (first | refine To.seq hxE3 ?_ | refine To.op0 hxE3 (by simp only [go_sem, eqs hxE3, reduceIte, Nat.reduceEqDiff, Nat.reduceAdd, Nat.reduceMul, Nat.reduceLT, Nat.reduceLeDiff, Int.reduceLT, Int.reduceLE, Int.reduceEq, reduceCtorEq, Int.reduceBEq, Int.reduceBNe, Heap.gets, Heap.sets, Heap.get, bytesA_length, bytesA_one, bytesA_plains, List.take_of_length_le, List.drop_of_length_le, Nat.add_zero, V.one, Nat.reduceLeDiff, List.all_cons, List.all_nil, ne_eq, not_false_eq_true, Nat.zero_le, s0, s1, s5, s6, hlt]; rfl) ?_ | refine To.nop hxE3 ?_ | (refine To.condF hxE3 ?_ ?_; focus (simp only [go_sem, eqs hxE3, reduceIte, Nat.reduceEqDiff, Nat.reduceAdd, Nat.reduceMul, Nat.reduceLT, Nat.reduceLeDiff, Int.reduceLT, Int.reduceLE, Int.reduceEq, reduceCtorEq, Int.reduceBEq, Int.reduceBNe, Heap.gets, Heap.sets, Heap.get, bytesA_length, bytesA_one, bytesA_plains, List.take_of_length_le, List.drop_of_length_le, Nat.add_zero, V.one, Nat.reduceLeDiff, List.all_cons, List.all_nil, ne_eq, not_false_eq_true, Nat.zero_le, s0, s1, s5, s6, hlt]; done)) | refine To.ret hxE3 ?_ | refine To.exit hxE3 ?_))
      refine ⟨_, _, fin1 (i := 4) rfl, ?_, ?_⟩
      · simp only [go_sem, eqs hxE3, reduceIte, Nat.reduceEqDiff, Nat.reduceAdd, Nat.reduceMul, Nat.reduceLT, Nat.reduceLeDiff, Int.reduceLT, Int.reduceLE, Int.reduceEq, reduceCtorEq, Int.reduceBEq, Int.reduceBNe, s5]
      · simp only [go_sem, eqs hxE3, reduceIte, Nat.reduceEqDiff, Nat.reduceAdd, Nat.reduceMul, Nat.reduceLT, Nat.reduceLeDiff, Int.reduceLT, Int.reduceLE, Int.reduceEq, reduceCtorEq, Int.reduceBEq, Int.reduceBNe]
  · refine ⟨0, [], 0, 0, by omega, by first | rfl | trivial, ?_⟩
    simp only [go_sem, eqs hxE3, reduceIte, Nat.reduceEqDiff, Nat.reduceAdd, Nat.reduceMul, Nat.reduceLT, Nat.reduceLeDiff, Int.reduceLT, Int.reduceLE, Int.reduceEq, reduceCtorEq, Int.reduceBEq, Int.reduceBNe]
    simp [tobe]
theorem okBig : SpOk FF E3 60 tBig := by
  intro args v h hpl
  unfold tBig at h
  split at h
  · rename_i n s
    split at h
    · rename_i hc
      cases h
      obtain ⟨a, rfl⟩ : ∃ a : Nat, n = (a : Int) := ⟨n.toNat, by omega⟩
      obtain ⟨b, rfl⟩ : ∃ b : Nat, s = (b : Int) := ⟨s.toNat, by omega⟩
      obtain ⟨r, oh, q, rfl, rfl⟩ := big_den a b (by omega) (by omega)
      exact ⟨rfl, _, q⟩
    · cases h
  · cases h

/-- A number at a place. -/
def numAt (s : List UInt8) (at_ size : Nat) : Nat := be ((s.drop at_).take size)
def tNumber : Ans
  | [.str s, .int .i64 a, .int .i64 z] => if 0 ≤ a ∧ a ≤ 1000000 ∧ 0 ≤ z ∧ z ≤ 4 ∧ s.length ≤ 1000000 then
      some (if a.toNat + z.toNat ≤ s.length then .tuple [.int .i64 (numAt s a.toNat z.toNat), .bool true] else .tuple [.int .i64 0, .bool false]) else none
  | _ => none
set_option maxHeartbeats 2000000 in
theorem number_den (s : List UInt8) (a z : Nat) (ha : a ≤ 1000000) (hz : z ≤ 4) (hs : s.length ≤ 1000000) : ∃ r oh, Den FF E3 62 [.str s, .int .i64 (a : Int), .int .i64 (z : Int)] H0 = some (r, oh) ∧
    r = .val (if a + z ≤ s.length then .tuple [.int .i64 (numAt s a z), .bool true] else .tuple [.int .i64 0, .bool false]) ∧ oh = none := by
  refine To.denE hxE3 (f := 62) (a := af62) rfl (E3_none rfl) (Nat.le_of_ble_eq_true rfl) ?_
  have d0 : decide ((a : Int) < 0) = false := decide_eq_false (by omega)
  have w0 : IntKind.i64.wrap ((a : Int) + (z : Int)) = ((a + z : Nat) : Int) := by rw [wrap_i64 (by omega) (by omega)]; omega
  by_cases hl : a + z ≤ s.length
  · have d1 : decide ((s.length : Int) < ((a + z : Nat) : Int)) = false := by simp; omega
    rw [if_pos hl]
    (repeat' (first | refine To.seq hxE3 ?_ | refine To.op0 hxE3 (by simp only [go_sem, eqs hxE3, reduceIte, Nat.reduceEqDiff, Nat.reduceAdd, Nat.reduceMul, Nat.reduceLT, Nat.reduceLeDiff, Int.reduceLT, Int.reduceLE, Int.reduceEq, reduceCtorEq, Int.reduceBEq, Int.reduceBNe, d0, w0, d1]; rfl) ?_ | refine To.nop hxE3 ?_ | (refine To.condF hxE3 ?_ ?_; focus (simp only [go_sem, eqs hxE3, reduceIte, Nat.reduceEqDiff, Nat.reduceAdd, Nat.reduceMul, Nat.reduceLT, Nat.reduceLeDiff, Int.reduceLT, Int.reduceLE, Int.reduceEq, reduceCtorEq, Int.reduceBEq, Int.reduceBNe, d0, w0, d1]; done)) | refine To.block hxE3 ?_ | refine To.skip hxE3 ?_))
    refine To.loop hxE3 (fun k S h' => ∃ i, i + k = z ∧ h' = ⟨[], 0, 0⟩ ∧ S 0 = .str s ∧ S 1 = .int .i64 (a : Int) ∧ S 2 = .int .i64 (z : Int) ∧ S 8 = .int .i64 ((numAt s a i : Nat) : Int) ∧ S 9 = .int .i64 (i : Int)) ?_ z _ _ ?_
    · rintro k S _ ⟨i, hk, rfl, s0, s1, s2, s8, s9⟩
      by_cases hi : i < z
      · have hlt : decide ((i : Int) < (z : Int)) = true := by simp; omega
        have w1 : IntKind.i64.wrap ((i : Int) + 1) = ((i + 1 : Nat) : Int) := by rw [wrap_i64 (by omega) (by omega)]; omega
        have w2 : IntKind.i64.wrap ((a : Int) + (i : Int)) = ((a + i : Nat) : Int) := by rw [wrap_i64 (by omega) (by omega)]; omega
        have ix : idxOf s.length (.int .i64 ((a + i : Nat) : Int)) = some (a + i) := idxOf_nat (by omega)
        obtain ⟨b, hb⟩ : ∃ b, s[a + i]? = some b := ⟨s[a + i], List.getElem?_eq_getElem (by omega)⟩
        have hb256 := b.toNat_lt
        have hst : numAt s a (i + 1) = numAt s a i * 256 + b.toNat := by
          unfold numAt
          rw [List.take_add_one, List.getElem?_drop, hb, Option.toList_some, be_snoc]
        have hbl : numAt s a i < 256 ^ i := by
          have := be_lt ((s.drop a).take i)
          rwa [List.length_take, List.length_drop, Nat.min_eq_left (by omega)] at this
        have hpw : 256 ^ i ≤ 256 ^ 3 := Nat.pow_le_pow_right (by decide) (by omega)
        have e3 : (256 : Nat) ^ 3 = 16777216 := by decide
        have m1 : IntKind.i64.wrap (((numAt s a i : Nat) : Int) * 256) = ((numAt s a i * 256 : Nat) : Int) := by rw [wrap_i64 (by omega) (by omega)]; omega
        have m2 : IntKind.i64.wrap (b.toNat : Int) = (b.toNat : Int) := wrap_i64 (by omega) (by omega)
        have m3 : IntKind.i64.wrap (((numAt s a i * 256 : Nat) : Int) + (b.toNat : Int)) = ((numAt s a (i + 1) : Nat) : Int) := by rw [hst, wrap_i64 (by omega) (by omega)]; try omega
        (repeat' (first | refine To.seq hxE3 ?_ | refine To.op0 hxE3 (by simp only [go_sem, eqs hxE3, reduceIte, Nat.reduceEqDiff, Nat.reduceAdd, Nat.reduceMul, Nat.reduceLT, Nat.reduceLeDiff, Int.reduceLT, Int.reduceLE, Int.reduceEq, reduceCtorEq, Int.reduceBEq, Int.reduceBNe, s0, s1, s2, s8, s9, hlt, w1, w2, ix, hb, m1, m2, m3]; rfl) ?_ | refine To.nop hxE3 ?_ | (refine To.condT hxE3 ?_ ?_; focus (simp only [go_sem, eqs hxE3, reduceIte, Nat.reduceEqDiff, Nat.reduceAdd, Nat.reduceMul, Nat.reduceLT, Nat.reduceLeDiff, Int.reduceLT, Int.reduceLE, Int.reduceEq, reduceCtorEq, Int.reduceBEq, Int.reduceBNe, s0, s1, s2, s8, s9, hlt, w1, w2, ix, hb, m1, m2, m3]; done)) | refine To.block hxE3 ?_ | refine To.skip hxE3 ?_))
        try simp only [andThen, outOf]
        refine ⟨k - 1, by omega, i + 1, by omega, by first | rfl | trivial, ?_⟩
        simp only [go_sem, eqs hxE3, reduceIte, Nat.reduceEqDiff, Nat.reduceAdd, Nat.reduceMul, Nat.reduceLT, Nat.reduceLeDiff, Int.reduceLT, Int.reduceLE, Int.reduceEq, reduceCtorEq, Int.reduceBEq, Int.reduceBNe, s0, s1, s2]
      · have hlt : decide ((i : Int) < (z : Int)) = false := by simp; omega
        have hie : i = z := by omega
        subst hie
        (repeat' (first | refine To.seq hxE3 ?_ | refine To.op0 hxE3 (by simp only [go_sem, eqs hxE3, reduceIte, Nat.reduceEqDiff, Nat.reduceAdd, Nat.reduceMul, Nat.reduceLT, Nat.reduceLeDiff, Int.reduceLT, Int.reduceLE, Int.reduceEq, reduceCtorEq, Int.reduceBEq, Int.reduceBNe, s0, s1, s2, s8, s9, hlt]; rfl) ?_ | refine To.nop hxE3 ?_ | (refine To.condF hxE3 ?_ ?_; focus (simp only [go_sem, eqs hxE3, reduceIte, Nat.reduceEqDiff, Nat.reduceAdd, Nat.reduceMul, Nat.reduceLT, Nat.reduceLeDiff, Int.reduceLT, Int.reduceLE, Int.reduceEq, reduceCtorEq, Int.reduceBEq, Int.reduceBNe, s0, s1, s2, s8, s9, hlt]; done)) | refine To.ret hxE3 ?_ | refine To.exit hxE3 ?_))
        refine ⟨_, _, fin2 (i := 6) (j := 7) rfl, ?_, ?_⟩
        · simp only [go_sem, eqs hxE3, reduceIte, Nat.reduceEqDiff, Nat.reduceAdd, Nat.reduceMul, Nat.reduceLT, Nat.reduceLeDiff, Int.reduceLT, Int.reduceLE, Int.reduceEq, reduceCtorEq, Int.reduceBEq, Int.reduceBNe, s8]
        · simp only [go_sem, eqs hxE3, reduceIte, Nat.reduceEqDiff, Nat.reduceAdd, Nat.reduceMul, Nat.reduceLT, Nat.reduceLeDiff, Int.reduceLT, Int.reduceLE, Int.reduceEq, reduceCtorEq, Int.reduceBEq, Int.reduceBNe]
    · refine ⟨0, by omega, by first | rfl | trivial, ?_⟩
      simp only [go_sem, eqs hxE3, reduceIte, Nat.reduceEqDiff, Nat.reduceAdd, Nat.reduceMul, Nat.reduceLT, Nat.reduceLeDiff, Int.reduceLT, Int.reduceLE, Int.reduceEq, reduceCtorEq, Int.reduceBEq, Int.reduceBNe]
      simp [numAt, be]
  · have d1 : decide ((s.length : Int) < ((a + z : Nat) : Int)) = true := by simp; omega
    rw [if_neg hl]
    (repeat' (first | refine To.seq hxE3 ?_ | refine To.op0 hxE3 (by simp only [go_sem, eqs hxE3, reduceIte, Nat.reduceEqDiff, Nat.reduceAdd, Nat.reduceMul, Nat.reduceLT, Nat.reduceLeDiff, Int.reduceLT, Int.reduceLE, Int.reduceEq, reduceCtorEq, Int.reduceBEq, Int.reduceBNe, d0, w0, d1]; rfl) ?_ | refine To.nop hxE3 ?_ | (refine To.condT hxE3 ?_ ?_; focus (simp only [go_sem, eqs hxE3, reduceIte, Nat.reduceEqDiff, Nat.reduceAdd, Nat.reduceMul, Nat.reduceLT, Nat.reduceLeDiff, Int.reduceLT, Int.reduceLE, Int.reduceEq, reduceCtorEq, Int.reduceBEq, Int.reduceBNe, d0, w0, d1]; done)) | refine To.ret hxE3 ?_))
    refine ⟨_, _, fin2 (i := 6) (j := 7) rfl, ?_, ?_⟩
    · simp only [go_sem, eqs hxE3, reduceIte, Nat.reduceEqDiff, Nat.reduceAdd, Nat.reduceMul, Nat.reduceLT, Nat.reduceLeDiff, Int.reduceLT, Int.reduceLE, Int.reduceEq, reduceCtorEq, Int.reduceBEq, Int.reduceBNe]
    · simp only [go_sem, eqs hxE3, reduceIte, Nat.reduceEqDiff, Nat.reduceAdd, Nat.reduceMul, Nat.reduceLT, Nat.reduceLeDiff, Int.reduceLT, Int.reduceLE, Int.reduceEq, reduceCtorEq, Int.reduceBEq, Int.reduceBNe]
theorem okNumber : SpOk FF E3 62 tNumber := by
  intro args v h hpl
  unfold tNumber at h
  split at h
  · rename_i s a z
    split at h
    · rename_i hc
      cases h
      obtain ⟨a, rfl⟩ : ∃ b : Nat, a = (b : Int) := ⟨a.toNat, by omega⟩
      obtain ⟨z, rfl⟩ : ∃ b : Nat, z = (b : Int) := ⟨z.toNat, by omega⟩
      obtain ⟨r, oh, q, rfl, rfl⟩ := number_den s a z (by omega) (by omega) (by omega)
      simp only [Int.toNat_natCast]
      exact ⟨by split <;> rfl, _, q⟩
    · cases h
  · cases h
def g4 : Nat → Option Ans := addG g3 [(14, tRight), (48, tNumD), (60, tBig), (62, tNumber), (66, tCheck), (64, tCheck)]
def E4 : ExtF := plainExt g4
theorem hxE4 : ExtMono E4 := plainExt_mono g4
theorem sndE4 : ExtSound Try.prog E4 := addG_sound mixed ffok sndE3 (by
  intro p hp
  simp only [List.mem_cons, List.not_mem_nil, or_false] at hp
  rcases hp with rfl | rfl | rfl | rfl | rfl | rfl
  · exact okRight
  · exact okNumD
  · exact okBig
  · exact okNumber
  · exact okCheck
  · exact okRCheck)
theorem E4_none {f : Nat} (h : g4 f = none) (c : CallF) : E4 c f = none := plainExt_none h c
theorem eContains_4 (s : List UInt8) (c : UInt8) (h : Heap) : Den FF E4 79 [.str s, .str [c]] h = some (.val (.bool (s.contains c)), none) := den_plain (sp := tContains) h rfl (by rfl) (by first | (simp [V.plains, V.plain, bytesA_plains]; done) | rfl)
theorem eAwake24_4 (_ : Unit) (h : Heap) : Den FF E4 27 [] h = some (.val (.bool true), none) := den_plain (sp := tAwake) h rfl (by rfl) (by first | (simp [V.plains, V.plain, bytesA_plains]; done) | rfl)
theorem eAwake23_4 (_ : Unit) (h : Heap) : Den FF E4 11 [] h = some (.val (.bool true), none) := den_plain (sp := tAwake) h rfl (by rfl) (by first | (simp [V.plains, V.plain, bytesA_plains]; done) | rfl)
theorem eIn_4 (n lo hi : Int) (h : Heap) : Den FF E4 65 [.int .i64 n, .int .i64 lo, .int .i64 hi] h = some (.val (.bool (inB n lo hi)), none) := den_plain (sp := tIn) h rfl (by rfl) (by first | (simp [V.plains, V.plain, bytesA_plains]; done) | rfl)
theorem eTakes_4 (id op ino oth n m : Int) (nm tx : List UInt8) (h : Heap) : Den FF E4 54 [.agg [.int .i64 id, .int .i64 op, .int .i64 ino, .int .i64 oth, .int .i64 n, .int .i64 m, .str nm, .str tx]] h = some (.val (.tuple [.agg (takesF id op ino oth n m nm tx), .bool (isOp op)]), none) := den_plain (sp := tTakes) h rfl (by rfl) (by first | (simp [V.plains, V.plain, bytesA_plains]; done) | rfl)
theorem eWAttr_4 (a0 a1 a2 a3 a4 a5 : Int) (h : Heap) : Den FF E4 25 [.agg [.int .i64 a0, .int .i64 a1, .int .i64 a2, .int .i64 a3, .int .i64 a4, .int .i64 a5]] h = some (.val (.bool (attrB a0 a1 a2 a3 a4 a5)), none) := den_plain (sp := tAttr) h rfl (by rfl) (by first | (simp [V.plains, V.plain, bytesA_plains]; done) | rfl)
theorem eRAttr_4 (a0 a1 a2 a3 a4 a5 : Int) (h : Heap) : Den FF E4 24 [.agg [.int .i64 a0, .int .i64 a1, .int .i64 a2, .int .i64 a3, .int .i64 a4, .int .i64 a5]] h = some (.val (.bool (attrB a0 a1 a2 a3 a4 a5)), none) := den_plain (sp := tAttr) h rfl (by rfl) (by first | (simp [V.plains, V.plain, bytesA_plains]; done) | rfl)
theorem eNum1_4 (n : Int) (h : Heap) : Den FF E4 77 [.int .i64 n] h = some (.val (.bool (!numB n)), none) := den_plain (sp := tNum1) h rfl (by rfl) (by first | (simp [V.plains, V.plain, bytesA_plains]; done) | rfl)
theorem eRight_4 (id op ino oth n m : Int) (nm tx : List UInt8) (h : Heap) : Den FF E4 14 [.agg [.int .i64 id, .int .i64 op, .int .i64 ino, .int .i64 oth, .int .i64 n, .int .i64 m, .str nm, .str tx]] h = some (.val (.bool (rightR id op ino oth n m nm tx)), none) := den_plain (sp := tRight) h rfl (by rfl) (by first | (simp [V.plains, V.plain, bytesA_plains]; done) | rfl)
theorem eNumD_4 (n : Int) (h : Heap) : Den FF E4 48 [.int .i64 n] h = some (.val (.bool (numB n)), none) := den_plain (sp := tNumD) h rfl (by rfl) (by first | (simp [V.plains, V.plain, bytesA_plains]; done) | rfl)
theorem eBig_4 (n s : Int) (hc : 0 ≤ n ∧ n ≤ 9223372036854775807 ∧ 0 ≤ s ∧ s ≤ 8) (h : Heap) : Den FF E4 60 [.int .i64 n, .int .i64 s] h = some (.val (.str (bigF n s)), none) := den_plain (sp := tBig) h rfl (by exact if_pos hc) (by first | (simp [V.plains, V.plain, bytesA_plains]; done) | rfl)
theorem eNumber_4 (s : List UInt8) (a z : Int) (hc : 0 ≤ a ∧ a ≤ 1000000 ∧ 0 ≤ z ∧ z ≤ 4 ∧ s.length ≤ 1000000) (h : Heap) : Den FF E4 62 [.str s, .int .i64 a, .int .i64 z] h = some (.val ((if a.toNat + z.toNat ≤ s.length then .tuple [.int .i64 (numAt s a.toNat z.toNat), .bool true] else .tuple [.int .i64 0, .bool false])), none) := den_plain (sp := tNumber) h rfl (by exact if_pos hc) (by first | (simp [V.plains, V.plain, bytesA_plains]; done) | rfl)
theorem eCheck_4 (s : List UInt8) (h : Heap) : Den FF E4 66 [.str s] h = some (.val (.int .i64 (checkN s)), none) := den_plain (sp := tCheck) h rfl (by rfl) (by first | (simp [V.plains, V.plain, bytesA_plains]; done) | rfl)
theorem eRCheck_4 (s : List UInt8) (h : Heap) : Den FF E4 64 [.str s] h = some (.val (.int .i64 (checkN s)), none) := den_plain (sp := tCheck) h rfl (by rfl) (by first | (simp [V.plains, V.plain, bytesA_plains]; done) | rfl)

set_option maxHeartbeats 4000000 in
theorem among_den {h : Heap} {x : Nat} {n : Int} {l : List Int} (hv : h.o[x]? = some (.cells .ex 3 0 (l.map fun n => .int .i64 n))) (hl : l.length ≤ 1000) :
    ∃ r oh, Den FF E4 49 [.int .i64 n, .slice x 0 l.length 1] h = some (r, oh) ∧ r = .val (.bool (l.contains n)) ∧ oh = none := by
  refine To.denE hxE4 (f := 49) (a := af49) rfl (E4_none rfl) (Nat.le_of_ble_eq_true rfl) ?_
  (repeat' (first | refine To.seq hxE4 ?_ | refine To.op0 hxE4 (by simp only [go_sem, eqs hxE4, reduceIte, Nat.reduceEqDiff, Nat.reduceAdd, Nat.reduceMul, Nat.reduceLT, Nat.reduceLeDiff, Int.reduceLT, Int.reduceLE, Int.reduceEq, reduceCtorEq, Int.reduceBEq, Int.reduceBNe]; rfl) ?_ | refine To.nop hxE4 ?_ | refine To.block hxE4 ?_))
  refine To.loop hxE4 (fun k S h' => ∃ i, i + k = l.length ∧ h' = ⟨h.o, h.o.length, h.o.length⟩ ∧ S 0 = .int .i64 n ∧ S 1 = .slice x 0 l.length 1 ∧ S 5 = .int .i64 (i : Int) ∧ ∀ j : Nat, j < i → l[j]? ≠ some n) ?_ l.length _ _ ?_
  · rintro k S _ ⟨i, hk, rfl, h0, h1, h5, hall⟩
    by_cases hi : i < l.length
    · have hlt : decide ((i : Int) < (l.length : Int)) = true := by simp; omega
      obtain ⟨c, hc⟩ : ∃ c, l[i]? = some c := ⟨l[i], List.getElem?_eq_getElem hi⟩
      have hix : idxOf l.length (.int .i64 (i : Int)) = some i := idxOf_nat hi
      have g1 : ∀ e d, (⟨h.o, e, d⟩ : Heap).get x i = some (.int .i64 c) := fun e d => by
        simp only [Heap.get, hv, List.getElem?_map, hc, Option.map_some]
      have w1 : IntKind.i64.wrap ((i : Int) + 1) = ((i + 1 : Nat) : Int) := by rw [wrap_i64 (by omega) (by omega)]; omega
      cases hb : c == n
      · (repeat' (first | refine To.seq hxE4 ?_ | refine To.op0 hxE4 (by simp only [go_sem, eqs hxE4, reduceIte, Nat.reduceEqDiff, Nat.reduceAdd, Nat.reduceMul, Nat.reduceLT, Nat.reduceLeDiff, Int.reduceLT, Int.reduceLE, Int.reduceEq, reduceCtorEq, Int.reduceBEq, Int.reduceBNe, h0, h1, h5, hlt, hix, g1, Nat.mul_one, hb, w1]; rfl) ?_ | refine To.nop hxE4 ?_ | (refine To.condT hxE4 ?_ ?_; focus (simp only [go_sem, eqs hxE4, reduceIte, Nat.reduceEqDiff, Nat.reduceAdd, Nat.reduceMul, Nat.reduceLT, Nat.reduceLeDiff, Int.reduceLT, Int.reduceLE, Int.reduceEq, reduceCtorEq, Int.reduceBEq, Int.reduceBNe, h0, h1, h5, hlt, hix, g1, Nat.mul_one, hb, w1]; done)) | (refine To.condF hxE4 ?_ ?_; focus (simp only [go_sem, eqs hxE4, reduceIte, Nat.reduceEqDiff, Nat.reduceAdd, Nat.reduceMul, Nat.reduceLT, Nat.reduceLeDiff, Int.reduceLT, Int.reduceLE, Int.reduceEq, reduceCtorEq, Int.reduceBEq, Int.reduceBNe, h0, h1, h5, hlt, hix, g1, Nat.mul_one, hb, w1]; done)) | refine To.block hxE4 ?_ | refine To.skip hxE4 ?_))
        try simp only [outOf, andThen]
        refine ⟨k - 1, by omega, i + 1, by omega, by first | rfl | trivial, ?_, ?_, ?_, ?_⟩
        all_goals try simp only [go_sem, eqs hxE4, reduceIte, Nat.reduceEqDiff, Nat.reduceAdd, Nat.reduceMul, Nat.reduceLT, Nat.reduceLeDiff, Int.reduceLT, Int.reduceLE, Int.reduceEq, reduceCtorEq, Int.reduceBEq, Int.reduceBNe, h0, h1]
        intro j hj
        by_cases hji : j = i
        · subst hji; rw [hc]; intro hh; cases hh; simp at hb
        · exact hall j (by omega)
      · have he : c = n := by simpa using hb
        (repeat' (first | refine To.seq hxE4 ?_ | refine To.op0 hxE4 (by simp only [go_sem, eqs hxE4, reduceIte, Nat.reduceEqDiff, Nat.reduceAdd, Nat.reduceMul, Nat.reduceLT, Nat.reduceLeDiff, Int.reduceLT, Int.reduceLE, Int.reduceEq, reduceCtorEq, Int.reduceBEq, Int.reduceBNe, h0, h1, h5, hlt, hix, g1, Nat.mul_one, hb, w1]; rfl) ?_ | refine To.nop hxE4 ?_ | (refine To.condT hxE4 ?_ ?_; focus (simp only [go_sem, eqs hxE4, reduceIte, Nat.reduceEqDiff, Nat.reduceAdd, Nat.reduceMul, Nat.reduceLT, Nat.reduceLeDiff, Int.reduceLT, Int.reduceLE, Int.reduceEq, reduceCtorEq, Int.reduceBEq, Int.reduceBNe, h0, h1, h5, hlt, hix, g1, Nat.mul_one, hb, w1]; done)) | refine To.block hxE4 ?_ | refine To.ret hxE4 ?_ | refine To.skip hxE4 ?_))
        refine ⟨_, _, fin1 (i := 4) rfl, ?_, ?_⟩
        · have : l.contains n = true := by rw [List.contains_iff_mem]; exact he ▸ List.mem_of_getElem? hc
          rw [this]
          simp only [go_sem, eqs hxE4, reduceIte, Nat.reduceEqDiff, Nat.reduceAdd, Nat.reduceMul, Nat.reduceLT, Nat.reduceLeDiff, Int.reduceLT, Int.reduceLE, Int.reduceEq, reduceCtorEq, Int.reduceBEq, Int.reduceBNe]
        · rw [leave_plain (Kp.enter' h) (by simp only [go_sem, eqs hxE4, reduceIte, Nat.reduceEqDiff, Nat.reduceAdd, Nat.reduceMul, Nat.reduceLT, Nat.reduceLeDiff, Int.reduceLT, Int.reduceLE, Int.reduceEq, reduceCtorEq, Int.reduceBEq, Int.reduceBNe])]
    · have hlt : decide ((i : Int) < (l.length : Int)) = false := by simp; omega
      (repeat' (first | refine To.seq hxE4 ?_ | refine To.op0 hxE4 (by simp only [go_sem, eqs hxE4, reduceIte, Nat.reduceEqDiff, Nat.reduceAdd, Nat.reduceMul, Nat.reduceLT, Nat.reduceLeDiff, Int.reduceLT, Int.reduceLE, Int.reduceEq, reduceCtorEq, Int.reduceBEq, Int.reduceBNe, h0, h1, h5, hlt]; rfl) ?_ | refine To.nop hxE4 ?_ | (refine To.condF hxE4 ?_ ?_; focus (simp only [go_sem, eqs hxE4, reduceIte, Nat.reduceEqDiff, Nat.reduceAdd, Nat.reduceMul, Nat.reduceLT, Nat.reduceLeDiff, Int.reduceLT, Int.reduceLE, Int.reduceEq, reduceCtorEq, Int.reduceBEq, Int.reduceBNe, h0, h1, h5, hlt]; done)) | refine To.ret hxE4 ?_ | refine To.exit hxE4 ?_))
      refine ⟨_, _, fin1 (i := 4) rfl, ?_, ?_⟩
      · have : l.contains n = false := by
          cases hh : l.contains n with
          | false => rfl
          | true =>
            rw [List.contains_iff_mem] at hh
            obtain ⟨j, hj⟩ := List.mem_iff_getElem?.1 hh
            exact absurd hj (hall j (by have := (List.getElem?_eq_some_iff.1 hj).1; omega))
        rw [this]
        simp only [go_sem, eqs hxE4, reduceIte, Nat.reduceEqDiff, Nat.reduceAdd, Nat.reduceMul, Nat.reduceLT, Nat.reduceLeDiff, Int.reduceLT, Int.reduceLE, Int.reduceEq, reduceCtorEq, Int.reduceBEq, Int.reduceBNe]
      · rw [leave_plain (Kp.enter' h) (by simp only [go_sem, eqs hxE4, reduceIte, Nat.reduceEqDiff, Nat.reduceAdd, Nat.reduceMul, Nat.reduceLT, Nat.reduceLeDiff, Int.reduceLT, Int.reduceLE, Int.reduceEq, reduceCtorEq, Int.reduceBEq, Int.reduceBNe])]
  · refine ⟨0, by omega, by first | rfl | trivial, ?_⟩
    simp only [go_sem, eqs hxE4, reduceIte, Nat.reduceEqDiff, Nat.reduceAdd, Nat.reduceMul, Nat.reduceLT, Nat.reduceLeDiff, Int.reduceLT, Int.reduceLE, Int.reduceEq, reduceCtorEq, Int.reduceBEq, Int.reduceBNe]
    simp
theorem among_eq (l : List Int) {h : Heap} {x k : Nat} {n : Int} {cs : List V} (hv : h.o[x]? = some (.cells .ex 3 0 cs)) (hcs : cs = l.map fun n => .int .i64 n) (hk : k = l.length) (hl : l.length ≤ 1000) :
    Den FF E4 49 [.int .i64 n, .slice x 0 k 1] h = some (.val (.bool (l.contains n)), none) := by
  subst hcs hk
  obtain ⟨r, oh, q, rfl, rfl⟩ := among_den (n := n) hv hl
  exact q
end Go.Proofs.Ytjbblfoefibeaaa

