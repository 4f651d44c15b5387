import Derived.Test.YtlldpmkdjpmlpaaAir
set_option maxRecDepth 100000
namespace Go.Air.Try
def r2_0 : List O := [⟨some 0, none, .call (.f 1) []⟩]
/-- gosem.cut.init -/
def a2 : FI := ⟨1, [], .ops r2_0⟩
def r3_0 : List O := [⟨some 1, none, .box (.t 0)⟩,
  ⟨some 2, none, .mov (.c (.b false))⟩]
def r3_1 : List O := [⟨some 7, none, .ldn 2 (.t 1)⟩,
  ⟨some 8, none, .call (.f 21) [(.t 7), (.c (.i .i64 7))]⟩,
  ⟨some 9, none, .un .not (.t 8)⟩]
def r3_2 : List O := [⟨some 10, none, .call (.f 22) []⟩,
  ⟨some 2, none, .mov (.t 10)⟩]
def r3_3 : List O := [⟨some 12, none, .ldn 2 (.t 1)⟩,
  ⟨some 13, none, .call (.f 23) [(.t 12)]⟩,
  ⟨some 11, none, .mov (.t 13)⟩,
  ⟨some 14, none, .ext (.t 11) 0⟩,
  ⟨some 15, none, .ext (.t 11) 1⟩,
  ⟨some 3, none, .alloc [.sn, .i .i64 0, .sn]⟩,
  ⟨none, none, .st 3 (.t 3) (.t 14)⟩,
  ⟨some 4, none, .mov (.t 15)⟩]
def r3_4 : List O := [⟨some 17, none, .ldn 2 (.t 1)⟩,
  ⟨some 18, none, .call (.f 24) [(.t 17)]⟩,
  ⟨some 16, none, .mov (.t 18)⟩,
  ⟨some 19, none, .ext (.t 16) 0⟩,
  ⟨some 20, none, .ext (.t 16) 1⟩,
  ⟨some 5, none, .alloc [.sn, .i .i64 0, .sn]⟩,
  ⟨none, none, .st 3 (.t 5) (.t 19)⟩,
  ⟨some 6, none, .mov (.t 20)⟩]
def r3_5 : List O := [⟨some 21, none, .call (.f 22) []⟩,
  ⟨some 22, none, .mov (.t 21)⟩,
  ⟨some 23, some (22, true), .mov (.t 4)⟩,
  ⟨some 24, some (22, true), .mov (.t 6)⟩,
  ⟨some 25, some (22, true), .bin .eql (.t 23) (.t 24)⟩,
  ⟨some 26, none, .pick (.t 22) (.t 25) (.c (.b false))⟩,
  ⟨some 27, none, .mov (.t 26)⟩,
  ⟨some 28, some (27, true), .ldn 3 (.t 3)⟩,
  ⟨some 29, some (27, true), .ldn 3 (.t 5)⟩,
  ⟨some 30, some (27, true), .call (.f 25) [(.t 28), (.t 29)]⟩,
  ⟨some 31, none, .pick (.t 27) (.t 30) (.c (.b false))⟩,
  ⟨some 2, none, .mov (.t 31)⟩]
/-- sennet.sennetlaw04.RowsLeast -/
def a3 : FI := ⟨32, [.tmp 2], .seq (.ops r3_0) (.seq (.seq (.ops r3_1) (.cond (.t 9) (.seq (.ops r3_2) (.ret)) (.skip))) (.seq (.ops r3_3) (.seq (.ops r3_4) (.seq (.ops r3_5) (.ret)))))⟩
def r4_0 : List O := [⟨some 2, none, .box (.t 0)⟩,
  ⟨some 4, none, .mov (.c (.b false))⟩]
def r4_1 : List O := [⟨some 13, none, .ldn 2 (.t 2)⟩,
  ⟨some 14, none, .call (.f 21) [(.t 13), (.c (.i .i64 6))]⟩,
  ⟨some 15, none, .un .not (.t 14)⟩]
def r4_2 : List O := [⟨some 16, none, .call (.f 22) []⟩,
  ⟨some 4, none, .mov (.t 16)⟩]
def r4_3 : List O := [⟨some 18, none, .ldn 2 (.t 2)⟩,
  ⟨some 19, none, .mov (.t 1)⟩,
  ⟨some 20, none, .call (.f 26) [(.t 18), (.t 19)]⟩,
  ⟨some 17, none, .mov (.t 20)⟩,
  ⟨some 21, none, .ext (.t 17) 0⟩,
  ⟨some 22, none, .ext (.t 17) 1⟩,
  ⟨some 5, none, .alloc [.sn, .i .i64 0, .sn]⟩,
  ⟨none, none, .st 3 (.t 5) (.t 21)⟩,
  ⟨some 6, none, .mov (.t 22)⟩]
def r4_4 : List O := [⟨some 24, none, .ldn 2 (.t 2)⟩,
  ⟨some 25, none, .mov (.t 1)⟩,
  ⟨some 26, none, .call (.f 27) [(.t 24), (.t 25)]⟩,
  ⟨some 23, none, .mov (.t 26)⟩,
  ⟨some 27, none, .ext (.t 23) 0⟩,
  ⟨some 28, none, .ext (.t 23) 1⟩,
  ⟨some 7, none, .alloc [.sn, .i .i64 0, .sn]⟩,
  ⟨none, none, .st 3 (.t 7) (.t 27)⟩,
  ⟨some 8, none, .mov (.t 28)⟩]
def r4_5 : List O := [⟨some 30, none, .ldn 2 (.t 2)⟩,
  ⟨some 31, none, .call (.f 28) [(.t 30)]⟩,
  ⟨some 29, none, .mov (.t 31)⟩,
  ⟨some 32, none, .ext (.t 29) 0⟩,
  ⟨some 33, none, .ext (.t 29) 1⟩,
  ⟨some 9, none, .mov (.t 32)⟩,
  ⟨some 10, none, .mov (.t 33)⟩]
def r4_6 : List O := [⟨some 35, none, .ldn 2 (.t 2)⟩,
  ⟨some 36, none, .call (.f 29) [(.t 35)]⟩,
  ⟨some 34, none, .mov (.t 36)⟩,
  ⟨some 37, none, .ext (.t 34) 0⟩,
  ⟨some 38, none, .ext (.t 34) 1⟩,
  ⟨some 11, none, .mov (.t 37)⟩,
  ⟨some 12, none, .mov (.t 38)⟩]
def r4_7 : List O := [⟨some 39, none, .call (.f 22) []⟩,
  ⟨some 40, none, .mov (.t 39)⟩,
  ⟨some 41, some (40, true), .mov (.t 6)⟩,
  ⟨some 42, some (40, true), .mov (.t 8)⟩,
  ⟨some 43, some (40, true), .bin .eql (.t 41) (.t 42)⟩,
  ⟨some 44, none, .pick (.t 40) (.t 43) (.c (.b false))⟩,
  ⟨some 45, none, .mov (.t 44)⟩,
  ⟨some 46, some (45, true), .ldn 3 (.t 5)⟩,
  ⟨some 47, some (45, true), .ldn 3 (.t 7)⟩,
  ⟨some 48, some (45, true), .call (.f 25) [(.t 46), (.t 47)]⟩,
  ⟨some 49, none, .pick (.t 45) (.t 48) (.c (.b false))⟩,
  ⟨some 50, none, .mov (.t 49)⟩,
  ⟨some 51, some (50, true), .mov (.t 10)⟩,
  ⟨some 52, some (50, true), .mov (.t 12)⟩,
  ⟨some 53, some (50, true), .bin .eql (.t 51) (.t 52)⟩,
  ⟨some 54, none, .pick (.t 50) (.t 53) (.c (.b false))⟩,
  ⟨some 55, none, .mov (.t 54)⟩,
  ⟨some 56, some (55, true), .mov (.t 9)⟩,
  ⟨some 57, some (55, true), .mov (.t 11)⟩,
  ⟨some 58, some (55, true), .call (.f 30) [(.t 56), (.t 57)]⟩,
  ⟨some 59, none, .pick (.t 55) (.t 58) (.c (.b false))⟩,
  ⟨some 4, none, .mov (.t 59)⟩]
/-- sennet.sennetlaw04.RowsSpares -/
def a4 : FI := ⟨60, [.tmp 4], .seq (.ops r4_0) (.seq (.seq (.ops r4_1) (.cond (.t 15) (.seq (.ops r4_2) (.ret)) (.skip))) (.seq (.ops r4_3) (.seq (.ops r4_4) (.seq (.ops r4_5) (.seq (.ops r4_6) (.seq (.ops r4_7) (.ret)))))))⟩
def r5_0 : List O := [⟨some 3, none, .box (.t 0)⟩,
  ⟨some 6, none, .mov (.c (.b false))⟩]
def r5_1 : List O := [⟨some 15, none, .fld 1 (.t 3)⟩,
  ⟨some 16, none, .ld (.t 15)⟩,
  ⟨some 17, none, .lenL (.t 16)⟩,
  ⟨some 18, none, .bin .gtr (.t 17) (.c (.i .i64 700))⟩,
  ⟨some 19, none, .mov (.t 18)⟩,
  ⟨some 20, some (19, false), .mov (.t 1)⟩,
  ⟨some 21, some (19, false), .bin .lss (.t 20) (.c (.i .i64 0))⟩,
  ⟨some 22, none, .pick (.t 19) (.c (.b true)) (.t 21)⟩,
  ⟨some 23, none, .mov (.t 22)⟩,
  ⟨some 24, some (23, false), .mov (.t 1)⟩,
  ⟨some 25, some (23, false), .fld 1 (.t 3)⟩,
  ⟨some 26, some (23, false), .ld (.t 25)⟩,
  ⟨some 27, some (23, false), .lenL (.t 26)⟩,
  ⟨some 28, some (23, false), .bin .geq (.t 24) (.t 27)⟩,
  ⟨some 29, none, .pick (.t 23) (.c (.b true)) (.t 28)⟩,
  ⟨some 30, none, .mov (.t 29)⟩,
  ⟨some 31, some (30, false), .mov (.t 2)⟩,
  ⟨some 32, some (30, false), .bin .lss (.t 31) (.c (.i .i64 0))⟩,
  ⟨some 33, none, .pick (.t 30) (.c (.b true)) (.t 32)⟩,
  ⟨some 34, none, .mov (.t 33)⟩,
  ⟨some 35, some (34, false), .mov (.t 2)⟩,
  ⟨some 36, some (34, false), .bin .gtr (.t 35) (.c (.i .i64 999))⟩,
  ⟨some 37, none, .pick (.t 34) (.c (.b true)) (.t 36)⟩]
def r5_2 : List O := [⟨some 38, none, .call (.f 22) []⟩,
  ⟨some 6, none, .mov (.t 38)⟩]
def r5_3 : List O := [⟨some 39, none, .fld 0 (.t 3)⟩,
  ⟨some 40, none, .ld (.t 39)⟩,
  ⟨some 41, none, .buildSl [] 0 []⟩,
  ⟨some 42, none, .fld 1 (.t 3)⟩,
  ⟨some 43, none, .ld (.t 42)⟩,
  ⟨some 44, none, .mov (.t 1)⟩,
  ⟨some 45, none, .slc 4 (.t 43) none (some (.t 44)) none⟩,
  ⟨some 46, none, .app 4 32 (.t 41) (.t 45)⟩,
  ⟨some 47, none, .fld 1 (.t 3)⟩,
  ⟨some 48, none, .ld (.t 47)⟩,
  ⟨some 49, none, .mov (.t 1)⟩,
  ⟨some 50, none, .bin .add (.t 49) (.c (.i .i64 1))⟩,
  ⟨some 51, none, .slc 4 (.t 48) (some (.t 50)) none none⟩,
  ⟨some 52, none, .app 4 32 (.t 46) (.t 51)⟩,
  ⟨some 53, none, .build [.i .i64 0, .sn] [(0, 1, (.t 40)), (1, 1, (.t 52))]⟩,
  ⟨some 7, none, .alloc [.i .i64 0, .sn]⟩,
  ⟨none, none, .st 2 (.t 7) (.t 53)⟩]
def r5_4 : List O := [⟨some 54, none, .fld 0 (.t 3)⟩,
  ⟨some 55, none, .ld (.t 54)⟩,
  ⟨some 56, none, .buildSl [] 0 []⟩,
  ⟨some 57, none, .fld 1 (.t 3)⟩,
  ⟨some 58, none, .ld (.t 57)⟩,
  ⟨some 59, none, .app 4 32 (.t 56) (.t 58)⟩,
  ⟨some 60, none, .build [.i .i64 0, .sn] [(0, 1, (.t 55)), (1, 1, (.t 59))]⟩,
  ⟨some 8, none, .alloc [.i .i64 0, .sn]⟩,
  ⟨none, none, .st 2 (.t 8) (.t 60)⟩]
def r5_5 : List O := [⟨some 61, none, .fld 1 (.t 8)⟩,
  ⟨some 62, none, .ld (.t 61)⟩,
  ⟨some 63, none, .mov (.t 1)⟩,
  ⟨some 64, none, .ixS 4 (.t 62) (.t 63)⟩,
  ⟨some 65, none, .fld 3 (.t 64)⟩,
  ⟨some 66, none, .ld (.t 65)⟩,
  ⟨some 67, none, .mov (.t 2)⟩,
  ⟨some 68, none, .bin .add (.t 66) (.t 67)⟩,
  ⟨some 69, none, .ixS 4 (.t 62) (.t 63)⟩,
  ⟨some 70, none, .fld 3 (.t 69)⟩,
  ⟨none, none, .st 1 (.t 70) (.t 68)⟩]
def r5_6 : List O := [⟨some 72, none, .ldn 2 (.t 3)⟩,
  ⟨some 73, none, .call (.f 23) [(.t 72)]⟩,
  ⟨some 71, none, .mov (.t 73)⟩,
  ⟨some 74, none, .ext (.t 71) 0⟩,
  ⟨some 75, none, .ext (.t 71) 1⟩,
  ⟨some 9, none, .alloc [.sn, .i .i64 0, .sn]⟩,
  ⟨none, none, .st 3 (.t 9) (.t 74)⟩,
  ⟨some 10, none, .mov (.t 75)⟩]
def r5_7 : List O := [⟨some 77, none, .ldn 2 (.t 7)⟩,
  ⟨some 78, none, .call (.f 23) [(.t 77)]⟩,
  ⟨some 76, none, .mov (.t 78)⟩,
  ⟨some 79, none, .ext (.t 76) 0⟩,
  ⟨some 80, none, .ext (.t 76) 1⟩,
  ⟨some 11, none, .alloc [.sn, .i .i64 0, .sn]⟩,
  ⟨none, none, .st 3 (.t 11) (.t 79)⟩,
  ⟨some 12, none, .mov (.t 80)⟩]
def r5_8 : List O := [⟨some 82, none, .ldn 2 (.t 8)⟩,
  ⟨some 83, none, .call (.f 23) [(.t 82)]⟩,
  ⟨some 81, none, .mov (.t 83)⟩,
  ⟨some 84, none, .ext (.t 81) 0⟩,
  ⟨some 85, none, .ext (.t 81) 1⟩,
  ⟨some 13, none, .alloc [.sn, .i .i64 0, .sn]⟩,
  ⟨none, none, .st 3 (.t 13) (.t 84)⟩,
  ⟨some 14, none, .mov (.t 85)⟩]
def r5_9 : List O := [⟨some 86, none, .mov (.t 10)⟩,
  ⟨some 87, none, .bin .neq (.t 86) (.c (.i .i64 0))⟩,
  ⟨some 88, none, .mov (.t 87)⟩,
  ⟨some 89, some (88, false), .mov (.t 12)⟩,
  ⟨some 90, some (88, false), .bin .neq (.t 89) (.c (.i .i64 0))⟩,
  ⟨some 91, none, .pick (.t 88) (.c (.b true)) (.t 90)⟩,
  ⟨some 92, none, .mov (.t 91)⟩,
  ⟨some 93, some (92, false), .mov (.t 14)⟩,
  ⟨some 94, some (92, false), .bin .neq (.t 93) (.c (.i .i64 0))⟩,
  ⟨some 95, none, .pick (.t 92) (.c (.b true)) (.t 94)⟩]
def r5_10 : List O := [⟨some 96, none, .call (.f 22) []⟩,
  ⟨some 97, none, .mov (.t 96)⟩,
  ⟨some 98, some (97, true), .mov (.t 10)⟩,
  ⟨some 99, some (97, true), .bin .neq (.t 98) (.c (.i .i64 0))⟩,
  ⟨some 100, some (97, true), .mov (.t 99)⟩,
  ⟨some 101, some (100, false), .mov (.t 12)⟩,
  ⟨some 102, some (100, false), .bin .eql (.t 101) (.c (.i .i64 0))⟩,
  ⟨some 103, some (97, true), .pick (.t 100) (.c (.b true)) (.t 102)⟩,
  ⟨some 104, none, .pick (.t 97) (.t 103) (.c (.b false))⟩,
  ⟨some 6, none, .mov (.t 104)⟩]
def r5_11 : List O := [⟨some 105, none, .call (.f 22) []⟩,
  ⟨some 106, none, .mov (.t 105)⟩,
  ⟨some 107, some (106, true), .fld 1 (.t 11)⟩,
  ⟨some 108, some (106, true), .ld (.t 107)⟩,
  ⟨some 109, some (106, true), .fld 1 (.t 9)⟩,
  ⟨some 110, some (106, true), .ld (.t 109)⟩,
  ⟨some 111, some (106, true), .bin .leq (.t 108) (.t 110)⟩,
  ⟨some 112, none, .pick (.t 106) (.t 111) (.c (.b false))⟩,
  ⟨some 113, none, .mov (.t 112)⟩,
  ⟨some 114, some (113, true), .fld 1 (.t 13)⟩,
  ⟨some 115, some (113, true), .ld (.t 114)⟩,
  ⟨some 116, some (113, true), .fld 1 (.t 9)⟩,
  ⟨some 117, some (113, true), .ld (.t 116)⟩,
  ⟨some 118, some (113, true), .bin .geq (.t 115) (.t 117)⟩,
  ⟨some 119, none, .pick (.t 113) (.t 118) (.c (.b false))⟩,
  ⟨some 120, none, .mov (.t 119)⟩,
  ⟨some 121, some (120, true), .fld 1 (.t 13)⟩,
  ⟨some 122, some (120, true), .ld (.t 121)⟩,
  ⟨some 123, some (120, true), .fld 1 (.t 9)⟩,
  ⟨some 124, some (120, true), .ld (.t 123)⟩,
  ⟨some 125, some (120, true), .mov (.t 2)⟩,
  ⟨some 126, some (120, true), .bin .add (.t 124) (.t 125)⟩,
  ⟨some 127, some (120, true), .bin .leq (.t 122) (.t 126)⟩,
  ⟨some 128, none, .pick (.t 120) (.t 127) (.c (.b false))⟩,
  ⟨some 6, none, .mov (.t 128)⟩]
/-- sennet.sennetlaw04.RowsFewer -/
def a5 : FI := ⟨129, [.tmp 6], .seq (.ops r5_0) (.seq (.seq (.ops r5_1) (.cond (.t 37) (.seq (.ops r5_2) (.ret)) (.skip))) (.seq (.draw r5_3 [(1, 7), (7, 9), (1, 13)]) (.seq (.draw r5_4 [(1, 5)]) (.seq (.ops r5_5) (.seq (.ops r5_6) (.seq (.ops r5_7) (.seq (.ops r5_8) (.seq (.seq (.ops r5_9) (.cond (.t 95) (.seq (.ops r5_10) (.ret)) (.skip))) (.seq (.ops r5_11) (.ret))))))))))⟩
def r6_0 : List O := [⟨some 2, none, .mov (.c (.b false))⟩]
def r6_1 : List O := [⟨some 12, none, .mov (.t 0)⟩,
  ⟨some 13, none, .lenL (.t 12)⟩,
  ⟨some 14, none, .bin .gtr (.t 13) (.c (.i .i64 30))⟩]
def r6_2 : List O := [⟨some 15, none, .call (.f 22) []⟩,
  ⟨some 2, none, .mov (.t 15)⟩]
def r6_3 : List O := [⟨some 17, none, .mov (.t 0)⟩,
  ⟨some 18, none, .call (.f 31) [(.t 17)]⟩,
  ⟨some 16, none, .mov (.t 18)⟩,
  ⟨some 19, none, .ext (.t 16) 0⟩,
  ⟨some 20, none, .ext (.t 16) 1⟩,
  ⟨some 3, none, .mov (.t 19)⟩,
  ⟨some 4, none, .mov (.t 20)⟩]
def r6_4 : List O := [⟨some 21, none, .mov (.t 4)⟩,
  ⟨some 22, none, .bin .neq (.t 21) (.c (.i .i64 0))⟩]
def r6_5 : List O := [⟨some 23, none, .call (.f 22) []⟩,
  ⟨some 24, none, .mov (.t 23)⟩,
  ⟨some 25, some (24, true), .mov (.t 3)⟩,
  ⟨some 26, some (24, true), .lenL (.t 25)⟩,
  ⟨some 27, some (24, true), .bin .eql (.t 26) (.c (.i .i64 0))⟩,
  ⟨some 28, none, .pick (.t 24) (.t 27) (.c (.b false))⟩,
  ⟨some 2, none, .mov (.t 28)⟩]
def r6_6 : List O := [⟨some 29, none, .mov (.t 3)⟩,
  ⟨some 30, none, .lenL (.t 29)⟩,
  ⟨some 31, none, .mov (.t 0)⟩,
  ⟨some 32, none, .lenL (.t 31)⟩,
  ⟨some 33, none, .bin .neq (.t 30) (.t 32)⟩]
def r6_7 : List O := [⟨some 2, none, .mov (.c (.b false))⟩]
def r6_8 : List O := [⟨some 34, none, .mov (.t 3)⟩,
  ⟨some 35, none, .lenL (.t 34)⟩,
  ⟨some 36, none, .mov (.c (.i .i64 0))⟩]
def r6_9 : List O := [⟨some 37, none, .bin .lss (.t 36) (.t 35)⟩]
def r6_10 : List O := [⟨some 38, none, .mov (.t 36)⟩,
  ⟨some 39, none, .ixS 1 (.t 34) (.t 36)⟩,
  ⟨some 40, none, .ld (.t 39)⟩,
  ⟨some 5, none, .mov (.t 38)⟩,
  ⟨some 6, none, .mov (.t 40)⟩]
def r6_11 : List O := [⟨some 41, none, .mov (.t 6)⟩,
  ⟨some 42, none, .lenL (.t 41)⟩,
  ⟨some 43, none, .mov (.t 0)⟩,
  ⟨some 44, none, .lenL (.t 43)⟩,
  ⟨some 45, none, .bin .neq (.t 42) (.t 44)⟩,
  ⟨some 46, none, .mov (.t 45)⟩,
  ⟨some 47, some (46, false), .mov (.t 6)⟩,
  ⟨some 48, some (46, false), .ixS 1 (.t 47) (.c (.i .i64 0))⟩,
  ⟨some 49, some (46, false), .ld (.t 48)⟩,
  ⟨some 50, some (46, false), .mov (.t 0)⟩,
  ⟨some 51, some (46, false), .mov (.t 5)⟩,
  ⟨some 52, some (46, false), .ixS 1 (.t 50) (.t 51)⟩,
  ⟨some 53, some (46, false), .ld (.t 52)⟩,
  ⟨some 54, some (46, false), .bin .neq (.t 49) (.t 53)⟩,
  ⟨some 55, none, .pick (.t 46) (.c (.b true)) (.t 54)⟩]
def r6_12 : List O := [⟨some 2, none, .mov (.c (.b false))⟩]
def r6_13 : List O := [⟨some 56, none, .mkMap⟩,
  ⟨some 7, none, .mov (.t 56)⟩]
def r6_14 : List O := [⟨some 57, none, .mov (.t 6)⟩,
  ⟨some 58, none, .lenL (.t 57)⟩,
  ⟨some 59, none, .mov (.c (.i .i64 0))⟩]
def r6_15 : List O := [⟨some 60, none, .bin .lss (.t 59) (.t 58)⟩]
def r6_16 : List O := [⟨some 61, none, .mov (.t 59)⟩,
  ⟨some 62, none, .ixS 1 (.t 57) (.t 59)⟩,
  ⟨some 63, none, .ld (.t 62)⟩,
  ⟨some 8, none, .mov (.t 61)⟩,
  ⟨some 9, none, .mov (.t 63)⟩]
def r6_17 : List O := [⟨some 64, none, .mov (.t 7)⟩,
  ⟨some 65, none, .mov (.t 9)⟩,
  ⟨some 66, none, .mov (.t 8)⟩,
  ⟨none, none, .mapSet (.sc (.i .i64)) (.t 64) (.t 65) (.t 66)⟩]
def r6_18 : List O := [⟨some 67, none, .bin .add (.t 59) (.c (.i .i64 1))⟩,
  ⟨some 59, none, .mov (.t 67)⟩]
def b6_0 : C := .seq (.ops r6_15) (.seq (.cond (.t 60) (.skip) (.exit 2)) (.seq (.block 3 (.seq (.ops r6_16) (.ops r6_17))) (.ops r6_18)))
def r6_19 : List O := [⟨some 68, none, .mov (.t 7)⟩,
  ⟨some 69, none, .lenM (.t 68)⟩,
  ⟨some 70, none, .mov (.t 0)⟩,
  ⟨some 71, none, .lenL (.t 70)⟩,
  ⟨some 72, none, .bin .neq (.t 69) (.t 71)⟩]
def r6_20 : List O := [⟨some 2, none, .mov (.c (.b false))⟩]
def r6_21 : List O := [⟨some 73, none, .mov (.t 0)⟩,
  ⟨some 74, none, .lenL (.t 73)⟩,
  ⟨some 75, none, .mov (.c (.i .i64 0))⟩]
def r6_22 : List O := [⟨some 76, none, .bin .lss (.t 75) (.t 74)⟩]
def r6_23 : List O := [⟨some 77, none, .mov (.t 75)⟩,
  ⟨some 10, none, .mov (.t 77)⟩]
def r6_24 : List O := [⟨some 78, none, .mov (.t 10)⟩,
  ⟨some 79, none, .bin .add (.t 78) (.c (.i .i64 1))⟩,
  ⟨some 11, none, .mov (.t 79)⟩]
def r6_25 : List O := [⟨some 80, none, .mov (.t 11)⟩,
  ⟨some 81, none, .mov (.t 0)⟩,
  ⟨some 82, none, .lenL (.t 81)⟩,
  ⟨some 83, none, .bin .lss (.t 80) (.t 82)⟩]
def r6_27 : List O := [⟨some 86, none, .mov (.t 7)⟩,
  ⟨some 87, none, .mov (.t 0)⟩,
  ⟨some 88, none, .mov (.t 10)⟩,
  ⟨some 89, none, .ixS 1 (.t 87) (.t 88)⟩,
  ⟨some 90, none, .ld (.t 89)⟩,
  ⟨some 91, none, .look (.sc (.i .i64)) (.i .i64 0) false (.t 86) (.t 90)⟩,
  ⟨some 92, none, .mov (.t 7)⟩,
  ⟨some 93, none, .mov (.t 0)⟩,
  ⟨some 94, none, .mov (.t 11)⟩,
  ⟨some 95, none, .ixS 1 (.t 93) (.t 94)⟩,
  ⟨some 96, none, .ld (.t 95)⟩,
  ⟨some 97, none, .look (.sc (.i .i64)) (.i .i64 0) false (.t 92) (.t 96)⟩,
  ⟨some 98, none, .bin .lss (.t 91) (.t 97)⟩,
  ⟨some 99, none, .mov (.t 11)⟩,
  ⟨some 100, none, .mov (.t 5)⟩,
  ⟨some 101, none, .bin .neq (.t 99) (.t 100)⟩,
  ⟨some 102, none, .eqv true (.bool) (.t 98) (.t 101)⟩]
def r6_28 : List O := [⟨some 2, none, .mov (.c (.b false))⟩]
def r6_26 : List O := [⟨some 84, none, .mov (.t 11)⟩,
  ⟨some 85, none, .bin .add (.t 84) (.c (.i .i64 1))⟩,
  ⟨some 11, none, .mov (.t 85)⟩]
def b6_1 : C := .seq (.seq (.ops r6_25) (.cond (.t 83) (.skip) (.exit 6))) (.seq (.block 7 (.seq (.draw r6_27 []) (.cond (.t 102) (.seq (.ops r6_28) (.ret)) (.skip)))) (.ops r6_26))
def r6_29 : List O := [⟨some 103, none, .bin .add (.t 75) (.c (.i .i64 1))⟩,
  ⟨some 75, none, .mov (.t 103)⟩]
def b6_2 : C := .seq (.ops r6_22) (.seq (.cond (.t 76) (.skip) (.exit 4)) (.seq (.block 5 (.seq (.ops r6_23) (.seq (.ops r6_24) (.block 6 (.loop b6_1))))) (.ops r6_29)))
def r6_30 : List O := [⟨some 104, none, .bin .add (.t 36) (.c (.i .i64 1))⟩,
  ⟨some 36, none, .mov (.t 104)⟩]
def b6_3 : C := .seq (.ops r6_9) (.seq (.cond (.t 37) (.skip) (.exit 0)) (.seq (.block 1 (.seq (.ops r6_10) (.seq (.seq (.draw r6_11 []) (.cond (.t 55) (.seq (.ops r6_12) (.ret)) (.skip))) (.seq (.ops r6_13) (.seq (.seq (.ops r6_14) (.block 2 (.loop b6_0))) (.seq (.seq (.ops r6_19) (.cond (.t 72) (.seq (.ops r6_20) (.ret)) (.skip))) (.seq (.ops r6_21) (.block 4 (.loop b6_2))))))))) (.ops r6_30)))
def r6_31 : List O := [⟨some 105, none, .call (.f 22) []⟩,
  ⟨some 2, none, .mov (.t 105)⟩]
/-- sennet.sennetlaw04.RowsCopies -/
def a6 : FI := ⟨106, [.tmp 2], .seq (.ops r6_0) (.seq (.seq (.ops r6_1) (.cond (.t 14) (.seq (.ops r6_2) (.ret)) (.skip))) (.seq (.ops r6_3) (.seq (.seq (.ops r6_4) (.cond (.t 22) (.seq (.ops r6_5) (.ret)) (.skip))) (.seq (.seq (.ops r6_6) (.cond (.t 33) (.seq (.ops r6_7) (.ret)) (.skip))) (.seq (.seq (.ops r6_8) (.block 0 (.loop b6_3))) (.seq (.ops r6_31) (.ret)))))))⟩
def r7_0 : List O := [⟨some 3, none, .box (.t 0)⟩,
  ⟨some 6, none, .mov (.c (.b false))⟩]
def r7_1 : List O := [⟨some 18, none, .fld 1 (.t 3)⟩,
  ⟨some 19, none, .ld (.t 18)⟩,
  ⟨some 20, none, .lenL (.t 19)⟩,
  ⟨some 21, none, .bin .gtr (.t 20) (.c (.i .i64 700))⟩,
  ⟨some 22, none, .mov (.t 21)⟩,
  ⟨some 23, some (22, false), .mov (.t 2)⟩,
  ⟨some 24, some (22, false), .lenL (.t 23)⟩,
  ⟨some 25, some (22, false), .bin .gtr (.t 24) (.c (.i .i64 60))⟩,
  ⟨some 26, none, .pick (.t 22) (.c (.b true)) (.t 25)⟩]
def r7_2 : List O := [⟨some 27, none, .call (.f 22) []⟩,
  ⟨some 6, none, .mov (.t 27)⟩]
def r7_3 : List O := [⟨some 29, none, .ldn 2 (.t 3)⟩,
  ⟨some 30, none, .mov (.t 2)⟩,
  ⟨some 31, none, .call (.f 32) [(.t 29), (.t 30)]⟩,
  ⟨some 28, none, .mov (.t 31)⟩,
  ⟨some 32, none, .ext (.t 28) 0⟩,
  ⟨some 33, none, .ext (.t 28) 1⟩,
  ⟨some 7, none, .mov (.t 32)⟩,
  ⟨some 8, none, .mov (.t 33)⟩]
def r7_4 : List O := [⟨some 35, none, .ldn 2 (.t 3)⟩,
  ⟨some 36, none, .mov (.t 2)⟩,
  ⟨some 37, none, .call (.f 33) [(.t 35), (.t 36)]⟩,
  ⟨some 34, none, .mov (.t 37)⟩,
  ⟨some 38, none, .ext (.t 34) 0⟩,
  ⟨some 39, none, .ext (.t 34) 1⟩,
  ⟨some 9, none, .mov (.t 38)⟩,
  ⟨some 10, none, .mov (.t 39)⟩]
def r7_5 : List O := [⟨some 41, none, .ldn 2 (.t 3)⟩,
  ⟨some 42, none, .mov (.t 2)⟩,
  ⟨some 43, none, .call (.f 34) [(.t 41), (.t 42)]⟩,
  ⟨some 40, none, .mov (.t 43)⟩,
  ⟨some 44, none, .ext (.t 40) 0⟩,
  ⟨some 45, none, .ext (.t 40) 1⟩,
  ⟨some 11, none, .mov (.t 44)⟩,
  ⟨some 12, none, .mov (.t 45)⟩]
def r7_6 : List O := [⟨some 47, none, .ldn 2 (.t 3)⟩,
  ⟨some 48, none, .mov (.t 2)⟩,
  ⟨some 49, none, .call (.f 35) [(.t 47), (.t 48)]⟩,
  ⟨some 46, none, .mov (.t 49)⟩,
  ⟨some 50, none, .ext (.t 46) 0⟩,
  ⟨some 51, none, .ext (.t 46) 1⟩,
  ⟨some 13, none, .mov (.t 50)⟩,
  ⟨some 14, none, .mov (.t 51)⟩]
def r7_7 : List O := [⟨some 15, none, .mov (.c (.i .i64 0))⟩]
def r7_8 : List O := [⟨some 52, none, .mov (.t 11)⟩,
  ⟨some 53, none, .lenL (.t 52)⟩,
  ⟨some 54, none, .mov (.c (.i .i64 0))⟩]
def r7_9 : List O := [⟨some 55, none, .bin .lss (.t 54) (.t 53)⟩]
def r7_10 : List O := [⟨some 56, none, .ixS 3 (.t 52) (.t 54)⟩,
  ⟨some 57, none, .ldn 3 (.t 56)⟩,
  ⟨some 17, none, .alloc [.i .i64 0, .i .i64 0, .i .i64 0]⟩,
  ⟨none, none, .st 3 (.t 17) (.t 57)⟩]
def r7_11 : List O := [⟨some 58, none, .mov (.t 15)⟩,
  ⟨some 59, none, .fld 2 (.t 17)⟩,
  ⟨some 60, none, .ld (.t 59)⟩,
  ⟨some 61, none, .bin .add (.t 58) (.t 60)⟩,
  ⟨some 15, none, .mov (.t 61)⟩]
def r7_12 : List O := [⟨some 62, none, .bin .add (.t 54) (.c (.i .i64 1))⟩,
  ⟨some 54, none, .mov (.t 62)⟩]
def b7_0 : C := .seq (.ops r7_9) (.seq (.cond (.t 55) (.skip) (.exit 0)) (.seq (.block 1 (.seq (.ops r7_10) (.ops r7_11))) (.ops r7_12)))
def r7_13 : List O := [⟨some 63, none, .mov (.t 7)⟩,
  ⟨some 64, none, .mov (.t 9)⟩,
  ⟨some 65, none, .bin .neq (.t 63) (.t 64)⟩,
  ⟨some 66, none, .mov (.t 65)⟩,
  ⟨some 67, some (66, false), .mov (.t 8)⟩,
  ⟨some 68, some (66, false), .mov (.t 10)⟩,
  ⟨some 69, some (66, false), .bin .neq (.t 67) (.t 68)⟩,
  ⟨some 70, none, .pick (.t 66) (.c (.b true)) (.t 69)⟩,
  ⟨some 71, none, .mov (.t 70)⟩,
  ⟨some 72, some (71, false), .mov (.t 12)⟩,
  ⟨some 73, some (71, false), .mov (.t 14)⟩,
  ⟨some 74, some (71, false), .bin .neq (.t 72) (.t 73)⟩,
  ⟨some 75, none, .pick (.t 71) (.c (.b true)) (.t 74)⟩,
  ⟨some 76, none, .mov (.t 75)⟩,
  ⟨some 77, some (76, false), .mov (.t 11)⟩,
  ⟨some 78, some (76, false), .mov (.t 13)⟩,
  ⟨some 79, some (76, false), .call (.f 36) [(.t 77), (.t 78)]⟩,
  ⟨some 80, some (76, false), .un .not (.t 79)⟩,
  ⟨some 81, none, .pick (.t 76) (.c (.b true)) (.t 80)⟩,
  ⟨some 82, none, .mov (.t 81)⟩,
  ⟨some 83, some (82, false), .mov (.t 15)⟩,
  ⟨some 84, some (82, false), .mov (.t 7)⟩,
  ⟨some 85, some (82, false), .bin .neq (.t 83) (.t 84)⟩,
  ⟨some 86, none, .pick (.t 82) (.c (.b true)) (.t 85)⟩]
def r7_14 : List O := [⟨some 6, none, .mov (.c (.b false))⟩]
def r7_15 : List O := [⟨some 87, none, .call (.f 22) []⟩,
  ⟨some 88, none, .mov (.t 87)⟩,
  ⟨some 89, some (88, true), .mov (.t 1)⟩,
  ⟨some 90, some (88, true), .mov (.t 2)⟩,
  ⟨some 91, some (88, true), .call (.f 37) [(.t 89), (.t 90)]⟩,
  ⟨some 92, some (88, true), .mov (.t 1)⟩,
  ⟨some 93, some (88, true), .mov (.t 2)⟩,
  ⟨some 94, some (88, true), .call (.f 38) [(.t 92), (.t 93)]⟩,
  ⟨some 95, some (88, true), .bin .eql (.t 91) (.t 94)⟩,
  ⟨some 96, none, .pick (.t 88) (.t 95) (.c (.b false))⟩,
  ⟨some 6, none, .mov (.t 96)⟩]
/-- sennet.sennetlaw04.RowsOffends -/
def a7 : FI := ⟨97, [.tmp 6], .seq (.ops r7_0) (.seq (.seq (.ops r7_1) (.cond (.t 26) (.seq (.ops r7_2) (.ret)) (.skip))) (.seq (.ops r7_3) (.seq (.ops r7_4) (.seq (.ops r7_5) (.seq (.ops r7_6) (.seq (.ops r7_7) (.seq (.seq (.ops r7_8) (.block 0 (.loop b7_0))) (.seq (.seq (.ops r7_13) (.cond (.t 86) (.seq (.ops r7_14) (.ret)) (.skip))) (.seq (.ops r7_15) (.ret))))))))))⟩
def r8_0 : List O := [⟨some 1, none, .box (.t 0)⟩,
  ⟨some 2, none, .mov (.c (.b false))⟩]
def r8_1 : List O := [⟨some 20, none, .fld 1 (.t 1)⟩,
  ⟨some 21, none, .ld (.t 20)⟩,
  ⟨some 22, none, .lenL (.t 21)⟩,
  ⟨some 23, none, .bin .gtr (.t 22) (.c (.i .i64 700))⟩]
def r8_2 : List O := [⟨some 24, none, .call (.f 22) []⟩,
  ⟨some 2, none, .mov (.t 24)⟩]
def r8_3 : List O := [⟨some 26, none, .ldn 2 (.t 1)⟩,
  ⟨some 27, none, .call (.f 23) [(.t 26)]⟩,
  ⟨some 25, none, .mov (.t 27)⟩,
  ⟨some 28, none, .ext (.t 25) 0⟩,
  ⟨some 29, none, .ext (.t 25) 1⟩,
  ⟨some 3, none, .alloc [.sn, .i .i64 0, .sn]⟩,
  ⟨none, none, .st 3 (.t 3) (.t 28)⟩,
  ⟨some 4, none, .mov (.t 29)⟩]
def r8_4 : List O := [⟨some 30, none, .mov (.t 4)⟩,
  ⟨some 31, none, .bin .neq (.t 30) (.c (.i .i64 0))⟩]
def r8_5 : List O := [⟨some 32, none, .call (.f 22) []⟩,
  ⟨some 33, none, .mov (.t 32)⟩,
  ⟨some 34, some (33, true), .fld 0 (.t 3)⟩,
  ⟨some 35, some (33, true), .ld (.t 34)⟩,
  ⟨some 36, some (33, true), .lenL (.t 35)⟩,
  ⟨some 37, some (33, true), .bin .eql (.t 36) (.c (.i .i64 0))⟩,
  ⟨some 38, none, .pick (.t 33) (.t 37) (.c (.b false))⟩,
  ⟨some 2, none, .mov (.t 38)⟩]
def r8_6 : List O := [⟨some 39, none, .ldn 2 (.t 1)⟩,
  ⟨some 40, none, .call (.f 39) [(.t 39)]⟩,
  ⟨some 5, none, .mov (.t 40)⟩]
def r8_7 : List O := [⟨some 42, none, .ldn 2 (.t 1)⟩,
  ⟨some 43, none, .call (.f 28) [(.t 42)]⟩,
  ⟨some 41, none, .mov (.t 43)⟩,
  ⟨some 44, none, .ext (.t 41) 0⟩,
  ⟨some 45, none, .ext (.t 41) 1⟩,
  ⟨some 6, none, .mov (.t 44)⟩,
  ⟨some 7, none, .mov (.t 45)⟩]
def r8_8 : List O := [⟨some 46, none, .mov (.t 7)⟩,
  ⟨some 47, none, .bin .neq (.t 46) (.c (.i .i64 0))⟩,
  ⟨some 48, none, .mov (.t 47)⟩,
  ⟨some 49, some (48, false), .fld 1 (.t 3)⟩,
  ⟨some 50, some (48, false), .ld (.t 49)⟩,
  ⟨some 51, some (48, false), .bin .eql (.t 50) (.c (.i .i64 0))⟩,
  ⟨some 52, some (48, false), .mov (.t 5)⟩,
  ⟨some 53, some (48, false), .lenL (.t 52)⟩,
  ⟨some 54, some (48, false), .bin .eql (.t 53) (.c (.i .i64 0))⟩,
  ⟨some 55, some (48, false), .eqv true (.bool) (.t 51) (.t 54)⟩,
  ⟨some 56, none, .pick (.t 48) (.c (.b true)) (.t 55)⟩,
  ⟨some 57, none, .mov (.t 56)⟩,
  ⟨some 58, some (57, false), .mov (.t 5)⟩,
  ⟨some 59, some (57, false), .lenL (.t 58)⟩,
  ⟨some 60, some (57, false), .bin .eql (.t 59) (.c (.i .i64 0))⟩,
  ⟨some 61, some (57, false), .mov (.t 60)⟩,
  ⟨some 62, some (61, true), .mov (.t 6)⟩,
  ⟨some 63, some (61, true), .lenL (.t 62)⟩,
  ⟨some 64, some (61, true), .bin .gtr (.t 63) (.c (.i .i64 0))⟩,
  ⟨some 65, some (57, false), .pick (.t 61) (.t 64) (.c (.b false))⟩,
  ⟨some 66, none, .pick (.t 57) (.c (.b true)) (.t 65)⟩,
  ⟨some 67, none, .mov (.t 66)⟩,
  ⟨some 68, some (67, false), .fld 2 (.t 3)⟩,
  ⟨some 69, some (67, false), .ld (.t 68)⟩,
  ⟨some 70, some (67, false), .lenL (.t 69)⟩,
  ⟨some 71, some (67, false), .mov (.t 5)⟩,
  ⟨some 72, some (67, false), .lenL (.t 71)⟩,
  ⟨some 73, some (67, false), .bin .neq (.t 70) (.t 72)⟩,
  ⟨some 74, none, .pick (.t 67) (.c (.b true)) (.t 73)⟩]
def r8_9 : List O := [⟨some 2, none, .mov (.c (.b false))⟩]
def r8_10 : List O := [⟨some 75, none, .mkMap⟩,
  ⟨some 8, none, .mov (.t 75)⟩]
def r8_11 : List O := [⟨some 76, none, .mov (.t 5)⟩,
  ⟨some 77, none, .lenL (.t 76)⟩,
  ⟨some 78, none, .mov (.c (.i .i64 0))⟩]
def r8_12 : List O := [⟨some 79, none, .bin .lss (.t 78) (.t 77)⟩]
def r8_13 : List O := [⟨some 80, none, .ixS 1 (.t 76) (.t 78)⟩,
  ⟨some 81, none, .ld (.t 80)⟩,
  ⟨some 10, none, .mov (.t 81)⟩]
def r8_14 : List O := [⟨some 82, none, .mov (.t 10)⟩,
  ⟨some 83, none, .lenL (.t 82)⟩,
  ⟨some 84, none, .mov (.c (.i .i64 0))⟩]
def r8_15 : List O := [⟨some 85, none, .bin .lss (.t 84) (.t 83)⟩]
def r8_16 : List O := [⟨some 86, none, .ixS 1 (.t 82) (.t 84)⟩,
  ⟨some 87, none, .ld (.t 86)⟩,
  ⟨some 12, none, .mov (.t 87)⟩]
def r8_17 : List O := [⟨some 88, none, .mov (.t 8)⟩,
  ⟨some 89, none, .mov (.t 12)⟩,
  ⟨none, none, .mapSet (.sc (.i .i64)) (.t 88) (.t 89) (.c (.b true))⟩]
def r8_18 : List O := [⟨some 90, none, .bin .add (.t 84) (.c (.i .i64 1))⟩,
  ⟨some 84, none, .mov (.t 90)⟩]
def b8_0 : C := .seq (.ops r8_15) (.seq (.cond (.t 85) (.skip) (.exit 2)) (.seq (.block 3 (.seq (.ops r8_16) (.ops r8_17))) (.ops r8_18)))
def r8_19 : List O := [⟨some 91, none, .bin .add (.t 78) (.c (.i .i64 1))⟩,
  ⟨some 78, none, .mov (.t 91)⟩]
def b8_1 : C := .seq (.ops r8_12) (.seq (.cond (.t 79) (.skip) (.exit 0)) (.seq (.block 1 (.seq (.ops r8_13) (.seq (.ops r8_14) (.block 2 (.loop b8_0))))) (.ops r8_19)))
def r8_20 : List O := [⟨some 93, none, .ldn 2 (.t 1)⟩,
  ⟨some 94, none, .fld 0 (.t 3)⟩,
  ⟨some 95, none, .ld (.t 94)⟩,
  ⟨some 96, none, .call (.f 34) [(.t 93), (.t 95)]⟩,
  ⟨some 92, none, .mov (.t 96)⟩,
  ⟨some 97, none, .ext (.t 92) 0⟩,
  ⟨some 98, none, .ext (.t 92) 1⟩,
  ⟨some 13, none, .mov (.t 97)⟩,
  ⟨some 14, none, .mov (.t 98)⟩]
def r8_21 : List O := [⟨some 99, none, .mkMap⟩,
  ⟨some 15, none, .mov (.t 99)⟩]
def r8_22 : List O := [⟨some 100, none, .mov (.t 13)⟩,
  ⟨some 101, none, .lenL (.t 100)⟩,
  ⟨some 102, none, .mov (.c (.i .i64 0))⟩]
def r8_23 : List O := [⟨some 103, none, .bin .lss (.t 102) (.t 101)⟩]
def r8_24 : List O := [⟨some 104, none, .ixS 3 (.t 100) (.t 102)⟩,
  ⟨some 105, none, .ldn 3 (.t 104)⟩,
  ⟨some 17, none, .alloc [.i .i64 0, .i .i64 0, .i .i64 0]⟩,
  ⟨none, none, .st 3 (.t 17) (.t 105)⟩]
def r8_25 : List O := [⟨some 106, none, .mov (.t 15)⟩,
  ⟨some 107, none, .fld 0 (.t 17)⟩,
  ⟨some 108, none, .ld (.t 107)⟩,
  ⟨none, none, .mapSet (.sc (.i .i64)) (.t 106) (.t 108) (.c (.b true))⟩]
def r8_26 : List O := [⟨some 109, none, .mov (.t 8)⟩,
  ⟨some 110, none, .fld 0 (.t 17)⟩,
  ⟨some 111, none, .ld (.t 110)⟩,
  ⟨some 112, none, .look (.sc (.i .i64)) (.b false) false (.t 109) (.t 111)⟩,
  ⟨some 113, none, .un .not (.t 112)⟩,
  ⟨some 114, none, .mov (.t 113)⟩,
  ⟨some 115, some (114, false), .mov (.t 8)⟩,
  ⟨some 116, some (114, false), .fld 1 (.t 17)⟩,
  ⟨some 117, some (114, false), .ld (.t 116)⟩,
  ⟨some 118, some (114, false), .look (.sc (.i .i64)) (.b false) false (.t 115) (.t 117)⟩,
  ⟨some 119, some (114, false), .un .not (.t 118)⟩,
  ⟨some 120, none, .pick (.t 114) (.c (.b true)) (.t 119)⟩]
def r8_27 : List O := [⟨some 2, none, .mov (.c (.b false))⟩]
def r8_28 : List O := [⟨some 121, none, .bin .add (.t 102) (.c (.i .i64 1))⟩,
  ⟨some 102, none, .mov (.t 121)⟩]
def b8_2 : C := .seq (.ops r8_23) (.seq (.cond (.t 103) (.skip) (.exit 4)) (.seq (.block 5 (.seq (.ops r8_24) (.seq (.ops r8_25) (.seq (.ops r8_26) (.cond (.t 120) (.seq (.ops r8_27) (.ret)) (.skip)))))) (.ops r8_28)))
def r8_29 : List O := [⟨some 122, none, .mov (.t 6)⟩,
  ⟨some 123, none, .lenL (.t 122)⟩,
  ⟨some 124, none, .mov (.c (.i .i64 0))⟩]
def r8_30 : List O := [⟨some 125, none, .bin .lss (.t 124) (.t 123)⟩]
def r8_31 : List O := [⟨some 126, none, .ixS 1 (.t 122) (.t 124)⟩,
  ⟨some 127, none, .ld (.t 126)⟩,
  ⟨some 19, none, .mov (.t 127)⟩]
def r8_32 : List O := [⟨some 128, none, .mov (.t 15)⟩,
  ⟨some 129, none, .mov (.t 19)⟩,
  ⟨some 130, none, .look (.sc (.i .i64)) (.b false) false (.t 128) (.t 129)⟩,
  ⟨some 131, none, .un .not (.t 130)⟩]
def r8_33 : List O := [⟨some 2, none, .mov (.c (.b false))⟩]
def r8_34 : List O := [⟨some 132, none, .bin .add (.t 124) (.c (.i .i64 1))⟩,
  ⟨some 124, none, .mov (.t 132)⟩]
def b8_3 : C := .seq (.ops r8_30) (.seq (.cond (.t 125) (.skip) (.exit 6)) (.seq (.block 7 (.seq (.ops r8_31) (.seq (.ops r8_32) (.cond (.t 131) (.seq (.ops r8_33) (.ret)) (.skip))))) (.ops r8_34)))
def r8_35 : List O := [⟨some 133, none, .call (.f 22) []⟩,
  ⟨some 134, none, .mov (.t 133)⟩,
  ⟨some 135, some (134, true), .mov (.t 14)⟩,
  ⟨some 136, some (134, true), .bin .eql (.t 135) (.c (.i .i64 0))⟩,
  ⟨some 137, none, .pick (.t 134) (.t 136) (.c (.b false))⟩,
  ⟨some 2, none, .mov (.t 137)⟩]
/-- sennet.sennetlaw04.RowsCircles -/
def a8 : FI := ⟨138, [.tmp 2], .seq (.ops r8_0) (.seq (.seq (.ops r8_1) (.cond (.t 23) (.seq (.ops r8_2) (.ret)) (.skip))) (.seq (.ops r8_3) (.seq (.seq (.ops r8_4) (.cond (.t 31) (.seq (.ops r8_5) (.ret)) (.skip))) (.seq (.ops r8_6) (.seq (.ops r8_7) (.seq (.seq (.ops r8_8) (.cond (.t 74) (.seq (.ops r8_9) (.ret)) (.skip))) (.seq (.ops r8_10) (.seq (.seq (.ops r8_11) (.block 0 (.loop b8_1))) (.seq (.ops r8_20) (.seq (.ops r8_21) (.seq (.seq (.ops r8_22) (.block 4 (.loop b8_2))) (.seq (.seq (.ops r8_29) (.block 6 (.loop b8_3))) (.seq (.ops r8_35) (.ret))))))))))))))⟩
def r9_0 : List O := [⟨some 2, none, .box (.t 0)⟩,
  ⟨some 4, none, .mov (.c (.b false))⟩]
def r9_1 : List O := [⟨some 20, none, .fld 1 (.t 2)⟩,
  ⟨some 21, none, .ld (.t 20)⟩,
  ⟨some 22, none, .lenL (.t 21)⟩,
  ⟨some 23, none, .bin .gtr (.t 22) (.c (.i .i64 700))⟩]
def r9_2 : List O := [⟨some 24, none, .call (.f 22) []⟩,
  ⟨some 4, none, .mov (.t 24)⟩]
def r9_3 : List O := [⟨some 26, none, .ldn 2 (.t 2)⟩,
  ⟨some 27, none, .call (.f 23) [(.t 26)]⟩,
  ⟨some 25, none, .mov (.t 27)⟩,
  ⟨some 28, none, .ext (.t 25) 0⟩,
  ⟨some 29, none, .ext (.t 25) 1⟩,
  ⟨some 5, none, .alloc [.sn, .i .i64 0, .sn]⟩,
  ⟨none, none, .st 3 (.t 5) (.t 28)⟩,
  ⟨some 6, none, .mov (.t 29)⟩]
def r9_4 : List O := [⟨some 31, none, .ldn 2 (.t 2)⟩,
  ⟨some 32, none, .mov (.t 1)⟩,
  ⟨some 33, none, .call (.f 26) [(.t 31), (.t 32)]⟩,
  ⟨some 30, none, .mov (.t 33)⟩,
  ⟨some 34, none, .ext (.t 30) 0⟩,
  ⟨some 35, none, .ext (.t 30) 1⟩,
  ⟨some 7, none, .alloc [.sn, .i .i64 0, .sn]⟩,
  ⟨none, none, .st 3 (.t 7) (.t 34)⟩,
  ⟨some 8, none, .mov (.t 35)⟩]
def r9_5 : List O := [⟨some 37, none, .ldn 2 (.t 2)⟩,
  ⟨some 38, none, .call (.f 28) [(.t 37)]⟩,
  ⟨some 36, none, .mov (.t 38)⟩,
  ⟨some 39, none, .ext (.t 36) 0⟩,
  ⟨some 40, none, .ext (.t 36) 1⟩,
  ⟨some 9, none, .mov (.t 39)⟩,
  ⟨some 10, none, .mov (.t 40)⟩]
def r9_6 : List O := [⟨some 41, none, .mov (.t 6)⟩,
  ⟨some 42, none, .bin .neq (.t 41) (.c (.i .i64 0))⟩,
  ⟨some 43, none, .mov (.t 42)⟩,
  ⟨some 44, some (43, false), .mov (.t 8)⟩,
  ⟨some 45, some (43, false), .bin .neq (.t 44) (.c (.i .i64 0))⟩,
  ⟨some 46, none, .pick (.t 43) (.c (.b true)) (.t 45)⟩,
  ⟨some 47, none, .mov (.t 46)⟩,
  ⟨some 48, some (47, false), .mov (.t 10)⟩,
  ⟨some 49, some (47, false), .bin .neq (.t 48) (.c (.i .i64 0))⟩,
  ⟨some 50, none, .pick (.t 47) (.c (.b true)) (.t 49)⟩]
def r9_7 : List O := [⟨some 51, none, .call (.f 22) []⟩,
  ⟨some 52, none, .mov (.t 51)⟩,
  ⟨some 53, some (52, true), .mov (.t 6)⟩,
  ⟨some 54, some (52, true), .bin .eql (.t 53) (.c (.i .i64 0))⟩,
  ⟨some 55, some (52, true), .mov (.t 54)⟩,
  ⟨some 56, some (55, false), .mov (.t 8)⟩,
  ⟨some 57, some (55, false), .bin .neq (.t 56) (.c (.i .i64 0))⟩,
  ⟨some 58, some (55, false), .mov (.t 57)⟩,
  ⟨some 59, some (58, true), .mov (.t 10)⟩,
  ⟨some 60, some (58, true), .mov (.t 6)⟩,
  ⟨some 61, some (58, true), .bin .eql (.t 59) (.t 60)⟩,
  ⟨some 62, some (55, false), .pick (.t 58) (.t 61) (.c (.b false))⟩,
  ⟨some 63, some (52, true), .pick (.t 55) (.c (.b true)) (.t 62)⟩,
  ⟨some 64, none, .pick (.t 52) (.t 63) (.c (.b false))⟩,
  ⟨some 4, none, .mov (.t 64)⟩]
def r9_8 : List O := [⟨some 66, none, .ldn 2 (.t 2)⟩,
  ⟨some 67, none, .fld 0 (.t 7)⟩,
  ⟨some 68, none, .ld (.t 67)⟩,
  ⟨some 69, none, .call (.f 32) [(.t 66), (.t 68)]⟩,
  ⟨some 65, none, .mov (.t 69)⟩,
  ⟨some 70, none, .ext (.t 65) 0⟩,
  ⟨some 71, none, .ext (.t 65) 1⟩,
  ⟨some 11, none, .mov (.t 70)⟩,
  ⟨some 12, none, .mov (.t 71)⟩]
def r9_9 : List O := [⟨some 73, none, .ldn 2 (.t 2)⟩,
  ⟨some 74, none, .fld 0 (.t 7)⟩,
  ⟨some 75, none, .ld (.t 74)⟩,
  ⟨some 76, none, .call (.f 34) [(.t 73), (.t 75)]⟩,
  ⟨some 72, none, .mov (.t 76)⟩,
  ⟨some 77, none, .ext (.t 72) 0⟩,
  ⟨some 78, none, .ext (.t 72) 1⟩,
  ⟨some 13, none, .mov (.t 77)⟩,
  ⟨some 14, none, .mov (.t 78)⟩]
def r9_10 : List O := [⟨some 79, none, .mov (.t 13)⟩,
  ⟨some 80, none, .lenL (.t 79)⟩,
  ⟨some 81, none, .mov (.c (.i .i64 0))⟩]
def r9_11 : List O := [⟨some 82, none, .bin .lss (.t 81) (.t 80)⟩]
def r9_12 : List O := [⟨some 83, none, .ixS 3 (.t 79) (.t 81)⟩,
  ⟨some 84, none, .ldn 3 (.t 83)⟩,
  ⟨some 16, none, .alloc [.i .i64 0, .i .i64 0, .i .i64 0]⟩,
  ⟨none, none, .st 3 (.t 16) (.t 84)⟩]
def r9_13 : List O := [⟨some 85, none, .fld 0 (.t 16)⟩,
  ⟨some 86, none, .ld (.t 85)⟩,
  ⟨some 87, none, .mov (.t 1)⟩,
  ⟨some 88, none, .bin .eql (.t 86) (.t 87)⟩]
def r9_14 : List O := [⟨some 4, none, .mov (.c (.b false))⟩]
def r9_15 : List O := [⟨some 89, none, .bin .add (.t 81) (.c (.i .i64 1))⟩,
  ⟨some 81, none, .mov (.t 89)⟩]
def b9_0 : C := .seq (.ops r9_11) (.seq (.cond (.t 82) (.skip) (.exit 0)) (.seq (.block 1 (.seq (.ops r9_12) (.seq (.ops r9_13) (.cond (.t 88) (.seq (.ops r9_14) (.ret)) (.skip))))) (.ops r9_15)))
def r9_16 : List O := [⟨some 17, none, .mov (.c (.b false))⟩]
def r9_17 : List O := [⟨some 90, none, .mov (.t 9)⟩,
  ⟨some 91, none, .lenL (.t 90)⟩,
  ⟨some 92, none, .mov (.c (.i .i64 0))⟩]
def r9_18 : List O := [⟨some 93, none, .bin .lss (.t 92) (.t 91)⟩]
def r9_19 : List O := [⟨some 94, none, .ixS 1 (.t 90) (.t 92)⟩,
  ⟨some 95, none, .ld (.t 94)⟩,
  ⟨some 19, none, .mov (.t 95)⟩]
def r9_20 : List O := [⟨some 96, none, .mov (.t 17)⟩,
  ⟨some 97, none, .mov (.t 96)⟩,
  ⟨some 98, some (97, false), .mov (.t 19)⟩,
  ⟨some 99, some (97, false), .mov (.t 1)⟩,
  ⟨some 100, some (97, false), .bin .eql (.t 98) (.t 99)⟩,
  ⟨some 101, none, .pick (.t 97) (.c (.b true)) (.t 100)⟩,
  ⟨some 17, none, .mov (.t 101)⟩]
def r9_21 : List O := [⟨some 102, none, .bin .add (.t 92) (.c (.i .i64 1))⟩,
  ⟨some 92, none, .mov (.t 102)⟩]
def b9_1 : C := .seq (.ops r9_18) (.seq (.cond (.t 93) (.skip) (.exit 2)) (.seq (.block 3 (.seq (.ops r9_19) (.ops r9_20))) (.ops r9_21)))
def r9_22 : List O := [⟨some 103, none, .call (.f 22) []⟩,
  ⟨some 104, none, .mov (.t 103)⟩,
  ⟨some 105, some (104, true), .mov (.t 12)⟩,
  ⟨some 106, some (104, true), .bin .eql (.t 105) (.c (.i .i64 0))⟩,
  ⟨some 107, none, .pick (.t 104) (.t 106) (.c (.b false))⟩,
  ⟨some 108, none, .mov (.t 107)⟩,
  ⟨some 109, some (108, true), .mov (.t 14)⟩,
  ⟨some 110, some (108, true), .bin .eql (.t 109) (.c (.i .i64 0))⟩,
  ⟨some 111, none, .pick (.t 108) (.t 110) (.c (.b false))⟩,
  ⟨some 112, none, .mov (.t 111)⟩,
  ⟨some 113, some (112, true), .mov (.t 11)⟩,
  ⟨some 114, some (112, true), .fld 1 (.t 7)⟩,
  ⟨some 115, some (112, true), .ld (.t 114)⟩,
  ⟨some 116, some (112, true), .bin .eql (.t 113) (.t 115)⟩,
  ⟨some 117, none, .pick (.t 112) (.t 116) (.c (.b false))⟩,
  ⟨some 118, none, .mov (.t 117)⟩,
  ⟨some 119, some (118, true), .fld 2 (.t 7)⟩,
  ⟨some 120, some (118, true), .ld (.t 119)⟩,
  ⟨some 121, some (118, true), .lenL (.t 120)⟩,
  ⟨some 122, some (118, true), .bin .eql (.t 121) (.c (.i .i64 0))⟩,
  ⟨some 123, none, .pick (.t 118) (.t 122) (.c (.b false))⟩,
  ⟨some 124, none, .mov (.t 123)⟩,
  ⟨some 125, some (124, true), .mov (.t 17)⟩,
  ⟨some 126, some (124, true), .fld 1 (.t 7)⟩,
  ⟨some 127, some (124, true), .ld (.t 126)⟩,
  ⟨some 128, some (124, true), .fld 1 (.t 5)⟩,
  ⟨some 129, some (124, true), .ld (.t 128)⟩,
  ⟨some 130, some (124, true), .bin .gtr (.t 127) (.t 129)⟩,
  ⟨some 131, some (124, true), .eqv false (.bool) (.t 125) (.t 130)⟩,
  ⟨some 132, none, .pick (.t 124) (.t 131) (.c (.b false))⟩,
  ⟨some 133, none, .mov (.t 132)⟩,
  ⟨some 134, some (133, true), .fld 1 (.t 7)⟩,
  ⟨some 135, some (133, true), .ld (.t 134)⟩,
  ⟨some 136, some (133, true), .fld 1 (.t 5)⟩,
  ⟨some 137, some (133, true), .ld (.t 136)⟩,
  ⟨some 138, some (133, true), .bin .geq (.t 135) (.t 137)⟩,
  ⟨some 139, none, .pick (.t 133) (.t 138) (.c (.b false))⟩,
  ⟨some 4, none, .mov (.t 139)⟩]
/-- sennet.sennetlaw04.RowsMust -/
def a9 : FI := ⟨140, [.tmp 4], .seq (.ops r9_0) (.seq (.seq (.ops r9_1) (.cond (.t 23) (.seq (.ops r9_2) (.ret)) (.skip))) (.seq (.ops r9_3) (.seq (.ops r9_4) (.seq (.ops r9_5) (.seq (.seq (.ops r9_6) (.cond (.t 50) (.seq (.ops r9_7) (.ret)) (.skip))) (.seq (.ops r9_8) (.seq (.ops r9_9) (.seq (.seq (.ops r9_10) (.block 0 (.loop b9_0))) (.seq (.ops r9_16) (.seq (.seq (.ops r9_17) (.block 2 (.loop b9_1))) (.seq (.ops r9_22) (.ret))))))))))))⟩
def r10_0 : List O := [⟨some 2, none, .box (.t 0)⟩,
  ⟨some 4, none, .mov (.c (.b false))⟩]
def r10_1 : List O := [⟨some 9, none, .ldn 2 (.t 2)⟩,
  ⟨some 10, none, .call (.f 21) [(.t 9), (.c (.i .i64 10))]⟩,
  ⟨some 11, none, .un .not (.t 10)⟩,
  ⟨some 12, none, .mov (.t 11)⟩,
  ⟨some 13, some (12, false), .mov (.t 1)⟩,
  ⟨some 14, some (12, false), .lenL (.t 13)⟩,
  ⟨some 15, some (12, false), .bin .gtr (.t 14) (.c (.i .i64 60))⟩,
  ⟨some 16, none, .pick (.t 12) (.c (.b true)) (.t 15)⟩]
def r10_2 : List O := [⟨some 17, none, .call (.f 22) []⟩,
  ⟨some 4, none, .mov (.t 17)⟩]
def r10_3 : List O := [⟨some 19, none, .ldn 2 (.t 2)⟩,
  ⟨some 20, none, .mov (.t 1)⟩,
  ⟨some 21, none, .call (.f 40) [(.t 19), (.t 20)]⟩,
  ⟨some 18, none, .mov (.t 21)⟩,
  ⟨some 22, none, .ext (.t 18) 0⟩,
  ⟨some 23, none, .ext (.t 18) 1⟩,
  ⟨some 5, none, .mov (.t 22)⟩,
  ⟨some 6, none, .mov (.t 23)⟩]
def r10_4 : List O := [⟨some 25, none, .ldn 2 (.t 2)⟩,
  ⟨some 26, none, .mov (.t 1)⟩,
  ⟨some 27, none, .call (.f 41) [(.t 25), (.t 26)]⟩,
  ⟨some 24, none, .mov (.t 27)⟩,
  ⟨some 28, none, .ext (.t 24) 0⟩,
  ⟨some 29, none, .ext (.t 24) 1⟩,
  ⟨some 7, none, .mov (.t 28)⟩,
  ⟨some 8, none, .mov (.t 29)⟩]
def r10_5 : List O := [⟨some 30, none, .call (.f 22) []⟩,
  ⟨some 31, none, .mov (.t 30)⟩,
  ⟨some 32, some (31, true), .mov (.t 5)⟩,
  ⟨some 33, some (31, true), .mov (.t 7)⟩,
  ⟨some 34, some (31, true), .eqv false (.bool) (.t 32) (.t 33)⟩,
  ⟨some 35, none, .pick (.t 31) (.t 34) (.c (.b false))⟩,
  ⟨some 36, none, .mov (.t 35)⟩,
  ⟨some 37, some (36, true), .mov (.t 6)⟩,
  ⟨some 38, some (36, true), .mov (.t 8)⟩,
  ⟨some 39, some (36, true), .bin .eql (.t 37) (.t 38)⟩,
  ⟨some 40, none, .pick (.t 36) (.t 39) (.c (.b false))⟩,
  ⟨some 4, none, .mov (.t 40)⟩]
/-- sennet.sennetlaw04.RowsBest -/
def a10 : FI := ⟨41, [.tmp 4], .seq (.ops r10_0) (.seq (.seq (.ops r10_1) (.cond (.t 16) (.seq (.ops r10_2) (.ret)) (.skip))) (.seq (.ops r10_3) (.seq (.ops r10_4) (.seq (.ops r10_5) (.ret)))))⟩
def r11_0 : List O := [⟨some 7, none, .box (.t 3)⟩,
  ⟨some 8, none, .mov (.c (.b false))⟩]
def r11_1 : List O := [⟨some 18, none, .mov (.t 0)⟩,
  ⟨some 19, none, .mov (.t 1)⟩,
  ⟨some 20, none, .mov (.t 2)⟩,
  ⟨some 21, none, .call (.f 42) [(.t 18), (.t 19), (.t 20)]⟩,
  ⟨some 17, none, .mov (.t 21)⟩,
  ⟨some 22, none, .ext (.t 17) 0⟩,
  ⟨some 23, none, .ext (.t 17) 1⟩,
  ⟨some 9, none, .mov (.t 22)⟩,
  ⟨some 10, none, .mov (.t 23)⟩]
def r11_2 : List O := [⟨some 25, none, .mov (.t 0)⟩,
  ⟨some 26, none, .mov (.t 1)⟩,
  ⟨some 27, none, .mov (.t 2)⟩,
  ⟨some 28, none, .call (.f 43) [(.t 25), (.t 26), (.t 27)]⟩,
  ⟨some 24, none, .mov (.t 28)⟩,
  ⟨some 29, none, .ext (.t 24) 0⟩,
  ⟨some 30, none, .ext (.t 24) 1⟩,
  ⟨some 11, none, .mov (.t 29)⟩,
  ⟨some 12, none, .mov (.t 30)⟩]
def r11_3 : List O := [⟨some 32, none, .mov (.t 0)⟩,
  ⟨some 33, none, .mov (.t 1)⟩,
  ⟨some 34, none, .mov (.t 2)⟩,
  ⟨some 35, none, .ldn 2 (.t 7)⟩,
  ⟨some 36, none, .call (.f 44) [(.t 32), (.t 33), (.t 34), (.t 35)]⟩,
  ⟨some 31, none, .mov (.t 36)⟩,
  ⟨some 37, none, .ext (.t 31) 0⟩,
  ⟨some 38, none, .ext (.t 31) 1⟩,
  ⟨some 13, none, .mov (.t 37)⟩,
  ⟨some 14, none, .mov (.t 38)⟩]
def r11_4 : List O := [⟨some 40, none, .mov (.t 0)⟩,
  ⟨some 41, none, .mov (.t 1)⟩,
  ⟨some 42, none, .mov (.t 2)⟩,
  ⟨some 43, none, .ldn 2 (.t 7)⟩,
  ⟨some 44, none, .call (.f 45) [(.t 40), (.t 41), (.t 42), (.t 43)]⟩,
  ⟨some 39, none, .mov (.t 44)⟩,
  ⟨some 45, none, .ext (.t 39) 0⟩,
  ⟨some 46, none, .ext (.t 39) 1⟩,
  ⟨some 15, none, .mov (.t 45)⟩,
  ⟨some 16, none, .mov (.t 46)⟩]
def r11_5 : List O := [⟨some 47, none, .call (.f 22) []⟩,
  ⟨some 48, none, .mov (.t 47)⟩,
  ⟨some 49, some (48, true), .mov (.t 10)⟩,
  ⟨some 50, some (48, true), .mov (.t 12)⟩,
  ⟨some 51, some (48, true), .bin .eql (.t 49) (.t 50)⟩,
  ⟨some 52, none, .pick (.t 48) (.t 51) (.c (.b false))⟩,
  ⟨some 53, none, .mov (.t 52)⟩,
  ⟨some 54, some (53, true), .mov (.t 9)⟩,
  ⟨some 55, some (53, true), .mov (.t 11)⟩,
  ⟨some 56, some (53, true), .call (.f 46) [(.t 54), (.t 55)]⟩,
  ⟨some 57, none, .pick (.t 53) (.t 56) (.c (.b false))⟩,
  ⟨some 58, none, .mov (.t 57)⟩,
  ⟨some 59, some (58, true), .mov (.t 13)⟩,
  ⟨some 60, some (58, true), .mov (.t 15)⟩,
  ⟨some 61, some (58, true), .bin .eql (.t 59) (.t 60)⟩,
  ⟨some 62, none, .pick (.t 58) (.t 61) (.c (.b false))⟩,
  ⟨some 63, none, .mov (.t 62)⟩,
  ⟨some 64, some (63, true), .mov (.t 14)⟩,
  ⟨some 65, some (63, true), .mov (.t 16)⟩,
  ⟨some 66, some (63, true), .bin .eql (.t 64) (.t 65)⟩,
  ⟨some 67, none, .pick (.t 63) (.t 66) (.c (.b false))⟩,
  ⟨some 8, none, .mov (.t 67)⟩]
/-- sennet.sennetlaw04.RowsSpots -/
def a11 : FI := ⟨68, [.tmp 8], .seq (.ops r11_0) (.seq (.ops r11_1) (.seq (.ops r11_2) (.seq (.ops r11_3) (.seq (.ops r11_4) (.seq (.ops r11_5) (.ret))))))⟩
def r12_0 : List O := [⟨some 2, none, .mov (.c (.b false))⟩]
def r12_1 : List O := [⟨some 4, none, .mov (.t 0)⟩,
  ⟨some 5, none, .lenL (.t 4)⟩,
  ⟨some 6, none, .bin .gtr (.t 5) (.c (.i .i64 100))⟩]
def r12_2 : List O := [⟨some 7, none, .call (.f 22) []⟩,
  ⟨some 2, none, .mov (.t 7)⟩]
def r12_3 : List O := [⟨some 8, none, .mov (.t 0)⟩,
  ⟨some 9, none, .call (.f 47) [(.t 8)]⟩,
  ⟨some 3, none, .mov (.t 9)⟩]
def r12_4 : List O := [⟨some 10, none, .call (.f 22) []⟩,
  ⟨some 11, none, .mov (.t 10)⟩,
  ⟨some 12, some (11, true), .mov (.t 3)⟩,
  ⟨some 13, some (11, true), .mov (.t 0)⟩,
  ⟨some 14, some (11, true), .call (.f 48) [(.t 13)]⟩,
  ⟨some 15, some (11, true), .call (.f 46) [(.t 12), (.t 14)]⟩,
  ⟨some 16, none, .pick (.t 11) (.t 15) (.c (.b false))⟩,
  ⟨some 17, none, .mov (.t 16)⟩,
  ⟨some 18, some (17, true), .mov (.t 3)⟩,
  ⟨some 19, some (17, true), .call (.f 47) [(.t 18)]⟩,
  ⟨some 20, some (17, true), .mov (.t 0)⟩,
  ⟨some 21, some (17, true), .call (.f 46) [(.t 19), (.t 20)]⟩,
  ⟨some 22, none, .pick (.t 17) (.t 21) (.c (.b false))⟩,
  ⟨some 2, none, .mov (.t 22)⟩]
/-- sennet.sennetlaw04.RowsMirrors -/
def a12 : FI := ⟨23, [.tmp 2], .seq (.ops r12_0) (.seq (.seq (.ops r12_1) (.cond (.t 6) (.seq (.ops r12_2) (.ret)) (.skip))) (.seq (.ops r12_3) (.seq (.ops r12_4) (.ret))))⟩
def r13_0 : List O := [⟨some 2, none, .box (.t 0)⟩,
  ⟨some 4, none, .mov (.c (.b false))⟩]
def r13_1 : List O := [⟨some 9, none, .fld 1 (.t 2)⟩,
  ⟨some 10, none, .ld (.t 9)⟩,
  ⟨some 11, none, .lenL (.t 10)⟩,
  ⟨some 12, none, .bin .gtr (.t 11) (.c (.i .i64 700))⟩,
  ⟨some 13, none, .mov (.t 12)⟩,
  ⟨some 14, some (13, false), .mov (.t 1)⟩,
  ⟨some 15, some (13, false), .lenL (.t 14)⟩,
  ⟨some 16, some (13, false), .bin .gtr (.t 15) (.c (.i .i64 60))⟩,
  ⟨some 17, none, .pick (.t 13) (.c (.b true)) (.t 16)⟩]
def r13_2 : List O := [⟨some 18, none, .call (.f 22) []⟩,
  ⟨some 4, none, .mov (.t 18)⟩]
def r13_3 : List O := [⟨some 20, none, .ldn 2 (.t 2)⟩,
  ⟨some 21, none, .mov (.t 1)⟩,
  ⟨some 22, none, .call (.f 49) [(.t 20), (.t 21)]⟩,
  ⟨some 19, none, .mov (.t 22)⟩,
  ⟨some 23, none, .ext (.t 19) 0⟩,
  ⟨some 24, none, .ext (.t 19) 1⟩,
  ⟨some 5, none, .mov (.t 23)⟩,
  ⟨some 6, none, .mov (.t 24)⟩]
def r13_4 : List O := [⟨some 26, none, .ldn 2 (.t 2)⟩,
  ⟨some 27, none, .mov (.t 1)⟩,
  ⟨some 28, none, .call (.f 50) [(.t 26), (.t 27)]⟩,
  ⟨some 25, none, .mov (.t 28)⟩,
  ⟨some 29, none, .ext (.t 25) 0⟩,
  ⟨some 30, none, .ext (.t 25) 1⟩,
  ⟨some 7, none, .mov (.t 29)⟩,
  ⟨some 8, none, .mov (.t 30)⟩]
def r13_5 : List O := [⟨some 31, none, .call (.f 22) []⟩,
  ⟨some 32, none, .mov (.t 31)⟩,
  ⟨some 33, some (32, true), .mov (.t 6)⟩,
  ⟨some 34, some (32, true), .mov (.t 8)⟩,
  ⟨some 35, some (32, true), .bin .eql (.t 33) (.t 34)⟩,
  ⟨some 36, none, .pick (.t 32) (.t 35) (.c (.b false))⟩,
  ⟨some 37, none, .mov (.t 36)⟩,
  ⟨some 38, some (37, true), .mov (.t 5)⟩,
  ⟨some 39, some (37, true), .mov (.t 7)⟩,
  ⟨some 40, some (37, true), .call (.f 30) [(.t 38), (.t 39)]⟩,
  ⟨some 41, none, .pick (.t 37) (.t 40) (.c (.b false))⟩,
  ⟨some 4, none, .mov (.t 41)⟩]
/-- sennet.sennetlaw04.RowsSorts -/
def a13 : FI := ⟨42, [.tmp 4], .seq (.ops r13_0) (.seq (.seq (.ops r13_1) (.cond (.t 17) (.seq (.ops r13_2) (.ret)) (.skip))) (.seq (.ops r13_3) (.seq (.ops r13_4) (.seq (.ops r13_5) (.ret)))))⟩
def r14_0 : List O := [⟨some 3, none, .box (.t 0)⟩,
  ⟨some 6, none, .mov (.c (.b false))⟩]
def r14_1 : List O := [⟨some 18, none, .fld 1 (.t 3)⟩,
  ⟨some 19, none, .ld (.t 18)⟩,
  ⟨some 20, none, .lenL (.t 19)⟩,
  ⟨some 21, none, .bin .gtr (.t 20) (.c (.i .i64 700))⟩,
  ⟨some 22, none, .mov (.t 21)⟩,
  ⟨some 23, some (22, false), .mov (.t 1)⟩,
  ⟨some 24, some (22, false), .lenL (.t 23)⟩,
  ⟨some 25, some (22, false), .bin .gtr (.t 24) (.c (.i .i64 60))⟩,
  ⟨some 26, none, .pick (.t 22) (.c (.b true)) (.t 25)⟩]
def r14_2 : List O := [⟨some 27, none, .call (.f 22) []⟩,
  ⟨some 6, none, .mov (.t 27)⟩]
def r14_3 : List O := [⟨some 29, none, .ldn 2 (.t 3)⟩,
  ⟨some 30, none, .mov (.t 1)⟩,
  ⟨some 31, none, .call (.f 49) [(.t 29), (.t 30)]⟩,
  ⟨some 28, none, .mov (.t 31)⟩,
  ⟨some 32, none, .ext (.t 28) 0⟩,
  ⟨some 33, none, .ext (.t 28) 1⟩,
  ⟨some 7, none, .mov (.t 32)⟩,
  ⟨some 8, none, .mov (.t 33)⟩]
def r14_4 : List O := [⟨some 35, none, .ldn 2 (.t 3)⟩,
  ⟨some 36, none, .mov (.t 1)⟩,
  ⟨some 37, none, .call (.f 32) [(.t 35), (.t 36)]⟩,
  ⟨some 34, none, .mov (.t 37)⟩,
  ⟨some 38, none, .ext (.t 34) 0⟩,
  ⟨some 39, none, .ext (.t 34) 1⟩,
  ⟨some 9, none, .mov (.t 38)⟩,
  ⟨some 10, none, .mov (.t 39)⟩]
def r14_5 : List O := [⟨some 40, none, .mov (.t 8)⟩,
  ⟨some 41, none, .mov (.t 10)⟩,
  ⟨some 42, none, .bin .neq (.t 40) (.t 41)⟩]
def r14_6 : List O := [⟨some 6, none, .mov (.c (.b false))⟩]
def r14_7 : List O := [⟨some 43, none, .mov (.t 8)⟩,
  ⟨some 44, none, .bin .neq (.t 43) (.c (.i .i64 0))⟩]
def r14_8 : List O := [⟨some 45, none, .call (.f 22) []⟩,
  ⟨some 46, none, .mov (.t 45)⟩,
  ⟨some 47, some (46, true), .mov (.t 7)⟩,
  ⟨some 48, some (46, true), .lenL (.t 47)⟩,
  ⟨some 49, some (46, true), .bin .eql (.t 48) (.c (.i .i64 0))⟩,
  ⟨some 50, none, .pick (.t 46) (.t 49) (.c (.b false))⟩,
  ⟨some 6, none, .mov (.t 50)⟩]
def r14_9 : List O := [⟨some 52, none, .ldn 2 (.t 3)⟩,
  ⟨some 53, none, .mov (.t 7)⟩,
  ⟨some 54, none, .call (.f 32) [(.t 52), (.t 53)]⟩,
  ⟨some 51, none, .mov (.t 54)⟩,
  ⟨some 55, none, .ext (.t 51) 0⟩,
  ⟨some 56, none, .ext (.t 51) 1⟩,
  ⟨some 11, none, .mov (.t 55)⟩,
  ⟨some 12, none, .mov (.t 56)⟩]
def r14_10 : List O := [⟨some 58, none, .ldn 2 (.t 3)⟩,
  ⟨some 59, none, .mov (.t 7)⟩,
  ⟨some 60, none, .call (.f 49) [(.t 58), (.t 59)]⟩,
  ⟨some 57, none, .mov (.t 60)⟩,
  ⟨some 61, none, .ext (.t 57) 0⟩,
  ⟨some 62, none, .ext (.t 57) 1⟩,
  ⟨some 13, none, .mov (.t 61)⟩,
  ⟨some 14, none, .mov (.t 62)⟩]
def r14_11 : List O := [⟨some 63, none, .mov (.t 12)⟩,
  ⟨some 64, none, .bin .neq (.t 63) (.c (.i .i64 0))⟩,
  ⟨some 65, none, .mov (.t 64)⟩,
  ⟨some 66, some (65, false), .mov (.t 11)⟩,
  ⟨some 67, some (65, false), .mov (.t 9)⟩,
  ⟨some 68, some (65, false), .bin .gtr (.t 66) (.t 67)⟩,
  ⟨some 69, none, .pick (.t 65) (.c (.b true)) (.t 68)⟩,
  ⟨some 70, none, .mov (.t 69)⟩,
  ⟨some 71, some (70, false), .mov (.t 14)⟩,
  ⟨some 72, some (70, false), .bin .neq (.t 71) (.c (.i .i64 0))⟩,
  ⟨some 73, none, .pick (.t 70) (.c (.b true)) (.t 72)⟩,
  ⟨some 74, none, .mov (.t 73)⟩,
  ⟨some 75, some (74, false), .mov (.t 13)⟩,
  ⟨some 76, some (74, false), .mov (.t 7)⟩,
  ⟨some 77, some (74, false), .call (.f 30) [(.t 75), (.t 76)]⟩,
  ⟨some 78, some (74, false), .un .not (.t 77)⟩,
  ⟨some 79, none, .pick (.t 74) (.c (.b true)) (.t 78)⟩]
def r14_12 : List O := [⟨some 6, none, .mov (.c (.b false))⟩]
def r14_13 : List O := [⟨some 80, none, .mov (.t 11)⟩,
  ⟨some 81, none, .mov (.t 9)⟩,
  ⟨some 82, none, .bin .eql (.t 80) (.t 81)⟩,
  ⟨some 83, none, .mov (.t 82)⟩,
  ⟨some 84, some (83, true), .mov (.t 7)⟩,
  ⟨some 85, some (83, true), .mov (.t 1)⟩,
  ⟨some 86, some (83, true), .call (.f 30) [(.t 84), (.t 85)]⟩,
  ⟨some 87, some (83, true), .un .not (.t 86)⟩,
  ⟨some 88, none, .pick (.t 83) (.t 87) (.c (.b false))⟩]
def r14_14 : List O := [⟨some 6, none, .mov (.c (.b false))⟩]
def r14_15 : List O := [⟨some 89, none, .mov (.t 2)⟩,
  ⟨some 90, none, .bin .lss (.t 89) (.c (.i .i64 0))⟩,
  ⟨some 91, none, .mov (.t 90)⟩,
  ⟨some 92, some (91, false), .mov (.t 2)⟩,
  ⟨some 93, some (91, false), .mov (.t 7)⟩,
  ⟨some 94, some (91, false), .lenL (.t 93)⟩,
  ⟨some 95, some (91, false), .bin .sub (.t 94) (.c (.i .i64 1))⟩,
  ⟨some 96, some (91, false), .bin .geq (.t 92) (.t 95)⟩,
  ⟨some 97, none, .pick (.t 91) (.c (.b true)) (.t 96)⟩]
def r14_16 : List O := [⟨some 98, none, .call (.f 22) []⟩,
  ⟨some 6, none, .mov (.t 98)⟩]
def r14_17 : List O := [⟨some 99, none, .buildSl [] 0 []⟩,
  ⟨some 100, none, .mov (.t 7)⟩,
  ⟨some 101, none, .app 1 8 (.t 99) (.t 100)⟩,
  ⟨some 15, none, .mov (.t 101)⟩]
def r14_18 : List O := [⟨some 102, none, .mov (.t 15)⟩,
  ⟨some 103, none, .mov (.t 2)⟩,
  ⟨some 104, none, .mov (.t 7)⟩,
  ⟨some 105, none, .mov (.t 2)⟩,
  ⟨some 106, none, .bin .add (.t 105) (.c (.i .i64 1))⟩,
  ⟨some 107, none, .ixS 1 (.t 104) (.t 106)⟩,
  ⟨some 108, none, .ld (.t 107)⟩,
  ⟨some 109, none, .ixS 1 (.t 102) (.t 103)⟩,
  ⟨none, none, .st 1 (.t 109) (.t 108)⟩]
def r14_19 : List O := [⟨some 110, none, .mov (.t 15)⟩,
  ⟨some 111, none, .mov (.t 2)⟩,
  ⟨some 112, none, .bin .add (.t 111) (.c (.i .i64 1))⟩,
  ⟨some 113, none, .mov (.t 7)⟩,
  ⟨some 114, none, .mov (.t 2)⟩,
  ⟨some 115, none, .ixS 1 (.t 113) (.t 114)⟩,
  ⟨some 116, none, .ld (.t 115)⟩,
  ⟨some 117, none, .ixS 1 (.t 110) (.t 112)⟩,
  ⟨none, none, .st 1 (.t 117) (.t 116)⟩]
def r14_20 : List O := [⟨some 119, none, .ldn 2 (.t 3)⟩,
  ⟨some 120, none, .mov (.t 15)⟩,
  ⟨some 121, none, .call (.f 32) [(.t 119), (.t 120)]⟩,
  ⟨some 118, none, .mov (.t 121)⟩,
  ⟨some 122, none, .ext (.t 118) 0⟩,
  ⟨some 123, none, .ext (.t 118) 1⟩,
  ⟨some 16, none, .mov (.t 122)⟩,
  ⟨some 17, none, .mov (.t 123)⟩]
def r14_21 : List O := [⟨some 124, none, .call (.f 22) []⟩,
  ⟨some 125, none, .mov (.t 124)⟩,
  ⟨some 126, some (125, true), .mov (.t 17)⟩,
  ⟨some 127, some (125, true), .bin .eql (.t 126) (.c (.i .i64 0))⟩,
  ⟨some 128, none, .pick (.t 125) (.t 127) (.c (.b false))⟩,
  ⟨some 129, none, .mov (.t 128)⟩,
  ⟨some 130, some (129, true), .mov (.t 16)⟩,
  ⟨some 131, some (129, true), .mov (.t 11)⟩,
  ⟨some 132, some (129, true), .bin .geq (.t 130) (.t 131)⟩,
  ⟨some 133, none, .pick (.t 129) (.t 132) (.c (.b false))⟩,
  ⟨some 6, none, .mov (.t 133)⟩]
/-- sennet.sennetlaw04.RowsSorting -/
def a14 : FI := ⟨134, [.tmp 6], .seq (.ops r14_0) (.seq (.seq (.ops r14_1) (.cond (.t 26) (.seq (.ops r14_2) (.ret)) (.skip))) (.seq (.ops r14_3) (.seq (.ops r14_4) (.seq (.seq (.ops r14_5) (.cond (.t 42) (.seq (.ops r14_6) (.ret)) (.skip))) (.seq (.seq (.ops r14_7) (.cond (.t 44) (.seq (.ops r14_8) (.ret)) (.skip))) (.seq (.ops r14_9) (.seq (.ops r14_10) (.seq (.seq (.ops r14_11) (.cond (.t 79) (.seq (.ops r14_12) (.ret)) (.skip))) (.seq (.seq (.ops r14_13) (.cond (.t 88) (.seq (.ops r14_14) (.ret)) (.skip))) (.seq (.seq (.ops r14_15) (.cond (.t 97) (.seq (.ops r14_16) (.ret)) (.skip))) (.seq (.ops r14_17) (.seq (.ops r14_18) (.seq (.ops r14_19) (.seq (.ops r14_20) (.seq (.ops r14_21) (.ret))))))))))))))))⟩
def r15_0 : List O := [⟨some 6, none, .mov (.c (.b false))⟩]
def r15_1 : List O := [⟨some 17, none, .mov (.t 0)⟩,
  ⟨some 18, none, .mov (.t 1)⟩,
  ⟨some 19, none, .mov (.t 2)⟩,
  ⟨some 20, none, .call (.f 42) [(.t 17), (.t 18), (.t 19)]⟩,
  ⟨some 16, none, .mov (.t 20)⟩,
  ⟨some 21, none, .ext (.t 16) 0⟩,
  ⟨some 22, none, .ext (.t 16) 1⟩,
  ⟨some 7, none, .mov (.t 21)⟩,
  ⟨some 8, none, .mov (.t 22)⟩]
def r15_2 : List O := [⟨some 23, none, .mov (.t 8)⟩,
  ⟨some 24, none, .bin .neq (.t 23) (.c (.i .i64 0))⟩]
def r15_3 : List O := [⟨some 25, none, .call (.f 22) []⟩,
  ⟨some 26, none, .mov (.t 25)⟩,
  ⟨some 27, some (26, true), .mov (.t 7)⟩,
  ⟨some 28, some (26, true), .lenL (.t 27)⟩,
  ⟨some 29, some (26, true), .bin .eql (.t 28) (.c (.i .i64 0))⟩,
  ⟨some 30, none, .pick (.t 26) (.t 29) (.c (.b false))⟩,
  ⟨some 6, none, .mov (.t 30)⟩]
def r15_4 : List O := [⟨some 31, none, .mov (.t 7)⟩,
  ⟨some 32, none, .lenL (.t 31)⟩,
  ⟨some 33, none, .mov (.t 1)⟩,
  ⟨some 34, none, .bin .neq (.t 32) (.t 33)⟩]
def r15_5 : List O := [⟨some 6, none, .mov (.c (.b false))⟩]
def r15_6 : List O := [⟨some 35, none, .mkMap⟩,
  ⟨some 9, none, .mov (.t 35)⟩]
def r15_7 : List O := [⟨some 36, none, .mov (.t 7)⟩,
  ⟨some 37, none, .lenL (.t 36)⟩,
  ⟨some 38, none, .mov (.c (.i .i64 0))⟩]
def r15_8 : List O := [⟨some 39, none, .bin .lss (.t 38) (.t 37)⟩]
def r15_9 : List O := [⟨some 40, none, .mov (.t 38)⟩,
  ⟨some 41, none, .ixS 2 (.t 36) (.t 38)⟩,
  ⟨some 42, none, .ldn 2 (.t 41)⟩,
  ⟨some 11, none, .alloc [.i .i64 0, .i .i64 0]⟩,
  ⟨some 10, none, .mov (.t 40)⟩,
  ⟨none, none, .st 2 (.t 11) (.t 42)⟩]
def r15_10 : List O := [⟨some 44, none, .mov (.t 0)⟩,
  ⟨some 45, none, .mov (.t 1)⟩,
  ⟨some 46, none, .mov (.t 2)⟩,
  ⟨some 47, none, .ldn 2 (.t 11)⟩,
  ⟨some 48, none, .call (.f 44) [(.t 44), (.t 45), (.t 46), (.t 47)]⟩,
  ⟨some 43, none, .mov (.t 48)⟩,
  ⟨some 49, none, .ext (.t 43) 0⟩,
  ⟨some 50, none, .ext (.t 43) 1⟩,
  ⟨some 12, none, .mov (.t 49)⟩,
  ⟨some 13, none, .mov (.t 50)⟩]
def r15_11 : List O := [⟨some 51, none, .mov (.t 13)⟩,
  ⟨some 52, none, .bin .neq (.t 51) (.c (.i .i64 0))⟩,
  ⟨some 53, none, .mov (.t 52)⟩,
  ⟨some 54, some (53, false), .mov (.t 12)⟩,
  ⟨some 55, some (53, false), .mov (.t 10)⟩,
  ⟨some 56, some (53, false), .bin .neq (.t 54) (.t 55)⟩,
  ⟨some 57, none, .pick (.t 53) (.c (.b true)) (.t 56)⟩,
  ⟨some 58, none, .mov (.t 57)⟩,
  ⟨some 59, some (58, false), .mov (.t 9)⟩,
  ⟨some 60, some (58, false), .ldn 2 (.t 11)⟩,
  ⟨some 61, some (58, false), .look (.ag [.i .i64, .i .i64]) (.b false) false (.t 59) (.t 60)⟩,
  ⟨some 62, none, .pick (.t 58) (.c (.b true)) (.t 61)⟩,
  ⟨some 63, none, .mov (.t 62)⟩,
  ⟨some 64, some (63, false), .fld 0 (.t 11)⟩,
  ⟨some 65, some (63, false), .ld (.t 64)⟩,
  ⟨some 66, some (63, false), .bin .lss (.t 65) (.c (.i .i64 0))⟩,
  ⟨some 67, none, .pick (.t 63) (.c (.b true)) (.t 66)⟩,
  ⟨some 68, none, .mov (.t 67)⟩,
  ⟨some 69, some (68, false), .fld 1 (.t 11)⟩,
  ⟨some 70, some (68, false), .ld (.t 69)⟩,
  ⟨some 71, some (68, false), .bin .lss (.t 70) (.c (.i .i64 0))⟩,
  ⟨some 72, none, .pick (.t 68) (.c (.b true)) (.t 71)⟩,
  ⟨some 73, none, .mov (.t 72)⟩,
  ⟨some 74, some (73, false), .mov (.t 0)⟩,
  ⟨some 75, some (73, false), .bin .eql (.t 74) (.c (.i .u8 2))⟩,
  ⟨some 76, some (73, false), .mov (.t 75)⟩,
  ⟨some 77, some (76, true), .fld 0 (.t 11)⟩,
  ⟨some 78, some (76, true), .ld (.t 77)⟩,
  ⟨some 79, some (76, true), .mov (.t 10)⟩,
  ⟨some 80, some (76, true), .mov (.t 2)⟩,
  ⟨some 81, some (76, true), .bin .quo (.t 79) (.t 80)⟩,
  ⟨some 82, some (76, true), .bin .neq (.t 78) (.t 81)⟩,
  ⟨some 83, some (76, true), .mov (.t 82)⟩,
  ⟨some 84, some (83, false), .fld 1 (.t 11)⟩,
  ⟨some 85, some (83, false), .ld (.t 84)⟩,
  ⟨some 86, some (83, false), .mov (.t 2)⟩,
  ⟨some 87, some (83, false), .bin .geq (.t 85) (.t 86)⟩,
  ⟨some 88, some (76, true), .pick (.t 83) (.c (.b true)) (.t 87)⟩,
  ⟨some 89, some (73, false), .pick (.t 76) (.t 88) (.c (.b false))⟩,
  ⟨some 90, none, .pick (.t 73) (.c (.b true)) (.t 89)⟩]
def r15_12 : List O := [⟨some 6, none, .mov (.c (.b false))⟩]
def r15_13 : List O := [⟨some 91, none, .mov (.t 9)⟩,
  ⟨some 92, none, .ldn 2 (.t 11)⟩,
  ⟨none, none, .mapSet (.ag [.i .i64, .i .i64]) (.t 91) (.t 92) (.c (.b true))⟩]
def r15_14 : List O := [⟨some 93, none, .bin .add (.t 38) (.c (.i .i64 1))⟩,
  ⟨some 38, none, .mov (.t 93)⟩]
def b15_0 : C := .seq (.ops r15_8) (.seq (.cond (.t 39) (.skip) (.exit 0)) (.seq (.block 1 (.seq (.ops r15_9) (.seq (.ops r15_10) (.seq (.seq (.draw r15_11 []) (.cond (.t 90) (.seq (.ops r15_12) (.ret)) (.skip))) (.ops r15_13))))) (.ops r15_14)))
def r15_15 : List O := [⟨some 94, none, .mov (.t 7)⟩,
  ⟨some 95, none, .call (.f 47) [(.t 94)]⟩,
  ⟨some 96, none, .lenL (.t 95)⟩,
  ⟨some 97, none, .mov (.c (.i .i64 0))⟩]
def r15_16 : List O := [⟨some 98, none, .bin .lss (.t 97) (.t 96)⟩]
def r15_17 : List O := [⟨some 99, none, .ixS 2 (.t 95) (.t 97)⟩,
  ⟨some 100, none, .ldn 2 (.t 99)⟩,
  ⟨some 15, none, .alloc [.i .i64 0, .i .i64 0]⟩,
  ⟨none, none, .st 2 (.t 15) (.t 100)⟩]
def r15_18 : List O := [⟨some 101, none, .mov (.t 9)⟩,
  ⟨some 102, none, .ldn 2 (.t 15)⟩,
  ⟨some 103, none, .look (.ag [.i .i64, .i .i64]) (.b false) false (.t 101) (.t 102)⟩,
  ⟨some 104, none, .un .not (.t 103)⟩]
def r15_19 : List O := [⟨some 6, none, .mov (.c (.b false))⟩]
def r15_20 : List O := [⟨some 105, none, .bin .add (.t 97) (.c (.i .i64 1))⟩,
  ⟨some 97, none, .mov (.t 105)⟩]
def b15_1 : C := .seq (.ops r15_16) (.seq (.cond (.t 98) (.skip) (.exit 2)) (.seq (.block 3 (.seq (.ops r15_17) (.seq (.ops r15_18) (.cond (.t 104) (.seq (.ops r15_19) (.ret)) (.skip))))) (.ops r15_20)))
def r15_21 : List O := [⟨some 106, none, .call (.f 22) []⟩,
  ⟨some 6, none, .mov (.t 106)⟩]
/-- sennet.sennetlaw04.RowsHonours -/
def a15 : FI := ⟨107, [.tmp 6], .seq (.ops r15_0) (.seq (.ops r15_1) (.seq (.seq (.ops r15_2) (.cond (.t 24) (.seq (.ops r15_3) (.ret)) (.skip))) (.seq (.seq (.ops r15_4) (.cond (.t 34) (.seq (.ops r15_5) (.ret)) (.skip))) (.seq (.ops r15_6) (.seq (.seq (.ops r15_7) (.block 0 (.loop b15_0))) (.seq (.seq (.ops r15_15) (.block 2 (.loop b15_1))) (.seq (.ops r15_21) (.ret))))))))⟩

end Go.Air.Try
