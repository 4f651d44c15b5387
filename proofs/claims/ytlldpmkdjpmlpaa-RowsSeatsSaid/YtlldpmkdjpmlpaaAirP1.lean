import Derived.Test.YtlldpmkdjpmlpaaAir
set_option maxRecDepth 100000
namespace Go.Air.Try
def r16_0 : List O := [⟨some 6, none, .mov (.c (.b false))⟩]
def r16_1 : List O := [⟨some 15, none, .mov (.t 0)⟩,
  ⟨some 16, none, .lenL (.t 15)⟩,
  ⟨some 17, none, .bin .gtr (.t 16) (.c (.i .i64 220))⟩]
def r16_2 : List O := [⟨some 18, none, .call (.f 22) []⟩,
  ⟨some 6, none, .mov (.t 18)⟩]
def r16_3 : List O := [⟨some 20, none, .mov (.t 0)⟩,
  ⟨some 21, none, .mov (.t 1)⟩,
  ⟨some 22, none, .mov (.t 2)⟩,
  ⟨some 23, none, .call (.f 51) [(.t 20), (.t 21), (.t 22)]⟩,
  ⟨some 19, none, .mov (.t 23)⟩,
  ⟨some 24, none, .ext (.t 19) 0⟩,
  ⟨some 25, none, .ext (.t 19) 1⟩,
  ⟨some 7, none, .mov (.t 24)⟩,
  ⟨some 8, none, .mov (.t 25)⟩]
def r16_4 : List O := [⟨some 27, none, .mov (.t 0)⟩,
  ⟨some 28, none, .mov (.t 1)⟩,
  ⟨some 29, none, .mov (.t 2)⟩,
  ⟨some 30, none, .call (.f 52) [(.t 27), (.t 28), (.t 29)]⟩,
  ⟨some 26, none, .mov (.t 30)⟩,
  ⟨some 31, none, .ext (.t 26) 0⟩,
  ⟨some 32, none, .ext (.t 26) 1⟩,
  ⟨some 9, none, .mov (.t 31)⟩,
  ⟨some 10, none, .mov (.t 32)⟩]
def r16_5 : List O := [⟨some 34, none, .mov (.t 0)⟩,
  ⟨some 35, none, .mov (.t 2)⟩,
  ⟨some 36, none, .call (.f 53) [(.t 34), (.t 35)]⟩,
  ⟨some 33, none, .mov (.t 36)⟩,
  ⟨some 37, none, .ext (.t 33) 0⟩,
  ⟨some 38, none, .ext (.t 33) 1⟩,
  ⟨some 11, none, .mov (.t 37)⟩,
  ⟨some 12, none, .mov (.t 38)⟩]
def r16_6 : List O := [⟨some 40, none, .mov (.t 0)⟩,
  ⟨some 41, none, .mov (.t 2)⟩,
  ⟨some 42, none, .call (.f 54) [(.t 40), (.t 41)]⟩,
  ⟨some 39, none, .mov (.t 42)⟩,
  ⟨some 43, none, .ext (.t 39) 0⟩,
  ⟨some 44, none, .ext (.t 39) 1⟩,
  ⟨some 13, none, .mov (.t 43)⟩,
  ⟨some 14, none, .mov (.t 44)⟩]
def r16_7 : List O := [⟨some 45, none, .call (.f 22) []⟩,
  ⟨some 46, none, .mov (.t 45)⟩,
  ⟨some 47, some (46, true), .mov (.t 8)⟩,
  ⟨some 48, some (46, true), .mov (.t 10)⟩,
  ⟨some 49, some (46, true), .bin .eql (.t 47) (.t 48)⟩,
  ⟨some 50, none, .pick (.t 46) (.t 49) (.c (.b false))⟩,
  ⟨some 51, none, .mov (.t 50)⟩,
  ⟨some 52, some (51, true), .mov (.t 7)⟩,
  ⟨some 53, some (51, true), .mov (.t 9)⟩,
  ⟨some 54, some (51, true), .call (.f 55) [(.t 52), (.t 53)]⟩,
  ⟨some 55, none, .pick (.t 51) (.t 54) (.c (.b false))⟩,
  ⟨some 56, none, .mov (.t 55)⟩,
  ⟨some 57, some (56, true), .mov (.t 12)⟩,
  ⟨some 58, some (56, true), .mov (.t 14)⟩,
  ⟨some 59, some (56, true), .bin .eql (.t 57) (.t 58)⟩,
  ⟨some 60, none, .pick (.t 56) (.t 59) (.c (.b false))⟩,
  ⟨some 61, none, .mov (.t 60)⟩,
  ⟨some 62, some (61, true), .mov (.t 11)⟩,
  ⟨some 63, some (61, true), .mov (.t 13)⟩,
  ⟨some 64, some (61, true), .call (.f 56) [(.t 62), (.t 63)]⟩,
  ⟨some 65, none, .pick (.t 61) (.t 64) (.c (.b false))⟩,
  ⟨some 6, none, .mov (.t 65)⟩]
/-- sennet.sennetlaw04.RowsSeats -/
def a16 : FI := ⟨66, [.tmp 6], .seq (.ops r16_0) (.seq (.seq (.ops r16_1) (.cond (.t 17) (.seq (.ops r16_2) (.ret)) (.skip))) (.seq (.ops r16_3) (.seq (.ops r16_4) (.seq (.ops r16_5) (.seq (.ops r16_6) (.seq (.ops r16_7) (.ret)))))))⟩
def r17_0 : List O := [⟨some 6, none, .mov (.c (.b false))⟩]
def r17_1 : List O := [⟨some 17, none, .mov (.t 0)⟩,
  ⟨some 18, none, .lenL (.t 17)⟩,
  ⟨some 19, none, .bin .gtr (.t 18) (.c (.i .i64 30))⟩,
  ⟨some 20, none, .mov (.t 19)⟩,
  ⟨some 21, some (20, false), .mov (.t 2)⟩,
  ⟨some 22, some (20, false), .lenL (.t 21)⟩,
  ⟨some 23, some (20, false), .bin .gtr (.t 22) (.c (.i .i64 40))⟩,
  ⟨some 24, none, .pick (.t 20) (.c (.b true)) (.t 23)⟩]
def r17_2 : List O := [⟨some 25, none, .call (.f 22) []⟩,
  ⟨some 6, none, .mov (.t 25)⟩]
def r17_3 : List O := [⟨some 26, none, .mov (.t 2)⟩,
  ⟨some 27, none, .lenL (.t 26)⟩,
  ⟨some 28, none, .mov (.c (.i .i64 0))⟩]
def r17_4 : List O := [⟨some 29, none, .bin .lss (.t 28) (.t 27)⟩]
def r17_5 : List O := [⟨some 30, none, .ixS 1 (.t 26) (.t 28)⟩,
  ⟨some 31, none, .ld (.t 30)⟩,
  ⟨some 8, none, .mov (.t 31)⟩]
def r17_6 : List O := [⟨some 32, none, .mov (.t 8)⟩,
  ⟨some 33, none, .lenL (.t 32)⟩,
  ⟨some 34, none, .bin .gtr (.t 33) (.c (.i .i64 60))⟩]
def r17_7 : List O := [⟨some 35, none, .call (.f 22) []⟩,
  ⟨some 6, none, .mov (.t 35)⟩]
def r17_8 : List O := [⟨some 36, none, .bin .add (.t 28) (.c (.i .i64 1))⟩,
  ⟨some 28, none, .mov (.t 36)⟩]
def b17_0 : C := .seq (.ops r17_4) (.seq (.cond (.t 29) (.skip) (.exit 0)) (.seq (.block 1 (.seq (.ops r17_5) (.seq (.ops r17_6) (.cond (.t 34) (.seq (.ops r17_7) (.ret)) (.skip))))) (.ops r17_8)))
def r17_9 : List O := [⟨some 38, none, .mov (.t 0)⟩,
  ⟨some 39, none, .call (.f 31) [(.t 38)]⟩,
  ⟨some 37, none, .mov (.t 39)⟩,
  ⟨some 40, none, .ext (.t 37) 0⟩,
  ⟨some 41, none, .ext (.t 37) 1⟩,
  ⟨some 9, none, .mov (.t 40)⟩,
  ⟨some 10, none, .mov (.t 41)⟩]
def r17_10 : List O := [⟨some 43, none, .mov (.t 0)⟩,
  ⟨some 44, none, .call (.f 57) [(.t 43)]⟩,
  ⟨some 42, none, .mov (.t 44)⟩,
  ⟨some 45, none, .ext (.t 42) 0⟩,
  ⟨some 46, none, .ext (.t 42) 1⟩,
  ⟨some 11, none, .mov (.t 45)⟩,
  ⟨some 12, none, .mov (.t 46)⟩]
def r17_11 : List O := [⟨some 48, none, .mov (.t 0)⟩,
  ⟨some 49, none, .mov (.t 1)⟩,
  ⟨some 50, none, .call (.f 58) [(.t 48), (.t 49)]⟩,
  ⟨some 47, none, .mov (.t 50)⟩,
  ⟨some 51, none, .ext (.t 47) 0⟩,
  ⟨some 52, none, .ext (.t 47) 1⟩,
  ⟨some 13, none, .mov (.t 51)⟩,
  ⟨some 14, none, .mov (.t 52)⟩]
def r17_12 : List O := [⟨some 54, none, .mov (.t 0)⟩,
  ⟨some 55, none, .mov (.t 1)⟩,
  ⟨some 56, none, .call (.f 59) [(.t 54), (.t 55)]⟩,
  ⟨some 53, none, .mov (.t 56)⟩,
  ⟨some 57, none, .ext (.t 53) 0⟩,
  ⟨some 58, none, .ext (.t 53) 1⟩,
  ⟨some 15, none, .mov (.t 57)⟩,
  ⟨some 16, none, .mov (.t 58)⟩]
def r17_13 : List O := [⟨some 59, none, .mov (.t 10)⟩,
  ⟨some 60, none, .mov (.t 12)⟩,
  ⟨some 61, none, .bin .neq (.t 59) (.t 60)⟩,
  ⟨some 62, none, .mov (.t 61)⟩,
  ⟨some 63, some (62, false), .mov (.t 9)⟩,
  ⟨some 64, some (62, false), .mov (.t 11)⟩,
  ⟨some 65, some (62, false), .call (.f 56) [(.t 63), (.t 64)]⟩,
  ⟨some 66, some (62, false), .un .not (.t 65)⟩,
  ⟨some 67, none, .pick (.t 62) (.c (.b true)) (.t 66)⟩,
  ⟨some 68, none, .mov (.t 67)⟩,
  ⟨some 69, some (68, false), .mov (.t 14)⟩,
  ⟨some 70, some (68, false), .mov (.t 16)⟩,
  ⟨some 71, some (68, false), .bin .neq (.t 69) (.t 70)⟩,
  ⟨some 72, none, .pick (.t 68) (.c (.b true)) (.t 71)⟩,
  ⟨some 73, none, .mov (.t 72)⟩,
  ⟨some 74, some (73, false), .mov (.t 13)⟩,
  ⟨some 75, some (73, false), .mov (.t 15)⟩,
  ⟨some 76, some (73, false), .call (.f 30) [(.t 74), (.t 75)]⟩,
  ⟨some 77, some (73, false), .un .not (.t 76)⟩,
  ⟨some 78, none, .pick (.t 73) (.c (.b true)) (.t 77)⟩]
def r17_14 : List O := [⟨some 6, none, .mov (.c (.b false))⟩]
def r17_15 : List O := [⟨some 79, none, .call (.f 22) []⟩,
  ⟨some 80, none, .mov (.t 79)⟩,
  ⟨some 81, some (80, true), .mov (.t 0)⟩,
  ⟨some 82, some (80, true), .mov (.t 2)⟩,
  ⟨some 83, some (80, true), .call (.f 60) [(.t 81), (.t 82)]⟩,
  ⟨some 84, some (80, true), .mov (.t 0)⟩,
  ⟨some 85, some (80, true), .mov (.t 2)⟩,
  ⟨some 86, some (80, true), .call (.f 61) [(.t 84), (.t 85)]⟩,
  ⟨some 87, some (80, true), .eqv false (.bool) (.t 83) (.t 86)⟩,
  ⟨some 88, none, .pick (.t 80) (.t 87) (.c (.b false))⟩,
  ⟨some 89, none, .mov (.t 88)⟩,
  ⟨some 90, some (89, true), .mov (.t 0)⟩,
  ⟨some 91, some (89, true), .mov (.t 9)⟩,
  ⟨some 92, some (89, true), .call (.f 60) [(.t 90), (.t 91)]⟩,
  ⟨some 93, some (89, true), .mov (.t 10)⟩,
  ⟨some 94, some (89, true), .bin .eql (.t 93) (.c (.i .i64 0))⟩,
  ⟨some 95, some (89, true), .eqv false (.bool) (.t 92) (.t 94)⟩,
  ⟨some 96, none, .pick (.t 89) (.t 95) (.c (.b false))⟩,
  ⟨some 6, none, .mov (.t 96)⟩]
/-- sennet.sennetlaw04.RowsTreaties -/
def a17 : FI := ⟨97, [.tmp 6], .seq (.ops r17_0) (.seq (.seq (.ops r17_1) (.cond (.t 24) (.seq (.ops r17_2) (.ret)) (.skip))) (.seq (.seq (.ops r17_3) (.block 0 (.loop b17_0))) (.seq (.ops r17_9) (.seq (.ops r17_10) (.seq (.ops r17_11) (.seq (.ops r17_12) (.seq (.seq (.ops r17_13) (.cond (.t 78) (.seq (.ops r17_14) (.ret)) (.skip))) (.seq (.ops r17_15) (.ret)))))))))⟩
def r18_0 : List O := [⟨some 2, none, .box (.t 0)⟩,
  ⟨some 3, none, .box (.t 1)⟩,
  ⟨some 4, none, .mov (.c (.b false))⟩]
def r18_1 : List O := [⟨some 9, none, .ldn 2 (.t 2)⟩,
  ⟨some 10, none, .call (.f 21) [(.t 9), (.c (.i .i64 8))]⟩,
  ⟨some 11, none, .un .not (.t 10)⟩,
  ⟨some 12, none, .mov (.t 11)⟩,
  ⟨some 13, some (12, false), .ldn 3 (.t 3)⟩,
  ⟨some 14, some (12, false), .call (.f 62) [(.t 13)]⟩,
  ⟨some 15, some (12, false), .un .not (.t 14)⟩,
  ⟨some 16, none, .pick (.t 12) (.c (.b true)) (.t 15)⟩]
def r18_2 : List O := [⟨some 17, none, .call (.f 22) []⟩,
  ⟨some 4, none, .mov (.t 17)⟩]
def r18_3 : List O := [⟨some 19, none, .ldn 2 (.t 2)⟩,
  ⟨some 20, none, .ldn 3 (.t 3)⟩,
  ⟨some 21, none, .call (.f 63) [(.t 19), (.t 20)]⟩,
  ⟨some 18, none, .mov (.t 21)⟩,
  ⟨some 22, none, .ext (.t 18) 0⟩,
  ⟨some 23, none, .ext (.t 18) 1⟩,
  ⟨some 5, none, .mov (.t 22)⟩,
  ⟨some 6, none, .mov (.t 23)⟩]
def r18_4 : List O := [⟨some 25, none, .ldn 2 (.t 2)⟩,
  ⟨some 26, none, .ldn 3 (.t 3)⟩,
  ⟨some 27, none, .call (.f 64) [(.t 25), (.t 26)]⟩,
  ⟨some 24, none, .mov (.t 27)⟩,
  ⟨some 28, none, .ext (.t 24) 0⟩,
  ⟨some 29, none, .ext (.t 24) 1⟩,
  ⟨some 7, none, .mov (.t 28)⟩,
  ⟨some 8, none, .mov (.t 29)⟩]
def r18_5 : List O := [⟨some 30, none, .call (.f 22) []⟩,
  ⟨some 31, none, .mov (.t 30)⟩,
  ⟨some 32, some (31, true), .mov (.t 5)⟩,
  ⟨some 33, some (31, true), .mov (.t 7)⟩,
  ⟨some 34, some (31, true), .eqv false (.bool) (.t 32) (.t 33)⟩,
  ⟨some 35, none, .pick (.t 31) (.t 34) (.c (.b false))⟩,
  ⟨some 36, none, .mov (.t 35)⟩,
  ⟨some 37, some (36, true), .mov (.t 6)⟩,
  ⟨some 38, some (36, true), .mov (.t 8)⟩,
  ⟨some 39, some (36, true), .bin .eql (.t 37) (.t 38)⟩,
  ⟨some 40, none, .pick (.t 36) (.t 39) (.c (.b false))⟩,
  ⟨some 4, none, .mov (.t 40)⟩]
/-- sennet.sennetlaw04.RowsChecks -/
def a18 : FI := ⟨41, [.tmp 4], .seq (.ops r18_0) (.seq (.seq (.ops r18_1) (.cond (.t 16) (.seq (.ops r18_2) (.ret)) (.skip))) (.seq (.ops r18_3) (.seq (.ops r18_4) (.seq (.ops r18_5) (.ret)))))⟩
def r19_0 : List O := [⟨some 2, none, .box (.t 0)⟩,
  ⟨some 4, none, .mov (.c (.b false))⟩]
def r19_1 : List O := [⟨some 32, none, .ldn 2 (.t 2)⟩,
  ⟨some 33, none, .call (.f 21) [(.t 32), (.c (.i .i64 10))]⟩,
  ⟨some 34, none, .un .not (.t 33)⟩,
  ⟨some 35, none, .mov (.t 34)⟩,
  ⟨some 36, some (35, false), .mov (.t 1)⟩,
  ⟨some 37, some (35, false), .lenL (.t 36)⟩,
  ⟨some 38, some (35, false), .bin .gtr (.t 37) (.c (.i .i64 30))⟩,
  ⟨some 39, none, .pick (.t 35) (.c (.b true)) (.t 38)⟩]
def r19_2 : List O := [⟨some 40, none, .call (.f 22) []⟩,
  ⟨some 4, none, .mov (.t 40)⟩]
def r19_3 : List O := [⟨some 41, none, .buildSl [] 0 []⟩,
  ⟨some 42, none, .fld 1 (.t 2)⟩,
  ⟨some 43, none, .ld (.t 42)⟩,
  ⟨some 44, none, .app 4 32 (.t 41) (.t 43)⟩,
  ⟨some 5, none, .mov (.t 44)⟩]
def r19_4 : List O := [⟨some 45, none, .buildSl [] 0 []⟩,
  ⟨some 46, none, .mov (.t 1)⟩,
  ⟨some 47, none, .app 1 8 (.t 45) (.t 46)⟩,
  ⟨some 6, none, .mov (.t 47)⟩]
def r19_5 : List O := [⟨some 49, none, .ldn 2 (.t 2)⟩,
  ⟨some 50, none, .call (.f 23) [(.t 49)]⟩,
  ⟨some 48, none, .mov (.t 50)⟩,
  ⟨some 51, none, .ext (.t 48) 0⟩,
  ⟨some 52, none, .ext (.t 48) 1⟩,
  ⟨some 7, none, .alloc [.sn, .i .i64 0, .sn]⟩,
  ⟨none, none, .st 3 (.t 7) (.t 51)⟩,
  ⟨some 8, none, .mov (.t 52)⟩]
def r19_6 : List O := [⟨some 54, none, .ldn 2 (.t 2)⟩,
  ⟨some 55, none, .call (.f 23) [(.t 54)]⟩,
  ⟨some 53, none, .mov (.t 55)⟩,
  ⟨some 56, none, .ext (.t 53) 0⟩,
  ⟨some 57, none, .ext (.t 53) 1⟩,
  ⟨some 9, none, .alloc [.sn, .i .i64 0, .sn]⟩,
  ⟨none, none, .st 3 (.t 9) (.t 56)⟩,
  ⟨some 10, none, .mov (.t 57)⟩]
def r19_7 : List O := [⟨some 58, none, .fld 0 (.t 9)⟩,
  ⟨some 59, none, .ld (.t 58)⟩,
  ⟨some 60, none, .lenL (.t 59)⟩,
  ⟨some 61, none, .mov (.c (.i .i64 0))⟩]
def r19_8 : List O := [⟨some 62, none, .bin .lss (.t 61) (.t 60)⟩]
def r19_9 : List O := [⟨some 63, none, .mov (.t 61)⟩,
  ⟨some 11, none, .mov (.t 63)⟩]
def r19_10 : List O := [⟨some 64, none, .fld 0 (.t 9)⟩,
  ⟨some 65, none, .ld (.t 64)⟩,
  ⟨some 66, none, .mov (.t 11)⟩,
  ⟨some 67, none, .ixS 1 (.t 65) (.t 66)⟩,
  ⟨none, none, .st 1 (.t 67) (.c (.i .i64 (-1)))⟩]
def r19_11 : List O := [⟨some 68, none, .bin .add (.t 61) (.c (.i .i64 1))⟩,
  ⟨some 61, none, .mov (.t 68)⟩]
def b19_0 : C := .seq (.ops r19_8) (.seq (.cond (.t 62) (.skip) (.exit 0)) (.seq (.block 1 (.seq (.ops r19_9) (.ops r19_10))) (.ops r19_11)))
def r19_12 : List O := [⟨some 69, none, .fld 2 (.t 9)⟩,
  ⟨some 70, none, .ld (.t 69)⟩,
  ⟨some 71, none, .lenL (.t 70)⟩,
  ⟨some 72, none, .mov (.c (.i .i64 0))⟩]
def r19_13 : List O := [⟨some 73, none, .bin .lss (.t 72) (.t 71)⟩]
def r19_14 : List O := [⟨some 74, none, .ixS 2 (.t 70) (.t 72)⟩,
  ⟨some 75, none, .ldn 2 (.t 74)⟩,
  ⟨some 13, none, .alloc [.sn, .sn]⟩,
  ⟨none, none, .st 2 (.t 13) (.t 75)⟩]
def r19_15 : List O := [⟨some 76, none, .fld 1 (.t 13)⟩,
  ⟨some 77, none, .ld (.t 76)⟩,
  ⟨some 78, none, .lenL (.t 77)⟩,
  ⟨some 79, none, .mov (.c (.i .i64 0))⟩]
def r19_16 : List O := [⟨some 80, none, .bin .lss (.t 79) (.t 78)⟩]
def r19_17 : List O := [⟨some 81, none, .mov (.t 79)⟩,
  ⟨some 14, none, .mov (.t 81)⟩]
def r19_18 : List O := [⟨some 82, none, .fld 1 (.t 13)⟩,
  ⟨some 83, none, .ld (.t 82)⟩,
  ⟨some 84, none, .mov (.t 14)⟩,
  ⟨some 85, none, .ixS 1 (.t 83) (.t 84)⟩,
  ⟨none, none, .st 1 (.t 85) (.c (.i .i64 (-1)))⟩]
def r19_19 : List O := [⟨some 86, none, .bin .add (.t 79) (.c (.i .i64 1))⟩,
  ⟨some 79, none, .mov (.t 86)⟩]
def b19_1 : C := .seq (.ops r19_16) (.seq (.cond (.t 80) (.skip) (.exit 4)) (.seq (.block 5 (.seq (.ops r19_17) (.ops r19_18))) (.ops r19_19)))
def r19_20 : List O := [⟨some 87, none, .fld 0 (.t 13)⟩,
  ⟨some 88, none, .ld (.t 87)⟩,
  ⟨some 89, none, .lenL (.t 88)⟩,
  ⟨some 90, none, .mov (.c (.i .i64 0))⟩]
def r19_21 : List O := [⟨some 91, none, .bin .lss (.t 90) (.t 89)⟩]
def r19_22 : List O := [⟨some 92, none, .mov (.t 90)⟩,
  ⟨some 15, none, .mov (.t 92)⟩]
def r19_23 : List O := [⟨some 93, none, .fld 0 (.t 13)⟩,
  ⟨some 94, none, .ld (.t 93)⟩,
  ⟨some 95, none, .mov (.t 15)⟩,
  ⟨some 96, none, .ixS 1 (.t 94) (.t 95)⟩,
  ⟨none, none, .st 1 (.t 96) (.c (.i .i64 (-1)))⟩]
def r19_24 : List O := [⟨some 97, none, .bin .add (.t 90) (.c (.i .i64 1))⟩,
  ⟨some 90, none, .mov (.t 97)⟩]
def b19_2 : C := .seq (.ops r19_21) (.seq (.cond (.t 91) (.skip) (.exit 6)) (.seq (.block 7 (.seq (.ops r19_22) (.ops r19_23))) (.ops r19_24)))
def r19_25 : List O := [⟨some 98, none, .bin .add (.t 72) (.c (.i .i64 1))⟩,
  ⟨some 72, none, .mov (.t 98)⟩]
def b19_3 : C := .seq (.ops r19_13) (.seq (.cond (.t 73) (.skip) (.exit 2)) (.seq (.block 3 (.seq (.ops r19_14) (.seq (.seq (.ops r19_15) (.block 4 (.loop b19_1))) (.seq (.ops r19_20) (.block 6 (.loop b19_2)))))) (.ops r19_25)))
def r19_26 : List O := [⟨some 100, none, .ldn 2 (.t 2)⟩,
  ⟨some 101, none, .mov (.t 1)⟩,
  ⟨some 102, none, .call (.f 49) [(.t 100), (.t 101)]⟩,
  ⟨some 99, none, .mov (.t 102)⟩,
  ⟨some 103, none, .ext (.t 99) 0⟩,
  ⟨some 104, none, .ext (.t 99) 1⟩,
  ⟨some 16, none, .mov (.t 103)⟩,
  ⟨some 17, none, .mov (.t 104)⟩]
def r19_27 : List O := [⟨some 105, none, .mov (.t 16)⟩,
  ⟨some 106, none, .lenL (.t 105)⟩,
  ⟨some 107, none, .mov (.c (.i .i64 0))⟩]
def r19_28 : List O := [⟨some 108, none, .bin .lss (.t 107) (.t 106)⟩]
def r19_29 : List O := [⟨some 109, none, .mov (.t 107)⟩,
  ⟨some 18, none, .mov (.t 109)⟩]
def r19_30 : List O := [⟨some 110, none, .mov (.t 16)⟩,
  ⟨some 111, none, .mov (.t 18)⟩,
  ⟨some 112, none, .ixS 1 (.t 110) (.t 111)⟩,
  ⟨none, none, .st 1 (.t 112) (.c (.i .i64 (-1)))⟩]
def r19_31 : List O := [⟨some 113, none, .bin .add (.t 107) (.c (.i .i64 1))⟩,
  ⟨some 107, none, .mov (.t 113)⟩]
def b19_4 : C := .seq (.ops r19_28) (.seq (.cond (.t 108) (.skip) (.exit 8)) (.seq (.block 9 (.seq (.ops r19_29) (.ops r19_30))) (.ops r19_31)))
def r19_32 : List O := [⟨some 115, none, .mov (.t 1)⟩,
  ⟨some 116, none, .call (.f 31) [(.t 115)]⟩,
  ⟨some 114, none, .mov (.t 116)⟩,
  ⟨some 117, none, .ext (.t 114) 0⟩,
  ⟨some 118, none, .ext (.t 114) 1⟩,
  ⟨some 19, none, .mov (.t 117)⟩,
  ⟨some 20, none, .mov (.t 118)⟩]
def r19_33 : List O := [⟨some 119, none, .mov (.t 19)⟩,
  ⟨some 120, none, .lenL (.t 119)⟩,
  ⟨some 121, none, .mov (.c (.i .i64 0))⟩]
def r19_34 : List O := [⟨some 122, none, .bin .lss (.t 121) (.t 120)⟩]
def r19_35 : List O := [⟨some 123, none, .ixS 1 (.t 119) (.t 121)⟩,
  ⟨some 124, none, .ld (.t 123)⟩,
  ⟨some 22, none, .mov (.t 124)⟩]
def r19_36 : List O := [⟨some 125, none, .mov (.t 22)⟩,
  ⟨some 126, none, .lenL (.t 125)⟩,
  ⟨some 127, none, .mov (.c (.i .i64 0))⟩]
def r19_37 : List O := [⟨some 128, none, .bin .lss (.t 127) (.t 126)⟩]
def r19_38 : List O := [⟨some 129, none, .mov (.t 127)⟩,
  ⟨some 23, none, .mov (.t 129)⟩]
def r19_39 : List O := [⟨some 130, none, .mov (.t 22)⟩,
  ⟨some 131, none, .mov (.t 23)⟩,
  ⟨some 132, none, .ixS 1 (.t 130) (.t 131)⟩,
  ⟨none, none, .st 1 (.t 132) (.c (.i .i64 (-1)))⟩]
def r19_40 : List O := [⟨some 133, none, .bin .add (.t 127) (.c (.i .i64 1))⟩,
  ⟨some 127, none, .mov (.t 133)⟩]
def b19_5 : C := .seq (.ops r19_37) (.seq (.cond (.t 128) (.skip) (.exit 12)) (.seq (.block 13 (.seq (.ops r19_38) (.ops r19_39))) (.ops r19_40)))
def r19_41 : List O := [⟨some 134, none, .bin .add (.t 121) (.c (.i .i64 1))⟩,
  ⟨some 121, none, .mov (.t 134)⟩]
def b19_6 : C := .seq (.ops r19_34) (.seq (.cond (.t 122) (.skip) (.exit 10)) (.seq (.block 11 (.seq (.ops r19_35) (.seq (.ops r19_36) (.block 12 (.loop b19_5))))) (.ops r19_41)))
def r19_42 : List O := [⟨some 136, none, .mov (.t 1)⟩,
  ⟨some 137, none, .call (.f 53) [(.t 136), (.c (.i .i64 3))]⟩,
  ⟨some 135, none, .mov (.t 137)⟩,
  ⟨some 138, none, .ext (.t 135) 0⟩,
  ⟨some 139, none, .ext (.t 135) 1⟩,
  ⟨some 24, none, .mov (.t 138)⟩,
  ⟨some 25, none, .mov (.t 139)⟩]
def r19_43 : List O := [⟨some 140, none, .mov (.t 24)⟩,
  ⟨some 141, none, .lenL (.t 140)⟩,
  ⟨some 142, none, .mov (.c (.i .i64 0))⟩]
def r19_44 : List O := [⟨some 143, none, .bin .lss (.t 142) (.t 141)⟩]
def r19_45 : List O := [⟨some 144, none, .ixS 1 (.t 140) (.t 142)⟩,
  ⟨some 145, none, .ld (.t 144)⟩,
  ⟨some 27, none, .mov (.t 145)⟩]
def r19_46 : List O := [⟨some 146, none, .mov (.t 27)⟩,
  ⟨some 147, none, .lenL (.t 146)⟩,
  ⟨some 148, none, .mov (.c (.i .i64 0))⟩]
def r19_47 : List O := [⟨some 149, none, .bin .lss (.t 148) (.t 147)⟩]
def r19_48 : List O := [⟨some 150, none, .mov (.t 148)⟩,
  ⟨some 28, none, .mov (.t 150)⟩]
def r19_49 : List O := [⟨some 151, none, .mov (.t 27)⟩,
  ⟨some 152, none, .mov (.t 28)⟩,
  ⟨some 153, none, .ixS 1 (.t 151) (.t 152)⟩,
  ⟨none, none, .st 1 (.t 153) (.c (.i .i64 (-1)))⟩]
def r19_50 : List O := [⟨some 154, none, .bin .add (.t 148) (.c (.i .i64 1))⟩,
  ⟨some 148, none, .mov (.t 154)⟩]
def b19_7 : C := .seq (.ops r19_47) (.seq (.cond (.t 149) (.skip) (.exit 16)) (.seq (.block 17 (.seq (.ops r19_48) (.ops r19_49))) (.ops r19_50)))
def r19_51 : List O := [⟨some 155, none, .bin .add (.t 142) (.c (.i .i64 1))⟩,
  ⟨some 142, none, .mov (.t 155)⟩]
def b19_8 : C := .seq (.ops r19_44) (.seq (.cond (.t 143) (.skip) (.exit 14)) (.seq (.block 15 (.seq (.ops r19_45) (.seq (.ops r19_46) (.block 16 (.loop b19_7))))) (.ops r19_51)))
def r19_52 : List O := [⟨some 157, none, .ldn 2 (.t 2)⟩,
  ⟨some 158, none, .call (.f 23) [(.t 157)]⟩,
  ⟨some 156, none, .mov (.t 158)⟩,
  ⟨some 159, none, .ext (.t 156) 0⟩,
  ⟨some 160, none, .ext (.t 156) 1⟩,
  ⟨some 29, none, .alloc [.sn, .i .i64 0, .sn]⟩,
  ⟨none, none, .st 3 (.t 29) (.t 159)⟩,
  ⟨some 30, none, .mov (.t 160)⟩]
def r19_53 : List O := [⟨some 161, none, .mov (.t 5)⟩,
  ⟨some 162, none, .lenL (.t 161)⟩,
  ⟨some 163, none, .mov (.c (.i .i64 0))⟩]
def r19_54 : List O := [⟨some 164, none, .bin .lss (.t 163) (.t 162)⟩]
def r19_55 : List O := [⟨some 165, none, .mov (.t 163)⟩,
  ⟨some 31, none, .mov (.t 165)⟩]
def r19_56 : List O := [⟨some 166, none, .mov (.t 5)⟩,
  ⟨some 167, none, .mov (.t 31)⟩,
  ⟨some 168, none, .ixS 4 (.t 166) (.t 167)⟩,
  ⟨some 169, none, .ldn 4 (.t 168)⟩,
  ⟨some 170, none, .fld 1 (.t 2)⟩,
  ⟨some 171, none, .ld (.t 170)⟩,
  ⟨some 172, none, .mov (.t 31)⟩,
  ⟨some 173, none, .ixS 4 (.t 171) (.t 172)⟩,
  ⟨some 174, none, .ldn 4 (.t 173)⟩,
  ⟨some 175, none, .eqv true (.agg [.i .i64, .i .i64, .i .i64, .i .i64]) (.t 169) (.t 174)⟩]
def r19_57 : List O := [⟨some 4, none, .mov (.c (.b false))⟩]
def r19_58 : List O := [⟨some 176, none, .bin .add (.t 163) (.c (.i .i64 1))⟩,
  ⟨some 163, none, .mov (.t 176)⟩]
def b19_9 : C := .seq (.ops r19_54) (.seq (.cond (.t 164) (.skip) (.exit 18)) (.seq (.block 19 (.seq (.ops r19_55) (.seq (.draw r19_56 []) (.cond (.t 175) (.seq (.ops r19_57) (.ret)) (.skip))))) (.ops r19_58)))
def r19_59 : List O := [⟨some 177, none, .call (.f 22) []⟩,
  ⟨some 178, none, .mov (.t 177)⟩,
  ⟨some 179, some (178, true), .mov (.t 8)⟩,
  ⟨some 180, some (178, true), .mov (.t 30)⟩,
  ⟨some 181, some (178, true), .bin .eql (.t 179) (.t 180)⟩,
  ⟨some 182, none, .pick (.t 178) (.t 181) (.c (.b false))⟩,
  ⟨some 183, none, .mov (.t 182)⟩,
  ⟨some 184, some (183, true), .ldn 3 (.t 7)⟩,
  ⟨some 185, some (183, true), .ldn 3 (.t 29)⟩,
  ⟨some 186, some (183, true), .call (.f 25) [(.t 184), (.t 185)]⟩,
  ⟨some 187, none, .pick (.t 183) (.t 186) (.c (.b false))⟩,
  ⟨some 188, none, .mov (.t 187)⟩,
  ⟨some 189, some (188, true), .mov (.t 6)⟩,
  ⟨some 190, some (188, true), .mov (.t 1)⟩,
  ⟨some 191, some (188, true), .call (.f 30) [(.t 189), (.t 190)]⟩,
  ⟨some 192, none, .pick (.t 188) (.t 191) (.c (.b false))⟩,
  ⟨some 4, none, .mov (.t 192)⟩]
/-- sennet.sennetlaw04.RowsMemory -/
def a19 : FI := ⟨193, [.tmp 4], .seq (.ops r19_0) (.seq (.seq (.ops r19_1) (.cond (.t 39) (.seq (.ops r19_2) (.ret)) (.skip))) (.seq (.ops r19_3) (.seq (.ops r19_4) (.seq (.ops r19_5) (.seq (.ops r19_6) (.seq (.seq (.ops r19_7) (.block 0 (.loop b19_0))) (.seq (.seq (.ops r19_12) (.block 2 (.loop b19_3))) (.seq (.ops r19_26) (.seq (.seq (.ops r19_27) (.block 8 (.loop b19_4))) (.seq (.ops r19_32) (.seq (.seq (.ops r19_33) (.block 10 (.loop b19_6))) (.seq (.ops r19_42) (.seq (.seq (.ops r19_43) (.block 14 (.loop b19_8))) (.seq (.ops r19_52) (.seq (.seq (.ops r19_53) (.block 18 (.loop b19_9))) (.seq (.ops r19_59) (.ret)))))))))))))))))⟩
def r20_0 : List O := [⟨some 3, none, .box (.t 0)⟩,
  ⟨some 5, none, .box (.t 2)⟩,
  ⟨some 6, none, .mov (.c (.b false))⟩]
def r20_1 : List O := [⟨some 19, none, .fld 1 (.t 3)⟩,
  ⟨some 20, none, .ld (.t 19)⟩,
  ⟨some 21, none, .lenL (.t 20)⟩,
  ⟨some 22, none, .bin .gtr (.t 21) (.c (.i .i64 700))⟩,
  ⟨some 23, none, .mov (.t 22)⟩,
  ⟨some 24, some (23, false), .mov (.t 1)⟩,
  ⟨some 25, some (23, false), .lenL (.t 24)⟩,
  ⟨some 26, some (23, false), .bin .gtr (.t 25) (.c (.i .i64 60))⟩,
  ⟨some 27, none, .pick (.t 23) (.c (.b true)) (.t 26)⟩,
  ⟨some 28, none, .mov (.t 27)⟩,
  ⟨some 29, some (28, false), .ldn 3 (.t 5)⟩,
  ⟨some 30, some (28, false), .call (.f 62) [(.t 29)]⟩,
  ⟨some 31, some (28, false), .un .not (.t 30)⟩,
  ⟨some 32, none, .pick (.t 28) (.c (.b true)) (.t 31)⟩]
def r20_2 : List O := [⟨some 33, none, .call (.f 22) []⟩,
  ⟨some 6, none, .mov (.t 33)⟩]
def r20_3 : List O := [⟨some 35, none, .ldn 2 (.t 3)⟩,
  ⟨some 36, none, .mov (.t 1)⟩,
  ⟨some 37, none, .call (.f 32) [(.t 35), (.t 36)]⟩,
  ⟨some 34, none, .mov (.t 37)⟩,
  ⟨some 38, none, .ext (.t 34) 0⟩,
  ⟨some 39, none, .ext (.t 34) 1⟩,
  ⟨some 7, none, .mov (.t 38)⟩,
  ⟨some 8, none, .mov (.t 39)⟩]
def r20_4 : List O := [⟨some 41, none, .ldn 2 (.t 3)⟩,
  ⟨some 42, none, .call (.f 23) [(.t 41)]⟩,
  ⟨some 40, none, .mov (.t 42)⟩,
  ⟨some 43, none, .ext (.t 40) 0⟩,
  ⟨some 44, none, .ext (.t 40) 1⟩,
  ⟨some 9, none, .alloc [.sn, .i .i64 0, .sn]⟩,
  ⟨none, none, .st 3 (.t 9) (.t 43)⟩,
  ⟨some 10, none, .mov (.t 44)⟩]
def r20_5 : List O := [⟨some 45, none, .mov (.t 8)⟩,
  ⟨some 46, none, .bin .neq (.t 45) (.c (.i .i64 0))⟩,
  ⟨some 47, none, .mov (.t 46)⟩,
  ⟨some 48, some (47, false), .mov (.t 10)⟩,
  ⟨some 49, some (47, false), .bin .neq (.t 48) (.c (.i .i64 0))⟩,
  ⟨some 50, none, .pick (.t 47) (.c (.b true)) (.t 49)⟩]
def r20_6 : List O := [⟨some 51, none, .call (.f 22) []⟩,
  ⟨some 6, none, .mov (.t 51)⟩]
def r20_7 : List O := [⟨some 53, none, .ldn 2 (.t 3)⟩,
  ⟨some 54, none, .ldn 3 (.t 9)⟩,
  ⟨some 55, none, .call (.f 63) [(.t 53), (.t 54)]⟩,
  ⟨some 52, none, .mov (.t 55)⟩,
  ⟨some 56, none, .ext (.t 52) 0⟩,
  ⟨some 57, none, .ext (.t 52) 1⟩,
  ⟨some 11, none, .mov (.t 56)⟩,
  ⟨some 12, none, .mov (.t 57)⟩]
def r20_8 : List O := [⟨some 59, none, .ldn 2 (.t 3)⟩,
  ⟨some 60, none, .fld 0 (.t 9)⟩,
  ⟨some 61, none, .ld (.t 60)⟩,
  ⟨some 62, none, .call (.f 32) [(.t 59), (.t 61)]⟩,
  ⟨some 58, none, .mov (.t 62)⟩,
  ⟨some 63, none, .ext (.t 58) 0⟩,
  ⟨some 64, none, .ext (.t 58) 1⟩,
  ⟨some 13, none, .mov (.t 63)⟩,
  ⟨some 14, none, .mov (.t 64)⟩]
def r20_9 : List O := [⟨some 66, none, .ldn 2 (.t 3)⟩,
  ⟨some 67, none, .ldn 3 (.t 5)⟩,
  ⟨some 68, none, .call (.f 63) [(.t 66), (.t 67)]⟩,
  ⟨some 65, none, .mov (.t 68)⟩,
  ⟨some 69, none, .ext (.t 65) 0⟩,
  ⟨some 70, none, .ext (.t 65) 1⟩,
  ⟨some 15, none, .mov (.t 69)⟩,
  ⟨some 16, none, .mov (.t 70)⟩]
def r20_10 : List O := [⟨some 72, none, .ldn 2 (.t 3)⟩,
  ⟨some 73, none, .mov (.t 1)⟩,
  ⟨some 74, none, .call (.f 40) [(.t 72), (.t 73)]⟩,
  ⟨some 71, none, .mov (.t 74)⟩,
  ⟨some 75, none, .ext (.t 71) 0⟩,
  ⟨some 76, none, .ext (.t 71) 1⟩,
  ⟨some 17, none, .mov (.t 75)⟩,
  ⟨some 18, none, .mov (.t 76)⟩]
def r20_11 : List O := [⟨some 77, none, .mov (.t 12)⟩,
  ⟨some 78, none, .bin .neq (.t 77) (.c (.i .i64 0))⟩,
  ⟨some 79, none, .mov (.t 78)⟩,
  ⟨some 80, some (79, false), .mov (.t 11)⟩,
  ⟨some 81, some (79, false), .un .not (.t 80)⟩,
  ⟨some 82, none, .pick (.t 79) (.c (.b true)) (.t 81)⟩,
  ⟨some 83, none, .mov (.t 82)⟩,
  ⟨some 84, some (83, false), .mov (.t 14)⟩,
  ⟨some 85, some (83, false), .bin .neq (.t 84) (.c (.i .i64 0))⟩,
  ⟨some 86, none, .pick (.t 83) (.c (.b true)) (.t 85)⟩,
  ⟨some 87, none, .mov (.t 86)⟩,
  ⟨some 88, some (87, false), .mov (.t 13)⟩,
  ⟨some 89, some (87, false), .fld 1 (.t 9)⟩,
  ⟨some 90, some (87, false), .ld (.t 89)⟩,
  ⟨some 91, some (87, false), .bin .neq (.t 88) (.t 90)⟩,
  ⟨some 92, none, .pick (.t 87) (.c (.b true)) (.t 91)⟩,
  ⟨some 93, none, .mov (.t 92)⟩,
  ⟨some 94, some (93, false), .fld 1 (.t 9)⟩,
  ⟨some 95, some (93, false), .ld (.t 94)⟩,
  ⟨some 96, some (93, false), .mov (.t 7)⟩,
  ⟨some 97, some (93, false), .bin .gtr (.t 95) (.t 96)⟩,
  ⟨some 98, none, .pick (.t 93) (.c (.b true)) (.t 97)⟩,
  ⟨some 99, none, .mov (.t 98)⟩,
  ⟨some 100, some (99, false), .mov (.t 16)⟩,
  ⟨some 101, some (99, false), .bin .neq (.t 100) (.c (.i .i64 0))⟩,
  ⟨some 102, none, .pick (.t 99) (.c (.b true)) (.t 101)⟩,
  ⟨some 103, none, .mov (.t 102)⟩,
  ⟨some 104, some (103, false), .mov (.t 18)⟩,
  ⟨some 105, some (103, false), .bin .neq (.t 104) (.c (.i .i64 0))⟩,
  ⟨some 106, none, .pick (.t 103) (.c (.b true)) (.t 105)⟩,
  ⟨some 107, none, .mov (.t 106)⟩,
  ⟨some 108, some (107, false), .mov (.t 17)⟩,
  ⟨some 109, some (107, false), .mov (.t 7)⟩,
  ⟨some 110, some (107, false), .fld 1 (.t 9)⟩,
  ⟨some 111, some (107, false), .ld (.t 110)⟩,
  ⟨some 112, some (107, false), .bin .eql (.t 109) (.t 111)⟩,
  ⟨some 113, some (107, false), .eqv true (.bool) (.t 108) (.t 112)⟩,
  ⟨some 114, none, .pick (.t 107) (.c (.b true)) (.t 113)⟩]
def r20_12 : List O := [⟨some 6, none, .mov (.c (.b false))⟩]
def r20_13 : List O := [⟨some 115, none, .call (.f 22) []⟩,
  ⟨some 116, none, .mov (.t 115)⟩,
  ⟨some 117, some (116, true), .mov (.t 15)⟩,
  ⟨some 118, some (116, true), .un .not (.t 117)⟩,
  ⟨some 119, some (116, true), .mov (.t 118)⟩,
  ⟨some 120, some (119, false), .fld 1 (.t 5)⟩,
  ⟨some 121, some (119, false), .ld (.t 120)⟩,
  ⟨some 122, some (119, false), .fld 1 (.t 9)⟩,
  ⟨some 123, some (119, false), .ld (.t 122)⟩,
  ⟨some 124, some (119, false), .bin .eql (.t 121) (.t 123)⟩,
  ⟨some 125, some (116, true), .pick (.t 119) (.c (.b true)) (.t 124)⟩,
  ⟨some 126, none, .pick (.t 116) (.t 125) (.c (.b false))⟩,
  ⟨some 6, none, .mov (.t 126)⟩]
/-- sennet.sennetlaw04.RowsNoLess -/
def a20 : FI := ⟨127, [.tmp 6], .seq (.ops r20_0) (.seq (.seq (.ops r20_1) (.cond (.t 32) (.seq (.ops r20_2) (.ret)) (.skip))) (.seq (.ops r20_3) (.seq (.ops r20_4) (.seq (.seq (.ops r20_5) (.cond (.t 50) (.seq (.ops r20_6) (.ret)) (.skip))) (.seq (.ops r20_7) (.seq (.ops r20_8) (.seq (.ops r20_9) (.seq (.ops r20_10) (.seq (.seq (.ops r20_11) (.cond (.t 114) (.seq (.ops r20_12) (.ret)) (.skip))) (.seq (.ops r20_13) (.ret)))))))))))⟩
def r21_0 : List O := [⟨some 2, none, .box (.t 0)⟩,
  ⟨some 4, none, .mov (.c (.b false))⟩]
def r21_1 : List O := [⟨some 5, none, .fld 0 (.t 2)⟩,
  ⟨some 6, none, .ld (.t 5)⟩,
  ⟨some 7, none, .mov (.t 1)⟩,
  ⟨some 8, none, .bin .leq (.t 6) (.t 7)⟩,
  ⟨some 9, none, .mov (.t 8)⟩,
  ⟨some 10, some (9, true), .fld 1 (.t 2)⟩,
  ⟨some 11, some (9, true), .ld (.t 10)⟩,
  ⟨some 12, some (9, true), .lenL (.t 11)⟩,
  ⟨some 13, some (9, true), .mov (.t 1)⟩,
  ⟨some 14, some (9, true), .bin .mul (.c (.i .i64 2)) (.t 13)⟩,
  ⟨some 15, some (9, true), .mov (.t 1)⟩,
  ⟨some 16, some (9, true), .bin .mul (.t 14) (.t 15)⟩,
  ⟨some 17, some (9, true), .bin .leq (.t 12) (.t 16)⟩,
  ⟨some 18, none, .pick (.t 9) (.t 17) (.c (.b false))⟩,
  ⟨some 4, none, .mov (.t 18)⟩]
/-- sennet.sennetref04.Few -/
def a21 : FI := ⟨19, [.tmp 4], .seq (.ops r21_0) (.seq (.ops r21_1) (.ret))⟩
def r22_0 : List O := [⟨some 0, none, .mov (.c (.b false))⟩]
def r22_1 : List O := [⟨some 12, none, .call (.f 65) []⟩,
  ⟨some 1, none, .alloc [.i .i64 0, .sn]⟩,
  ⟨none, none, .st 2 (.t 1) (.t 12)⟩]
def r22_2 : List O := [⟨some 14, none, .ldn 2 (.t 1)⟩,
  ⟨some 15, none, .buildSl [.i .i64 0, .i .i64 0, .i .i64 0, .i .i64 0] 4 [(0, 1, (.c (.i .i64 0))), (1, 1, (.c (.i .i64 1))), (2, 1, (.c (.i .i64 2))), (3, 1, (.c (.i .i64 3)))]⟩,
  ⟨some 16, none, .call (.f 32) [(.t 14), (.t 15)]⟩,
  ⟨some 13, none, .mov (.t 16)⟩,
  ⟨some 17, none, .ext (.t 13) 0⟩,
  ⟨some 18, none, .ext (.t 13) 1⟩,
  ⟨some 2, none, .mov (.t 17)⟩,
  ⟨some 3, none, .mov (.t 18)⟩]
def r22_3 : List O := [⟨some 20, none, .ldn 2 (.t 1)⟩,
  ⟨some 21, none, .call (.f 23) [(.t 20)]⟩,
  ⟨some 19, none, .mov (.t 21)⟩,
  ⟨some 22, none, .ext (.t 19) 0⟩,
  ⟨some 23, none, .ext (.t 19) 1⟩,
  ⟨some 4, none, .alloc [.sn, .i .i64 0, .sn]⟩,
  ⟨none, none, .st 3 (.t 4) (.t 22)⟩,
  ⟨some 5, none, .mov (.t 23)⟩]
def r22_4 : List O := [⟨some 25, none, .ldn 2 (.t 1)⟩,
  ⟨some 26, none, .call (.f 28) [(.t 25)]⟩,
  ⟨some 24, none, .mov (.t 26)⟩,
  ⟨some 27, none, .ext (.t 24) 0⟩,
  ⟨some 28, none, .ext (.t 24) 1⟩,
  ⟨some 6, none, .mov (.t 27)⟩,
  ⟨some 7, none, .mov (.t 28)⟩]
def r22_5 : List O := [⟨some 30, none, .call (.f 42) [(.c (.i .u8 2)), (.c (.i .i64 5)), (.c (.i .i64 3))]⟩,
  ⟨some 29, none, .mov (.t 30)⟩,
  ⟨some 31, none, .ext (.t 29) 0⟩,
  ⟨some 32, none, .ext (.t 29) 1⟩,
  ⟨some 8, none, .mov (.t 31)⟩,
  ⟨some 9, none, .mov (.t 32)⟩]
def r22_6 : List O := [⟨some 34, none, .buildSl [.i .i64 0, .i .i64 0, .i .i64 0] 3 [(0, 1, (.c (.i .i64 2))), (1, 1, (.c (.i .i64 0))), (2, 1, (.c (.i .i64 1)))]⟩,
  ⟨some 35, none, .call (.f 31) [(.t 34)]⟩,
  ⟨some 33, none, .mov (.t 35)⟩,
  ⟨some 36, none, .ext (.t 33) 0⟩,
  ⟨some 37, none, .ext (.t 33) 1⟩,
  ⟨some 10, none, .mov (.t 36)⟩,
  ⟨some 11, none, .mov (.t 37)⟩]
def r22_7 : List O := [⟨some 38, none, .mov (.t 3)⟩,
  ⟨some 39, none, .bin .neq (.t 38) (.c (.i .i64 0))⟩,
  ⟨some 40, none, .mov (.t 39)⟩,
  ⟨some 41, some (40, false), .mov (.t 2)⟩,
  ⟨some 42, some (40, false), .bin .neq (.t 41) (.c (.i .i64 3))⟩,
  ⟨some 43, none, .pick (.t 40) (.c (.b true)) (.t 42)⟩,
  ⟨some 44, none, .mov (.t 43)⟩,
  ⟨some 45, some (44, false), .mov (.t 5)⟩,
  ⟨some 46, some (44, false), .bin .neq (.t 45) (.c (.i .i64 0))⟩,
  ⟨some 47, none, .pick (.t 44) (.c (.b true)) (.t 46)⟩,
  ⟨some 48, none, .mov (.t 47)⟩,
  ⟨some 49, some (48, false), .fld 1 (.t 4)⟩,
  ⟨some 50, some (48, false), .ld (.t 49)⟩,
  ⟨some 51, some (48, false), .bin .neq (.t 50) (.c (.i .i64 2))⟩,
  ⟨some 52, none, .pick (.t 48) (.c (.b true)) (.t 51)⟩,
  ⟨some 53, none, .mov (.t 52)⟩,
  ⟨some 54, some (53, false), .fld 2 (.t 4)⟩,
  ⟨some 55, some (53, false), .ld (.t 54)⟩,
  ⟨some 56, some (53, false), .lenL (.t 55)⟩,
  ⟨some 57, some (53, false), .bin .neq (.t 56) (.c (.i .i64 1))⟩,
  ⟨some 58, none, .pick (.t 53) (.c (.b true)) (.t 57)⟩,
  ⟨some 59, none, .mov (.t 58)⟩,
  ⟨some 60, some (59, false), .fld 2 (.t 4)⟩,
  ⟨some 61, some (59, false), .ld (.t 60)⟩,
  ⟨some 62, some (59, false), .ixS 2 (.t 61) (.c (.i .i64 0))⟩,
  ⟨some 63, some (59, false), .fld 1 (.t 62)⟩,
  ⟨some 64, some (59, false), .ld (.t 63)⟩,
  ⟨some 65, some (59, false), .lenL (.t 64)⟩,
  ⟨some 66, some (59, false), .bin .neq (.t 65) (.c (.i .i64 8))⟩,
  ⟨some 67, none, .pick (.t 59) (.c (.b true)) (.t 66)⟩,
  ⟨some 68, none, .mov (.t 67)⟩,
  ⟨some 69, some (68, false), .mov (.t 7)⟩,
  ⟨some 70, some (68, false), .bin .neq (.t 69) (.c (.i .i64 0))⟩,
  ⟨some 71, none, .pick (.t 68) (.c (.b true)) (.t 70)⟩,
  ⟨some 72, none, .mov (.t 71)⟩,
  ⟨some 73, some (72, false), .mov (.t 6)⟩,
  ⟨some 74, some (72, false), .lenL (.t 73)⟩,
  ⟨some 75, some (72, false), .bin .neq (.t 74) (.c (.i .i64 1))⟩,
  ⟨some 76, none, .pick (.t 72) (.c (.b true)) (.t 75)⟩,
  ⟨some 77, none, .mov (.t 76)⟩,
  ⟨some 78, some (77, false), .mov (.t 6)⟩,
  ⟨some 79, some (77, false), .ixS 1 (.t 78) (.c (.i .i64 0))⟩,
  ⟨some 80, some (77, false), .ld (.t 79)⟩,
  ⟨some 81, some (77, false), .bin .neq (.t 80) (.c (.i .i64 2))⟩,
  ⟨some 82, none, .pick (.t 77) (.c (.b true)) (.t 81)⟩]
def r22_8 : List O := [⟨some 0, none, .mov (.c (.b false))⟩]
def r22_9 : List O := [⟨some 83, none, .mov (.t 9)⟩,
  ⟨some 84, none, .bin .eql (.t 83) (.c (.i .i64 0))⟩,
  ⟨some 85, none, .mov (.t 84)⟩,
  ⟨some 86, some (85, true), .mov (.t 8)⟩,
  ⟨some 87, some (85, true), .lenL (.t 86)⟩,
  ⟨some 88, some (85, true), .bin .eql (.t 87) (.c (.i .i64 5))⟩,
  ⟨some 89, none, .pick (.t 85) (.t 88) (.c (.b false))⟩,
  ⟨some 90, none, .mov (.t 89)⟩,
  ⟨some 91, some (90, true), .mov (.t 8)⟩,
  ⟨some 92, some (90, true), .ixS 2 (.t 91) (.c (.i .i64 4))⟩,
  ⟨some 93, some (90, true), .ldn 2 (.t 92)⟩,
  ⟨some 94, some (90, true), .build [.i .i64 0, .i .i64 0] [(0, 1, (.c (.i .i64 1))), (1, 1, (.c (.i .i64 1)))]⟩,
  ⟨some 95, some (90, true), .eqv false (.agg [.i .i64, .i .i64]) (.t 93) (.t 94)⟩,
  ⟨some 96, none, .pick (.t 90) (.t 95) (.c (.b false))⟩,
  ⟨some 97, none, .mov (.t 96)⟩,
  ⟨some 98, some (97, true), .mov (.t 8)⟩,
  ⟨some 99, some (97, true), .ixS 2 (.t 98) (.c (.i .i64 1))⟩,
  ⟨some 100, some (97, true), .ldn 2 (.t 99)⟩,
  ⟨some 101, some (97, true), .build [.i .i64 0, .i .i64 0] []⟩,
  ⟨some 102, some (97, true), .eqv false (.agg [.i .i64, .i .i64]) (.t 100) (.t 101)⟩,
  ⟨some 103, none, .pick (.t 97) (.t 102) (.c (.b false))⟩,
  ⟨some 104, none, .mov (.t 103)⟩,
  ⟨some 105, some (104, true), .mov (.t 11)⟩,
  ⟨some 106, some (104, true), .bin .eql (.t 105) (.c (.i .i64 0))⟩,
  ⟨some 107, none, .pick (.t 104) (.t 106) (.c (.b false))⟩,
  ⟨some 108, none, .mov (.t 107)⟩,
  ⟨some 109, some (108, true), .mov (.t 10)⟩,
  ⟨some 110, some (108, true), .lenL (.t 109)⟩,
  ⟨some 111, some (108, true), .bin .eql (.t 110) (.c (.i .i64 3))⟩,
  ⟨some 112, none, .pick (.t 108) (.t 111) (.c (.b false))⟩,
  ⟨some 113, none, .mov (.t 112)⟩,
  ⟨some 114, some (113, true), .mov (.t 10)⟩,
  ⟨some 115, some (113, true), .ixS 1 (.t 114) (.c (.i .i64 2))⟩,
  ⟨some 116, some (113, true), .ld (.t 115)⟩,
  ⟨some 117, some (113, true), .buildSl [.i .i64 0, .i .i64 0, .i .i64 0] 3 [(0, 1, (.c (.i .i64 1))), (1, 1, (.c (.i .i64 2))), (2, 1, (.c (.i .i64 0)))]⟩,
  ⟨some 118, some (113, true), .call (.f 30) [(.t 116), (.t 117)]⟩,
  ⟨some 119, none, .pick (.t 113) (.t 118) (.c (.b false))⟩,
  ⟨some 120, none, .mov (.t 119)⟩,
  ⟨some 121, some (120, true), .fld 0 (.t 4)⟩,
  ⟨some 122, some (120, true), .ld (.t 121)⟩,
  ⟨some 123, some (120, true), .buildSl [.i .i64 0, .i .i64 0, .i .i64 0, .i .i64 0] 4 [(0, 1, (.c (.i .i64 3))), (1, 1, (.c (.i .i64 0))), (2, 1, (.c (.i .i64 1))), (3, 1, (.c (.i .i64 2)))]⟩,
  ⟨some 124, some (120, true), .call (.f 30) [(.t 122), (.t 123)]⟩,
  ⟨some 125, none, .pick (.t 120) (.t 124) (.c (.b false))⟩,
  ⟨some 0, none, .mov (.t 125)⟩]
/-- sennet.sennetlaw04.alive -/
def a22 : FI := ⟨126, [.tmp 0], .seq (.ops r22_0) (.seq (.ops r22_1) (.seq (.ops r22_2) (.seq (.ops r22_3) (.seq (.ops r22_4) (.seq (.ops r22_5) (.seq (.ops r22_6) (.seq (.seq (.ops r22_7) (.cond (.t 82) (.seq (.ops r22_8) (.ret)) (.skip))) (.seq (.ops r22_9) (.ret)))))))))⟩
def r23_0 : List O := [⟨some 1, none, .box (.t 0)⟩,
  ⟨some 2, none, .alloc [.sn, .i .i64 0, .sn]⟩,
  ⟨some 3, none, .mov (.c (.i .i64 0))⟩]
def r23_1 : List O := [⟨some 11, none, .ldn 2 (.t 1)⟩,
  ⟨some 12, none, .call (.f 66) [(.t 11)]⟩,
  ⟨some 4, none, .mov (.t 12)⟩]
def r23_2 : List O := [⟨some 13, none, .mov (.t 4)⟩,
  ⟨some 14, none, .bin .neq (.t 13) (.c (.i .i64 0))⟩]
def r23_3 : List O := [⟨some 15, none, .build [.sn, .i .i64 0, .sn] []⟩,
  ⟨some 16, none, .mov (.t 4)⟩,
  ⟨none, none, .st 3 (.t 2) (.t 15)⟩,
  ⟨some 3, none, .mov (.t 16)⟩]
def r23_4 : List O := [⟨some 18, none, .ldn 2 (.t 1)⟩,
  ⟨some 19, none, .call (.f 67) [(.t 18)]⟩,
  ⟨some 17, none, .mov (.t 19)⟩,
  ⟨some 20, none, .ext (.t 17) 0⟩,
  ⟨some 21, none, .ext (.t 17) 1⟩,
  ⟨some 5, none, .mov (.t 20)⟩,
  ⟨some 6, none, .mov (.t 21)⟩]
def r23_5 : List O := [⟨some 22, none, .mov (.t 6)⟩,
  ⟨some 23, none, .bin .neq (.t 22) (.c (.i .i64 0))⟩]
def r23_6 : List O := [⟨some 24, none, .build [.sn, .i .i64 0, .sn] []⟩,
  ⟨some 25, none, .mov (.t 6)⟩,
  ⟨none, none, .st 3 (.t 2) (.t 24)⟩,
  ⟨some 3, none, .mov (.t 25)⟩]
def r23_7 : List O := [⟨some 26, none, .ldn 2 (.t 1)⟩,
  ⟨some 27, none, .mov (.t 5)⟩,
  ⟨some 28, none, .call (.f 68) [(.t 26), (.t 27), (.c (.i .i64 (-1)))]⟩,
  ⟨some 7, none, .mov (.t 28)⟩]
def r23_8 : List O := [⟨some 8, none, .alloc [.sn, .i .i64 0, .sn]⟩]
def r23_9 : List O := [⟨some 30, none, .mov (.t 7)⟩,
  ⟨some 31, none, .call (.f 69) [(.t 30)]⟩,
  ⟨some 29, none, .mov (.t 31)⟩,
  ⟨some 32, none, .ext (.t 29) 0⟩,
  ⟨some 33, none, .ext (.t 29) 1⟩,
  ⟨some 34, none, .fld 0 (.t 8)⟩,
  ⟨none, none, .st 1 (.t 34) (.t 32)⟩,
  ⟨some 35, none, .fld 1 (.t 8)⟩,
  ⟨none, none, .st 1 (.t 35) (.t 33)⟩]
def r23_10 : List O := [⟨some 36, none, .mov (.t 5)⟩,
  ⟨some 37, none, .lenL (.t 36)⟩,
  ⟨some 38, none, .mov (.c (.i .i64 0))⟩]
def r23_11 : List O := [⟨some 39, none, .bin .lss (.t 38) (.t 37)⟩]
def r23_12 : List O := [⟨some 40, none, .mov (.t 38)⟩,
  ⟨some 41, none, .ixS 1 (.t 36) (.t 38)⟩,
  ⟨some 42, none, .ld (.t 41)⟩,
  ⟨some 9, none, .mov (.t 40)⟩,
  ⟨some 10, none, .mov (.t 42)⟩]
def r23_13 : List O := [⟨some 43, none, .fld 2 (.t 8)⟩,
  ⟨some 44, none, .ld (.t 43)⟩,
  ⟨some 45, none, .mov (.t 10)⟩,
  ⟨some 46, none, .call (.f 70) [(.t 45)]⟩,
  ⟨some 47, none, .mov (.t 7)⟩,
  ⟨some 48, none, .nilck (.t 47)⟩,
  ⟨some 49, none, .fld 578 (.t 48)⟩,
  ⟨some 50, none, .ld (.t 49)⟩,
  ⟨some 51, none, .mov (.t 9)⟩,
  ⟨some 52, none, .ixS 1 (.t 50) (.t 51)⟩,
  ⟨some 53, none, .ld (.t 52)⟩,
  ⟨some 54, none, .build [.sn, .sn] [(0, 1, (.t 46)), (1, 1, (.t 53))]⟩,
  ⟨some 55, none, .buildSl [.sn, .sn] 1 [(0, 2, (.t 54))]⟩,
  ⟨some 56, none, .app 2 48 (.t 44) (.t 55)⟩,
  ⟨some 57, none, .fld 2 (.t 8)⟩,
  ⟨none, none, .st 1 (.t 57) (.t 56)⟩]
def r23_14 : List O := [⟨some 58, none, .bin .add (.t 38) (.c (.i .i64 1))⟩,
  ⟨some 38, none, .mov (.t 58)⟩]
def b23_0 : C := .seq (.ops r23_11) (.seq (.cond (.t 39) (.skip) (.exit 0)) (.seq (.block 1 (.seq (.ops r23_12) (.draw r23_13 [(1, 3), (3, 7), (3, 10)]))) (.ops r23_14)))
def r23_15 : List O := [⟨some 59, none, .ldn 3 (.t 8)⟩,
  ⟨none, none, .st 3 (.t 2) (.t 59)⟩,
  ⟨some 3, none, .mov (.c (.i .i64 0))⟩]
/-- sennet.rows.Least -/
def a23 : FI := ⟨60, [.cell 2 (some 3), .tmp 3], .seq (.ops r23_0) (.seq (.seq (.ops r23_1) (.seq (.ops r23_2) (.cond (.t 14) (.seq (.ops r23_3) (.ret)) (.skip)))) (.seq (.ops r23_4) (.seq (.seq (.ops r23_5) (.cond (.t 23) (.seq (.ops r23_6) (.ret)) (.skip))) (.seq (.ops r23_7) (.seq (.ops r23_8) (.seq (.ops r23_9) (.seq (.seq (.ops r23_10) (.block 0 (.loop b23_0))) (.seq (.ops r23_15) (.ret)))))))))⟩
def r24_0 : List O := [⟨some 1, none, .box (.t 0)⟩,
  ⟨some 2, none, .alloc [.sn, .i .i64 0, .sn]⟩,
  ⟨some 3, none, .mov (.c (.i .i64 0))⟩]
def r24_1 : List O := [⟨some 10, none, .ldn 2 (.t 1)⟩,
  ⟨some 11, none, .call (.f 71) [(.t 10)]⟩,
  ⟨some 4, none, .mov (.t 11)⟩]
def r24_2 : List O := [⟨some 12, none, .mov (.t 4)⟩,
  ⟨some 13, none, .bin .neq (.t 12) (.c (.i .i64 0))⟩]
def r24_3 : List O := [⟨some 14, none, .build [.sn, .i .i64 0, .sn] []⟩,
  ⟨some 15, none, .mov (.t 4)⟩,
  ⟨none, none, .st 3 (.t 2) (.t 14)⟩,
  ⟨some 3, none, .mov (.t 15)⟩]
def r24_4 : List O := [⟨some 16, none, .ldn 2 (.t 1)⟩,
  ⟨some 17, none, .ldn 2 (.t 1)⟩,
  ⟨some 18, none, .call (.f 73) [(.t 17)]⟩,
  ⟨some 19, none, .build [.b false, .i .i64 0, .sn] []⟩,
  ⟨some 20, none, .call (.f 72) [(.t 16), (.t 18), (.c (.sn)), (.c (.i .i64 (-1))), (.t 19)]⟩,
  ⟨some 5, none, .alloc [.b false, .i .i64 0, .sn]⟩,
  ⟨none, none, .st 3 (.t 5) (.t 20)⟩]
def r24_5 : List O := [⟨some 21, none, .fld 2 (.t 5)⟩,
  ⟨some 22, none, .ld (.t 21)⟩,
  ⟨some 23, none, .fld 1 (.t 5)⟩,
  ⟨some 24, none, .ld (.t 23)⟩,
  ⟨some 25, none, .build [.sn, .i .i64 0, .sn] [(0, 1, (.t 22)), (1, 1, (.t 24))]⟩,
  ⟨some 6, none, .alloc [.sn, .i .i64 0, .sn]⟩,
  ⟨none, none, .st 3 (.t 6) (.t 25)⟩]
def r24_6 : List O := [⟨some 26, none, .ldn 2 (.t 1)⟩,
  ⟨some 27, none, .call (.f 74) [(.t 26)]⟩,
  ⟨some 7, none, .mov (.t 27)⟩]
def r24_7 : List O := [⟨some 8, none, .mov (.c (.i .i64 0))⟩]
def r24_8 : List O := [⟨some 28, none, .mov (.t 8)⟩,
  ⟨some 29, none, .mov (.t 7)⟩,
  ⟨some 30, none, .lenL (.t 29)⟩,
  ⟨some 31, none, .bin .lss (.t 28) (.t 30)⟩]
def r24_10 : List O := [⟨some 34, none, .ldn 2 (.t 1)⟩,
  ⟨some 35, none, .mov (.t 7)⟩,
  ⟨some 36, none, .mov (.t 8)⟩,
  ⟨some 37, none, .ixS 1 (.t 35) (.t 36)⟩,
  ⟨some 38, none, .ld (.t 37)⟩,
  ⟨some 39, none, .call (.f 75) [(.t 34), (.t 38)]⟩,
  ⟨some 9, none, .alloc [.sn, .sn]⟩,
  ⟨none, none, .st 2 (.t 9) (.t 39)⟩]
def r24_11 : List O := [⟨some 40, none, .fld 2 (.t 6)⟩,
  ⟨some 41, none, .ld (.t 40)⟩,
  ⟨some 42, none, .ldn 2 (.t 9)⟩,
  ⟨some 43, none, .buildSl [.sn, .sn] 1 [(0, 2, (.t 42))]⟩,
  ⟨some 44, none, .app 2 48 (.t 41) (.t 43)⟩,
  ⟨some 45, none, .fld 2 (.t 6)⟩,
  ⟨none, none, .st 1 (.t 45) (.t 44)⟩]
def r24_9 : List O := [⟨some 32, none, .mov (.t 8)⟩,
  ⟨some 33, none, .bin .add (.t 32) (.c (.i .i64 1))⟩,
  ⟨some 8, none, .mov (.t 33)⟩]
def b24_0 : C := .seq (.seq (.ops r24_8) (.cond (.t 31) (.skip) (.exit 0))) (.seq (.block 1 (.seq (.draw r24_10 []) (.ops r24_11))) (.ops r24_9))
def r24_12 : List O := [⟨some 46, none, .ldn 3 (.t 6)⟩,
  ⟨none, none, .st 3 (.t 2) (.t 46)⟩,
  ⟨some 3, none, .mov (.c (.i .i64 0))⟩]
/-- sennet.sennetref04.Least -/
def a24 : FI := ⟨47, [.cell 2 (some 3), .tmp 3], .seq (.ops r24_0) (.seq (.ops r24_1) (.seq (.seq (.ops r24_2) (.cond (.t 13) (.seq (.ops r24_3) (.ret)) (.skip))) (.seq (.draw r24_4 [(0, 2)]) (.seq (.ops r24_5) (.seq (.ops r24_6) (.seq (.seq (.ops r24_7) (.block 0 (.loop b24_0))) (.seq (.ops r24_12) (.ret))))))))⟩
def r25_0 : List O := [⟨some 2, none, .box (.t 0)⟩,
  ⟨some 3, none, .box (.t 1)⟩,
  ⟨some 4, none, .mov (.c (.b false))⟩]
def r25_1 : List O := [⟨some 9, none, .fld 0 (.t 2)⟩,
  ⟨some 10, none, .ld (.t 9)⟩,
  ⟨some 11, none, .fld 0 (.t 3)⟩,
  ⟨some 12, none, .ld (.t 11)⟩,
  ⟨some 13, none, .call (.f 30) [(.t 10), (.t 12)]⟩,
  ⟨some 5, none, .mov (.t 13)⟩]
def r25_2 : List O := [⟨some 14, none, .mov (.t 5)⟩,
  ⟨some 15, none, .un .not (.t 14)⟩,
  ⟨some 16, none, .mov (.t 15)⟩,
  ⟨some 17, some (16, false), .fld 1 (.t 2)⟩,
  ⟨some 18, some (16, false), .ld (.t 17)⟩,
  ⟨some 19, some (16, false), .fld 1 (.t 3)⟩,
  ⟨some 20, some (16, false), .ld (.t 19)⟩,
  ⟨some 21, some (16, false), .bin .neq (.t 18) (.t 20)⟩,
  ⟨some 22, none, .pick (.t 16) (.c (.b true)) (.t 21)⟩,
  ⟨some 23, none, .mov (.t 22)⟩,
  ⟨some 24, some (23, false), .fld 2 (.t 2)⟩,
  ⟨some 25, some (23, false), .ld (.t 24)⟩,
  ⟨some 26, some (23, false), .lenL (.t 25)⟩,
  ⟨some 27, some (23, false), .fld 2 (.t 3)⟩,
  ⟨some 28, some (23, false), .ld (.t 27)⟩,
  ⟨some 29, some (23, false), .lenL (.t 28)⟩,
  ⟨some 30, some (23, false), .bin .neq (.t 26) (.t 29)⟩,
  ⟨some 31, none, .pick (.t 23) (.c (.b true)) (.t 30)⟩]
def r25_3 : List O := [⟨some 4, none, .mov (.c (.b false))⟩]
def r25_4 : List O := [⟨some 6, none, .mov (.c (.i .i64 0))⟩]
def r25_5 : List O := [⟨some 32, none, .mov (.t 6)⟩,
  ⟨some 33, none, .fld 2 (.t 2)⟩,
  ⟨some 34, none, .ld (.t 33)⟩,
  ⟨some 35, none, .lenL (.t 34)⟩,
  ⟨some 36, none, .bin .lss (.t 32) (.t 35)⟩]
def r25_7 : List O := [⟨some 39, none, .fld 2 (.t 2)⟩,
  ⟨some 40, none, .ld (.t 39)⟩,
  ⟨some 41, none, .mov (.t 6)⟩,
  ⟨some 42, none, .ixS 2 (.t 40) (.t 41)⟩,
  ⟨some 43, none, .fld 0 (.t 42)⟩,
  ⟨some 44, none, .ld (.t 43)⟩,
  ⟨some 45, none, .fld 2 (.t 3)⟩,
  ⟨some 46, none, .ld (.t 45)⟩,
  ⟨some 47, none, .mov (.t 6)⟩,
  ⟨some 48, none, .ixS 2 (.t 46) (.t 47)⟩,
  ⟨some 49, none, .fld 0 (.t 48)⟩,
  ⟨some 50, none, .ld (.t 49)⟩,
  ⟨some 51, none, .call (.f 30) [(.t 44), (.t 50)]⟩,
  ⟨some 7, none, .mov (.t 51)⟩]
def r25_8 : List O := [⟨some 52, none, .fld 2 (.t 2)⟩,
  ⟨some 53, none, .ld (.t 52)⟩,
  ⟨some 54, none, .mov (.t 6)⟩,
  ⟨some 55, none, .ixS 2 (.t 53) (.t 54)⟩,
  ⟨some 56, none, .fld 1 (.t 55)⟩,
  ⟨some 57, none, .ld (.t 56)⟩,
  ⟨some 58, none, .fld 2 (.t 3)⟩,
  ⟨some 59, none, .ld (.t 58)⟩,
  ⟨some 60, none, .mov (.t 6)⟩,
  ⟨some 61, none, .ixS 2 (.t 59) (.t 60)⟩,
  ⟨some 62, none, .fld 1 (.t 61)⟩,
  ⟨some 63, none, .ld (.t 62)⟩,
  ⟨some 64, none, .call (.f 30) [(.t 57), (.t 63)]⟩,
  ⟨some 8, none, .mov (.t 64)⟩]
def r25_9 : List O := [⟨some 65, none, .mov (.t 7)⟩,
  ⟨some 66, none, .un .not (.t 65)⟩,
  ⟨some 67, none, .mov (.t 66)⟩,
  ⟨some 68, some (67, false), .mov (.t 8)⟩,
  ⟨some 69, some (67, false), .un .not (.t 68)⟩,
  ⟨some 70, none, .pick (.t 67) (.c (.b true)) (.t 69)⟩]
def r25_10 : List O := [⟨some 4, none, .mov (.c (.b false))⟩]
def r25_6 : List O := [⟨some 37, none, .mov (.t 6)⟩,
  ⟨some 38, none, .bin .add (.t 37) (.c (.i .i64 1))⟩,
  ⟨some 6, none, .mov (.t 38)⟩]
def b25_0 : C := .seq (.seq (.ops r25_5) (.cond (.t 36) (.skip) (.exit 0))) (.seq (.block 1 (.seq (.draw r25_7 []) (.seq (.draw r25_8 []) (.seq (.ops r25_9) (.cond (.t 70) (.seq (.ops r25_10) (.ret)) (.skip)))))) (.ops r25_6))
def r25_11 : List O := [⟨some 4, none, .mov (.c (.b true))⟩]
/-- sennet.sennetref04.SamePlan -/
def a25 : FI := ⟨71, [.tmp 4], .seq (.ops r25_0) (.seq (.ops r25_1) (.seq (.seq (.ops r25_2) (.cond (.t 31) (.seq (.ops r25_3) (.ret)) (.skip))) (.seq (.seq (.ops r25_4) (.block 0 (.loop b25_0))) (.seq (.ops r25_11) (.ret)))))⟩
def r26_0 : List O := [⟨some 2, none, .box (.t 0)⟩,
  ⟨some 4, none, .alloc [.sn, .i .i64 0, .sn]⟩,
  ⟨some 5, none, .mov (.c (.i .i64 0))⟩]
def r26_1 : List O := [⟨some 11, none, .ldn 2 (.t 2)⟩,
  ⟨some 12, none, .call (.f 66) [(.t 11)]⟩,
  ⟨some 6, none, .mov (.t 12)⟩]
def r26_2 : List O := [⟨some 13, none, .mov (.t 6)⟩,
  ⟨some 14, none, .bin .neq (.t 13) (.c (.i .i64 0))⟩]
def r26_3 : List O := [⟨some 15, none, .build [.sn, .i .i64 0, .sn] []⟩,
  ⟨some 16, none, .mov (.t 6)⟩,
  ⟨none, none, .st 3 (.t 4) (.t 15)⟩,
  ⟨some 5, none, .mov (.t 16)⟩]
def r26_4 : List O := [⟨some 17, none, .mov (.t 1)⟩,
  ⟨some 18, none, .bin .lss (.t 17) (.c (.i .i64 0))⟩,
  ⟨some 19, none, .mov (.t 18)⟩,
  ⟨some 20, some (19, false), .mov (.t 1)⟩,
  ⟨some 21, some (19, false), .fld 0 (.t 2)⟩,
  ⟨some 22, some (19, false), .ld (.t 21)⟩,
  ⟨some 23, some (19, false), .bin .geq (.t 20) (.t 22)⟩,
  ⟨some 24, none, .pick (.t 19) (.c (.b true)) (.t 23)⟩]
def r26_5 : List O := [⟨some 25, none, .build [.sn, .i .i64 0, .sn] []⟩,
  ⟨none, none, .st 3 (.t 4) (.t 25)⟩,
  ⟨some 5, none, .mov (.c (.i .i64 1))⟩]
def r26_6 : List O := [⟨some 27, none, .ldn 2 (.t 2)⟩,
  ⟨some 28, none, .call (.f 67) [(.t 27)]⟩,
  ⟨some 26, none, .mov (.t 28)⟩,
  ⟨some 29, none, .ext (.t 26) 0⟩,
  ⟨some 30, none, .ext (.t 26) 1⟩,
  ⟨some 7, none, .mov (.t 29)⟩,
  ⟨some 8, none, .mov (.t 30)⟩]
def r26_7 : List O := [⟨some 31, none, .mov (.t 8)⟩,
  ⟨some 32, none, .bin .neq (.t 31) (.c (.i .i64 0))⟩]
def r26_8 : List O := [⟨some 33, none, .build [.sn, .i .i64 0, .sn] []⟩,
  ⟨some 34, none, .mov (.t 8)⟩,
  ⟨none, none, .st 3 (.t 4) (.t 33)⟩,
  ⟨some 5, none, .mov (.t 34)⟩]
def r26_9 : List O := [⟨some 36, none, .ldn 2 (.t 2)⟩,
  ⟨some 37, none, .mov (.t 7)⟩,
  ⟨some 38, none, .mov (.t 1)⟩,
  ⟨some 39, none, .call (.f 68) [(.t 36), (.t 37), (.t 38)]⟩,
  ⟨some 40, none, .call (.f 69) [(.t 39)]⟩,
  ⟨some 35, none, .mov (.t 40)⟩,
  ⟨some 41, none, .ext (.t 35) 0⟩,
  ⟨some 42, none, .ext (.t 35) 1⟩,
  ⟨some 9, none, .mov (.t 41)⟩,
  ⟨some 10, none, .mov (.t 42)⟩]
def r26_10 : List O := [⟨some 43, none, .mov (.t 9)⟩,
  ⟨some 44, none, .mov (.t 10)⟩,
  ⟨some 45, none, .build [.sn, .i .i64 0, .sn] [(0, 1, (.t 43)), (1, 1, (.t 44))]⟩,
  ⟨none, none, .st 3 (.t 4) (.t 45)⟩,
  ⟨some 5, none, .mov (.c (.i .i64 0))⟩]
/-- sennet.rows.Spared -/
def a26 : FI := ⟨46, [.cell 4 (some 3), .tmp 5], .seq (.ops r26_0) (.seq (.seq (.ops r26_1) (.seq (.ops r26_2) (.cond (.t 14) (.seq (.ops r26_3) (.ret)) (.skip)))) (.seq (.seq (.ops r26_4) (.cond (.t 24) (.seq (.ops r26_5) (.ret)) (.skip))) (.seq (.ops r26_6) (.seq (.seq (.ops r26_7) (.cond (.t 32) (.seq (.ops r26_8) (.ret)) (.skip))) (.seq (.ops r26_9) (.seq (.ops r26_10) (.ret)))))))⟩
def r27_0 : List O := [⟨some 2, none, .box (.t 0)⟩,
  ⟨some 4, none, .alloc [.sn, .i .i64 0, .sn]⟩,
  ⟨some 5, none, .mov (.c (.i .i64 0))⟩]
def r27_1 : List O := [⟨some 8, none, .ldn 2 (.t 2)⟩,
  ⟨some 9, none, .call (.f 76) [(.t 8)]⟩,
  ⟨some 6, none, .mov (.t 9)⟩]
def r27_2 : List O := [⟨some 10, none, .mov (.t 6)⟩,
  ⟨some 11, none, .bin .neq (.t 10) (.c (.i .i64 0))⟩]
def r27_3 : List O := [⟨some 12, none, .build [.sn, .i .i64 0, .sn] []⟩,
  ⟨some 13, none, .mov (.t 6)⟩,
  ⟨none, none, .st 3 (.t 4) (.t 12)⟩,
  ⟨some 5, none, .mov (.t 13)⟩]
def r27_4 : List O := [⟨some 14, none, .mov (.t 1)⟩,
  ⟨some 15, none, .bin .lss (.t 14) (.c (.i .i64 0))⟩,
  ⟨some 16, none, .mov (.t 15)⟩,
  ⟨some 17, some (16, false), .mov (.t 1)⟩,
  ⟨some 18, some (16, false), .fld 0 (.t 2)⟩,
  ⟨some 19, some (16, false), .ld (.t 18)⟩,
  ⟨some 20, some (16, false), .bin .geq (.t 17) (.t 19)⟩,
  ⟨some 21, none, .pick (.t 16) (.c (.b true)) (.t 20)⟩]
def r27_5 : List O := [⟨some 22, none, .build [.sn, .i .i64 0, .sn] []⟩,
  ⟨none, none, .st 3 (.t 4) (.t 22)⟩,
  ⟨some 5, none, .mov (.c (.i .i64 1))⟩]
def r27_6 : List O := [⟨some 23, none, .ldn 2 (.t 2)⟩,
  ⟨some 24, none, .call (.f 71) [(.t 23)]⟩,
  ⟨some 6, none, .mov (.t 24)⟩]
def r27_7 : List O := [⟨some 25, none, .mov (.t 6)⟩,
  ⟨some 26, none, .bin .neq (.t 25) (.c (.i .i64 0))⟩]
def r27_8 : List O := [⟨some 27, none, .build [.sn, .i .i64 0, .sn] []⟩,
  ⟨some 28, none, .mov (.t 6)⟩,
  ⟨none, none, .st 3 (.t 4) (.t 27)⟩,
  ⟨some 5, none, .mov (.t 28)⟩]
def r27_9 : List O := [⟨some 29, none, .ldn 2 (.t 2)⟩,
  ⟨some 30, none, .ldn 2 (.t 2)⟩,
  ⟨some 31, none, .call (.f 73) [(.t 30)]⟩,
  ⟨some 32, none, .mov (.t 1)⟩,
  ⟨some 33, none, .build [.b false, .i .i64 0, .sn] []⟩,
  ⟨some 34, none, .call (.f 72) [(.t 29), (.t 31), (.c (.sn)), (.t 32), (.t 33)]⟩,
  ⟨some 7, none, .alloc [.b false, .i .i64 0, .sn]⟩,
  ⟨none, none, .st 3 (.t 7) (.t 34)⟩]
def r27_10 : List O := [⟨some 35, none, .fld 2 (.t 7)⟩,
  ⟨some 36, none, .ld (.t 35)⟩,
  ⟨some 37, none, .fld 1 (.t 7)⟩,
  ⟨some 38, none, .ld (.t 37)⟩,
  ⟨some 39, none, .build [.sn, .i .i64 0, .sn] [(0, 1, (.t 36)), (1, 1, (.t 38))]⟩,
  ⟨none, none, .st 3 (.t 4) (.t 39)⟩,
  ⟨some 5, none, .mov (.c (.i .i64 0))⟩]
/-- sennet.sennetref04.Spared -/
def a27 : FI := ⟨40, [.cell 4 (some 3), .tmp 5], .seq (.ops r27_0) (.seq (.ops r27_1) (.seq (.seq (.ops r27_2) (.cond (.t 11) (.seq (.ops r27_3) (.ret)) (.skip))) (.seq (.seq (.ops r27_4) (.cond (.t 21) (.seq (.ops r27_5) (.ret)) (.skip))) (.seq (.ops r27_6) (.seq (.seq (.ops r27_7) (.cond (.t 26) (.seq (.ops r27_8) (.ret)) (.skip))) (.seq (.draw r27_9 [(0, 2)]) (.seq (.ops r27_10) (.ret))))))))⟩
def r28_0 : List O := [⟨some 1, none, .box (.t 0)⟩,
  ⟨some 2, none, .mov (.c (.sn))⟩,
  ⟨some 3, none, .mov (.c (.i .i64 0))⟩]
def r28_1 : List O := [⟨some 11, none, .ldn 2 (.t 1)⟩,
  ⟨some 12, none, .call (.f 23) [(.t 11)]⟩,
  ⟨some 10, none, .mov (.t 12)⟩,
  ⟨some 13, none, .ext (.t 10) 0⟩,
  ⟨some 14, none, .ext (.t 10) 1⟩,
  ⟨some 4, none, .alloc [.sn, .i .i64 0, .sn]⟩,
  ⟨none, none, .st 3 (.t 4) (.t 13)⟩,
  ⟨some 5, none, .mov (.t 14)⟩]
def r28_2 : List O := [⟨some 15, none, .mov (.t 5)⟩,
  ⟨some 16, none, .bin .neq (.t 15) (.c (.i .i64 0))⟩]
def r28_3 : List O := [⟨some 17, none, .mov (.t 5)⟩,
  ⟨some 2, none, .mov (.c (.sn))⟩,
  ⟨some 3, none, .mov (.t 17)⟩]
def r28_4 : List O := [⟨some 6, none, .mov (.c (.sn))⟩]
def r28_5 : List O := [⟨some 18, none, .fld 0 (.t 1)⟩,
  ⟨some 19, none, .ld (.t 18)⟩,
  ⟨some 20, none, .mov (.c (.i .i64 0))⟩]
def r28_6 : List O := [⟨some 21, none, .bin .lss (.t 20) (.t 19)⟩]
def r28_7 : List O := [⟨some 22, none, .mov (.t 20)⟩,
  ⟨some 7, none, .mov (.t 22)⟩]
def r28_8 : List O := [⟨some 24, none, .ldn 2 (.t 1)⟩,
  ⟨some 25, none, .mov (.t 7)⟩,
  ⟨some 26, none, .call (.f 26) [(.t 24), (.t 25)]⟩,
  ⟨some 23, none, .mov (.t 26)⟩,
  ⟨some 27, none, .ext (.t 23) 0⟩,
  ⟨some 28, none, .ext (.t 23) 1⟩,
  ⟨some 8, none, .alloc [.sn, .i .i64 0, .sn]⟩,
  ⟨none, none, .st 3 (.t 8) (.t 27)⟩,
  ⟨some 9, none, .mov (.t 28)⟩]
def r28_9 : List O := [⟨some 29, none, .fld 1 (.t 8)⟩,
  ⟨some 30, none, .ld (.t 29)⟩,
  ⟨some 31, none, .fld 1 (.t 4)⟩,
  ⟨some 32, none, .ld (.t 31)⟩,
  ⟨some 33, none, .bin .gtr (.t 30) (.t 32)⟩]
def r28_10 : List O := [⟨some 34, none, .mov (.t 6)⟩,
  ⟨some 35, none, .mov (.t 7)⟩,
  ⟨some 36, none, .buildSl [.i .i64 0] 1 [(0, 1, (.t 35))]⟩,
  ⟨some 37, none, .app 1 8 (.t 34) (.t 36)⟩,
  ⟨some 6, none, .mov (.t 37)⟩]
def r28_11 : List O := [⟨some 38, none, .bin .add (.t 20) (.c (.i .i64 1))⟩,
  ⟨some 20, none, .mov (.t 38)⟩]
def b28_0 : C := .seq (.ops r28_6) (.seq (.cond (.t 21) (.skip) (.exit 0)) (.seq (.block 1 (.seq (.ops r28_7) (.seq (.ops r28_8) (.seq (.ops r28_9) (.cond (.t 33) (.ops r28_10) (.skip)))))) (.ops r28_11)))
def r28_12 : List O := [⟨some 39, none, .mov (.t 6)⟩,
  ⟨some 2, none, .mov (.t 39)⟩,
  ⟨some 3, none, .mov (.c (.i .i64 0))⟩]
/-- sennet.rows.Must -/
def a28 : FI := ⟨40, [.tmp 2, .tmp 3], .seq (.ops r28_0) (.seq (.ops r28_1) (.seq (.seq (.ops r28_2) (.cond (.t 16) (.seq (.ops r28_3) (.ret)) (.skip))) (.seq (.ops r28_4) (.seq (.seq (.ops r28_5) (.block 0 (.loop b28_0))) (.seq (.ops r28_12) (.ret))))))⟩
def r29_0 : List O := [⟨some 1, none, .box (.t 0)⟩,
  ⟨some 2, none, .mov (.c (.sn))⟩,
  ⟨some 3, none, .mov (.c (.i .i64 0))⟩]
def r29_1 : List O := [⟨some 9, none, .ldn 2 (.t 1)⟩,
  ⟨some 10, none, .call (.f 71) [(.t 9)]⟩,
  ⟨some 4, none, .mov (.t 10)⟩]
def r29_2 : List O := [⟨some 11, none, .mov (.t 4)⟩,
  ⟨some 12, none, .bin .neq (.t 11) (.c (.i .i64 0))⟩]
def r29_3 : List O := [⟨some 13, none, .mov (.t 4)⟩,
  ⟨some 2, none, .mov (.c (.sn))⟩,
  ⟨some 3, none, .mov (.t 13)⟩]
def r29_4 : List O := [⟨some 14, none, .ldn 2 (.t 1)⟩,
  ⟨some 15, none, .call (.f 77) [(.t 14)]⟩,
  ⟨some 5, none, .mov (.t 15)⟩]
def r29_5 : List O := [⟨some 6, none, .mov (.c (.sn))⟩]
def r29_6 : List O := [⟨some 7, none, .mov (.c (.i .i64 0))⟩]
def r29_7 : List O := [⟨some 16, none, .mov (.t 7)⟩,
  ⟨some 17, none, .fld 0 (.t 1)⟩,
  ⟨some 18, none, .ld (.t 17)⟩,
  ⟨some 19, none, .bin .lss (.t 16) (.t 18)⟩]
def r29_9 : List O := [⟨some 22, none, .ldn 2 (.t 1)⟩,
  ⟨some 23, none, .ldn 2 (.t 1)⟩,
  ⟨some 24, none, .call (.f 73) [(.t 23)]⟩,
  ⟨some 25, none, .mov (.t 7)⟩,
  ⟨some 26, none, .build [.b false, .i .i64 0, .sn] []⟩,
  ⟨some 27, none, .call (.f 72) [(.t 22), (.t 24), (.c (.sn)), (.t 25), (.t 26)]⟩,
  ⟨some 8, none, .alloc [.b false, .i .i64 0, .sn]⟩,
  ⟨none, none, .st 3 (.t 8) (.t 27)⟩]
def r29_10 : List O := [⟨some 28, none, .fld 1 (.t 8)⟩,
  ⟨some 29, none, .ld (.t 28)⟩,
  ⟨some 30, none, .mov (.t 5)⟩,
  ⟨some 31, none, .bin .gtr (.t 29) (.t 30)⟩]
def r29_11 : List O := [⟨some 32, none, .mov (.t 6)⟩,
  ⟨some 33, none, .mov (.t 7)⟩,
  ⟨some 34, none, .buildSl [.i .i64 0] 1 [(0, 1, (.t 33))]⟩,
  ⟨some 35, none, .app 1 8 (.t 32) (.t 34)⟩,
  ⟨some 6, none, .mov (.t 35)⟩]
def r29_8 : List O := [⟨some 20, none, .mov (.t 7)⟩,
  ⟨some 21, none, .bin .add (.t 20) (.c (.i .i64 1))⟩,
  ⟨some 7, none, .mov (.t 21)⟩]
def b29_0 : C := .seq (.seq (.ops r29_7) (.cond (.t 19) (.skip) (.exit 0))) (.seq (.block 1 (.seq (.draw r29_9 [(0, 2)]) (.seq (.ops r29_10) (.cond (.t 31) (.ops r29_11) (.skip))))) (.ops r29_8))
def r29_12 : List O := [⟨some 36, none, .mov (.t 6)⟩,
  ⟨some 2, none, .mov (.t 36)⟩,
  ⟨some 3, none, .mov (.c (.i .i64 0))⟩]
/-- sennet.sennetref04.Must -/
def a29 : FI := ⟨37, [.tmp 2, .tmp 3], .seq (.ops r29_0) (.seq (.ops r29_1) (.seq (.seq (.ops r29_2) (.cond (.t 12) (.seq (.ops r29_3) (.ret)) (.skip))) (.seq (.ops r29_4) (.seq (.ops r29_5) (.seq (.seq (.ops r29_6) (.block 0 (.loop b29_0))) (.seq (.ops r29_12) (.ret)))))))⟩
def r30_0 : List O := [⟨some 4, none, .mov (.c (.b false))⟩]
def r30_1 : List O := [⟨some 6, none, .mov (.t 0)⟩,
  ⟨some 7, none, .lenL (.t 6)⟩,
  ⟨some 8, none, .mov (.t 1)⟩,
  ⟨some 9, none, .lenL (.t 8)⟩,
  ⟨some 10, none, .bin .neq (.t 7) (.t 9)⟩]
def r30_2 : List O := [⟨some 4, none, .mov (.c (.b false))⟩]
def r30_3 : List O := [⟨some 5, none, .mov (.c (.i .i64 0))⟩]
def r30_4 : List O := [⟨some 11, none, .mov (.t 5)⟩,
  ⟨some 12, none, .mov (.t 0)⟩,
  ⟨some 13, none, .lenL (.t 12)⟩,
  ⟨some 14, none, .bin .lss (.t 11) (.t 13)⟩]
def r30_6 : List O := [⟨some 17, none, .mov (.t 0)⟩,
  ⟨some 18, none, .mov (.t 5)⟩,
  ⟨some 19, none, .ixS 1 (.t 17) (.t 18)⟩,
  ⟨some 20, none, .ld (.t 19)⟩,
  ⟨some 21, none, .mov (.t 1)⟩,
  ⟨some 22, none, .mov (.t 5)⟩,
  ⟨some 23, none, .ixS 1 (.t 21) (.t 22)⟩,
  ⟨some 24, none, .ld (.t 23)⟩,
  ⟨some 25, none, .bin .neq (.t 20) (.t 24)⟩]
def r30_7 : List O := [⟨some 4, none, .mov (.c (.b false))⟩]
def r30_5 : List O := [⟨some 15, none, .mov (.t 5)⟩,
  ⟨some 16, none, .bin .add (.t 15) (.c (.i .i64 1))⟩,
  ⟨some 5, none, .mov (.t 16)⟩]
def b30_0 : C := .seq (.seq (.ops r30_4) (.cond (.t 14) (.skip) (.exit 0))) (.seq (.block 1 (.seq (.draw r30_6 []) (.cond (.t 25) (.seq (.ops r30_7) (.ret)) (.skip)))) (.ops r30_5))
def r30_8 : List O := [⟨some 4, none, .mov (.c (.b true))⟩]
/-- sennet.sennetref04.SameInts -/
def a30 : FI := ⟨26, [.tmp 4], .seq (.ops r30_0) (.seq (.seq (.ops r30_1) (.cond (.t 10) (.seq (.ops r30_2) (.ret)) (.skip))) (.seq (.seq (.ops r30_3) (.block 0 (.loop b30_0))) (.seq (.ops r30_8) (.ret))))⟩

end Go.Air.Try
