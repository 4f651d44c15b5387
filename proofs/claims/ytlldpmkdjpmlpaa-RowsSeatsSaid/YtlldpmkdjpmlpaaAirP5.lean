import Derived.Test.YtlldpmkdjpmlpaaAir
set_option maxRecDepth 100000
namespace Go.Air.Try
def r110_0 : List O := [⟨some 3, none, .box (.t 0)⟩,
  ⟨some 4, none, .box (.t 1)⟩,
  ⟨some 5, none, .box (.t 2)⟩,
  ⟨some 6, none, .mov (.c (.sn))⟩]
def r110_1 : List O := [⟨some 12, none, .ld (.t 4)⟩,
  ⟨some 13, none, .lenL (.t 12)⟩,
  ⟨some 14, none, .bin .shl (.c (.i .i64 1)) (.t 13)⟩,
  ⟨some 15, none, .mkSl [.i .i64 0] 8 (.t 14) (.t 14)⟩,
  ⟨some 7, none, .alloc [.sn]⟩,
  ⟨none, none, .st 1 (.t 7) (.t 15)⟩]
def r110_2 : List O := [⟨some 8, none, .alloc [.i .i64 0]⟩,
  ⟨none, none, .st 1 (.t 8) (.c (.i .i64 1))⟩]
def r110_3 : List O := [⟨some 16, none, .ld (.t 8)⟩,
  ⟨some 17, none, .ld (.t 7)⟩,
  ⟨some 18, none, .lenL (.t 17)⟩,
  ⟨some 19, none, .bin .lss (.t 16) (.t 18)⟩]
def r110_5 : List O := [⟨some 22, none, .ld (.t 7)⟩,
  ⟨some 23, none, .ld (.t 8)⟩,
  ⟨some 24, none, .ixS 1 (.t 22) (.t 23)⟩,
  ⟨none, none, .st 1 (.t 24) (.c (.i .i64 1099511627776))⟩]
def r110_6 : List O := [⟨some 25, none, .ld (.t 8)⟩,
  ⟨some 26, none, .ld (.t 4)⟩,
  ⟨some 27, none, .lenL (.t 26)⟩,
  ⟨some 28, none, .call (.f 122) [(.t 25), (.t 27)]⟩]
def r110_7 : List O := [⟨some 9, none, .mov (.t 29)⟩]
def r110_8 : List O := [⟨some 10, none, .mov (.t 30)⟩]
def r110_9 : List O := [⟨some 31, none, .ld (.t 3)⟩,
  ⟨some 32, none, .ld (.t 4)⟩,
  ⟨some 33, none, .mov (.t 9)⟩,
  ⟨some 34, none, .ld (.t 8)⟩,
  ⟨some 35, none, .mov (.t 10)⟩,
  ⟨some 36, none, .bin .andNot (.t 34) (.t 35)⟩,
  ⟨some 37, none, .call (.f 123) [(.t 31), (.t 32), (.t 33), (.t 36)]⟩,
  ⟨some 11, none, .mov (.t 37)⟩]
def r110_10 : List O := [⟨some 38, none, .ld (.t 4)⟩,
  ⟨some 39, none, .mov (.t 9)⟩,
  ⟨some 40, none, .ixS 1 (.t 38) (.t 39)⟩,
  ⟨some 41, none, .ld (.t 40)⟩,
  ⟨some 42, none, .ld (.t 5)⟩,
  ⟨some 43, none, .bin .eql (.t 41) (.t 42)⟩,
  ⟨some 44, none, .mov (.t 43)⟩,
  ⟨some 45, some (44, true), .mov (.t 11)⟩,
  ⟨some 46, some (44, true), .bin .gtr (.t 45) (.c (.i .i64 0))⟩,
  ⟨some 47, none, .pick (.t 44) (.t 46) (.c (.b false))⟩]
def r110_11 : List O := [⟨some 11, none, .mov (.c (.i .i64 1099511627776))⟩]
def r110_12 : List O := [⟨some 48, none, .ld (.t 7)⟩,
  ⟨some 49, none, .ld (.t 8)⟩,
  ⟨some 50, none, .ld (.t 7)⟩,
  ⟨some 51, none, .ld (.t 8)⟩,
  ⟨some 52, none, .ixS 1 (.t 50) (.t 51)⟩,
  ⟨some 53, none, .ld (.t 52)⟩,
  ⟨some 54, none, .ld (.t 7)⟩,
  ⟨some 55, none, .ld (.t 8)⟩,
  ⟨some 56, none, .mov (.t 10)⟩,
  ⟨some 57, none, .bin .andNot (.t 55) (.t 56)⟩,
  ⟨some 58, none, .ixS 1 (.t 54) (.t 57)⟩,
  ⟨some 59, none, .ld (.t 58)⟩,
  ⟨some 60, none, .mov (.t 11)⟩,
  ⟨some 61, none, .bin .add (.t 59) (.t 60)⟩,
  ⟨some 62, none, .min [(.t 53), (.t 61)]⟩,
  ⟨some 63, none, .ixS 1 (.t 48) (.t 49)⟩,
  ⟨none, none, .st 1 (.t 63) (.t 62)⟩]
def b110_0 : C := .block 3 (.seq (.ops r110_9) (.seq (.seq (.draw r110_10 []) (.cond (.t 47) (.ops r110_11) (.skip))) (.draw r110_12 [])))
def r110_13 : List O := [⟨some 64, none, .ld (.t 8)⟩]
def r110_14 : List O := [⟨some 8, none, .alloc [.i .i64 0]⟩,
  ⟨none, none, .st 1 (.t 8) (.t 64)⟩]
def r110_4 : List O := [⟨some 20, none, .ld (.t 8)⟩,
  ⟨some 21, none, .bin .add (.t 20) (.c (.i .i64 1))⟩,
  ⟨none, none, .st 1 (.t 8) (.t 21)⟩]
def b110_1 : C := .seq (.seq (.ops r110_3) (.cond (.t 19) (.skip) (.exit 0))) (.seq (.block 1 (.seq (.ops r110_5) (.seq (.ops r110_6) (.block 2 (.rangeF (.t 28) [29, 30] (.seq (.ops r110_7) (.ops r110_8)) b110_0))))) (.seq (.seq (.ops r110_13) (.ops r110_14)) (.ops r110_4)))
def r110_15 : List O := [⟨some 65, none, .ld (.t 7)⟩,
  ⟨some 6, none, .mov (.t 65)⟩]
/-- sennet.rows.table -/
def a110 : FI := ⟨66, [.tmp 6], .seq (.ops r110_0) (.seq (.ops r110_1) (.seq (.seq (.ops r110_2) (.block 0 (.loop b110_1))) (.seq (.ops r110_15) (.ret))))⟩
def r111_0 : List O := [⟨some 4, none, .mov (.c (.i .i64 0))⟩]
def r111_1 : List O := [⟨some 5, none, .mov (.c (.i .i64 0))⟩]
def r111_2 : List O := [⟨some 11, none, .mov (.t 0)⟩,
  ⟨some 12, none, .nilck (.t 11)⟩,
  ⟨some 13, none, .fld 577 (.t 12)⟩,
  ⟨some 14, none, .ld (.t 13)⟩,
  ⟨some 15, none, .lenL (.t 14)⟩,
  ⟨some 16, none, .mov (.c (.i .i64 0))⟩]
def r111_3 : List O := [⟨some 17, none, .bin .lss (.t 16) (.t 15)⟩]
def r111_4 : List O := [⟨some 18, none, .mov (.t 16)⟩,
  ⟨some 19, none, .ixS 1 (.t 14) (.t 16)⟩,
  ⟨some 20, none, .ld (.t 19)⟩,
  ⟨some 6, none, .mov (.t 18)⟩,
  ⟨some 7, none, .mov (.t 20)⟩]
def r111_5 : List O := [⟨some 8, none, .mov (.c (.i .i64 0))⟩]
def r111_6 : List O := [⟨some 21, none, .mov (.t 7)⟩,
  ⟨some 22, none, .lenL (.t 21)⟩,
  ⟨some 23, none, .mov (.c (.i .i64 0))⟩]
def r111_7 : List O := [⟨some 24, none, .bin .lss (.t 23) (.t 22)⟩]
def r111_8 : List O := [⟨some 25, none, .mov (.t 23)⟩,
  ⟨some 26, none, .ixS 1 (.t 21) (.t 23)⟩,
  ⟨some 27, none, .ld (.t 26)⟩,
  ⟨some 9, none, .mov (.t 25)⟩,
  ⟨some 10, none, .mov (.t 27)⟩]
def r111_9 : List O := [⟨some 28, none, .mov (.t 1)⟩,
  ⟨some 29, none, .mov (.t 10)⟩,
  ⟨some 30, none, .ixS 1 (.t 28) (.t 29)⟩,
  ⟨some 31, none, .ld (.t 30)⟩]
def r111_10 : List O := [⟨some 32, none, .mov (.t 8)⟩,
  ⟨some 33, none, .mov (.t 9)⟩,
  ⟨some 34, none, .bin .shl (.c (.i .i64 1)) (.t 33)⟩,
  ⟨some 35, none, .bin .or (.t 32) (.t 34)⟩,
  ⟨some 8, none, .mov (.t 35)⟩]
def r111_11 : List O := [⟨some 36, none, .bin .add (.t 23) (.c (.i .i64 1))⟩,
  ⟨some 23, none, .mov (.t 36)⟩]
def b111_0 : C := .seq (.ops r111_7) (.seq (.cond (.t 24) (.skip) (.exit 2)) (.seq (.block 3 (.seq (.ops r111_8) (.seq (.ops r111_9) (.cond (.t 31) (.ops r111_10) (.skip))))) (.ops r111_11)))
def r111_12 : List O := [⟨some 37, none, .mov (.t 5)⟩,
  ⟨some 38, none, .mov (.t 0)⟩,
  ⟨some 39, none, .nilck (.t 38)⟩,
  ⟨some 40, none, .fld 578 (.t 39)⟩,
  ⟨some 41, none, .ld (.t 40)⟩,
  ⟨some 42, none, .mov (.t 6)⟩,
  ⟨some 43, none, .ixS 1 (.t 41) (.t 42)⟩,
  ⟨some 44, none, .ld (.t 43)⟩,
  ⟨some 45, none, .mov (.t 8)⟩,
  ⟨some 46, none, .ixS 1 (.t 44) (.t 45)⟩,
  ⟨some 47, none, .ld (.t 46)⟩,
  ⟨some 48, none, .bin .add (.t 37) (.t 47)⟩,
  ⟨some 5, none, .mov (.t 48)⟩]
def r111_13 : List O := [⟨some 49, none, .bin .add (.t 16) (.c (.i .i64 1))⟩,
  ⟨some 16, none, .mov (.t 49)⟩]
def b111_1 : C := .seq (.ops r111_3) (.seq (.cond (.t 17) (.skip) (.exit 0)) (.seq (.block 1 (.seq (.ops r111_4) (.seq (.ops r111_5) (.seq (.seq (.ops r111_6) (.block 2 (.loop b111_0))) (.ops r111_12))))) (.ops r111_13)))
def r111_14 : List O := [⟨some 50, none, .mov (.t 5)⟩,
  ⟨some 4, none, .mov (.t 50)⟩]
/-- (*sennet.rows.search).left -/
def a111 : FI := ⟨51, [.tmp 4], .seq (.ops r111_0) (.seq (.ops r111_1) (.seq (.seq (.ops r111_2) (.block 0 (.loop b111_1))) (.seq (.ops r111_14) (.ret))))⟩
def r112_0 : List O := [⟨some 6, none, .mov (.c (.i .i64 0))⟩]
def r112_1 : List O := [⟨some 7, none, .mov (.c (.i .i64 0))⟩]
def r112_2 : List O := [⟨some 10, none, .mov (.t 1)⟩,
  ⟨some 11, none, .lenL (.t 10)⟩,
  ⟨some 12, none, .mov (.c (.i .i64 0))⟩]
def r112_3 : List O := [⟨some 13, none, .bin .lss (.t 12) (.t 11)⟩]
def r112_4 : List O := [⟨some 14, none, .mov (.t 12)⟩,
  ⟨some 15, none, .ixS 1 (.t 10) (.t 12)⟩,
  ⟨some 16, none, .ld (.t 15)⟩,
  ⟨some 8, none, .mov (.t 14)⟩,
  ⟨some 9, none, .mov (.t 16)⟩]
def r112_5 : List O := [⟨some 17, none, .mov (.t 9)⟩,
  ⟨some 18, none, .mov (.t 17)⟩,
  ⟨some 19, some (18, true), .mov (.t 8)⟩,
  ⟨some 20, some (18, true), .mov (.t 2)⟩,
  ⟨some 21, some (18, true), .bin .neq (.t 19) (.t 20)⟩,
  ⟨some 22, none, .pick (.t 18) (.t 21) (.c (.b false))⟩]
def r112_6 : List O := [⟨some 23, none, .mov (.t 7)⟩,
  ⟨some 24, none, .mov (.t 0)⟩,
  ⟨some 25, none, .mov (.t 8)⟩,
  ⟨some 26, none, .mov (.t 2)⟩,
  ⟨some 27, none, .nilck (.t 24)⟩,
  ⟨some 28, none, .fld 0 (.t 27)⟩,
  ⟨some 29, none, .ixA 24 24 (.t 28) (.t 25)⟩,
  ⟨some 30, none, .ixA 24 1 (.t 29) (.t 26)⟩,
  ⟨some 31, none, .ld (.t 30)⟩,
  ⟨some 32, none, .bin .add (.t 23) (.t 31)⟩,
  ⟨some 7, none, .mov (.t 32)⟩]
def r112_7 : List O := [⟨some 33, none, .mov (.t 8)⟩,
  ⟨some 34, none, .mov (.t 0)⟩,
  ⟨some 35, none, .nilck (.t 34)⟩,
  ⟨some 36, none, .fld 579 (.t 35)⟩,
  ⟨some 37, none, .ld (.t 36)⟩,
  ⟨some 38, none, .bin .eql (.t 33) (.t 37)⟩,
  ⟨some 39, none, .mov (.t 38)⟩,
  ⟨some 40, some (39, true), .mov (.t 0)⟩,
  ⟨some 41, some (39, true), .mov (.t 8)⟩,
  ⟨some 42, some (39, true), .mov (.t 2)⟩,
  ⟨some 43, some (39, true), .nilck (.t 40)⟩,
  ⟨some 44, some (39, true), .fld 0 (.t 43)⟩,
  ⟨some 45, some (39, true), .ixA 24 24 (.t 44) (.t 41)⟩,
  ⟨some 46, some (39, true), .ixA 24 1 (.t 45) (.t 42)⟩,
  ⟨some 47, some (39, true), .ld (.t 46)⟩,
  ⟨some 48, some (39, true), .bin .gtr (.t 47) (.c (.i .i64 0))⟩,
  ⟨some 49, none, .pick (.t 39) (.t 48) (.c (.b false))⟩]
def r112_8 : List O := [⟨some 6, none, .mov (.c (.i .i64 1099511627776))⟩]
def r112_9 : List O := [⟨some 50, none, .bin .add (.t 12) (.c (.i .i64 1))⟩,
  ⟨some 12, none, .mov (.t 50)⟩]
def b112_0 : C := .seq (.ops r112_3) (.seq (.cond (.t 13) (.skip) (.exit 0)) (.seq (.block 1 (.seq (.ops r112_4) (.seq (.ops r112_5) (.cond (.t 22) (.seq (.ops r112_6) (.seq (.ops r112_7) (.cond (.t 49) (.seq (.ops r112_8) (.ret)) (.skip)))) (.skip))))) (.ops r112_9)))
def r112_10 : List O := [⟨some 51, none, .mov (.t 7)⟩,
  ⟨some 6, none, .mov (.t 51)⟩]
/-- (*sennet.rows.search).next -/
def a112 : FI := ⟨52, [.tmp 6], .seq (.ops r112_0) (.seq (.ops r112_1) (.seq (.seq (.ops r112_2) (.block 0 (.loop b112_0))) (.seq (.ops r112_10) (.ret))))⟩
def r113_0 : List O := [⟨some 3, none, .box (.t 0)⟩,
  ⟨some 6, none, .alloc [.b false, .i .i64 0, .sn]⟩]
def r113_1 : List O := [⟨some 7, none, .fld 0 (.t 3)⟩,
  ⟨some 8, none, .ld (.t 7)⟩,
  ⟨some 9, none, .mov (.t 8)⟩,
  ⟨some 10, some (9, true), .fld 1 (.t 3)⟩,
  ⟨some 11, some (9, true), .ld (.t 10)⟩,
  ⟨some 12, some (9, true), .mov (.t 1)⟩,
  ⟨some 13, some (9, true), .bin .leq (.t 11) (.t 12)⟩,
  ⟨some 14, none, .pick (.t 9) (.t 13) (.c (.b false))⟩]
def r113_2 : List O := [⟨some 15, none, .ldn 3 (.t 3)⟩,
  ⟨none, none, .st 3 (.t 6) (.t 15)⟩]
def r113_3 : List O := [⟨some 16, none, .mov (.t 1)⟩,
  ⟨some 17, none, .buildSl [] 0 []⟩,
  ⟨some 18, none, .mov (.t 2)⟩,
  ⟨some 19, none, .app 1 8 (.t 17) (.t 18)⟩,
  ⟨some 20, none, .build [.b false, .i .i64 0, .sn] [(0, 1, (.c (.b true))), (1, 1, (.t 16)), (2, 1, (.t 19))]⟩,
  ⟨none, none, .st 3 (.t 6) (.t 20)⟩]
/-- sennet.sennetref04.better -/
def a113 : FI := ⟨21, [.cell 6 (some 3)], .seq (.ops r113_0) (.seq (.seq (.ops r113_1) (.cond (.t 14) (.seq (.ops r113_2) (.ret)) (.skip))) (.seq (.ops r113_3) (.ret)))⟩
def r114_0 : List O := [⟨some 1, none, .box (.t 0)⟩,
  ⟨some 2, none, .mov (.c (.sn))⟩]
def r114_1 : List O := [⟨some 12, none, .ldn 2 (.t 1)⟩,
  ⟨some 13, none, .call (.f 76) [(.t 12)]⟩,
  ⟨some 14, none, .bin .neq (.t 13) (.c (.i .i64 0))⟩]
def r114_2 : List O := [⟨some 2, none, .mov (.c (.sn))⟩]
def r114_3 : List O := [⟨some 15, none, .ldn 2 (.t 1)⟩,
  ⟨some 16, none, .call (.f 126) [(.t 15)]⟩,
  ⟨some 3, none, .alloc (List.replicate 576 (.b false))⟩,
  ⟨none, none, .st 576 (.t 3) (.t 16)⟩]
def r114_4 : List O := [⟨some 4, none, .alloc (List.replicate 24 (.b false))⟩]
def r114_5 : List O := [⟨some 5, none, .mov (.c (.sn))⟩]
def r114_6 : List O := [⟨some 17, none, .mov (.t 5)⟩,
  ⟨some 18, none, .lenL (.t 17)⟩,
  ⟨some 19, none, .fld 0 (.t 1)⟩,
  ⟨some 20, none, .ld (.t 19)⟩,
  ⟨some 21, none, .bin .lss (.t 18) (.t 20)⟩]
def r114_7 : List O := [⟨some 6, none, .mov (.c (.i .i64 (-1)))⟩]
def r114_8 : List O := [⟨some 22, none, .fld 0 (.t 1)⟩,
  ⟨some 23, none, .ld (.t 22)⟩,
  ⟨some 24, none, .bin .sub (.t 23) (.c (.i .i64 1))⟩,
  ⟨some 7, none, .mov (.t 24)⟩]
def r114_9 : List O := [⟨some 25, none, .mov (.t 7)⟩,
  ⟨some 26, none, .bin .geq (.t 25) (.c (.i .i64 0))⟩]
def r114_11 : List O := [⟨some 29, none, .mov (.t 7)⟩,
  ⟨some 30, none, .ixA 24 1 (.t 4) (.t 29)⟩,
  ⟨some 31, none, .ld (.t 30)⟩,
  ⟨some 32, none, .un .not (.t 31)⟩,
  ⟨some 8, none, .mov (.t 32)⟩]
def r114_12 : List O := [⟨some 9, none, .mov (.c (.i .i64 0))⟩]
def r114_13 : List O := [⟨some 33, none, .mov (.t 9)⟩,
  ⟨some 34, none, .fld 0 (.t 1)⟩,
  ⟨some 35, none, .ld (.t 34)⟩,
  ⟨some 36, none, .bin .lss (.t 33) (.t 35)⟩]
def r114_15 : List O := [⟨some 39, none, .mov (.t 9)⟩,
  ⟨some 40, none, .mov (.t 7)⟩,
  ⟨some 41, none, .ixA 24 24 (.t 3) (.t 39)⟩,
  ⟨some 42, none, .ixA 24 1 (.t 41) (.t 40)⟩,
  ⟨some 43, none, .ld (.t 42)⟩,
  ⟨some 44, none, .mov (.t 43)⟩,
  ⟨some 45, some (44, true), .mov (.t 7)⟩,
  ⟨some 46, some (44, true), .mov (.t 9)⟩,
  ⟨some 47, some (44, true), .ixA 24 24 (.t 3) (.t 45)⟩,
  ⟨some 48, some (44, true), .ixA 24 1 (.t 47) (.t 46)⟩,
  ⟨some 49, some (44, true), .ld (.t 48)⟩,
  ⟨some 50, some (44, true), .un .not (.t 49)⟩,
  ⟨some 51, none, .pick (.t 44) (.t 50) (.c (.b false))⟩,
  ⟨some 52, none, .mov (.t 51)⟩,
  ⟨some 53, some (52, true), .mov (.t 9)⟩,
  ⟨some 54, some (52, true), .ixA 24 1 (.t 4) (.t 53)⟩,
  ⟨some 55, some (52, true), .ld (.t 54)⟩,
  ⟨some 56, some (52, true), .un .not (.t 55)⟩,
  ⟨some 57, none, .pick (.t 52) (.t 56) (.c (.b false))⟩]
def r114_16 : List O := [⟨some 8, none, .mov (.c (.b false))⟩]
def r114_14 : List O := [⟨some 37, none, .mov (.t 9)⟩,
  ⟨some 38, none, .bin .add (.t 37) (.c (.i .i64 1))⟩,
  ⟨some 9, none, .mov (.t 38)⟩]
def b114_0 : C := .seq (.seq (.ops r114_13) (.cond (.t 36) (.skip) (.exit 4))) (.seq (.block 5 (.seq (.ops r114_15) (.cond (.t 57) (.ops r114_16) (.skip)))) (.ops r114_14))
def r114_17 : List O := [⟨some 58, none, .mov (.t 8)⟩]
def r114_18 : List O := [⟨some 59, none, .mov (.t 7)⟩,
  ⟨some 6, none, .mov (.t 59)⟩]
def r114_10 : List O := [⟨some 27, none, .mov (.t 7)⟩,
  ⟨some 28, none, .bin .sub (.t 27) (.c (.i .i64 1))⟩,
  ⟨some 7, none, .mov (.t 28)⟩]
def b114_1 : C := .seq (.seq (.ops r114_9) (.cond (.t 26) (.skip) (.exit 2))) (.seq (.block 3 (.seq (.ops r114_11) (.seq (.seq (.ops r114_12) (.block 4 (.loop b114_0))) (.seq (.ops r114_17) (.cond (.t 58) (.ops r114_18) (.skip)))))) (.ops r114_10))
def r114_19 : List O := [⟨some 60, none, .mov (.t 6)⟩,
  ⟨some 61, none, .bin .lss (.t 60) (.c (.i .i64 0))⟩]
def r114_20 : List O := [⟨some 62, none, .mov (.t 5)⟩,
  ⟨some 2, none, .mov (.t 62)⟩]
def r114_21 : List O := [⟨some 63, none, .ldn 576 (.t 3)⟩,
  ⟨some 64, none, .fld 0 (.t 1)⟩,
  ⟨some 65, none, .ld (.t 64)⟩,
  ⟨some 66, none, .mov (.t 6)⟩,
  ⟨some 67, none, .call (.f 127) [(.t 63), (.t 65), (.t 66)]⟩,
  ⟨some 10, none, .mov (.t 67)⟩]
def r114_22 : List O := [⟨some 11, none, .mov (.c (.i .i64 0))⟩]
def r114_23 : List O := [⟨some 68, none, .mov (.t 11)⟩,
  ⟨some 69, none, .mov (.t 10)⟩,
  ⟨some 70, none, .lenL (.t 69)⟩,
  ⟨some 71, none, .bin .lss (.t 68) (.t 70)⟩]
def r114_25 : List O := [⟨some 74, none, .mov (.t 10)⟩,
  ⟨some 75, none, .mov (.t 11)⟩,
  ⟨some 76, none, .ixS 1 (.t 74) (.t 75)⟩,
  ⟨some 77, none, .ld (.t 76)⟩,
  ⟨some 78, none, .ixA 24 1 (.t 4) (.t 77)⟩,
  ⟨none, none, .st 1 (.t 78) (.c (.b true))⟩]
def r114_24 : List O := [⟨some 72, none, .mov (.t 11)⟩,
  ⟨some 73, none, .bin .add (.t 72) (.c (.i .i64 1))⟩,
  ⟨some 11, none, .mov (.t 73)⟩]
def b114_2 : C := .seq (.seq (.ops r114_23) (.cond (.t 71) (.skip) (.exit 6))) (.seq (.block 7 (.ops r114_25)) (.ops r114_24))
def r114_26 : List O := [⟨some 79, none, .mov (.t 5)⟩,
  ⟨some 80, none, .mov (.t 10)⟩,
  ⟨some 81, none, .buildSl [.sn] 1 [(0, 1, (.t 80))]⟩,
  ⟨some 82, none, .app 1 24 (.t 79) (.t 81)⟩,
  ⟨some 5, none, .mov (.t 82)⟩]
def b114_3 : C := .seq (.seq (.ops r114_6) (.cond (.t 21) (.skip) (.exit 0))) (.block 1 (.seq (.ops r114_7) (.seq (.seq (.ops r114_8) (.block 2 (.loop b114_1))) (.seq (.seq (.ops r114_19) (.cond (.t 61) (.seq (.ops r114_20) (.ret)) (.skip))) (.seq (.ops r114_21) (.seq (.seq (.ops r114_22) (.block 6 (.loop b114_2))) (.ops r114_26)))))))
def r114_27 : List O := [⟨some 83, none, .mov (.t 5)⟩,
  ⟨some 2, none, .mov (.t 83)⟩]
/-- sennet.sennetref03.Components -/
def a114 : FI := ⟨84, [.tmp 2], .seq (.ops r114_0) (.seq (.seq (.ops r114_1) (.cond (.t 14) (.seq (.ops r114_2) (.ret)) (.skip))) (.seq (.ops r114_3) (.seq (.ops r114_4) (.seq (.ops r114_5) (.seq (.block 0 (.loop b114_3)) (.seq (.ops r114_27) (.ret)))))))⟩
def r115_0 : List O := [⟨some 3, none, .box (.t 0)⟩,
  ⟨some 6, none, .mov (.c (.i .i64 0))⟩]
def r115_1 : List O := [⟨some 7, none, .mov (.c (.i .i64 0))⟩]
def r115_2 : List O := [⟨some 8, none, .mov (.c (.i .i64 0))⟩]
def r115_3 : List O := [⟨some 9, none, .mov (.t 8)⟩,
  ⟨some 10, none, .fld 1 (.t 3)⟩,
  ⟨some 11, none, .ld (.t 10)⟩,
  ⟨some 12, none, .lenL (.t 11)⟩,
  ⟨some 13, none, .bin .lss (.t 9) (.t 12)⟩]
def r115_5 : List O := [⟨some 16, none, .fld 1 (.t 3)⟩,
  ⟨some 17, none, .ld (.t 16)⟩,
  ⟨some 18, none, .mov (.t 8)⟩,
  ⟨some 19, none, .ixS 4 (.t 17) (.t 18)⟩,
  ⟨some 20, none, .fld 0 (.t 19)⟩,
  ⟨some 21, none, .ld (.t 20)⟩,
  ⟨some 22, none, .mov (.t 1)⟩,
  ⟨some 23, none, .bin .eql (.t 21) (.t 22)⟩,
  ⟨some 24, none, .mov (.t 23)⟩,
  ⟨some 25, some (24, true), .mov (.t 2)⟩,
  ⟨some 26, some (24, true), .fld 1 (.t 3)⟩,
  ⟨some 27, some (24, true), .ld (.t 26)⟩,
  ⟨some 28, some (24, true), .mov (.t 8)⟩,
  ⟨some 29, some (24, true), .ixS 4 (.t 27) (.t 28)⟩,
  ⟨some 30, some (24, true), .fld 1 (.t 29)⟩,
  ⟨some 31, some (24, true), .ld (.t 30)⟩,
  ⟨some 32, some (24, true), .call (.f 102) [(.t 25), (.t 31)]⟩,
  ⟨some 33, some (24, true), .bin .geq (.t 32) (.c (.i .i64 0))⟩,
  ⟨some 34, none, .pick (.t 24) (.t 33) (.c (.b false))⟩]
def r115_6 : List O := [⟨some 35, none, .mov (.t 7)⟩,
  ⟨some 36, none, .fld 1 (.t 3)⟩,
  ⟨some 37, none, .ld (.t 36)⟩,
  ⟨some 38, none, .mov (.t 8)⟩,
  ⟨some 39, none, .ixS 4 (.t 37) (.t 38)⟩,
  ⟨some 40, none, .fld 3 (.t 39)⟩,
  ⟨some 41, none, .ld (.t 40)⟩,
  ⟨some 42, none, .bin .add (.t 35) (.t 41)⟩,
  ⟨some 7, none, .mov (.t 42)⟩]
def r115_4 : List O := [⟨some 14, none, .mov (.t 8)⟩,
  ⟨some 15, none, .bin .add (.t 14) (.c (.i .i64 1))⟩,
  ⟨some 8, none, .mov (.t 15)⟩]
def b115_0 : C := .seq (.seq (.ops r115_3) (.cond (.t 13) (.skip) (.exit 0))) (.seq (.block 1 (.seq (.ops r115_5) (.cond (.t 34) (.ops r115_6) (.skip)))) (.ops r115_4))
def r115_7 : List O := [⟨some 43, none, .mov (.t 7)⟩,
  ⟨some 6, none, .mov (.t 43)⟩]
/-- sennet.sennetref04.Behind -/
def a115 : FI := ⟨44, [.tmp 6], .seq (.ops r115_0) (.seq (.ops r115_1) (.seq (.seq (.ops r115_2) (.block 0 (.loop b115_0))) (.seq (.ops r115_7) (.ret))))⟩
def r116_0 : List O := [⟨some 4, none, .mov (.c (.sn))⟩]
def r116_1 : List O := [⟨some 5, none, .mov (.c (.sn))⟩]
def r116_2 : List O := [⟨some 6, none, .mov (.c (.i .i64 0))⟩]
def r116_3 : List O := [⟨some 7, none, .mov (.t 6)⟩,
  ⟨some 8, none, .mov (.t 0)⟩,
  ⟨some 9, none, .lenL (.t 8)⟩,
  ⟨some 10, none, .bin .lss (.t 7) (.t 9)⟩]
def r116_5 : List O := [⟨some 13, none, .mov (.t 1)⟩,
  ⟨some 14, none, .mov (.t 6)⟩,
  ⟨some 15, none, .conv .u64 (.t 14)⟩,
  ⟨some 16, none, .bin .shr (.t 13) (.t 15)⟩,
  ⟨some 17, none, .bin .and (.t 16) (.c (.i .i64 1))⟩,
  ⟨some 18, none, .bin .eql (.t 17) (.c (.i .i64 1))⟩]
def r116_6 : List O := [⟨some 19, none, .mov (.t 5)⟩,
  ⟨some 20, none, .mov (.t 0)⟩,
  ⟨some 21, none, .mov (.t 6)⟩,
  ⟨some 22, none, .ixS 1 (.t 20) (.t 21)⟩,
  ⟨some 23, none, .ld (.t 22)⟩,
  ⟨some 24, none, .buildSl [.i .i64 0] 1 [(0, 1, (.t 23))]⟩,
  ⟨some 25, none, .app 1 8 (.t 19) (.t 24)⟩,
  ⟨some 5, none, .mov (.t 25)⟩]
def r116_4 : List O := [⟨some 11, none, .mov (.t 6)⟩,
  ⟨some 12, none, .bin .add (.t 11) (.c (.i .i64 1))⟩,
  ⟨some 6, none, .mov (.t 12)⟩]
def b116_0 : C := .seq (.seq (.ops r116_3) (.cond (.t 10) (.skip) (.exit 0))) (.seq (.block 1 (.seq (.ops r116_5) (.cond (.t 18) (.ops r116_6) (.skip)))) (.ops r116_4))
def r116_7 : List O := [⟨some 26, none, .mov (.t 5)⟩,
  ⟨some 4, none, .mov (.t 26)⟩]
/-- sennet.sennetref04.subset -/
def a116 : FI := ⟨27, [.tmp 4], .seq (.ops r116_0) (.seq (.ops r116_1) (.seq (.seq (.ops r116_2) (.block 0 (.loop b116_0))) (.seq (.ops r116_7) (.ret))))⟩
def r117_0 : List O := [⟨some 2, none, .mov (.c (.sn))⟩]
def r117_1 : List O := [⟨some 6, none, .mov (.t 0)⟩,
  ⟨some 7, none, .lenL (.t 6)⟩,
  ⟨some 8, none, .mkSl [.i .i64 0] 8 (.t 7) (.t 7)⟩,
  ⟨some 3, none, .mov (.t 8)⟩]
def r117_2 : List O := [⟨some 9, none, .mov (.t 0)⟩,
  ⟨some 10, none, .lenL (.t 9)⟩,
  ⟨some 11, none, .mov (.c (.i .i64 0))⟩]
def r117_3 : List O := [⟨some 12, none, .bin .lss (.t 11) (.t 10)⟩]
def r117_4 : List O := [⟨some 13, none, .mov (.t 11)⟩,
  ⟨some 14, none, .ixS 1 (.t 9) (.t 11)⟩,
  ⟨some 15, none, .ld (.t 14)⟩,
  ⟨some 4, none, .mov (.t 13)⟩,
  ⟨some 5, none, .mov (.t 15)⟩]
def r117_5 : List O := [⟨some 16, none, .mov (.t 3)⟩,
  ⟨some 17, none, .mov (.t 5)⟩,
  ⟨some 18, none, .mov (.t 4)⟩,
  ⟨some 19, none, .ixS 1 (.t 16) (.t 17)⟩,
  ⟨none, none, .st 1 (.t 19) (.t 18)⟩]
def r117_6 : List O := [⟨some 20, none, .bin .add (.t 11) (.c (.i .i64 1))⟩,
  ⟨some 11, none, .mov (.t 20)⟩]
def b117_0 : C := .seq (.ops r117_3) (.seq (.cond (.t 12) (.skip) (.exit 0)) (.seq (.block 1 (.seq (.ops r117_4) (.ops r117_5))) (.ops r117_6)))
def r117_7 : List O := [⟨some 21, none, .mov (.t 3)⟩,
  ⟨some 2, none, .mov (.t 21)⟩]
/-- sennet.rows.places -/
def a117 : FI := ⟨22, [.tmp 2], .seq (.ops r117_0) (.seq (.ops r117_1) (.seq (.seq (.ops r117_2) (.block 0 (.loop b117_0))) (.seq (.ops r117_7) (.ret))))⟩
def r118_0 : List O := [⟨some 4, none, .mov (.c (.i .i64 0))⟩]
def r118_1 : List O := [⟨some 6, none, .mov (.t 0)⟩,
  ⟨some 7, none, .lenL (.t 6)⟩,
  ⟨some 8, none, .mov (.c (.i .i64 0))⟩]
def r118_2 : List O := [⟨some 9, none, .bin .lss (.t 8) (.t 7)⟩]
def r118_3 : List O := [⟨some 10, none, .mov (.t 8)⟩,
  ⟨some 5, none, .mov (.t 10)⟩]
def r118_4 : List O := [⟨some 11, none, .mov (.t 1)⟩,
  ⟨some 12, none, .mov (.t 0)⟩,
  ⟨some 13, none, .mov (.t 5)⟩,
  ⟨some 14, none, .ixS 1 (.t 12) (.t 13)⟩,
  ⟨some 15, none, .ld (.t 14)⟩,
  ⟨some 16, none, .call (.t 11) [(.t 15)]⟩]
def r118_5 : List O := [⟨some 17, none, .mov (.t 5)⟩,
  ⟨some 4, none, .mov (.t 17)⟩]
def r118_6 : List O := [⟨some 18, none, .bin .add (.t 8) (.c (.i .i64 1))⟩,
  ⟨some 8, none, .mov (.t 18)⟩]
def b118_0 : C := .seq (.ops r118_2) (.seq (.cond (.t 9) (.skip) (.exit 0)) (.seq (.block 1 (.seq (.ops r118_3) (.seq (.ops r118_4) (.cond (.t 16) (.seq (.ops r118_5) (.ret)) (.skip))))) (.ops r118_6)))
def r118_7 : List O := [⟨some 4, none, .mov (.c (.i .i64 (-1)))⟩]
/-- slices.IndexFunc[[][]int,[]int] -/
def a118 : FI := ⟨19, [.tmp 4], .seq (.ops r118_0) (.seq (.seq (.ops r118_1) (.block 0 (.loop b118_0))) (.seq (.ops r118_7) (.ret)))⟩
def r119_0 : List O := [⟨some 1, none, .box (.t 0)⟩,
  ⟨some 2, none, .mov (.c (.pn))⟩,
  ⟨some 3, none, .mov (.c (.b false))⟩]
def r119_1 : List O := [⟨some 8, none, .ldn 2 (.t 1)⟩,
  ⟨some 9, none, .call (.f 66) [(.t 8)]⟩,
  ⟨some 10, none, .bin .neq (.t 9) (.c (.i .i64 0))⟩]
def r119_2 : List O := [⟨some 2, none, .mov (.c (.pn))⟩,
  ⟨some 3, none, .mov (.c (.b false))⟩]
def r119_3 : List O := [⟨some 11, none, .fld 0 (.t 1)⟩,
  ⟨some 12, none, .ld (.t 11)⟩,
  ⟨some 13, none, .build ([.i .i64 0] ++ List.replicate 1152 (.b false)) [(0, 1, (.t 12))]⟩,
  ⟨some 14, none, .box (.t 13)⟩,
  ⟨some 4, none, .mov (.t 14)⟩]
def r119_4 : List O := [⟨some 15, none, .fld 1 (.t 1)⟩,
  ⟨some 16, none, .ld (.t 15)⟩,
  ⟨some 17, none, .lenL (.t 16)⟩,
  ⟨some 18, none, .mov (.c (.i .i64 0))⟩]
def r119_5 : List O := [⟨some 19, none, .bin .lss (.t 18) (.t 17)⟩]
def r119_6 : List O := [⟨some 20, none, .ixS 4 (.t 16) (.t 18)⟩,
  ⟨some 21, none, .ldn 4 (.t 20)⟩,
  ⟨some 6, none, .alloc [.i .i64 0, .i .i64 0, .i .i64 0, .i .i64 0]⟩,
  ⟨none, none, .st 4 (.t 6) (.t 21)⟩]
def r119_7 : List O := [⟨some 22, none, .mov (.t 4)⟩,
  ⟨some 23, none, .fld 0 (.t 6)⟩,
  ⟨some 24, none, .ld (.t 23)⟩,
  ⟨some 25, none, .fld 1 (.t 6)⟩,
  ⟨some 26, none, .ld (.t 25)⟩,
  ⟨some 27, none, .nilck (.t 22)⟩,
  ⟨some 28, none, .fld 1 (.t 27)⟩,
  ⟨some 29, none, .ixA 24 24 (.t 28) (.t 24)⟩,
  ⟨some 30, none, .ixA 24 1 (.t 29) (.t 26)⟩,
  ⟨none, none, .st 1 (.t 30) (.c (.b true))⟩]
def r119_8 : List O := [⟨some 31, none, .bin .add (.t 18) (.c (.i .i64 1))⟩,
  ⟨some 18, none, .mov (.t 31)⟩]
def b119_0 : C := .seq (.ops r119_5) (.seq (.cond (.t 19) (.skip) (.exit 0)) (.seq (.block 1 (.seq (.ops r119_6) (.draw r119_7 []))) (.ops r119_8)))
def r119_9 : List O := [⟨some 32, none, .mov (.t 4)⟩,
  ⟨some 33, none, .nilck (.t 32)⟩,
  ⟨some 34, none, .fld 0 (.t 33)⟩,
  ⟨some 35, none, .ld (.t 34)⟩,
  ⟨some 36, none, .mov (.c (.i .i64 0))⟩]
def r119_10 : List O := [⟨some 37, none, .bin .lss (.t 36) (.t 35)⟩]
def r119_11 : List O := [⟨some 38, none, .mov (.t 36)⟩,
  ⟨some 7, none, .mov (.t 38)⟩]
def r119_12 : List O := [⟨some 39, none, .mov (.t 4)⟩,
  ⟨some 40, none, .mov (.t 7)⟩,
  ⟨some 41, none, .mov (.t 4)⟩,
  ⟨some 42, none, .mov (.t 7)⟩,
  ⟨some 43, none, .call (.f 128) [(.t 41), (.t 42)]⟩,
  ⟨some 44, none, .nilck (.t 39)⟩,
  ⟨some 45, none, .fld 577 (.t 44)⟩,
  ⟨some 46, none, .ixA 24 24 (.t 45) (.t 40)⟩,
  ⟨none, none, .st 24 (.t 46) (.t 43)⟩]
def r119_13 : List O := [⟨some 47, none, .bin .add (.t 36) (.c (.i .i64 1))⟩,
  ⟨some 36, none, .mov (.t 47)⟩]
def b119_1 : C := .seq (.ops r119_10) (.seq (.cond (.t 37) (.skip) (.exit 2)) (.seq (.block 3 (.seq (.ops r119_11) (.draw r119_12 []))) (.ops r119_13)))
def r119_14 : List O := [⟨some 48, none, .mov (.t 4)⟩,
  ⟨some 2, none, .mov (.t 48)⟩,
  ⟨some 3, none, .mov (.c (.b true))⟩]
/-- sennet.rank.open -/
def a119 : FI := ⟨49, [.tmp 2, .tmp 3], .seq (.ops r119_0) (.seq (.seq (.ops r119_1) (.cond (.t 10) (.seq (.ops r119_2) (.ret)) (.skip))) (.seq (.ops r119_3) (.seq (.seq (.ops r119_4) (.block 0 (.loop b119_0))) (.seq (.seq (.ops r119_9) (.block 2 (.loop b119_1))) (.seq (.ops r119_14) (.ret))))))⟩
def r120_0 : List O := [⟨some 1, none, .box (.t 0)⟩,
  ⟨some 2, none, .mov (.c (.sn))⟩]
def r120_1 : List O := [⟨some 3, none, .alloc [.sn]⟩]
def r120_2 : List O := [⟨some 4, none, .alloc (List.replicate 24 (.b false))⟩]
def r120_3 : List O := [⟨some 5, none, .alloc [.fnil]⟩]
def r120_4 : List O := [⟨some 6, none, .mkFn 129 [] [(.t 1), (.t 4), (.t 3), (.t 5)]⟩,
  ⟨none, none, .st 1 (.t 5) (.t 6)⟩]
def r120_5 : List O := [⟨some 7, none, .ld (.t 5)⟩,
  ⟨some 8, none, .call (.t 7) []⟩]
def r120_6 : List O := [⟨some 9, none, .ld (.t 3)⟩,
  ⟨some 2, none, .mov (.t 9)⟩]
/-- (*sennet.rank.web).components -/
def a120 : FI := ⟨10, [.tmp 2], .seq (.ops r120_0) (.seq (.ops r120_1) (.seq (.ops r120_2) (.seq (.ops r120_3) (.seq (.ops r120_4) (.seq (.ops r120_5) (.seq (.ops r120_6) (.ret)))))))⟩
def r121_0 : List O := [⟨some 4, none, .mov (.c (.i .i64 0))⟩]
def r121_1 : List O := [⟨some 6, none, .mov (.t 4)⟩,
  ⟨some 7, none, .ld (.t 1)⟩,
  ⟨some 8, none, .lenL (.t 7)⟩,
  ⟨some 9, none, .bin .lss (.t 6) (.t 8)⟩]
def r121_3 : List O := [⟨some 13, none, .ld (.t 2)⟩,
  ⟨some 14, none, .ld (.t 1)⟩,
  ⟨some 15, none, .mov (.t 4)⟩,
  ⟨some 16, none, .slc 1 (.t 14) (some (.t 15)) none none⟩,
  ⟨some 17, none, .lenL (.t 16)⟩,
  ⟨some 18, none, .min [(.t 13), (.t 17)]⟩,
  ⟨some 5, none, .mov (.t 18)⟩]
def r121_4 : List O := [⟨some 19, none, .mov (.t 0)⟩,
  ⟨some 20, none, .ld (.t 1)⟩,
  ⟨some 21, none, .mov (.t 4)⟩,
  ⟨some 22, none, .mov (.t 4)⟩,
  ⟨some 23, none, .mov (.t 5)⟩,
  ⟨some 24, none, .bin .add (.t 22) (.t 23)⟩,
  ⟨some 25, none, .mov (.t 4)⟩,
  ⟨some 26, none, .mov (.t 5)⟩,
  ⟨some 27, none, .bin .add (.t 25) (.t 26)⟩,
  ⟨some 28, none, .slc 1 (.t 20) (some (.t 21)) (some (.t 24)) (some (.t 27))⟩,
  ⟨some 29, none, .call (.t 19) [(.t 28)]⟩,
  ⟨some 30, none, .un .not (.t 29)⟩]
def r121_2 : List O := [⟨some 10, none, .mov (.t 4)⟩,
  ⟨some 11, none, .ld (.t 2)⟩,
  ⟨some 12, none, .bin .add (.t 10) (.t 11)⟩,
  ⟨some 4, none, .mov (.t 12)⟩]
def b121_0 : C := .seq (.seq (.ops r121_1) (.cond (.t 9) (.skip) (.exit 0))) (.seq (.block 1 (.seq (.draw r121_3 []) (.seq (.ops r121_4) (.cond (.t 30) (.ret) (.skip))))) (.ops r121_2))
/-- slices.Chunk[[]int,int]$1 -/
def a121 : FI := ⟨31, [], .seq (.ops r121_0) (.block 0 (.loop b121_0))⟩
def r122_0 : List O := [⟨some 2, none, .box (.t 0)⟩,
  ⟨some 3, none, .box (.t 1)⟩,
  ⟨some 4, none, .mov (.c (.fnil))⟩]
def r122_1 : List O := [⟨some 5, none, .mkFn 133 [] [(.t 3), (.t 2)]⟩,
  ⟨some 4, none, .mov (.t 5)⟩]
/-- sennet.rows.members -/
def a122 : FI := ⟨6, [.tmp 4], .seq (.ops r122_0) (.seq (.ops r122_1) (.ret))⟩
def r123_0 : List O := [⟨some 4, none, .box (.t 0)⟩,
  ⟨some 5, none, .box (.t 1)⟩,
  ⟨some 6, none, .box (.t 2)⟩,
  ⟨some 8, none, .mov (.c (.i .i64 0))⟩]
def r123_1 : List O := [⟨some 9, none, .alloc [.i .i64 0]⟩,
  ⟨none, none, .st 1 (.t 9) (.c (.i .i64 0))⟩]
def r123_2 : List O := [⟨some 11, none, .mov (.t 3)⟩,
  ⟨some 12, none, .ld (.t 5)⟩,
  ⟨some 13, none, .lenL (.t 12)⟩,
  ⟨some 14, none, .call (.f 122) [(.t 11), (.t 13)]⟩]
def r123_3 : List O := [⟨some 10, none, .mov (.t 15)⟩]
def r123_4 : List O := [⟨some 17, none, .ld (.t 9)⟩,
  ⟨some 18, none, .ld (.t 4)⟩,
  ⟨some 19, none, .ld (.t 5)⟩,
  ⟨some 20, none, .ld (.t 6)⟩,
  ⟨some 21, none, .ixS 1 (.t 19) (.t 20)⟩,
  ⟨some 22, none, .ld (.t 21)⟩,
  ⟨some 23, none, .ld (.t 5)⟩,
  ⟨some 24, none, .mov (.t 10)⟩,
  ⟨some 25, none, .ixS 1 (.t 23) (.t 24)⟩,
  ⟨some 26, none, .ld (.t 25)⟩,
  ⟨some 27, none, .nilck (.t 18)⟩,
  ⟨some 28, none, .ixA 24 24 (.t 27) (.t 22)⟩,
  ⟨some 29, none, .ixA 24 1 (.t 28) (.t 26)⟩,
  ⟨some 30, none, .ld (.t 29)⟩,
  ⟨some 31, none, .bin .add (.t 17) (.t 30)⟩,
  ⟨none, none, .st 1 (.t 9) (.t 31)⟩]
def b123_0 : C := .block 1 (.draw r123_4 [])
def r123_5 : List O := [⟨some 32, none, .ld (.t 9)⟩,
  ⟨some 8, none, .mov (.t 32)⟩]
/-- sennet.rows.behind -/
def a123 : FI := ⟨33, [.tmp 8], .seq (.ops r123_0) (.seq (.ops r123_1) (.seq (.seq (.ops r123_2) (.block 0 (.rangeF (.t 14) [15, 16] (.ops r123_3) b123_0))) (.seq (.ops r123_5) (.ret))))⟩
def r124_0 : List O := [⟨some 2, none, .mov (.c (.i .i64 0))⟩]
def r124_1 : List O := [⟨some 3, none, .mov (.c (.i .i64 0))⟩]
def r124_2 : List O := [⟨some 6, none, .mov (.t 0)⟩,
  ⟨some 7, none, .lenL (.t 6)⟩,
  ⟨some 8, none, .mov (.c (.i .i64 0))⟩]
def r124_3 : List O := [⟨some 9, none, .bin .lss (.t 8) (.t 7)⟩]
def r124_4 : List O := [⟨some 10, none, .ixS 1 (.t 6) (.t 8)⟩,
  ⟨some 11, none, .ld (.t 10)⟩,
  ⟨some 5, none, .mov (.t 11)⟩]
def r124_5 : List O := [⟨some 12, none, .mov (.t 5)⟩,
  ⟨some 13, none, .mov (.t 3)⟩,
  ⟨some 14, none, .bin .neq (.t 12) (.t 13)⟩]
def r124_6 : List O := [⟨some 15, none, .mov (.t 5)⟩,
  ⟨some 2, none, .mov (.t 15)⟩]
def r124_7 : List O := [⟨some 16, none, .bin .add (.t 8) (.c (.i .i64 1))⟩,
  ⟨some 8, none, .mov (.t 16)⟩]
def b124_0 : C := .seq (.ops r124_3) (.seq (.cond (.t 9) (.skip) (.exit 0)) (.seq (.block 1 (.seq (.ops r124_4) (.seq (.ops r124_5) (.cond (.t 14) (.seq (.ops r124_6) (.ret)) (.skip))))) (.ops r124_7)))
def r124_8 : List O := [⟨some 17, none, .mov (.t 3)⟩,
  ⟨some 2, none, .mov (.t 17)⟩]
/-- cmp.Or[int] -/
def a124 : FI := ⟨18, [.tmp 2], .seq (.ops r124_0) (.seq (.ops r124_1) (.seq (.seq (.ops r124_2) (.block 0 (.loop b124_0))) (.seq (.ops r124_8) (.ret))))⟩
def r125_0 : List O := [⟨some 4, none, .mov (.c (.i .i64 0))⟩]
def r125_1 : List O := [⟨some 7, none, .mov (.t 0)⟩,
  ⟨some 8, none, .call (.f 134) [(.t 7)]⟩,
  ⟨some 5, none, .mov (.t 8)⟩]
def r125_2 : List O := [⟨some 9, none, .mov (.t 1)⟩,
  ⟨some 10, none, .call (.f 134) [(.t 9)]⟩,
  ⟨some 6, none, .mov (.t 10)⟩]
def r125_3 : List O := [⟨some 11, none, .mov (.t 5)⟩]
def r125_4 : List O := [⟨some 12, none, .mov (.t 6)⟩]
def r125_5 : List O := [⟨some 4, none, .mov (.c (.i .i64 0))⟩]
def r125_6 : List O := [⟨some 4, none, .mov (.c (.i .i64 (-1)))⟩]
def r125_7 : List O := [⟨some 13, none, .mov (.t 6)⟩]
def r125_8 : List O := [⟨some 4, none, .mov (.c (.i .i64 1))⟩]
def r125_9 : List O := [⟨some 14, none, .mov (.t 0)⟩,
  ⟨some 15, none, .mov (.t 1)⟩,
  ⟨some 16, none, .bin .lss (.t 14) (.t 15)⟩]
def r125_10 : List O := [⟨some 4, none, .mov (.c (.i .i64 (-1)))⟩]
def r125_11 : List O := [⟨some 17, none, .mov (.t 0)⟩,
  ⟨some 18, none, .mov (.t 1)⟩,
  ⟨some 19, none, .bin .gtr (.t 17) (.t 18)⟩]
def r125_12 : List O := [⟨some 4, none, .mov (.c (.i .i64 1))⟩]
def r125_13 : List O := [⟨some 4, none, .mov (.c (.i .i64 0))⟩]
/-- cmp.Compare[int] -/
def a125 : FI := ⟨20, [.tmp 4], .seq (.ops r125_0) (.seq (.ops r125_1) (.seq (.ops r125_2) (.seq (.seq (.ops r125_3) (.cond (.t 11) (.seq (.seq (.ops r125_4) (.cond (.t 12) (.seq (.ops r125_5) (.ret)) (.skip))) (.seq (.ops r125_6) (.ret))) (.skip))) (.seq (.seq (.ops r125_7) (.cond (.t 13) (.seq (.ops r125_8) (.ret)) (.skip))) (.seq (.seq (.ops r125_9) (.cond (.t 16) (.seq (.ops r125_10) (.ret)) (.skip))) (.seq (.seq (.ops r125_11) (.cond (.t 19) (.seq (.ops r125_12) (.ret)) (.skip))) (.seq (.ops r125_13) (.ret))))))))⟩
def r126_0 : List O := [⟨some 1, none, .box (.t 0)⟩,
  ⟨some 2, none, .alloc (List.replicate 576 (.b false))⟩]
def r126_1 : List O := [⟨some 7, none, .ldn 2 (.t 1)⟩,
  ⟨some 8, none, .call (.f 135) [(.t 7)]⟩,
  ⟨some 3, none, .alloc (List.replicate 576 (.b false))⟩,
  ⟨none, none, .st 576 (.t 3) (.t 8)⟩]
def r126_2 : List O := [⟨some 4, none, .mov (.c (.i .i64 0))⟩]
def r126_3 : List O := [⟨some 9, none, .mov (.t 4)⟩,
  ⟨some 10, none, .fld 0 (.t 1)⟩,
  ⟨some 11, none, .ld (.t 10)⟩,
  ⟨some 12, none, .bin .lss (.t 9) (.t 11)⟩]
def r126_5 : List O := [⟨some 5, none, .mov (.c (.i .i64 0))⟩]
def r126_6 : List O := [⟨some 15, none, .mov (.t 5)⟩,
  ⟨some 16, none, .fld 0 (.t 1)⟩,
  ⟨some 17, none, .ld (.t 16)⟩,
  ⟨some 18, none, .bin .lss (.t 15) (.t 17)⟩]
def r126_8 : List O := [⟨some 6, none, .mov (.c (.i .i64 0))⟩]
def r126_9 : List O := [⟨some 21, none, .mov (.t 6)⟩,
  ⟨some 22, none, .fld 0 (.t 1)⟩,
  ⟨some 23, none, .ld (.t 22)⟩,
  ⟨some 24, none, .bin .lss (.t 21) (.t 23)⟩]
def r126_11 : List O := [⟨some 27, none, .mov (.t 5)⟩,
  ⟨some 28, none, .mov (.t 4)⟩,
  ⟨some 29, none, .ixA 24 24 (.t 3) (.t 27)⟩,
  ⟨some 30, none, .ixA 24 1 (.t 29) (.t 28)⟩,
  ⟨some 31, none, .ld (.t 30)⟩,
  ⟨some 32, none, .mov (.t 31)⟩,
  ⟨some 33, some (32, true), .mov (.t 4)⟩,
  ⟨some 34, some (32, true), .mov (.t 6)⟩,
  ⟨some 35, some (32, true), .ixA 24 24 (.t 3) (.t 33)⟩,
  ⟨some 36, some (32, true), .ixA 24 1 (.t 35) (.t 34)⟩,
  ⟨some 37, some (32, true), .ld (.t 36)⟩,
  ⟨some 38, none, .pick (.t 32) (.t 37) (.c (.b false))⟩]
def r126_12 : List O := [⟨some 39, none, .mov (.t 5)⟩,
  ⟨some 40, none, .mov (.t 6)⟩,
  ⟨some 41, none, .ixA 24 24 (.t 3) (.t 39)⟩,
  ⟨some 42, none, .ixA 24 1 (.t 41) (.t 40)⟩,
  ⟨none, none, .st 1 (.t 42) (.c (.b true))⟩]
def r126_10 : List O := [⟨some 25, none, .mov (.t 6)⟩,
  ⟨some 26, none, .bin .add (.t 25) (.c (.i .i64 1))⟩,
  ⟨some 6, none, .mov (.t 26)⟩]
def b126_0 : C := .seq (.seq (.ops r126_9) (.cond (.t 24) (.skip) (.exit 4))) (.seq (.block 5 (.seq (.ops r126_11) (.cond (.t 38) (.ops r126_12) (.skip)))) (.ops r126_10))
def r126_7 : List O := [⟨some 19, none, .mov (.t 5)⟩,
  ⟨some 20, none, .bin .add (.t 19) (.c (.i .i64 1))⟩,
  ⟨some 5, none, .mov (.t 20)⟩]
def b126_1 : C := .seq (.seq (.ops r126_6) (.cond (.t 18) (.skip) (.exit 2))) (.seq (.block 3 (.seq (.ops r126_8) (.block 4 (.loop b126_0)))) (.ops r126_7))
def r126_4 : List O := [⟨some 13, none, .mov (.t 4)⟩,
  ⟨some 14, none, .bin .add (.t 13) (.c (.i .i64 1))⟩,
  ⟨some 4, none, .mov (.t 14)⟩]
def b126_2 : C := .seq (.seq (.ops r126_3) (.cond (.t 12) (.skip) (.exit 0))) (.seq (.block 1 (.seq (.ops r126_5) (.block 2 (.loop b126_1)))) (.ops r126_4))
def r126_13 : List O := [⟨some 43, none, .ldn 576 (.t 3)⟩,
  ⟨none, none, .st 576 (.t 2) (.t 43)⟩]
/-- sennet.sennetref03.Reach -/
def a126 : FI := ⟨44, [.cell 2 (some 576)], .seq (.ops r126_0) (.seq (.ops r126_1) (.seq (.seq (.ops r126_2) (.block 0 (.loop b126_2))) (.seq (.ops r126_13) (.ret))))⟩
def r127_0 : List O := [⟨some 3, none, .box (.t 0)⟩,
  ⟨some 6, none, .mov (.c (.sn))⟩]
def r127_1 : List O := [⟨some 7, none, .mov (.c (.sn))⟩]
def r127_2 : List O := [⟨some 8, none, .mov (.c (.i .i64 0))⟩]
def r127_3 : List O := [⟨some 9, none, .mov (.t 8)⟩,
  ⟨some 10, none, .mov (.t 1)⟩,
  ⟨some 11, none, .bin .lss (.t 9) (.t 10)⟩]
def r127_5 : List O := [⟨some 14, none, .mov (.t 2)⟩,
  ⟨some 15, none, .mov (.t 8)⟩,
  ⟨some 16, none, .bin .eql (.t 14) (.t 15)⟩,
  ⟨some 17, none, .mov (.t 16)⟩,
  ⟨some 18, some (17, false), .mov (.t 2)⟩,
  ⟨some 19, some (17, false), .mov (.t 8)⟩,
  ⟨some 20, some (17, false), .ixA 24 24 (.t 3) (.t 18)⟩,
  ⟨some 21, some (17, false), .ixA 24 1 (.t 20) (.t 19)⟩,
  ⟨some 22, some (17, false), .ld (.t 21)⟩,
  ⟨some 23, some (17, false), .mov (.t 22)⟩,
  ⟨some 24, some (23, true), .mov (.t 8)⟩,
  ⟨some 25, some (23, true), .mov (.t 2)⟩,
  ⟨some 26, some (23, true), .ixA 24 24 (.t 3) (.t 24)⟩,
  ⟨some 27, some (23, true), .ixA 24 1 (.t 26) (.t 25)⟩,
  ⟨some 28, some (23, true), .ld (.t 27)⟩,
  ⟨some 29, some (17, false), .pick (.t 23) (.t 28) (.c (.b false))⟩,
  ⟨some 30, none, .pick (.t 17) (.c (.b true)) (.t 29)⟩]
def r127_6 : List O := [⟨some 31, none, .mov (.t 7)⟩,
  ⟨some 32, none, .mov (.t 8)⟩,
  ⟨some 33, none, .buildSl [.i .i64 0] 1 [(0, 1, (.t 32))]⟩,
  ⟨some 34, none, .app 1 8 (.t 31) (.t 33)⟩,
  ⟨some 7, none, .mov (.t 34)⟩]
def r127_4 : List O := [⟨some 12, none, .mov (.t 8)⟩,
  ⟨some 13, none, .bin .add (.t 12) (.c (.i .i64 1))⟩,
  ⟨some 8, none, .mov (.t 13)⟩]
def b127_0 : C := .seq (.seq (.ops r127_3) (.cond (.t 11) (.skip) (.exit 0))) (.seq (.block 1 (.seq (.ops r127_5) (.cond (.t 30) (.ops r127_6) (.skip)))) (.ops r127_4))
def r127_7 : List O := [⟨some 35, none, .mov (.t 7)⟩,
  ⟨some 6, none, .mov (.t 35)⟩]
/-- sennet.sennetref03.mates -/
def a127 : FI := ⟨36, [.tmp 6], .seq (.ops r127_0) (.seq (.ops r127_1) (.seq (.seq (.ops r127_2) (.block 0 (.loop b127_0))) (.seq (.ops r127_7) (.ret))))⟩
def r128_0 : List O := [⟨some 2, none, .box (.t 0)⟩,
  ⟨some 4, none, .alloc (List.replicate 24 (.b false))⟩]
def r128_1 : List O := [⟨some 5, none, .alloc (List.replicate 24 (.b false))⟩]
def r128_2 : List O := [⟨some 6, none, .alloc [.fnil]⟩]
def r128_3 : List O := [⟨some 7, none, .mkFn 136 [] [(.t 2), (.t 5), (.t 6)]⟩,
  ⟨none, none, .st 1 (.t 6) (.t 7)⟩]
def r128_4 : List O := [⟨some 8, none, .ld (.t 6)⟩,
  ⟨some 9, none, .mov (.t 1)⟩,
  ⟨some 10, none, .call (.t 8) [(.t 9)]⟩]
def r128_5 : List O := [⟨some 11, none, .ldn 24 (.t 5)⟩,
  ⟨none, none, .st 24 (.t 4) (.t 11)⟩]
/-- (*sennet.rank.web).from -/
def a128 : FI := ⟨12, [.cell 4 (some 24)], .seq (.ops r128_0) (.seq (.ops r128_1) (.seq (.ops r128_2) (.seq (.ops r128_3) (.seq (.ops r128_4) (.seq (.ops r128_5) (.ret))))))⟩
def r129_0 : List O := [⟨some 8, none, .ld (.t 0)⟩,
  ⟨some 9, none, .nilck (.t 8)⟩,
  ⟨some 10, none, .fld 0 (.t 9)⟩,
  ⟨some 11, none, .ld (.t 10)⟩,
  ⟨some 12, none, .mov (.c (.i .i64 0))⟩]
def r129_1 : List O := [⟨some 13, none, .bin .lss (.t 12) (.t 11)⟩]
def r129_2 : List O := [⟨some 14, none, .mov (.t 12)⟩,
  ⟨some 4, none, .mov (.t 14)⟩]
def r129_3 : List O := [⟨some 15, none, .ld (.t 0)⟩,
  ⟨some 16, none, .mov (.t 4)⟩,
  ⟨some 17, none, .call (.f 130) [(.t 15), (.t 16)]⟩,
  ⟨some 5, none, .alloc (List.replicate 24 (.b false))⟩,
  ⟨none, none, .st 24 (.t 5) (.t 17)⟩]
def r129_4 : List O := [⟨some 18, none, .mov (.t 4)⟩,
  ⟨some 19, none, .ixA 24 1 (.t 1) (.t 18)⟩,
  ⟨some 20, none, .ld (.t 19)⟩,
  ⟨some 21, none, .mov (.t 20)⟩,
  ⟨some 22, some (21, false), .ld (.t 0)⟩,
  ⟨some 23, some (21, false), .mov (.t 4)⟩,
  ⟨some 24, some (21, false), .ldn 24 (.t 5)⟩,
  ⟨some 25, some (21, false), .ldn 24 (.t 1)⟩,
  ⟨some 26, some (21, false), .call (.f 131) [(.t 22), (.t 23), (.t 24), (.t 25)]⟩,
  ⟨some 27, none, .pick (.t 21) (.c (.b true)) (.t 26)⟩]
def r129_5 : List O := [⟨some 28, none, .ld (.t 2)⟩,
  ⟨some 29, none, .ldn 24 (.t 5)⟩,
  ⟨some 30, none, .call (.f 132) [(.t 29)]⟩,
  ⟨some 31, none, .buildSl [.sn] 1 [(0, 1, (.t 30))]⟩,
  ⟨some 32, none, .app 1 24 (.t 28) (.t 31)⟩,
  ⟨none, none, .st 1 (.t 2) (.t 32)⟩]
def r129_6 : List O := [⟨some 33, none, .ldn 24 (.t 5)⟩,
  ⟨some 34, none, .call (.f 132) [(.t 33)]⟩,
  ⟨some 35, none, .lenL (.t 34)⟩,
  ⟨some 36, none, .mov (.c (.i .i64 0))⟩]
def r129_7 : List O := [⟨some 37, none, .bin .lss (.t 36) (.t 35)⟩]
def r129_8 : List O := [⟨some 38, none, .ixS 1 (.t 34) (.t 36)⟩,
  ⟨some 39, none, .ld (.t 38)⟩,
  ⟨some 7, none, .mov (.t 39)⟩]
def r129_9 : List O := [⟨some 40, none, .mov (.t 7)⟩,
  ⟨some 41, none, .ixA 24 1 (.t 1) (.t 40)⟩,
  ⟨none, none, .st 1 (.t 41) (.c (.b true))⟩]
def r129_10 : List O := [⟨some 42, none, .bin .add (.t 36) (.c (.i .i64 1))⟩,
  ⟨some 36, none, .mov (.t 42)⟩]
def b129_0 : C := .seq (.ops r129_7) (.seq (.cond (.t 37) (.skip) (.exit 2)) (.seq (.block 3 (.seq (.ops r129_8) (.ops r129_9))) (.ops r129_10)))
def r129_11 : List O := [⟨some 43, none, .ld (.t 3)⟩,
  ⟨some 44, none, .call (.t 43) []⟩]
def r129_12 : List O := [⟨some 45, none, .bin .add (.t 12) (.c (.i .i64 1))⟩,
  ⟨some 12, none, .mov (.t 45)⟩]
def b129_1 : C := .seq (.ops r129_1) (.seq (.cond (.t 13) (.skip) (.exit 0)) (.seq (.block 1 (.seq (.ops r129_2) (.seq (.ops r129_3) (.seq (.seq (.ops r129_4) (.cond (.t 27) (.exit 1) (.skip))) (.seq (.draw r129_5 [(0, 2)]) (.seq (.seq (.ops r129_6) (.block 2 (.loop b129_0))) (.seq (.ops r129_11) (.ret)))))))) (.ops r129_12)))
/-- (*sennet.rank.web).components$1 -/
def a129 : FI := ⟨46, [], .seq (.ops r129_0) (.block 0 (.loop b129_1))⟩
def r130_0 : List O := [⟨some 4, none, .alloc (List.replicate 24 (.b false))⟩]
def r130_1 : List O := [⟨some 5, none, .alloc (List.replicate 24 (.b false))⟩]
def r130_2 : List O := [⟨some 7, none, .mov (.t 0)⟩,
  ⟨some 8, none, .nilck (.t 7)⟩,
  ⟨some 9, none, .fld 0 (.t 8)⟩,
  ⟨some 10, none, .ld (.t 9)⟩,
  ⟨some 11, none, .mov (.c (.i .i64 0))⟩]
def r130_3 : List O := [⟨some 12, none, .bin .lss (.t 11) (.t 10)⟩]
def r130_4 : List O := [⟨some 13, none, .mov (.t 11)⟩,
  ⟨some 6, none, .mov (.t 13)⟩]
def r130_5 : List O := [⟨some 14, none, .mov (.t 6)⟩,
  ⟨some 15, none, .mov (.t 1)⟩,
  ⟨some 16, none, .mov (.t 6)⟩,
  ⟨some 17, none, .bin .eql (.t 15) (.t 16)⟩,
  ⟨some 18, none, .mov (.t 17)⟩,
  ⟨some 19, some (18, false), .mov (.t 0)⟩,
  ⟨some 20, some (18, false), .mov (.t 1)⟩,
  ⟨some 21, some (18, false), .mov (.t 6)⟩,
  ⟨some 22, some (18, false), .call (.f 137) [(.t 19), (.t 20), (.t 21)]⟩,
  ⟨some 23, some (18, false), .bin .eql (.t 22) (.c (.i .u8 3))⟩,
  ⟨some 24, none, .pick (.t 18) (.c (.b true)) (.t 23)⟩,
  ⟨some 25, none, .ixA 24 1 (.t 5) (.t 14)⟩,
  ⟨none, none, .st 1 (.t 25) (.t 24)⟩]
def r130_6 : List O := [⟨some 26, none, .bin .add (.t 11) (.c (.i .i64 1))⟩,
  ⟨some 11, none, .mov (.t 26)⟩]
def b130_0 : C := .seq (.ops r130_3) (.seq (.cond (.t 12) (.skip) (.exit 0)) (.seq (.block 1 (.seq (.ops r130_4) (.ops r130_5))) (.ops r130_6)))
def r130_7 : List O := [⟨some 27, none, .ldn 24 (.t 5)⟩,
  ⟨none, none, .st 24 (.t 4) (.t 27)⟩]
/-- (*sennet.rank.web).component -/
def a130 : FI := ⟨28, [.cell 4 (some 24)], .seq (.ops r130_0) (.seq (.ops r130_1) (.seq (.seq (.ops r130_2) (.block 0 (.loop b130_0))) (.seq (.ops r130_7) (.ret))))⟩
def r131_0 : List O := [⟨some 6, none, .box (.t 2)⟩,
  ⟨some 7, none, .box (.t 3)⟩,
  ⟨some 8, none, .mov (.c (.b false))⟩]
def r131_1 : List O := [⟨some 10, none, .mov (.t 0)⟩,
  ⟨some 11, none, .nilck (.t 10)⟩,
  ⟨some 12, none, .fld 0 (.t 11)⟩,
  ⟨some 13, none, .ld (.t 12)⟩,
  ⟨some 14, none, .mov (.c (.i .i64 0))⟩]
def r131_2 : List O := [⟨some 15, none, .bin .lss (.t 14) (.t 13)⟩]
def r131_3 : List O := [⟨some 16, none, .mov (.t 14)⟩,
  ⟨some 9, none, .mov (.t 16)⟩]
def r131_4 : List O := [⟨some 17, none, .mov (.t 9)⟩,
  ⟨some 18, none, .ixA 24 1 (.t 6) (.t 17)⟩,
  ⟨some 19, none, .ld (.t 18)⟩,
  ⟨some 20, none, .un .not (.t 19)⟩,
  ⟨some 21, none, .mov (.t 20)⟩,
  ⟨some 22, some (21, true), .mov (.t 9)⟩,
  ⟨some 23, some (21, true), .ixA 24 1 (.t 7) (.t 22)⟩,
  ⟨some 24, some (21, true), .ld (.t 23)⟩,
  ⟨some 25, some (21, true), .un .not (.t 24)⟩,
  ⟨some 26, none, .pick (.t 21) (.t 25) (.c (.b false))⟩,
  ⟨some 27, none, .mov (.t 26)⟩,
  ⟨some 28, some (27, true), .mov (.t 0)⟩,
  ⟨some 29, some (27, true), .mov (.t 9)⟩,
  ⟨some 30, some (27, true), .mov (.t 1)⟩,
  ⟨some 31, some (27, true), .nilck (.t 28)⟩,
  ⟨some 32, some (27, true), .fld 577 (.t 31)⟩,
  ⟨some 33, some (27, true), .ixA 24 24 (.t 32) (.t 29)⟩,
  ⟨some 34, some (27, true), .ixA 24 1 (.t 33) (.t 30)⟩,
  ⟨some 35, some (27, true), .ld (.t 34)⟩,
  ⟨some 36, none, .pick (.t 27) (.t 35) (.c (.b false))⟩]
def r131_5 : List O := [⟨some 8, none, .mov (.c (.b true))⟩]
def r131_6 : List O := [⟨some 37, none, .bin .add (.t 14) (.c (.i .i64 1))⟩,
  ⟨some 14, none, .mov (.t 37)⟩]
def b131_0 : C := .seq (.ops r131_2) (.seq (.cond (.t 15) (.skip) (.exit 0)) (.seq (.block 1 (.seq (.ops r131_3) (.seq (.ops r131_4) (.cond (.t 36) (.seq (.ops r131_5) (.ret)) (.skip))))) (.ops r131_6)))
def r131_7 : List O := [⟨some 8, none, .mov (.c (.b false))⟩]
/-- (*sennet.rank.web).preceded -/
def a131 : FI := ⟨38, [.tmp 8], .seq (.ops r131_0) (.seq (.seq (.ops r131_1) (.block 0 (.loop b131_0))) (.seq (.ops r131_7) (.ret)))⟩
def r132_0 : List O := [⟨some 1, none, .box (.t 0)⟩,
  ⟨some 2, none, .mov (.c (.sn))⟩]
def r132_1 : List O := [⟨some 3, none, .mov (.c (.sn))⟩]
def r132_2 : List O := [⟨some 6, none, .ldn 24 (.t 1)⟩,
  ⟨some 7, none, .mov (.c (.i .i64 0))⟩]
def r132_3 : List O := [⟨some 8, none, .bin .lss (.t 7) (.c (.i .i64 24))⟩]
def r132_4 : List O := [⟨some 9, none, .mov (.t 7)⟩,
  ⟨some 10, none, .ixV 24 1 false (.t 6) (.t 7)⟩,
  ⟨some 4, none, .mov (.t 9)⟩,
  ⟨some 5, none, .mov (.t 10)⟩]
def r132_5 : List O := [⟨some 11, none, .mov (.t 5)⟩]
def r132_6 : List O := [⟨some 12, none, .mov (.t 3)⟩,
  ⟨some 13, none, .mov (.t 4)⟩,
  ⟨some 14, none, .buildSl [.i .i64 0] 1 [(0, 1, (.t 13))]⟩,
  ⟨some 15, none, .app 1 8 (.t 12) (.t 14)⟩,
  ⟨some 3, none, .mov (.t 15)⟩]
def r132_7 : List O := [⟨some 16, none, .bin .add (.t 7) (.c (.i .i64 1))⟩,
  ⟨some 7, none, .mov (.t 16)⟩]
def b132_0 : C := .seq (.ops r132_3) (.seq (.cond (.t 8) (.skip) (.exit 0)) (.seq (.block 1 (.seq (.ops r132_4) (.seq (.ops r132_5) (.cond (.t 11) (.ops r132_6) (.skip))))) (.ops r132_7)))
def r132_8 : List O := [⟨some 17, none, .mov (.t 3)⟩,
  ⟨some 2, none, .mov (.t 17)⟩]
/-- (sennet.rank.set).list -/
def a132 : FI := ⟨18, [.tmp 2], .seq (.ops r132_0) (.seq (.ops r132_1) (.seq (.seq (.ops r132_2) (.block 0 (.loop b132_0))) (.seq (.ops r132_8) (.ret))))⟩
def r133_0 : List O := [⟨some 6, none, .ld (.t 1)⟩,
  ⟨some 7, none, .mov (.c (.i .i64 0))⟩]
def r133_1 : List O := [⟨some 8, none, .bin .lss (.t 7) (.t 6)⟩]
def r133_2 : List O := [⟨some 9, none, .mov (.t 7)⟩,
  ⟨some 4, none, .mov (.t 9)⟩]
def r133_3 : List O := [⟨some 10, none, .mov (.t 4)⟩,
  ⟨some 11, none, .bin .shl (.c (.i .i64 1)) (.t 10)⟩,
  ⟨some 5, none, .mov (.t 11)⟩]
def r133_4 : List O := [⟨some 12, none, .ld (.t 2)⟩,
  ⟨some 13, none, .mov (.t 5)⟩,
  ⟨some 14, none, .bin .and (.t 12) (.t 13)⟩,
  ⟨some 15, none, .bin .neq (.t 14) (.c (.i .i64 0))⟩,
  ⟨some 16, none, .mov (.t 15)⟩,
  ⟨some 17, some (16, true), .mov (.t 0)⟩,
  ⟨some 18, some (16, true), .mov (.t 4)⟩,
  ⟨some 19, some (16, true), .mov (.t 5)⟩,
  ⟨some 20, some (16, true), .call (.t 17) [(.t 18), (.t 19)]⟩,
  ⟨some 21, some (16, true), .un .not (.t 20)⟩,
  ⟨some 22, none, .pick (.t 16) (.t 21) (.c (.b false))⟩]
def r133_5 : List O := [⟨some 23, none, .bin .add (.t 7) (.c (.i .i64 1))⟩,
  ⟨some 7, none, .mov (.t 23)⟩]
def b133_0 : C := .seq (.ops r133_1) (.seq (.cond (.t 8) (.skip) (.exit 0)) (.seq (.block 1 (.seq (.ops r133_2) (.seq (.ops r133_3) (.seq (.ops r133_4) (.cond (.t 22) (.ret) (.skip)))))) (.ops r133_5)))
/-- sennet.rows.members$1 -/
def a133 : FI := ⟨24, [], .seq (.ops r133_0) (.block 0 (.loop b133_0))⟩
def r134_0 : List O := [⟨some 2, none, .mov (.c (.b false))⟩]
def r134_1 : List O := [⟨some 3, none, .mov (.t 0)⟩,
  ⟨some 4, none, .mov (.t 0)⟩,
  ⟨some 5, none, .bin .neq (.t 3) (.t 4)⟩,
  ⟨some 2, none, .mov (.t 5)⟩]
/-- cmp.isNaN[int] -/
def a134 : FI := ⟨6, [.tmp 2], .seq (.ops r134_0) (.seq (.ops r134_1) (.ret))⟩
def r135_0 : List O := [⟨some 1, none, .box (.t 0)⟩,
  ⟨some 2, none, .alloc (List.replicate 576 (.b false))⟩]
def r135_1 : List O := [⟨some 3, none, .alloc (List.replicate 576 (.b false))⟩]
def r135_2 : List O := [⟨some 4, none, .mov (.c (.i .i64 0))⟩]
def r135_3 : List O := [⟨some 5, none, .mov (.t 4)⟩,
  ⟨some 6, none, .fld 1 (.t 1)⟩,
  ⟨some 7, none, .ld (.t 6)⟩,
  ⟨some 8, none, .lenL (.t 7)⟩,
  ⟨some 9, none, .bin .lss (.t 5) (.t 8)⟩]
def r135_5 : List O := [⟨some 12, none, .fld 1 (.t 1)⟩,
  ⟨some 13, none, .ld (.t 12)⟩,
  ⟨some 14, none, .mov (.t 4)⟩,
  ⟨some 15, none, .ixS 4 (.t 13) (.t 14)⟩,
  ⟨some 16, none, .fld 0 (.t 15)⟩,
  ⟨some 17, none, .ld (.t 16)⟩,
  ⟨some 18, none, .fld 1 (.t 1)⟩,
  ⟨some 19, none, .ld (.t 18)⟩,
  ⟨some 20, none, .mov (.t 4)⟩,
  ⟨some 21, none, .ixS 4 (.t 19) (.t 20)⟩,
  ⟨some 22, none, .fld 1 (.t 21)⟩,
  ⟨some 23, none, .ld (.t 22)⟩,
  ⟨some 24, none, .ixA 24 24 (.t 3) (.t 17)⟩,
  ⟨some 25, none, .ixA 24 1 (.t 24) (.t 23)⟩,
  ⟨none, none, .st 1 (.t 25) (.c (.b true))⟩]
def r135_4 : List O := [⟨some 10, none, .mov (.t 4)⟩,
  ⟨some 11, none, .bin .add (.t 10) (.c (.i .i64 1))⟩,
  ⟨some 4, none, .mov (.t 11)⟩]
def b135_0 : C := .seq (.seq (.ops r135_3) (.cond (.t 9) (.skip) (.exit 0))) (.seq (.block 1 (.draw r135_5 [])) (.ops r135_4))
def r135_6 : List O := [⟨some 26, none, .ldn 576 (.t 3)⟩,
  ⟨none, none, .st 576 (.t 2) (.t 26)⟩]
/-- sennet.sennetref03.steps -/
def a135 : FI := ⟨27, [.cell 2 (some 576)], .seq (.ops r135_0) (.seq (.ops r135_1) (.seq (.seq (.ops r135_2) (.block 0 (.loop b135_0))) (.seq (.ops r135_6) (.ret))))⟩
def r136_0 : List O := [⟨some 7, none, .ld (.t 1)⟩,
  ⟨some 8, none, .mov (.t 0)⟩,
  ⟨some 9, none, .nilck (.t 7)⟩,
  ⟨some 10, none, .fld 1 (.t 9)⟩,
  ⟨some 11, none, .ixA 24 24 (.t 10) (.t 8)⟩,
  ⟨some 12, none, .ldn 24 (.t 11)⟩,
  ⟨some 13, none, .call (.f 132) [(.t 12)]⟩,
  ⟨some 14, none, .lenL (.t 13)⟩,
  ⟨some 15, none, .mov (.c (.i .i64 0))⟩]
def r136_1 : List O := [⟨some 16, none, .bin .lss (.t 15) (.t 14)⟩]
def r136_2 : List O := [⟨some 17, none, .ixS 1 (.t 13) (.t 15)⟩,
  ⟨some 18, none, .ld (.t 17)⟩,
  ⟨some 6, none, .mov (.t 18)⟩]
def r136_3 : List O := [⟨some 19, none, .mov (.t 6)⟩,
  ⟨some 20, none, .ixA 24 1 (.t 2) (.t 19)⟩,
  ⟨some 21, none, .ld (.t 20)⟩,
  ⟨some 22, none, .un .not (.t 21)⟩]
def r136_4 : List O := [⟨some 23, none, .mov (.t 6)⟩,
  ⟨some 24, none, .ixA 24 1 (.t 2) (.t 23)⟩,
  ⟨none, none, .st 1 (.t 24) (.c (.b true))⟩]
def r136_5 : List O := [⟨some 25, none, .ld (.t 3)⟩,
  ⟨some 26, none, .mov (.t 6)⟩,
  ⟨some 27, none, .call (.t 25) [(.t 26)]⟩]
def r136_6 : List O := [⟨some 28, none, .bin .add (.t 15) (.c (.i .i64 1))⟩,
  ⟨some 15, none, .mov (.t 28)⟩]
def b136_0 : C := .seq (.ops r136_1) (.seq (.cond (.t 16) (.skip) (.exit 0)) (.seq (.block 1 (.seq (.ops r136_2) (.seq (.ops r136_3) (.cond (.t 22) (.seq (.ops r136_4) (.ops r136_5)) (.skip))))) (.ops r136_6)))
/-- (*sennet.rank.web).from$1 -/
def a136 : FI := ⟨29, [], .seq (.ops r136_0) (.block 0 (.loop b136_0))⟩
def r137_0 : List O := [⟨some 6, none, .mov (.c (.i .u8 0))⟩]
def r137_1 : List O := [⟨some 9, none, .mov (.t 0)⟩,
  ⟨some 10, none, .mov (.t 1)⟩,
  ⟨some 11, none, .mov (.t 2)⟩,
  ⟨some 12, none, .nilck (.t 9)⟩,
  ⟨some 13, none, .fld 577 (.t 12)⟩,
  ⟨some 14, none, .ixA 24 24 (.t 13) (.t 10)⟩,
  ⟨some 15, none, .ixA 24 1 (.t 14) (.t 11)⟩,
  ⟨some 16, none, .ld (.t 15)⟩,
  ⟨some 17, none, .mov (.t 0)⟩,
  ⟨some 18, none, .mov (.t 2)⟩,
  ⟨some 19, none, .mov (.t 1)⟩,
  ⟨some 20, none, .nilck (.t 17)⟩,
  ⟨some 21, none, .fld 577 (.t 20)⟩,
  ⟨some 22, none, .ixA 24 24 (.t 21) (.t 18)⟩,
  ⟨some 23, none, .ixA 24 1 (.t 22) (.t 19)⟩,
  ⟨some 24, none, .ld (.t 23)⟩,
  ⟨some 7, none, .mov (.t 16)⟩,
  ⟨some 8, none, .mov (.t 24)⟩]
def r137_2 : List O := [⟨some 26, none, .mov (.t 1)⟩,
  ⟨some 27, none, .mov (.t 2)⟩,
  ⟨some 28, none, .bin .eql (.t 26) (.t 27)⟩,
  ⟨some 29, none, .mov (.t 28)⟩,
  ⟨some 30, some (29, false), .mov (.t 7)⟩,
  ⟨some 31, some (29, false), .un .not (.t 30)⟩,
  ⟨some 32, some (29, false), .mov (.t 31)⟩,
  ⟨some 33, some (32, true), .mov (.t 8)⟩,
  ⟨some 34, some (32, true), .un .not (.t 33)⟩,
  ⟨some 35, some (29, false), .pick (.t 32) (.t 34) (.c (.b false))⟩,
  ⟨some 36, none, .pick (.t 29) (.c (.b true)) (.t 35)⟩,
  ⟨some 25, none, .mov (.t 36)⟩]
def r137_3 : List O := [⟨some 6, none, .mov (.c (.i .u8 0))⟩]
def r137_4 : List O := [⟨some 38, none, .mov (.t 7)⟩,
  ⟨some 39, none, .mov (.t 38)⟩,
  ⟨some 40, some (39, true), .mov (.t 8)⟩,
  ⟨some 41, none, .pick (.t 39) (.t 40) (.c (.b false))⟩,
  ⟨some 37, none, .mov (.t 41)⟩]
def r137_5 : List O := [⟨some 6, none, .mov (.c (.i .u8 3))⟩]
def r137_6 : List O := [⟨some 43, none, .mov (.t 7)⟩,
  ⟨some 42, none, .mov (.t 43)⟩]
def r137_7 : List O := [⟨some 6, none, .mov (.c (.i .u8 1))⟩]
def r137_8 : List O := [⟨some 6, none, .mov (.c (.i .u8 2))⟩]
/-- (*sennet.rank.web).standing -/
def a137 : FI := ⟨44, [.tmp 6], .seq (.ops r137_0) (.seq (.draw r137_1 []) (.seq (.block 0 (.seq (.ops r137_2) (.cond (.t 25) (.seq (.ops r137_3) (.ret)) (.seq (.ops r137_4) (.cond (.t 37) (.seq (.ops r137_5) (.ret)) (.seq (.ops r137_6) (.cond (.t 42) (.seq (.ops r137_7) (.ret)) (.skip)))))))) (.seq (.ops r137_8) (.ret))))⟩

end Go.Air.Try
