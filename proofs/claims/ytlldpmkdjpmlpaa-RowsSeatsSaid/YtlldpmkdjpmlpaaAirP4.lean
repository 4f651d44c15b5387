import Derived.Test.YtlldpmkdjpmlpaaAir
set_option maxRecDepth 100000
namespace Go.Air.Try
def r76_0 : List O := [⟨some 1, none, .box (.t 0)⟩,
  ⟨some 2, none, .mov (.c (.i .i64 0))⟩]
def r76_1 : List O := [⟨some 6, none, .fld 0 (.t 1)⟩,
  ⟨some 7, none, .ld (.t 6)⟩,
  ⟨some 8, none, .bin .gtr (.t 7) (.c (.i .i64 24))⟩]
def r76_2 : List O := [⟨some 2, none, .mov (.c (.i .i64 2))⟩]
def r76_3 : List O := [⟨some 9, none, .fld 0 (.t 1)⟩,
  ⟨some 10, none, .ld (.t 9)⟩,
  ⟨some 11, none, .bin .lss (.t 10) (.c (.i .i64 0))⟩]
def r76_4 : List O := [⟨some 2, none, .mov (.c (.i .i64 1))⟩]
def r76_5 : List O := [⟨some 3, none, .mov (.c (.i .i64 0))⟩]
def r76_6 : List O := [⟨some 12, none, .mov (.t 3)⟩,
  ⟨some 13, none, .fld 1 (.t 1)⟩,
  ⟨some 14, none, .ld (.t 13)⟩,
  ⟨some 15, none, .lenL (.t 14)⟩,
  ⟨some 16, none, .bin .lss (.t 12) (.t 15)⟩]
def r76_8 : List O := [⟨some 19, none, .fld 1 (.t 1)⟩,
  ⟨some 20, none, .ld (.t 19)⟩,
  ⟨some 21, none, .mov (.t 3)⟩,
  ⟨some 22, none, .ixS 4 (.t 20) (.t 21)⟩,
  ⟨some 23, none, .ldn 4 (.t 22)⟩,
  ⟨some 4, none, .alloc [.i .i64 0, .i .i64 0, .i .i64 0, .i .i64 0]⟩,
  ⟨none, none, .st 4 (.t 4) (.t 23)⟩]
def r76_9 : List O := [⟨some 24, none, .fld 0 (.t 4)⟩,
  ⟨some 25, none, .ld (.t 24)⟩,
  ⟨some 26, none, .bin .lss (.t 25) (.c (.i .i64 0))⟩,
  ⟨some 27, none, .mov (.t 26)⟩,
  ⟨some 28, some (27, false), .fld 0 (.t 4)⟩,
  ⟨some 29, some (27, false), .ld (.t 28)⟩,
  ⟨some 30, some (27, false), .fld 0 (.t 1)⟩,
  ⟨some 31, some (27, false), .ld (.t 30)⟩,
  ⟨some 32, some (27, false), .bin .geq (.t 29) (.t 31)⟩,
  ⟨some 33, none, .pick (.t 27) (.c (.b true)) (.t 32)⟩,
  ⟨some 34, none, .mov (.t 33)⟩,
  ⟨some 35, some (34, false), .fld 1 (.t 4)⟩,
  ⟨some 36, some (34, false), .ld (.t 35)⟩,
  ⟨some 37, some (34, false), .bin .lss (.t 36) (.c (.i .i64 0))⟩,
  ⟨some 38, none, .pick (.t 34) (.c (.b true)) (.t 37)⟩,
  ⟨some 39, none, .mov (.t 38)⟩,
  ⟨some 40, some (39, false), .fld 1 (.t 4)⟩,
  ⟨some 41, some (39, false), .ld (.t 40)⟩,
  ⟨some 42, some (39, false), .fld 0 (.t 1)⟩,
  ⟨some 43, some (39, false), .ld (.t 42)⟩,
  ⟨some 44, some (39, false), .bin .geq (.t 41) (.t 43)⟩,
  ⟨some 45, none, .pick (.t 39) (.c (.b true)) (.t 44)⟩,
  ⟨some 46, none, .mov (.t 45)⟩,
  ⟨some 47, some (46, false), .fld 0 (.t 4)⟩,
  ⟨some 48, some (46, false), .ld (.t 47)⟩,
  ⟨some 49, some (46, false), .fld 1 (.t 4)⟩,
  ⟨some 50, some (46, false), .ld (.t 49)⟩,
  ⟨some 51, some (46, false), .bin .eql (.t 48) (.t 50)⟩,
  ⟨some 52, none, .pick (.t 46) (.c (.b true)) (.t 51)⟩,
  ⟨some 53, none, .mov (.t 52)⟩,
  ⟨some 54, some (53, false), .fld 2 (.t 4)⟩,
  ⟨some 55, some (53, false), .ld (.t 54)⟩,
  ⟨some 56, some (53, false), .bin .lss (.t 55) (.c (.i .i64 0))⟩,
  ⟨some 57, none, .pick (.t 53) (.c (.b true)) (.t 56)⟩,
  ⟨some 58, none, .mov (.t 57)⟩,
  ⟨some 59, some (58, false), .fld 2 (.t 4)⟩,
  ⟨some 60, some (58, false), .ld (.t 59)⟩,
  ⟨some 61, some (58, false), .bin .gtr (.t 60) (.c (.i .i64 23))⟩,
  ⟨some 62, none, .pick (.t 58) (.c (.b true)) (.t 61)⟩,
  ⟨some 63, none, .mov (.t 62)⟩,
  ⟨some 64, some (63, false), .fld 3 (.t 4)⟩,
  ⟨some 65, some (63, false), .ld (.t 64)⟩,
  ⟨some 66, some (63, false), .bin .lss (.t 65) (.c (.i .i64 1))⟩,
  ⟨some 67, none, .pick (.t 63) (.c (.b true)) (.t 66)⟩,
  ⟨some 68, none, .mov (.t 67)⟩,
  ⟨some 69, some (68, false), .fld 3 (.t 4)⟩,
  ⟨some 70, some (68, false), .ld (.t 69)⟩,
  ⟨some 71, some (68, false), .bin .gtr (.t 70) (.c (.i .i64 1000))⟩,
  ⟨some 72, none, .pick (.t 68) (.c (.b true)) (.t 71)⟩]
def r76_10 : List O := [⟨some 2, none, .mov (.c (.i .i64 1))⟩]
def r76_11 : List O := [⟨some 73, none, .mov (.t 3)⟩,
  ⟨some 74, none, .bin .gtr (.t 73) (.c (.i .i64 0))⟩]
def r76_12 : List O := [⟨some 75, none, .fld 1 (.t 1)⟩,
  ⟨some 76, none, .ld (.t 75)⟩,
  ⟨some 77, none, .mov (.t 3)⟩,
  ⟨some 78, none, .bin .sub (.t 77) (.c (.i .i64 1))⟩,
  ⟨some 79, none, .ixS 4 (.t 76) (.t 78)⟩,
  ⟨some 80, none, .ldn 4 (.t 79)⟩,
  ⟨some 5, none, .alloc [.i .i64 0, .i .i64 0, .i .i64 0, .i .i64 0]⟩,
  ⟨none, none, .st 4 (.t 5) (.t 80)⟩]
def r76_13 : List O := [⟨some 81, none, .fld 0 (.t 5)⟩,
  ⟨some 82, none, .ld (.t 81)⟩,
  ⟨some 83, none, .fld 0 (.t 4)⟩,
  ⟨some 84, none, .ld (.t 83)⟩,
  ⟨some 85, none, .bin .gtr (.t 82) (.t 84)⟩,
  ⟨some 86, none, .mov (.t 85)⟩,
  ⟨some 87, some (86, false), .fld 0 (.t 5)⟩,
  ⟨some 88, some (86, false), .ld (.t 87)⟩,
  ⟨some 89, some (86, false), .fld 0 (.t 4)⟩,
  ⟨some 90, some (86, false), .ld (.t 89)⟩,
  ⟨some 91, some (86, false), .bin .eql (.t 88) (.t 90)⟩,
  ⟨some 92, some (86, false), .mov (.t 91)⟩,
  ⟨some 93, some (92, true), .fld 1 (.t 5)⟩,
  ⟨some 94, some (92, true), .ld (.t 93)⟩,
  ⟨some 95, some (92, true), .fld 1 (.t 4)⟩,
  ⟨some 96, some (92, true), .ld (.t 95)⟩,
  ⟨some 97, some (92, true), .bin .geq (.t 94) (.t 96)⟩,
  ⟨some 98, some (86, false), .pick (.t 92) (.t 97) (.c (.b false))⟩,
  ⟨some 99, none, .pick (.t 86) (.c (.b true)) (.t 98)⟩]
def r76_14 : List O := [⟨some 2, none, .mov (.c (.i .i64 1))⟩]
def r76_7 : List O := [⟨some 17, none, .mov (.t 3)⟩,
  ⟨some 18, none, .bin .add (.t 17) (.c (.i .i64 1))⟩,
  ⟨some 3, none, .mov (.t 18)⟩]
def b76_0 : C := .seq (.seq (.ops r76_6) (.cond (.t 16) (.skip) (.exit 0))) (.seq (.block 1 (.seq (.ops r76_8) (.seq (.seq (.ops r76_9) (.cond (.t 72) (.seq (.ops r76_10) (.ret)) (.skip))) (.seq (.ops r76_11) (.cond (.t 74) (.seq (.ops r76_12) (.seq (.ops r76_13) (.cond (.t 99) (.seq (.ops r76_14) (.ret)) (.skip)))) (.skip)))))) (.ops r76_7))
def r76_15 : List O := [⟨some 2, none, .mov (.c (.i .i64 0))⟩]
/-- sennet.sennetref03.Check -/
def a76 : FI := ⟨100, [.tmp 2], .seq (.ops r76_0) (.seq (.seq (.ops r76_1) (.cond (.t 8) (.seq (.ops r76_2) (.ret)) (.skip))) (.seq (.seq (.ops r76_3) (.cond (.t 11) (.seq (.ops r76_4) (.ret)) (.skip))) (.seq (.seq (.ops r76_5) (.block 0 (.loop b76_0))) (.seq (.ops r76_15) (.ret)))))⟩
def r77_0 : List O := [⟨some 1, none, .box (.t 0)⟩,
  ⟨some 2, none, .mov (.c (.i .i64 0))⟩]
def r77_1 : List O := [⟨some 7, none, .ldn 2 (.t 1)⟩,
  ⟨some 8, none, .call (.f 74) [(.t 7)]⟩,
  ⟨some 3, none, .mov (.t 8)⟩]
def r77_2 : List O := [⟨some 4, none, .mov (.c (.i .i64 0))⟩]
def r77_3 : List O := [⟨some 5, none, .mov (.c (.i .i64 0))⟩]
def r77_4 : List O := [⟨some 9, none, .mov (.t 5)⟩,
  ⟨some 10, none, .mov (.t 3)⟩,
  ⟨some 11, none, .lenL (.t 10)⟩,
  ⟨some 12, none, .bin .lss (.t 9) (.t 11)⟩]
def r77_6 : List O := [⟨some 15, none, .ldn 2 (.t 1)⟩,
  ⟨some 16, none, .mov (.t 3)⟩,
  ⟨some 17, none, .mov (.t 5)⟩,
  ⟨some 18, none, .ixS 1 (.t 16) (.t 17)⟩,
  ⟨some 19, none, .ld (.t 18)⟩,
  ⟨some 20, none, .call (.f 75) [(.t 15), (.t 19)]⟩,
  ⟨some 6, none, .alloc [.sn, .sn]⟩,
  ⟨none, none, .st 2 (.t 6) (.t 20)⟩]
def r77_7 : List O := [⟨some 21, none, .mov (.t 4)⟩,
  ⟨some 22, none, .fld 1 (.t 6)⟩,
  ⟨some 23, none, .ld (.t 22)⟩,
  ⟨some 24, none, .fld 1 (.t 6)⟩,
  ⟨some 25, none, .ld (.t 24)⟩,
  ⟨some 26, none, .lenL (.t 25)⟩,
  ⟨some 27, none, .bin .sub (.t 26) (.c (.i .i64 1))⟩,
  ⟨some 28, none, .ixS 1 (.t 23) (.t 27)⟩,
  ⟨some 29, none, .ld (.t 28)⟩,
  ⟨some 30, none, .bin .add (.t 21) (.t 29)⟩,
  ⟨some 4, none, .mov (.t 30)⟩]
def r77_5 : List O := [⟨some 13, none, .mov (.t 5)⟩,
  ⟨some 14, none, .bin .add (.t 13) (.c (.i .i64 1))⟩,
  ⟨some 5, none, .mov (.t 14)⟩]
def b77_0 : C := .seq (.seq (.ops r77_4) (.cond (.t 12) (.skip) (.exit 0))) (.seq (.block 1 (.seq (.draw r77_6 []) (.ops r77_7))) (.ops r77_5))
def r77_8 : List O := [⟨some 31, none, .mov (.t 4)⟩,
  ⟨some 2, none, .mov (.t 31)⟩]
/-- sennet.sennetref04.least -/
def a77 : FI := ⟨32, [.tmp 2], .seq (.ops r77_0) (.seq (.ops r77_1) (.seq (.ops r77_2) (.seq (.seq (.ops r77_3) (.block 0 (.loop b77_0))) (.seq (.ops r77_8) (.ret)))))⟩
def r78_0 : List O := [⟨some 2, none, .mov (.c (.i .i64 0))⟩]
def r78_1 : List O := [⟨some 6, none, .mkMap⟩,
  ⟨some 3, none, .mov (.t 6)⟩]
def r78_2 : List O := [⟨some 7, none, .mov (.t 0)⟩,
  ⟨some 8, none, .lenL (.t 7)⟩,
  ⟨some 9, none, .mov (.c (.i .i64 0))⟩]
def r78_3 : List O := [⟨some 10, none, .bin .lss (.t 9) (.t 8)⟩]
def r78_4 : List O := [⟨some 11, none, .ixS 1 (.t 7) (.t 9)⟩,
  ⟨some 12, none, .ld (.t 11)⟩,
  ⟨some 5, none, .mov (.t 12)⟩]
def r78_5 : List O := [⟨some 13, none, .mov (.t 5)⟩,
  ⟨some 14, none, .bin .lss (.t 13) (.c (.i .i64 0))⟩,
  ⟨some 15, none, .mov (.t 14)⟩,
  ⟨some 16, some (15, false), .mov (.t 3)⟩,
  ⟨some 17, some (15, false), .mov (.t 5)⟩,
  ⟨some 18, some (15, false), .look (.sc (.i .i64)) (.b false) false (.t 16) (.t 17)⟩,
  ⟨some 19, none, .pick (.t 15) (.c (.b true)) (.t 18)⟩]
def r78_6 : List O := [⟨some 2, none, .mov (.c (.i .i64 1))⟩]
def r78_7 : List O := [⟨some 20, none, .mov (.t 3)⟩,
  ⟨some 21, none, .mov (.t 5)⟩,
  ⟨none, none, .mapSet (.sc (.i .i64)) (.t 20) (.t 21) (.c (.b true))⟩]
def r78_8 : List O := [⟨some 22, none, .bin .add (.t 9) (.c (.i .i64 1))⟩,
  ⟨some 9, none, .mov (.t 22)⟩]
def b78_0 : C := .seq (.ops r78_3) (.seq (.cond (.t 10) (.skip) (.exit 0)) (.seq (.block 1 (.seq (.ops r78_4) (.seq (.seq (.ops r78_5) (.cond (.t 19) (.seq (.ops r78_6) (.ret)) (.skip))) (.ops r78_7)))) (.ops r78_8)))
def r78_9 : List O := [⟨some 2, none, .mov (.c (.i .i64 0))⟩]
/-- sennet.rows.listed -/
def a78 : FI := ⟨23, [.tmp 2], .seq (.ops r78_0) (.seq (.ops r78_1) (.seq (.seq (.ops r78_2) (.block 0 (.loop b78_0))) (.seq (.ops r78_9) (.ret))))⟩
def r79_0 : List O := [⟨some 4, none, .mov (.c (.sn))⟩]
def r79_1 : List O := [⟨some 6, none, .mov (.t 0)⟩,
  ⟨some 7, none, .mov (.t 1)⟩,
  ⟨some 8, none, .ixS 1 (.t 6) (.t 7)⟩,
  ⟨some 9, none, .ld (.t 8)⟩,
  ⟨some 10, none, .buildSl [.i .i64 0] 1 [(0, 1, (.t 9))]⟩,
  ⟨some 5, none, .mov (.t 10)⟩]
def r79_2 : List O := [⟨some 11, none, .mov (.t 5)⟩,
  ⟨some 12, none, .mov (.t 0)⟩,
  ⟨some 13, none, .mov (.t 1)⟩,
  ⟨some 14, none, .slc 1 (.t 12) none (some (.t 13)) none⟩,
  ⟨some 15, none, .app 1 8 (.t 11) (.t 14)⟩,
  ⟨some 5, none, .mov (.t 15)⟩]
def r79_3 : List O := [⟨some 16, none, .mov (.t 5)⟩,
  ⟨some 17, none, .mov (.t 0)⟩,
  ⟨some 18, none, .mov (.t 1)⟩,
  ⟨some 19, none, .bin .add (.t 18) (.c (.i .i64 1))⟩,
  ⟨some 20, none, .slc 1 (.t 17) (some (.t 19)) none none⟩,
  ⟨some 21, none, .app 1 8 (.t 16) (.t 20)⟩,
  ⟨some 4, none, .mov (.t 21)⟩]
/-- sennet.rows.copyFor -/
def a79 : FI := ⟨22, [.tmp 4], .seq (.ops r79_0) (.seq (.ops r79_1) (.seq (.ops r79_2) (.seq (.ops r79_3) (.ret))))⟩
def r80_0 : List O := [⟨some 2, none, .box (.t 0)⟩,
  ⟨some 4, none, .mov (.c (.i .i64 0))⟩]
def r80_1 : List O := [⟨some 6, none, .ldn 2 (.t 2)⟩,
  ⟨some 7, none, .call (.f 66) [(.t 6)]⟩,
  ⟨some 5, none, .mov (.t 7)⟩]
def r80_2 : List O := [⟨some 8, none, .mov (.t 5)⟩,
  ⟨some 9, none, .bin .neq (.t 8) (.c (.i .i64 0))⟩]
def r80_3 : List O := [⟨some 10, none, .mov (.t 5)⟩,
  ⟨some 4, none, .mov (.t 10)⟩]
def r80_4 : List O := [⟨some 11, none, .fld 0 (.t 2)⟩,
  ⟨some 12, none, .ld (.t 11)⟩,
  ⟨some 13, none, .mov (.t 1)⟩,
  ⟨some 14, none, .call (.f 37) [(.t 12), (.t 13)]⟩,
  ⟨some 4, none, .mov (.t 14)⟩]
/-- sennet.rows.both -/
def a80 : FI := ⟨15, [.tmp 4], .seq (.ops r80_0) (.seq (.seq (.ops r80_1) (.seq (.ops r80_2) (.cond (.t 9) (.seq (.ops r80_3) (.ret)) (.skip)))) (.seq (.ops r80_4) (.ret)))⟩
def r81_0 : List O := [⟨some 2, none, .box (.t 0)⟩,
  ⟨some 4, none, .mov (.c (.i .i64 0))⟩]
def r81_1 : List O := [⟨some 5, none, .mov (.c (.i .i64 0))⟩]
def r81_2 : List O := [⟨some 8, none, .ldn 2 (.t 2)⟩,
  ⟨some 9, none, .mov (.t 1)⟩,
  ⟨some 10, none, .call (.f 84) [(.t 8), (.t 9)]⟩,
  ⟨some 11, none, .lenL (.t 10)⟩,
  ⟨some 12, none, .mov (.c (.i .i64 0))⟩]
def r81_3 : List O := [⟨some 13, none, .bin .lss (.t 12) (.t 11)⟩]
def r81_4 : List O := [⟨some 14, none, .ixS 3 (.t 10) (.t 12)⟩,
  ⟨some 15, none, .ldn 3 (.t 14)⟩,
  ⟨some 7, none, .alloc [.i .i64 0, .i .i64 0, .i .i64 0]⟩,
  ⟨none, none, .st 3 (.t 7) (.t 15)⟩]
def r81_5 : List O := [⟨some 16, none, .mov (.t 5)⟩,
  ⟨some 17, none, .fld 2 (.t 7)⟩,
  ⟨some 18, none, .ld (.t 17)⟩,
  ⟨some 19, none, .bin .add (.t 16) (.t 18)⟩,
  ⟨some 5, none, .mov (.t 19)⟩]
def r81_6 : List O := [⟨some 20, none, .bin .add (.t 12) (.c (.i .i64 1))⟩,
  ⟨some 12, none, .mov (.t 20)⟩]
def b81_0 : C := .seq (.ops r81_3) (.seq (.cond (.t 13) (.skip) (.exit 0)) (.seq (.block 1 (.seq (.ops r81_4) (.ops r81_5))) (.ops r81_6)))
def r81_7 : List O := [⟨some 21, none, .mov (.t 5)⟩,
  ⟨some 4, none, .mov (.t 21)⟩]
/-- sennet.rows.offence -/
def a81 : FI := ⟨22, [.tmp 4], .seq (.ops r81_0) (.seq (.ops r81_1) (.seq (.seq (.ops r81_2) (.block 0 (.loop b81_0))) (.seq (.ops r81_7) (.ret))))⟩
def r82_0 : List O := [⟨some 2, none, .box (.t 0)⟩,
  ⟨some 4, none, .mov (.c (.i .i64 0))⟩]
def r82_1 : List O := [⟨some 6, none, .ldn 2 (.t 2)⟩,
  ⟨some 7, none, .call (.f 76) [(.t 6)]⟩,
  ⟨some 5, none, .mov (.t 7)⟩]
def r82_2 : List O := [⟨some 8, none, .mov (.t 5)⟩,
  ⟨some 9, none, .bin .neq (.t 8) (.c (.i .i64 0))⟩]
def r82_3 : List O := [⟨some 10, none, .mov (.t 5)⟩,
  ⟨some 4, none, .mov (.t 10)⟩]
def r82_4 : List O := [⟨some 11, none, .fld 0 (.t 2)⟩,
  ⟨some 12, none, .ld (.t 11)⟩,
  ⟨some 13, none, .mov (.t 1)⟩,
  ⟨some 14, none, .call (.f 38) [(.t 12), (.t 13)]⟩,
  ⟨some 4, none, .mov (.t 14)⟩]
/-- sennet.sennetref04.checked -/
def a82 : FI := ⟨15, [.tmp 4], .seq (.ops r82_0) (.seq (.ops r82_1) (.seq (.seq (.ops r82_2) (.cond (.t 9) (.seq (.ops r82_3) (.ret)) (.skip))) (.seq (.ops r82_4) (.ret))))⟩
def r83_0 : List O := [⟨some 2, none, .box (.t 0)⟩,
  ⟨some 4, none, .mov (.c (.i .i64 0))⟩]
def r83_1 : List O := [⟨some 5, none, .mov (.c (.i .i64 0))⟩]
def r83_2 : List O := [⟨some 6, none, .mov (.c (.i .i64 0))⟩]
def r83_3 : List O := [⟨some 8, none, .mov (.t 6)⟩,
  ⟨some 9, none, .fld 1 (.t 2)⟩,
  ⟨some 10, none, .ld (.t 9)⟩,
  ⟨some 11, none, .lenL (.t 10)⟩,
  ⟨some 12, none, .bin .lss (.t 8) (.t 11)⟩]
def r83_5 : List O := [⟨some 15, none, .fld 1 (.t 2)⟩,
  ⟨some 16, none, .ld (.t 15)⟩,
  ⟨some 17, none, .mov (.t 6)⟩,
  ⟨some 18, none, .ixS 4 (.t 16) (.t 17)⟩,
  ⟨some 19, none, .ldn 4 (.t 18)⟩,
  ⟨some 20, none, .mov (.t 1)⟩,
  ⟨some 21, none, .call (.f 85) [(.t 19), (.t 20)]⟩,
  ⟨some 7, none, .mov (.t 21)⟩]
def r83_6 : List O := [⟨some 22, none, .mov (.t 7)⟩]
def r83_7 : List O := [⟨some 23, none, .mov (.t 5)⟩,
  ⟨some 24, none, .fld 1 (.t 2)⟩,
  ⟨some 25, none, .ld (.t 24)⟩,
  ⟨some 26, none, .mov (.t 6)⟩,
  ⟨some 27, none, .ixS 4 (.t 25) (.t 26)⟩,
  ⟨some 28, none, .fld 3 (.t 27)⟩,
  ⟨some 29, none, .ld (.t 28)⟩,
  ⟨some 30, none, .bin .add (.t 23) (.t 29)⟩,
  ⟨some 5, none, .mov (.t 30)⟩]
def r83_4 : List O := [⟨some 13, none, .mov (.t 6)⟩,
  ⟨some 14, none, .bin .add (.t 13) (.c (.i .i64 1))⟩,
  ⟨some 6, none, .mov (.t 14)⟩]
def b83_0 : C := .seq (.seq (.ops r83_3) (.cond (.t 12) (.skip) (.exit 0))) (.seq (.block 1 (.seq (.ops r83_5) (.seq (.ops r83_6) (.cond (.t 22) (.ops r83_7) (.skip))))) (.ops r83_4))
def r83_8 : List O := [⟨some 31, none, .mov (.t 5)⟩,
  ⟨some 4, none, .mov (.t 31)⟩]
/-- sennet.sennetref04.Inner -/
def a83 : FI := ⟨32, [.tmp 4], .seq (.ops r83_0) (.seq (.ops r83_1) (.seq (.seq (.ops r83_2) (.block 0 (.loop b83_0))) (.seq (.ops r83_8) (.ret))))⟩
def r84_0 : List O := [⟨some 2, none, .box (.t 0)⟩,
  ⟨some 4, none, .mov (.c (.sn))⟩]
def r84_1 : List O := [⟨some 9, none, .mov (.t 1)⟩,
  ⟨some 10, none, .call (.f 117) [(.t 9)]⟩,
  ⟨some 5, none, .mov (.t 10)⟩]
def r84_2 : List O := [⟨some 6, none, .mov (.c (.sn))⟩]
def r84_3 : List O := [⟨some 11, none, .fld 1 (.t 2)⟩,
  ⟨some 12, none, .ld (.t 11)⟩,
  ⟨some 13, none, .lenL (.t 12)⟩,
  ⟨some 14, none, .mov (.c (.i .i64 0))⟩]
def r84_4 : List O := [⟨some 15, none, .bin .lss (.t 14) (.t 13)⟩]
def r84_5 : List O := [⟨some 16, none, .ixS 4 (.t 12) (.t 14)⟩,
  ⟨some 17, none, .ldn 4 (.t 16)⟩,
  ⟨some 8, none, .alloc [.i .i64 0, .i .i64 0, .i .i64 0, .i .i64 0]⟩,
  ⟨none, none, .st 4 (.t 8) (.t 17)⟩]
def r84_6 : List O := [⟨some 18, none, .mov (.t 5)⟩,
  ⟨some 19, none, .fld 0 (.t 8)⟩,
  ⟨some 20, none, .ld (.t 19)⟩,
  ⟨some 21, none, .ixS 1 (.t 18) (.t 20)⟩,
  ⟨some 22, none, .ld (.t 21)⟩,
  ⟨some 23, none, .mov (.t 5)⟩,
  ⟨some 24, none, .fld 1 (.t 8)⟩,
  ⟨some 25, none, .ld (.t 24)⟩,
  ⟨some 26, none, .ixS 1 (.t 23) (.t 25)⟩,
  ⟨some 27, none, .ld (.t 26)⟩,
  ⟨some 28, none, .bin .gtr (.t 22) (.t 27)⟩]
def r84_7 : List O := [⟨some 29, none, .mov (.t 6)⟩,
  ⟨some 30, none, .fld 0 (.t 8)⟩,
  ⟨some 31, none, .ld (.t 30)⟩,
  ⟨some 32, none, .fld 1 (.t 8)⟩,
  ⟨some 33, none, .ld (.t 32)⟩,
  ⟨some 34, none, .fld 3 (.t 8)⟩,
  ⟨some 35, none, .ld (.t 34)⟩,
  ⟨some 36, none, .build [.i .i64 0, .i .i64 0, .i .i64 0] [(0, 1, (.t 31)), (1, 1, (.t 33)), (2, 1, (.t 35))]⟩,
  ⟨some 37, none, .buildSl [.i .i64 0, .i .i64 0, .i .i64 0] 1 [(0, 3, (.t 36))]⟩,
  ⟨some 38, none, .app 3 24 (.t 29) (.t 37)⟩,
  ⟨some 6, none, .mov (.t 38)⟩]
def r84_8 : List O := [⟨some 39, none, .bin .add (.t 14) (.c (.i .i64 1))⟩,
  ⟨some 14, none, .mov (.t 39)⟩]
def b84_0 : C := .seq (.ops r84_4) (.seq (.cond (.t 15) (.skip) (.exit 0)) (.seq (.block 1 (.seq (.ops r84_5) (.seq (.draw r84_6 []) (.cond (.t 28) (.ops r84_7) (.skip))))) (.ops r84_8)))
def r84_9 : List O := [⟨some 40, none, .mov (.t 6)⟩,
  ⟨some 4, none, .mov (.t 40)⟩]
/-- sennet.rows.slights -/
def a84 : FI := ⟨41, [.tmp 4], .seq (.ops r84_0) (.seq (.ops r84_1) (.seq (.ops r84_2) (.seq (.seq (.ops r84_3) (.block 0 (.loop b84_0))) (.seq (.ops r84_9) (.ret)))))⟩
def r85_0 : List O := [⟨some 2, none, .box (.t 0)⟩,
  ⟨some 4, none, .mov (.c (.b false))⟩]
def r85_1 : List O := [⟨some 7, none, .mov (.t 1)⟩,
  ⟨some 8, none, .fld 0 (.t 2)⟩,
  ⟨some 9, none, .ld (.t 8)⟩,
  ⟨some 10, none, .call (.f 102) [(.t 7), (.t 9)]⟩,
  ⟨some 5, none, .mov (.t 10)⟩]
def r85_2 : List O := [⟨some 11, none, .mov (.t 1)⟩,
  ⟨some 12, none, .fld 1 (.t 2)⟩,
  ⟨some 13, none, .ld (.t 12)⟩,
  ⟨some 14, none, .call (.f 102) [(.t 11), (.t 13)]⟩,
  ⟨some 6, none, .mov (.t 14)⟩]
def r85_3 : List O := [⟨some 15, none, .mov (.t 5)⟩,
  ⟨some 16, none, .bin .geq (.t 15) (.c (.i .i64 0))⟩,
  ⟨some 17, none, .mov (.t 16)⟩,
  ⟨some 18, some (17, true), .mov (.t 6)⟩,
  ⟨some 19, some (17, true), .bin .geq (.t 18) (.c (.i .i64 0))⟩,
  ⟨some 20, none, .pick (.t 17) (.t 19) (.c (.b false))⟩,
  ⟨some 21, none, .mov (.t 20)⟩,
  ⟨some 22, some (21, true), .mov (.t 5)⟩,
  ⟨some 23, some (21, true), .mov (.t 6)⟩,
  ⟨some 24, some (21, true), .bin .gtr (.t 22) (.t 23)⟩,
  ⟨some 25, none, .pick (.t 21) (.t 24) (.c (.b false))⟩,
  ⟨some 4, none, .mov (.t 25)⟩]
/-- sennet.sennetref04.offended -/
def a85 : FI := ⟨26, [.tmp 4], .seq (.ops r85_0) (.seq (.ops r85_1) (.seq (.ops r85_2) (.seq (.ops r85_3) (.ret))))⟩
def r86_0 : List O := [⟨some 4, none, .mov (.c (.sn))⟩]
def r86_1 : List O := [⟨some 8, none, .mov (.t 0)⟩,
  ⟨some 9, none, .mov (.t 1)⟩,
  ⟨some 10, none, .call (.f 118) [(.t 8), (.t 9)]⟩,
  ⟨some 5, none, .mov (.t 10)⟩]
def r86_2 : List O := [⟨some 11, none, .mov (.t 5)⟩,
  ⟨some 12, none, .bin .eql (.t 11) (.c (.i .i64 (-1)))⟩]
def r86_3 : List O := [⟨some 13, none, .mov (.t 0)⟩,
  ⟨some 4, none, .mov (.t 13)⟩]
def r86_4 : List O := [⟨some 14, none, .mov (.t 5)⟩,
  ⟨some 15, none, .bin .add (.t 14) (.c (.i .i64 1))⟩,
  ⟨some 6, none, .mov (.t 15)⟩]
def r86_5 : List O := [⟨some 16, none, .mov (.t 6)⟩,
  ⟨some 17, none, .mov (.t 0)⟩,
  ⟨some 18, none, .lenL (.t 17)⟩,
  ⟨some 19, none, .bin .lss (.t 16) (.t 18)⟩]
def r86_7 : List O := [⟨some 22, none, .mov (.t 0)⟩,
  ⟨some 23, none, .mov (.t 6)⟩,
  ⟨some 24, none, .ixS 1 (.t 22) (.t 23)⟩,
  ⟨some 25, none, .ld (.t 24)⟩,
  ⟨some 7, none, .mov (.t 25)⟩]
def r86_8 : List O := [⟨some 26, none, .mov (.t 1)⟩,
  ⟨some 27, none, .mov (.t 7)⟩,
  ⟨some 28, none, .call (.t 26) [(.t 27)]⟩,
  ⟨some 29, none, .un .not (.t 28)⟩]
def r86_9 : List O := [⟨some 30, none, .mov (.t 0)⟩,
  ⟨some 31, none, .mov (.t 5)⟩,
  ⟨some 32, none, .mov (.t 7)⟩,
  ⟨some 33, none, .ixS 1 (.t 30) (.t 31)⟩,
  ⟨none, none, .st 1 (.t 33) (.t 32)⟩]
def r86_10 : List O := [⟨some 34, none, .mov (.t 5)⟩,
  ⟨some 35, none, .bin .add (.t 34) (.c (.i .i64 1))⟩,
  ⟨some 5, none, .mov (.t 35)⟩]
def r86_6 : List O := [⟨some 20, none, .mov (.t 6)⟩,
  ⟨some 21, none, .bin .add (.t 20) (.c (.i .i64 1))⟩,
  ⟨some 6, none, .mov (.t 21)⟩]
def b86_0 : C := .seq (.seq (.ops r86_5) (.cond (.t 19) (.skip) (.exit 0))) (.seq (.block 1 (.seq (.ops r86_7) (.seq (.ops r86_8) (.cond (.t 29) (.seq (.ops r86_9) (.ops r86_10)) (.skip))))) (.ops r86_6))
def r86_11 : List O := [⟨some 36, none, .mov (.t 0)⟩,
  ⟨some 37, none, .mov (.t 5)⟩,
  ⟨some 38, none, .slc 1 (.t 36) (some (.t 37)) none none⟩,
  ⟨none, none, .clr [.sn] (.t 38)⟩]
def r86_12 : List O := [⟨some 39, none, .mov (.t 0)⟩,
  ⟨some 40, none, .mov (.t 5)⟩,
  ⟨some 41, none, .slc 1 (.t 39) none (some (.t 40)) none⟩,
  ⟨some 4, none, .mov (.t 41)⟩]
/-- slices.DeleteFunc[[][]int,[]int] -/
def a86 : FI := ⟨42, [.tmp 4], .seq (.ops r86_0) (.seq (.ops r86_1) (.seq (.seq (.ops r86_2) (.cond (.t 12) (.seq (.ops r86_3) (.ret)) (.skip))) (.seq (.seq (.ops r86_4) (.block 0 (.loop b86_0))) (.seq (.ops r86_11) (.seq (.ops r86_12) (.ret))))))⟩
def r87_0 : List O := [⟨some 1, none, .box (.t 0)⟩,
  ⟨some 2, none, .mov (.c (.sn))⟩]
def r87_1 : List O := [⟨some 6, none, .ldn 2 (.t 1)⟩,
  ⟨some 7, none, .call (.f 119) [(.t 6)]⟩,
  ⟨some 5, none, .mov (.t 7)⟩,
  ⟨some 8, none, .ext (.t 5) 0⟩,
  ⟨some 9, none, .ext (.t 5) 1⟩,
  ⟨some 3, none, .mov (.t 8)⟩,
  ⟨some 4, none, .mov (.t 9)⟩]
def r87_2 : List O := [⟨some 10, none, .mov (.t 4)⟩,
  ⟨some 11, none, .un .not (.t 10)⟩]
def r87_3 : List O := [⟨some 2, none, .mov (.c (.sn))⟩]
def r87_4 : List O := [⟨some 12, none, .mov (.t 3)⟩,
  ⟨some 13, none, .call (.f 120) [(.t 12)]⟩,
  ⟨some 2, none, .mov (.t 13)⟩]
/-- sennet.rank.Components -/
def a87 : FI := ⟨14, [.tmp 2], .seq (.ops r87_0) (.seq (.ops r87_1) (.seq (.seq (.ops r87_2) (.cond (.t 11) (.seq (.ops r87_3) (.ret)) (.skip))) (.seq (.ops r87_4) (.ret))))⟩
def r88_0 : List O := [⟨some 2, none, .mov (.c (.b false))⟩]
def r88_1 : List O := [⟨some 3, none, .mov (.t 0)⟩,
  ⟨some 4, none, .lenL (.t 3)⟩,
  ⟨some 5, none, .bin .lss (.t 4) (.c (.i .i64 2))⟩,
  ⟨some 2, none, .mov (.t 5)⟩]
/-- sennet.rank.Circles$1 -/
def a88 : FI := ⟨6, [.tmp 2], .seq (.ops r88_0) (.seq (.ops r88_1) (.ret))⟩
def r89_0 : List O := [⟨some 4, none, .mov (.c (.sn))⟩]
def r89_1 : List O := [⟨some 5, none, .mov (.c (.sn))⟩]
def r89_2 : List O := [⟨some 8, none, .mov (.t 1)⟩,
  ⟨some 9, none, .lenL (.t 8)⟩,
  ⟨some 10, none, .mov (.c (.i .i64 0))⟩]
def r89_3 : List O := [⟨some 11, none, .bin .lss (.t 10) (.t 9)⟩]
def r89_4 : List O := [⟨some 12, none, .ixS 1 (.t 8) (.t 10)⟩,
  ⟨some 13, none, .ld (.t 12)⟩,
  ⟨some 7, none, .mov (.t 13)⟩]
def r89_5 : List O := [⟨some 14, none, .mov (.t 5)⟩,
  ⟨some 15, none, .mov (.t 0)⟩,
  ⟨some 16, none, .mov (.t 7)⟩,
  ⟨some 17, none, .build [.i .i64 0, .i .i64 0] [(0, 1, (.t 15)), (1, 1, (.t 16))]⟩,
  ⟨some 18, none, .buildSl [.i .i64 0, .i .i64 0] 1 [(0, 2, (.t 17))]⟩,
  ⟨some 19, none, .app 2 16 (.t 14) (.t 18)⟩,
  ⟨some 5, none, .mov (.t 19)⟩]
def r89_6 : List O := [⟨some 20, none, .bin .add (.t 10) (.c (.i .i64 1))⟩,
  ⟨some 10, none, .mov (.t 20)⟩]
def b89_0 : C := .seq (.ops r89_3) (.seq (.cond (.t 11) (.skip) (.exit 0)) (.seq (.block 1 (.seq (.ops r89_4) (.ops r89_5))) (.ops r89_6)))
def r89_7 : List O := [⟨some 21, none, .mov (.t 5)⟩,
  ⟨some 4, none, .mov (.t 21)⟩]
/-- sennet.rows.row -/
def a89 : FI := ⟨22, [.tmp 4], .seq (.ops r89_0) (.seq (.ops r89_1) (.seq (.seq (.ops r89_2) (.block 0 (.loop b89_0))) (.seq (.ops r89_7) (.ret))))⟩
def r90_0 : List O := [⟨some 2, none, .mov (.c (.sn))⟩]
def r90_1 : List O := [⟨some 5, none, .mov (.t 0)⟩,
  ⟨some 6, none, .mkSl [.i .i64 0] 8 (.t 5) (.t 5)⟩,
  ⟨some 3, none, .mov (.t 6)⟩]
def r90_2 : List O := [⟨some 7, none, .mov (.t 3)⟩,
  ⟨some 8, none, .lenL (.t 7)⟩,
  ⟨some 9, none, .mov (.c (.i .i64 0))⟩]
def r90_3 : List O := [⟨some 10, none, .bin .lss (.t 9) (.t 8)⟩]
def r90_4 : List O := [⟨some 11, none, .mov (.t 9)⟩,
  ⟨some 4, none, .mov (.t 11)⟩]
def r90_5 : List O := [⟨some 12, none, .mov (.t 3)⟩,
  ⟨some 13, none, .mov (.t 4)⟩,
  ⟨some 14, none, .mov (.t 4)⟩,
  ⟨some 15, none, .ixS 1 (.t 12) (.t 13)⟩,
  ⟨none, none, .st 1 (.t 15) (.t 14)⟩]
def r90_6 : List O := [⟨some 16, none, .bin .add (.t 9) (.c (.i .i64 1))⟩,
  ⟨some 9, none, .mov (.t 16)⟩]
def b90_0 : C := .seq (.ops r90_3) (.seq (.cond (.t 10) (.skip) (.exit 0)) (.seq (.block 1 (.seq (.ops r90_4) (.ops r90_5))) (.ops r90_6)))
def r90_7 : List O := [⟨some 17, none, .mov (.t 3)⟩,
  ⟨some 2, none, .mov (.t 17)⟩]
/-- sennet.rows.upTo -/
def a90 : FI := ⟨18, [.tmp 2], .seq (.ops r90_0) (.seq (.ops r90_1) (.seq (.seq (.ops r90_2) (.block 0 (.loop b90_0))) (.seq (.ops r90_7) (.ret))))⟩
def r91_0 : List O := [⟨some 2, none, .mov (.c (.sn))⟩]
def r91_1 : List O := [⟨some 3, none, .mov (.c (.sn))⟩]
def r91_2 : List O := [⟨some 9, none, .mov (.t 0)⟩,
  ⟨some 10, none, .bin .eql (.t 9) (.c (.i .i64 0))⟩]
def r91_3 : List O := [⟨some 11, none, .mov (.t 3)⟩,
  ⟨some 2, none, .mov (.t 11)⟩]
def r91_4 : List O := [⟨some 12, none, .mov (.t 0)⟩,
  ⟨some 13, none, .bin .sub (.t 12) (.c (.i .i64 1))⟩,
  ⟨some 14, none, .bin .quo (.t 13) (.c (.i .i64 2))⟩,
  ⟨some 4, none, .mov (.t 14)⟩]
def r91_5 : List O := [⟨some 15, none, .mov (.t 3)⟩,
  ⟨some 16, none, .mov (.t 4)⟩,
  ⟨some 17, none, .buildSl [.i .i64 0] 1 [(0, 1, (.t 16))]⟩,
  ⟨some 18, none, .app 1 8 (.t 15) (.t 17)⟩,
  ⟨some 3, none, .mov (.t 18)⟩]
def r91_6 : List O := [⟨some 5, none, .mov (.c (.i .i64 1))⟩]
def r91_7 : List O := [⟨some 19, none, .mov (.t 0)⟩,
  ⟨some 20, none, .bin .rem (.t 19) (.c (.i .i64 2))⟩,
  ⟨some 21, none, .bin .eql (.t 20) (.c (.i .i64 1))⟩]
def r91_8 : List O := [⟨some 5, none, .mov (.c (.i .i64 (-1)))⟩]
def r91_9 : List O := [⟨some 6, none, .mov (.c (.i .i64 1))⟩]
def r91_10 : List O := [⟨some 22, none, .mov (.t 3)⟩,
  ⟨some 23, none, .lenL (.t 22)⟩,
  ⟨some 24, none, .mov (.t 0)⟩,
  ⟨some 25, none, .bin .lss (.t 23) (.t 24)⟩]
def r91_12 : List O := [⟨some 28, none, .mov (.t 4)⟩,
  ⟨some 29, none, .mov (.t 5)⟩,
  ⟨some 30, none, .mov (.t 6)⟩,
  ⟨some 31, none, .bin .mul (.t 29) (.t 30)⟩,
  ⟨some 32, none, .bin .add (.t 28) (.t 31)⟩,
  ⟨some 33, none, .mov (.t 4)⟩,
  ⟨some 34, none, .mov (.t 5)⟩,
  ⟨some 35, none, .mov (.t 6)⟩,
  ⟨some 36, none, .bin .mul (.t 34) (.t 35)⟩,
  ⟨some 37, none, .bin .sub (.t 33) (.t 36)⟩,
  ⟨some 38, none, .buildSl [.i .i64 0, .i .i64 0] 2 [(0, 1, (.t 32)), (1, 1, (.t 37))]⟩,
  ⟨some 39, none, .lenL (.t 38)⟩,
  ⟨some 40, none, .mov (.c (.i .i64 0))⟩]
def r91_13 : List O := [⟨some 41, none, .bin .lss (.t 40) (.t 39)⟩]
def r91_14 : List O := [⟨some 42, none, .ixS 1 (.t 38) (.t 40)⟩,
  ⟨some 43, none, .ld (.t 42)⟩,
  ⟨some 8, none, .mov (.t 43)⟩]
def r91_15 : List O := [⟨some 44, none, .mov (.t 8)⟩,
  ⟨some 45, none, .bin .geq (.t 44) (.c (.i .i64 0))⟩,
  ⟨some 46, none, .mov (.t 45)⟩,
  ⟨some 47, some (46, true), .mov (.t 8)⟩,
  ⟨some 48, some (46, true), .mov (.t 0)⟩,
  ⟨some 49, some (46, true), .bin .lss (.t 47) (.t 48)⟩,
  ⟨some 50, none, .pick (.t 46) (.t 49) (.c (.b false))⟩]
def r91_16 : List O := [⟨some 51, none, .mov (.t 3)⟩,
  ⟨some 52, none, .mov (.t 8)⟩,
  ⟨some 53, none, .buildSl [.i .i64 0] 1 [(0, 1, (.t 52))]⟩,
  ⟨some 54, none, .app 1 8 (.t 51) (.t 53)⟩,
  ⟨some 3, none, .mov (.t 54)⟩]
def r91_17 : List O := [⟨some 55, none, .bin .add (.t 40) (.c (.i .i64 1))⟩,
  ⟨some 40, none, .mov (.t 55)⟩]
def b91_0 : C := .seq (.ops r91_13) (.seq (.cond (.t 41) (.skip) (.exit 2)) (.seq (.block 3 (.seq (.ops r91_14) (.seq (.ops r91_15) (.cond (.t 50) (.ops r91_16) (.skip))))) (.ops r91_17)))
def r91_11 : List O := [⟨some 26, none, .mov (.t 6)⟩,
  ⟨some 27, none, .bin .add (.t 26) (.c (.i .i64 1))⟩,
  ⟨some 6, none, .mov (.t 27)⟩]
def b91_1 : C := .seq (.seq (.ops r91_10) (.cond (.t 25) (.skip) (.exit 0))) (.seq (.block 1 (.seq (.ops r91_12) (.block 2 (.loop b91_0)))) (.ops r91_11))
def r91_18 : List O := [⟨some 56, none, .mov (.t 3)⟩,
  ⟨some 2, none, .mov (.t 56)⟩]
/-- sennet.rows.middle -/
def a91 : FI := ⟨57, [.tmp 2], .seq (.ops r91_0) (.seq (.ops r91_1) (.seq (.seq (.ops r91_2) (.cond (.t 10) (.seq (.ops r91_3) (.ret)) (.skip))) (.seq (.ops r91_4) (.seq (.ops r91_5) (.seq (.ops r91_6) (.seq (.seq (.ops r91_7) (.cond (.t 21) (.ops r91_8) (.skip))) (.seq (.seq (.ops r91_9) (.block 0 (.loop b91_1))) (.seq (.ops r91_18) (.ret)))))))))⟩
def r92_0 : List O := [⟨some 2, none, .mov (.c (.sn))⟩]
def r92_1 : List O := [⟨some 3, none, .mov (.c (.i .i64 0))⟩]
def r92_2 : List O := [⟨some 10, none, .mov (.t 0)⟩,
  ⟨some 11, none, .lenL (.t 10)⟩,
  ⟨some 12, none, .mov (.c (.i .i64 0))⟩]
def r92_3 : List O := [⟨some 13, none, .bin .lss (.t 12) (.t 11)⟩]
def r92_4 : List O := [⟨some 14, none, .ixS 1 (.t 10) (.t 12)⟩,
  ⟨some 15, none, .ld (.t 14)⟩,
  ⟨some 5, none, .mov (.t 15)⟩]
def r92_5 : List O := [⟨some 16, none, .mov (.t 3)⟩,
  ⟨some 17, none, .mov (.t 5)⟩,
  ⟨some 18, none, .lenL (.t 17)⟩,
  ⟨some 19, none, .bin .add (.t 16) (.t 18)⟩,
  ⟨some 3, none, .mov (.t 19)⟩]
def r92_6 : List O := [⟨some 20, none, .bin .add (.t 12) (.c (.i .i64 1))⟩,
  ⟨some 12, none, .mov (.t 20)⟩]
def b92_0 : C := .seq (.ops r92_3) (.seq (.cond (.t 13) (.skip) (.exit 0)) (.seq (.block 1 (.seq (.ops r92_4) (.ops r92_5))) (.ops r92_6)))
def r92_7 : List O := [⟨some 21, none, .mov (.t 3)⟩,
  ⟨some 22, none, .mkSl [.i .i64 0, .i .i64 0] 16 (.t 21) (.t 21)⟩,
  ⟨some 6, none, .mov (.t 22)⟩]
def r92_8 : List O := [⟨some 7, none, .mov (.c (.i .i64 0))⟩]
def r92_9 : List O := [⟨some 23, none, .mov (.t 0)⟩,
  ⟨some 24, none, .lenL (.t 23)⟩,
  ⟨some 25, none, .mov (.c (.i .i64 0))⟩]
def r92_10 : List O := [⟨some 26, none, .bin .lss (.t 25) (.t 24)⟩]
def r92_11 : List O := [⟨some 27, none, .ixS 1 (.t 23) (.t 25)⟩,
  ⟨some 28, none, .ld (.t 27)⟩,
  ⟨some 9, none, .mov (.t 28)⟩]
def r92_12 : List O := [⟨some 29, none, .mov (.t 7)⟩,
  ⟨some 30, none, .mov (.t 6)⟩,
  ⟨some 31, none, .mov (.t 7)⟩,
  ⟨some 32, none, .slc 2 (.t 30) (some (.t 31)) none none⟩,
  ⟨some 33, none, .mov (.t 9)⟩,
  ⟨some 34, none, .cpy 2 (.t 32) (.t 33)⟩,
  ⟨some 35, none, .bin .add (.t 29) (.t 34)⟩,
  ⟨some 7, none, .mov (.t 35)⟩]
def r92_13 : List O := [⟨some 36, none, .bin .add (.t 25) (.c (.i .i64 1))⟩,
  ⟨some 25, none, .mov (.t 36)⟩]
def b92_1 : C := .seq (.ops r92_10) (.seq (.cond (.t 26) (.skip) (.exit 2)) (.seq (.block 3 (.seq (.ops r92_11) (.ops r92_12))) (.ops r92_13)))
def r92_14 : List O := [⟨some 37, none, .mov (.t 6)⟩,
  ⟨some 2, none, .mov (.t 37)⟩]
/-- sennet.rows.join -/
def a92 : FI := ⟨38, [.tmp 2], .seq (.ops r92_0) (.seq (.ops r92_1) (.seq (.seq (.ops r92_2) (.block 0 (.loop b92_0))) (.seq (.ops r92_7) (.seq (.ops r92_8) (.seq (.seq (.ops r92_9) (.block 2 (.loop b92_1))) (.seq (.ops r92_14) (.ret)))))))⟩
def r93_0 : List O := [⟨some 4, none, .mov (.t 0)⟩,
  ⟨some 5, none, .lenL (.t 4)⟩,
  ⟨some 6, none, .bin .sub (.t 5) (.c (.i .i64 1))⟩,
  ⟨some 2, none, .mov (.c (.i .i64 0))⟩,
  ⟨some 3, none, .mov (.t 6)⟩]
def r93_1 : List O := [⟨some 7, none, .mov (.t 2)⟩,
  ⟨some 8, none, .mov (.t 3)⟩,
  ⟨some 9, none, .bin .lss (.t 7) (.t 8)⟩]
def r93_3 : List O := [⟨some 14, none, .mov (.t 0)⟩,
  ⟨some 15, none, .mov (.t 2)⟩,
  ⟨some 16, none, .mov (.t 0)⟩,
  ⟨some 17, none, .mov (.t 3)⟩,
  ⟨some 18, none, .mov (.t 0)⟩,
  ⟨some 19, none, .mov (.t 3)⟩,
  ⟨some 20, none, .ixS 1 (.t 18) (.t 19)⟩,
  ⟨some 21, none, .ld (.t 20)⟩,
  ⟨some 22, none, .mov (.t 0)⟩,
  ⟨some 23, none, .mov (.t 2)⟩,
  ⟨some 24, none, .ixS 1 (.t 22) (.t 23)⟩,
  ⟨some 25, none, .ld (.t 24)⟩,
  ⟨some 26, none, .ixS 1 (.t 14) (.t 15)⟩,
  ⟨none, none, .st 1 (.t 26) (.t 21)⟩,
  ⟨some 27, none, .ixS 1 (.t 16) (.t 17)⟩,
  ⟨none, none, .st 1 (.t 27) (.t 25)⟩]
def r93_2 : List O := [⟨some 10, none, .mov (.t 2)⟩,
  ⟨some 11, none, .bin .add (.t 10) (.c (.i .i64 1))⟩,
  ⟨some 12, none, .mov (.t 3)⟩,
  ⟨some 13, none, .bin .sub (.t 12) (.c (.i .i64 1))⟩,
  ⟨some 2, none, .mov (.t 11)⟩,
  ⟨some 3, none, .mov (.t 13)⟩]
def b93_0 : C := .seq (.seq (.ops r93_1) (.cond (.t 9) (.skip) (.exit 0))) (.seq (.block 1 (.draw r93_3 [])) (.ops r93_2))
/-- slices.Reverse[[]int,int] -/
def a93 : FI := ⟨28, [], .seq (.ops r93_0) (.block 0 (.loop b93_0))⟩
def r94_0 : List O := [⟨some 2, none, .mov (.c (.sn))⟩]
def r94_1 : List O := [⟨some 3, none, .mov (.c (.sn))⟩]
def r94_2 : List O := [⟨some 8, none, .mov (.t 0)⟩,
  ⟨some 9, none, .bin .eql (.t 8) (.c (.i .i64 0))⟩]
def r94_3 : List O := [⟨some 2, none, .mov (.c (.sn))⟩]
def r94_4 : List O := [⟨some 10, none, .mov (.t 0)⟩,
  ⟨some 11, none, .bin .sub (.t 10) (.c (.i .i64 1))⟩,
  ⟨some 12, none, .bin .quo (.t 11) (.c (.i .i64 2))⟩,
  ⟨some 4, none, .mov (.t 12)⟩]
def r94_5 : List O := [⟨some 13, none, .mov (.t 3)⟩,
  ⟨some 14, none, .mov (.t 4)⟩,
  ⟨some 15, none, .buildSl [.i .i64 0] 1 [(0, 1, (.t 14))]⟩,
  ⟨some 16, none, .app 1 8 (.t 13) (.t 15)⟩,
  ⟨some 3, none, .mov (.t 16)⟩]
def r94_6 : List O := [⟨some 5, none, .mov (.c (.i .i64 1))⟩]
def r94_7 : List O := [⟨some 17, none, .mov (.t 3)⟩,
  ⟨some 18, none, .lenL (.t 17)⟩,
  ⟨some 19, none, .mov (.t 0)⟩,
  ⟨some 20, none, .bin .lss (.t 18) (.t 19)⟩]
def r94_9 : List O := [⟨some 23, none, .mov (.t 4)⟩,
  ⟨some 24, none, .mov (.t 5)⟩,
  ⟨some 25, none, .bin .add (.t 23) (.t 24)⟩,
  ⟨some 6, none, .mov (.t 25)⟩]
def r94_10 : List O := [⟨some 26, none, .mov (.t 4)⟩,
  ⟨some 27, none, .mov (.t 5)⟩,
  ⟨some 28, none, .bin .sub (.t 26) (.t 27)⟩,
  ⟨some 7, none, .mov (.t 28)⟩]
def r94_11 : List O := [⟨some 29, none, .mov (.t 0)⟩,
  ⟨some 30, none, .bin .rem (.t 29) (.c (.i .i64 2))⟩,
  ⟨some 31, none, .bin .eql (.t 30) (.c (.i .i64 1))⟩]
def r94_12 : List O := [⟨some 32, none, .mov (.t 4)⟩,
  ⟨some 33, none, .mov (.t 5)⟩,
  ⟨some 34, none, .bin .sub (.t 32) (.t 33)⟩,
  ⟨some 6, none, .mov (.t 34)⟩]
def r94_13 : List O := [⟨some 35, none, .mov (.t 4)⟩,
  ⟨some 36, none, .mov (.t 5)⟩,
  ⟨some 37, none, .bin .add (.t 35) (.t 36)⟩,
  ⟨some 7, none, .mov (.t 37)⟩]
def r94_14 : List O := [⟨some 38, none, .mov (.t 6)⟩,
  ⟨some 39, none, .bin .geq (.t 38) (.c (.i .i64 0))⟩,
  ⟨some 40, none, .mov (.t 39)⟩,
  ⟨some 41, some (40, true), .mov (.t 6)⟩,
  ⟨some 42, some (40, true), .mov (.t 0)⟩,
  ⟨some 43, some (40, true), .bin .lss (.t 41) (.t 42)⟩,
  ⟨some 44, none, .pick (.t 40) (.t 43) (.c (.b false))⟩]
def r94_15 : List O := [⟨some 45, none, .mov (.t 3)⟩,
  ⟨some 46, none, .mov (.t 6)⟩,
  ⟨some 47, none, .buildSl [.i .i64 0] 1 [(0, 1, (.t 46))]⟩,
  ⟨some 48, none, .app 1 8 (.t 45) (.t 47)⟩,
  ⟨some 3, none, .mov (.t 48)⟩]
def r94_16 : List O := [⟨some 49, none, .mov (.t 7)⟩,
  ⟨some 50, none, .bin .geq (.t 49) (.c (.i .i64 0))⟩,
  ⟨some 51, none, .mov (.t 50)⟩,
  ⟨some 52, some (51, true), .mov (.t 7)⟩,
  ⟨some 53, some (51, true), .mov (.t 0)⟩,
  ⟨some 54, some (51, true), .bin .lss (.t 52) (.t 53)⟩,
  ⟨some 55, none, .pick (.t 51) (.t 54) (.c (.b false))⟩]
def r94_17 : List O := [⟨some 56, none, .mov (.t 3)⟩,
  ⟨some 57, none, .mov (.t 7)⟩,
  ⟨some 58, none, .buildSl [.i .i64 0] 1 [(0, 1, (.t 57))]⟩,
  ⟨some 59, none, .app 1 8 (.t 56) (.t 58)⟩,
  ⟨some 3, none, .mov (.t 59)⟩]
def r94_8 : List O := [⟨some 21, none, .mov (.t 5)⟩,
  ⟨some 22, none, .bin .add (.t 21) (.c (.i .i64 1))⟩,
  ⟨some 5, none, .mov (.t 22)⟩]
def b94_0 : C := .seq (.seq (.ops r94_7) (.cond (.t 20) (.skip) (.exit 0))) (.seq (.block 1 (.seq (.ops r94_9) (.seq (.ops r94_10) (.seq (.seq (.ops r94_11) (.cond (.t 31) (.seq (.ops r94_12) (.ops r94_13)) (.skip))) (.seq (.seq (.ops r94_14) (.cond (.t 44) (.ops r94_15) (.skip))) (.seq (.ops r94_16) (.cond (.t 55) (.ops r94_17) (.skip)))))))) (.ops r94_8))
def r94_18 : List O := [⟨some 60, none, .mov (.t 3)⟩,
  ⟨some 2, none, .mov (.t 60)⟩]
/-- sennet.sennetref04.middle -/
def a94 : FI := ⟨61, [.tmp 2], .seq (.ops r94_0) (.seq (.ops r94_1) (.seq (.seq (.ops r94_2) (.cond (.t 9) (.seq (.ops r94_3) (.ret)) (.skip))) (.seq (.ops r94_4) (.seq (.ops r94_5) (.seq (.seq (.ops r94_6) (.block 0 (.loop b94_0))) (.seq (.ops r94_18) (.ret)))))))⟩
def r95_0 : List O := [⟨some 4, none, .mov (.c (.i .i64 0))⟩]
def r95_1 : List O := [⟨some 6, none, .mov (.t 0)⟩,
  ⟨some 7, none, .lenL (.t 6)⟩,
  ⟨some 8, none, .mov (.c (.i .i64 0))⟩]
def r95_2 : List O := [⟨some 9, none, .bin .lss (.t 8) (.t 7)⟩]
def r95_3 : List O := [⟨some 10, none, .mov (.t 8)⟩,
  ⟨some 5, none, .mov (.t 10)⟩]
def r95_4 : List O := [⟨some 11, none, .mov (.t 1)⟩,
  ⟨some 12, none, .mov (.t 0)⟩,
  ⟨some 13, none, .mov (.t 5)⟩,
  ⟨some 14, none, .ixS 2 (.t 12) (.t 13)⟩,
  ⟨some 15, none, .ldn 2 (.t 14)⟩,
  ⟨some 16, none, .call (.t 11) [(.t 15)]⟩]
def r95_5 : List O := [⟨some 17, none, .mov (.t 5)⟩,
  ⟨some 4, none, .mov (.t 17)⟩]
def r95_6 : List O := [⟨some 18, none, .bin .add (.t 8) (.c (.i .i64 1))⟩,
  ⟨some 8, none, .mov (.t 18)⟩]
def b95_0 : C := .seq (.ops r95_2) (.seq (.cond (.t 9) (.skip) (.exit 0)) (.seq (.block 1 (.seq (.ops r95_3) (.seq (.ops r95_4) (.cond (.t 16) (.seq (.ops r95_5) (.ret)) (.skip))))) (.ops r95_6)))
def r95_7 : List O := [⟨some 4, none, .mov (.c (.i .i64 (-1)))⟩]
/-- slices.IndexFunc[[]sennet.api.Spot,sennet.api.Spot] -/
def a95 : FI := ⟨19, [.tmp 4], .seq (.ops r95_0) (.seq (.seq (.ops r95_1) (.block 0 (.loop b95_0))) (.seq (.ops r95_7) (.ret)))⟩
def r96_0 : List O := [⟨some 2, none, .box (.t 0)⟩,
  ⟨some 3, none, .mov (.c (.b false))⟩]
def r96_1 : List O := [⟨some 4, none, .ldn 2 (.t 2)⟩,
  ⟨some 5, none, .ldn 2 (.t 1)⟩,
  ⟨some 6, none, .eqv false (.agg [.i .i64, .i .i64]) (.t 4) (.t 5)⟩,
  ⟨some 3, none, .mov (.t 6)⟩]
/-- sennet.rows.Honour$1 -/
def a96 : FI := ⟨7, [.tmp 3], .seq (.ops r96_0) (.seq (.ops r96_1) (.ret))⟩
def r97_0 : List O := [⟨some 1, none, .box (.t 0)⟩,
  ⟨some 2, none, .alloc (List.replicate 576 (.i .i64 0))⟩]
def r97_1 : List O := [⟨some 3, none, .alloc (List.replicate 576 (.i .i64 0))⟩]
def r97_2 : List O := [⟨some 6, none, .fld 1 (.t 1)⟩,
  ⟨some 7, none, .ld (.t 6)⟩,
  ⟨some 8, none, .lenL (.t 7)⟩,
  ⟨some 9, none, .mov (.c (.i .i64 0))⟩]
def r97_3 : List O := [⟨some 10, none, .bin .lss (.t 9) (.t 8)⟩]
def r97_4 : List O := [⟨some 11, none, .ixS 4 (.t 7) (.t 9)⟩,
  ⟨some 12, none, .ldn 4 (.t 11)⟩,
  ⟨some 5, none, .alloc [.i .i64 0, .i .i64 0, .i .i64 0, .i .i64 0]⟩,
  ⟨none, none, .st 4 (.t 5) (.t 12)⟩]
def r97_5 : List O := [⟨some 13, none, .fld 0 (.t 5)⟩,
  ⟨some 14, none, .ld (.t 13)⟩,
  ⟨some 15, none, .fld 1 (.t 5)⟩,
  ⟨some 16, none, .ld (.t 15)⟩,
  ⟨some 17, none, .fld 3 (.t 5)⟩,
  ⟨some 18, none, .ld (.t 17)⟩,
  ⟨some 19, none, .ixA 24 24 (.t 3) (.t 14)⟩,
  ⟨some 20, none, .ixA 24 1 (.t 19) (.t 16)⟩,
  ⟨none, none, .st 1 (.t 20) (.t 18)⟩]
def r97_6 : List O := [⟨some 21, none, .bin .add (.t 9) (.c (.i .i64 1))⟩,
  ⟨some 9, none, .mov (.t 21)⟩]
def b97_0 : C := .seq (.ops r97_3) (.seq (.cond (.t 10) (.skip) (.exit 0)) (.seq (.block 1 (.seq (.ops r97_4) (.draw r97_5 []))) (.ops r97_6)))
def r97_7 : List O := [⟨some 22, none, .ldn 576 (.t 3)⟩,
  ⟨none, none, .st 576 (.t 2) (.t 22)⟩]
/-- sennet.rows.weigh -/
def a97 : FI := ⟨23, [.cell 2 (some 576)], .seq (.ops r97_0) (.seq (.ops r97_1) (.seq (.seq (.ops r97_2) (.block 0 (.loop b97_0))) (.seq (.ops r97_7) (.ret))))⟩
def r98_0 : List O := [⟨some 3, none, .box (.t 0)⟩,
  ⟨some 6, none, .mov (.c (.i .i64 0))⟩]
def r98_1 : List O := [⟨some 7, none, .mov (.c (.i .i64 0))⟩]
def r98_2 : List O := [⟨some 8, none, .mov (.t 7)⟩,
  ⟨some 9, none, .fld 1 (.t 3)⟩,
  ⟨some 10, none, .ld (.t 9)⟩,
  ⟨some 11, none, .lenL (.t 10)⟩,
  ⟨some 12, none, .bin .lss (.t 8) (.t 11)⟩]
def r98_4 : List O := [⟨some 15, none, .fld 1 (.t 3)⟩,
  ⟨some 16, none, .ld (.t 15)⟩,
  ⟨some 17, none, .mov (.t 7)⟩,
  ⟨some 18, none, .ixS 4 (.t 16) (.t 17)⟩,
  ⟨some 19, none, .fld 0 (.t 18)⟩,
  ⟨some 20, none, .ld (.t 19)⟩,
  ⟨some 21, none, .mov (.t 1)⟩,
  ⟨some 22, none, .bin .eql (.t 20) (.t 21)⟩,
  ⟨some 23, none, .mov (.t 22)⟩,
  ⟨some 24, some (23, true), .fld 1 (.t 3)⟩,
  ⟨some 25, some (23, true), .ld (.t 24)⟩,
  ⟨some 26, some (23, true), .mov (.t 7)⟩,
  ⟨some 27, some (23, true), .ixS 4 (.t 25) (.t 26)⟩,
  ⟨some 28, some (23, true), .fld 1 (.t 27)⟩,
  ⟨some 29, some (23, true), .ld (.t 28)⟩,
  ⟨some 30, some (23, true), .mov (.t 2)⟩,
  ⟨some 31, some (23, true), .bin .eql (.t 29) (.t 30)⟩,
  ⟨some 32, none, .pick (.t 23) (.t 31) (.c (.b false))⟩]
def r98_5 : List O := [⟨some 33, none, .fld 1 (.t 3)⟩,
  ⟨some 34, none, .ld (.t 33)⟩,
  ⟨some 35, none, .mov (.t 7)⟩,
  ⟨some 36, none, .ixS 4 (.t 34) (.t 35)⟩,
  ⟨some 37, none, .fld 3 (.t 36)⟩,
  ⟨some 38, none, .ld (.t 37)⟩,
  ⟨some 6, none, .mov (.t 38)⟩]
def r98_3 : List O := [⟨some 13, none, .mov (.t 7)⟩,
  ⟨some 14, none, .bin .add (.t 13) (.c (.i .i64 1))⟩,
  ⟨some 7, none, .mov (.t 14)⟩]
def b98_0 : C := .seq (.seq (.ops r98_2) (.cond (.t 12) (.skip) (.exit 0))) (.seq (.block 1 (.seq (.ops r98_4) (.cond (.t 32) (.seq (.ops r98_5) (.ret)) (.skip)))) (.ops r98_3))
def r98_6 : List O := [⟨some 6, none, .mov (.c (.i .i64 0))⟩]
/-- sennet.sennetref04.weight -/
def a98 : FI := ⟨39, [.tmp 6], .seq (.ops r98_0) (.seq (.seq (.ops r98_1) (.block 0 (.loop b98_0))) (.seq (.ops r98_6) (.ret)))⟩
def r99_0 : List O := [⟨some 2, none, .mov (.c (.b false))⟩]
def r99_1 : List O := [⟨some 3, none, .mov (.c (.i .i64 0))⟩]
def r99_2 : List O := [⟨some 4, none, .mov (.t 3)⟩,
  ⟨some 5, none, .mov (.t 0)⟩,
  ⟨some 6, none, .lenL (.t 5)⟩,
  ⟨some 7, none, .bin .lss (.t 4) (.t 6)⟩]
def r99_4 : List O := [⟨some 10, none, .mov (.t 0)⟩,
  ⟨some 11, none, .mov (.t 3)⟩,
  ⟨some 12, none, .ixS 1 (.t 10) (.t 11)⟩,
  ⟨some 13, none, .ld (.t 12)⟩,
  ⟨some 14, none, .bin .lss (.t 13) (.c (.i .i64 0))⟩,
  ⟨some 15, none, .mov (.t 14)⟩,
  ⟨some 16, some (15, false), .mov (.t 0)⟩,
  ⟨some 17, some (15, false), .mov (.t 0)⟩,
  ⟨some 18, some (15, false), .mov (.t 3)⟩,
  ⟨some 19, some (15, false), .ixS 1 (.t 17) (.t 18)⟩,
  ⟨some 20, some (15, false), .ld (.t 19)⟩,
  ⟨some 21, some (15, false), .call (.f 102) [(.t 16), (.t 20)]⟩,
  ⟨some 22, some (15, false), .mov (.t 3)⟩,
  ⟨some 23, some (15, false), .bin .lss (.t 21) (.t 22)⟩,
  ⟨some 24, none, .pick (.t 15) (.c (.b true)) (.t 23)⟩]
def r99_5 : List O := [⟨some 2, none, .mov (.c (.b false))⟩]
def r99_3 : List O := [⟨some 8, none, .mov (.t 3)⟩,
  ⟨some 9, none, .bin .add (.t 8) (.c (.i .i64 1))⟩,
  ⟨some 3, none, .mov (.t 9)⟩]
def b99_0 : C := .seq (.seq (.ops r99_2) (.cond (.t 7) (.skip) (.exit 0))) (.seq (.block 1 (.seq (.ops r99_4) (.cond (.t 24) (.seq (.ops r99_5) (.ret)) (.skip)))) (.ops r99_3))
def r99_6 : List O := [⟨some 2, none, .mov (.c (.b true))⟩]
/-- sennet.sennetref04.list -/
def a99 : FI := ⟨25, [.tmp 2], .seq (.ops r99_0) (.seq (.seq (.ops r99_1) (.block 0 (.loop b99_0))) (.seq (.ops r99_6) (.ret)))⟩
def r100_0 : List O := [⟨some 2, none, .box (.t 0)⟩,
  ⟨some 3, none, .box (.t 1)⟩,
  ⟨some 4, none, .mov (.c (.fnil))⟩]
def r100_1 : List O := [⟨some 5, none, .ld (.t 3)⟩,
  ⟨some 6, none, .bin .lss (.t 5) (.c (.i .i64 1))⟩]
def r100_2 : List O := [⟨some 7, none, .mkI 9 (.c (.s [99, 97, 110, 110, 111, 116, 32, 98, 101, 32, 108, 101, 115, 115, 32, 116, 104, 97, 110, 32, 49]))⟩,
  ⟨none, none, .no⟩]
def r100_3 : List O := [⟨some 8, none, .mkFn 121 [] [(.t 2), (.t 3)]⟩,
  ⟨some 4, none, .mov (.t 8)⟩]
/-- slices.Chunk[[]int,int] -/
def a100 : FI := ⟨9, [.tmp 4], .seq (.ops r100_0) (.seq (.seq (.ops r100_1) (.cond (.t 6) (.ops r100_2) (.skip))) (.seq (.ops r100_3) (.ret)))⟩
def r101_0 : List O := [⟨some 4, none, .mov (.c (.i .i64 0))⟩]
def r101_1 : List O := [⟨some 6, none, .mov (.t 0)⟩,
  ⟨some 7, none, .lenL (.t 6)⟩,
  ⟨some 8, none, .mov (.c (.i .i64 0))⟩]
def r101_2 : List O := [⟨some 9, none, .bin .lss (.t 8) (.t 7)⟩]
def r101_3 : List O := [⟨some 10, none, .mov (.t 8)⟩,
  ⟨some 5, none, .mov (.t 10)⟩]
def r101_4 : List O := [⟨some 11, none, .mov (.t 1)⟩,
  ⟨some 12, none, .mov (.t 0)⟩,
  ⟨some 13, none, .mov (.t 5)⟩,
  ⟨some 14, none, .ixS 1 (.t 12) (.t 13)⟩,
  ⟨some 15, none, .ld (.t 14)⟩,
  ⟨some 16, none, .bin .eql (.t 11) (.t 15)⟩]
def r101_5 : List O := [⟨some 17, none, .mov (.t 5)⟩,
  ⟨some 4, none, .mov (.t 17)⟩]
def r101_6 : List O := [⟨some 18, none, .bin .add (.t 8) (.c (.i .i64 1))⟩,
  ⟨some 8, none, .mov (.t 18)⟩]
def b101_0 : C := .seq (.ops r101_2) (.seq (.cond (.t 9) (.skip) (.exit 0)) (.seq (.block 1 (.seq (.ops r101_3) (.seq (.ops r101_4) (.cond (.t 16) (.seq (.ops r101_5) (.ret)) (.skip))))) (.ops r101_6)))
def r101_7 : List O := [⟨some 4, none, .mov (.c (.i .i64 (-1)))⟩]
/-- slices.Index[[]int,int] -/
def a101 : FI := ⟨19, [.tmp 4], .seq (.ops r101_0) (.seq (.seq (.ops r101_1) (.block 0 (.loop b101_0))) (.seq (.ops r101_7) (.ret)))⟩
def r102_0 : List O := [⟨some 4, none, .mov (.c (.i .i64 0))⟩]
def r102_1 : List O := [⟨some 5, none, .mov (.c (.i .i64 0))⟩]
def r102_2 : List O := [⟨some 6, none, .mov (.t 5)⟩,
  ⟨some 7, none, .mov (.t 0)⟩,
  ⟨some 8, none, .lenL (.t 7)⟩,
  ⟨some 9, none, .bin .lss (.t 6) (.t 8)⟩]
def r102_4 : List O := [⟨some 12, none, .mov (.t 0)⟩,
  ⟨some 13, none, .mov (.t 5)⟩,
  ⟨some 14, none, .ixS 1 (.t 12) (.t 13)⟩,
  ⟨some 15, none, .ld (.t 14)⟩,
  ⟨some 16, none, .mov (.t 1)⟩,
  ⟨some 17, none, .bin .eql (.t 15) (.t 16)⟩]
def r102_5 : List O := [⟨some 18, none, .mov (.t 5)⟩,
  ⟨some 4, none, .mov (.t 18)⟩]
def r102_3 : List O := [⟨some 10, none, .mov (.t 5)⟩,
  ⟨some 11, none, .bin .add (.t 10) (.c (.i .i64 1))⟩,
  ⟨some 5, none, .mov (.t 11)⟩]
def b102_0 : C := .seq (.seq (.ops r102_2) (.cond (.t 9) (.skip) (.exit 0))) (.seq (.block 1 (.seq (.ops r102_4) (.cond (.t 17) (.seq (.ops r102_5) (.ret)) (.skip)))) (.ops r102_3))
def r102_6 : List O := [⟨some 4, none, .mov (.c (.i .i64 (-1)))⟩]
/-- sennet.sennetref04.place -/
def a102 : FI := ⟨19, [.tmp 4], .seq (.ops r102_0) (.seq (.seq (.ops r102_1) (.block 0 (.loop b102_0))) (.seq (.ops r102_6) (.ret)))⟩
def r103_0 : List O := [⟨some 6, none, .mov (.c (.b false))⟩]
def r103_1 : List O := [⟨some 10, none, .mov (.t 0)⟩,
  ⟨some 11, none, .lenL (.t 10)⟩,
  ⟨some 12, none, .mov (.t 1)⟩,
  ⟨some 13, none, .lenL (.t 12)⟩,
  ⟨some 14, none, .bin .neq (.t 11) (.t 13)⟩]
def r103_2 : List O := [⟨some 6, none, .mov (.c (.b false))⟩]
def r103_3 : List O := [⟨some 15, none, .mov (.t 0)⟩,
  ⟨some 16, none, .lenL (.t 15)⟩,
  ⟨some 17, none, .mov (.c (.i .i64 0))⟩]
def r103_4 : List O := [⟨some 18, none, .bin .lss (.t 17) (.t 16)⟩]
def r103_5 : List O := [⟨some 19, none, .mov (.t 17)⟩,
  ⟨some 20, none, .ixS 1 (.t 15) (.t 17)⟩,
  ⟨some 21, none, .ld (.t 20)⟩,
  ⟨some 7, none, .mov (.t 19)⟩,
  ⟨some 8, none, .mov (.t 21)⟩]
def r103_6 : List O := [⟨some 22, none, .mov (.t 1)⟩,
  ⟨some 23, none, .mov (.t 7)⟩,
  ⟨some 24, none, .ixS 1 (.t 22) (.t 23)⟩,
  ⟨some 25, none, .ld (.t 24)⟩,
  ⟨some 9, none, .mov (.t 25)⟩]
def r103_7 : List O := [⟨some 26, none, .mov (.t 2)⟩,
  ⟨some 27, none, .mov (.t 8)⟩,
  ⟨some 28, none, .mov (.t 9)⟩,
  ⟨some 29, none, .call (.t 26) [(.t 27), (.t 28)]⟩,
  ⟨some 30, none, .un .not (.t 29)⟩]
def r103_8 : List O := [⟨some 6, none, .mov (.c (.b false))⟩]
def r103_9 : List O := [⟨some 31, none, .bin .add (.t 17) (.c (.i .i64 1))⟩,
  ⟨some 17, none, .mov (.t 31)⟩]
def b103_0 : C := .seq (.ops r103_4) (.seq (.cond (.t 18) (.skip) (.exit 0)) (.seq (.block 1 (.seq (.ops r103_5) (.seq (.ops r103_6) (.seq (.ops r103_7) (.cond (.t 30) (.seq (.ops r103_8) (.ret)) (.skip)))))) (.ops r103_9)))
def r103_10 : List O := [⟨some 6, none, .mov (.c (.b true))⟩]
/-- slices.EqualFunc[[][]int,[][]int,[]int,[]int] -/
def a103 : FI := ⟨32, [.tmp 6], .seq (.ops r103_0) (.seq (.seq (.ops r103_1) (.cond (.t 14) (.seq (.ops r103_2) (.ret)) (.skip))) (.seq (.seq (.ops r103_3) (.block 0 (.loop b103_0))) (.seq (.ops r103_10) (.ret))))⟩
def r104_0 : List O := [⟨some 4, none, .mov (.c (.b false))⟩]
def r104_1 : List O := [⟨some 5, none, .mov (.t 0)⟩,
  ⟨some 6, none, .mov (.t 1)⟩,
  ⟨some 7, none, .call (.f 105) [(.t 5), (.t 6)]⟩,
  ⟨some 4, none, .mov (.t 7)⟩]
/-- sennet.rows.CheckAlternat$1 -/
def a104 : FI := ⟨8, [.tmp 4], .seq (.ops r104_0) (.seq (.ops r104_1) (.ret))⟩
def r105_0 : List O := [⟨some 4, none, .mov (.c (.b false))⟩]
def r105_1 : List O := [⟨some 6, none, .mov (.t 0)⟩,
  ⟨some 7, none, .lenL (.t 6)⟩,
  ⟨some 8, none, .mov (.t 1)⟩,
  ⟨some 9, none, .lenL (.t 8)⟩,
  ⟨some 10, none, .bin .neq (.t 7) (.t 9)⟩]
def r105_2 : List O := [⟨some 4, none, .mov (.c (.b false))⟩]
def r105_3 : List O := [⟨some 11, none, .mov (.t 0)⟩,
  ⟨some 12, none, .lenL (.t 11)⟩,
  ⟨some 13, none, .mov (.c (.i .i64 0))⟩]
def r105_4 : List O := [⟨some 14, none, .bin .lss (.t 13) (.t 12)⟩]
def r105_5 : List O := [⟨some 15, none, .mov (.t 13)⟩,
  ⟨some 5, none, .mov (.t 15)⟩]
def r105_6 : List O := [⟨some 16, none, .mov (.t 0)⟩,
  ⟨some 17, none, .mov (.t 5)⟩,
  ⟨some 18, none, .ixS 1 (.t 16) (.t 17)⟩,
  ⟨some 19, none, .ld (.t 18)⟩,
  ⟨some 20, none, .mov (.t 1)⟩,
  ⟨some 21, none, .mov (.t 5)⟩,
  ⟨some 22, none, .ixS 1 (.t 20) (.t 21)⟩,
  ⟨some 23, none, .ld (.t 22)⟩,
  ⟨some 24, none, .bin .neq (.t 19) (.t 23)⟩]
def r105_7 : List O := [⟨some 4, none, .mov (.c (.b false))⟩]
def r105_8 : List O := [⟨some 25, none, .bin .add (.t 13) (.c (.i .i64 1))⟩,
  ⟨some 13, none, .mov (.t 25)⟩]
def b105_0 : C := .seq (.ops r105_4) (.seq (.cond (.t 14) (.skip) (.exit 0)) (.seq (.block 1 (.seq (.ops r105_5) (.seq (.draw r105_6 []) (.cond (.t 24) (.seq (.ops r105_7) (.ret)) (.skip))))) (.ops r105_8)))
def r105_9 : List O := [⟨some 4, none, .mov (.c (.b true))⟩]
/-- slices.Equal[[]int,int] -/
def a105 : FI := ⟨26, [.tmp 4], .seq (.ops r105_0) (.seq (.seq (.ops r105_1) (.cond (.t 10) (.seq (.ops r105_2) (.ret)) (.skip))) (.seq (.seq (.ops r105_3) (.block 0 (.loop b105_0))) (.seq (.ops r105_9) (.ret))))⟩
def r106_0 : List O := [⟨some 3, none, .box (.t 0)⟩,
  ⟨some 4, none, .box (.t 1)⟩,
  ⟨some 5, none, .box (.t 2)⟩,
  ⟨some 6, none, .alloc [.b false]⟩]
def r106_1 : List O := [⟨some 11, none, .fld 0 (.t 5)⟩,
  ⟨some 12, none, .ld (.t 11)⟩,
  ⟨some 13, none, .ld (.t 4)⟩,
  ⟨some 14, none, .call (.f 105) [(.t 12), (.t 13)]⟩,
  ⟨some 15, none, .un .not (.t 14)⟩,
  ⟨some 16, none, .mov (.t 15)⟩,
  ⟨some 17, some (16, false), .fld 1 (.t 5)⟩,
  ⟨some 18, some (16, false), .ld (.t 17)⟩,
  ⟨some 19, some (16, false), .lenL (.t 18)⟩,
  ⟨some 20, some (16, false), .ld (.t 4)⟩,
  ⟨some 21, some (16, false), .lenL (.t 20)⟩,
  ⟨some 22, some (16, false), .bin .shl (.c (.i .i64 1)) (.t 21)⟩,
  ⟨some 23, some (16, false), .bin .neq (.t 19) (.t 22)⟩,
  ⟨some 24, none, .pick (.t 16) (.c (.b true)) (.t 23)⟩,
  ⟨some 25, none, .mov (.t 24)⟩,
  ⟨some 26, some (25, false), .fld 1 (.t 5)⟩,
  ⟨some 27, some (25, false), .ld (.t 26)⟩,
  ⟨some 28, some (25, false), .ixS 1 (.t 27) (.c (.i .i64 0))⟩,
  ⟨some 29, some (25, false), .ld (.t 28)⟩,
  ⟨some 30, some (25, false), .bin .neq (.t 29) (.c (.i .i64 0))⟩,
  ⟨some 31, none, .pick (.t 25) (.c (.b true)) (.t 30)⟩]
def r106_2 : List O := [⟨none, none, .st 1 (.t 6) (.c (.b false))⟩]
def r106_3 : List O := [⟨some 32, none, .fld 1 (.t 5)⟩,
  ⟨some 33, none, .ld (.t 32)⟩,
  ⟨some 34, none, .lenL (.t 33)⟩,
  ⟨some 35, none, .mov (.c (.i .i64 0))⟩]
def r106_4 : List O := [⟨some 36, none, .bin .lss (.t 35) (.t 34)⟩]
def r106_5 : List O := [⟨some 37, none, .mov (.t 35)⟩,
  ⟨some 38, none, .ixS 1 (.t 33) (.t 35)⟩,
  ⟨some 39, none, .ld (.t 38)⟩,
  ⟨some 7, none, .alloc [.i .i64 0]⟩,
  ⟨none, none, .st 1 (.t 7) (.t 37)⟩,
  ⟨some 8, none, .mov (.t 39)⟩]
def r106_6 : List O := [⟨some 40, none, .mov (.t 8)⟩,
  ⟨some 41, none, .bin .lss (.t 40) (.c (.i .i64 0))⟩,
  ⟨some 42, none, .mov (.t 41)⟩,
  ⟨some 43, some (42, false), .mov (.t 8)⟩,
  ⟨some 44, some (42, false), .bin .gtr (.t 43) (.c (.i .i64 1000000))⟩,
  ⟨some 45, none, .pick (.t 42) (.c (.b true)) (.t 44)⟩]
def r106_7 : List O := [⟨none, none, .st 1 (.t 6) (.c (.b false))⟩]
def r106_8 : List O := [⟨some 46, none, .ld (.t 7)⟩,
  ⟨some 47, none, .ld (.t 4)⟩,
  ⟨some 48, none, .lenL (.t 47)⟩,
  ⟨some 49, none, .call (.f 122) [(.t 46), (.t 48)]⟩]
def r106_9 : List O := [⟨some 9, none, .mov (.t 50)⟩]
def r106_10 : List O := [⟨some 10, none, .mov (.t 51)⟩]
def r106_11 : List O := [⟨some 52, none, .fld 1 (.t 5)⟩,
  ⟨some 53, none, .ld (.t 52)⟩,
  ⟨some 54, none, .ld (.t 7)⟩,
  ⟨some 55, none, .ixS 1 (.t 53) (.t 54)⟩,
  ⟨some 56, none, .ld (.t 55)⟩,
  ⟨some 57, none, .fld 1 (.t 5)⟩,
  ⟨some 58, none, .ld (.t 57)⟩,
  ⟨some 59, none, .ld (.t 7)⟩,
  ⟨some 60, none, .mov (.t 10)⟩,
  ⟨some 61, none, .bin .andNot (.t 59) (.t 60)⟩,
  ⟨some 62, none, .ixS 1 (.t 58) (.t 61)⟩,
  ⟨some 63, none, .ld (.t 62)⟩,
  ⟨some 64, none, .ld (.t 3)⟩,
  ⟨some 65, none, .ld (.t 4)⟩,
  ⟨some 66, none, .mov (.t 9)⟩,
  ⟨some 67, none, .ld (.t 7)⟩,
  ⟨some 68, none, .mov (.t 10)⟩,
  ⟨some 69, none, .bin .andNot (.t 67) (.t 68)⟩,
  ⟨some 70, none, .call (.f 123) [(.t 64), (.t 65), (.t 66), (.t 69)]⟩,
  ⟨some 71, none, .bin .add (.t 63) (.t 70)⟩,
  ⟨some 72, none, .bin .gtr (.t 56) (.t 71)⟩]
def r106_12 : List O := [⟨none, none, .st 1 (.t 6) (.c (.b false))⟩]
def b106_0 : C := .block 3 (.seq (.draw r106_11 [(1, 18), (2, 18), (4, 18), (6, 18), (7, 18), (11, 18)]) (.cond (.t 72) (.seq (.ops r106_12) (.ret)) (.skip)))
def r106_13 : List O := [⟨some 73, none, .bin .add (.t 35) (.c (.i .i64 1))⟩,
  ⟨some 35, none, .mov (.t 73)⟩]
def b106_1 : C := .seq (.ops r106_4) (.seq (.cond (.t 36) (.skip) (.exit 0)) (.seq (.block 1 (.seq (.ops r106_5) (.seq (.seq (.ops r106_6) (.cond (.t 45) (.seq (.ops r106_7) (.ret)) (.skip))) (.seq (.ops r106_8) (.block 2 (.rangeF (.t 49) [50, 51] (.seq (.ops r106_9) (.ops r106_10)) b106_0)))))) (.ops r106_13)))
def r106_14 : List O := [⟨none, none, .st 1 (.t 6) (.c (.b true))⟩]
/-- sennet.rows.right -/
def a106 : FI := ⟨74, [.cell 6 none], .seq (.ops r106_0) (.seq (.seq (.draw r106_1 []) (.cond (.t 31) (.seq (.ops r106_2) (.ret)) (.skip))) (.seq (.seq (.ops r106_3) (.block 0 (.loop b106_1))) (.seq (.ops r106_14) (.ret))))⟩
def r107_0 : List O := [⟨some 2, none, .box (.t 0)⟩,
  ⟨some 3, none, .box (.t 1)⟩,
  ⟨some 4, none, .mov (.c (.b false))⟩]
def r107_1 : List O := [⟨some 9, none, .fld 1 (.t 3)⟩,
  ⟨some 10, none, .ld (.t 9)⟩,
  ⟨some 11, none, .lenL (.t 10)⟩,
  ⟨some 12, none, .fld 0 (.t 3)⟩,
  ⟨some 13, none, .ld (.t 12)⟩,
  ⟨some 14, none, .lenL (.t 13)⟩,
  ⟨some 15, none, .conv .u64 (.t 14)⟩,
  ⟨some 16, none, .bin .shl (.c (.i .i64 1)) (.t 15)⟩,
  ⟨some 17, none, .bin .neq (.t 11) (.t 16)⟩,
  ⟨some 18, none, .mov (.t 17)⟩,
  ⟨some 19, some (18, false), .fld 1 (.t 3)⟩,
  ⟨some 20, some (18, false), .ld (.t 19)⟩,
  ⟨some 21, some (18, false), .ixS 1 (.t 20) (.c (.i .i64 0))⟩,
  ⟨some 22, some (18, false), .ld (.t 21)⟩,
  ⟨some 23, some (18, false), .bin .neq (.t 22) (.c (.i .i64 0))⟩,
  ⟨some 24, none, .pick (.t 18) (.c (.b true)) (.t 23)⟩]
def r107_2 : List O := [⟨some 4, none, .mov (.c (.b false))⟩]
def r107_3 : List O := [⟨some 5, none, .mov (.c (.i .i64 1))⟩]
def r107_4 : List O := [⟨some 25, none, .mov (.t 5)⟩,
  ⟨some 26, none, .fld 1 (.t 3)⟩,
  ⟨some 27, none, .ld (.t 26)⟩,
  ⟨some 28, none, .lenL (.t 27)⟩,
  ⟨some 29, none, .bin .lss (.t 25) (.t 28)⟩]
def r107_6 : List O := [⟨some 32, none, .fld 1 (.t 3)⟩,
  ⟨some 33, none, .ld (.t 32)⟩,
  ⟨some 34, none, .mov (.t 5)⟩,
  ⟨some 35, none, .ixS 1 (.t 33) (.t 34)⟩,
  ⟨some 36, none, .ld (.t 35)⟩,
  ⟨some 37, none, .bin .lss (.t 36) (.c (.i .i64 0))⟩,
  ⟨some 38, none, .mov (.t 37)⟩,
  ⟨some 39, some (38, false), .fld 1 (.t 3)⟩,
  ⟨some 40, some (38, false), .ld (.t 39)⟩,
  ⟨some 41, some (38, false), .mov (.t 5)⟩,
  ⟨some 42, some (38, false), .ixS 1 (.t 40) (.t 41)⟩,
  ⟨some 43, some (38, false), .ld (.t 42)⟩,
  ⟨some 44, some (38, false), .bin .gtr (.t 43) (.c (.i .i64 1000000))⟩,
  ⟨some 45, none, .pick (.t 38) (.c (.b true)) (.t 44)⟩]
def r107_7 : List O := [⟨some 4, none, .mov (.c (.b false))⟩]
def r107_8 : List O := [⟨some 6, none, .mov (.c (.i .i64 0))⟩]
def r107_9 : List O := [⟨some 46, none, .mov (.t 6)⟩,
  ⟨some 47, none, .fld 0 (.t 3)⟩,
  ⟨some 48, none, .ld (.t 47)⟩,
  ⟨some 49, none, .lenL (.t 48)⟩,
  ⟨some 50, none, .bin .lss (.t 46) (.t 49)⟩]
def r107_11 : List O := [⟨some 53, none, .mov (.t 5)⟩,
  ⟨some 54, none, .mov (.t 6)⟩,
  ⟨some 55, none, .conv .u64 (.t 54)⟩,
  ⟨some 56, none, .bin .shr (.t 53) (.t 55)⟩,
  ⟨some 57, none, .bin .and (.t 56) (.c (.i .i64 1))⟩,
  ⟨some 58, none, .bin .eql (.t 57) (.c (.i .i64 0))⟩]
def r107_12 : List O := [⟨some 59, none, .mov (.t 5)⟩,
  ⟨some 60, none, .mov (.t 6)⟩,
  ⟨some 61, none, .conv .u64 (.t 60)⟩,
  ⟨some 62, none, .bin .shl (.c (.i .i64 1)) (.t 61)⟩,
  ⟨some 63, none, .bin .sub (.t 59) (.t 62)⟩,
  ⟨some 7, none, .mov (.t 63)⟩]
def r107_13 : List O := [⟨some 64, none, .ldn 2 (.t 2)⟩,
  ⟨some 65, none, .fld 0 (.t 3)⟩,
  ⟨some 66, none, .ld (.t 65)⟩,
  ⟨some 67, none, .mov (.t 6)⟩,
  ⟨some 68, none, .ixS 1 (.t 66) (.t 67)⟩,
  ⟨some 69, none, .ld (.t 68)⟩,
  ⟨some 70, none, .fld 0 (.t 3)⟩,
  ⟨some 71, none, .ld (.t 70)⟩,
  ⟨some 72, none, .mov (.t 7)⟩,
  ⟨some 73, none, .call (.f 116) [(.t 71), (.t 72)]⟩,
  ⟨some 74, none, .call (.f 115) [(.t 64), (.t 69), (.t 73)]⟩,
  ⟨some 8, none, .mov (.t 74)⟩]
def r107_14 : List O := [⟨some 75, none, .fld 1 (.t 3)⟩,
  ⟨some 76, none, .ld (.t 75)⟩,
  ⟨some 77, none, .mov (.t 5)⟩,
  ⟨some 78, none, .ixS 1 (.t 76) (.t 77)⟩,
  ⟨some 79, none, .ld (.t 78)⟩,
  ⟨some 80, none, .fld 1 (.t 3)⟩,
  ⟨some 81, none, .ld (.t 80)⟩,
  ⟨some 82, none, .mov (.t 7)⟩,
  ⟨some 83, none, .ixS 1 (.t 81) (.t 82)⟩,
  ⟨some 84, none, .ld (.t 83)⟩,
  ⟨some 85, none, .mov (.t 8)⟩,
  ⟨some 86, none, .bin .add (.t 84) (.t 85)⟩,
  ⟨some 87, none, .bin .gtr (.t 79) (.t 86)⟩]
def r107_15 : List O := [⟨some 4, none, .mov (.c (.b false))⟩]
def r107_10 : List O := [⟨some 51, none, .mov (.t 6)⟩,
  ⟨some 52, none, .bin .add (.t 51) (.c (.i .i64 1))⟩,
  ⟨some 6, none, .mov (.t 52)⟩]
def b107_0 : C := .seq (.seq (.ops r107_9) (.cond (.t 50) (.skip) (.exit 2))) (.seq (.block 3 (.seq (.seq (.ops r107_11) (.cond (.t 58) (.exit 3) (.skip))) (.seq (.ops r107_12) (.seq (.draw r107_13 [(0, 9), (2, 9), (5, 9)]) (.seq (.draw r107_14 []) (.cond (.t 87) (.seq (.ops r107_15) (.ret)) (.skip))))))) (.ops r107_10))
def r107_5 : List O := [⟨some 30, none, .mov (.t 5)⟩,
  ⟨some 31, none, .bin .add (.t 30) (.c (.i .i64 1))⟩,
  ⟨some 5, none, .mov (.t 31)⟩]
def b107_1 : C := .seq (.seq (.ops r107_4) (.cond (.t 29) (.skip) (.exit 0))) (.seq (.block 1 (.seq (.seq (.ops r107_6) (.cond (.t 45) (.seq (.ops r107_7) (.ret)) (.skip))) (.seq (.ops r107_8) (.block 2 (.loop b107_0))))) (.ops r107_5))
def r107_16 : List O := [⟨some 4, none, .mov (.c (.b true))⟩]
/-- sennet.sennetref04.bounds -/
def a107 : FI := ⟨88, [.tmp 4], .seq (.ops r107_0) (.seq (.seq (.ops r107_1) (.cond (.t 24) (.seq (.ops r107_2) (.ret)) (.skip))) (.seq (.seq (.ops r107_3) (.block 0 (.loop b107_1))) (.seq (.ops r107_16) (.ret))))⟩
def r108_0 : List O := [⟨some 6, none, .mov (.c (.b false))⟩]
def r108_1 : List O := [⟨some 7, none, .mov (.t 0)⟩,
  ⟨some 8, none, .mov (.t 1)⟩,
  ⟨some 9, none, .bin .geq (.t 7) (.t 8)⟩,
  ⟨some 10, none, .mov (.t 9)⟩,
  ⟨some 11, some (10, true), .mov (.t 0)⟩,
  ⟨some 12, some (10, true), .mov (.t 2)⟩,
  ⟨some 13, some (10, true), .bin .leq (.t 11) (.t 12)⟩,
  ⟨some 14, none, .pick (.t 10) (.t 13) (.c (.b false))⟩,
  ⟨some 6, none, .mov (.t 14)⟩]
/-- sennet.rank.in -/
def a108 : FI := ⟨15, [.tmp 6], .seq (.ops r108_0) (.seq (.ops r108_1) (.ret))⟩
def r109_0 : List O := [⟨some 2, none, .box (.t 0)⟩,
  ⟨some 3, none, .box (.t 1)⟩,
  ⟨some 4, none, .mov (.c (.i .i64 0))⟩]
def r109_1 : List O := [⟨some 5, none, .fld 0 (.t 2)⟩,
  ⟨some 6, none, .ld (.t 5)⟩,
  ⟨some 7, none, .fld 0 (.t 3)⟩,
  ⟨some 8, none, .ld (.t 7)⟩,
  ⟨some 9, none, .call (.f 125) [(.t 6), (.t 8)]⟩,
  ⟨some 10, none, .fld 1 (.t 2)⟩,
  ⟨some 11, none, .ld (.t 10)⟩,
  ⟨some 12, none, .fld 1 (.t 3)⟩,
  ⟨some 13, none, .ld (.t 12)⟩,
  ⟨some 14, none, .call (.f 125) [(.t 11), (.t 13)]⟩,
  ⟨some 15, none, .buildSl [.i .i64 0, .i .i64 0] 2 [(0, 1, (.t 9)), (1, 1, (.t 14))]⟩,
  ⟨some 16, none, .call (.f 124) [(.t 15)]⟩,
  ⟨some 4, none, .mov (.t 16)⟩]
/-- sennet.rank.compareArrows -/
def a109 : FI := ⟨17, [.tmp 4], .seq (.ops r109_0) (.seq (.draw r109_1 [(4, 6), (4, 8)]) (.ret))⟩

end Go.Air.Try
