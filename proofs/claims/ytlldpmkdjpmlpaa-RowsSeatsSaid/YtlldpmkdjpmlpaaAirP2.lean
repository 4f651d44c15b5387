import Derived.Test.YtlldpmkdjpmlpaaAir
set_option maxRecDepth 100000
namespace Go.Air.Try
def r31_0 : List O := [⟨some 2, none, .mov (.c (.sn))⟩,
  ⟨some 3, none, .mov (.c (.i .i64 0))⟩]
def r31_1 : List O := [⟨some 7, none, .mov (.t 0)⟩,
  ⟨some 8, none, .call (.f 78) [(.t 7)]⟩,
  ⟨some 9, none, .bin .neq (.t 8) (.c (.i .i64 0))⟩,
  ⟨some 6, none, .mov (.t 9)⟩]
def r31_2 : List O := [⟨some 2, none, .mov (.c (.sn))⟩,
  ⟨some 3, none, .mov (.c (.i .i64 1))⟩]
def r31_3 : List O := [⟨some 11, none, .mov (.t 0)⟩,
  ⟨some 12, none, .lenL (.t 11)⟩,
  ⟨some 13, none, .bin .gtr (.t 12) (.c (.i .i64 200))⟩,
  ⟨some 10, none, .mov (.t 13)⟩]
def r31_4 : List O := [⟨some 2, none, .mov (.c (.sn))⟩,
  ⟨some 3, none, .mov (.c (.i .i64 2))⟩]
def r31_5 : List O := [⟨some 4, none, .mov (.c (.sn))⟩]
def r31_6 : List O := [⟨some 14, none, .mov (.t 0)⟩,
  ⟨some 15, none, .lenL (.t 14)⟩,
  ⟨some 16, none, .mov (.c (.i .i64 0))⟩]
def r31_7 : List O := [⟨some 17, none, .bin .lss (.t 16) (.t 15)⟩]
def r31_8 : List O := [⟨some 18, none, .mov (.t 16)⟩,
  ⟨some 5, none, .mov (.t 18)⟩]
def r31_9 : List O := [⟨some 19, none, .mov (.t 4)⟩,
  ⟨some 20, none, .mov (.t 0)⟩,
  ⟨some 21, none, .mov (.t 5)⟩,
  ⟨some 22, none, .call (.f 79) [(.t 20), (.t 21)]⟩,
  ⟨some 23, none, .buildSl [.sn] 1 [(0, 1, (.t 22))]⟩,
  ⟨some 24, none, .app 1 24 (.t 19) (.t 23)⟩,
  ⟨some 4, none, .mov (.t 24)⟩]
def r31_10 : List O := [⟨some 25, none, .bin .add (.t 16) (.c (.i .i64 1))⟩,
  ⟨some 16, none, .mov (.t 25)⟩]
def b31_0 : C := .seq (.ops r31_7) (.seq (.cond (.t 17) (.skip) (.exit 1)) (.seq (.block 2 (.seq (.ops r31_8) (.ops r31_9))) (.ops r31_10)))
def r31_11 : List O := [⟨some 26, none, .mov (.t 4)⟩,
  ⟨some 2, none, .mov (.t 26)⟩,
  ⟨some 3, none, .mov (.c (.i .i64 0))⟩]
/-- sennet.rows.Alternat -/
def a31 : FI := ⟨27, [.tmp 2, .tmp 3], .seq (.ops r31_0) (.seq (.block 0 (.seq (.ops r31_1) (.cond (.t 6) (.seq (.ops r31_2) (.ret)) (.seq (.ops r31_3) (.cond (.t 10) (.seq (.ops r31_4) (.ret)) (.skip)))))) (.seq (.ops r31_5) (.seq (.seq (.ops r31_6) (.block 1 (.loop b31_0))) (.seq (.ops r31_11) (.ret)))))⟩
def r32_0 : List O := [⟨some 2, none, .box (.t 0)⟩,
  ⟨some 4, none, .mov (.c (.i .i64 0))⟩,
  ⟨some 5, none, .mov (.c (.i .i64 0))⟩]
def r32_1 : List O := [⟨some 7, none, .ldn 2 (.t 2)⟩,
  ⟨some 8, none, .mov (.t 1)⟩,
  ⟨some 9, none, .call (.f 80) [(.t 7), (.t 8)]⟩,
  ⟨some 6, none, .mov (.t 9)⟩]
def r32_2 : List O := [⟨some 10, none, .mov (.t 6)⟩,
  ⟨some 11, none, .bin .neq (.t 10) (.c (.i .i64 0))⟩]
def r32_3 : List O := [⟨some 12, none, .mov (.t 6)⟩,
  ⟨some 4, none, .mov (.c (.i .i64 0))⟩,
  ⟨some 5, none, .mov (.t 12)⟩]
def r32_4 : List O := [⟨some 13, none, .ldn 2 (.t 2)⟩,
  ⟨some 14, none, .mov (.t 1)⟩,
  ⟨some 15, none, .call (.f 81) [(.t 13), (.t 14)]⟩,
  ⟨some 4, none, .mov (.t 15)⟩,
  ⟨some 5, none, .mov (.c (.i .i64 0))⟩]
/-- sennet.rows.Offence -/
def a32 : FI := ⟨16, [.tmp 4, .tmp 5], .seq (.ops r32_0) (.seq (.seq (.ops r32_1) (.seq (.ops r32_2) (.cond (.t 11) (.seq (.ops r32_3) (.ret)) (.skip)))) (.seq (.ops r32_4) (.ret)))⟩
def r33_0 : List O := [⟨some 2, none, .box (.t 0)⟩,
  ⟨some 4, none, .mov (.c (.i .i64 0))⟩,
  ⟨some 5, none, .mov (.c (.i .i64 0))⟩]
def r33_1 : List O := [⟨some 7, none, .ldn 2 (.t 2)⟩,
  ⟨some 8, none, .mov (.t 1)⟩,
  ⟨some 9, none, .call (.f 82) [(.t 7), (.t 8)]⟩,
  ⟨some 6, none, .mov (.t 9)⟩]
def r33_2 : List O := [⟨some 10, none, .mov (.t 6)⟩,
  ⟨some 11, none, .bin .neq (.t 10) (.c (.i .i64 0))⟩]
def r33_3 : List O := [⟨some 12, none, .mov (.t 6)⟩,
  ⟨some 4, none, .mov (.c (.i .i64 0))⟩,
  ⟨some 5, none, .mov (.t 12)⟩]
def r33_4 : List O := [⟨some 13, none, .ldn 2 (.t 2)⟩,
  ⟨some 14, none, .mov (.t 1)⟩,
  ⟨some 15, none, .call (.f 83) [(.t 13), (.t 14)]⟩,
  ⟨some 4, none, .mov (.t 15)⟩,
  ⟨some 5, none, .mov (.c (.i .i64 0))⟩]
/-- sennet.sennetref04.Offence -/
def a33 : FI := ⟨16, [.tmp 4, .tmp 5], .seq (.ops r33_0) (.seq (.ops r33_1) (.seq (.seq (.ops r33_2) (.cond (.t 11) (.seq (.ops r33_3) (.ret)) (.skip))) (.seq (.ops r33_4) (.ret))))⟩
def r34_0 : List O := [⟨some 2, none, .box (.t 0)⟩,
  ⟨some 4, none, .mov (.c (.sn))⟩,
  ⟨some 5, none, .mov (.c (.i .i64 0))⟩]
def r34_1 : List O := [⟨some 7, none, .ldn 2 (.t 2)⟩,
  ⟨some 8, none, .mov (.t 1)⟩,
  ⟨some 9, none, .call (.f 80) [(.t 7), (.t 8)]⟩,
  ⟨some 6, none, .mov (.t 9)⟩]
def r34_2 : List O := [⟨some 10, none, .mov (.t 6)⟩,
  ⟨some 11, none, .bin .neq (.t 10) (.c (.i .i64 0))⟩]
def r34_3 : List O := [⟨some 12, none, .mov (.t 6)⟩,
  ⟨some 4, none, .mov (.c (.sn))⟩,
  ⟨some 5, none, .mov (.t 12)⟩]
def r34_4 : List O := [⟨some 13, none, .ldn 2 (.t 2)⟩,
  ⟨some 14, none, .mov (.t 1)⟩,
  ⟨some 15, none, .call (.f 84) [(.t 13), (.t 14)]⟩,
  ⟨some 4, none, .mov (.t 15)⟩,
  ⟨some 5, none, .mov (.c (.i .i64 0))⟩]
/-- sennet.rows.Slights -/
def a34 : FI := ⟨16, [.tmp 4, .tmp 5], .seq (.ops r34_0) (.seq (.seq (.ops r34_1) (.seq (.ops r34_2) (.cond (.t 11) (.seq (.ops r34_3) (.ret)) (.skip)))) (.seq (.ops r34_4) (.ret)))⟩
def r35_0 : List O := [⟨some 2, none, .box (.t 0)⟩,
  ⟨some 4, none, .mov (.c (.sn))⟩,
  ⟨some 5, none, .mov (.c (.i .i64 0))⟩]
def r35_1 : List O := [⟨some 11, none, .ldn 2 (.t 2)⟩,
  ⟨some 12, none, .mov (.t 1)⟩,
  ⟨some 13, none, .call (.f 82) [(.t 11), (.t 12)]⟩,
  ⟨some 6, none, .mov (.t 13)⟩]
def r35_2 : List O := [⟨some 14, none, .mov (.t 6)⟩,
  ⟨some 15, none, .bin .neq (.t 14) (.c (.i .i64 0))⟩]
def r35_3 : List O := [⟨some 16, none, .mov (.t 6)⟩,
  ⟨some 4, none, .mov (.c (.sn))⟩,
  ⟨some 5, none, .mov (.t 16)⟩]
def r35_4 : List O := [⟨some 7, none, .mov (.c (.sn))⟩]
def r35_5 : List O := [⟨some 8, none, .mov (.c (.i .i64 0))⟩]
def r35_6 : List O := [⟨some 17, none, .mov (.t 8)⟩,
  ⟨some 18, none, .fld 1 (.t 2)⟩,
  ⟨some 19, none, .ld (.t 18)⟩,
  ⟨some 20, none, .lenL (.t 19)⟩,
  ⟨some 21, none, .bin .lss (.t 17) (.t 20)⟩]
def r35_8 : List O := [⟨some 24, none, .fld 1 (.t 2)⟩,
  ⟨some 25, none, .ld (.t 24)⟩,
  ⟨some 26, none, .mov (.t 8)⟩,
  ⟨some 27, none, .ixS 4 (.t 25) (.t 26)⟩,
  ⟨some 28, none, .ldn 4 (.t 27)⟩,
  ⟨some 9, none, .alloc [.i .i64 0, .i .i64 0, .i .i64 0, .i .i64 0]⟩,
  ⟨none, none, .st 4 (.t 9) (.t 28)⟩]
def r35_9 : List O := [⟨some 29, none, .ldn 4 (.t 9)⟩,
  ⟨some 30, none, .mov (.t 1)⟩,
  ⟨some 31, none, .call (.f 85) [(.t 29), (.t 30)]⟩,
  ⟨some 10, none, .mov (.t 31)⟩]
def r35_10 : List O := [⟨some 32, none, .mov (.t 10)⟩]
def r35_11 : List O := [⟨some 33, none, .mov (.t 7)⟩,
  ⟨some 34, none, .fld 0 (.t 9)⟩,
  ⟨some 35, none, .ld (.t 34)⟩,
  ⟨some 36, none, .fld 1 (.t 9)⟩,
  ⟨some 37, none, .ld (.t 36)⟩,
  ⟨some 38, none, .fld 3 (.t 9)⟩,
  ⟨some 39, none, .ld (.t 38)⟩,
  ⟨some 40, none, .build [.i .i64 0, .i .i64 0, .i .i64 0] [(0, 1, (.t 35)), (1, 1, (.t 37)), (2, 1, (.t 39))]⟩,
  ⟨some 41, none, .buildSl [.i .i64 0, .i .i64 0, .i .i64 0] 1 [(0, 3, (.t 40))]⟩,
  ⟨some 42, none, .app 3 24 (.t 33) (.t 41)⟩,
  ⟨some 7, none, .mov (.t 42)⟩]
def r35_7 : List O := [⟨some 22, none, .mov (.t 8)⟩,
  ⟨some 23, none, .bin .add (.t 22) (.c (.i .i64 1))⟩,
  ⟨some 8, none, .mov (.t 23)⟩]
def b35_0 : C := .seq (.seq (.ops r35_6) (.cond (.t 21) (.skip) (.exit 0))) (.seq (.block 1 (.seq (.ops r35_8) (.seq (.ops r35_9) (.seq (.ops r35_10) (.cond (.t 32) (.ops r35_11) (.skip)))))) (.ops r35_7))
def r35_12 : List O := [⟨some 43, none, .mov (.t 7)⟩,
  ⟨some 4, none, .mov (.t 43)⟩,
  ⟨some 5, none, .mov (.c (.i .i64 0))⟩]
/-- sennet.sennetref04.Slights -/
def a35 : FI := ⟨44, [.tmp 4, .tmp 5], .seq (.ops r35_0) (.seq (.ops r35_1) (.seq (.seq (.ops r35_2) (.cond (.t 15) (.seq (.ops r35_3) (.ret)) (.skip))) (.seq (.ops r35_4) (.seq (.seq (.ops r35_5) (.block 0 (.loop b35_0))) (.seq (.ops r35_12) (.ret))))))⟩
def r36_0 : List O := [⟨some 4, none, .mov (.c (.b false))⟩]
def r36_1 : List O := [⟨some 6, none, .mov (.t 0)⟩,
  ⟨some 7, none, .lenL (.t 6)⟩,
  ⟨some 8, none, .mov (.t 1)⟩,
  ⟨some 9, none, .lenL (.t 8)⟩,
  ⟨some 10, none, .bin .neq (.t 7) (.t 9)⟩]
def r36_2 : List O := [⟨some 4, none, .mov (.c (.b false))⟩]
def r36_3 : List O := [⟨some 5, none, .mov (.c (.i .i64 0))⟩]
def r36_4 : List O := [⟨some 11, none, .mov (.t 5)⟩,
  ⟨some 12, none, .mov (.t 0)⟩,
  ⟨some 13, none, .lenL (.t 12)⟩,
  ⟨some 14, none, .bin .lss (.t 11) (.t 13)⟩]
def r36_6 : List O := [⟨some 17, none, .mov (.t 0)⟩,
  ⟨some 18, none, .mov (.t 5)⟩,
  ⟨some 19, none, .ixS 3 (.t 17) (.t 18)⟩,
  ⟨some 20, none, .ldn 3 (.t 19)⟩,
  ⟨some 21, none, .mov (.t 1)⟩,
  ⟨some 22, none, .mov (.t 5)⟩,
  ⟨some 23, none, .ixS 3 (.t 21) (.t 22)⟩,
  ⟨some 24, none, .ldn 3 (.t 23)⟩,
  ⟨some 25, none, .eqv true (.agg [.i .i64, .i .i64, .i .i64]) (.t 20) (.t 24)⟩]
def r36_7 : List O := [⟨some 4, none, .mov (.c (.b false))⟩]
def r36_5 : List O := [⟨some 15, none, .mov (.t 5)⟩,
  ⟨some 16, none, .bin .add (.t 15) (.c (.i .i64 1))⟩,
  ⟨some 5, none, .mov (.t 16)⟩]
def b36_0 : C := .seq (.seq (.ops r36_4) (.cond (.t 14) (.skip) (.exit 0))) (.seq (.block 1 (.seq (.draw r36_6 []) (.cond (.t 25) (.seq (.ops r36_7) (.ret)) (.skip)))) (.ops r36_5))
def r36_8 : List O := [⟨some 4, none, .mov (.c (.b true))⟩]
/-- sennet.sennetref04.SameSlights -/
def a36 : FI := ⟨26, [.tmp 4], .seq (.ops r36_0) (.seq (.seq (.ops r36_1) (.cond (.t 10) (.seq (.ops r36_2) (.ret)) (.skip))) (.seq (.seq (.ops r36_3) (.block 0 (.loop b36_0))) (.seq (.ops r36_8) (.ret))))⟩
def r37_0 : List O := [⟨some 4, none, .mov (.c (.i .i64 0))⟩]
def r37_1 : List O := [⟨some 8, none, .mov (.t 1)⟩,
  ⟨some 9, none, .lenL (.t 8)⟩,
  ⟨some 10, none, .mov (.t 0)⟩,
  ⟨some 11, none, .bin .neq (.t 9) (.t 10)⟩]
def r37_2 : List O := [⟨some 4, none, .mov (.c (.i .i64 1))⟩]
def r37_3 : List O := [⟨some 12, none, .mov (.t 0)⟩,
  ⟨some 13, none, .mkSl [.b false] 1 (.t 12) (.t 12)⟩,
  ⟨some 5, none, .mov (.t 13)⟩]
def r37_4 : List O := [⟨some 14, none, .mov (.t 1)⟩,
  ⟨some 15, none, .lenL (.t 14)⟩,
  ⟨some 16, none, .mov (.c (.i .i64 0))⟩]
def r37_5 : List O := [⟨some 17, none, .bin .lss (.t 16) (.t 15)⟩]
def r37_6 : List O := [⟨some 18, none, .ixS 1 (.t 14) (.t 16)⟩,
  ⟨some 19, none, .ld (.t 18)⟩,
  ⟨some 7, none, .mov (.t 19)⟩]
def r37_7 : List O := [⟨some 20, none, .mov (.t 7)⟩,
  ⟨some 21, none, .bin .lss (.t 20) (.c (.i .i64 0))⟩,
  ⟨some 22, none, .mov (.t 21)⟩,
  ⟨some 23, some (22, false), .mov (.t 7)⟩,
  ⟨some 24, some (22, false), .mov (.t 0)⟩,
  ⟨some 25, some (22, false), .bin .geq (.t 23) (.t 24)⟩,
  ⟨some 26, none, .pick (.t 22) (.c (.b true)) (.t 25)⟩,
  ⟨some 27, none, .mov (.t 26)⟩,
  ⟨some 28, some (27, false), .mov (.t 5)⟩,
  ⟨some 29, some (27, false), .mov (.t 7)⟩,
  ⟨some 30, some (27, false), .ixS 1 (.t 28) (.t 29)⟩,
  ⟨some 31, some (27, false), .ld (.t 30)⟩,
  ⟨some 32, none, .pick (.t 27) (.c (.b true)) (.t 31)⟩]
def r37_8 : List O := [⟨some 4, none, .mov (.c (.i .i64 1))⟩]
def r37_9 : List O := [⟨some 33, none, .mov (.t 5)⟩,
  ⟨some 34, none, .mov (.t 7)⟩,
  ⟨some 35, none, .ixS 1 (.t 33) (.t 34)⟩,
  ⟨none, none, .st 1 (.t 35) (.c (.b true))⟩]
def r37_10 : List O := [⟨some 36, none, .bin .add (.t 16) (.c (.i .i64 1))⟩,
  ⟨some 16, none, .mov (.t 36)⟩]
def b37_0 : C := .seq (.ops r37_5) (.seq (.cond (.t 17) (.skip) (.exit 0)) (.seq (.block 1 (.seq (.ops r37_6) (.seq (.seq (.ops r37_7) (.cond (.t 32) (.seq (.ops r37_8) (.ret)) (.skip))) (.ops r37_9)))) (.ops r37_10)))
def r37_11 : List O := [⟨some 4, none, .mov (.c (.i .i64 0))⟩]
/-- sennet.rows.CheckOrder -/
def a37 : FI := ⟨37, [.tmp 4], .seq (.ops r37_0) (.seq (.seq (.ops r37_1) (.cond (.t 11) (.seq (.ops r37_2) (.ret)) (.skip))) (.seq (.ops r37_3) (.seq (.seq (.ops r37_4) (.block 0 (.loop b37_0))) (.seq (.ops r37_11) (.ret)))))⟩
def r38_0 : List O := [⟨some 4, none, .mov (.c (.i .i64 0))⟩]
def r38_1 : List O := [⟨some 7, none, .mov (.t 1)⟩,
  ⟨some 8, none, .lenL (.t 7)⟩,
  ⟨some 9, none, .mov (.t 0)⟩,
  ⟨some 10, none, .bin .neq (.t 8) (.t 9)⟩]
def r38_2 : List O := [⟨some 4, none, .mov (.c (.i .i64 1))⟩]
def r38_3 : List O := [⟨some 5, none, .mov (.c (.i .i64 0))⟩]
def r38_4 : List O := [⟨some 11, none, .mov (.t 5)⟩,
  ⟨some 12, none, .mov (.t 0)⟩,
  ⟨some 13, none, .bin .lss (.t 11) (.t 12)⟩]
def r38_6 : List O := [⟨some 16, none, .mov (.t 1)⟩,
  ⟨some 17, none, .mov (.t 5)⟩,
  ⟨some 18, none, .ixS 1 (.t 16) (.t 17)⟩,
  ⟨some 19, none, .ld (.t 18)⟩,
  ⟨some 20, none, .bin .lss (.t 19) (.c (.i .i64 0))⟩,
  ⟨some 21, none, .mov (.t 20)⟩,
  ⟨some 22, some (21, false), .mov (.t 1)⟩,
  ⟨some 23, some (21, false), .mov (.t 5)⟩,
  ⟨some 24, some (21, false), .ixS 1 (.t 22) (.t 23)⟩,
  ⟨some 25, some (21, false), .ld (.t 24)⟩,
  ⟨some 26, some (21, false), .mov (.t 0)⟩,
  ⟨some 27, some (21, false), .bin .geq (.t 25) (.t 26)⟩,
  ⟨some 28, none, .pick (.t 21) (.c (.b true)) (.t 27)⟩]
def r38_7 : List O := [⟨some 4, none, .mov (.c (.i .i64 1))⟩]
def r38_8 : List O := [⟨some 6, none, .mov (.c (.i .i64 0))⟩]
def r38_9 : List O := [⟨some 29, none, .mov (.t 6)⟩,
  ⟨some 30, none, .mov (.t 5)⟩,
  ⟨some 31, none, .bin .lss (.t 29) (.t 30)⟩]
def r38_11 : List O := [⟨some 34, none, .mov (.t 1)⟩,
  ⟨some 35, none, .mov (.t 6)⟩,
  ⟨some 36, none, .ixS 1 (.t 34) (.t 35)⟩,
  ⟨some 37, none, .ld (.t 36)⟩,
  ⟨some 38, none, .mov (.t 1)⟩,
  ⟨some 39, none, .mov (.t 5)⟩,
  ⟨some 40, none, .ixS 1 (.t 38) (.t 39)⟩,
  ⟨some 41, none, .ld (.t 40)⟩,
  ⟨some 42, none, .bin .eql (.t 37) (.t 41)⟩]
def r38_12 : List O := [⟨some 4, none, .mov (.c (.i .i64 1))⟩]
def r38_10 : List O := [⟨some 32, none, .mov (.t 6)⟩,
  ⟨some 33, none, .bin .add (.t 32) (.c (.i .i64 1))⟩,
  ⟨some 6, none, .mov (.t 33)⟩]
def b38_0 : C := .seq (.seq (.ops r38_9) (.cond (.t 31) (.skip) (.exit 2))) (.seq (.block 3 (.seq (.draw r38_11 []) (.cond (.t 42) (.seq (.ops r38_12) (.ret)) (.skip)))) (.ops r38_10))
def r38_5 : List O := [⟨some 14, none, .mov (.t 5)⟩,
  ⟨some 15, none, .bin .add (.t 14) (.c (.i .i64 1))⟩,
  ⟨some 5, none, .mov (.t 15)⟩]
def b38_1 : C := .seq (.seq (.ops r38_4) (.cond (.t 13) (.skip) (.exit 0))) (.seq (.block 1 (.seq (.seq (.ops r38_6) (.cond (.t 28) (.seq (.ops r38_7) (.ret)) (.skip))) (.seq (.ops r38_8) (.block 2 (.loop b38_0))))) (.ops r38_5))
def r38_13 : List O := [⟨some 4, none, .mov (.c (.i .i64 0))⟩]
/-- sennet.sennetref04.CheckOrder -/
def a38 : FI := ⟨43, [.tmp 4], .seq (.ops r38_0) (.seq (.seq (.ops r38_1) (.cond (.t 10) (.seq (.ops r38_2) (.ret)) (.skip))) (.seq (.seq (.ops r38_3) (.block 0 (.loop b38_1))) (.seq (.ops r38_13) (.ret))))⟩
def r39_0 : List O := [⟨some 1, none, .box (.t 0)⟩,
  ⟨some 2, none, .mov (.c (.sn))⟩]
def r39_1 : List O := [⟨some 3, none, .ldn 2 (.t 1)⟩,
  ⟨some 4, none, .call (.f 87) [(.t 3)]⟩,
  ⟨some 5, none, .call (.f 86) [(.t 4), (.f 88)]⟩,
  ⟨some 2, none, .mov (.t 5)⟩]
/-- sennet.rank.Circles -/
def a39 : FI := ⟨6, [.tmp 2], .seq (.ops r39_0) (.seq (.ops r39_1) (.ret))⟩
def r40_0 : List O := [⟨some 2, none, .box (.t 0)⟩,
  ⟨some 4, none, .mov (.c (.b false))⟩,
  ⟨some 5, none, .mov (.c (.i .i64 0))⟩]
def r40_1 : List O := [⟨some 9, none, .ldn 2 (.t 2)⟩,
  ⟨some 10, none, .mov (.t 1)⟩,
  ⟨some 11, none, .call (.f 80) [(.t 9), (.t 10)]⟩,
  ⟨some 6, none, .mov (.t 11)⟩]
def r40_2 : List O := [⟨some 12, none, .mov (.t 6)⟩,
  ⟨some 13, none, .bin .neq (.t 12) (.c (.i .i64 0))⟩]
def r40_3 : List O := [⟨some 14, none, .mov (.t 6)⟩,
  ⟨some 4, none, .mov (.c (.b false))⟩,
  ⟨some 5, none, .mov (.t 14)⟩]
def r40_4 : List O := [⟨some 16, none, .ldn 2 (.t 2)⟩,
  ⟨some 17, none, .call (.f 23) [(.t 16)]⟩,
  ⟨some 15, none, .mov (.t 17)⟩,
  ⟨some 18, none, .ext (.t 15) 0⟩,
  ⟨some 19, none, .ext (.t 15) 1⟩,
  ⟨some 7, none, .alloc [.sn, .i .i64 0, .sn]⟩,
  ⟨none, none, .st 3 (.t 7) (.t 18)⟩,
  ⟨some 8, none, .mov (.t 19)⟩]
def r40_5 : List O := [⟨some 20, none, .mov (.t 8)⟩,
  ⟨some 21, none, .bin .neq (.t 20) (.c (.i .i64 0))⟩]
def r40_6 : List O := [⟨some 22, none, .mov (.t 8)⟩,
  ⟨some 4, none, .mov (.c (.b false))⟩,
  ⟨some 5, none, .mov (.t 22)⟩]
def r40_7 : List O := [⟨some 23, none, .ldn 2 (.t 2)⟩,
  ⟨some 24, none, .mov (.t 1)⟩,
  ⟨some 25, none, .call (.f 81) [(.t 23), (.t 24)]⟩,
  ⟨some 26, none, .fld 1 (.t 7)⟩,
  ⟨some 27, none, .ld (.t 26)⟩,
  ⟨some 28, none, .bin .eql (.t 25) (.t 27)⟩,
  ⟨some 4, none, .mov (.t 28)⟩,
  ⟨some 5, none, .mov (.c (.i .i64 0))⟩]
/-- sennet.rows.Best -/
def a40 : FI := ⟨29, [.tmp 4, .tmp 5], .seq (.ops r40_0) (.seq (.seq (.ops r40_1) (.seq (.ops r40_2) (.cond (.t 13) (.seq (.ops r40_3) (.ret)) (.skip)))) (.seq (.ops r40_4) (.seq (.seq (.ops r40_5) (.cond (.t 21) (.seq (.ops r40_6) (.ret)) (.skip))) (.seq (.draw r40_7 [(2, 4)]) (.ret)))))⟩
def r41_0 : List O := [⟨some 2, none, .box (.t 0)⟩,
  ⟨some 4, none, .mov (.c (.b false))⟩,
  ⟨some 5, none, .mov (.c (.i .i64 0))⟩]
def r41_1 : List O := [⟨some 7, none, .ldn 2 (.t 2)⟩,
  ⟨some 8, none, .mov (.t 1)⟩,
  ⟨some 9, none, .call (.f 82) [(.t 7), (.t 8)]⟩,
  ⟨some 6, none, .mov (.t 9)⟩]
def r41_2 : List O := [⟨some 10, none, .mov (.t 6)⟩,
  ⟨some 11, none, .bin .neq (.t 10) (.c (.i .i64 0))⟩]
def r41_3 : List O := [⟨some 12, none, .mov (.t 6)⟩,
  ⟨some 4, none, .mov (.c (.b false))⟩,
  ⟨some 5, none, .mov (.t 12)⟩]
def r41_4 : List O := [⟨some 13, none, .ldn 2 (.t 2)⟩,
  ⟨some 14, none, .call (.f 71) [(.t 13)]⟩,
  ⟨some 6, none, .mov (.t 14)⟩]
def r41_5 : List O := [⟨some 15, none, .mov (.t 6)⟩,
  ⟨some 16, none, .bin .neq (.t 15) (.c (.i .i64 0))⟩]
def r41_6 : List O := [⟨some 17, none, .mov (.t 6)⟩,
  ⟨some 4, none, .mov (.c (.b false))⟩,
  ⟨some 5, none, .mov (.t 17)⟩]
def r41_7 : List O := [⟨some 18, none, .ldn 2 (.t 2)⟩,
  ⟨some 19, none, .mov (.t 1)⟩,
  ⟨some 20, none, .call (.f 83) [(.t 18), (.t 19)]⟩,
  ⟨some 21, none, .ldn 2 (.t 2)⟩,
  ⟨some 22, none, .call (.f 77) [(.t 21)]⟩,
  ⟨some 23, none, .bin .eql (.t 20) (.t 22)⟩,
  ⟨some 4, none, .mov (.t 23)⟩,
  ⟨some 5, none, .mov (.c (.i .i64 0))⟩]
/-- sennet.sennetref04.Best -/
def a41 : FI := ⟨24, [.tmp 4, .tmp 5], .seq (.ops r41_0) (.seq (.ops r41_1) (.seq (.seq (.ops r41_2) (.cond (.t 11) (.seq (.ops r41_3) (.ret)) (.skip))) (.seq (.ops r41_4) (.seq (.seq (.ops r41_5) (.cond (.t 16) (.seq (.ops r41_6) (.ret)) (.skip))) (.seq (.draw r41_7 [(2, 3)]) (.ret))))))⟩
def r42_0 : List O := [⟨some 6, none, .mov (.c (.sn))⟩,
  ⟨some 7, none, .mov (.c (.i .i64 0))⟩]
def r42_1 : List O := [⟨some 14, none, .mov (.t 1)⟩,
  ⟨some 15, none, .bin .lss (.t 14) (.c (.i .i64 0))⟩,
  ⟨some 16, none, .mov (.t 15)⟩,
  ⟨some 17, some (16, false), .mov (.t 1)⟩,
  ⟨some 18, some (16, false), .bin .gtr (.t 17) (.c (.i .i64 200))⟩,
  ⟨some 19, none, .pick (.t 16) (.c (.b true)) (.t 18)⟩]
def r42_2 : List O := [⟨some 6, none, .mov (.c (.sn))⟩,
  ⟨some 7, none, .mov (.c (.i .i64 1))⟩]
def r42_3 : List O := [⟨some 21, none, .mov (.t 0)⟩,
  ⟨some 22, none, .bin .eql (.t 21) (.c (.i .u8 1))⟩,
  ⟨some 23, none, .mov (.t 22)⟩,
  ⟨some 24, some (23, true), .mov (.t 2)⟩,
  ⟨some 25, some (23, true), .bin .eql (.t 24) (.c (.i .i64 0))⟩,
  ⟨some 26, none, .pick (.t 23) (.t 25) (.c (.b false))⟩,
  ⟨some 20, none, .mov (.t 26)⟩]
def r42_4 : List O := [⟨some 27, none, .mov (.t 1)⟩,
  ⟨some 28, none, .call (.f 90) [(.t 27)]⟩,
  ⟨some 29, none, .call (.f 89) [(.c (.i .i64 0)), (.t 28)]⟩,
  ⟨some 6, none, .mov (.t 29)⟩,
  ⟨some 7, none, .mov (.c (.i .i64 0))⟩]
def r42_5 : List O := [⟨some 31, none, .mov (.t 0)⟩,
  ⟨some 32, none, .bin .eql (.t 31) (.c (.i .u8 2))⟩,
  ⟨some 33, none, .mov (.t 32)⟩,
  ⟨some 34, some (33, true), .mov (.t 2)⟩,
  ⟨some 35, some (33, true), .bin .geq (.t 34) (.c (.i .i64 1))⟩,
  ⟨some 36, none, .pick (.t 33) (.t 35) (.c (.b false))⟩,
  ⟨some 37, none, .mov (.t 36)⟩,
  ⟨some 38, some (37, true), .mov (.t 2)⟩,
  ⟨some 39, some (37, true), .bin .leq (.t 38) (.c (.i .i64 200))⟩,
  ⟨some 40, none, .pick (.t 37) (.t 39) (.c (.b false))⟩,
  ⟨some 30, none, .mov (.t 40)⟩]
def r42_6 : List O := [⟨some 8, none, .mov (.c (.sn))⟩]
def r42_7 : List O := [⟨some 9, none, .mov (.c (.i .i64 0))⟩]
def r42_8 : List O := [⟨some 41, none, .mov (.t 9)⟩,
  ⟨some 42, none, .mov (.t 2)⟩,
  ⟨some 43, none, .bin .mul (.t 41) (.t 42)⟩,
  ⟨some 44, none, .mov (.t 1)⟩,
  ⟨some 45, none, .bin .lss (.t 43) (.t 44)⟩]
def r42_10 : List O := [⟨some 48, none, .mov (.t 8)⟩,
  ⟨some 49, none, .mov (.t 9)⟩,
  ⟨some 50, none, .mov (.t 2)⟩,
  ⟨some 51, none, .mov (.t 1)⟩,
  ⟨some 52, none, .mov (.t 9)⟩,
  ⟨some 53, none, .mov (.t 2)⟩,
  ⟨some 54, none, .bin .mul (.t 52) (.t 53)⟩,
  ⟨some 55, none, .bin .sub (.t 51) (.t 54)⟩,
  ⟨some 56, none, .min [(.t 50), (.t 55)]⟩,
  ⟨some 57, none, .call (.f 91) [(.t 56)]⟩,
  ⟨some 58, none, .call (.f 89) [(.t 49), (.t 57)]⟩,
  ⟨some 59, none, .buildSl [.sn] 1 [(0, 1, (.t 58))]⟩,
  ⟨some 60, none, .app 1 24 (.t 48) (.t 59)⟩,
  ⟨some 8, none, .mov (.t 60)⟩]
def r42_9 : List O := [⟨some 46, none, .mov (.t 9)⟩,
  ⟨some 47, none, .bin .add (.t 46) (.c (.i .i64 1))⟩,
  ⟨some 9, none, .mov (.t 47)⟩]
def b42_0 : C := .seq (.seq (.ops r42_8) (.cond (.t 45) (.skip) (.exit 1))) (.seq (.block 2 (.ops r42_10)) (.ops r42_9))
def r42_11 : List O := [⟨some 61, none, .mov (.t 8)⟩,
  ⟨some 62, none, .call (.f 92) [(.t 61)]⟩,
  ⟨some 6, none, .mov (.t 62)⟩,
  ⟨some 7, none, .mov (.c (.i .i64 0))⟩]
def r42_12 : List O := [⟨some 64, none, .mov (.t 0)⟩,
  ⟨some 65, none, .bin .eql (.t 64) (.c (.i .u8 3))⟩,
  ⟨some 66, none, .mov (.t 65)⟩,
  ⟨some 67, some (66, true), .mov (.t 2)⟩,
  ⟨some 68, some (66, true), .bin .eql (.t 67) (.c (.i .i64 0))⟩,
  ⟨some 69, none, .pick (.t 66) (.t 68) (.c (.b false))⟩,
  ⟨some 63, none, .mov (.t 69)⟩]
def r42_13 : List O := [⟨some 70, none, .mov (.t 1)⟩,
  ⟨some 71, none, .call (.f 91) [(.t 70)]⟩,
  ⟨some 72, none, .call (.f 89) [(.c (.i .i64 0)), (.t 71)]⟩,
  ⟨some 6, none, .mov (.t 72)⟩,
  ⟨some 7, none, .mov (.c (.i .i64 0))⟩]
def r42_14 : List O := [⟨some 74, none, .mov (.t 0)⟩,
  ⟨some 75, none, .bin .eql (.t 74) (.c (.i .u8 3))⟩,
  ⟨some 76, none, .mov (.t 75)⟩,
  ⟨some 77, some (76, true), .mov (.t 2)⟩,
  ⟨some 78, some (76, true), .bin .eql (.t 77) (.c (.i .i64 1))⟩,
  ⟨some 79, none, .pick (.t 76) (.t 78) (.c (.b false))⟩,
  ⟨some 73, none, .mov (.t 79)⟩]
def r42_15 : List O := [⟨some 80, none, .mov (.t 1)⟩,
  ⟨some 81, none, .call (.f 90) [(.t 80)]⟩,
  ⟨some 82, none, .call (.f 89) [(.c (.i .i64 0)), (.t 81)]⟩,
  ⟨some 6, none, .mov (.t 82)⟩,
  ⟨some 7, none, .mov (.c (.i .i64 0))⟩]
def r42_16 : List O := [⟨some 84, none, .mov (.t 0)⟩,
  ⟨some 85, none, .bin .eql (.t 84) (.c (.i .u8 3))⟩,
  ⟨some 86, none, .mov (.t 85)⟩,
  ⟨some 87, some (86, true), .mov (.t 2)⟩,
  ⟨some 88, some (86, true), .bin .eql (.t 87) (.c (.i .i64 2))⟩,
  ⟨some 89, none, .pick (.t 86) (.t 88) (.c (.b false))⟩,
  ⟨some 83, none, .mov (.t 89)⟩]
def r42_17 : List O := [⟨some 90, none, .mov (.t 1)⟩,
  ⟨some 91, none, .call (.f 90) [(.t 90)]⟩,
  ⟨some 10, none, .mov (.t 91)⟩]
def r42_18 : List O := [⟨some 92, none, .mov (.t 10)⟩,
  ⟨some 93, none, .call (.f 93) [(.t 92)]⟩]
def r42_19 : List O := [⟨some 94, none, .mov (.t 10)⟩,
  ⟨some 95, none, .call (.f 89) [(.c (.i .i64 0)), (.t 94)]⟩,
  ⟨some 6, none, .mov (.t 95)⟩,
  ⟨some 7, none, .mov (.c (.i .i64 0))⟩]
def r42_20 : List O := [⟨some 97, none, .mov (.t 0)⟩,
  ⟨some 98, none, .bin .eql (.t 97) (.c (.i .u8 4))⟩,
  ⟨some 99, none, .mov (.t 98)⟩,
  ⟨some 100, some (99, true), .mov (.t 2)⟩,
  ⟨some 101, some (99, true), .bin .eql (.t 100) (.c (.i .i64 0))⟩,
  ⟨some 102, none, .pick (.t 99) (.t 101) (.c (.b false))⟩,
  ⟨some 96, none, .mov (.t 102)⟩]
def r42_21 : List O := [⟨some 103, none, .mov (.t 1)⟩,
  ⟨some 104, none, .mov (.t 1)⟩,
  ⟨some 105, none, .bin .quo (.t 104) (.c (.i .i64 2))⟩,
  ⟨some 106, none, .bin .sub (.t 103) (.t 105)⟩,
  ⟨some 107, none, .call (.f 91) [(.t 106)]⟩,
  ⟨some 108, none, .mov (.t 1)⟩,
  ⟨some 109, none, .bin .quo (.t 108) (.c (.i .i64 2))⟩,
  ⟨some 110, none, .call (.f 91) [(.t 109)]⟩,
  ⟨some 111, none, .build [.sn, .sn] [(0, 1, (.t 107)), (1, 1, (.t 110))]⟩,
  ⟨some 11, none, .alloc [.sn, .sn]⟩,
  ⟨none, none, .st 2 (.t 11) (.t 111)⟩]
def r42_22 : List O := [⟨some 12, none, .mov (.c (.sn))⟩]
def r42_23 : List O := [⟨some 112, none, .mov (.t 1)⟩,
  ⟨some 113, none, .mov (.c (.i .i64 0))⟩]
def r42_24 : List O := [⟨some 114, none, .bin .lss (.t 113) (.t 112)⟩]
def r42_25 : List O := [⟨some 115, none, .mov (.t 113)⟩,
  ⟨some 13, none, .mov (.t 115)⟩]
def r42_26 : List O := [⟨some 116, none, .mov (.t 12)⟩,
  ⟨some 117, none, .mov (.t 13)⟩,
  ⟨some 118, none, .bin .rem (.t 117) (.c (.i .i64 2))⟩,
  ⟨some 119, none, .mov (.t 13)⟩,
  ⟨some 120, none, .bin .rem (.t 119) (.c (.i .i64 2))⟩,
  ⟨some 121, none, .ixA 2 1 (.t 11) (.t 120)⟩,
  ⟨some 122, none, .ld (.t 121)⟩,
  ⟨some 123, none, .mov (.t 13)⟩,
  ⟨some 124, none, .bin .quo (.t 123) (.c (.i .i64 2))⟩,
  ⟨some 125, none, .ixS 1 (.t 122) (.t 124)⟩,
  ⟨some 126, none, .ld (.t 125)⟩,
  ⟨some 127, none, .build [.i .i64 0, .i .i64 0] [(0, 1, (.t 118)), (1, 1, (.t 126))]⟩,
  ⟨some 128, none, .buildSl [.i .i64 0, .i .i64 0] 1 [(0, 2, (.t 127))]⟩,
  ⟨some 129, none, .app 2 16 (.t 116) (.t 128)⟩,
  ⟨some 12, none, .mov (.t 129)⟩]
def r42_27 : List O := [⟨some 130, none, .bin .add (.t 113) (.c (.i .i64 1))⟩,
  ⟨some 113, none, .mov (.t 130)⟩]
def b42_1 : C := .seq (.ops r42_24) (.seq (.cond (.t 114) (.skip) (.exit 3)) (.seq (.block 4 (.seq (.ops r42_25) (.ops r42_26))) (.ops r42_27)))
def r42_28 : List O := [⟨some 131, none, .mov (.t 12)⟩,
  ⟨some 6, none, .mov (.t 131)⟩,
  ⟨some 7, none, .mov (.c (.i .i64 0))⟩]
def r42_29 : List O := [⟨some 6, none, .mov (.c (.sn))⟩,
  ⟨some 7, none, .mov (.c (.i .i64 1))⟩]
/-- sennet.rows.Spots -/
def a42 : FI := ⟨132, [.tmp 6, .tmp 7], .seq (.ops r42_0) (.seq (.seq (.ops r42_1) (.cond (.t 19) (.seq (.ops r42_2) (.ret)) (.skip))) (.seq (.block 0 (.seq (.ops r42_3) (.cond (.t 20) (.seq (.ops r42_4) (.ret)) (.seq (.ops r42_5) (.cond (.t 30) (.seq (.ops r42_6) (.seq (.seq (.ops r42_7) (.block 1 (.loop b42_0))) (.seq (.ops r42_11) (.ret)))) (.seq (.ops r42_12) (.cond (.t 63) (.seq (.ops r42_13) (.ret)) (.seq (.ops r42_14) (.cond (.t 73) (.seq (.ops r42_15) (.ret)) (.seq (.ops r42_16) (.cond (.t 83) (.seq (.ops r42_17) (.seq (.ops r42_18) (.seq (.ops r42_19) (.ret)))) (.seq (.ops r42_20) (.cond (.t 96) (.seq (.ops r42_21) (.seq (.ops r42_22) (.seq (.seq (.ops r42_23) (.block 3 (.loop b42_1))) (.seq (.ops r42_28) (.ret))))) (.skip)))))))))))))) (.seq (.ops r42_29) (.ret))))⟩
def r43_0 : List O := [⟨some 6, none, .mov (.c (.sn))⟩,
  ⟨some 7, none, .mov (.c (.i .i64 0))⟩]
def r43_1 : List O := [⟨some 18, none, .mov (.t 1)⟩,
  ⟨some 19, none, .bin .lss (.t 18) (.c (.i .i64 0))⟩,
  ⟨some 20, none, .mov (.t 19)⟩,
  ⟨some 21, some (20, false), .mov (.t 1)⟩,
  ⟨some 22, some (20, false), .bin .gtr (.t 21) (.c (.i .i64 200))⟩,
  ⟨some 23, none, .pick (.t 20) (.c (.b true)) (.t 22)⟩]
def r43_2 : List O := [⟨some 6, none, .mov (.c (.sn))⟩,
  ⟨some 7, none, .mov (.c (.i .i64 1))⟩]
def r43_3 : List O := [⟨some 8, none, .mov (.c (.sn))⟩]
def r43_5 : List O := [⟨some 25, none, .mov (.t 0)⟩,
  ⟨some 26, none, .bin .eql (.t 25) (.c (.i .u8 1))⟩,
  ⟨some 27, none, .mov (.t 26)⟩,
  ⟨some 28, some (27, true), .mov (.t 2)⟩,
  ⟨some 29, some (27, true), .bin .eql (.t 28) (.c (.i .i64 0))⟩,
  ⟨some 30, none, .pick (.t 27) (.t 29) (.c (.b false))⟩,
  ⟨some 24, none, .mov (.t 30)⟩]
def r43_6 : List O := [⟨some 9, none, .mov (.c (.i .i64 0))⟩]
def r43_7 : List O := [⟨some 31, none, .mov (.t 9)⟩,
  ⟨some 32, none, .mov (.t 1)⟩,
  ⟨some 33, none, .bin .lss (.t 31) (.t 32)⟩]
def r43_9 : List O := [⟨some 36, none, .mov (.t 8)⟩,
  ⟨some 37, none, .mov (.t 9)⟩,
  ⟨some 38, none, .build [.i .i64 0, .i .i64 0] [(1, 1, (.t 37))]⟩,
  ⟨some 39, none, .buildSl [.i .i64 0, .i .i64 0] 1 [(0, 2, (.t 38))]⟩,
  ⟨some 40, none, .app 2 16 (.t 36) (.t 39)⟩,
  ⟨some 8, none, .mov (.t 40)⟩]
def r43_8 : List O := [⟨some 34, none, .mov (.t 9)⟩,
  ⟨some 35, none, .bin .add (.t 34) (.c (.i .i64 1))⟩,
  ⟨some 9, none, .mov (.t 35)⟩]
def b43_0 : C := .seq (.seq (.ops r43_7) (.cond (.t 33) (.skip) (.exit 1))) (.seq (.block 2 (.ops r43_9)) (.ops r43_8))
def r43_10 : List O := [⟨some 42, none, .mov (.t 0)⟩,
  ⟨some 43, none, .bin .eql (.t 42) (.c (.i .u8 2))⟩,
  ⟨some 44, none, .mov (.t 43)⟩,
  ⟨some 45, some (44, true), .mov (.t 2)⟩,
  ⟨some 46, some (44, true), .bin .geq (.t 45) (.c (.i .i64 1))⟩,
  ⟨some 47, none, .pick (.t 44) (.t 46) (.c (.b false))⟩,
  ⟨some 48, none, .mov (.t 47)⟩,
  ⟨some 49, some (48, true), .mov (.t 2)⟩,
  ⟨some 50, some (48, true), .bin .leq (.t 49) (.c (.i .i64 200))⟩,
  ⟨some 51, none, .pick (.t 48) (.t 50) (.c (.b false))⟩,
  ⟨some 41, none, .mov (.t 51)⟩]
def r43_11 : List O := [⟨some 10, none, .mov (.c (.i .i64 0))⟩]
def r43_12 : List O := [⟨some 52, none, .mov (.t 10)⟩,
  ⟨some 53, none, .mov (.t 2)⟩,
  ⟨some 54, none, .bin .mul (.t 52) (.t 53)⟩,
  ⟨some 55, none, .mov (.t 1)⟩,
  ⟨some 56, none, .bin .lss (.t 54) (.t 55)⟩]
def r43_14 : List O := [⟨some 59, none, .mov (.t 2)⟩,
  ⟨some 60, none, .mov (.t 1)⟩,
  ⟨some 61, none, .mov (.t 10)⟩,
  ⟨some 62, none, .mov (.t 2)⟩,
  ⟨some 63, none, .bin .mul (.t 61) (.t 62)⟩,
  ⟨some 64, none, .bin .sub (.t 60) (.t 63)⟩,
  ⟨some 65, none, .min [(.t 59), (.t 64)]⟩,
  ⟨some 66, none, .call (.f 94) [(.t 65)]⟩,
  ⟨some 11, none, .mov (.t 66)⟩]
def r43_15 : List O := [⟨some 12, none, .mov (.c (.i .i64 0))⟩]
def r43_16 : List O := [⟨some 67, none, .mov (.t 12)⟩,
  ⟨some 68, none, .mov (.t 11)⟩,
  ⟨some 69, none, .lenL (.t 68)⟩,
  ⟨some 70, none, .bin .lss (.t 67) (.t 69)⟩]
def r43_18 : List O := [⟨some 73, none, .mov (.t 8)⟩,
  ⟨some 74, none, .mov (.t 10)⟩,
  ⟨some 75, none, .mov (.t 11)⟩,
  ⟨some 76, none, .mov (.t 12)⟩,
  ⟨some 77, none, .ixS 1 (.t 75) (.t 76)⟩,
  ⟨some 78, none, .ld (.t 77)⟩,
  ⟨some 79, none, .build [.i .i64 0, .i .i64 0] [(0, 1, (.t 74)), (1, 1, (.t 78))]⟩,
  ⟨some 80, none, .buildSl [.i .i64 0, .i .i64 0] 1 [(0, 2, (.t 79))]⟩,
  ⟨some 81, none, .app 2 16 (.t 73) (.t 80)⟩,
  ⟨some 8, none, .mov (.t 81)⟩]
def r43_17 : List O := [⟨some 71, none, .mov (.t 12)⟩,
  ⟨some 72, none, .bin .add (.t 71) (.c (.i .i64 1))⟩,
  ⟨some 12, none, .mov (.t 72)⟩]
def b43_1 : C := .seq (.seq (.ops r43_16) (.cond (.t 70) (.skip) (.exit 5))) (.seq (.block 6 (.ops r43_18)) (.ops r43_17))
def r43_13 : List O := [⟨some 57, none, .mov (.t 10)⟩,
  ⟨some 58, none, .bin .add (.t 57) (.c (.i .i64 1))⟩,
  ⟨some 10, none, .mov (.t 58)⟩]
def b43_2 : C := .seq (.seq (.ops r43_12) (.cond (.t 56) (.skip) (.exit 3))) (.seq (.block 4 (.seq (.ops r43_14) (.seq (.ops r43_15) (.block 5 (.loop b43_1))))) (.ops r43_13))
def r43_19 : List O := [⟨some 83, none, .mov (.t 0)⟩,
  ⟨some 84, none, .bin .eql (.t 83) (.c (.i .u8 3))⟩,
  ⟨some 85, none, .mov (.t 84)⟩,
  ⟨some 86, some (85, true), .mov (.t 2)⟩,
  ⟨some 87, some (85, true), .bin .geq (.t 86) (.c (.i .i64 0))⟩,
  ⟨some 88, none, .pick (.t 85) (.t 87) (.c (.b false))⟩,
  ⟨some 89, none, .mov (.t 88)⟩,
  ⟨some 90, some (89, true), .mov (.t 2)⟩,
  ⟨some 91, some (89, true), .bin .leq (.t 90) (.c (.i .i64 2))⟩,
  ⟨some 92, none, .pick (.t 89) (.t 91) (.c (.b false))⟩,
  ⟨some 82, none, .mov (.t 92)⟩]
def r43_20 : List O := [⟨some 93, none, .mov (.t 1)⟩,
  ⟨some 94, none, .call (.f 94) [(.t 93)]⟩,
  ⟨some 13, none, .mov (.t 94)⟩]
def r43_21 : List O := [⟨some 14, none, .mov (.c (.i .i64 0))⟩]
def r43_22 : List O := [⟨some 95, none, .mov (.t 14)⟩,
  ⟨some 96, none, .mov (.t 1)⟩,
  ⟨some 97, none, .bin .lss (.t 95) (.t 96)⟩]
def r43_24 : List O := [⟨some 100, none, .mov (.t 13)⟩,
  ⟨some 101, none, .mov (.t 14)⟩,
  ⟨some 102, none, .ixS 1 (.t 100) (.t 101)⟩,
  ⟨some 103, none, .ld (.t 102)⟩,
  ⟨some 15, none, .mov (.t 103)⟩]
def r43_25 : List O := [⟨some 104, none, .mov (.t 2)⟩,
  ⟨some 105, none, .bin .eql (.t 104) (.c (.i .i64 1))⟩]
def r43_26 : List O := [⟨some 106, none, .mov (.t 14)⟩,
  ⟨some 15, none, .mov (.t 106)⟩]
def r43_27 : List O := [⟨some 107, none, .mov (.t 2)⟩,
  ⟨some 108, none, .bin .eql (.t 107) (.c (.i .i64 2))⟩]
def r43_28 : List O := [⟨some 109, none, .mov (.t 1)⟩,
  ⟨some 110, none, .bin .sub (.t 109) (.c (.i .i64 1))⟩,
  ⟨some 111, none, .mov (.t 14)⟩,
  ⟨some 112, none, .bin .sub (.t 110) (.t 111)⟩,
  ⟨some 15, none, .mov (.t 112)⟩]
def r43_29 : List O := [⟨some 113, none, .mov (.t 8)⟩,
  ⟨some 114, none, .mov (.t 15)⟩,
  ⟨some 115, none, .build [.i .i64 0, .i .i64 0] [(1, 1, (.t 114))]⟩,
  ⟨some 116, none, .buildSl [.i .i64 0, .i .i64 0] 1 [(0, 2, (.t 115))]⟩,
  ⟨some 117, none, .app 2 16 (.t 113) (.t 116)⟩,
  ⟨some 8, none, .mov (.t 117)⟩]
def r43_23 : List O := [⟨some 98, none, .mov (.t 14)⟩,
  ⟨some 99, none, .bin .add (.t 98) (.c (.i .i64 1))⟩,
  ⟨some 14, none, .mov (.t 99)⟩]
def b43_3 : C := .seq (.seq (.ops r43_22) (.cond (.t 97) (.skip) (.exit 7))) (.seq (.block 8 (.seq (.ops r43_24) (.seq (.seq (.ops r43_25) (.cond (.t 105) (.ops r43_26) (.skip))) (.seq (.seq (.ops r43_27) (.cond (.t 108) (.ops r43_28) (.skip))) (.ops r43_29))))) (.ops r43_23))
def r43_30 : List O := [⟨some 119, none, .mov (.t 0)⟩,
  ⟨some 120, none, .bin .eql (.t 119) (.c (.i .u8 4))⟩,
  ⟨some 121, none, .mov (.t 120)⟩,
  ⟨some 122, some (121, true), .mov (.t 2)⟩,
  ⟨some 123, some (121, true), .bin .eql (.t 122) (.c (.i .i64 0))⟩,
  ⟨some 124, none, .pick (.t 121) (.t 123) (.c (.b false))⟩,
  ⟨some 118, none, .mov (.t 124)⟩]
def r43_31 : List O := [⟨some 125, none, .mov (.t 1)⟩,
  ⟨some 126, none, .bin .add (.t 125) (.c (.i .i64 1))⟩,
  ⟨some 127, none, .bin .quo (.t 126) (.c (.i .i64 2))⟩,
  ⟨some 128, none, .call (.f 94) [(.t 127)]⟩,
  ⟨some 129, none, .mov (.t 1)⟩,
  ⟨some 130, none, .bin .quo (.t 129) (.c (.i .i64 2))⟩,
  ⟨some 131, none, .call (.f 94) [(.t 130)]⟩,
  ⟨some 132, none, .build [.sn, .sn] [(0, 1, (.t 128)), (1, 1, (.t 131))]⟩,
  ⟨some 16, none, .alloc [.sn, .sn]⟩,
  ⟨none, none, .st 2 (.t 16) (.t 132)⟩]
def r43_32 : List O := [⟨some 17, none, .mov (.c (.i .i64 0))⟩]
def r43_33 : List O := [⟨some 133, none, .mov (.t 17)⟩,
  ⟨some 134, none, .mov (.t 1)⟩,
  ⟨some 135, none, .bin .lss (.t 133) (.t 134)⟩]
def r43_35 : List O := [⟨some 138, none, .mov (.t 8)⟩,
  ⟨some 139, none, .mov (.t 17)⟩,
  ⟨some 140, none, .bin .rem (.t 139) (.c (.i .i64 2))⟩,
  ⟨some 141, none, .mov (.t 17)⟩,
  ⟨some 142, none, .bin .rem (.t 141) (.c (.i .i64 2))⟩,
  ⟨some 143, none, .ixA 2 1 (.t 16) (.t 142)⟩,
  ⟨some 144, none, .ld (.t 143)⟩,
  ⟨some 145, none, .mov (.t 17)⟩,
  ⟨some 146, none, .bin .quo (.t 145) (.c (.i .i64 2))⟩,
  ⟨some 147, none, .ixS 1 (.t 144) (.t 146)⟩,
  ⟨some 148, none, .ld (.t 147)⟩,
  ⟨some 149, none, .build [.i .i64 0, .i .i64 0] [(0, 1, (.t 140)), (1, 1, (.t 148))]⟩,
  ⟨some 150, none, .buildSl [.i .i64 0, .i .i64 0] 1 [(0, 2, (.t 149))]⟩,
  ⟨some 151, none, .app 2 16 (.t 138) (.t 150)⟩,
  ⟨some 8, none, .mov (.t 151)⟩]
def r43_34 : List O := [⟨some 136, none, .mov (.t 17)⟩,
  ⟨some 137, none, .bin .add (.t 136) (.c (.i .i64 1))⟩,
  ⟨some 17, none, .mov (.t 137)⟩]
def b43_4 : C := .seq (.seq (.ops r43_33) (.cond (.t 135) (.skip) (.exit 9))) (.seq (.block 10 (.ops r43_35)) (.ops r43_34))
def r43_4 : List O := [⟨some 6, none, .mov (.c (.sn))⟩,
  ⟨some 7, none, .mov (.c (.i .i64 1))⟩]
def r43_36 : List O := [⟨some 152, none, .mov (.t 8)⟩,
  ⟨some 6, none, .mov (.t 152)⟩,
  ⟨some 7, none, .mov (.c (.i .i64 0))⟩]
/-- sennet.sennetref04.Spots -/
def a43 : FI := ⟨153, [.tmp 6, .tmp 7], .seq (.ops r43_0) (.seq (.seq (.ops r43_1) (.cond (.t 23) (.seq (.ops r43_2) (.ret)) (.skip))) (.seq (.ops r43_3) (.seq (.block 0 (.seq (.ops r43_5) (.cond (.t 24) (.seq (.ops r43_6) (.block 1 (.loop b43_0))) (.seq (.ops r43_10) (.cond (.t 41) (.seq (.ops r43_11) (.block 3 (.loop b43_2))) (.seq (.ops r43_19) (.cond (.t 82) (.seq (.ops r43_20) (.seq (.ops r43_21) (.block 7 (.loop b43_3)))) (.seq (.ops r43_30) (.cond (.t 118) (.seq (.ops r43_31) (.seq (.ops r43_32) (.block 9 (.loop b43_4)))) (.seq (.ops r43_4) (.ret))))))))))) (.seq (.ops r43_36) (.ret)))))⟩
def r44_0 : List O := [⟨some 7, none, .box (.t 3)⟩,
  ⟨some 8, none, .mov (.c (.i .i64 0))⟩,
  ⟨some 9, none, .mov (.c (.i .i64 0))⟩]
def r44_1 : List O := [⟨some 14, none, .mov (.t 0)⟩,
  ⟨some 15, none, .mov (.t 1)⟩,
  ⟨some 16, none, .mov (.t 2)⟩,
  ⟨some 17, none, .call (.f 42) [(.t 14), (.t 15), (.t 16)]⟩,
  ⟨some 13, none, .mov (.t 17)⟩,
  ⟨some 18, none, .ext (.t 13) 0⟩,
  ⟨some 19, none, .ext (.t 13) 1⟩,
  ⟨some 10, none, .mov (.t 18)⟩,
  ⟨some 11, none, .mov (.t 19)⟩]
def r44_2 : List O := [⟨some 20, none, .mov (.t 11)⟩,
  ⟨some 21, none, .bin .neq (.t 20) (.c (.i .i64 0))⟩]
def r44_3 : List O := [⟨some 22, none, .mov (.t 11)⟩,
  ⟨some 8, none, .mov (.c (.i .i64 0))⟩,
  ⟨some 9, none, .mov (.t 22)⟩]
def r44_4 : List O := [⟨some 23, none, .mov (.t 10)⟩,
  ⟨some 24, none, .mkFn 96 [] [(.t 7)]⟩,
  ⟨some 25, none, .call (.f 95) [(.t 23), (.t 24)]⟩,
  ⟨some 12, none, .mov (.t 25)⟩]
def r44_5 : List O := [⟨some 26, none, .mov (.t 12)⟩,
  ⟨some 27, none, .bin .lss (.t 26) (.c (.i .i64 0))⟩]
def r44_6 : List O := [⟨some 8, none, .mov (.c (.i .i64 0))⟩,
  ⟨some 9, none, .mov (.c (.i .i64 5))⟩]
def r44_7 : List O := [⟨some 28, none, .mov (.t 12)⟩,
  ⟨some 8, none, .mov (.t 28)⟩,
  ⟨some 9, none, .mov (.c (.i .i64 0))⟩]
/-- sennet.rows.Honour -/
def a44 : FI := ⟨29, [.tmp 8, .tmp 9], .seq (.ops r44_0) (.seq (.ops r44_1) (.seq (.seq (.ops r44_2) (.cond (.t 21) (.seq (.ops r44_3) (.ret)) (.skip))) (.seq (.ops r44_4) (.seq (.seq (.ops r44_5) (.cond (.t 27) (.seq (.ops r44_6) (.ret)) (.skip))) (.seq (.ops r44_7) (.ret))))))⟩
def r45_0 : List O := [⟨some 7, none, .box (.t 3)⟩,
  ⟨some 8, none, .mov (.c (.i .i64 0))⟩,
  ⟨some 9, none, .mov (.c (.i .i64 0))⟩]
def r45_1 : List O := [⟨some 14, none, .mov (.t 0)⟩,
  ⟨some 15, none, .mov (.t 1)⟩,
  ⟨some 16, none, .mov (.t 2)⟩,
  ⟨some 17, none, .call (.f 43) [(.t 14), (.t 15), (.t 16)]⟩,
  ⟨some 13, none, .mov (.t 17)⟩,
  ⟨some 18, none, .ext (.t 13) 0⟩,
  ⟨some 19, none, .ext (.t 13) 1⟩,
  ⟨some 10, none, .mov (.t 18)⟩,
  ⟨some 11, none, .mov (.t 19)⟩]
def r45_2 : List O := [⟨some 20, none, .mov (.t 11)⟩,
  ⟨some 21, none, .bin .neq (.t 20) (.c (.i .i64 0))⟩]
def r45_3 : List O := [⟨some 22, none, .mov (.t 11)⟩,
  ⟨some 8, none, .mov (.c (.i .i64 0))⟩,
  ⟨some 9, none, .mov (.t 22)⟩]
def r45_4 : List O := [⟨some 12, none, .mov (.c (.i .i64 0))⟩]
def r45_5 : List O := [⟨some 23, none, .mov (.t 12)⟩,
  ⟨some 24, none, .mov (.t 10)⟩,
  ⟨some 25, none, .lenL (.t 24)⟩,
  ⟨some 26, none, .bin .lss (.t 23) (.t 25)⟩]
def r45_7 : List O := [⟨some 29, none, .mov (.t 10)⟩,
  ⟨some 30, none, .mov (.t 12)⟩,
  ⟨some 31, none, .ixS 2 (.t 29) (.t 30)⟩,
  ⟨some 32, none, .ldn 2 (.t 31)⟩,
  ⟨some 33, none, .ldn 2 (.t 7)⟩,
  ⟨some 34, none, .eqv false (.agg [.i .i64, .i .i64]) (.t 32) (.t 33)⟩]
def r45_8 : List O := [⟨some 35, none, .mov (.t 12)⟩,
  ⟨some 8, none, .mov (.t 35)⟩,
  ⟨some 9, none, .mov (.c (.i .i64 0))⟩]
def r45_6 : List O := [⟨some 27, none, .mov (.t 12)⟩,
  ⟨some 28, none, .bin .add (.t 27) (.c (.i .i64 1))⟩,
  ⟨some 12, none, .mov (.t 28)⟩]
def b45_0 : C := .seq (.seq (.ops r45_5) (.cond (.t 26) (.skip) (.exit 0))) (.seq (.block 1 (.seq (.draw r45_7 []) (.cond (.t 34) (.seq (.ops r45_8) (.ret)) (.skip)))) (.ops r45_6))
def r45_9 : List O := [⟨some 8, none, .mov (.c (.i .i64 0))⟩,
  ⟨some 9, none, .mov (.c (.i .i64 5))⟩]
/-- sennet.sennetref04.Honour -/
def a45 : FI := ⟨36, [.tmp 8, .tmp 9], .seq (.ops r45_0) (.seq (.ops r45_1) (.seq (.seq (.ops r45_2) (.cond (.t 21) (.seq (.ops r45_3) (.ret)) (.skip))) (.seq (.seq (.ops r45_4) (.block 0 (.loop b45_0))) (.seq (.ops r45_9) (.ret)))))⟩
def r46_0 : List O := [⟨some 4, none, .mov (.c (.b false))⟩]
def r46_1 : List O := [⟨some 6, none, .mov (.t 0)⟩,
  ⟨some 7, none, .lenL (.t 6)⟩,
  ⟨some 8, none, .mov (.t 1)⟩,
  ⟨some 9, none, .lenL (.t 8)⟩,
  ⟨some 10, none, .bin .neq (.t 7) (.t 9)⟩]
def r46_2 : List O := [⟨some 4, none, .mov (.c (.b false))⟩]
def r46_3 : List O := [⟨some 5, none, .mov (.c (.i .i64 0))⟩]
def r46_4 : List O := [⟨some 11, none, .mov (.t 5)⟩,
  ⟨some 12, none, .mov (.t 0)⟩,
  ⟨some 13, none, .lenL (.t 12)⟩,
  ⟨some 14, none, .bin .lss (.t 11) (.t 13)⟩]
def r46_6 : List O := [⟨some 17, none, .mov (.t 0)⟩,
  ⟨some 18, none, .mov (.t 5)⟩,
  ⟨some 19, none, .ixS 2 (.t 17) (.t 18)⟩,
  ⟨some 20, none, .ldn 2 (.t 19)⟩,
  ⟨some 21, none, .mov (.t 1)⟩,
  ⟨some 22, none, .mov (.t 5)⟩,
  ⟨some 23, none, .ixS 2 (.t 21) (.t 22)⟩,
  ⟨some 24, none, .ldn 2 (.t 23)⟩,
  ⟨some 25, none, .eqv true (.agg [.i .i64, .i .i64]) (.t 20) (.t 24)⟩]
def r46_7 : List O := [⟨some 4, none, .mov (.c (.b false))⟩]
def r46_5 : List O := [⟨some 15, none, .mov (.t 5)⟩,
  ⟨some 16, none, .bin .add (.t 15) (.c (.i .i64 1))⟩,
  ⟨some 5, none, .mov (.t 16)⟩]
def b46_0 : C := .seq (.seq (.ops r46_4) (.cond (.t 14) (.skip) (.exit 0))) (.seq (.block 1 (.seq (.draw r46_6 []) (.cond (.t 25) (.seq (.ops r46_7) (.ret)) (.skip)))) (.ops r46_5))
def r46_8 : List O := [⟨some 4, none, .mov (.c (.b true))⟩]
/-- sennet.sennetref04.SameSpots -/
def a46 : FI := ⟨26, [.tmp 4], .seq (.ops r46_0) (.seq (.seq (.ops r46_1) (.cond (.t 10) (.seq (.ops r46_2) (.ret)) (.skip))) (.seq (.seq (.ops r46_3) (.block 0 (.loop b46_0))) (.seq (.ops r46_8) (.ret))))⟩
def r47_0 : List O := [⟨some 2, none, .mov (.c (.sn))⟩]
def r47_1 : List O := [⟨some 12, none, .mkMap⟩,
  ⟨some 13, none, .mkMap⟩,
  ⟨some 3, none, .mov (.t 12)⟩,
  ⟨some 4, none, .mov (.t 13)⟩]
def r47_2 : List O := [⟨some 14, none, .mov (.t 0)⟩,
  ⟨some 15, none, .lenL (.t 14)⟩,
  ⟨some 16, none, .mov (.c (.i .i64 0))⟩]
def r47_3 : List O := [⟨some 17, none, .bin .lss (.t 16) (.t 15)⟩]
def r47_4 : List O := [⟨some 18, none, .ixS 2 (.t 14) (.t 16)⟩,
  ⟨some 19, none, .ldn 2 (.t 18)⟩,
  ⟨some 6, none, .alloc [.i .i64 0, .i .i64 0]⟩,
  ⟨none, none, .st 2 (.t 6) (.t 19)⟩]
def r47_5 : List O := [⟨some 21, none, .mov (.t 3)⟩,
  ⟨some 22, none, .fld 0 (.t 6)⟩,
  ⟨some 23, none, .ld (.t 22)⟩,
  ⟨some 24, none, .look (.sc (.i .i64)) (.i .i64 0) true (.t 21) (.t 23)⟩,
  ⟨some 20, none, .mov (.t 24)⟩,
  ⟨some 25, none, .ext (.t 20) 0⟩,
  ⟨some 26, none, .ext (.t 20) 1⟩,
  ⟨some 7, none, .mov (.t 25)⟩,
  ⟨some 8, none, .mov (.t 26)⟩]
def r47_6 : List O := [⟨some 27, none, .mov (.t 8)⟩,
  ⟨some 28, none, .un .not (.t 27)⟩]
def r47_7 : List O := [⟨some 29, none, .mov (.t 3)⟩,
  ⟨some 30, none, .fld 0 (.t 6)⟩,
  ⟨some 31, none, .ld (.t 30)⟩,
  ⟨some 32, none, .mov (.t 4)⟩,
  ⟨some 33, none, .fld 0 (.t 6)⟩,
  ⟨some 34, none, .ld (.t 33)⟩,
  ⟨some 35, none, .fld 1 (.t 6)⟩,
  ⟨some 36, none, .ld (.t 35)⟩,
  ⟨some 37, none, .fld 1 (.t 6)⟩,
  ⟨some 38, none, .ld (.t 37)⟩,
  ⟨none, none, .mapSet (.sc (.i .i64)) (.t 29) (.t 31) (.t 36)⟩,
  ⟨none, none, .mapSet (.sc (.i .i64)) (.t 32) (.t 34) (.t 38)⟩]
def r47_8 : List O := [⟨some 39, none, .mov (.t 3)⟩,
  ⟨some 40, none, .fld 0 (.t 6)⟩,
  ⟨some 41, none, .ld (.t 40)⟩,
  ⟨some 42, none, .mov (.t 4)⟩,
  ⟨some 43, none, .fld 0 (.t 6)⟩,
  ⟨some 44, none, .ld (.t 43)⟩,
  ⟨some 45, none, .mov (.t 3)⟩,
  ⟨some 46, none, .fld 0 (.t 6)⟩,
  ⟨some 47, none, .ld (.t 46)⟩,
  ⟨some 48, none, .look (.sc (.i .i64)) (.i .i64 0) false (.t 45) (.t 47)⟩,
  ⟨some 49, none, .fld 1 (.t 6)⟩,
  ⟨some 50, none, .ld (.t 49)⟩,
  ⟨some 51, none, .min [(.t 48), (.t 50)]⟩,
  ⟨some 52, none, .mov (.t 4)⟩,
  ⟨some 53, none, .fld 0 (.t 6)⟩,
  ⟨some 54, none, .ld (.t 53)⟩,
  ⟨some 55, none, .look (.sc (.i .i64)) (.i .i64 0) false (.t 52) (.t 54)⟩,
  ⟨some 56, none, .fld 1 (.t 6)⟩,
  ⟨some 57, none, .ld (.t 56)⟩,
  ⟨some 58, none, .max [(.t 55), (.t 57)]⟩,
  ⟨none, none, .mapSet (.sc (.i .i64)) (.t 39) (.t 41) (.t 51)⟩,
  ⟨none, none, .mapSet (.sc (.i .i64)) (.t 42) (.t 44) (.t 58)⟩]
def r47_9 : List O := [⟨some 59, none, .bin .add (.t 16) (.c (.i .i64 1))⟩,
  ⟨some 16, none, .mov (.t 59)⟩]
def b47_0 : C := .seq (.ops r47_3) (.seq (.cond (.t 17) (.skip) (.exit 0)) (.seq (.block 1 (.seq (.ops r47_4) (.seq (.seq (.ops r47_5) (.seq (.ops r47_6) (.cond (.t 28) (.draw r47_7 [(5, 10), (9, 10)]) (.skip)))) (.draw r47_8 [(5, 20), (18, 20)])))) (.ops r47_9)))
def r47_10 : List O := [⟨some 9, none, .mov (.c (.sn))⟩]
def r47_11 : List O := [⟨some 60, none, .mov (.t 0)⟩,
  ⟨some 61, none, .lenL (.t 60)⟩,
  ⟨some 62, none, .mov (.c (.i .i64 0))⟩]
def r47_12 : List O := [⟨some 63, none, .bin .lss (.t 62) (.t 61)⟩]
def r47_13 : List O := [⟨some 64, none, .ixS 2 (.t 60) (.t 62)⟩,
  ⟨some 65, none, .ldn 2 (.t 64)⟩,
  ⟨some 11, none, .alloc [.i .i64 0, .i .i64 0]⟩,
  ⟨none, none, .st 2 (.t 11) (.t 65)⟩]
def r47_14 : List O := [⟨some 66, none, .mov (.t 9)⟩,
  ⟨some 67, none, .fld 0 (.t 11)⟩,
  ⟨some 68, none, .ld (.t 67)⟩,
  ⟨some 69, none, .mov (.t 3)⟩,
  ⟨some 70, none, .fld 0 (.t 11)⟩,
  ⟨some 71, none, .ld (.t 70)⟩,
  ⟨some 72, none, .look (.sc (.i .i64)) (.i .i64 0) false (.t 69) (.t 71)⟩,
  ⟨some 73, none, .mov (.t 4)⟩,
  ⟨some 74, none, .fld 0 (.t 11)⟩,
  ⟨some 75, none, .ld (.t 74)⟩,
  ⟨some 76, none, .look (.sc (.i .i64)) (.i .i64 0) false (.t 73) (.t 75)⟩,
  ⟨some 77, none, .bin .add (.t 72) (.t 76)⟩,
  ⟨some 78, none, .fld 1 (.t 11)⟩,
  ⟨some 79, none, .ld (.t 78)⟩,
  ⟨some 80, none, .bin .sub (.t 77) (.t 79)⟩,
  ⟨some 81, none, .build [.i .i64 0, .i .i64 0] [(0, 1, (.t 68)), (1, 1, (.t 80))]⟩,
  ⟨some 82, none, .buildSl [.i .i64 0, .i .i64 0] 1 [(0, 2, (.t 81))]⟩,
  ⟨some 83, none, .app 2 16 (.t 66) (.t 82)⟩,
  ⟨some 9, none, .mov (.t 83)⟩]
def r47_15 : List O := [⟨some 84, none, .bin .add (.t 62) (.c (.i .i64 1))⟩,
  ⟨some 62, none, .mov (.t 84)⟩]
def b47_1 : C := .seq (.ops r47_12) (.seq (.cond (.t 63) (.skip) (.exit 2)) (.seq (.block 3 (.seq (.ops r47_13) (.ops r47_14))) (.ops r47_15)))
def r47_16 : List O := [⟨some 85, none, .mov (.t 9)⟩,
  ⟨some 2, none, .mov (.t 85)⟩]
/-- sennet.rows.Mirror -/
def a47 : FI := ⟨86, [.tmp 2], .seq (.ops r47_0) (.seq (.ops r47_1) (.seq (.seq (.ops r47_2) (.block 0 (.loop b47_0))) (.seq (.ops r47_10) (.seq (.seq (.ops r47_11) (.block 2 (.loop b47_1))) (.seq (.ops r47_16) (.ret))))))⟩
def r48_0 : List O := [⟨some 2, none, .mov (.c (.sn))⟩]
def r48_1 : List O := [⟨some 3, none, .mov (.c (.sn))⟩]
def r48_2 : List O := [⟨some 4, none, .mov (.c (.i .i64 0))⟩]
def r48_3 : List O := [⟨some 8, none, .mov (.t 4)⟩,
  ⟨some 9, none, .mov (.t 0)⟩,
  ⟨some 10, none, .lenL (.t 9)⟩,
  ⟨some 11, none, .bin .lss (.t 8) (.t 10)⟩]
def r48_5 : List O := [⟨some 14, none, .mov (.t 0)⟩,
  ⟨some 15, none, .mov (.t 4)⟩,
  ⟨some 16, none, .ixS 2 (.t 14) (.t 15)⟩,
  ⟨some 17, none, .fld 1 (.t 16)⟩,
  ⟨some 18, none, .ld (.t 17)⟩,
  ⟨some 5, none, .mov (.t 18)⟩]
def r48_6 : List O := [⟨some 19, none, .mov (.t 0)⟩,
  ⟨some 20, none, .mov (.t 4)⟩,
  ⟨some 21, none, .ixS 2 (.t 19) (.t 20)⟩,
  ⟨some 22, none, .fld 1 (.t 21)⟩,
  ⟨some 23, none, .ld (.t 22)⟩,
  ⟨some 6, none, .mov (.t 23)⟩]
def r48_7 : List O := [⟨some 7, none, .mov (.c (.i .i64 0))⟩]
def r48_8 : List O := [⟨some 24, none, .mov (.t 7)⟩,
  ⟨some 25, none, .mov (.t 0)⟩,
  ⟨some 26, none, .lenL (.t 25)⟩,
  ⟨some 27, none, .bin .lss (.t 24) (.t 26)⟩]
def r48_10 : List O := [⟨some 30, none, .mov (.t 0)⟩,
  ⟨some 31, none, .mov (.t 7)⟩,
  ⟨some 32, none, .ixS 2 (.t 30) (.t 31)⟩,
  ⟨some 33, none, .fld 0 (.t 32)⟩,
  ⟨some 34, none, .ld (.t 33)⟩,
  ⟨some 35, none, .mov (.t 0)⟩,
  ⟨some 36, none, .mov (.t 4)⟩,
  ⟨some 37, none, .ixS 2 (.t 35) (.t 36)⟩,
  ⟨some 38, none, .fld 0 (.t 37)⟩,
  ⟨some 39, none, .ld (.t 38)⟩,
  ⟨some 40, none, .bin .eql (.t 34) (.t 39)⟩]
def r48_11 : List O := [⟨some 41, none, .mov (.t 5)⟩,
  ⟨some 42, none, .mov (.t 0)⟩,
  ⟨some 43, none, .mov (.t 7)⟩,
  ⟨some 44, none, .ixS 2 (.t 42) (.t 43)⟩,
  ⟨some 45, none, .fld 1 (.t 44)⟩,
  ⟨some 46, none, .ld (.t 45)⟩,
  ⟨some 47, none, .min [(.t 41), (.t 46)]⟩,
  ⟨some 5, none, .mov (.t 47)⟩]
def r48_12 : List O := [⟨some 48, none, .mov (.t 6)⟩,
  ⟨some 49, none, .mov (.t 0)⟩,
  ⟨some 50, none, .mov (.t 7)⟩,
  ⟨some 51, none, .ixS 2 (.t 49) (.t 50)⟩,
  ⟨some 52, none, .fld 1 (.t 51)⟩,
  ⟨some 53, none, .ld (.t 52)⟩,
  ⟨some 54, none, .max [(.t 48), (.t 53)]⟩,
  ⟨some 6, none, .mov (.t 54)⟩]
def r48_9 : List O := [⟨some 28, none, .mov (.t 7)⟩,
  ⟨some 29, none, .bin .add (.t 28) (.c (.i .i64 1))⟩,
  ⟨some 7, none, .mov (.t 29)⟩]
def b48_0 : C := .seq (.seq (.ops r48_8) (.cond (.t 27) (.skip) (.exit 2))) (.seq (.block 3 (.seq (.draw r48_10 []) (.cond (.t 40) (.seq (.ops r48_11) (.ops r48_12)) (.skip)))) (.ops r48_9))
def r48_13 : List O := [⟨some 55, none, .mov (.t 3)⟩,
  ⟨some 56, none, .mov (.t 0)⟩,
  ⟨some 57, none, .mov (.t 4)⟩,
  ⟨some 58, none, .ixS 2 (.t 56) (.t 57)⟩,
  ⟨some 59, none, .fld 0 (.t 58)⟩,
  ⟨some 60, none, .ld (.t 59)⟩,
  ⟨some 61, none, .mov (.t 6)⟩,
  ⟨some 62, none, .mov (.t 5)⟩,
  ⟨some 63, none, .bin .add (.t 61) (.t 62)⟩,
  ⟨some 64, none, .mov (.t 0)⟩,
  ⟨some 65, none, .mov (.t 4)⟩,
  ⟨some 66, none, .ixS 2 (.t 64) (.t 65)⟩,
  ⟨some 67, none, .fld 1 (.t 66)⟩,
  ⟨some 68, none, .ld (.t 67)⟩,
  ⟨some 69, none, .bin .sub (.t 63) (.t 68)⟩,
  ⟨some 70, none, .build [.i .i64 0, .i .i64 0] [(0, 1, (.t 60)), (1, 1, (.t 69))]⟩,
  ⟨some 71, none, .buildSl [.i .i64 0, .i .i64 0] 1 [(0, 2, (.t 70))]⟩,
  ⟨some 72, none, .app 2 16 (.t 55) (.t 71)⟩,
  ⟨some 3, none, .mov (.t 72)⟩]
def r48_4 : List O := [⟨some 12, none, .mov (.t 4)⟩,
  ⟨some 13, none, .bin .add (.t 12) (.c (.i .i64 1))⟩,
  ⟨some 4, none, .mov (.t 13)⟩]
def b48_1 : C := .seq (.seq (.ops r48_3) (.cond (.t 11) (.skip) (.exit 0))) (.seq (.block 1 (.seq (.ops r48_5) (.seq (.ops r48_6) (.seq (.seq (.ops r48_7) (.block 2 (.loop b48_0))) (.draw r48_13 []))))) (.ops r48_4))
def r48_14 : List O := [⟨some 73, none, .mov (.t 3)⟩,
  ⟨some 2, none, .mov (.t 73)⟩]
/-- sennet.sennetref04.Mirror -/
def a48 : FI := ⟨74, [.tmp 2], .seq (.ops r48_0) (.seq (.ops r48_1) (.seq (.seq (.ops r48_2) (.block 0 (.loop b48_1))) (.seq (.ops r48_14) (.ret))))⟩
def r49_0 : List O := [⟨some 2, none, .box (.t 0)⟩,
  ⟨some 4, none, .mov (.c (.sn))⟩,
  ⟨some 5, none, .mov (.c (.i .i64 0))⟩]
def r49_1 : List O := [⟨some 12, none, .ldn 2 (.t 2)⟩,
  ⟨some 13, none, .mov (.t 1)⟩,
  ⟨some 14, none, .call (.f 80) [(.t 12), (.t 13)]⟩,
  ⟨some 6, none, .mov (.t 14)⟩]
def r49_2 : List O := [⟨some 15, none, .mov (.t 6)⟩,
  ⟨some 16, none, .bin .neq (.t 15) (.c (.i .i64 0))⟩]
def r49_3 : List O := [⟨some 17, none, .mov (.t 6)⟩,
  ⟨some 4, none, .mov (.c (.sn))⟩,
  ⟨some 5, none, .mov (.t 17)⟩]
def r49_4 : List O := [⟨some 18, none, .ldn 2 (.t 2)⟩,
  ⟨some 19, none, .call (.f 97) [(.t 18)]⟩,
  ⟨some 7, none, .alloc (List.replicate 576 (.i .i64 0))⟩,
  ⟨none, none, .st 576 (.t 7) (.t 19)⟩]
def r49_5 : List O := [⟨some 20, none, .mov (.t 1)⟩,
  ⟨some 21, none, .call (.f 70) [(.t 20)]⟩,
  ⟨some 8, none, .mov (.t 21)⟩]
def r49_6 : List O := [⟨some 9, none, .mov (.c (.i .i64 1))⟩]
def r49_7 : List O := [⟨some 22, none, .mov (.t 9)⟩,
  ⟨some 23, none, .mov (.t 8)⟩,
  ⟨some 24, none, .lenL (.t 23)⟩,
  ⟨some 25, none, .bin .lss (.t 22) (.t 24)⟩]
def r49_9 : List O := [⟨some 28, none, .mov (.t 8)⟩,
  ⟨some 29, none, .mov (.t 9)⟩,
  ⟨some 30, none, .bin .sub (.t 29) (.c (.i .i64 1))⟩,
  ⟨some 31, none, .ixS 1 (.t 28) (.t 30)⟩,
  ⟨some 32, none, .ld (.t 31)⟩,
  ⟨some 33, none, .mov (.t 8)⟩,
  ⟨some 34, none, .mov (.t 9)⟩,
  ⟨some 35, none, .ixS 1 (.t 33) (.t 34)⟩,
  ⟨some 36, none, .ld (.t 35)⟩,
  ⟨some 10, none, .mov (.t 32)⟩,
  ⟨some 11, none, .mov (.t 36)⟩]
def r49_10 : List O := [⟨some 37, none, .mov (.t 11)⟩,
  ⟨some 38, none, .mov (.t 10)⟩,
  ⟨some 39, none, .ixA 24 24 (.t 7) (.t 37)⟩,
  ⟨some 40, none, .ixA 24 1 (.t 39) (.t 38)⟩,
  ⟨some 41, none, .ld (.t 40)⟩,
  ⟨some 42, none, .mov (.t 10)⟩,
  ⟨some 43, none, .mov (.t 11)⟩,
  ⟨some 44, none, .ixA 24 24 (.t 7) (.t 42)⟩,
  ⟨some 45, none, .ixA 24 1 (.t 44) (.t 43)⟩,
  ⟨some 46, none, .ld (.t 45)⟩,
  ⟨some 47, none, .bin .gtr (.t 41) (.t 46)⟩]
def r49_11 : List O := [⟨some 48, none, .mov (.t 8)⟩,
  ⟨some 49, none, .mov (.t 9)⟩,
  ⟨some 50, none, .bin .sub (.t 49) (.c (.i .i64 1))⟩,
  ⟨some 51, none, .mov (.t 8)⟩,
  ⟨some 52, none, .mov (.t 9)⟩,
  ⟨some 53, none, .mov (.t 11)⟩,
  ⟨some 54, none, .mov (.t 10)⟩,
  ⟨some 55, none, .ixS 1 (.t 48) (.t 50)⟩,
  ⟨none, none, .st 1 (.t 55) (.t 53)⟩,
  ⟨some 56, none, .ixS 1 (.t 51) (.t 52)⟩,
  ⟨none, none, .st 1 (.t 56) (.t 54)⟩]
def r49_8 : List O := [⟨some 26, none, .mov (.t 9)⟩,
  ⟨some 27, none, .bin .add (.t 26) (.c (.i .i64 1))⟩,
  ⟨some 9, none, .mov (.t 27)⟩]
def b49_0 : C := .seq (.seq (.ops r49_7) (.cond (.t 25) (.skip) (.exit 2))) (.seq (.block 3 (.seq (.draw r49_9 []) (.seq (.draw r49_10 []) (.cond (.t 47) (.seq (.ops r49_11) (.exit 1)) (.skip))))) (.ops r49_8))
def r49_12 : List O := [⟨some 57, none, .mov (.t 8)⟩,
  ⟨some 4, none, .mov (.t 57)⟩,
  ⟨some 5, none, .mov (.c (.i .i64 0))⟩]
def b49_1 : C := .block 1 (.seq (.seq (.ops r49_6) (.block 2 (.loop b49_0))) (.seq (.ops r49_12) (.ret)))
/-- sennet.rows.Sorted -/
def a49 : FI := ⟨58, [.tmp 4, .tmp 5], .seq (.ops r49_0) (.seq (.seq (.ops r49_1) (.seq (.ops r49_2) (.cond (.t 16) (.seq (.ops r49_3) (.ret)) (.skip)))) (.seq (.ops r49_4) (.seq (.ops r49_5) (.seq (.skip) (.block 0 (.loop b49_1))))))⟩
def r50_0 : List O := [⟨some 2, none, .box (.t 0)⟩,
  ⟨some 4, none, .mov (.c (.sn))⟩,
  ⟨some 5, none, .mov (.c (.i .i64 0))⟩]
def r50_1 : List O := [⟨some 12, none, .ldn 2 (.t 2)⟩,
  ⟨some 13, none, .mov (.t 1)⟩,
  ⟨some 14, none, .call (.f 82) [(.t 12), (.t 13)]⟩,
  ⟨some 6, none, .mov (.t 14)⟩]
def r50_2 : List O := [⟨some 15, none, .mov (.t 6)⟩,
  ⟨some 16, none, .bin .neq (.t 15) (.c (.i .i64 0))⟩]
def r50_3 : List O := [⟨some 17, none, .mov (.t 6)⟩,
  ⟨some 4, none, .mov (.c (.sn))⟩,
  ⟨some 5, none, .mov (.t 17)⟩]
def r50_4 : List O := [⟨some 18, none, .buildSl [] 0 []⟩,
  ⟨some 19, none, .mov (.t 1)⟩,
  ⟨some 20, none, .app 1 8 (.t 18) (.t 19)⟩,
  ⟨some 7, none, .mov (.t 20)⟩]
def r50_5 : List O := [⟨some 8, none, .mov (.c (.i .i64 0))⟩]
def r50_6 : List O := [⟨some 21, none, .mov (.t 8)⟩,
  ⟨some 22, none, .bin .add (.t 21) (.c (.i .i64 1))⟩,
  ⟨some 23, none, .mov (.t 7)⟩,
  ⟨some 24, none, .lenL (.t 23)⟩,
  ⟨some 25, none, .bin .lss (.t 22) (.t 24)⟩]
def r50_7 : List O := [⟨some 26, none, .ldn 2 (.t 2)⟩,
  ⟨some 27, none, .mov (.t 7)⟩,
  ⟨some 28, none, .mov (.t 8)⟩,
  ⟨some 29, none, .ixS 1 (.t 27) (.t 28)⟩,
  ⟨some 30, none, .ld (.t 29)⟩,
  ⟨some 31, none, .mov (.t 7)⟩,
  ⟨some 32, none, .mov (.t 8)⟩,
  ⟨some 33, none, .bin .add (.t 32) (.c (.i .i64 1))⟩,
  ⟨some 34, none, .ixS 1 (.t 31) (.t 33)⟩,
  ⟨some 35, none, .ld (.t 34)⟩,
  ⟨some 36, none, .call (.f 98) [(.t 26), (.t 30), (.t 35)]⟩,
  ⟨some 9, none, .mov (.t 36)⟩]
def r50_8 : List O := [⟨some 37, none, .ldn 2 (.t 2)⟩,
  ⟨some 38, none, .mov (.t 7)⟩,
  ⟨some 39, none, .mov (.t 8)⟩,
  ⟨some 40, none, .bin .add (.t 39) (.c (.i .i64 1))⟩,
  ⟨some 41, none, .ixS 1 (.t 38) (.t 40)⟩,
  ⟨some 42, none, .ld (.t 41)⟩,
  ⟨some 43, none, .mov (.t 7)⟩,
  ⟨some 44, none, .mov (.t 8)⟩,
  ⟨some 45, none, .ixS 1 (.t 43) (.t 44)⟩,
  ⟨some 46, none, .ld (.t 45)⟩,
  ⟨some 47, none, .call (.f 98) [(.t 37), (.t 42), (.t 46)]⟩,
  ⟨some 10, none, .mov (.t 47)⟩]
def r50_9 : List O := [⟨some 48, none, .mov (.t 9)⟩,
  ⟨some 49, none, .mov (.t 10)⟩,
  ⟨some 50, none, .bin .geq (.t 48) (.t 49)⟩]
def r50_10 : List O := [⟨some 51, none, .mov (.t 8)⟩,
  ⟨some 52, none, .bin .add (.t 51) (.c (.i .i64 1))⟩,
  ⟨some 8, none, .mov (.t 52)⟩]
def r50_11 : List O := [⟨some 53, none, .mov (.t 7)⟩,
  ⟨some 54, none, .mov (.t 8)⟩,
  ⟨some 55, none, .ixS 1 (.t 53) (.t 54)⟩,
  ⟨some 56, none, .ld (.t 55)⟩,
  ⟨some 11, none, .mov (.t 56)⟩]
def r50_12 : List O := [⟨some 57, none, .mov (.t 7)⟩,
  ⟨some 58, none, .mov (.t 8)⟩,
  ⟨some 59, none, .mov (.t 7)⟩,
  ⟨some 60, none, .mov (.t 8)⟩,
  ⟨some 61, none, .bin .add (.t 60) (.c (.i .i64 1))⟩,
  ⟨some 62, none, .ixS 1 (.t 59) (.t 61)⟩,
  ⟨some 63, none, .ld (.t 62)⟩,
  ⟨some 64, none, .ixS 1 (.t 57) (.t 58)⟩,
  ⟨none, none, .st 1 (.t 64) (.t 63)⟩]
def r50_13 : List O := [⟨some 65, none, .mov (.t 7)⟩,
  ⟨some 66, none, .mov (.t 8)⟩,
  ⟨some 67, none, .bin .add (.t 66) (.c (.i .i64 1))⟩,
  ⟨some 68, none, .mov (.t 11)⟩,
  ⟨some 69, none, .ixS 1 (.t 65) (.t 67)⟩,
  ⟨none, none, .st 1 (.t 69) (.t 68)⟩]
def r50_14 : List O := [⟨some 8, none, .mov (.c (.i .i64 0))⟩]
def b50_0 : C := .seq (.seq (.ops r50_6) (.cond (.t 25) (.skip) (.exit 0))) (.block 1 (.seq (.draw r50_7 []) (.seq (.draw r50_8 []) (.seq (.seq (.ops r50_9) (.cond (.t 50) (.seq (.ops r50_10) (.exit 1)) (.skip))) (.seq (.ops r50_11) (.seq (.ops r50_12) (.seq (.ops r50_13) (.ops r50_14))))))))
def r50_15 : List O := [⟨some 70, none, .mov (.t 7)⟩,
  ⟨some 4, none, .mov (.t 70)⟩,
  ⟨some 5, none, .mov (.c (.i .i64 0))⟩]
/-- sennet.sennetref04.Sorted -/
def a50 : FI := ⟨71, [.tmp 4, .tmp 5], .seq (.ops r50_0) (.seq (.ops r50_1) (.seq (.seq (.ops r50_2) (.cond (.t 16) (.seq (.ops r50_3) (.ret)) (.skip))) (.seq (.ops r50_4) (.seq (.seq (.ops r50_5) (.block 0 (.loop b50_0))) (.seq (.ops r50_15) (.ret))))))⟩
def r51_0 : List O := [⟨some 6, none, .mov (.c (.sn))⟩,
  ⟨some 7, none, .mov (.c (.i .i64 0))⟩]
def r51_1 : List O := [⟨some 14, none, .mov (.t 0)⟩,
  ⟨some 15, none, .call (.f 78) [(.t 14)]⟩,
  ⟨some 8, none, .mov (.t 15)⟩]
def r51_2 : List O := [⟨some 16, none, .mov (.t 8)⟩,
  ⟨some 17, none, .bin .neq (.t 16) (.c (.i .i64 0))⟩]
def r51_3 : List O := [⟨some 18, none, .mov (.t 8)⟩,
  ⟨some 6, none, .mov (.c (.sn))⟩,
  ⟨some 7, none, .mov (.t 18)⟩]
def r51_4 : List O := [⟨some 20, none, .mov (.t 1)⟩,
  ⟨some 21, none, .mov (.t 0)⟩,
  ⟨some 22, none, .lenL (.t 21)⟩,
  ⟨some 23, none, .mov (.t 2)⟩,
  ⟨some 24, none, .call (.f 42) [(.t 20), (.t 22), (.t 23)]⟩,
  ⟨some 19, none, .mov (.t 24)⟩,
  ⟨some 25, none, .ext (.t 19) 0⟩,
  ⟨some 26, none, .ext (.t 19) 1⟩,
  ⟨some 9, none, .mov (.t 25)⟩,
  ⟨some 10, none, .mov (.t 26)⟩]
def r51_5 : List O := [⟨some 27, none, .mov (.t 10)⟩,
  ⟨some 28, none, .bin .neq (.t 27) (.c (.i .i64 0))⟩]
def r51_6 : List O := [⟨some 29, none, .mov (.t 10)⟩,
  ⟨some 6, none, .mov (.c (.sn))⟩,
  ⟨some 7, none, .mov (.t 29)⟩]
def r51_7 : List O := [⟨some 11, none, .mov (.c (.sn))⟩]
def r51_8 : List O := [⟨some 30, none, .mov (.t 0)⟩,
  ⟨some 31, none, .lenL (.t 30)⟩,
  ⟨some 32, none, .mov (.c (.i .i64 0))⟩]
def r51_9 : List O := [⟨some 33, none, .bin .lss (.t 32) (.t 31)⟩]
def r51_10 : List O := [⟨some 34, none, .mov (.t 32)⟩,
  ⟨some 35, none, .ixS 1 (.t 30) (.t 32)⟩,
  ⟨some 36, none, .ld (.t 35)⟩,
  ⟨some 12, none, .mov (.t 34)⟩,
  ⟨some 13, none, .mov (.t 36)⟩]
def r51_11 : List O := [⟨some 37, none, .mov (.t 11)⟩,
  ⟨some 38, none, .mov (.t 13)⟩,
  ⟨some 39, none, .mov (.t 9)⟩,
  ⟨some 40, none, .mov (.t 12)⟩,
  ⟨some 41, none, .ixS 2 (.t 39) (.t 40)⟩,
  ⟨some 42, none, .ldn 2 (.t 41)⟩,
  ⟨some 43, none, .build [.i .i64 0, .i .i64 0, .i .i64 0] [(0, 1, (.t 38)), (1, 2, (.t 42))]⟩,
  ⟨some 44, none, .buildSl [.i .i64 0, .i .i64 0, .i .i64 0] 1 [(0, 3, (.t 43))]⟩,
  ⟨some 45, none, .app 3 24 (.t 37) (.t 44)⟩,
  ⟨some 11, none, .mov (.t 45)⟩]
def r51_12 : List O := [⟨some 46, none, .bin .add (.t 32) (.c (.i .i64 1))⟩,
  ⟨some 32, none, .mov (.t 46)⟩]
def b51_0 : C := .seq (.ops r51_9) (.seq (.cond (.t 33) (.skip) (.exit 0)) (.seq (.block 1 (.seq (.ops r51_10) (.ops r51_11))) (.ops r51_12)))
def r51_13 : List O := [⟨some 47, none, .mov (.t 11)⟩,
  ⟨some 6, none, .mov (.t 47)⟩,
  ⟨some 7, none, .mov (.c (.i .i64 0))⟩]
/-- sennet.rows.Place -/
def a51 : FI := ⟨48, [.tmp 6, .tmp 7], .seq (.ops r51_0) (.seq (.seq (.ops r51_1) (.seq (.ops r51_2) (.cond (.t 17) (.seq (.ops r51_3) (.ret)) (.skip)))) (.seq (.ops r51_4) (.seq (.seq (.ops r51_5) (.cond (.t 28) (.seq (.ops r51_6) (.ret)) (.skip))) (.seq (.ops r51_7) (.seq (.seq (.ops r51_8) (.block 0 (.loop b51_0))) (.seq (.ops r51_13) (.ret)))))))⟩

end Go.Air.Try
