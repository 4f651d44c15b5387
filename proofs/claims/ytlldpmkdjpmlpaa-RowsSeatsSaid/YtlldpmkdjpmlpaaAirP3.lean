import Derived.Test.YtlldpmkdjpmlpaaAir
set_option maxRecDepth 100000
namespace Go.Air.Try
def r52_0 : List O := [⟨some 6, none, .mov (.c (.sn))⟩,
  ⟨some 7, none, .mov (.c (.i .i64 0))⟩]
def r52_1 : List O := [⟨some 13, none, .mov (.t 0)⟩,
  ⟨some 14, none, .call (.f 99) [(.t 13)]⟩,
  ⟨some 8, none, .mov (.t 14)⟩]
def r52_2 : List O := [⟨some 15, none, .mov (.t 8)⟩,
  ⟨some 16, none, .un .not (.t 15)⟩]
def r52_3 : List O := [⟨some 6, none, .mov (.c (.sn))⟩,
  ⟨some 7, none, .mov (.c (.i .i64 1))⟩]
def r52_4 : List O := [⟨some 18, none, .mov (.t 1)⟩,
  ⟨some 19, none, .mov (.t 0)⟩,
  ⟨some 20, none, .lenL (.t 19)⟩,
  ⟨some 21, none, .mov (.t 2)⟩,
  ⟨some 22, none, .call (.f 43) [(.t 18), (.t 20), (.t 21)]⟩,
  ⟨some 17, none, .mov (.t 22)⟩,
  ⟨some 23, none, .ext (.t 17) 0⟩,
  ⟨some 24, none, .ext (.t 17) 1⟩,
  ⟨some 9, none, .mov (.t 23)⟩,
  ⟨some 10, none, .mov (.t 24)⟩]
def r52_5 : List O := [⟨some 25, none, .mov (.t 10)⟩,
  ⟨some 26, none, .bin .neq (.t 25) (.c (.i .i64 0))⟩]
def r52_6 : List O := [⟨some 27, none, .mov (.t 10)⟩,
  ⟨some 6, none, .mov (.c (.sn))⟩,
  ⟨some 7, none, .mov (.t 27)⟩]
def r52_7 : List O := [⟨some 11, none, .mov (.c (.sn))⟩]
def r52_8 : List O := [⟨some 12, none, .mov (.c (.i .i64 0))⟩]
def r52_9 : List O := [⟨some 28, none, .mov (.t 12)⟩,
  ⟨some 29, none, .mov (.t 9)⟩,
  ⟨some 30, none, .lenL (.t 29)⟩,
  ⟨some 31, none, .bin .lss (.t 28) (.t 30)⟩]
def r52_11 : List O := [⟨some 34, none, .mov (.t 11)⟩,
  ⟨some 35, none, .mov (.t 0)⟩,
  ⟨some 36, none, .mov (.t 12)⟩,
  ⟨some 37, none, .ixS 1 (.t 35) (.t 36)⟩,
  ⟨some 38, none, .ld (.t 37)⟩,
  ⟨some 39, none, .mov (.t 9)⟩,
  ⟨some 40, none, .mov (.t 12)⟩,
  ⟨some 41, none, .ixS 2 (.t 39) (.t 40)⟩,
  ⟨some 42, none, .ldn 2 (.t 41)⟩,
  ⟨some 43, none, .build [.i .i64 0, .i .i64 0, .i .i64 0] [(0, 1, (.t 38)), (1, 2, (.t 42))]⟩,
  ⟨some 44, none, .buildSl [.i .i64 0, .i .i64 0, .i .i64 0] 1 [(0, 3, (.t 43))]⟩,
  ⟨some 45, none, .app 3 24 (.t 34) (.t 44)⟩,
  ⟨some 11, none, .mov (.t 45)⟩]
def r52_10 : List O := [⟨some 32, none, .mov (.t 12)⟩,
  ⟨some 33, none, .bin .add (.t 32) (.c (.i .i64 1))⟩,
  ⟨some 12, none, .mov (.t 33)⟩]
def b52_0 : C := .seq (.seq (.ops r52_9) (.cond (.t 31) (.skip) (.exit 0))) (.seq (.block 1 (.draw r52_11 [])) (.ops r52_10))
def r52_12 : List O := [⟨some 46, none, .mov (.t 11)⟩,
  ⟨some 6, none, .mov (.t 46)⟩,
  ⟨some 7, none, .mov (.c (.i .i64 0))⟩]
/-- sennet.sennetref04.Place -/
def a52 : FI := ⟨47, [.tmp 6, .tmp 7], .seq (.ops r52_0) (.seq (.ops r52_1) (.seq (.seq (.ops r52_2) (.cond (.t 16) (.seq (.ops r52_3) (.ret)) (.skip))) (.seq (.ops r52_4) (.seq (.seq (.ops r52_5) (.cond (.t 26) (.seq (.ops r52_6) (.ret)) (.skip))) (.seq (.ops r52_7) (.seq (.seq (.ops r52_8) (.block 0 (.loop b52_0))) (.seq (.ops r52_12) (.ret))))))))⟩
def r53_0 : List O := [⟨some 4, none, .mov (.c (.sn))⟩,
  ⟨some 5, none, .mov (.c (.i .i64 0))⟩]
def r53_1 : List O := [⟨some 9, none, .mov (.t 0)⟩,
  ⟨some 10, none, .call (.f 78) [(.t 9)]⟩,
  ⟨some 11, none, .bin .neq (.t 10) (.c (.i .i64 0))⟩,
  ⟨some 12, none, .mov (.t 11)⟩,
  ⟨some 13, some (12, false), .mov (.t 1)⟩,
  ⟨some 14, some (12, false), .bin .lss (.t 13) (.c (.i .i64 1))⟩,
  ⟨some 15, none, .pick (.t 12) (.c (.b true)) (.t 14)⟩,
  ⟨some 16, none, .mov (.t 15)⟩,
  ⟨some 17, some (16, false), .mov (.t 1)⟩,
  ⟨some 18, some (16, false), .bin .gtr (.t 17) (.c (.i .i64 200))⟩,
  ⟨some 19, none, .pick (.t 16) (.c (.b true)) (.t 18)⟩,
  ⟨some 8, none, .mov (.t 19)⟩]
def r53_2 : List O := [⟨some 4, none, .mov (.c (.sn))⟩,
  ⟨some 5, none, .mov (.c (.i .i64 1))⟩]
def r53_3 : List O := [⟨some 21, none, .mov (.t 0)⟩,
  ⟨some 22, none, .lenL (.t 21)⟩,
  ⟨some 23, none, .bin .gtr (.t 22) (.c (.i .i64 200))⟩,
  ⟨some 20, none, .mov (.t 23)⟩]
def r53_4 : List O := [⟨some 4, none, .mov (.c (.sn))⟩,
  ⟨some 5, none, .mov (.c (.i .i64 2))⟩]
def r53_5 : List O := [⟨some 6, none, .alloc [.sn]⟩]
def r53_6 : List O := [⟨some 24, none, .mov (.t 0)⟩,
  ⟨some 25, none, .mov (.t 1)⟩,
  ⟨some 26, none, .call (.f 100) [(.t 24), (.t 25)]⟩]
def r53_7 : List O := [⟨some 7, none, .mov (.t 27)⟩]
def r53_8 : List O := [⟨some 28, none, .ld (.t 6)⟩,
  ⟨some 29, none, .mov (.t 7)⟩,
  ⟨some 30, none, .call (.f 70) [(.t 29)]⟩,
  ⟨some 31, none, .buildSl [.sn] 1 [(0, 1, (.t 30))]⟩,
  ⟨some 32, none, .app 1 24 (.t 28) (.t 31)⟩,
  ⟨none, none, .st 1 (.t 6) (.t 32)⟩]
def b53_0 : C := .block 2 (.draw r53_8 [(0, 2)])
def r53_9 : List O := [⟨some 33, none, .ld (.t 6)⟩,
  ⟨some 4, none, .mov (.t 33)⟩,
  ⟨some 5, none, .mov (.c (.i .i64 0))⟩]
/-- sennet.rows.Abreast -/
def a53 : FI := ⟨34, [.tmp 4, .tmp 5], .seq (.ops r53_0) (.seq (.block 0 (.seq (.ops r53_1) (.cond (.t 8) (.seq (.ops r53_2) (.ret)) (.seq (.ops r53_3) (.cond (.t 20) (.seq (.ops r53_4) (.ret)) (.skip)))))) (.seq (.ops r53_5) (.seq (.seq (.ops r53_6) (.block 1 (.rangeF (.t 26) [27] (.ops r53_7) b53_0))) (.seq (.ops r53_9) (.ret)))))⟩
def r54_0 : List O := [⟨some 4, none, .mov (.c (.sn))⟩,
  ⟨some 5, none, .mov (.c (.i .i64 0))⟩]
def r54_1 : List O := [⟨some 9, none, .mov (.t 0)⟩,
  ⟨some 10, none, .call (.f 99) [(.t 9)]⟩,
  ⟨some 6, none, .mov (.t 10)⟩]
def r54_2 : List O := [⟨some 11, none, .mov (.t 6)⟩,
  ⟨some 12, none, .un .not (.t 11)⟩,
  ⟨some 13, none, .mov (.t 12)⟩,
  ⟨some 14, some (13, false), .mov (.t 1)⟩,
  ⟨some 15, some (13, false), .bin .lss (.t 14) (.c (.i .i64 1))⟩,
  ⟨some 16, none, .pick (.t 13) (.c (.b true)) (.t 15)⟩,
  ⟨some 17, none, .mov (.t 16)⟩,
  ⟨some 18, some (17, false), .mov (.t 1)⟩,
  ⟨some 19, some (17, false), .bin .gtr (.t 18) (.c (.i .i64 200))⟩,
  ⟨some 20, none, .pick (.t 17) (.c (.b true)) (.t 19)⟩]
def r54_3 : List O := [⟨some 4, none, .mov (.c (.sn))⟩,
  ⟨some 5, none, .mov (.c (.i .i64 1))⟩]
def r54_4 : List O := [⟨some 21, none, .mov (.t 0)⟩,
  ⟨some 22, none, .lenL (.t 21)⟩,
  ⟨some 23, none, .bin .gtr (.t 22) (.c (.i .i64 200))⟩]
def r54_5 : List O := [⟨some 4, none, .mov (.c (.sn))⟩,
  ⟨some 5, none, .mov (.c (.i .i64 2))⟩]
def r54_6 : List O := [⟨some 7, none, .mov (.c (.sn))⟩]
def r54_7 : List O := [⟨some 8, none, .mov (.c (.i .i64 0))⟩]
def r54_8 : List O := [⟨some 24, none, .mov (.t 8)⟩,
  ⟨some 25, none, .mov (.t 0)⟩,
  ⟨some 26, none, .lenL (.t 25)⟩,
  ⟨some 27, none, .bin .lss (.t 24) (.t 26)⟩]
def r54_10 : List O := [⟨some 31, none, .mov (.t 7)⟩,
  ⟨some 32, none, .buildSl [] 0 []⟩,
  ⟨some 33, none, .mov (.t 0)⟩,
  ⟨some 34, none, .mov (.t 8)⟩,
  ⟨some 35, none, .mov (.t 8)⟩,
  ⟨some 36, none, .mov (.t 1)⟩,
  ⟨some 37, none, .bin .add (.t 35) (.t 36)⟩,
  ⟨some 38, none, .mov (.t 0)⟩,
  ⟨some 39, none, .lenL (.t 38)⟩,
  ⟨some 40, none, .min [(.t 37), (.t 39)]⟩,
  ⟨some 41, none, .slc 1 (.t 33) (some (.t 34)) (some (.t 40)) none⟩,
  ⟨some 42, none, .app 1 8 (.t 32) (.t 41)⟩,
  ⟨some 43, none, .buildSl [.sn] 1 [(0, 1, (.t 42))]⟩,
  ⟨some 44, none, .app 1 24 (.t 31) (.t 43)⟩,
  ⟨some 7, none, .mov (.t 44)⟩]
def r54_9 : List O := [⟨some 28, none, .mov (.t 8)⟩,
  ⟨some 29, none, .mov (.t 1)⟩,
  ⟨some 30, none, .bin .add (.t 28) (.t 29)⟩,
  ⟨some 8, none, .mov (.t 30)⟩]
def b54_0 : C := .seq (.seq (.ops r54_8) (.cond (.t 27) (.skip) (.exit 0))) (.seq (.block 1 (.ops r54_10)) (.ops r54_9))
def r54_11 : List O := [⟨some 45, none, .mov (.t 7)⟩,
  ⟨some 4, none, .mov (.t 45)⟩,
  ⟨some 5, none, .mov (.c (.i .i64 0))⟩]
/-- sennet.sennetref04.Abreast -/
def a54 : FI := ⟨46, [.tmp 4, .tmp 5], .seq (.ops r54_0) (.seq (.ops r54_1) (.seq (.seq (.ops r54_2) (.cond (.t 20) (.seq (.ops r54_3) (.ret)) (.skip))) (.seq (.seq (.ops r54_4) (.cond (.t 23) (.seq (.ops r54_5) (.ret)) (.skip))) (.seq (.ops r54_6) (.seq (.seq (.ops r54_7) (.block 0 (.loop b54_0))) (.seq (.ops r54_11) (.ret)))))))⟩
def r55_0 : List O := [⟨some 4, none, .mov (.c (.b false))⟩]
def r55_1 : List O := [⟨some 6, none, .mov (.t 0)⟩,
  ⟨some 7, none, .lenL (.t 6)⟩,
  ⟨some 8, none, .mov (.t 1)⟩,
  ⟨some 9, none, .lenL (.t 8)⟩,
  ⟨some 10, none, .bin .neq (.t 7) (.t 9)⟩]
def r55_2 : List O := [⟨some 4, none, .mov (.c (.b false))⟩]
def r55_3 : List O := [⟨some 5, none, .mov (.c (.i .i64 0))⟩]
def r55_4 : List O := [⟨some 11, none, .mov (.t 5)⟩,
  ⟨some 12, none, .mov (.t 0)⟩,
  ⟨some 13, none, .lenL (.t 12)⟩,
  ⟨some 14, none, .bin .lss (.t 11) (.t 13)⟩]
def r55_6 : List O := [⟨some 17, none, .mov (.t 0)⟩,
  ⟨some 18, none, .mov (.t 5)⟩,
  ⟨some 19, none, .ixS 3 (.t 17) (.t 18)⟩,
  ⟨some 20, none, .ldn 3 (.t 19)⟩,
  ⟨some 21, none, .mov (.t 1)⟩,
  ⟨some 22, none, .mov (.t 5)⟩,
  ⟨some 23, none, .ixS 3 (.t 21) (.t 22)⟩,
  ⟨some 24, none, .ldn 3 (.t 23)⟩,
  ⟨some 25, none, .eqv true (.agg [.i .i64, .i .i64, .i .i64]) (.t 20) (.t 24)⟩]
def r55_7 : List O := [⟨some 4, none, .mov (.c (.b false))⟩]
def r55_5 : List O := [⟨some 15, none, .mov (.t 5)⟩,
  ⟨some 16, none, .bin .add (.t 15) (.c (.i .i64 1))⟩,
  ⟨some 5, none, .mov (.t 16)⟩]
def b55_0 : C := .seq (.seq (.ops r55_4) (.cond (.t 14) (.skip) (.exit 0))) (.seq (.block 1 (.seq (.draw r55_6 []) (.cond (.t 25) (.seq (.ops r55_7) (.ret)) (.skip)))) (.ops r55_5))
def r55_8 : List O := [⟨some 4, none, .mov (.c (.b true))⟩]
/-- sennet.sennetref04.SameSeats -/
def a55 : FI := ⟨26, [.tmp 4], .seq (.ops r55_0) (.seq (.seq (.ops r55_1) (.cond (.t 10) (.seq (.ops r55_2) (.ret)) (.skip))) (.seq (.seq (.ops r55_3) (.block 0 (.loop b55_0))) (.seq (.ops r55_8) (.ret))))⟩
def r56_0 : List O := [⟨some 4, none, .mov (.c (.b false))⟩]
def r56_1 : List O := [⟨some 7, none, .mov (.t 0)⟩,
  ⟨some 8, none, .lenL (.t 7)⟩,
  ⟨some 9, none, .mov (.t 1)⟩,
  ⟨some 10, none, .lenL (.t 9)⟩,
  ⟨some 11, none, .bin .neq (.t 8) (.t 10)⟩]
def r56_2 : List O := [⟨some 4, none, .mov (.c (.b false))⟩]
def r56_3 : List O := [⟨some 5, none, .mov (.c (.i .i64 0))⟩]
def r56_4 : List O := [⟨some 12, none, .mov (.t 5)⟩,
  ⟨some 13, none, .mov (.t 0)⟩,
  ⟨some 14, none, .lenL (.t 13)⟩,
  ⟨some 15, none, .bin .lss (.t 12) (.t 14)⟩]
def r56_6 : List O := [⟨some 18, none, .mov (.t 0)⟩,
  ⟨some 19, none, .mov (.t 5)⟩,
  ⟨some 20, none, .ixS 1 (.t 18) (.t 19)⟩,
  ⟨some 21, none, .ld (.t 20)⟩,
  ⟨some 22, none, .mov (.t 1)⟩,
  ⟨some 23, none, .mov (.t 5)⟩,
  ⟨some 24, none, .ixS 1 (.t 22) (.t 23)⟩,
  ⟨some 25, none, .ld (.t 24)⟩,
  ⟨some 26, none, .call (.f 30) [(.t 21), (.t 25)]⟩,
  ⟨some 6, none, .mov (.t 26)⟩]
def r56_7 : List O := [⟨some 27, none, .mov (.t 6)⟩,
  ⟨some 28, none, .un .not (.t 27)⟩]
def r56_8 : List O := [⟨some 4, none, .mov (.c (.b false))⟩]
def r56_5 : List O := [⟨some 16, none, .mov (.t 5)⟩,
  ⟨some 17, none, .bin .add (.t 16) (.c (.i .i64 1))⟩,
  ⟨some 5, none, .mov (.t 17)⟩]
def b56_0 : C := .seq (.seq (.ops r56_4) (.cond (.t 15) (.skip) (.exit 0))) (.seq (.block 1 (.seq (.draw r56_6 []) (.seq (.ops r56_7) (.cond (.t 28) (.seq (.ops r56_8) (.ret)) (.skip))))) (.ops r56_5))
def r56_9 : List O := [⟨some 4, none, .mov (.c (.b true))⟩]
/-- sennet.sennetref04.SameLists -/
def a56 : FI := ⟨29, [.tmp 4], .seq (.ops r56_0) (.seq (.seq (.ops r56_1) (.cond (.t 11) (.seq (.ops r56_2) (.ret)) (.skip))) (.seq (.seq (.ops r56_3) (.block 0 (.loop b56_0))) (.seq (.ops r56_9) (.ret))))⟩
def r57_0 : List O := [⟨some 2, none, .mov (.c (.sn))⟩,
  ⟨some 3, none, .mov (.c (.i .i64 0))⟩]
def r57_1 : List O := [⟨some 9, none, .mov (.t 0)⟩,
  ⟨some 10, none, .call (.f 99) [(.t 9)]⟩,
  ⟨some 4, none, .mov (.t 10)⟩]
def r57_2 : List O := [⟨some 11, none, .mov (.t 4)⟩,
  ⟨some 12, none, .un .not (.t 11)⟩]
def r57_3 : List O := [⟨some 2, none, .mov (.c (.sn))⟩,
  ⟨some 3, none, .mov (.c (.i .i64 1))⟩]
def r57_4 : List O := [⟨some 13, none, .mov (.t 0)⟩,
  ⟨some 14, none, .lenL (.t 13)⟩,
  ⟨some 15, none, .bin .gtr (.t 14) (.c (.i .i64 200))⟩]
def r57_5 : List O := [⟨some 2, none, .mov (.c (.sn))⟩,
  ⟨some 3, none, .mov (.c (.i .i64 2))⟩]
def r57_6 : List O := [⟨some 5, none, .mov (.c (.sn))⟩]
def r57_7 : List O := [⟨some 6, none, .mov (.c (.i .i64 0))⟩]
def r57_8 : List O := [⟨some 16, none, .mov (.t 6)⟩,
  ⟨some 17, none, .mov (.t 0)⟩,
  ⟨some 18, none, .lenL (.t 17)⟩,
  ⟨some 19, none, .bin .lss (.t 16) (.t 18)⟩]
def r57_10 : List O := [⟨some 23, none, .mov (.t 0)⟩,
  ⟨some 24, none, .mov (.t 0)⟩,
  ⟨some 25, none, .mov (.t 6)⟩,
  ⟨some 26, none, .ixS 1 (.t 24) (.t 25)⟩,
  ⟨some 27, none, .ld (.t 26)⟩,
  ⟨some 28, none, .call (.f 59) [(.t 23), (.t 27)]⟩,
  ⟨some 22, none, .mov (.t 28)⟩,
  ⟨some 29, none, .ext (.t 22) 0⟩,
  ⟨some 30, none, .ext (.t 22) 1⟩,
  ⟨some 7, none, .mov (.t 29)⟩,
  ⟨some 8, none, .mov (.t 30)⟩]
def r57_11 : List O := [⟨some 31, none, .mov (.t 5)⟩,
  ⟨some 32, none, .mov (.t 7)⟩,
  ⟨some 33, none, .buildSl [.sn] 1 [(0, 1, (.t 32))]⟩,
  ⟨some 34, none, .app 1 24 (.t 31) (.t 33)⟩,
  ⟨some 5, none, .mov (.t 34)⟩]
def r57_9 : List O := [⟨some 20, none, .mov (.t 6)⟩,
  ⟨some 21, none, .bin .add (.t 20) (.c (.i .i64 1))⟩,
  ⟨some 6, none, .mov (.t 21)⟩]
def b57_0 : C := .seq (.seq (.ops r57_8) (.cond (.t 19) (.skip) (.exit 0))) (.seq (.block 1 (.seq (.ops r57_10) (.ops r57_11))) (.ops r57_9))
def r57_12 : List O := [⟨some 35, none, .mov (.t 5)⟩,
  ⟨some 2, none, .mov (.t 35)⟩,
  ⟨some 3, none, .mov (.c (.i .i64 0))⟩]
/-- sennet.sennetref04.Alternat -/
def a57 : FI := ⟨36, [.tmp 2, .tmp 3], .seq (.ops r57_0) (.seq (.ops r57_1) (.seq (.seq (.ops r57_2) (.cond (.t 12) (.seq (.ops r57_3) (.ret)) (.skip))) (.seq (.seq (.ops r57_4) (.cond (.t 15) (.seq (.ops r57_5) (.ret)) (.skip))) (.seq (.ops r57_6) (.seq (.seq (.ops r57_7) (.block 0 (.loop b57_0))) (.seq (.ops r57_12) (.ret)))))))⟩
def r58_0 : List O := [⟨some 4, none, .mov (.c (.sn))⟩,
  ⟨some 5, none, .mov (.c (.i .i64 0))⟩]
def r58_1 : List O := [⟨some 10, none, .mov (.t 0)⟩,
  ⟨some 11, none, .call (.f 31) [(.t 10)]⟩,
  ⟨some 9, none, .mov (.t 11)⟩,
  ⟨some 12, none, .ext (.t 9) 0⟩,
  ⟨some 13, none, .ext (.t 9) 1⟩,
  ⟨some 6, none, .mov (.t 12)⟩,
  ⟨some 7, none, .mov (.t 13)⟩]
def r58_2 : List O := [⟨some 14, none, .mov (.t 7)⟩,
  ⟨some 15, none, .bin .neq (.t 14) (.c (.i .i64 0))⟩]
def r58_3 : List O := [⟨some 16, none, .mov (.t 7)⟩,
  ⟨some 4, none, .mov (.c (.sn))⟩,
  ⟨some 5, none, .mov (.t 16)⟩]
def r58_4 : List O := [⟨some 17, none, .mov (.t 0)⟩,
  ⟨some 18, none, .mov (.t 1)⟩,
  ⟨some 19, none, .call (.f 101) [(.t 17), (.t 18)]⟩,
  ⟨some 8, none, .mov (.t 19)⟩]
def r58_5 : List O := [⟨some 20, none, .mov (.t 8)⟩,
  ⟨some 21, none, .bin .lss (.t 20) (.c (.i .i64 0))⟩]
def r58_6 : List O := [⟨some 4, none, .mov (.c (.sn))⟩,
  ⟨some 5, none, .mov (.c (.i .i64 5))⟩]
def r58_7 : List O := [⟨some 22, none, .mov (.t 6)⟩,
  ⟨some 23, none, .mov (.t 8)⟩,
  ⟨some 24, none, .ixS 1 (.t 22) (.t 23)⟩,
  ⟨some 25, none, .ld (.t 24)⟩,
  ⟨some 4, none, .mov (.t 25)⟩,
  ⟨some 5, none, .mov (.c (.i .i64 0))⟩]
/-- sennet.rows.Copy -/
def a58 : FI := ⟨26, [.tmp 4, .tmp 5], .seq (.ops r58_0) (.seq (.ops r58_1) (.seq (.seq (.ops r58_2) (.cond (.t 15) (.seq (.ops r58_3) (.ret)) (.skip))) (.seq (.ops r58_4) (.seq (.seq (.ops r58_5) (.cond (.t 21) (.seq (.ops r58_6) (.ret)) (.skip))) (.seq (.ops r58_7) (.ret))))))⟩
def r59_0 : List O := [⟨some 4, none, .mov (.c (.sn))⟩,
  ⟨some 5, none, .mov (.c (.i .i64 0))⟩]
def r59_1 : List O := [⟨some 9, none, .mov (.t 0)⟩,
  ⟨some 10, none, .call (.f 99) [(.t 9)]⟩,
  ⟨some 6, none, .mov (.t 10)⟩]
def r59_2 : List O := [⟨some 11, none, .mov (.t 6)⟩,
  ⟨some 12, none, .un .not (.t 11)⟩]
def r59_3 : List O := [⟨some 4, none, .mov (.c (.sn))⟩,
  ⟨some 5, none, .mov (.c (.i .i64 1))⟩]
def r59_4 : List O := [⟨some 13, none, .mov (.t 0)⟩,
  ⟨some 14, none, .lenL (.t 13)⟩,
  ⟨some 15, none, .bin .gtr (.t 14) (.c (.i .i64 200))⟩]
def r59_5 : List O := [⟨some 4, none, .mov (.c (.sn))⟩,
  ⟨some 5, none, .mov (.c (.i .i64 2))⟩]
def r59_6 : List O := [⟨some 16, none, .mov (.t 0)⟩,
  ⟨some 17, none, .mov (.t 1)⟩,
  ⟨some 18, none, .call (.f 102) [(.t 16), (.t 17)]⟩,
  ⟨some 19, none, .bin .lss (.t 18) (.c (.i .i64 0))⟩]
def r59_7 : List O := [⟨some 4, none, .mov (.c (.sn))⟩,
  ⟨some 5, none, .mov (.c (.i .i64 5))⟩]
def r59_8 : List O := [⟨some 20, none, .mov (.t 1)⟩,
  ⟨some 21, none, .buildSl [.i .i64 0] 1 [(0, 1, (.t 20))]⟩,
  ⟨some 7, none, .mov (.t 21)⟩]
def r59_9 : List O := [⟨some 8, none, .mov (.c (.i .i64 0))⟩]
def r59_10 : List O := [⟨some 22, none, .mov (.t 8)⟩,
  ⟨some 23, none, .mov (.t 0)⟩,
  ⟨some 24, none, .lenL (.t 23)⟩,
  ⟨some 25, none, .bin .lss (.t 22) (.t 24)⟩]
def r59_12 : List O := [⟨some 28, none, .mov (.t 0)⟩,
  ⟨some 29, none, .mov (.t 8)⟩,
  ⟨some 30, none, .ixS 1 (.t 28) (.t 29)⟩,
  ⟨some 31, none, .ld (.t 30)⟩,
  ⟨some 32, none, .mov (.t 1)⟩,
  ⟨some 33, none, .bin .neq (.t 31) (.t 32)⟩]
def r59_13 : List O := [⟨some 34, none, .mov (.t 7)⟩,
  ⟨some 35, none, .mov (.t 0)⟩,
  ⟨some 36, none, .mov (.t 8)⟩,
  ⟨some 37, none, .ixS 1 (.t 35) (.t 36)⟩,
  ⟨some 38, none, .ld (.t 37)⟩,
  ⟨some 39, none, .buildSl [.i .i64 0] 1 [(0, 1, (.t 38))]⟩,
  ⟨some 40, none, .app 1 8 (.t 34) (.t 39)⟩,
  ⟨some 7, none, .mov (.t 40)⟩]
def r59_11 : List O := [⟨some 26, none, .mov (.t 8)⟩,
  ⟨some 27, none, .bin .add (.t 26) (.c (.i .i64 1))⟩,
  ⟨some 8, none, .mov (.t 27)⟩]
def b59_0 : C := .seq (.seq (.ops r59_10) (.cond (.t 25) (.skip) (.exit 0))) (.seq (.block 1 (.seq (.ops r59_12) (.cond (.t 33) (.ops r59_13) (.skip)))) (.ops r59_11))
def r59_14 : List O := [⟨some 41, none, .mov (.t 7)⟩,
  ⟨some 4, none, .mov (.t 41)⟩,
  ⟨some 5, none, .mov (.c (.i .i64 0))⟩]
/-- sennet.sennetref04.Copy -/
def a59 : FI := ⟨42, [.tmp 4, .tmp 5], .seq (.ops r59_0) (.seq (.ops r59_1) (.seq (.seq (.ops r59_2) (.cond (.t 12) (.seq (.ops r59_3) (.ret)) (.skip))) (.seq (.seq (.ops r59_4) (.cond (.t 15) (.seq (.ops r59_5) (.ret)) (.skip))) (.seq (.seq (.ops r59_6) (.cond (.t 19) (.seq (.ops r59_7) (.ret)) (.skip))) (.seq (.ops r59_8) (.seq (.seq (.ops r59_9) (.block 0 (.loop b59_0))) (.seq (.ops r59_14) (.ret))))))))⟩
def r60_0 : List O := [⟨some 4, none, .mov (.c (.b false))⟩]
def r60_1 : List O := [⟨some 8, none, .mov (.t 0)⟩,
  ⟨some 9, none, .call (.f 31) [(.t 8)]⟩,
  ⟨some 7, none, .mov (.t 9)⟩,
  ⟨some 10, none, .ext (.t 7) 0⟩,
  ⟨some 11, none, .ext (.t 7) 1⟩,
  ⟨some 5, none, .mov (.t 10)⟩,
  ⟨some 6, none, .mov (.t 11)⟩]
def r60_2 : List O := [⟨some 12, none, .mov (.t 6)⟩,
  ⟨some 13, none, .bin .eql (.t 12) (.c (.i .i64 0))⟩,
  ⟨some 14, none, .mov (.t 13)⟩,
  ⟨some 15, some (14, true), .mov (.t 5)⟩,
  ⟨some 16, some (14, true), .mov (.t 1)⟩,
  ⟨some 17, some (14, true), .call (.f 103) [(.t 15), (.t 16), (.f 104)]⟩,
  ⟨some 18, none, .pick (.t 14) (.t 17) (.c (.b false))⟩,
  ⟨some 4, none, .mov (.t 18)⟩]
/-- sennet.rows.CheckAlternat -/
def a60 : FI := ⟨19, [.tmp 4], .seq (.ops r60_0) (.seq (.ops r60_1) (.seq (.ops r60_2) (.ret)))⟩
def r61_0 : List O := [⟨some 4, none, .mov (.c (.b false))⟩]
def r61_1 : List O := [⟨some 9, none, .mov (.t 0)⟩,
  ⟨some 10, none, .call (.f 57) [(.t 9)]⟩,
  ⟨some 8, none, .mov (.t 10)⟩,
  ⟨some 11, none, .ext (.t 8) 0⟩,
  ⟨some 12, none, .ext (.t 8) 1⟩,
  ⟨some 5, none, .mov (.t 11)⟩,
  ⟨some 6, none, .mov (.t 12)⟩]
def r61_2 : List O := [⟨some 13, none, .mov (.t 5)⟩,
  ⟨some 14, none, .mov (.t 1)⟩,
  ⟨some 15, none, .call (.f 56) [(.t 13), (.t 14)]⟩,
  ⟨some 7, none, .mov (.t 15)⟩]
def r61_3 : List O := [⟨some 16, none, .mov (.t 6)⟩,
  ⟨some 17, none, .bin .eql (.t 16) (.c (.i .i64 0))⟩,
  ⟨some 18, none, .mov (.t 17)⟩,
  ⟨some 19, some (18, true), .mov (.t 7)⟩,
  ⟨some 20, none, .pick (.t 18) (.t 19) (.c (.b false))⟩,
  ⟨some 4, none, .mov (.t 20)⟩]
/-- sennet.sennetref04.CheckAlternat -/
def a61 : FI := ⟨21, [.tmp 4], .seq (.ops r61_0) (.seq (.ops r61_1) (.seq (.ops r61_2) (.seq (.ops r61_3) (.ret))))⟩
def r62_0 : List O := [⟨some 1, none, .box (.t 0)⟩,
  ⟨some 2, none, .mov (.c (.b false))⟩]
def r62_1 : List O := [⟨some 5, none, .fld 2 (.t 1)⟩,
  ⟨some 6, none, .ld (.t 5)⟩,
  ⟨some 7, none, .lenL (.t 6)⟩,
  ⟨some 8, none, .bin .gtr (.t 7) (.c (.i .i64 12))⟩,
  ⟨some 9, none, .mov (.t 8)⟩,
  ⟨some 10, some (9, false), .fld 0 (.t 1)⟩,
  ⟨some 11, some (9, false), .ld (.t 10)⟩,
  ⟨some 12, some (9, false), .lenL (.t 11)⟩,
  ⟨some 13, some (9, false), .bin .gtr (.t 12) (.c (.i .i64 60))⟩,
  ⟨some 14, none, .pick (.t 9) (.c (.b true)) (.t 13)⟩]
def r62_2 : List O := [⟨some 2, none, .mov (.c (.b false))⟩]
def r62_3 : List O := [⟨some 15, none, .fld 2 (.t 1)⟩,
  ⟨some 16, none, .ld (.t 15)⟩,
  ⟨some 17, none, .lenL (.t 16)⟩,
  ⟨some 18, none, .mov (.c (.i .i64 0))⟩]
def r62_4 : List O := [⟨some 19, none, .bin .lss (.t 18) (.t 17)⟩]
def r62_5 : List O := [⟨some 20, none, .ixS 2 (.t 16) (.t 18)⟩,
  ⟨some 21, none, .ldn 2 (.t 20)⟩,
  ⟨some 4, none, .alloc [.sn, .sn]⟩,
  ⟨none, none, .st 2 (.t 4) (.t 21)⟩]
def r62_6 : List O := [⟨some 22, none, .fld 0 (.t 4)⟩,
  ⟨some 23, none, .ld (.t 22)⟩,
  ⟨some 24, none, .lenL (.t 23)⟩,
  ⟨some 25, none, .bin .gtr (.t 24) (.c (.i .i64 10))⟩,
  ⟨some 26, none, .mov (.t 25)⟩,
  ⟨some 27, some (26, false), .fld 1 (.t 4)⟩,
  ⟨some 28, some (26, false), .ld (.t 27)⟩,
  ⟨some 29, some (26, false), .lenL (.t 28)⟩,
  ⟨some 30, some (26, false), .bin .gtr (.t 29) (.c (.i .i64 1100))⟩,
  ⟨some 31, none, .pick (.t 26) (.c (.b true)) (.t 30)⟩]
def r62_7 : List O := [⟨some 2, none, .mov (.c (.b false))⟩]
def r62_8 : List O := [⟨some 32, none, .bin .add (.t 18) (.c (.i .i64 1))⟩,
  ⟨some 18, none, .mov (.t 32)⟩]
def b62_0 : C := .seq (.ops r62_4) (.seq (.cond (.t 19) (.skip) (.exit 0)) (.seq (.block 1 (.seq (.ops r62_5) (.seq (.ops r62_6) (.cond (.t 31) (.seq (.ops r62_7) (.ret)) (.skip))))) (.ops r62_8)))
def r62_9 : List O := [⟨some 2, none, .mov (.c (.b true))⟩]
/-- sennet.sennetlaw04.slim -/
def a62 : FI := ⟨33, [.tmp 2], .seq (.ops r62_0) (.seq (.seq (.ops r62_1) (.cond (.t 14) (.seq (.ops r62_2) (.ret)) (.skip))) (.seq (.seq (.ops r62_3) (.block 0 (.loop b62_0))) (.seq (.ops r62_9) (.ret))))⟩
def r63_0 : List O := [⟨some 2, none, .box (.t 0)⟩,
  ⟨some 3, none, .box (.t 1)⟩,
  ⟨some 4, none, .mov (.c (.b false))⟩,
  ⟨some 5, none, .mov (.c (.i .i64 0))⟩]
def r63_1 : List O := [⟨some 13, none, .ldn 2 (.t 2)⟩,
  ⟨some 14, none, .call (.f 66) [(.t 13)]⟩,
  ⟨some 6, none, .mov (.t 14)⟩]
def r63_2 : List O := [⟨some 15, none, .mov (.t 6)⟩,
  ⟨some 16, none, .bin .neq (.t 15) (.c (.i .i64 0))⟩]
def r63_3 : List O := [⟨some 17, none, .mov (.t 6)⟩,
  ⟨some 4, none, .mov (.c (.b false))⟩,
  ⟨some 5, none, .mov (.t 17)⟩]
def r63_4 : List O := [⟨some 19, none, .ldn 2 (.t 2)⟩,
  ⟨some 20, none, .call (.f 67) [(.t 19)]⟩,
  ⟨some 18, none, .mov (.t 20)⟩,
  ⟨some 21, none, .ext (.t 18) 0⟩,
  ⟨some 22, none, .ext (.t 18) 1⟩,
  ⟨some 7, none, .mov (.t 21)⟩,
  ⟨some 8, none, .mov (.t 22)⟩]
def r63_5 : List O := [⟨some 23, none, .mov (.t 8)⟩,
  ⟨some 24, none, .bin .neq (.t 23) (.c (.i .i64 0))⟩]
def r63_6 : List O := [⟨some 25, none, .mov (.t 8)⟩,
  ⟨some 4, none, .mov (.c (.b false))⟩,
  ⟨some 5, none, .mov (.t 25)⟩]
def r63_7 : List O := [⟨some 26, none, .fld 0 (.t 2)⟩,
  ⟨some 27, none, .ld (.t 26)⟩,
  ⟨some 28, none, .fld 0 (.t 3)⟩,
  ⟨some 29, none, .ld (.t 28)⟩,
  ⟨some 30, none, .call (.f 37) [(.t 27), (.t 29)]⟩,
  ⟨some 31, none, .bin .neq (.t 30) (.c (.i .i64 0))⟩,
  ⟨some 32, none, .mov (.t 31)⟩,
  ⟨some 33, some (32, false), .ldn 2 (.t 2)⟩,
  ⟨some 34, some (32, false), .fld 0 (.t 3)⟩,
  ⟨some 35, some (32, false), .ld (.t 34)⟩,
  ⟨some 36, some (32, false), .call (.f 81) [(.t 33), (.t 35)]⟩,
  ⟨some 37, some (32, false), .fld 1 (.t 3)⟩,
  ⟨some 38, some (32, false), .ld (.t 37)⟩,
  ⟨some 39, some (32, false), .bin .neq (.t 36) (.t 38)⟩,
  ⟨some 40, none, .pick (.t 32) (.c (.b true)) (.t 39)⟩,
  ⟨some 41, none, .mov (.t 40)⟩,
  ⟨some 42, some (41, false), .fld 2 (.t 3)⟩,
  ⟨some 43, some (41, false), .ld (.t 42)⟩,
  ⟨some 44, some (41, false), .lenL (.t 43)⟩,
  ⟨some 45, some (41, false), .mov (.t 7)⟩,
  ⟨some 46, some (41, false), .lenL (.t 45)⟩,
  ⟨some 47, some (41, false), .bin .neq (.t 44) (.t 46)⟩,
  ⟨some 48, none, .pick (.t 41) (.c (.b true)) (.t 47)⟩]
def r63_8 : List O := [⟨some 4, none, .mov (.c (.b false))⟩,
  ⟨some 5, none, .mov (.c (.i .i64 0))⟩]
def r63_9 : List O := [⟨some 49, none, .ldn 2 (.t 2)⟩,
  ⟨some 50, none, .call (.f 97) [(.t 49)]⟩,
  ⟨some 9, none, .alloc (List.replicate 576 (.i .i64 0))⟩,
  ⟨none, none, .st 576 (.t 9) (.t 50)⟩]
def r63_10 : List O := [⟨some 10, none, .mov (.c (.i .i64 0))⟩]
def r63_11 : List O := [⟨some 51, none, .mov (.t 7)⟩,
  ⟨some 52, none, .lenL (.t 51)⟩,
  ⟨some 53, none, .mov (.c (.i .i64 0))⟩]
def r63_12 : List O := [⟨some 54, none, .bin .lss (.t 53) (.t 52)⟩]
def r63_13 : List O := [⟨some 55, none, .mov (.t 53)⟩,
  ⟨some 56, none, .ixS 1 (.t 51) (.t 53)⟩,
  ⟨some 57, none, .ld (.t 56)⟩,
  ⟨some 11, none, .mov (.t 55)⟩,
  ⟨some 12, none, .mov (.t 57)⟩]
def r63_14 : List O := [⟨some 58, none, .mov (.t 12)⟩,
  ⟨some 59, none, .fld 2 (.t 3)⟩,
  ⟨some 60, none, .ld (.t 59)⟩,
  ⟨some 61, none, .mov (.t 11)⟩,
  ⟨some 62, none, .ixS 2 (.t 60) (.t 61)⟩,
  ⟨some 63, none, .ldn 2 (.t 62)⟩,
  ⟨some 64, none, .call (.f 106) [(.t 9), (.t 58), (.t 63)]⟩,
  ⟨some 65, none, .un .not (.t 64)⟩]
def r63_15 : List O := [⟨some 4, none, .mov (.c (.b false))⟩,
  ⟨some 5, none, .mov (.c (.i .i64 0))⟩]
def r63_16 : List O := [⟨some 66, none, .mov (.t 10)⟩,
  ⟨some 67, none, .fld 2 (.t 3)⟩,
  ⟨some 68, none, .ld (.t 67)⟩,
  ⟨some 69, none, .mov (.t 11)⟩,
  ⟨some 70, none, .ixS 2 (.t 68) (.t 69)⟩,
  ⟨some 71, none, .fld 1 (.t 70)⟩,
  ⟨some 72, none, .ld (.t 71)⟩,
  ⟨some 73, none, .fld 2 (.t 3)⟩,
  ⟨some 74, none, .ld (.t 73)⟩,
  ⟨some 75, none, .mov (.t 11)⟩,
  ⟨some 76, none, .ixS 2 (.t 74) (.t 75)⟩,
  ⟨some 77, none, .fld 1 (.t 76)⟩,
  ⟨some 78, none, .ld (.t 77)⟩,
  ⟨some 79, none, .lenL (.t 78)⟩,
  ⟨some 80, none, .bin .sub (.t 79) (.c (.i .i64 1))⟩,
  ⟨some 81, none, .ixS 1 (.t 72) (.t 80)⟩,
  ⟨some 82, none, .ld (.t 81)⟩,
  ⟨some 83, none, .bin .add (.t 66) (.t 82)⟩,
  ⟨some 10, none, .mov (.t 83)⟩]
def r63_17 : List O := [⟨some 84, none, .bin .add (.t 53) (.c (.i .i64 1))⟩,
  ⟨some 53, none, .mov (.t 84)⟩]
def b63_0 : C := .seq (.ops r63_12) (.seq (.cond (.t 54) (.skip) (.exit 0)) (.seq (.block 1 (.seq (.ops r63_13) (.seq (.seq (.ops r63_14) (.cond (.t 65) (.seq (.ops r63_15) (.ret)) (.skip))) (.draw r63_16 [])))) (.ops r63_17)))
def r63_18 : List O := [⟨some 85, none, .mov (.t 10)⟩,
  ⟨some 86, none, .fld 1 (.t 3)⟩,
  ⟨some 87, none, .ld (.t 86)⟩,
  ⟨some 88, none, .bin .eql (.t 85) (.t 87)⟩,
  ⟨some 4, none, .mov (.t 88)⟩,
  ⟨some 5, none, .mov (.c (.i .i64 0))⟩]
/-- sennet.rows.CheckPlan -/
def a63 : FI := ⟨89, [.tmp 4, .tmp 5], .seq (.ops r63_0) (.seq (.seq (.ops r63_1) (.seq (.ops r63_2) (.cond (.t 16) (.seq (.ops r63_3) (.ret)) (.skip)))) (.seq (.ops r63_4) (.seq (.seq (.ops r63_5) (.cond (.t 24) (.seq (.ops r63_6) (.ret)) (.skip))) (.seq (.seq (.draw r63_7 [(10, 12)]) (.cond (.t 48) (.seq (.ops r63_8) (.ret)) (.skip))) (.seq (.ops r63_9) (.seq (.ops r63_10) (.seq (.seq (.ops r63_11) (.block 0 (.loop b63_0))) (.seq (.ops r63_18) (.ret)))))))))⟩
def r64_0 : List O := [⟨some 2, none, .box (.t 0)⟩,
  ⟨some 3, none, .box (.t 1)⟩,
  ⟨some 4, none, .mov (.c (.b false))⟩,
  ⟨some 5, none, .mov (.c (.i .i64 0))⟩]
def r64_1 : List O := [⟨some 13, none, .ldn 2 (.t 2)⟩,
  ⟨some 14, none, .call (.f 71) [(.t 13)]⟩,
  ⟨some 6, none, .mov (.t 14)⟩]
def r64_2 : List O := [⟨some 15, none, .mov (.t 6)⟩,
  ⟨some 16, none, .bin .neq (.t 15) (.c (.i .i64 0))⟩]
def r64_3 : List O := [⟨some 17, none, .mov (.t 6)⟩,
  ⟨some 4, none, .mov (.c (.b false))⟩,
  ⟨some 5, none, .mov (.t 17)⟩]
def r64_4 : List O := [⟨some 18, none, .ldn 2 (.t 2)⟩,
  ⟨some 19, none, .call (.f 74) [(.t 18)]⟩,
  ⟨some 7, none, .mov (.t 19)⟩]
def r64_5 : List O := [⟨some 20, none, .fld 0 (.t 2)⟩,
  ⟨some 21, none, .ld (.t 20)⟩,
  ⟨some 22, none, .fld 0 (.t 3)⟩,
  ⟨some 23, none, .ld (.t 22)⟩,
  ⟨some 24, none, .call (.f 38) [(.t 21), (.t 23)]⟩,
  ⟨some 25, none, .bin .neq (.t 24) (.c (.i .i64 0))⟩,
  ⟨some 26, none, .mov (.t 25)⟩,
  ⟨some 27, some (26, false), .ldn 2 (.t 2)⟩,
  ⟨some 28, some (26, false), .fld 0 (.t 3)⟩,
  ⟨some 29, some (26, false), .ld (.t 28)⟩,
  ⟨some 30, some (26, false), .call (.f 83) [(.t 27), (.t 29)]⟩,
  ⟨some 31, some (26, false), .fld 1 (.t 3)⟩,
  ⟨some 32, some (26, false), .ld (.t 31)⟩,
  ⟨some 33, some (26, false), .bin .neq (.t 30) (.t 32)⟩,
  ⟨some 34, none, .pick (.t 26) (.c (.b true)) (.t 33)⟩,
  ⟨some 35, none, .mov (.t 34)⟩,
  ⟨some 36, some (35, false), .fld 2 (.t 3)⟩,
  ⟨some 37, some (35, false), .ld (.t 36)⟩,
  ⟨some 38, some (35, false), .lenL (.t 37)⟩,
  ⟨some 39, some (35, false), .mov (.t 7)⟩,
  ⟨some 40, some (35, false), .lenL (.t 39)⟩,
  ⟨some 41, some (35, false), .bin .neq (.t 38) (.t 40)⟩,
  ⟨some 42, none, .pick (.t 35) (.c (.b true)) (.t 41)⟩]
def r64_6 : List O := [⟨some 4, none, .mov (.c (.b false))⟩,
  ⟨some 5, none, .mov (.c (.i .i64 0))⟩]
def r64_7 : List O := [⟨some 8, none, .mov (.c (.i .i64 0))⟩]
def r64_8 : List O := [⟨some 9, none, .mov (.c (.i .i64 0))⟩]
def r64_9 : List O := [⟨some 43, none, .mov (.t 9)⟩,
  ⟨some 44, none, .mov (.t 7)⟩,
  ⟨some 45, none, .lenL (.t 44)⟩,
  ⟨some 46, none, .bin .lss (.t 43) (.t 45)⟩]
def r64_11 : List O := [⟨some 49, none, .fld 2 (.t 3)⟩,
  ⟨some 50, none, .ld (.t 49)⟩,
  ⟨some 51, none, .mov (.t 9)⟩,
  ⟨some 52, none, .ixS 2 (.t 50) (.t 51)⟩,
  ⟨some 53, none, .ldn 2 (.t 52)⟩,
  ⟨some 10, none, .alloc [.sn, .sn]⟩,
  ⟨none, none, .st 2 (.t 10) (.t 53)⟩]
def r64_12 : List O := [⟨some 54, none, .fld 0 (.t 10)⟩,
  ⟨some 55, none, .ld (.t 54)⟩,
  ⟨some 56, none, .mov (.t 7)⟩,
  ⟨some 57, none, .mov (.t 9)⟩,
  ⟨some 58, none, .ixS 1 (.t 56) (.t 57)⟩,
  ⟨some 59, none, .ld (.t 58)⟩,
  ⟨some 60, none, .call (.f 30) [(.t 55), (.t 59)]⟩,
  ⟨some 11, none, .mov (.t 60)⟩]
def r64_13 : List O := [⟨some 61, none, .mov (.t 11)⟩,
  ⟨some 62, none, .un .not (.t 61)⟩]
def r64_14 : List O := [⟨some 4, none, .mov (.c (.b false))⟩,
  ⟨some 5, none, .mov (.c (.i .i64 0))⟩]
def r64_15 : List O := [⟨some 63, none, .ldn 2 (.t 2)⟩,
  ⟨some 64, none, .ldn 2 (.t 10)⟩,
  ⟨some 65, none, .call (.f 107) [(.t 63), (.t 64)]⟩,
  ⟨some 12, none, .mov (.t 65)⟩]
def r64_16 : List O := [⟨some 66, none, .mov (.t 12)⟩,
  ⟨some 67, none, .un .not (.t 66)⟩]
def r64_17 : List O := [⟨some 4, none, .mov (.c (.b false))⟩,
  ⟨some 5, none, .mov (.c (.i .i64 0))⟩]
def r64_18 : List O := [⟨some 68, none, .mov (.t 8)⟩,
  ⟨some 69, none, .fld 1 (.t 10)⟩,
  ⟨some 70, none, .ld (.t 69)⟩,
  ⟨some 71, none, .fld 1 (.t 10)⟩,
  ⟨some 72, none, .ld (.t 71)⟩,
  ⟨some 73, none, .lenL (.t 72)⟩,
  ⟨some 74, none, .bin .sub (.t 73) (.c (.i .i64 1))⟩,
  ⟨some 75, none, .ixS 1 (.t 70) (.t 74)⟩,
  ⟨some 76, none, .ld (.t 75)⟩,
  ⟨some 77, none, .bin .add (.t 68) (.t 76)⟩,
  ⟨some 8, none, .mov (.t 77)⟩]
def r64_10 : List O := [⟨some 47, none, .mov (.t 9)⟩,
  ⟨some 48, none, .bin .add (.t 47) (.c (.i .i64 1))⟩,
  ⟨some 9, none, .mov (.t 48)⟩]
def b64_0 : C := .seq (.seq (.ops r64_9) (.cond (.t 46) (.skip) (.exit 0))) (.seq (.block 1 (.seq (.ops r64_11) (.seq (.draw r64_12 []) (.seq (.seq (.ops r64_13) (.cond (.t 62) (.seq (.ops r64_14) (.ret)) (.skip))) (.seq (.ops r64_15) (.seq (.seq (.ops r64_16) (.cond (.t 67) (.seq (.ops r64_17) (.ret)) (.skip))) (.ops r64_18))))))) (.ops r64_10))
def r64_19 : List O := [⟨some 78, none, .mov (.t 8)⟩,
  ⟨some 79, none, .fld 1 (.t 3)⟩,
  ⟨some 80, none, .ld (.t 79)⟩,
  ⟨some 81, none, .bin .eql (.t 78) (.t 80)⟩,
  ⟨some 4, none, .mov (.t 81)⟩,
  ⟨some 5, none, .mov (.c (.i .i64 0))⟩]
/-- sennet.sennetref04.CheckPlan -/
def a64 : FI := ⟨82, [.tmp 4, .tmp 5], .seq (.ops r64_0) (.seq (.ops r64_1) (.seq (.seq (.ops r64_2) (.cond (.t 16) (.seq (.ops r64_3) (.ret)) (.skip))) (.seq (.ops r64_4) (.seq (.seq (.draw r64_5 [(10, 12)]) (.cond (.t 42) (.seq (.ops r64_6) (.ret)) (.skip))) (.seq (.ops r64_7) (.seq (.seq (.ops r64_8) (.block 0 (.loop b64_0))) (.seq (.ops r64_19) (.ret))))))))⟩
def r65_0 : List O := [⟨some 0, none, .alloc [.i .i64 0, .sn]⟩]
def r65_1 : List O := [⟨some 1, none, .build [.i .i64 0, .i .i64 0, .i .i64 0, .i .i64 0] [(0, 1, (.c (.i .i64 0))), (1, 1, (.c (.i .i64 1))), (3, 1, (.c (.i .i64 5)))]⟩,
  ⟨some 2, none, .build [.i .i64 0, .i .i64 0, .i .i64 0, .i .i64 0] [(0, 1, (.c (.i .i64 1))), (1, 1, (.c (.i .i64 2))), (3, 1, (.c (.i .i64 3)))]⟩,
  ⟨some 3, none, .build [.i .i64 0, .i .i64 0, .i .i64 0, .i .i64 0] [(0, 1, (.c (.i .i64 2))), (1, 1, (.c (.i .i64 0))), (3, 1, (.c (.i .i64 2)))]⟩,
  ⟨some 4, none, .build [.i .i64 0, .i .i64 0, .i .i64 0, .i .i64 0] [(0, 1, (.c (.i .i64 3))), (1, 1, (.c (.i .i64 0))), (3, 1, (.c (.i .i64 1)))]⟩,
  ⟨some 5, none, .buildSl (List.replicate 16 (.i .i64 0)) 4 [(0, 4, (.t 1)), (4, 4, (.t 2)), (8, 4, (.t 3)), (12, 4, (.t 4))]⟩,
  ⟨some 6, none, .build [.i .i64 0, .sn] [(0, 1, (.c (.i .i64 4))), (1, 1, (.t 5))]⟩,
  ⟨none, none, .st 2 (.t 0) (.t 6)⟩]
/-- sennet.sennetlaw04.sample -/
def a65 : FI := ⟨7, [.cell 0 (some 2)], .seq (.ops r65_0) (.seq (.ops r65_1) (.ret))⟩
def r66_0 : List O := [⟨some 1, none, .box (.t 0)⟩,
  ⟨some 2, none, .mov (.c (.i .i64 0))⟩]
def r66_1 : List O := [⟨some 5, none, .fld 0 (.t 1)⟩,
  ⟨some 6, none, .ld (.t 5)⟩,
  ⟨some 7, none, .bin .gtr (.t 6) (.c (.i .i64 24))⟩]
def r66_2 : List O := [⟨some 2, none, .mov (.c (.i .i64 2))⟩]
def r66_3 : List O := [⟨some 8, none, .fld 0 (.t 1)⟩,
  ⟨some 9, none, .ld (.t 8)⟩,
  ⟨some 10, none, .bin .lss (.t 9) (.c (.i .i64 0))⟩]
def r66_4 : List O := [⟨some 2, none, .mov (.c (.i .i64 1))⟩]
def r66_5 : List O := [⟨some 11, none, .fld 1 (.t 1)⟩,
  ⟨some 12, none, .ld (.t 11)⟩,
  ⟨some 13, none, .lenL (.t 12)⟩,
  ⟨some 14, none, .mov (.c (.i .i64 0))⟩]
def r66_6 : List O := [⟨some 15, none, .bin .lss (.t 14) (.t 13)⟩]
def r66_7 : List O := [⟨some 16, none, .mov (.t 14)⟩,
  ⟨some 17, none, .ixS 4 (.t 12) (.t 14)⟩,
  ⟨some 18, none, .ldn 4 (.t 17)⟩,
  ⟨some 4, none, .alloc [.i .i64 0, .i .i64 0, .i .i64 0, .i .i64 0]⟩,
  ⟨some 3, none, .mov (.t 16)⟩,
  ⟨none, none, .st 4 (.t 4) (.t 18)⟩]
def r66_8 : List O := [⟨some 19, none, .fld 0 (.t 4)⟩,
  ⟨some 20, none, .ld (.t 19)⟩,
  ⟨some 21, none, .fld 0 (.t 1)⟩,
  ⟨some 22, none, .ld (.t 21)⟩,
  ⟨some 23, none, .bin .sub (.t 22) (.c (.i .i64 1))⟩,
  ⟨some 24, none, .call (.f 108) [(.t 20), (.c (.i .i64 0)), (.t 23)]⟩,
  ⟨some 25, none, .un .not (.t 24)⟩,
  ⟨some 26, none, .mov (.t 25)⟩,
  ⟨some 27, some (26, false), .fld 1 (.t 4)⟩,
  ⟨some 28, some (26, false), .ld (.t 27)⟩,
  ⟨some 29, some (26, false), .fld 0 (.t 1)⟩,
  ⟨some 30, some (26, false), .ld (.t 29)⟩,
  ⟨some 31, some (26, false), .bin .sub (.t 30) (.c (.i .i64 1))⟩,
  ⟨some 32, some (26, false), .call (.f 108) [(.t 28), (.c (.i .i64 0)), (.t 31)]⟩,
  ⟨some 33, some (26, false), .un .not (.t 32)⟩,
  ⟨some 34, none, .pick (.t 26) (.c (.b true)) (.t 33)⟩,
  ⟨some 35, none, .mov (.t 34)⟩,
  ⟨some 36, some (35, false), .fld 0 (.t 4)⟩,
  ⟨some 37, some (35, false), .ld (.t 36)⟩,
  ⟨some 38, some (35, false), .fld 1 (.t 4)⟩,
  ⟨some 39, some (35, false), .ld (.t 38)⟩,
  ⟨some 40, some (35, false), .bin .eql (.t 37) (.t 39)⟩,
  ⟨some 41, none, .pick (.t 35) (.c (.b true)) (.t 40)⟩,
  ⟨some 42, none, .mov (.t 41)⟩,
  ⟨some 43, some (42, false), .fld 2 (.t 4)⟩,
  ⟨some 44, some (42, false), .ld (.t 43)⟩,
  ⟨some 45, some (42, false), .call (.f 108) [(.t 44), (.c (.i .i64 0)), (.c (.i .i64 23))]⟩,
  ⟨some 46, some (42, false), .un .not (.t 45)⟩,
  ⟨some 47, none, .pick (.t 42) (.c (.b true)) (.t 46)⟩,
  ⟨some 48, none, .mov (.t 47)⟩,
  ⟨some 49, some (48, false), .fld 3 (.t 4)⟩,
  ⟨some 50, some (48, false), .ld (.t 49)⟩,
  ⟨some 51, some (48, false), .call (.f 108) [(.t 50), (.c (.i .i64 1)), (.c (.i .i64 1000))]⟩,
  ⟨some 52, some (48, false), .un .not (.t 51)⟩,
  ⟨some 53, none, .pick (.t 48) (.c (.b true)) (.t 52)⟩]
def r66_9 : List O := [⟨some 2, none, .mov (.c (.i .i64 1))⟩]
def r66_10 : List O := [⟨some 54, none, .mov (.t 3)⟩,
  ⟨some 55, none, .bin .gtr (.t 54) (.c (.i .i64 0))⟩,
  ⟨some 56, none, .mov (.t 55)⟩,
  ⟨some 57, some (56, true), .fld 1 (.t 1)⟩,
  ⟨some 58, some (56, true), .ld (.t 57)⟩,
  ⟨some 59, some (56, true), .mov (.t 3)⟩,
  ⟨some 60, some (56, true), .bin .sub (.t 59) (.c (.i .i64 1))⟩,
  ⟨some 61, some (56, true), .ixS 4 (.t 58) (.t 60)⟩,
  ⟨some 62, some (56, true), .ldn 4 (.t 61)⟩,
  ⟨some 63, some (56, true), .ldn 4 (.t 4)⟩,
  ⟨some 64, some (56, true), .call (.f 109) [(.t 62), (.t 63)]⟩,
  ⟨some 65, some (56, true), .bin .geq (.t 64) (.c (.i .i64 0))⟩,
  ⟨some 66, none, .pick (.t 56) (.t 65) (.c (.b false))⟩]
def r66_11 : List O := [⟨some 2, none, .mov (.c (.i .i64 1))⟩]
def r66_12 : List O := [⟨some 67, none, .bin .add (.t 14) (.c (.i .i64 1))⟩,
  ⟨some 14, none, .mov (.t 67)⟩]
def b66_0 : C := .seq (.ops r66_6) (.seq (.cond (.t 15) (.skip) (.exit 0)) (.seq (.block 1 (.seq (.ops r66_7) (.seq (.seq (.ops r66_8) (.cond (.t 53) (.seq (.ops r66_9) (.ret)) (.skip))) (.seq (.draw r66_10 []) (.cond (.t 66) (.seq (.ops r66_11) (.ret)) (.skip)))))) (.ops r66_12)))
def r66_13 : List O := [⟨some 2, none, .mov (.c (.i .i64 0))⟩]
/-- sennet.rank.Check -/
def a66 : FI := ⟨68, [.tmp 2], .seq (.ops r66_0) (.seq (.seq (.ops r66_1) (.cond (.t 7) (.seq (.ops r66_2) (.ret)) (.skip))) (.seq (.seq (.ops r66_3) (.cond (.t 10) (.seq (.ops r66_4) (.ret)) (.skip))) (.seq (.seq (.ops r66_5) (.block 0 (.loop b66_0))) (.seq (.ops r66_13) (.ret)))))⟩
def r67_0 : List O := [⟨some 1, none, .box (.t 0)⟩,
  ⟨some 2, none, .mov (.c (.sn))⟩,
  ⟨some 3, none, .mov (.c (.i .i64 0))⟩]
def r67_1 : List O := [⟨some 7, none, .ldn 2 (.t 1)⟩,
  ⟨some 8, none, .call (.f 39) [(.t 7)]⟩,
  ⟨some 4, none, .mov (.t 8)⟩]
def r67_2 : List O := [⟨some 9, none, .mov (.t 4)⟩,
  ⟨some 10, none, .lenL (.t 9)⟩,
  ⟨some 11, none, .mov (.c (.i .i64 0))⟩]
def r67_3 : List O := [⟨some 12, none, .bin .lss (.t 11) (.t 10)⟩]
def r67_4 : List O := [⟨some 13, none, .ixS 1 (.t 9) (.t 11)⟩,
  ⟨some 14, none, .ld (.t 13)⟩,
  ⟨some 6, none, .mov (.t 14)⟩]
def r67_5 : List O := [⟨some 15, none, .mov (.t 6)⟩,
  ⟨some 16, none, .lenL (.t 15)⟩,
  ⟨some 17, none, .bin .gtr (.t 16) (.c (.i .i64 10))⟩]
def r67_6 : List O := [⟨some 2, none, .mov (.c (.sn))⟩,
  ⟨some 3, none, .mov (.c (.i .i64 40))⟩]
def r67_7 : List O := [⟨some 18, none, .bin .add (.t 11) (.c (.i .i64 1))⟩,
  ⟨some 11, none, .mov (.t 18)⟩]
def b67_0 : C := .seq (.ops r67_3) (.seq (.cond (.t 12) (.skip) (.exit 0)) (.seq (.block 1 (.seq (.ops r67_4) (.seq (.ops r67_5) (.cond (.t 17) (.seq (.ops r67_6) (.ret)) (.skip))))) (.ops r67_7)))
def r67_8 : List O := [⟨some 19, none, .mov (.t 4)⟩,
  ⟨some 2, none, .mov (.t 19)⟩,
  ⟨some 3, none, .mov (.c (.i .i64 0))⟩]
/-- sennet.rows.circles -/
def a67 : FI := ⟨20, [.tmp 2, .tmp 3], .seq (.ops r67_0) (.seq (.ops r67_1) (.seq (.seq (.ops r67_2) (.block 0 (.loop b67_0))) (.seq (.ops r67_8) (.ret))))⟩
def r68_0 : List O := [⟨some 3, none, .box (.t 0)⟩,
  ⟨some 6, none, .mov (.c (.pn))⟩]
def r68_1 : List O := [⟨some 10, none, .ldn 2 (.t 3)⟩,
  ⟨some 11, none, .call (.f 97) [(.t 10)]⟩,
  ⟨some 12, none, .fld 0 (.t 3)⟩,
  ⟨some 13, none, .ld (.t 12)⟩,
  ⟨some 14, none, .mov (.t 1)⟩,
  ⟨some 15, none, .mov (.t 2)⟩,
  ⟨some 16, none, .build (List.replicate 577 (.i .i64 0) ++ [.sn, .sn] ++ [.i .i64 0]) [(0, 576, (.t 11)), (576, 1, (.t 13)), (577, 1, (.t 14)), (579, 1, (.t 15))]⟩,
  ⟨some 17, none, .box (.t 16)⟩,
  ⟨some 7, none, .mov (.t 17)⟩]
def r68_2 : List O := [⟨some 18, none, .mov (.t 1)⟩,
  ⟨some 19, none, .lenL (.t 18)⟩,
  ⟨some 20, none, .mov (.c (.i .i64 0))⟩]
def r68_3 : List O := [⟨some 21, none, .bin .lss (.t 20) (.t 19)⟩]
def r68_4 : List O := [⟨some 22, none, .ixS 1 (.t 18) (.t 20)⟩,
  ⟨some 23, none, .ld (.t 22)⟩,
  ⟨some 9, none, .mov (.t 23)⟩]
def r68_5 : List O := [⟨some 24, none, .mov (.t 7)⟩,
  ⟨some 25, none, .mov (.t 7)⟩,
  ⟨some 26, none, .nilck (.t 25)⟩,
  ⟨some 27, none, .fld 578 (.t 26)⟩,
  ⟨some 28, none, .ld (.t 27)⟩,
  ⟨some 29, none, .mov (.t 7)⟩,
  ⟨some 30, none, .nilck (.t 29)⟩,
  ⟨some 31, none, .fld 0 (.t 30)⟩,
  ⟨some 32, none, .mov (.t 9)⟩,
  ⟨some 33, none, .mov (.t 2)⟩,
  ⟨some 34, none, .call (.f 110) [(.t 31), (.t 32), (.t 33)]⟩,
  ⟨some 35, none, .buildSl [.sn] 1 [(0, 1, (.t 34))]⟩,
  ⟨some 36, none, .app 1 24 (.t 28) (.t 35)⟩,
  ⟨some 37, none, .nilck (.t 24)⟩,
  ⟨some 38, none, .fld 578 (.t 37)⟩,
  ⟨none, none, .st 1 (.t 38) (.t 36)⟩]
def r68_6 : List O := [⟨some 39, none, .bin .add (.t 20) (.c (.i .i64 1))⟩,
  ⟨some 20, none, .mov (.t 39)⟩]
def b68_0 : C := .seq (.ops r68_3) (.seq (.cond (.t 21) (.skip) (.exit 0)) (.seq (.block 1 (.seq (.ops r68_4) (.draw r68_5 [(4, 10)]))) (.ops r68_6)))
def r68_7 : List O := [⟨some 40, none, .mov (.t 7)⟩,
  ⟨some 6, none, .mov (.t 40)⟩]
/-- sennet.rows.begin -/
def a68 : FI := ⟨41, [.tmp 6], .seq (.ops r68_0) (.seq (.draw r68_1 [(1, 3)]) (.seq (.seq (.ops r68_2) (.block 0 (.loop b68_0))) (.seq (.ops r68_7) (.ret))))⟩
def r69_0 : List O := [⟨some 2, none, .mov (.c (.sn))⟩,
  ⟨some 3, none, .mov (.c (.i .i64 0))⟩]
def r69_1 : List O := [⟨some 12, none, .mov (.t 0)⟩,
  ⟨some 13, none, .nilck (.t 12)⟩,
  ⟨some 14, none, .fld 576 (.t 13)⟩,
  ⟨some 15, none, .ld (.t 14)⟩,
  ⟨some 16, none, .mkSl [.b false] 1 (.t 15) (.t 15)⟩,
  ⟨some 4, none, .mov (.t 16)⟩]
def r69_2 : List O := [⟨some 17, none, .mov (.t 4)⟩,
  ⟨some 18, none, .lenL (.t 17)⟩,
  ⟨some 19, none, .mov (.c (.i .i64 0))⟩]
def r69_3 : List O := [⟨some 20, none, .bin .lss (.t 19) (.t 18)⟩]
def r69_4 : List O := [⟨some 21, none, .mov (.t 19)⟩,
  ⟨some 5, none, .mov (.t 21)⟩]
def r69_5 : List O := [⟨some 22, none, .mov (.t 4)⟩,
  ⟨some 23, none, .mov (.t 5)⟩,
  ⟨some 24, none, .ixS 1 (.t 22) (.t 23)⟩,
  ⟨none, none, .st 1 (.t 24) (.c (.b true))⟩]
def r69_6 : List O := [⟨some 25, none, .bin .add (.t 19) (.c (.i .i64 1))⟩,
  ⟨some 19, none, .mov (.t 25)⟩]
def b69_0 : C := .seq (.ops r69_3) (.seq (.cond (.t 20) (.skip) (.exit 0)) (.seq (.block 1 (.seq (.ops r69_4) (.ops r69_5))) (.ops r69_6)))
def r69_7 : List O := [⟨some 26, none, .mov (.t 0)⟩,
  ⟨some 27, none, .mov (.t 4)⟩,
  ⟨some 28, none, .call (.f 111) [(.t 26), (.t 27)]⟩,
  ⟨some 6, none, .mov (.t 28)⟩]
def r69_8 : List O := [⟨some 7, none, .mov (.c (.sn))⟩]
def r69_9 : List O := [⟨some 29, none, .mov (.t 6)⟩,
  ⟨some 8, none, .mov (.t 29)⟩]
def r69_10 : List O := [⟨some 30, none, .mov (.t 0)⟩,
  ⟨some 31, none, .nilck (.t 30)⟩,
  ⟨some 32, none, .fld 576 (.t 31)⟩,
  ⟨some 33, none, .ld (.t 32)⟩,
  ⟨some 34, none, .mov (.c (.i .i64 0))⟩]
def r69_11 : List O := [⟨some 35, none, .bin .lss (.t 34) (.t 33)⟩]
def r69_12 : List O := [⟨some 36, none, .mov (.t 0)⟩,
  ⟨some 37, none, .nilck (.t 36)⟩,
  ⟨some 38, none, .fld 576 (.t 37)⟩,
  ⟨some 39, none, .ld (.t 38)⟩,
  ⟨some 40, none, .mov (.c (.i .i64 0))⟩]
def r69_13 : List O := [⟨some 41, none, .bin .lss (.t 40) (.t 39)⟩]
def r69_14 : List O := [⟨some 42, none, .mov (.t 40)⟩,
  ⟨some 9, none, .mov (.t 42)⟩]
def r69_15 : List O := [⟨some 43, none, .mov (.t 4)⟩,
  ⟨some 44, none, .mov (.t 9)⟩,
  ⟨some 45, none, .ixS 1 (.t 43) (.t 44)⟩,
  ⟨some 46, none, .ld (.t 45)⟩,
  ⟨some 47, none, .un .not (.t 46)⟩]
def r69_16 : List O := [⟨some 48, none, .mov (.t 0)⟩,
  ⟨some 49, none, .mov (.t 4)⟩,
  ⟨some 50, none, .mov (.t 9)⟩,
  ⟨some 51, none, .call (.f 112) [(.t 48), (.t 49), (.t 50)]⟩,
  ⟨some 10, none, .mov (.t 51)⟩]
def r69_17 : List O := [⟨some 52, none, .mov (.t 10)⟩,
  ⟨some 53, none, .bin .geq (.t 52) (.c (.i .i64 1099511627776))⟩]
def r69_18 : List O := [⟨some 54, none, .mov (.t 4)⟩,
  ⟨some 55, none, .mov (.t 9)⟩,
  ⟨some 56, none, .ixS 1 (.t 54) (.t 55)⟩,
  ⟨none, none, .st 1 (.t 56) (.c (.b false))⟩]
def r69_19 : List O := [⟨some 57, none, .mov (.t 0)⟩,
  ⟨some 58, none, .mov (.t 4)⟩,
  ⟨some 59, none, .call (.f 111) [(.t 57), (.t 58)]⟩,
  ⟨some 11, none, .mov (.t 59)⟩]
def r69_20 : List O := [⟨some 60, none, .mov (.t 10)⟩,
  ⟨some 61, none, .mov (.t 11)⟩,
  ⟨some 62, none, .bin .add (.t 60) (.t 61)⟩,
  ⟨some 63, none, .mov (.t 8)⟩,
  ⟨some 64, none, .bin .eql (.t 62) (.t 63)⟩]
def r69_21 : List O := [⟨some 65, none, .mov (.t 11)⟩,
  ⟨some 8, none, .mov (.t 65)⟩]
def r69_22 : List O := [⟨some 66, none, .mov (.t 7)⟩,
  ⟨some 67, none, .mov (.t 9)⟩,
  ⟨some 68, none, .buildSl [.i .i64 0] 1 [(0, 1, (.t 67))]⟩,
  ⟨some 69, none, .app 1 8 (.t 66) (.t 68)⟩,
  ⟨some 7, none, .mov (.t 69)⟩]
def r69_23 : List O := [⟨some 70, none, .mov (.t 4)⟩,
  ⟨some 71, none, .mov (.t 9)⟩,
  ⟨some 72, none, .ixS 1 (.t 70) (.t 71)⟩,
  ⟨none, none, .st 1 (.t 72) (.c (.b true))⟩]
def r69_24 : List O := [⟨some 73, none, .bin .add (.t 40) (.c (.i .i64 1))⟩,
  ⟨some 40, none, .mov (.t 73)⟩]
def b69_1 : C := .seq (.ops r69_13) (.seq (.cond (.t 41) (.skip) (.exit 4)) (.seq (.block 5 (.seq (.ops r69_14) (.seq (.seq (.ops r69_15) (.cond (.t 47) (.exit 5) (.skip))) (.seq (.ops r69_16) (.seq (.seq (.ops r69_17) (.cond (.t 53) (.exit 5) (.skip))) (.seq (.ops r69_18) (.seq (.seq (.ops r69_19) (.seq (.ops r69_20) (.cond (.t 64) (.seq (.ops r69_21) (.seq (.ops r69_22) (.exit 4))) (.skip)))) (.ops r69_23)))))))) (.ops r69_24)))
def r69_25 : List O := [⟨some 74, none, .bin .add (.t 34) (.c (.i .i64 1))⟩,
  ⟨some 34, none, .mov (.t 74)⟩]
def b69_2 : C := .seq (.ops r69_11) (.seq (.cond (.t 35) (.skip) (.exit 2)) (.seq (.block 3 (.seq (.skip) (.seq (.ops r69_12) (.block 4 (.loop b69_1))))) (.ops r69_25)))
def r69_26 : List O := [⟨some 75, none, .mov (.t 7)⟩,
  ⟨some 76, none, .mov (.t 6)⟩,
  ⟨some 2, none, .mov (.t 75)⟩,
  ⟨some 3, none, .mov (.t 76)⟩]
/-- (*sennet.rows.search).first -/
def a69 : FI := ⟨77, [.tmp 2, .tmp 3], .seq (.ops r69_0) (.seq (.ops r69_1) (.seq (.seq (.ops r69_2) (.block 0 (.loop b69_0))) (.seq (.ops r69_7) (.seq (.ops r69_8) (.seq (.ops r69_9) (.seq (.seq (.ops r69_10) (.block 2 (.loop b69_2))) (.seq (.ops r69_26) (.ret))))))))⟩
def r70_0 : List O := [⟨some 2, none, .mov (.c (.sn))⟩]
def r70_1 : List O := [⟨some 3, none, .mov (.t 0)⟩,
  ⟨some 4, none, .eqv false (.slice) (.t 3) (.c (.sn))⟩]
def r70_2 : List O := [⟨some 2, none, .mov (.c (.sn))⟩]
def r70_3 : List O := [⟨some 5, none, .buildSl [] 0 []⟩,
  ⟨some 6, none, .mov (.t 0)⟩,
  ⟨some 7, none, .app 1 8 (.t 5) (.t 6)⟩,
  ⟨some 2, none, .mov (.t 7)⟩]
/-- slices.Clone[[]int,int] -/
def a70 : FI := ⟨8, [.tmp 2], .seq (.ops r70_0) (.seq (.seq (.ops r70_1) (.cond (.t 4) (.seq (.ops r70_2) (.ret)) (.skip))) (.seq (.ops r70_3) (.ret)))⟩
def r71_0 : List O := [⟨some 1, none, .box (.t 0)⟩,
  ⟨some 2, none, .mov (.c (.i .i64 0))⟩]
def r71_1 : List O := [⟨some 6, none, .ldn 2 (.t 1)⟩,
  ⟨some 7, none, .call (.f 76) [(.t 6)]⟩,
  ⟨some 3, none, .mov (.t 7)⟩]
def r71_2 : List O := [⟨some 8, none, .mov (.t 3)⟩,
  ⟨some 9, none, .bin .neq (.t 8) (.c (.i .i64 0))⟩]
def r71_3 : List O := [⟨some 10, none, .mov (.t 3)⟩,
  ⟨some 2, none, .mov (.t 10)⟩]
def r71_4 : List O := [⟨some 11, none, .ldn 2 (.t 1)⟩,
  ⟨some 12, none, .call (.f 74) [(.t 11)]⟩,
  ⟨some 4, none, .mov (.t 12)⟩]
def r71_5 : List O := [⟨some 5, none, .mov (.c (.i .i64 0))⟩]
def r71_6 : List O := [⟨some 13, none, .mov (.t 5)⟩,
  ⟨some 14, none, .mov (.t 4)⟩,
  ⟨some 15, none, .lenL (.t 14)⟩,
  ⟨some 16, none, .bin .lss (.t 13) (.t 15)⟩]
def r71_8 : List O := [⟨some 19, none, .mov (.t 4)⟩,
  ⟨some 20, none, .mov (.t 5)⟩,
  ⟨some 21, none, .ixS 1 (.t 19) (.t 20)⟩,
  ⟨some 22, none, .ld (.t 21)⟩,
  ⟨some 23, none, .lenL (.t 22)⟩,
  ⟨some 24, none, .bin .gtr (.t 23) (.c (.i .i64 10))⟩]
def r71_9 : List O := [⟨some 2, none, .mov (.c (.i .i64 40))⟩]
def r71_7 : List O := [⟨some 17, none, .mov (.t 5)⟩,
  ⟨some 18, none, .bin .add (.t 17) (.c (.i .i64 1))⟩,
  ⟨some 5, none, .mov (.t 18)⟩]
def b71_0 : C := .seq (.seq (.ops r71_6) (.cond (.t 16) (.skip) (.exit 0))) (.seq (.block 1 (.seq (.ops r71_8) (.cond (.t 24) (.seq (.ops r71_9) (.ret)) (.skip)))) (.ops r71_7))
def r71_10 : List O := [⟨some 2, none, .mov (.c (.i .i64 0))⟩]
/-- sennet.sennetref04.circled -/
def a71 : FI := ⟨25, [.tmp 2], .seq (.ops r71_0) (.seq (.ops r71_1) (.seq (.seq (.ops r71_2) (.cond (.t 9) (.seq (.ops r71_3) (.ret)) (.skip))) (.seq (.ops r71_4) (.seq (.seq (.ops r71_5) (.block 0 (.loop b71_0))) (.seq (.ops r71_10) (.ret))))))⟩
def r72_0 : List O := [⟨some 5, none, .box (.t 0)⟩,
  ⟨some 9, none, .box (.t 4)⟩,
  ⟨some 10, none, .alloc [.b false, .i .i64 0, .sn]⟩]
def r72_1 : List O := [⟨some 16, none, .mov (.t 2)⟩,
  ⟨some 17, none, .lenL (.t 16)⟩,
  ⟨some 18, none, .mov (.t 1)⟩,
  ⟨some 19, none, .lenL (.t 18)⟩,
  ⟨some 20, none, .bin .eql (.t 17) (.t 19)⟩]
def r72_2 : List O := [⟨some 11, none, .mov (.c (.b false))⟩]
def r72_3 : List O := [⟨some 12, none, .mov (.c (.i .i64 0))⟩]
def r72_4 : List O := [⟨some 21, none, .mov (.t 12)⟩,
  ⟨some 22, none, .fld 1 (.t 5)⟩,
  ⟨some 23, none, .ld (.t 22)⟩,
  ⟨some 24, none, .lenL (.t 23)⟩,
  ⟨some 25, none, .bin .lss (.t 21) (.t 24)⟩]
def r72_6 : List O := [⟨some 28, none, .fld 1 (.t 5)⟩,
  ⟨some 29, none, .ld (.t 28)⟩,
  ⟨some 30, none, .mov (.t 12)⟩,
  ⟨some 31, none, .ixS 4 (.t 29) (.t 30)⟩,
  ⟨some 32, none, .ldn 4 (.t 31)⟩,
  ⟨some 33, none, .mov (.t 2)⟩,
  ⟨some 34, none, .call (.f 85) [(.t 32), (.t 33)]⟩,
  ⟨some 13, none, .mov (.t 34)⟩]
def r72_7 : List O := [⟨some 35, none, .mov (.t 11)⟩,
  ⟨some 36, none, .mov (.t 35)⟩,
  ⟨some 37, some (36, false), .mov (.t 13)⟩,
  ⟨some 38, some (36, false), .mov (.t 37)⟩,
  ⟨some 39, some (38, true), .fld 1 (.t 5)⟩,
  ⟨some 40, some (38, true), .ld (.t 39)⟩,
  ⟨some 41, some (38, true), .mov (.t 12)⟩,
  ⟨some 42, some (38, true), .ixS 4 (.t 40) (.t 41)⟩,
  ⟨some 43, some (38, true), .fld 0 (.t 42)⟩,
  ⟨some 44, some (38, true), .ld (.t 43)⟩,
  ⟨some 45, some (38, true), .mov (.t 3)⟩,
  ⟨some 46, some (38, true), .bin .eql (.t 44) (.t 45)⟩,
  ⟨some 47, some (36, false), .pick (.t 38) (.t 46) (.c (.b false))⟩,
  ⟨some 48, none, .pick (.t 36) (.c (.b true)) (.t 47)⟩,
  ⟨some 11, none, .mov (.t 48)⟩]
def r72_5 : List O := [⟨some 26, none, .mov (.t 12)⟩,
  ⟨some 27, none, .bin .add (.t 26) (.c (.i .i64 1))⟩,
  ⟨some 12, none, .mov (.t 27)⟩]
def b72_0 : C := .seq (.seq (.ops r72_4) (.cond (.t 25) (.skip) (.exit 0))) (.seq (.block 1 (.seq (.ops r72_6) (.ops r72_7))) (.ops r72_5))
def r72_8 : List O := [⟨some 49, none, .mov (.t 11)⟩]
def r72_9 : List O := [⟨some 50, none, .ldn 3 (.t 9)⟩,
  ⟨none, none, .st 3 (.t 10) (.t 50)⟩]
def r72_10 : List O := [⟨some 51, none, .ldn 3 (.t 9)⟩,
  ⟨some 52, none, .ldn 2 (.t 5)⟩,
  ⟨some 53, none, .mov (.t 2)⟩,
  ⟨some 54, none, .call (.f 83) [(.t 52), (.t 53)]⟩,
  ⟨some 55, none, .mov (.t 2)⟩,
  ⟨some 56, none, .call (.f 113) [(.t 51), (.t 54), (.t 55)]⟩,
  ⟨none, none, .st 3 (.t 10) (.t 56)⟩]
def r72_11 : List O := [⟨some 14, none, .mov (.c (.i .i64 0))⟩]
def r72_12 : List O := [⟨some 57, none, .mov (.t 14)⟩,
  ⟨some 58, none, .mov (.t 1)⟩,
  ⟨some 59, none, .lenL (.t 58)⟩,
  ⟨some 60, none, .bin .lss (.t 57) (.t 59)⟩]
def r72_14 : List O := [⟨some 63, none, .mov (.t 2)⟩,
  ⟨some 64, none, .mov (.t 1)⟩,
  ⟨some 65, none, .mov (.t 14)⟩,
  ⟨some 66, none, .ixS 1 (.t 64) (.t 65)⟩,
  ⟨some 67, none, .ld (.t 66)⟩,
  ⟨some 68, none, .call (.f 102) [(.t 63), (.t 67)]⟩,
  ⟨some 69, none, .bin .geq (.t 68) (.c (.i .i64 0))⟩]
def r72_15 : List O := [⟨some 70, none, .buildSl [] 0 []⟩,
  ⟨some 71, none, .mov (.t 2)⟩,
  ⟨some 72, none, .app 1 8 (.t 70) (.t 71)⟩,
  ⟨some 73, none, .mov (.t 1)⟩,
  ⟨some 74, none, .mov (.t 14)⟩,
  ⟨some 75, none, .ixS 1 (.t 73) (.t 74)⟩,
  ⟨some 76, none, .ld (.t 75)⟩,
  ⟨some 77, none, .buildSl [.i .i64 0] 1 [(0, 1, (.t 76))]⟩,
  ⟨some 78, none, .app 1 8 (.t 72) (.t 77)⟩,
  ⟨some 15, none, .mov (.t 78)⟩]
def r72_16 : List O := [⟨some 79, none, .ldn 2 (.t 5)⟩,
  ⟨some 80, none, .mov (.t 1)⟩,
  ⟨some 81, none, .mov (.t 15)⟩,
  ⟨some 82, none, .mov (.t 3)⟩,
  ⟨some 83, none, .ldn 3 (.t 9)⟩,
  ⟨some 84, none, .call (.f 72) [(.t 79), (.t 80), (.t 81), (.t 82), (.t 83)]⟩,
  ⟨none, none, .st 3 (.t 9) (.t 84)⟩]
def r72_13 : List O := [⟨some 61, none, .mov (.t 14)⟩,
  ⟨some 62, none, .bin .add (.t 61) (.c (.i .i64 1))⟩,
  ⟨some 14, none, .mov (.t 62)⟩]
def b72_1 : C := .seq (.seq (.ops r72_12) (.cond (.t 60) (.skip) (.exit 2))) (.seq (.block 3 (.seq (.seq (.ops r72_14) (.cond (.t 69) (.exit 3) (.skip))) (.seq (.draw r72_15 [(2, 6)]) (.ops r72_16)))) (.ops r72_13))
def r72_17 : List O := [⟨some 85, none, .ldn 3 (.t 9)⟩,
  ⟨none, none, .st 3 (.t 10) (.t 85)⟩]
/-- sennet.sennetref04.search -/
def a72 : FI := ⟨86, [.cell 10 (some 3)], .seq (.ops r72_0) (.seq (.seq (.ops r72_1) (.cond (.t 20) (.seq (.ops r72_2) (.seq (.seq (.ops r72_3) (.block 0 (.loop b72_0))) (.seq (.seq (.ops r72_8) (.cond (.t 49) (.seq (.ops r72_9) (.ret)) (.skip))) (.seq (.draw r72_10 [(0, 3)]) (.ret))))) (.skip))) (.seq (.seq (.ops r72_11) (.block 2 (.loop b72_1))) (.seq (.ops r72_17) (.ret))))⟩
def r73_0 : List O := [⟨some 1, none, .box (.t 0)⟩,
  ⟨some 2, none, .mov (.c (.sn))⟩]
def r73_1 : List O := [⟨some 3, none, .mov (.c (.sn))⟩]
def r73_2 : List O := [⟨some 4, none, .mov (.c (.i .i64 0))⟩]
def r73_3 : List O := [⟨some 5, none, .mov (.t 4)⟩,
  ⟨some 6, none, .fld 0 (.t 1)⟩,
  ⟨some 7, none, .ld (.t 6)⟩,
  ⟨some 8, none, .bin .lss (.t 5) (.t 7)⟩]
def r73_5 : List O := [⟨some 11, none, .mov (.t 3)⟩,
  ⟨some 12, none, .mov (.t 4)⟩,
  ⟨some 13, none, .buildSl [.i .i64 0] 1 [(0, 1, (.t 12))]⟩,
  ⟨some 14, none, .app 1 8 (.t 11) (.t 13)⟩,
  ⟨some 3, none, .mov (.t 14)⟩]
def r73_4 : List O := [⟨some 9, none, .mov (.t 4)⟩,
  ⟨some 10, none, .bin .add (.t 9) (.c (.i .i64 1))⟩,
  ⟨some 4, none, .mov (.t 10)⟩]
def b73_0 : C := .seq (.seq (.ops r73_3) (.cond (.t 8) (.skip) (.exit 0))) (.seq (.block 1 (.ops r73_5)) (.ops r73_4))
def r73_6 : List O := [⟨some 15, none, .mov (.t 3)⟩,
  ⟨some 2, none, .mov (.t 15)⟩]
/-- sennet.sennetref04.all -/
def a73 : FI := ⟨16, [.tmp 2], .seq (.ops r73_0) (.seq (.ops r73_1) (.seq (.seq (.ops r73_2) (.block 0 (.loop b73_0))) (.seq (.ops r73_6) (.ret))))⟩
def r74_0 : List O := [⟨some 1, none, .box (.t 0)⟩,
  ⟨some 2, none, .mov (.c (.sn))⟩]
def r74_1 : List O := [⟨some 6, none, .ldn 2 (.t 1)⟩,
  ⟨some 7, none, .call (.f 114) [(.t 6)]⟩,
  ⟨some 3, none, .mov (.t 7)⟩]
def r74_2 : List O := [⟨some 4, none, .mov (.c (.sn))⟩]
def r74_3 : List O := [⟨some 5, none, .mov (.c (.i .i64 0))⟩]
def r74_4 : List O := [⟨some 8, none, .mov (.t 5)⟩,
  ⟨some 9, none, .mov (.t 3)⟩,
  ⟨some 10, none, .lenL (.t 9)⟩,
  ⟨some 11, none, .bin .lss (.t 8) (.t 10)⟩]
def r74_6 : List O := [⟨some 14, none, .mov (.t 3)⟩,
  ⟨some 15, none, .mov (.t 5)⟩,
  ⟨some 16, none, .ixS 1 (.t 14) (.t 15)⟩,
  ⟨some 17, none, .ld (.t 16)⟩,
  ⟨some 18, none, .lenL (.t 17)⟩,
  ⟨some 19, none, .bin .gtr (.t 18) (.c (.i .i64 1))⟩]
def r74_7 : List O := [⟨some 20, none, .mov (.t 4)⟩,
  ⟨some 21, none, .mov (.t 3)⟩,
  ⟨some 22, none, .mov (.t 5)⟩,
  ⟨some 23, none, .ixS 1 (.t 21) (.t 22)⟩,
  ⟨some 24, none, .ld (.t 23)⟩,
  ⟨some 25, none, .buildSl [.sn] 1 [(0, 1, (.t 24))]⟩,
  ⟨some 26, none, .app 1 24 (.t 20) (.t 25)⟩,
  ⟨some 4, none, .mov (.t 26)⟩]
def r74_5 : List O := [⟨some 12, none, .mov (.t 5)⟩,
  ⟨some 13, none, .bin .add (.t 12) (.c (.i .i64 1))⟩,
  ⟨some 5, none, .mov (.t 13)⟩]
def b74_0 : C := .seq (.seq (.ops r74_4) (.cond (.t 11) (.skip) (.exit 0))) (.seq (.block 1 (.seq (.ops r74_6) (.cond (.t 19) (.ops r74_7) (.skip)))) (.ops r74_5))
def r74_8 : List O := [⟨some 27, none, .mov (.t 4)⟩,
  ⟨some 2, none, .mov (.t 27)⟩]
/-- sennet.sennetref03.Circles -/
def a74 : FI := ⟨28, [.tmp 2], .seq (.ops r74_0) (.seq (.ops r74_1) (.seq (.ops r74_2) (.seq (.seq (.ops r74_3) (.block 0 (.loop b74_0))) (.seq (.ops r74_8) (.ret)))))⟩
def r75_0 : List O := [⟨some 2, none, .box (.t 0)⟩,
  ⟨some 4, none, .alloc [.sn, .sn]⟩]
def r75_1 : List O := [⟨some 11, none, .buildSl [.i .i64 0] 1 [(0, 1, (.c (.i .i64 0)))]⟩,
  ⟨some 5, none, .mov (.t 11)⟩]
def r75_2 : List O := [⟨some 6, none, .mov (.c (.i .i64 1))⟩]
def r75_3 : List O := [⟨some 12, none, .mov (.t 6)⟩,
  ⟨some 13, none, .mov (.t 1)⟩,
  ⟨some 14, none, .lenL (.t 13)⟩,
  ⟨some 15, none, .conv .u64 (.t 14)⟩,
  ⟨some 16, none, .bin .shl (.c (.i .i64 1)) (.t 15)⟩,
  ⟨some 17, none, .bin .lss (.t 12) (.t 16)⟩]
def r75_5 : List O := [⟨some 7, none, .mov (.c (.i .i64 (-1)))⟩]
def r75_6 : List O := [⟨some 8, none, .mov (.c (.i .i64 0))⟩]
def r75_7 : List O := [⟨some 20, none, .mov (.t 8)⟩,
  ⟨some 21, none, .mov (.t 1)⟩,
  ⟨some 22, none, .lenL (.t 21)⟩,
  ⟨some 23, none, .bin .lss (.t 20) (.t 22)⟩]
def r75_9 : List O := [⟨some 26, none, .mov (.t 6)⟩,
  ⟨some 27, none, .mov (.t 8)⟩,
  ⟨some 28, none, .conv .u64 (.t 27)⟩,
  ⟨some 29, none, .bin .shr (.t 26) (.t 28)⟩,
  ⟨some 30, none, .bin .and (.t 29) (.c (.i .i64 1))⟩,
  ⟨some 31, none, .bin .eql (.t 30) (.c (.i .i64 0))⟩]
def r75_10 : List O := [⟨some 32, none, .mov (.t 6)⟩,
  ⟨some 33, none, .mov (.t 8)⟩,
  ⟨some 34, none, .conv .u64 (.t 33)⟩,
  ⟨some 35, none, .bin .shl (.c (.i .i64 1)) (.t 34)⟩,
  ⟨some 36, none, .bin .sub (.t 32) (.t 35)⟩,
  ⟨some 9, none, .mov (.t 36)⟩]
def r75_11 : List O := [⟨some 37, none, .mov (.t 5)⟩,
  ⟨some 38, none, .mov (.t 9)⟩,
  ⟨some 39, none, .ixS 1 (.t 37) (.t 38)⟩,
  ⟨some 40, none, .ld (.t 39)⟩,
  ⟨some 41, none, .ldn 2 (.t 2)⟩,
  ⟨some 42, none, .mov (.t 1)⟩,
  ⟨some 43, none, .mov (.t 8)⟩,
  ⟨some 44, none, .ixS 1 (.t 42) (.t 43)⟩,
  ⟨some 45, none, .ld (.t 44)⟩,
  ⟨some 46, none, .mov (.t 1)⟩,
  ⟨some 47, none, .mov (.t 9)⟩,
  ⟨some 48, none, .call (.f 116) [(.t 46), (.t 47)]⟩,
  ⟨some 49, none, .call (.f 115) [(.t 41), (.t 45), (.t 48)]⟩,
  ⟨some 50, none, .bin .add (.t 40) (.t 49)⟩,
  ⟨some 10, none, .mov (.t 50)⟩]
def r75_12 : List O := [⟨some 51, none, .mov (.t 7)⟩,
  ⟨some 52, none, .bin .lss (.t 51) (.c (.i .i64 0))⟩,
  ⟨some 53, none, .mov (.t 52)⟩,
  ⟨some 54, some (53, false), .mov (.t 10)⟩,
  ⟨some 55, some (53, false), .mov (.t 7)⟩,
  ⟨some 56, some (53, false), .bin .lss (.t 54) (.t 55)⟩,
  ⟨some 57, none, .pick (.t 53) (.c (.b true)) (.t 56)⟩]
def r75_13 : List O := [⟨some 58, none, .mov (.t 10)⟩,
  ⟨some 7, none, .mov (.t 58)⟩]
def r75_8 : List O := [⟨some 24, none, .mov (.t 8)⟩,
  ⟨some 25, none, .bin .add (.t 24) (.c (.i .i64 1))⟩,
  ⟨some 8, none, .mov (.t 25)⟩]
def b75_0 : C := .seq (.seq (.ops r75_7) (.cond (.t 23) (.skip) (.exit 2))) (.seq (.block 3 (.seq (.seq (.ops r75_9) (.cond (.t 31) (.exit 3) (.skip))) (.seq (.ops r75_10) (.seq (.draw r75_11 [(3, 11), (4, 11), (8, 11), (3, 12)]) (.seq (.ops r75_12) (.cond (.t 57) (.ops r75_13) (.skip))))))) (.ops r75_8))
def r75_14 : List O := [⟨some 59, none, .mov (.t 5)⟩,
  ⟨some 60, none, .mov (.t 7)⟩,
  ⟨some 61, none, .buildSl [.i .i64 0] 1 [(0, 1, (.t 60))]⟩,
  ⟨some 62, none, .app 1 8 (.t 59) (.t 61)⟩,
  ⟨some 5, none, .mov (.t 62)⟩]
def r75_4 : List O := [⟨some 18, none, .mov (.t 6)⟩,
  ⟨some 19, none, .bin .add (.t 18) (.c (.i .i64 1))⟩,
  ⟨some 6, none, .mov (.t 19)⟩]
def b75_1 : C := .seq (.seq (.ops r75_3) (.cond (.t 17) (.skip) (.exit 0))) (.seq (.block 1 (.seq (.ops r75_5) (.seq (.seq (.ops r75_6) (.block 2 (.loop b75_0))) (.ops r75_14)))) (.ops r75_4))
def r75_15 : List O := [⟨some 63, none, .buildSl [] 0 []⟩,
  ⟨some 64, none, .mov (.t 1)⟩,
  ⟨some 65, none, .app 1 8 (.t 63) (.t 64)⟩,
  ⟨some 66, none, .mov (.t 5)⟩,
  ⟨some 67, none, .build [.sn, .sn] [(0, 1, (.t 65)), (1, 1, (.t 66))]⟩,
  ⟨none, none, .st 2 (.t 4) (.t 67)⟩]
/-- sennet.sennetref04.Table -/
def a75 : FI := ⟨68, [.cell 4 (some 2)], .seq (.ops r75_0) (.seq (.ops r75_1) (.seq (.seq (.ops r75_2) (.block 0 (.loop b75_1))) (.seq (.ops r75_15) (.ret))))⟩

end Go.Air.Try
