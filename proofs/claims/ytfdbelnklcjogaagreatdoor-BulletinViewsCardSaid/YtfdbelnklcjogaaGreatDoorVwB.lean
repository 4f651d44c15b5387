/-
 A part of the proof of: The row of BulletinViews and its tied card,out of the lifted form.
-/
import Derived.ControlIn
import Derived.Laws.World
import Derived.Laws.Cells
import Derived.RangeFuncLeaves
import Derived.Laws.StructEq
import Derived.IntWalk
import Derived.Test.YtfdbelnklcjogaaGreatDoorVwA
set_option linter.unusedSectionVars false
set_option linter.unusedVariables false
set_option linter.unusedSimpArgs false
set_option maxRecDepth 100000
namespace Go.Air.Try
def r117_0:List O:=[Qh 3 0,Qh 5 2,Qk 6 (.i .i64 0)]
def r117_1:List O:=[Qd 12 1 3,Qg 13 118 [(.t 12)],Qv 7 13]
def r117_2:List O:=[Qv 14 7,Qn 15 14,Qc 16 .geq 15 (.i .i64 500)]
def r117_3:List O:=[Qk 6 (.i .i64 2)]
def r117_4:List O:=[Qf 17 0 5,Ql 18 17,Qv 19 7,Qn 20 19,Qc 21 .add 20 (.i .i64 1),Qb 22 .neq 18 21]
def r117_5:List O:=[Qk 6 (.i .i64 1)]
def r117_6:List O:=[Qv 24 1,Qd 25 9 5,Qg 26 169 [(.t 24),(.t 25)],Qv 23 26,Qe 27 23 0,Qe 28 23 1,Qv 8 27,Qv 9 28]
def r117_7:List O:=[Qv 29 9,Qc 30 .neq 29 (.i .i64 0)]
def r117_8:List O:=[Qv 31 9,Qv 6 31]
def r117_9:List O:=[Qv 32 8,Qo 33 (.un .not (.t 32))]
def r117_10:List O:=[Qk 6 (.i .i64 60)]
def r117_11:List O:=[Qv 34 7,Qg 35 170 [(.t 34)],Qv 10 35]
def r117_12:List O:=[Qk 11 (.i .i64 0)]
def r117_13:List O:=[Qv 36 11,Qv 37 10,Qn 38 37,Qb 39 .lss 36 38]
def r117_15:List O:=[Qv 42 10,Qv 43 11,Qx 44 3 42 43,Qf 45 0 44,Ql 46 45,Qf 47 3 5,Ql 48 47,Qb 49 .eql 46 48,Qv 50 49,QTv 51 50 10,QTv 52 50 11,QTx 53 50 3 51 52,QTf 54 50 1 53,QTl 55 50 54,QTf 56 50 4 5,QTl 57 50 56,QTb 58 50 .eql 55 57,Qa 59 50 58]
def r117_16:List O:=[Qk 6 (.i .i64 61)]
def r117_14:List O:=[Qv 40 11,Qc 41 .add 40 (.i .i64 1),Qv 11 41]
def b117_0:C:=.seq (.seq (.ops r117_13) (.cond (.t 39) (.skip) (.exit 0))) (.seq (.block 1 (.seq (.draw r117_15 []) (.cond (.t 59) (.seq (.ops r117_16) (.ret)) (.skip)))) (.ops r117_14))
def r117_17:List O:=[Qk 6 (.i .i64 0)]
def a117:FI:=⟨60,[.tmp 6],.seq (.ops r117_0) (.seq (.ops r117_1) (.seq (.seq (.ops r117_2) (.cond (.t 16) (.seq (.ops r117_3) (.ret)) (.skip))) (.seq (.seq (.ops r117_4) (.cond (.t 22) (.seq (.ops r117_5) (.ret)) (.skip))) (.seq (.ops r117_6) (.seq (.seq (.ops r117_7) (.cond (.t 30) (.seq (.ops r117_8) (.ret)) (.skip))) (.seq (.seq (.ops r117_9) (.cond (.t 33) (.seq (.ops r117_10) (.ret)) (.skip))) (.seq (.ops r117_11) (.seq (.seq (.ops r117_12) (.block 0 (.loop b117_0))) (.seq (.ops r117_17) (.ret)))))))))),none,none⟩
def r118_0:List O:=[Qh 1 0,Qk 2 (.sn)]
def r118_1:List O:=[Qk 3 (.sn)]
def r118_2:List O:=[Qk 4 (.i .i64 0)]
def r118_3:List O:=[Qv 7 4,Qf 8 0 1,Ql 9 8,Qn 10 9,Qb 11 .lss 7 10]
def r118_5:List O:=[Qf 14 0 1,Ql 15 14,Qv 16 4,Qx 17 24 15 16,Qd 18 24 17,Qm 5 ([.i .u8 0]++List.replicate 14 (.i .i64 0)++[.i .u8 0]++[.i .i64 0,.i .i64 0]++[.i .u8 0]++[.i .i64 0,.i .i64 0,.i .i64 0,.i .i64 0,.i .i64 0]),Qs 24 5 18]
def r118_6:List O:=[Qf 19 0 5,Ql 20 19,Qc 21 .eql 20 (.i .u8 3)]
def r118_7:List O:=[Qv 22 3,Qf 23 2 5,Qd 24 9 23,Qo 25 (.buildSl (List.replicate 9 (.i .i64 0)) 1 [(0,9,(.t 24))]),Qo 26 (.app 9 72 (.t 22) (.t 25)),Qv 3 26]
def r118_8:List O:=[Qf 27 0 5,Ql 28 27,Qc 29 .eql 28 (.i .u8 4)]
def r118_9:List O:=[Qv 30 3,Qf 31 2 5,Qf 32 0 31,Ql 33 32,Qc 34 .sub 33 (.i .i64 1),Qx 35 9 30 34,Qd 36 9 35,Qm 6 (List.replicate 9 (.i .i64 0)),Qs 9 6 36]
def r118_10:List O:=[Qf 37 8 6,Ql 38 37,Qf 39 1 5,Ql 40 39,Qf 41 7 6,Ql 42 41,Qo 43 (.max [(.t 40),(.t 42)]),Qo 44 (.min [(.t 38),(.t 43)]),Qf 45 8 6,Qs 1 45 44]
def r118_11:List O:=[Qv 46 3,Qf 47 2 5,Qf 48 0 47,Ql 49 48,Qc 50 .sub 49 (.i .i64 1),Qd 51 9 6,Qx 52 9 46 50,Qs 9 52 51]
def r118_4:List O:=[Qv 12 4,Qc 13 .add 12 (.i .i64 1),Qv 4 13]
def b118_0:C:=.seq (.seq (.ops r118_3) (.cond (.t 11) (.skip) (.exit 0))) (.seq (.block 1 (.seq (.ops r118_5) (.seq (.seq (.ops r118_6) (.cond (.t 21) (.ops r118_7) (.skip))) (.seq (.ops r118_8) (.cond (.t 29) (.seq (.ops r118_9) (.seq (.ops r118_10) (.ops r118_11))) (.skip)))))) (.ops r118_4))
def r118_12:List O:=[Qv 53 3,Qv 2 53]
def a118:FI:=⟨54,[.tmp 2],.seq (.ops r118_0) (.seq (.ops r118_1) (.seq (.seq (.ops r118_2) (.block 0 (.loop b118_0))) (.seq (.ops r118_12) (.ret)))),none,none⟩
def r119_0:List O:=[Qh 2 0,Qh 3 1,Qk 4 (.i .i64 0)]
def r119_1:List O:=[Qd 9 1 2,Qg 10 74 [(.t 9)],Qv 5 10]
def r119_2:List O:=[Qv 11 5,Qn 12 11,Qc 13 .geq 12 (.i .i64 500)]
def r119_3:List O:=[Qk 4 (.i .i64 2)]
def r119_4:List O:=[Qf 14 0 3,Ql 15 14,Qv 16 5,Qn 17 16,Qc 18 .add 17 (.i .i64 1),Qb 19 .neq 15 18]
def r119_5:List O:=[Qk 4 (.i .i64 1)]
def r119_6:List O:=[Qf 20 0 2,Ql 21 20,Qf 22 4 3,Ql 23 22,Qg 24 127 [(.t 21),(.t 23)],Qv 6 24]
def r119_7:List O:=[Qv 25 6,Qc 26 .eql 25 (.i .i64 0)]
def r119_8:List O:=[Qk 4 (.i .i64 8)]
def r119_9:List O:=[Qf 27 9 3,Ql 28 27,Qv 29 5,Qn 30 29,Qb 31 .gtr 28 30]
def r119_10:List O:=[Qk 4 (.i .i64 5)]
def r119_11:List O:=[Qf 32 9 3,Ql 33 32,Qc 34 .gtr 33 (.i .i64 0)]
def r119_12:List O:=[Qv 35 5,Qf 36 9 3,Ql 37 36,Qc 38 .sub 37 (.i .i64 1),Qx 39 10 35 38,Qd 40 10 39,Qm 7 [.i .i64 0,.i .i64 0,.i .i64 0,.i .i64 0,.i .u8 0,.i .i64 0,.i .i64 0,.i .u8 0,.i .i64 0,.i .i64 0],Qs 10 7 40]
def r119_13:List O:=[Qf 41 2 7,Ql 42 41,Qf 43 3 3,Ql 44 43,Qb 45 .neq 42 44,Qv 46 45,QFf 47 46 3 7,QFl 48 46 47,QFf 49 46 2 3,QFl 50 46 49,QFb 51 46 .neq 48 50,Qr 52 46 51,Qv 53 52,QFf 54 53 9 7,QFl 55 53 54,QFc 56 53 .neq 55 (.i .i64 0),Qr 57 53 56,Qv 58 57,QFf 59 58 7 7,QFl 60 58 59,QFc 61 58 .neq 60 (.i .u8 2),Qr 62 58 61]
def r119_14:List O:=[Qk 4 (.i .i64 8)]
def r119_15:List O:=[Qf 63 0 2,Ql 64 63,Qf 65 3 3,Ql 66 65,Qg 67 171 [(.t 64),(.t 66)],Qv 8 67]
def r119_16:List O:=[Qv 68 8,Qc 69 .gtr 68 (.i .i64 0),Qv 70 69,QTf 71 70 5 3,QTl 72 70 71,QTv 73 70 6,QTb 74 70 .mul 72 73,QTv 75 70 8,QTb 76 70 .gtr 74 75,Qa 77 70 76]
def r119_17:List O:=[Qk 4 (.i .i64 2)]
def r119_18:List O:=[Qk 4 (.i .i64 0)]
def a119:FI:=⟨78,[.tmp 4],.seq (.ops r119_0) (.seq (.ops r119_1) (.seq (.seq (.ops r119_2) (.cond (.t 13) (.seq (.ops r119_3) (.ret)) (.skip))) (.seq (.seq (.ops r119_4) (.cond (.t 19) (.seq (.ops r119_5) (.ret)) (.skip))) (.seq (.ops r119_6) (.seq (.seq (.ops r119_7) (.cond (.t 26) (.seq (.ops r119_8) (.ret)) (.skip))) (.seq (.seq (.ops r119_9) (.cond (.t 31) (.seq (.ops r119_10) (.ret)) (.skip))) (.seq (.seq (.ops r119_11) (.cond (.t 34) (.seq (.ops r119_12) (.seq (.ops r119_13) (.cond (.t 62) (.seq (.ops r119_14) (.ret)) (.skip)))) (.skip))) (.seq (.ops r119_15) (.seq (.seq (.ops r119_16) (.cond (.t 77) (.seq (.ops r119_17) (.ret)) (.skip))) (.seq (.ops r119_18) (.ret))))))))))),none,none⟩
def r123_0:List O:=[Qk 4 (.i .i64 0)]
def r123_1:List O:=[Qv 6 0,Qn 7 6,Qk 8 (.i .i64 0)]
def r123_2:List O:=[Qb 9 .lss 8 7]
def r123_3:List O:=[Qv 10 8,Qv 5 10]
def r123_4:List O:=[Qv 11 1,Qv 12 0,Qv 13 5,Qx 14 10 12 13,Qd 15 10 14,Qo 16 (.call (.t 11) [(.t 15)])]
def r123_5:List O:=[Qv 17 5,Qv 4 17]
def r123_6:List O:=[Qc 18 .add 8 (.i .i64 1),Qv 8 18]
def b123_0:C:=.seq (.ops r123_2) (.seq (.cond (.t 9) (.skip) (.exit 0)) (.seq (.block 1 (.seq (.ops r123_3) (.seq (.ops r123_4) (.cond (.t 16) (.seq (.ops r123_5) (.ret)) (.skip))))) (.ops r123_6)))
def r123_7:List O:=[Qk 4 (.i .i64 (-1))]
def a123:FI:=⟨19,[.tmp 4],.seq (.ops r123_0) (.seq (.seq (.ops r123_1) (.block 0 (.loop b123_0))) (.seq (.ops r123_7) (.ret))),none,none⟩
def r124_0:List O:=[Qk 4 (.sn)]
def r124_1:List O:=[Qv 8 0,Qv 9 1,Qg 10 123 [(.t 8),(.t 9)],Qv 5 10]
def r124_2:List O:=[Qv 11 5,Qc 12 .eql 11 (.i .i64 (-1))]
def r124_3:List O:=[Qv 13 0,Qv 4 13]
def r124_4:List O:=[Qv 14 5,Qc 15 .add 14 (.i .i64 1),Qv 6 15]
def r124_5:List O:=[Qv 16 6,Qv 17 0,Qn 18 17,Qb 19 .lss 16 18]
def r124_7:List O:=[Qv 22 0,Qv 23 6,Qx 24 10 22 23,Qd 25 10 24,Qm 7 [.i .i64 0,.i .i64 0,.i .i64 0,.i .i64 0,.i .u8 0,.i .i64 0,.i .i64 0,.i .u8 0,.i .i64 0,.i .i64 0],Qs 10 7 25]
def r124_8:List O:=[Qv 26 1,Qd 27 10 7,Qo 28 (.call (.t 26) [(.t 27)]),Qo 29 (.un .not (.t 28))]
def r124_9:List O:=[Qv 30 0,Qv 31 5,Qd 32 10 7,Qx 33 10 30 31,Qs 10 33 32]
def r124_10:List O:=[Qv 34 5,Qc 35 .add 34 (.i .i64 1),Qv 5 35]
def r124_6:List O:=[Qv 20 6,Qc 21 .add 20 (.i .i64 1),Qv 6 21]
def b124_0:C:=.seq (.seq (.ops r124_5) (.cond (.t 19) (.skip) (.exit 0))) (.seq (.block 1 (.seq (.ops r124_7) (.seq (.ops r124_8) (.cond (.t 29) (.seq (.ops r124_9) (.ops r124_10)) (.skip))))) (.ops r124_6))
def r124_11:List O:=[Qv 36 0,Qv 37 5,Qo 38 (.slc 10 (.t 36) (some (.t 37)) none none),Qq (.clr [.i .i64 0,.i .i64 0,.i .i64 0,.i .i64 0,.i .u8 0,.i .i64 0,.i .i64 0,.i .u8 0,.i .i64 0,.i .i64 0] (.t 38))]
def r124_12:List O:=[Qv 39 0,Qv 40 5,Qo 41 (.slc 10 (.t 39) none (some (.t 40)) none),Qv 4 41]
def a124:FI:=⟨42,[.tmp 4],.seq (.ops r124_0) (.seq (.ops r124_1) (.seq (.seq (.ops r124_2) (.cond (.t 12) (.seq (.ops r124_3) (.ret)) (.skip))) (.seq (.seq (.ops r124_4) (.block 0 (.loop b124_0))) (.seq (.ops r124_11) (.seq (.ops r124_12) (.ret)))))),none,none⟩
def r125_0:List O:=[Qk 4 (.pn)]
def r125_1:List O:=[Qg 8 49 [],Qv 5 8]
def r125_2:List O:=[Qv 9 0,Qo 10 (.eqv false (.ptr) (.t 9) (.c (.pn)))]
def r125_3:List O:=[Qv 11 5,Qv 4 11]
def r125_4:List O:=[Qv 12 0,Qi 13 12,Qf 14 0 13,Ql 15 14,Qn 16 15,Qk 17 (.i .i64 0)]
def r125_5:List O:=[Qb 18 .lss 17 16]
def r125_6:List O:=[Qx 19 24 15 17,Qd 20 24 19,Qm 7 ([.i .u8 0]++List.replicate 14 (.i .i64 0)++[.i .u8 0]++[.i .i64 0,.i .i64 0]++[.i .u8 0]++[.i .i64 0,.i .i64 0,.i .i64 0,.i .i64 0,.i .i64 0]),Qs 24 7 20]
def r125_7:List O:=[Qf 21 1 7,Ql 22 21,Qv 23 1,Qb 24 .leq 22 23]
def r125_8:List O:=[Qv 25 5,Qd 26 24 7,Qg 27 61 [(.t 25),(.t 26)]]
def r125_9:List O:=[Qc 28 .add 17 (.i .i64 1),Qv 17 28]
def b125_0:C:=.seq (.ops r125_5) (.seq (.cond (.t 18) (.skip) (.exit 0)) (.seq (.block 1 (.seq (.ops r125_6) (.seq (.ops r125_7) (.cond (.t 24) (.ops r125_8) (.skip))))) (.ops r125_9)))
def r125_10:List O:=[Qv 29 5,Qv 4 29]
def a125:FI:=⟨30,[.tmp 4],.seq (.ops r125_0) (.seq (.ops r125_1) (.seq (.seq (.ops r125_2) (.cond (.t 10) (.seq (.ops r125_3) (.ret)) (.skip))) (.seq (.seq (.ops r125_4) (.block 0 (.loop b125_0))) (.seq (.ops r125_10) (.ret))))),none,none⟩
def r126_0:List O:=[Qh 2 0,Qk 3 (.b false)]
def r126_1:List O:=[Qf 4 2 2,Ql 5 4,Ql 6 1,Qb 7 .neq 5 6,Qv 8 7,QTf 9 8 3 2,QTl 10 8 9,QTl 11 8 1,QTb 12 8 .neq 10 11,Qa 13 8 12,Qv 3 13]
def a126:FI:=⟨14,[.tmp 3],.seq (.ops r126_0) (.seq (.ops r126_1) (.ret)),none,none⟩
def r127_0:List O:=[Qk 4 (.i .i64 0)]
def r127_1:List O:=[Qk 5 (.i .i64 0)]
def r127_2:List O:=[Qk 6 (.i .i64 0)]
def r127_3:List O:=[Qv 7 6,Qv 8 0,Qn 9 8,Qb 10 .lss 7 9]
def r127_5:List O:=[Qv 13 0,Qv 14 6,Qx 15 24 13 14,Qf 16 0 15,Ql 17 16,Qc 18 .eql 17 (.i .u8 1),Qv 19 18,QTv 20 19 0,QTv 21 19 6,QTx 22 19 24 20 21,QTf 23 19 21 22,QTl 24 19 23,QTv 25 19 1,QT 26 19 (.conv .i64 (.t 25)),QTb 27 19 .eql 24 26,Qa 28 19 27]
def r127_6:List O:=[Qv 29 0,Qv 30 6,Qx 31 24 29 30,Qf 32 23 31,Ql 33 32,Qv 5 33]
def r127_4:List O:=[Qv 11 6,Qc 12 .add 11 (.i .i64 1),Qv 6 12]
def b127_0:C:=.seq (.seq (.ops r127_3) (.cond (.t 10) (.skip) (.exit 0))) (.seq (.block 1 (.seq (.ops r127_5) (.cond (.t 28) (.ops r127_6) (.skip)))) (.ops r127_4))
def r127_7:List O:=[Qv 34 5,Qv 4 34]
def a127:FI:=⟨35,[.tmp 4],.seq (.ops r127_0) (.seq (.ops r127_1) (.seq (.seq (.ops r127_2) (.block 0 (.loop b127_0))) (.seq (.ops r127_7) (.ret)))),none,none⟩
def r128_0:List O:=[Qk 4 (.i .i64 0)]
def r128_1:List O:=[Qk 5 (.i .i64 0)]
def r128_2:List O:=[Qk 6 (.i .i64 0)]
def r128_3:List O:=[Qv 7 6,Qv 8 0,Qn 9 8,Qb 10 .lss 7 9]
def r128_5:List O:=[Qv 13 0,Qv 14 6,Qx 15 10 13 14,Qf 16 9 15,Ql 17 16,Qv 18 1,Qb 19 .eql 17 18,Qv 20 19,QTv 21 20 0,QTv 22 20 6,QTx 23 20 10 21 22,QTf 24 20 7 23,QTl 25 20 24,QTc 26 20 .eql 25 (.i .u8 2),QTv 27 20 26,QFv 28 27 0,QFv 29 27 6,QFx 30 27 10 28 29,QFf 31 27 7 30,QFl 32 27 31,QFc 33 27 .eql 32 (.i .u8 4),QTr 34 20 27 33,Qa 35 20 34]
def r128_6:List O:=[Qv 36 5,Qv 37 0,Qv 38 6,Qx 39 10 37 38,Qf 40 6 39,Ql 41 40,Qb 42 .add 36 41,Qv 5 42]
def r128_4:List O:=[Qv 11 6,Qc 12 .add 11 (.i .i64 1),Qv 6 12]
def b128_0:C:=.seq (.seq (.ops r128_3) (.cond (.t 10) (.skip) (.exit 0))) (.seq (.block 1 (.seq (.ops r128_5) (.cond (.t 35) (.ops r128_6) (.skip)))) (.ops r128_4))
def r128_7:List O:=[Qv 43 5,Qv 4 43]
def a128:FI:=⟨44,[.tmp 4],.seq (.ops r128_0) (.seq (.ops r128_1) (.seq (.seq (.ops r128_2) (.block 0 (.loop b128_0))) (.seq (.ops r128_7) (.ret)))),none,none⟩
def r129_0:List O:=[Qk 6 (.b false)]
def r129_1:List O:=[Qv 7 0,Qv 8 1,Qb 9 .geq 7 8,Qv 10 9,QTv 11 10 0,QTv 12 10 2,QTb 13 10 .leq 11 12,Qa 14 10 13,Qv 6 14]
def a129:FI:=⟨15,[.tmp 6],.seq (.ops r129_0) (.seq (.ops r129_1) (.ret)),none,none⟩
def r130_0:List O:=[Qm 4 (List.replicate 32 (.i .u8 0))]
def r130_1:List O:=[Qv 5 0,Qg 6 79 [(.t 5)],Qo 7 (.bin .add (.c (.s [115])) (.t 6)),Qc 8 .add 7 (.s [47]),Qv 9 1,Qb 10 .add 8 9,Qo 11 (.s2b (.t 10)),Qg 12 177 [(.t 11)],Qs 32 4 12]
def a130:FI:=⟨13,[.cell 4 (some 32)],.seq (.ops r130_0) (.seq (.ops r130_1) (.ret)),none,none⟩
def r147_0:List O:=[Qk 2 (.b false)]
def r147_1:List O:=[Qv 3 0,Qc 4 .geq 3 (.i .i64 1),Qv 5 4,QTv 6 5 0,QTc 7 5 .leq 6 (.i .i64 1000000),Qa 8 5 7,Qv 2 8]
def a147:FI:=⟨9,[.tmp 2],.seq (.ops r147_0) (.seq (.ops r147_1) (.ret)),none,none⟩
def r148_0:List O:=[Qk 6 (.b false)]
def r148_1:List O:=[Qv 7 0,Qv 8 1,Qb 9 .geq 7 8,Qv 10 9,QTv 11 10 0,QTv 12 10 2,QTb 13 10 .leq 11 12,Qa 14 10 13,Qv 6 14]
def a148:FI:=⟨15,[.tmp 6],.seq (.ops r148_0) (.seq (.ops r148_1) (.ret)),none,none⟩
def r152_0:List O:=[Qk 4 (.i .i64 0)]
def r152_1:List O:=[Qv 14 1,Qo 15 (.lenS (.t 14)),Qv 5 15]
def r152_2:List O:=[Qv 17 5,Qc 18 .eql 17 (.i .i64 0),Qv 19 18,QFv 20 19 1,QFv 21 19 0,QFb 22 19 .eql 20 21,Qr 23 19 22,Qv 16 23]
def r152_3:List O:=[Qk 4 (.i .i64 0)]
def r152_4:List O:=[Qv 25 5,Qc 26 .eql 25 (.i .i64 1),Qv 24 26]
def r152_5:List O:=[Qv 27 0,Qv 28 1,Qo 29 (.ixStr (.t 28) (.c (.i .i64 0))),Qg 30 208 [(.t 27),(.t 29)],Qv 4 30]
def r152_6:List O:=[Qv 32 5,Qv 33 0,Qo 34 (.lenS (.t 33)),Qb 35 .geq 32 34,Qv 31 35]
def r152_7:List O:=[Qk 4 (.i .i64 (-1))]
def r152_8:List O:=[Qv 37 5,Qo 38 (.no),Qb 39 .leq 37 38,Qv 40 39,QTv 41 40 0,QT 42 40 (.lenS (.t 41)),QTc 43 40 .leq 42 (.i .i64 64),Qa 44 40 43,Qv 36 44]
def r152_9:List O:=[Qv 45 0,Qv 46 1,Qg 47 209 [(.t 45),(.t 46)],Qv 4 47]
def r152_10:List O:=[Qv 48 1,Qo 49 (.ixStr (.t 48) (.c (.i .i64 0))),Qv 6 49]
def r152_11:List O:=[Qv 50 1,Qo 51 (.ixStr (.t 50) (.c (.i .i64 1))),Qv 7 51]
def r152_12:List O:=[Qk 8 (.i .i64 0)]
def r152_13:List O:=[Qv 52 0,Qo 53 (.lenS (.t 52)),Qv 54 5,Qb 55 .sub 53 54,Qc 56 .add 55 (.i .i64 1),Qv 9 56]
def r152_14:List O:=[Qk 10 (.i .i64 0)]
def r152_15:List O:=[Qv 57 8,Qv 58 9,Qb 59 .lss 57 58]
def r152_16:List O:=[Qv 60 0,Qv 61 8,Qo 62 (.ixStr (.t 60) (.t 61)),Qv 63 6,Qb 64 .neq 62 63]
def r152_17:List O:=[Qv 65 0,Qv 66 8,Qc 67 .add 66 (.i .i64 1),Qv 68 9,Qo 69 (.slcS (.t 65) (some (.t 67)) (some (.t 68))),Qv 70 6,Qg 71 208 [(.t 69),(.t 70)],Qv 11 71]
def r152_18:List O:=[Qv 72 11,Qc 73 .lss 72 (.i .i64 0)]
def r152_19:List O:=[Qk 4 (.i .i64 (-1))]
def r152_20:List O:=[Qv 74 8,Qv 75 11,Qc 76 .add 75 (.i .i64 1),Qb 77 .add 74 76,Qv 8 77]
def r152_21:List O:=[Qv 78 0,Qv 79 8,Qc 80 .add 79 (.i .i64 1),Qo 81 (.ixStr (.t 78) (.t 80)),Qv 82 7,Qb 83 .eql 81 82,Qv 84 83,QTv 85 84 0,QTv 86 84 8,QTv 87 84 8,QTv 88 84 5,QTb 89 84 .add 87 88,QT 90 84 (.slcS (.t 85) (some (.t 86)) (some (.t 89))),QTv 91 84 1,QTb 92 84 .eql 90 91,Qa 93 84 92]
def r152_22:List O:=[Qv 94 8,Qv 4 94]
def r152_23:List O:=[Qv 95 8,Qc 96 .add 95 (.i .i64 1),Qv 8 96]
def r152_24:List O:=[Qv 97 10,Qc 98 .add 97 (.i .i64 1),Qv 10 98]
def r152_25:List O:=[Qv 99 5,Qo 100 (.no),Qb 101 .leq 99 100,Qv 102 101,QTv 103 102 10,QTv 104 102 8,QTg 105 102 210 [(.t 104)],QTb 106 102 .gtr 103 105,Qa 107 102 106]
def r152_26:List O:=[Qv 108 0,Qv 109 8,Qo 110 (.slcS (.t 108) (some (.t 109)) none),Qv 111 1,Qg 112 209 [(.t 110),(.t 111)],Qv 12 112]
def r152_27:List O:=[Qv 113 12,Qc 114 .geq 113 (.i .i64 0)]
def r152_28:List O:=[Qv 115 12,Qv 116 8,Qb 117 .add 115 116,Qv 4 117]
def r152_29:List O:=[Qk 4 (.i .i64 (-1))]
def r152_30:List O:=[Qv 118 5,Qo 119 (.no),Qb 120 .gtr 118 119,Qv 121 120,QTv 122 121 10,QTv 123 121 8,QTc 124 121 .shr 123 (.i .u64 4),QT 125 121 (.bin .add (.c (.i .i64 4)) (.t 124)),QTb 126 121 .geq 122 125,Qa 127 121 126,Qv 128 127,QTv 129 128 8,QTv 130 128 9,QTb 131 128 .lss 129 130,Qa 132 128 131]
def r152_31:List O:=[Qv 133 0,Qv 134 8,Qo 135 (.slcS (.t 133) (some (.t 134)) none),Qv 136 1,Qg 137 211 [(.t 135),(.t 136)],Qv 13 137]
def r152_32:List O:=[Qv 138 13,Qc 139 .lss 138 (.i .i64 0)]
def r152_33:List O:=[Qk 4 (.i .i64 (-1))]
def r152_34:List O:=[Qv 140 8,Qv 141 13,Qb 142 .add 140 141,Qv 4 142]
def b152_0:C:=.seq (.seq (.ops r152_15) (.cond (.t 59) (.skip) (.exit 1))) (.block 2 (.seq (.seq (.ops r152_16) (.cond (.t 64) (.seq (.ops r152_17) (.seq (.seq (.ops r152_18) (.cond (.t 73) (.seq (.ops r152_19) (.ret)) (.skip))) (.ops r152_20))) (.skip))) (.seq (.seq (.ops r152_21) (.cond (.t 93) (.seq (.ops r152_22) (.ret)) (.skip))) (.seq (.ops r152_23) (.seq (.ops r152_24) (.seq (.ops r152_25) (.cond (.t 107) (.seq (.ops r152_26) (.seq (.seq (.ops r152_27) (.cond (.t 114) (.seq (.ops r152_28) (.ret)) (.skip))) (.seq (.ops r152_29) (.ret)))) (.seq (.ops r152_30) (.cond (.t 132) (.seq (.ops r152_31) (.seq (.seq (.ops r152_32) (.cond (.t 139) (.seq (.ops r152_33) (.ret)) (.skip))) (.seq (.ops r152_34) (.ret)))) (.skip))))))))))
def r152_35:List O:=[Qk 4 (.i .i64 (-1))]
def a152:FI:=⟨143,[.tmp 4],.seq (.ops r152_0) (.seq (.ops r152_1) (.seq (.block 0 (.seq (.ops r152_2) (.cond (.t 16) (.seq (.ops r152_3) (.ret)) (.seq (.ops r152_4) (.cond (.t 24) (.seq (.ops r152_5) (.ret)) (.seq (.ops r152_6) (.cond (.t 31) (.seq (.ops r152_7) (.ret)) (.seq (.ops r152_8) (.cond (.t 36) (.seq (.ops r152_9) (.ret)) (.skip)))))))))) (.seq (.ops r152_10) (.seq (.ops r152_11) (.seq (.ops r152_12) (.seq (.ops r152_13) (.seq (.ops r152_14) (.seq (.block 1 (.loop b152_0)) (.seq (.ops r152_35) (.ret)))))))))),none,none⟩
def r158_0:List O:=[Qk 2 (.b false)]
def r158_1:List O:=[Qv 3 0,Qg 4 57 [(.t 3),(.c (.i .i64 1)),(.c (.i .i64 1000000))],Qv 2 4]
def a158:FI:=⟨5,[.tmp 2],.seq (.ops r158_0) (.seq (.ops r158_1) (.ret)),none,none⟩
def r159_0:List O:=[Qh 1 0,Qk 2 (.b false)]
def r159_1:List O:=[Qo 3 (.mov (.f 215))]
def r159_2:List O:=[Qf 6 0 1,Ql 7 6,Qg 8 57 [(.t 7),(.c (.i .i64 1)),(.c (.i .i64 500))],Qv 9 8,QTf 10 9 2 1,QTl 11 9 10,QTg 12 9 158 [(.t 11)],Qa 13 9 12,Qv 14 13,QTf 15 14 3 1,QTl 16 14 15,QTg 17 14 158 [(.t 16)],Qa 18 14 17,Qv 19 18,QTf 20 19 4 1,QTl 21 19 20,QTg 22 19 158 [(.t 21)],Qa 23 19 22,Qv 24 23,QTf 25 24 3 1,QTl 26 24 25,QTf 27 24 4 1,QTl 28 24 27,QTb 29 24 .neq 26 28,Qa 30 24 29,Qv 4 30]
def r159_3:List O:=[Qv 31 3,Qf 32 5 1,Ql 33 32,Qo 34 (.call (.t 31) [(.t 33)]),Qv 35 34,QTv 36 35 3,QTf 37 35 6 1,QTl 38 35 37,QT 39 35 (.call (.t 36) [(.t 38)]),Qa 40 35 39,Qv 41 40,QTf 42 41 5 1,QTl 43 41 42,QTc 44 41 .eql 43 (.i .i64 0),QTv 45 41 44,QFf 46 45 5 1,QFl 47 45 46,QFf 48 45 6 1,QFl 49 45 48,QFb 50 45 .neq 47 49,QTr 51 41 45 50,Qa 52 41 51,Qv 5 52]
def r159_4:List O:=[Qv 53 4,Qv 54 53,QTv 55 54 5,Qa 56 54 55,Qv 57 56,QTf 58 57 1 1,QTl 59 57 58,QTg 60 57 57 [(.t 59),(.c (.i .i64 0)),(.c (.i .i64 100000))],Qa 61 57 60,Qv 62 61,QTf 63 62 1 1,QTl 64 62 63,QTf 65 62 7 1,QTl 66 62 65,QTb 67 62 .leq 64 66,Qa 68 62 67,Qv 69 68,QTf 70 69 7 1,QTl 71 69 70,QTf 72 69 8 1,QTl 73 69 72,QTb 74 69 .lss 71 73,Qa 75 69 74,Qv 76 75,QTf 77 76 8 1,QTl 78 76 77,QTc 79 76 .leq 78 (.i .i64 100000),Qa 80 76 79,Qv 2 80]
def a159:FI:=⟨81,[.tmp 2],.seq (.ops r159_0) (.seq (.ops r159_1) (.seq (.ops r159_2) (.seq (.ops r159_3) (.seq (.ops r159_4) (.ret))))),none,none⟩
def r160_0:List O:=[Qh 3 1,Qk 4 (.b false)]
def r160_1:List O:=[Qv 5 0,Qf 6 1 3,Ql 7 6,Qf 8 1 3,Ql 9 8,Qf 10 2 3,Ql 11 10,Qf 12 3 3,Ql 13 12,Qg 14 216 [(.t 5),(.t 7),(.t 9),(.t 11),(.t 13)],Qc 15 .leq 14 (.i .i64 2),Qv 4 15]
def a160:FI:=⟨16,[.tmp 4],.seq (.ops r160_0) (.seq (.ops r160_1) (.ret)),none,none⟩
def r161_0:List O:=[Qh 3 1,Qk 4 (.i .i64 0)]
def r161_1:List O:=[Qf 5 5 3,Ql 6 5,Qv 7 0,Qi 8 7,Qf 9 0 8,Ql 10 9,Qf 11 4 3,Ql 12 11,Qo 13 (.conv .i64 (.t 12)),Qo 14 (.look (.sc (.i .i64)) (.i .i64 0) false (.t 10) (.t 13)),Qb 15 .mul 6 14,Qv 4 15]
def a161:FI:=⟨16,[.tmp 4],.seq (.ops r161_0) (.seq (.draw r161_1 []) (.ret)),none,none⟩
def r165_0:List O:=[Qk 6 (.b false)]
def r165_1:List O:=[Qv 7 0,Qv 8 1,Qb 9 .geq 7 8,Qv 10 9,QTv 11 10 0,QTv 12 10 2,QTb 13 10 .leq 11 12,Qa 14 10 13,Qv 6 14]
def a165:FI:=⟨15,[.tmp 6],.seq (.ops r165_0) (.seq (.ops r165_1) (.ret)),none,none⟩
def r166_0:List O:=[Qk 2 (.b false)]
def r166_1:List O:=[Qv 3 0,Qc 4 .geq 3 (.i .i64 1),Qv 5 4,QTv 6 5 0,QTc 7 5 .leq 6 (.i .i64 1000000),Qa 8 5 7,Qv 2 8]
def a166:FI:=⟨9,[.tmp 2],.seq (.ops r166_0) (.seq (.ops r166_1) (.ret)),none,none⟩
def r167_0:List O:=[Qh 1 0,Qk 2 (.b false)]
def r167_1:List O:=[Qf 3 0 1,Ql 4 3,Qg 5 165 [(.t 4),(.c (.i .i64 1)),(.c (.i .i64 500))],Qo 6 (.un .not (.t 5)),Qv 7 6,QFf 8 7 1 1,QFl 9 7 8,QFg 10 7 165 [(.t 9),(.c (.i .i64 0)),(.c (.i .i64 100000))],QF 11 7 (.un .not (.t 10)),Qr 12 7 11,Qv 13 12,QFf 14 13 2 1,QFl 15 13 14,QFg 16 13 166 [(.t 15)],QF 17 13 (.un .not (.t 16)),Qr 18 13 17,Qv 19 18,QFf 20 19 3 1,QFl 21 19 20,QFg 22 19 166 [(.t 21)],QF 23 19 (.un .not (.t 22)),Qr 24 19 23,Qv 25 24,QFf 26 25 4 1,QFl 27 25 26,QFg 28 25 166 [(.t 27)],QF 29 25 (.un .not (.t 28)),Qr 30 25 29,Qv 31 30,QFf 32 31 3 1,QFl 33 31 32,QFf 34 31 4 1,QFl 35 31 34,QFb 36 31 .eql 33 35,Qr 37 31 36]
def r167_2:List O:=[Qk 2 (.b false)]
def r167_3:List O:=[Qf 38 5 1,Ql 39 38,Qc 40 .neq 39 (.i .i64 0),Qv 41 40,QTf 42 41 5 1,QTl 43 41 42,QTg 44 41 166 [(.t 43)],QT 45 41 (.un .not (.t 44)),Qa 46 41 45,Qv 47 46,QFf 48 47 6 1,QFl 49 47 48,QFc 50 47 .neq 49 (.i .i64 0),QFv 51 47 50,QTf 52 51 6 1,QTl 53 51 52,QTg 54 51 166 [(.t 53)],QT 55 51 (.un .not (.t 54)),QFa 56 47 51 55,Qr 57 47 56,Qv 58 57,QFf 59 58 5 1,QFl 60 58 59,QFc 61 58 .neq 60 (.i .i64 0),QFv 62 58 61,QTf 63 62 5 1,QTl 64 62 63,QTf 65 62 6 1,QTl 66 62 65,QTb 67 62 .eql 64 66,QFa 68 58 62 67,Qr 69 58 68]
def r167_4:List O:=[Qk 2 (.b false)]
def r167_5:List O:=[Qf 70 1 1,Ql 71 70,Qf 72 7 1,Ql 73 72,Qb 74 .leq 71 73,Qv 75 74,QTf 76 75 7 1,QTl 77 75 76,QTf 78 75 8 1,QTl 79 75 78,QTb 80 75 .lss 77 79,Qa 81 75 80,Qv 82 81,QTf 83 82 8 1,QTl 84 82 83,QTc 85 82 .leq 84 (.i .i64 100000),Qa 86 82 85,Qv 2 86]
def a167:FI:=⟨87,[.tmp 2],.seq (.ops r167_0) (.seq (.seq (.ops r167_1) (.cond (.t 37) (.seq (.ops r167_2) (.ret)) (.skip))) (.seq (.seq (.ops r167_3) (.cond (.t 69) (.seq (.ops r167_4) (.ret)) (.skip))) (.seq (.ops r167_5) (.ret)))),none,none⟩
def r168_0:List O:=[Qk 2 (.s [])]
def r168_1:List O:=[Qv 3 0,Qc 4 .lss 3 (.i .i64 10)]
def r168_2:List O:=[Qv 5 0,Qo 6 (.bin .add (.c (.i .i64 48)) (.t 5)),Qo 7 (.conv .u8 (.t 6)),Qo 8 (.buildSl [.i .u8 0] 1 [(0,1,(.t 7))]),Qo 9 (.b2s (.t 8)),Qv 2 9]
def r168_3:List O:=[Qv 10 0,Qc 11 .quo 10 (.i .i64 10),Qg 12 168 [(.t 11)],Qv 13 0,Qc 14 .rem 13 (.i .i64 10),Qg 15 168 [(.t 14)],Qb 16 .add 12 15,Qv 2 16]
def a168:FI:=⟨17,[.tmp 2],.seq (.ops r168_0) (.seq (.seq (.ops r168_1) (.cond (.t 4) (.seq (.ops r168_2) (.ret)) (.skip))) (.seq (.ops r168_3) (.ret))),none,none⟩
def r169_0:List O:=[Qh 3 1,Qk 4 (.b false),Qk 5 (.i .i64 0)]
def r169_1:List O:=[Qf 8 0 3,Qq (.st 1 (.t 8) (.c (.i .i64 1)))]
def r169_2:List O:=[Qd 9 9 3,Qg 10 167 [(.t 9)],Qo 11 (.un .not (.t 10))]
def r169_3:List O:=[Qk 4 (.b false),Qk 5 (.i .i64 1)]
def r169_4:List O:=[Qv 13 0,Qg 14 122 [(.t 13)],Qv 12 14,Qe 15 12 0,Qe 16 12 1,Qv 6 15,Qv 7 16]
def r169_5:List O:=[Qv 17 7,Qc 18 .neq 17 (.i .i64 0)]
def r169_6:List O:=[Qv 19 7,Qk 4 (.b false),Qv 5 19]
def r169_7:List O:=[Qv 20 0,Qf 21 1 3,Ql 22 21,Qf 23 1 3,Ql 24 23,Qf 25 2 3,Ql 26 25,Qf 27 3 3,Ql 28 27,Qg 29 237 [(.t 20),(.t 22),(.t 24),(.t 26),(.t 28)],Qc 30 .leq 29 (.i .i64 2),Qv 4 30,Qk 5 (.i .i64 0)]
def a169:FI:=⟨31,[.tmp 4,.tmp 5],.seq (.ops r169_0) (.seq (.ops r169_1) (.seq (.seq (.ops r169_2) (.cond (.t 11) (.seq (.ops r169_3) (.ret)) (.skip))) (.seq (.ops r169_4) (.seq (.seq (.ops r169_5) (.cond (.t 18) (.seq (.ops r169_6) (.ret)) (.skip))) (.seq (.ops r169_7) (.ret)))))),none,none⟩
def r170_0:List O:=[Qk 2 (.sn)]
def r170_1:List O:=[Qk 3 (.sn)]
def r170_2:List O:=[Qk 4 (.i .i64 0)]
def r170_3:List O:=[Qv 8 4,Qv 9 0,Qn 10 9,Qb 11 .lss 8 10]
def r170_5:List O:=[Qk 5 (.sn)]
def r170_6:List O:=[Qk 6 (.b false)]
def r170_7:List O:=[Qk 7 (.i .i64 0)]
def r170_8:List O:=[Qv 14 7,Qv 15 3,Qn 16 15,Qb 17 .lss 14 16]
def r170_10:List O:=[Qv 20 3,Qv 21 7,Qx 22 3 20 21,Qf 23 0 22,Ql 24 23,Qv 25 0,Qv 26 4,Qx 27 9 25 26,Qf 28 4 27,Ql 29 28,Qb 30 .eql 24 29,Qv 31 30,QTv 32 31 3,QTv 33 31 7,QTx 34 31 3 32 33,QTf 35 31 1 34,QTl 36 31 35,QTv 37 31 0,QTv 38 31 4,QTx 39 31 9 37 38,QTf 40 31 3 39,QTl 41 31 40,QTb 42 31 .eql 36 41,Qa 43 31 42]
def r170_11:List O:=[Qk 6 (.b true)]
def r170_12:List O:=[Qv 44 5,Qv 45 3,Qv 46 7,Qx 47 3 45 46,Qd 48 3 47,Qo 49 (.buildSl [.i .i64 0,.i .i64 0,.i .i64 0] 1 [(0,3,(.t 48))]),Qo 50 (.app 3 24 (.t 44) (.t 49)),Qv 5 50]
def r170_9:List O:=[Qv 18 7,Qc 19 .add 18 (.i .i64 1),Qv 7 19]
def b170_0:C:=.seq (.seq (.ops r170_8) (.cond (.t 17) (.skip) (.exit 2))) (.seq (.block 3 (.seq (.draw r170_10 []) (.cond (.t 43) (.ops r170_11) (.ops r170_12)))) (.ops r170_9))
def r170_13:List O:=[Qv 51 6,Qo 52 (.un .not (.t 51))]
def r170_14:List O:=[Qv 53 5,Qv 54 0,Qv 55 4,Qx 56 9 54 55,Qf 57 3 56,Ql 58 57,Qv 59 0,Qv 60 4,Qx 61 9 59 60,Qf 62 4 61,Ql 63 62,Qv 64 0,Qv 65 4,Qx 66 9 64 65,Qf 67 0 66,Ql 68 67,Qo 69 (.build [.i .i64 0,.i .i64 0,.i .i64 0] [(0,1,(.t 58)),(1,1,(.t 63)),(2,1,(.t 68))]),Qo 70 (.buildSl [.i .i64 0,.i .i64 0,.i .i64 0] 1 [(0,3,(.t 69))]),Qo 71 (.app 3 24 (.t 53) (.t 70)),Qv 5 71]
def r170_15:List O:=[Qv 72 5,Qv 3 72]
def r170_4:List O:=[Qv 12 4,Qc 13 .add 12 (.i .i64 1),Qv 4 13]
def b170_1:C:=.seq (.seq (.ops r170_3) (.cond (.t 11) (.skip) (.exit 0))) (.seq (.block 1 (.seq (.ops r170_5) (.seq (.ops r170_6) (.seq (.seq (.ops r170_7) (.block 2 (.loop b170_0))) (.seq (.seq (.ops r170_13) (.cond (.t 52) (.draw r170_14 []) (.skip))) (.ops r170_15)))))) (.ops r170_4))
def r170_16:List O:=[Qv 73 3,Qv 2 73]
def a170:FI:=⟨74,[.tmp 2],.seq (.ops r170_0) (.seq (.ops r170_1) (.seq (.seq (.ops r170_2) (.block 0 (.loop b170_1))) (.seq (.ops r170_16) (.ret)))),none,none⟩
def r171_0:List O:=[Qk 4 (.i .i64 0)]
def r171_1:List O:=[Qk 5 (.i .i64 0)]
def r171_2:List O:=[Qk 6 (.i .i64 0)]
def r171_3:List O:=[Qv 7 6,Qv 8 0,Qn 9 8,Qb 10 .lss 7 9]
def r171_5:List O:=[Qv 13 0,Qv 14 6,Qx 15 24 13 14,Qf 16 0 15,Ql 17 16,Qc 18 .eql 17 (.i .u8 2),Qv 19 18,QTv 20 19 0,QTv 21 19 6,QTx 22 19 24 20 21,QTf 23 19 21 22,QTl 24 19 23,QTv 25 19 1,QTb 26 19 .eql 24 25,Qa 27 19 26]
def r171_6:List O:=[Qv 28 0,Qv 29 6,Qx 30 24 28 29,Qf 31 23 30,Ql 32 31,Qv 5 32]
def r171_4:List O:=[Qv 11 6,Qc 12 .add 11 (.i .i64 1),Qv 6 12]
def b171_0:C:=.seq (.seq (.ops r171_3) (.cond (.t 10) (.skip) (.exit 0))) (.seq (.block 1 (.seq (.ops r171_5) (.cond (.t 27) (.ops r171_6) (.skip)))) (.ops r171_4))
def r171_7:List O:=[Qv 33 5,Qv 4 33]
def a171:FI:=⟨34,[.tmp 4],.seq (.ops r171_0) (.seq (.ops r171_1) (.seq (.seq (.ops r171_2) (.block 0 (.loop b171_0))) (.seq (.ops r171_7) (.ret)))),none,none⟩
end Go.Air.Try
set_option maxRecDepth 100000
namespace Go.Air.Try
def r177_0:List O:=[Qm 2 (List.replicate 32 (.i .u8 0))]
def r177_1:List O:=[Qo 10 (.buildSl [] 0 []),Qv 11 0,Qo 12 (.app 1 1 (.t 10) (.t 11)),Qo 13 (.buildSl [.i .u8 0] 1 [(0,1,(.c (.i .u8 128)))]),Qo 14 (.app 1 1 (.t 12) (.t 13)),Qv 3 14]
def r177_2:List O:=[Qv 15 3,Qn 16 15,Qc 17 .rem 16 (.i .i64 64),Qc 18 .neq 17 (.i .i64 56)]
def r177_3:List O:=[Qv 19 3,Qo 20 (.buildSl [.i .u8 0] 1 [(0,1,(.c (.i .u8 0)))]),Qo 21 (.app 1 1 (.t 19) (.t 20)),Qv 3 21]
def b177_0:C:=.seq (.seq (.ops r177_2) (.cond (.t 18) (.skip) (.exit 0))) (.block 1 (.ops r177_3))
def r177_4:List O:=[Qv 22 0,Qn 23 22,Qo 24 (.conv .u64 (.t 23)),Qc 25 .mul 24 (.i .u64 8),Qv 4 25]
def r177_5:List O:=[Qk 5 (.i .i64 7)]
def r177_6:List O:=[Qv 26 5,Qc 27 .geq 26 (.i .i64 0)]
def r177_8:List O:=[Qv 30 3,Qv 31 4,Qv 32 5,Qo 33 (.bin .mul (.c (.i .i64 8)) (.t 32)),Qo 34 (.conv .u64 (.t 33)),Qb 35 .shr 31 34,Qo 36 (.conv .u8 (.t 35)),Qo 37 (.buildSl [.i .u8 0] 1 [(0,1,(.t 36))]),Qo 38 (.app 1 1 (.t 30) (.t 37)),Qv 3 38]
def r177_7:List O:=[Qv 28 5,Qc 29 .sub 28 (.i .i64 1),Qv 5 29]
def b177_1:C:=.seq (.seq (.ops r177_6) (.cond (.t 27) (.skip) (.exit 2))) (.seq (.block 3 (.ops r177_8)) (.ops r177_7))
def r177_9:List O:=[Qo 39 (.build [.i .u32 0,.i .u32 0,.i .u32 0,.i .u32 0,.i .u32 0,.i .u32 0,.i .u32 0,.i .u32 0] [(0,1,(.c (.i .u32 1779033703))),(1,1,(.c (.i .u32 3144134277))),(2,1,(.c (.i .u32 1013904242))),(3,1,(.c (.i .u32 2773480762))),(4,1,(.c (.i .u32 1359893119))),(5,1,(.c (.i .u32 2600822924))),(6,1,(.c (.i .u32 528734635))),(7,1,(.c (.i .u32 1541459225)))]),Qm 6 [.i .u32 0,.i .u32 0,.i .u32 0,.i .u32 0,.i .u32 0,.i .u32 0,.i .u32 0,.i .u32 0],Qs 8 6 39]
def r177_10:List O:=[Qk 7 (.i .i64 0)]
def r177_11:List O:=[Qv 40 7,Qv 41 3,Qn 42 41,Qb 43 .lss 40 42]
def r177_13:List O:=[Qd 46 8 6,Qv 47 3,Qv 48 7,Qv 49 7,Qc 50 .add 49 (.i .i64 64),Qo 51 (.slc 1 (.t 47) (some (.t 48)) (some (.t 50)) none),Qg 52 245 [(.t 46),(.t 51)],Qs 8 6 52]
def r177_12:List O:=[Qv 44 7,Qc 45 .add 44 (.i .i64 64),Qv 7 45]
def b177_2:C:=.seq (.seq (.ops r177_11) (.cond (.t 43) (.skip) (.exit 4))) (.seq (.block 5 (.draw r177_13 [])) (.ops r177_12))
def r177_14:List O:=[Qm 8 (List.replicate 32 (.i .u8 0))]
def r177_15:List O:=[Qk 9 (.i .i64 0)]
def r177_16:List O:=[Qv 53 9,Qc 54 .lss 53 (.i .i64 32)]
def r177_18:List O:=[Qv 57 9,Qv 58 9,Qc 59 .quo 58 (.i .i64 4),Qo 60 (.ixA 8 1 (.t 6) (.t 59)),Ql 61 60,Qv 62 9,Qc 63 .rem 62 (.i .i64 4),Qo 64 (.bin .mul (.c (.i .i64 8)) (.t 63)),Qo 65 (.bin .sub (.c (.i .i64 24)) (.t 64)),Qo 66 (.conv .u64 (.t 65)),Qb 67 .shr 61 66,Qo 68 (.conv .u8 (.t 67)),Qo 69 (.ixA 32 1 (.t 8) (.t 57)),Qs 1 69 68]
def r177_17:List O:=[Qv 55 9,Qc 56 .add 55 (.i .i64 1),Qv 9 56]
def b177_3:C:=.seq (.seq (.ops r177_16) (.cond (.t 54) (.skip) (.exit 6))) (.seq (.block 7 (.ops r177_18)) (.ops r177_17))
def r177_19:List O:=[Qd 70 32 8,Qs 32 2 70]
def a177:FI:=⟨71,[.cell 2 (some 32)],.seq (.ops r177_0) (.seq (.ops r177_1) (.seq (.block 0 (.loop b177_0)) (.seq (.ops r177_4) (.seq (.seq (.ops r177_5) (.block 2 (.loop b177_1))) (.seq (.ops r177_9) (.seq (.seq (.ops r177_10) (.block 4 (.loop b177_2))) (.seq (.ops r177_14) (.seq (.seq (.ops r177_15) (.block 6 (.loop b177_3))) (.seq (.ops r177_19) (.ret)))))))))),none,none⟩
def r208_0:List O:=[Qk 4 (.i .i64 0)]
def r208_1:List O:=[Qv 5 0,Qv 6 1,Qg 7 288 [(.t 5),(.t 6)],Qv 4 7]
def a208:FI:=⟨8,[.tmp 4],.seq (.ops r208_0) (.seq (.ops r208_1) (.ret)),none,none⟩
def r215_0:List O:=[Qk 2 (.b false)]
def r215_1:List O:=[Qv 3 0,Qc 4 .eql 3 (.i .i64 0),Qv 5 4,QFv 6 5 0,QFg 7 5 158 [(.t 6)],Qr 8 5 7,Qv 2 8]
def a215:FI:=⟨9,[.tmp 2],.seq (.ops r215_0) (.seq (.ops r215_1) (.ret)),none,none⟩
def r245_0:List O:=[Qh 2 0,Qm 4 [.i .u32 0,.i .u32 0,.i .u32 0,.i .u32 0,.i .u32 0,.i .u32 0,.i .u32 0,.i .u32 0]]
def r245_1:List O:=[Qg 22 298 [],Qm 5 (List.replicate 64 (.i .u32 0)),Qs 64 5 22]
def r245_2:List O:=[Qm 6 (List.replicate 64 (.i .u32 0))]
def r245_3:List O:=[Qk 7 (.i .i64 0)]
def r245_4:List O:=[Qv 23 7,Qc 24 .lss 23 (.i .i64 16)]
def r245_6:List O:=[Qv 27 7,Qv 28 1,Qv 29 7,Qo 30 (.bin .mul (.c (.i .i64 4)) (.t 29)),Qx 31 1 28 30,Ql 32 31,Qo 33 (.conv .u32 (.t 32)),Qc 34 .shl 33 (.i .u64 24),Qv 35 1,Qv 36 7,Qo 37 (.bin .mul (.c (.i .i64 4)) (.t 36)),Qc 38 .add 37 (.i .i64 1),Qx 39 1 35 38,Ql 40 39,Qo 41 (.conv .u32 (.t 40)),Qc 42 .shl 41 (.i .u64 16),Qb 43 .or 34 42,Qv 44 1,Qv 45 7,Qo 46 (.bin .mul (.c (.i .i64 4)) (.t 45)),Qc 47 .add 46 (.i .i64 2),Qx 48 1 44 47,Ql 49 48,Qo 50 (.conv .u32 (.t 49)),Qc 51 .shl 50 (.i .u64 8),Qb 52 .or 43 51,Qv 53 1,Qv 54 7,Qo 55 (.bin .mul (.c (.i .i64 4)) (.t 54)),Qc 56 .add 55 (.i .i64 3),Qx 57 1 53 56,Ql 58 57,Qo 59 (.conv .u32 (.t 58)),Qb 60 .or 52 59,Qo 61 (.ixA 64 1 (.t 6) (.t 27)),Qs 1 61 60]
def r245_5:List O:=[Qv 25 7,Qc 26 .add 25 (.i .i64 1),Qv 7 26]
def b245_0:C:=.seq (.seq (.ops r245_4) (.cond (.t 24) (.skip) (.exit 0))) (.seq (.block 1 (.draw r245_6 [])) (.ops r245_5))
def r245_7:List O:=[Qk 8 (.i .i64 16)]
def r245_8:List O:=[Qv 62 8,Qc 63 .lss 62 (.i .i64 64)]
def r245_10:List O:=[Qv 66 8,Qc 67 .sub 66 (.i .i64 15),Qo 68 (.ixA 64 1 (.t 6) (.t 67)),Ql 69 68,Qv 9 69]
def r245_11:List O:=[Qv 70 8,Qc 71 .sub 70 (.i .i64 2),Qo 72 (.ixA 64 1 (.t 6) (.t 71)),Ql 73 72,Qv 10 73]
def r245_12:List O:=[Qv 74 9,Qg 75 299 [(.t 74),(.c (.i .u32 7))],Qv 76 9,Qg 77 299 [(.t 76),(.c (.i .u32 18))],Qb 78 .xor 75 77,Qv 79 9,Qc 80 .shr 79 (.i .u64 3),Qb 81 .xor 78 80,Qv 11 81]
def r245_13:List O:=[Qv 82 10,Qg 83 299 [(.t 82),(.c (.i .u32 17))],Qv 84 10,Qg 85 299 [(.t 84),(.c (.i .u32 19))],Qb 86 .xor 83 85,Qv 87 10,Qc 88 .shr 87 (.i .u64 10),Qb 89 .xor 86 88,Qv 12 89]
def r245_14:List O:=[Qv 90 8,Qv 91 12,Qv 92 8,Qc 93 .sub 92 (.i .i64 7),Qo 94 (.ixA 64 1 (.t 6) (.t 93)),Ql 95 94,Qb 96 .add 91 95,Qv 97 11,Qb 98 .add 96 97,Qv 99 8,Qc 100 .sub 99 (.i .i64 16),Qo 101 (.ixA 64 1 (.t 6) (.t 100)),Ql 102 101,Qb 103 .add 98 102,Qo 104 (.ixA 64 1 (.t 6) (.t 90)),Qs 1 104 103]
def r245_9:List O:=[Qv 64 8,Qc 65 .add 64 (.i .i64 1),Qv 8 65]
def b245_1:C:=.seq (.seq (.ops r245_8) (.cond (.t 63) (.skip) (.exit 2))) (.seq (.block 3 (.seq (.ops r245_10) (.seq (.ops r245_11) (.seq (.ops r245_12) (.seq (.ops r245_13) (.draw r245_14 [])))))) (.ops r245_9))
def r245_15:List O:=[Qd 105 8 2,Qm 13 [.i .u32 0,.i .u32 0,.i .u32 0,.i .u32 0,.i .u32 0,.i .u32 0,.i .u32 0,.i .u32 0],Qs 8 13 105]
def r245_16:List O:=[Qk 14 (.i .i64 0)]
def r245_17:List O:=[Qv 106 14,Qc 107 .lss 106 (.i .i64 64)]
def r245_19:List O:=[Qo 110 (.ixA 8 1 (.t 13) (.c (.i .i64 4))),Ql 111 110,Qg 112 299 [(.t 111),(.c (.i .u32 6))],Qo 113 (.ixA 8 1 (.t 13) (.c (.i .i64 4))),Ql 114 113,Qg 115 299 [(.t 114),(.c (.i .u32 11))],Qb 116 .xor 112 115,Qo 117 (.ixA 8 1 (.t 13) (.c (.i .i64 4))),Ql 118 117,Qg 119 299 [(.t 118),(.c (.i .u32 25))],Qb 120 .xor 116 119,Qv 15 120]
def r245_20:List O:=[Qo 121 (.ixA 8 1 (.t 13) (.c (.i .i64 4))),Ql 122 121,Qo 123 (.ixA 8 1 (.t 13) (.c (.i .i64 5))),Ql 124 123,Qb 125 .and 122 124,Qo 126 (.ixA 8 1 (.t 13) (.c (.i .i64 4))),Ql 127 126,Qo 128 (.un .xor (.t 127)),Qo 129 (.ixA 8 1 (.t 13) (.c (.i .i64 6))),Ql 130 129,Qb 131 .and 128 130,Qb 132 .xor 125 131,Qv 16 132]
def r245_21:List O:=[Qo 133 (.ixA 8 1 (.t 13) (.c (.i .i64 7))),Ql 134 133,Qv 135 15,Qb 136 .add 134 135,Qv 137 16,Qb 138 .add 136 137,Qv 139 14,Qo 140 (.ixA 64 1 (.t 5) (.t 139)),Ql 141 140,Qb 142 .add 138 141,Qv 143 14,Qo 144 (.ixA 64 1 (.t 6) (.t 143)),Ql 145 144,Qb 146 .add 142 145,Qv 17 146]
def r245_22:List O:=[Qo 147 (.ixA 8 1 (.t 13) (.c (.i .i64 0))),Ql 148 147,Qg 149 299 [(.t 148),(.c (.i .u32 2))],Qo 150 (.ixA 8 1 (.t 13) (.c (.i .i64 0))),Ql 151 150,Qg 152 299 [(.t 151),(.c (.i .u32 13))],Qb 153 .xor 149 152,Qo 154 (.ixA 8 1 (.t 13) (.c (.i .i64 0))),Ql 155 154,Qg 156 299 [(.t 155),(.c (.i .u32 22))],Qb 157 .xor 153 156,Qv 18 157]
def r245_23:List O:=[Qo 158 (.ixA 8 1 (.t 13) (.c (.i .i64 0))),Ql 159 158,Qo 160 (.ixA 8 1 (.t 13) (.c (.i .i64 1))),Ql 161 160,Qb 162 .and 159 161,Qo 163 (.ixA 8 1 (.t 13) (.c (.i .i64 0))),Ql 164 163,Qo 165 (.ixA 8 1 (.t 13) (.c (.i .i64 2))),Ql 166 165,Qb 167 .and 164 166,Qb 168 .xor 162 167,Qo 169 (.ixA 8 1 (.t 13) (.c (.i .i64 1))),Ql 170 169,Qo 171 (.ixA 8 1 (.t 13) (.c (.i .i64 2))),Ql 172 171,Qb 173 .and 170 172,Qb 174 .xor 168 173,Qv 19 174]
def r245_24:List O:=[Qv 175 18,Qv 176 19,Qb 177 .add 175 176,Qv 20 177]
def r245_25:List O:=[Qv 178 17,Qv 179 20,Qb 180 .add 178 179,Qo 181 (.ixA 8 1 (.t 13) (.c (.i .i64 0))),Ql 182 181,Qo 183 (.ixA 8 1 (.t 13) (.c (.i .i64 1))),Ql 184 183,Qo 185 (.ixA 8 1 (.t 13) (.c (.i .i64 2))),Ql 186 185,Qo 187 (.ixA 8 1 (.t 13) (.c (.i .i64 3))),Ql 188 187,Qv 189 17,Qb 190 .add 188 189,Qo 191 (.ixA 8 1 (.t 13) (.c (.i .i64 4))),Ql 192 191,Qo 193 (.ixA 8 1 (.t 13) (.c (.i .i64 5))),Ql 194 193,Qo 195 (.ixA 8 1 (.t 13) (.c (.i .i64 6))),Ql 196 195,Qo 197 (.build [.i .u32 0,.i .u32 0,.i .u32 0,.i .u32 0,.i .u32 0,.i .u32 0,.i .u32 0,.i .u32 0] [(0,1,(.t 180)),(1,1,(.t 182)),(2,1,(.t 184)),(3,1,(.t 186)),(4,1,(.t 190)),(5,1,(.t 192)),(6,1,(.t 194)),(7,1,(.t 196))]),Qs 8 13 197]
def r245_18:List O:=[Qv 108 14,Qc 109 .add 108 (.i .i64 1),Qv 14 109]
def b245_2:C:=.seq (.seq (.ops r245_17) (.cond (.t 107) (.skip) (.exit 4))) (.seq (.block 5 (.seq (.draw r245_19 [(2,4),(2,8),(5,8)]) (.seq (.ops r245_20) (.seq (.draw r245_21 []) (.seq (.draw r245_22 [(2,4),(2,8),(5,8)]) (.seq (.ops r245_23) (.seq (.ops r245_24) (.ops r245_25)))))))) (.ops r245_18))
def r245_26:List O:=[Qk 21 (.i .i64 0)]
def r245_27:List O:=[Qv 198 21,Qc 199 .lss 198 (.i .i64 8)]
def r245_29:List O:=[Qv 202 21,Qv 203 21,Qo 204 (.ixA 8 1 (.t 2) (.t 203)),Ql 205 204,Qv 206 21,Qo 207 (.ixA 8 1 (.t 13) (.t 206)),Ql 208 207,Qb 209 .add 205 208,Qo 210 (.ixA 8 1 (.t 2) (.t 202)),Qs 1 210 209]
def r245_28:List O:=[Qv 200 21,Qc 201 .add 200 (.i .i64 1),Qv 21 201]
def b245_3:C:=.seq (.seq (.ops r245_27) (.cond (.t 199) (.skip) (.exit 6))) (.seq (.block 7 (.draw r245_29 [])) (.ops r245_28))
def r245_30:List O:=[Qd 211 8 2,Qs 8 4 211]
def a245:FI:=⟨212,[.cell 4 (some 8)],.seq (.ops r245_0) (.seq (.ops r245_1) (.seq (.ops r245_2) (.seq (.seq (.ops r245_3) (.block 0 (.loop b245_0))) (.seq (.seq (.ops r245_7) (.block 2 (.loop b245_1))) (.seq (.ops r245_15) (.seq (.seq (.ops r245_16) (.block 4 (.loop b245_2))) (.seq (.seq (.ops r245_26) (.block 6 (.loop b245_3))) (.seq (.ops r245_30) (.ret))))))))),none,none⟩
def a288:FI:=zaY 2 5
def r298_0:List O:=[Qm 0 (List.replicate 64 (.i .u32 0))]
def r298_1:List O:=[Qo 1 (.build (List.replicate 64 (.i .u32 0)) [(0,1,(.c (.i .u32 1116352408))),(1,1,(.c (.i .u32 1899447441))),(2,1,(.c (.i .u32 3049323471))),(3,1,(.c (.i .u32 3921009573))),(4,1,(.c (.i .u32 961987163))),(5,1,(.c (.i .u32 1508970993))),(6,1,(.c (.i .u32 2453635748))),(7,1,(.c (.i .u32 2870763221))),(8,1,(.c (.i .u32 3624381080))),(9,1,(.c (.i .u32 310598401))),(10,1,(.c (.i .u32 607225278))),(11,1,(.c (.i .u32 1426881987))),(12,1,(.c (.i .u32 1925078388))),(13,1,(.c (.i .u32 2162078206))),(14,1,(.c (.i .u32 2614888103))),(15,1,(.c (.i .u32 3248222580))),(16,1,(.c (.i .u32 3835390401))),(17,1,(.c (.i .u32 4022224774))),(18,1,(.c (.i .u32 264347078))),(19,1,(.c (.i .u32 604807628))),(20,1,(.c (.i .u32 770255983))),(21,1,(.c (.i .u32 1249150122))),(22,1,(.c (.i .u32 1555081692))),(23,1,(.c (.i .u32 1996064986))),(24,1,(.c (.i .u32 2554220882))),(25,1,(.c (.i .u32 2821834349))),(26,1,(.c (.i .u32 2952996808))),(27,1,(.c (.i .u32 3210313671))),(28,1,(.c (.i .u32 3336571891))),(29,1,(.c (.i .u32 3584528711))),(30,1,(.c (.i .u32 113926993))),(31,1,(.c (.i .u32 338241895))),(32,1,(.c (.i .u32 666307205))),(33,1,(.c (.i .u32 773529912))),(34,1,(.c (.i .u32 1294757372))),(35,1,(.c (.i .u32 1396182291))),(36,1,(.c (.i .u32 1695183700))),(37,1,(.c (.i .u32 1986661051))),(38,1,(.c (.i .u32 2177026350))),(39,1,(.c (.i .u32 2456956037))),(40,1,(.c (.i .u32 2730485921))),(41,1,(.c (.i .u32 2820302411))),(42,1,(.c (.i .u32 3259730800))),(43,1,(.c (.i .u32 3345764771))),(44,1,(.c (.i .u32 3516065817))),(45,1,(.c (.i .u32 3600352804))),(46,1,(.c (.i .u32 4094571909))),(47,1,(.c (.i .u32 275423344))),(48,1,(.c (.i .u32 430227734))),(49,1,(.c (.i .u32 506948616))),(50,1,(.c (.i .u32 659060556))),(51,1,(.c (.i .u32 883997877))),(52,1,(.c (.i .u32 958139571))),(53,1,(.c (.i .u32 1322822218))),(54,1,(.c (.i .u32 1537002063))),(55,1,(.c (.i .u32 1747873779))),(56,1,(.c (.i .u32 1955562222))),(57,1,(.c (.i .u32 2024104815))),(58,1,(.c (.i .u32 2227730452))),(59,1,(.c (.i .u32 2361852424))),(60,1,(.c (.i .u32 2428436474))),(61,1,(.c (.i .u32 2756734187))),(62,1,(.c (.i .u32 3204031479))),(63,1,(.c (.i .u32 3329325298)))]),Qs 64 0 1]
def a298:FI:=⟨2,[.cell 0 (some 64)],.seq (.ops r298_0) (.seq (.ops r298_1) (.ret)),none,none⟩
def r299_0:List O:=[Qk 4 (.i .u32 0)]
def r299_1:List O:=[Qv 5 0,Qv 6 1,Qb 7 .shr 5 6,Qv 8 0,Qv 9 1,Qo 10 (.bin .sub (.c (.i .u32 32)) (.t 9)),Qb 11 .shl 8 10,Qb 12 .or 7 11,Qv 4 12]
def a299:FI:=⟨13,[.tmp 4],.seq (.ops r299_0) (.seq (.ops r299_1) (.ret)),none,none⟩
def a368:FI:=zaY 2 6
end Go.Air.Try
set_option maxRecDepth 100000
namespace Go.Air.Try
def tree:T FI:=.n (.n (.n (.n (.n (.n (.n (.n .e (some a127) .e) none .e) (some a31) (.n (.n .e (some a159) .e) none .e)) (some a15) (.n (.n .e (some a79) .e) (some a47) (.n (.n .e none .e) none (.n .e none .e)))) none (.n (.n (.n .e (some a71) .e) (some a39) (.n (.n .e (some a167) .e) (some a103) .e)) (some a23) (.n (.n .e (some a87) (.n .e (some a215) .e)) (some a55) (.n (.n .e none .e) (some a119) .e)))) none (.n (.n (.n (.n (.n (.n .e none .e) none .e) (some a67) .e) (some a35) (.n .e (some a99) .e)) (some a19) (.n (.n (.n .e (some a147) .e) none .e) (some a51) (.n (.n (.n .e none .e) none .e) (some a115) .e))) none (.n (.n (.n (.n (.n .e none .e) none .e) (some a75) (.n (.n .e none .e) none .e)) (some a43) (.n (.n (.n .e (some a299) .e) (some a171) .e) (some a107) .e)) (some a27) (.n (.n .e (some a91) .e) (some a59) (.n .e (some a123) .e))))) none (.n (.n (.n (.n (.n (.n (.n .e none .e) (some a129) .e) (some a65) .e) none (.n (.n .e (some a161) .e) (some a97) .e)) (some a17) (.n .e (some a49) (.n (.n .e (some a177) .e) none .e))) (some a9) (.n (.n (.n .e (some a73) .e) (some a41) (.n (.n .e (some a169) .e) (some a105) .e)) (some a25) (.n (.n .e (some a89) .e) (some a57) (.n (.n .e none .e) none (.n (.n .e none .e) none .e))))) (some a5) (.n (.n (.n .e (some a37) (.n (.n .e (some a165) .e) (some a101) .e)) (some a21) (.n .e (some a53) (.n .e (some a117) (.n .e (some a245) .e)))) (some a13) (.n (.n (.n .e (some a77) (.n (.n .e none .e) none .e)) (some a45) .e) (some a29) (.n (.n .e (some a93) (.n .e none .e)) (some a61) (.n (.n (.n .e none .e) none .e) (some a125) .e)))))) none (.n (.n (.n (.n (.n (.n (.n .e (some a128) .e) (some a64) .e) none (.n (.n (.n .e (some a288) .e) (some a160) .e) (some a96) .e)) (some a16) (.n (.n (.n (.n .e none .e) none .e) (some a80) (.n .e (some a208) .e)) (some a48) (.n .e none (.n (.n .e (some a368) .e) none .e)))) (some a8) (.n (.n (.n (.n (.n .e none .e) none .e) (some a72) .e) (some a40) (.n (.n .e (some a168) .e) (some a104) .e)) (some a24) (.n (.n (.n .e (some a152) .e) (some a88) .e) (some a56) (.n (.n .e none .e) none .e)))) (some a4) (.n (.n (.n (.n .e (some a68) .e) (some a36) (.n .e (some a100) (.n (.n .e none .e) none .e))) (some a20) (.n (.n (.n .e (some a148) .e) none .e) (some a52) (.n .e (some a116) .e))) none (.n (.n (.n .e (some a76) (.n .e none .e)) (some a44) .e) (some a28) (.n (.n .e (some a92) .e) (some a60) (.n (.n (.n .e none .e) none .e) (some a124) .e))))) none (.n (.n (.n (.n (.n (.n (.n .e none .e) (some a130) .e) (some a66) .e) none (.n .e (some a98) .e)) (some a18) (.n .e (some a50) (.n (.n (.n .e none .e) none .e) (some a114) .e))) none (.n (.n (.n (.n (.n .e none .e) none .e) (some a74) .e) (some a42) (.n (.n (.n .e (some a298) .e) (some a170) .e) (some a106) .e)) none (.n (.n .e (some a90) .e) (some a58) (.n .e none (.n .e none .e))))) (some a6) (.n (.n (.n (.n (.n .e none .e) none .e) (some a38) (.n (.n .e (some a166) .e) (some a102) .e)) (some a22) (.n .e (some a54) (.n (.n .e none .e) (some a118) .e))) (some a14) (.n (.n (.n .e (some a78) .e) (some a46) (.n .e none (.n .e none .e))) (some a30) (.n (.n (.n .e (some a158) .e) none .e) none (.n .e (some a126) .e))))))
def exts:List Nat:=[288,368]
def prims:List Nat:=[55,79,92,288,368]
def ext (k:Nat):Bool:=exts.any (Nat.beq k)
end Go.Air.Try
namespace Go.Air
abbrev Emb:=Nat→Option (Nat × Nat)
def Emb.le (R R':Emb):Prop:=∀b x,R b=some x→R' b=some x
theorem Emb.le_refl (R:Emb):R.le R:=fun _ _ h=>h
theorem Emb.le_trans {R R' R'':Emb} (h:R.le R') (h':R'.le R''):R.le R'':=fun b x hx=>h' b x (h b x hx)
def zai (l:List Nat):ByteArray:=⟨(l.map UInt8.ofNat).toArray⟩
mutual
def conc (R:Emb):V→Option Value
 |.b x=>some (.bool x)
 |.i k n=>some (.int k n)
 |.s x=>if x.all (Nat.blt · 256) then some (.string (zai x)) else none
 |.pn=>some (.pointer none)
 |.p b o=>(R b).map fun c=>.pointer (some ⟨c.1,o,none⟩)
 |.sn=>some (.slice none 0 0)
 |.sl b o l c none=>(R b).map fun x=>.slice (some ⟨x.1,o,none⟩) l c
 |.sl b o l c (some e)=>(R b).bind fun x=>if o+c*e≤x.2∧0<e then some (.slice (some ⟨x.1,o,none⟩) l ((x.2-o)/e)) else none
 |.se a=>some (.slice (some a) 0 0)
 |.mn=>some (.map none)
 |.m b=>(R b).map fun c=>.map (some c.1)
 |.fnil=>some .nilFunc
 |.fn f a c=>match zae R a,zae R c with
  |some a,some c=>some (.func (.func f) a.toArray c.toArray)
  |_,_=>none
 |.yld l=>(R l).map fun c=>.func (.yield c.1) #[] #[]
 |.in0=>some .nilIface
 |.ifc t v=>match conc R v with
  |some v=>some (.iface t v)
  |none=>none
 |.agg c=>match zae R c with
  |some c=>some (.agg c.toArray)
  |none=>none
 |.tup c=>match zae R c with
  |some c=>some (.tuple c.toArray)
  |none=>none
def zae (R:Emb):List V→Option (List Value)
 |[]=>some []
 |x::l=>match conc R x,zae R l with
  |some v,some vs=>some (v::vs)
  |_,_=>none
end
theorem zbI (R:Emb):zae R []=some []:=by simp[zae]
theorem zah {R:Emb} {x:V} {l:List V} {vs:List Value}:zae R (x::l)=some vs↔∃v w,conc R x=some v∧zae R l=some w∧vs=v::w:=by
 simp only[zae]
 cases conc R x<;>cases zae R l<;>simp[eq_comm]
mutual
theorem zdh {R R':Emb} (h:R.le R'):∀(v:V) (x:Value),conc R v=some x→conc R' v=some x
 |.b _,x,hx=>by simpa [conc] using hx
 |.i _ _,x,hx=>by simpa [conc] using hx
 |.s _,x,hx=>by simpa [conc] using hx
 |.pn,x,hx=>by simpa [conc] using hx
 |.p b o,x,hx=>by
  simp only[conc,Option.map_eq_some_iff]at hx ⊢
  obtain⟨a,ha,hx⟩:=hx
  exact⟨a,h _ _ ha,hx⟩
 |.sn,x,hx=>by simpa [conc] using hx
 |.sl b o l c none,x,hx=>by
  simp only[conc,Option.map_eq_some_iff]at hx ⊢
  obtain⟨a,ha,hx⟩:=hx
  exact⟨a,h _ _ ha,hx⟩
 |.sl b o l c (some e),x,hx=>by
  simp only[conc,Option.bind_eq_some_iff]at hx ⊢
  obtain⟨a,ha,hx⟩:=hx
  exact⟨a,h _ _ ha,hx⟩
 |.se a,x,hx=>by simpa [conc] using hx
 |.mn,x,hx=>by simpa [conc] using hx
 |.m b,x,hx=>by
  simp only[conc,Option.map_eq_some_iff]at hx ⊢
  obtain⟨a,ha,hx⟩:=hx
  exact⟨a,h _ _ ha,hx⟩
 |.fnil,x,hx=>by simpa [conc] using hx
 |.fn f a c,x,hx=>by
  simp only[conc]at hx ⊢
  cases ha:zae R a with
  |none=>simp[ha]at hx
  |some va=>cases hc:zae R c with
   |none=>simp[ha,hc]at hx
   |some vc=>rw[zav h a va ha,zav h c vc hc];simpa [ha,hc] using hx
 |.yld b,x,hx=>by
  simp only[conc,Option.map_eq_some_iff]at hx ⊢
  obtain⟨a,ha,hx⟩:=hx
  exact⟨a,h _ _ ha,hx⟩
 |.in0,x,hx=>by simpa [conc] using hx
 |.ifc t v,x,hx=>by
  simp only[conc]at hx ⊢
  cases hv:conc R v with
  |none=>simp[hv]at hx
  |some y=>rw[zdh h v y hv];simpa [hv] using hx
 |.agg c,x,hx=>by
  simp only[conc]at hx ⊢
  cases hc:zae R c with
  |none=>simp[hc]at hx
  |some vc=>rw[zav h c vc hc];simpa [hc] using hx
 |.tup c,x,hx=>by
  simp only[conc]at hx ⊢
  cases hc:zae R c with
  |none=>simp[hc]at hx
  |some vc=>rw[zav h c vc hc];simpa [hc] using hx
theorem zav {R R':Emb} (h:R.le R'):∀(l:List V) (vs:List Value),zae R l=some vs→zae R' l=some vs
 |[],vs,hx=>by simpa [zae] using hx
 |x::l,vs,hx=>by
  obtain⟨v,w,hv,hw,rfl⟩:=zah.1 hx
  exact zah.2 ⟨v,w,zdh h x v hv,zav h l w hw,rfl⟩
end
theorem zan {R:Emb}:∀{l:List V} {vs:List Value},zae R l=some vs→vs.length=l.length
 |[],vs,h=>by simp[zae]at h;simp[← h]
 |x::l,vs,h=>by
  obtain⟨v,w,_,hw,rfl⟩:=zah.1 h
  simp[zan hw]
theorem zaw {R:Emb}:∀{a b:List V} {va vb:List Value},zae R a=some va→zae R b=some vb→zae R (a++b)=some (va++vb)
 |[],b,va,vb,ha,hb=>by simp[zae]at ha;subst ha;simpa using hb
 |x::l,b,va,vb,ha,hb=>by
  obtain⟨v,w,hv,hw,rfl⟩:=zah.1 ha
  exact zah.2 ⟨v,w++vb,hv,zaw hw hb,rfl⟩
theorem zbd {R:Emb}:∀{l:List V} {vs:List Value} (n:Nat),zae R l=some vs→zae R (l.take n)=some (vs.take n)
 |[],vs,n,h=>by simp[zae]at h;subst h;simp[zae]
 |x::l,vs,0,h=>by simp[zae]
 |x::l,vs,n+1,h=>by
  obtain⟨v,w,hv,hw,rfl⟩:=zah.1 h
  exact zah.2 ⟨v,w.take n,hv,zbd n hw,rfl⟩
theorem zbl {R:Emb}:∀{l:List V} {vs:List Value} (n:Nat),zae R l=some vs→zae R (l.drop n)=some (vs.drop n)
 |[],vs,n,h=>by simp[zae]at h;subst h;simp[zae]
 |x::l,vs,0,h=>by simpa using h
 |x::l,vs,n+1,h=>by
  obtain⟨v,w,hv,hw,rfl⟩:=zah.1 h
  simpa using zbl n hw
theorem zcb {R:Emb}:∀{l:List V} {vs:List Value} {n:Nat} {x:V},zae R l=some vs→l[n]? = some x→∃v,vs[n]? = some v∧conc R x=some v
 |[],_,_,_,_,hx=>by simp at hx
 |y::l,vs,0,x,h,hx=>by
  obtain⟨v,w,hv,hw,rfl⟩:=zah.1 h
  simp at hx;subst hx
  exact⟨v,rfl,hv⟩
 |y::l,vs,n+1,x,h,hx=>by
  obtain⟨v,w,hv,hw,rfl⟩:=zah.1 h
  simpa using zcb hw (by simpa using hx)
theorem zeU {R:Emb} {x:V} {v:Value} (h:conc R x=some v):∀n,zae R (List.replicate n x)=some (List.replicate n v)
 |0=>by simp[zae]
 |n+1=>by rw[List.replicate_succ,List.replicate_succ];exact zah.2 ⟨v,_,h,zeU h n,rfl⟩
theorem ziP {R:Emb} {z:List V} {vz:List Value} (h:zae R z=some vz):∀n,zae R (rep z n)=some ((List.replicate n vz).flatten)
 |0=>by simp[rep,zae]
 |n+1=>by rw[rep,List.replicate_succ,List.flatten_cons];exact zaw h (ziP h n)
theorem zdB:∀(l:List V) (n:Nat),nth? l n=l[n]?
 |[],_=>by simp[nth?]
 |_::_,0=>by simp[nth?]
 |_::l,n+1=>by simp[nth?,zdB l n]
theorem zgN:∀(l:List V) (n:Nat),nth l n=l.getD n .undef
 |[],_=>by simp[nth]
 |_::_,0=>by simp[nth]
 |_::l,n+1=>by simp[nth,zgN l n]
theorem zja:∀(l:List V) (n:Nat) (v:V),upd l n v=l.set n v
 |[],_,_=>by simp[upd]
 |_::_,0,_=>by simp[upd]
 |_::l,n+1,v=>by simp[upd,zja l n v]
theorem zbh:∀{l:List V} {o n:Nat} {r:List V},cut l o n=some r↔o+n≤l.length∧r=(l.drop o).take n
 |[],0,0,r=>by simp[cut,eq_comm]
 |[],0,n+1,r=>by simp[cut]
 |[],o+1,n,r=>by simp[cut]
 |x::l,0,0,r=>by simp[cut,eq_comm]
 |x::l,0,n+1,r=>by
  simp only[cut,Option.map_eq_some_iff]
  constructor
  ·rintro⟨a,ha,rfl⟩
   obtain⟨h,rfl⟩:=zbh.1 ha
   simp at h ⊢
   omega
  ·rintro⟨h,rfl⟩
   exact⟨l.take n,zbh.2 ⟨by simp at h ⊢;omega,by simp⟩,by simp⟩
 |x::l,o+1,n,r=>by
  simp only[cut]
  rw[zbh]
  simp
  omega
theorem zeu:∀{l:List V} {o:Nat} {vs r:List V},lay l o vs=some r↔o+vs.length≤l.length∧r=l.take o++vs++l.drop (o+vs.length)
 |l,0,[],r=>by cases l<;>simp[lay,eq_comm]
 |[],0,v::vs,r=>by simp[lay]
 |[],o+1,vs,r=>by simp[lay]
 |x::l,0,v::vs,r=>by
  simp only[lay,Option.map_eq_some_iff]
  constructor
  ·rintro⟨a,ha,rfl⟩
   obtain⟨h,rfl⟩:=zeu.1 ha
   simp at h ⊢
   omega
  ·rintro⟨h,rfl⟩
   refine⟨vs++l.drop vs.length,zeu.2 ⟨by simp at h ⊢;omega,by simp⟩,by simp⟩
 |x::l,o+1,vs,r=>by
  simp only[lay,Option.map_eq_some_iff]
  constructor
  ·rintro⟨a,ha,rfl⟩
   obtain⟨h,rfl⟩:=zeu.1 ha
   refine⟨by simp at h ⊢;omega,?_⟩
   rw[show o+1+vs.length=(o+vs.length)+1 by omega]
   simp
  ·rintro⟨h,rfl⟩
   refine⟨l.take o++vs++l.drop (o+vs.length),zeu.2 ⟨by simp at h ⊢;omega,rfl⟩,?_⟩
   rw[show o+1+vs.length=(o+vs.length)+1 by omega]
   simp
theorem zbk (R:Emb):conc R .undef=some undef:=by simp[V.undef,conc,zae,undef]
theorem zia {R:Emb} {t:List V} {vs:List Value} (h:zae R t=some vs) (n:Nat):conc R (nth t n)=some (vs.getD n undef):=by
 rw[zgN]
 by_cases hn:n<t.length
 ·obtain⟨v,hv,hc⟩:=zcb h (List.getElem?_eq_getElem hn)
  rw[List.getD_eq_getElem?_getD,List.getD_eq_getElem?_getD,hv,List.getElem?_eq_getElem hn]
  exact hc
 ·have hl:=zan h
  rw[List.getD_eq_getElem?_getD,List.getD_eq_getElem?_getD,List.getElem?_eq_none (by omega),List.getElem?_eq_none (by omega)]
  exact zbk R
theorem zhZ {R:Emb}:∀{t:List V} {vs:List Value} {v:V} {x:Value} (n:Nat),zae R t=some vs→conc R v=some x→zae R (upd t n v)=some (vs.set n x)
 |[],vs,v,x,n,h,hv=>by simp[zae]at h;subst h;simp[upd,zae]
 |y::l,vs,v,x,0,h,hv=>by
  obtain⟨_,w,_,hw,rfl⟩:=zah.1 h
  exact zah.2 ⟨x,w,hv,hw,rfl⟩
 |y::l,vs,v,x,n+1,h,hv=>by
  obtain⟨u,w,hu,hw,rfl⟩:=zah.1 h
  exact zah.2 ⟨u,_,hu,zhZ n hw hv,rfl⟩
theorem zfl {R:Emb} {v:V} {x:Value} (h:conc R v=some x):∃l,zae R v.cells=some l∧x.cells=l.toArray:=by
 cases v with
 |agg c=>
  simp only[conc]at h
  cases hc:zae R c with
  |none=>simp[hc]at h
  |some l=>simp[hc]at h;exact⟨l,hc,by simp[← h,Value.cells]⟩
 |sl b o l c g=>
  refine⟨[x],zah.2 ⟨x,[],h,zbI R,rfl⟩,?_⟩
  cases g with
  |none=>simp only[conc,Option.map_eq_some_iff]at h;obtain⟨_,_,rfl⟩:=h;simp[Value.cells]
  |some e=>
   simp only[conc,Option.bind_eq_some_iff]at h
   obtain⟨_,_,h⟩:=h
   split at h<;>simp at h
   simp[← h,Value.cells]
 |fn f a c=>
  refine⟨[x],zah.2 ⟨x,[],h,zbI R,rfl⟩,?_⟩
  simp only[conc]at h
  cases ha:zae R a<;>cases hc:zae R c<;>simp[ha,hc]at h
  simp[← h,Value.cells]
 |ifc t w=>
  refine⟨[x],zah.2 ⟨x,[],h,zbI R,rfl⟩,?_⟩
  simp only[conc]at h
  cases hw:conc R w<;>simp[hw]at h
  simp[← h,Value.cells]
 |tup c=>
  refine⟨[x],zah.2 ⟨x,[],h,zbI R,rfl⟩,?_⟩
  simp only[conc]at h
  cases hw:zae R c<;>simp[hw]at h
  simp[← h,Value.cells]
 |s l=>
  refine⟨[x],zah.2 ⟨x,[],h,zbI R,rfl⟩,?_⟩
  simp only[conc]at h
  split at h<;>simp at h
  simp[← h,Value.cells]
 |_=>
  refine⟨[x],zah.2 ⟨x,[],h,zbI R,rfl⟩,?_⟩
  first
   |(simp only[conc,Option.map_eq_some_iff]at h;obtain⟨_,_,rfl⟩:=h;simp[Value.cells])
   |(simp only[conc,Option.some.injEq]at h;subst h;simp[Value.cells])
theorem zlV {R:Emb} {v:V} {x:Value} (h:conc R v=some x) (hv:v.oneCell=true):x.oneCell'=true:=by
 cases v with
 |agg c=>simp[V.oneCell]at hv
 |tup c=>simp[V.oneCell]at hv
 |sl b o l c g=>
  cases g with
  |none=>simp only[conc,Option.map_eq_some_iff]at h;obtain⟨_,_,rfl⟩:=h;simp[Value.oneCell']
  |some e=>
   simp only[conc,Option.bind_eq_some_iff]at h
   obtain⟨_,_,h⟩:=h
   split at h<;>simp at h
   simp[← h,Value.oneCell']
 |fn f a c=>
  simp only[conc]at h
  cases ha:zae R a<;>cases hc:zae R c<;>simp[ha,hc]at h
  simp[← h,Value.oneCell']
 |ifc t w=>
  simp only[conc]at h
  cases hw:conc R w<;>simp[hw]at h
  simp[← h,Value.oneCell']
 |s l=>
  simp only[conc]at h
  split at h<;>simp at h
  simp[← h,Value.oneCell']
 |_=>
  first
   |(simp only[conc,Option.map_eq_some_iff]at h;obtain⟨_,_,rfl⟩:=h;simp[Value.oneCell'])
   |(simp only[conc,Option.some.injEq]at h;subst h;simp[Value.oneCell'])
end Go.Air
namespace Go.Air
mutual
def zcW:V→Value→Bool
 |.b x,.bool y=>x==y
 |.i k n,.int k' m=>decide (k=k')&&decide (n=m)
 |.s x,.string y=>x.all (Nat.blt · 256)&&decide (y.data.toList=x.map UInt8.ofNat)
 |.pn,.pointer none=>true
 |.sn,.slice none 0 0=>true
 |.mn,.map none=>true
 |.fnil,.nilFunc=>true
 |.in0,.nilIface=>true
 |.agg c,.agg d=>zhL c d.toList
 |.tup c,.tuple d=>zhL c d.toList
 |_,_=>false
def zhL:List V→List Value→Bool
 |[],[]=>true
 |x::l,v::vs=>zcW x v&&zhL l vs
 |_,_=>false
end
mutual
theorem zdv (R:Emb):∀(v:V) (x:Value),zcW v x=true→conc R v=some x
 |.b _,x,h=>by cases x<;>simp_all [zcW,conc]
 |.i _ _,x,h=>by cases x<;>simp_all [zcW,conc]
 |.s l,x,h=>by
  cases x<;>simp only[zcW,Bool.false_eq_true]at h
  rename_i y
  simp only[Bool.and_eq_true,decide_eq_true_eq]at h
  obtain⟨h1,h2⟩:=h
  simp only[conc,h1,if_true]
  congr 2
  obtain⟨⟨y⟩⟩:=y
  simp only[zai]at *
  rw[← h2]
 |.pn,x,h=>by
  unfold zcW at h
  split at h<;>simp_all [conc]
 |.sn,x,h=>by
  unfold zcW at h
  split at h<;>simp_all [conc]
 |.mn,x,h=>by
  unfold zcW at h
  split at h<;>simp_all [conc]
 |.fnil,x,h=>by cases x<;>simp_all [zcW,conc]
 |.in0,x,h=>by cases x<;>simp_all [zcW,conc]
 |.agg c,x,h=>by
  cases x<;>simp only[zcW,Bool.false_eq_true]at h
  simp[conc,zbq R c _ h]
 |.tup c,x,h=>by
  cases x<;>simp only[zcW,Bool.false_eq_true]at h
  simp[conc,zbq R c _ h]
 |.p _ _,x,h=>by cases x<;>simp[zcW]at h
 |.sl _ _ _ _ _,x,h=>by cases x<;>simp[zcW]at h
 |.m _,x,h=>by cases x<;>simp[zcW]at h
 |.fn _ _ _,x,h=>by cases x<;>simp[zcW]at h
 |.yld _,x,h=>by cases x<;>simp[zcW]at h
 |.ifc _ _,x,h=>by cases x<;>simp[zcW]at h
theorem zbq (R:Emb):∀(l:List V) (vs:List Value),zhL l vs=true→zae R l=some vs
 |[],vs,h=>by cases vs<;>simp_all [zhL,zae]
 |x::l,vs,h=>by
  cases vs with
  |nil=>simp[zhL]at h
  |cons v vs=>
   simp only[zhL,Bool.and_eq_true]at h
   exact zah.2 ⟨v,vs,zdv R x v h.1,zbq R l vs h.2,rfl⟩
end
def okX:Operand→X→Bool
 |.tmp t,.t n=>Nat.beq t n
 |.const v,.c w=>zcW w v
 |.func f,.f n=>Nat.beq f n
 |_,_=>false
def okXs:List Operand→List X→Bool
 |[],[]=>true
 |x::l,y::m=>okX x y&&okXs l m
 |_,_=>false
def okXo:Option Operand→Option X→Bool
 |none,none=>true
 |some x,some y=>okX x y
 |_,_=>false
section
variable (P:Program)
def szT (t:TypeId):Option Nat:=(P.info? t).map (·.size)
def zey (t:TypeId):Option Value:=(P.info? t).bind (·.zero)
def zdt:TypeDesc→Bool
 |.struct _|.array _ _=>true
 |_=>false
def zcl (t:TypeId):Bool:=match P.underlying t with
 |some d => !zdt d
 |none=>false
def aggT (t:TypeId):Bool:=match P.underlying t with
 |some d=>zdt d
 |none=>false
def isSz (t:TypeId) (n:Nat):Bool:=match szT P t with
 |some m=>Nat.beq m n
 |none=>false
def okZ (t:TypeId) (z:List V):Bool:=match zey P t with
 |some v=>zhL z v.cells.toList
 |none=>false
def ktD:KT→TypeDesc→Bool
 |.b,.bool=>true
 |.i k,.int k'=>decide (k=k')
 |.s,.string=>true
 |_,_=>false
mutual
def zex:Nat→TypeId→Option (List KT)
 |0,_=>none
 |d+1,t=>match P.underlying t with
  |some .bool=>if isSz P t 1 then some [.b] else none
  |some (.int k)=>if isSz P t 1 then some [.i k] else none
  |some .string=>if isSz P t 1 then some [.s] else none
  |some (.struct fs)=>if P.stoodInHeld t then none else zhn d 0 fs.toList
  |some (.array n e)=>match zex d e with
   |some l=>if isSz P e l.length then some (List.replicate n l).flatten else none
   |none=>none
  |_=>none
def zhn:Nat→Nat→List Field→Option (List KT)
 |0,_,_=>none
 |_+1,_,[]=>some []
 |d+1,off,f::fs=>
  if f.name = "_" then none else
  match zex d f.type with
  |some l=>if Nat.beq f.offset off&&isSz P f.type l.length then (zhn d (off+l.length) fs).map (l ++ ·) else none
  |none=>none
end
def zfP:List KT→List KT→Bool
 |[],[]=>true
 |x::l,y::m=>decide (x=y)&&zfP l m
 |_,_=>false
def okEqK (t:TypeId):EqK→Bool
 |.bool=>match P.underlying t with|some .bool=>true|_=>false
 |.ptr=>match P.underlying t with|some (.pointer _)=>true|_=>false
 |.slice=>match P.underlying t with|some (.slice _)=>true|_=>false
 |.map=>match P.underlying t with|some (.map _ _)=>true|_=>false
 |.func=>match P.underlying t with|some (.func _ _ _)=>true|_=>false
 |.iface=>match P.underlying t with|some (.interface _)=>true|_=>false
 |.agg ks=>aggT P t && !P.eqGuardType P.depth t&&(match zex P 40 t with|some l=>zfP l ks|none=>false)
def zeE (t:TypeId):Bool:=match P.underlying t with
 |some .bool|some (.int _)|some .string=>true
 |_=>false
def okKK (t:TypeId):KK→Bool
 |.sc k=>match P.underlying t with|some d=>ktD k d|none=>false
 |.ag ks=>(match P.underlying t with
   |some (.struct fs)=>fs.toList.all fun f=>zeE P f.type
   |_=>false)&&(match zex P 40 t with|some l=>zfP l ks|none=>false)
def zcc:Operand→Bool
 |.const _=>true
 |_=>false
def zeb (fs:Array Field):List (Nat × Operand)→List (Nat × Nat × X)→Bool
 |[],[]=>true
 |(i,x)::l,(off,sz,y)::m=>(match fs[i]? with
    |some f=>Nat.beq f.offset off&&isSz P f.type sz
    |none=>false)&&okX x y&&zeb fs l m
 |_,_=>false
def zcM (size:Nat):List (Nat × Operand)→List (Nat × Nat × X)→Bool
 |[],[]=>true
 |(i,x)::l,(off,sz,y)::m=>Nat.beq (i*size) off&&Nat.beq size sz&&okX x y&&zcM size l m
 |_,_=>false
def zrow (z:List Value) (n:Nat):List Value:=(List.range n).map fun i=>z.getD (i%z.length) default
def zcZ (b:Builtin) (args:List Operand) (ats:List TypeId):A→Bool
 |.lenS x=>match b,args,ats with
  |.len,[y],[t]=>okX y x&&(match P.underlying t with|some .string=>true|_=>false)
  |_,_,_=>false
 |.lenL x=>match b,args,ats with
  |.len,[y],[t]=>okX y x&&(match P.underlying t with|some (.slice _)=>true|_=>false)
  |_,_,_=>false
 |.lenM x=>match b,args,ats with
  |.len,[y],[t]=>okX y x&&(match P.underlying t with|some (.map _ _)=>true|_=>false)
  |_,_,_=>false
 |.lenC n=>match b,args,ats with
  |.len,[_],[t]=>(match P.underlying t with
   |some (.array m _)=>Nat.beq m n
   |some (.pointer a)=>(match P.underlying a with
    |some (.array m _)=>Nat.beq m n
    |_=>false)
   |_=>false)
  |_,_,_=>false
 |.app esz bytes s x=>match b,args,ats with
  |.append,[s',x'],[st,xt]=>okX s' s&&okX x' x&&(match P.underlying st,P.underlying xt with
   |some (.slice e),some d=>(match d with|.int _=>false|_=>true)&&(match P.info? e with
    |some i=>Nat.beq i.size esz&&Nat.beq i.bytes bytes&&(match i.zero with|some v=>Nat.beq v.cells.toList.length esz|none=>false)
    |none=>false)
   |_,_=>false)
  |_,_,_=>false
 |.cpy esz d s=>match b,args,ats with
  |.copy,[d',s'],dt::_=>okX d' d&&okX s' s&&(match P.underlying dt with
   |some (.slice e)=>isSz P e esz
   |_=>false)
  |_,_,_=>false
 |.clr z x=>match b,args,ats with
  |.clear,[x'],[t]=>okX x' x&&(match P.underlying t with
   |some (.slice e)=>okZ P e z
   |_=>false)
  |_,_,_=>false
 |.min xs=>match b with
  |.min=>okXs args xs
  |_=>false
 |.max xs=>match b with
  |.max=>okXs args xs
  |_=>false
 |_=>false
def okB (c:Call) (a:A):Bool:=match c.callee with
 |.builtin b=>zcZ P b c.args.toList c.argTypes.toList a
 |_=>false
def okA:Op→A→Bool
 |_,.no=>true
 |.move x,.mov y=>okX x y
 |.assign x,.mov y=>okX x y
 |.pick c a b,.pick c' a' b'=>okX c c'&&okX a a'&&okX b b'
 |.alloc e,.alloc z=>okZ P e z
 |.box _ x,.box y=>okX x y
 |.build t parts,.build z ps=>okZ P t z&&(match P.underlying t with
  |some (.struct fs)=>fs.toList.all (fun f=>(szT P f.type).isSome)&&zeb P fs parts.toList ps
  |some (.array _ e)=>(match szT P e with
   |some n=>zcM n parts.toList ps
   |none=>false)
  |_=>false)
 |.buildSlice t len parts,.buildSl z len' ps=>Nat.beq len len'&&(match P.underlying t with
  |some (.slice e)=>(match P.info? e with
   |some i=>Nat.ble (len*i.size) 16777216&&zcM i.size parts.toList ps&&(match i.zero with
    |some v=>zhL z (zrow v.cells.toList (len*i.size))
    |none=>false)
   |none=>false)
  |_=>false)
 |.load t a,.ld x=>zcl P t&&okX a x
 |.load t a,.ldn n x=>aggT P t&&isSz P t n&&okX a x
 |.store t a v,.st n x y=>isSz P t n&&okX a x&&okX v y
 |.nilCheck x,.nilck y=>okX x y
 |.binOp op _ x y _,.bin op' x' y'=>decide (op=op')&&okX x x'&&okX y y'
 |.binOp op t x y _,.eqv neg k x' y'=>decide (op=if neg then .neq else .eql)&&okX x x'&&okX y y'&&okEqK P t k&&(match k with
  |.iface=>zcc x||zcc y
  |_=>true)
 |.unOp op _ x,.un op' y=>decide (op=op')&&okX x y
 |.convert s d x,.conv k y=>okX x y&&(match P.underlying s,P.underlying d with
  |some _,some (.int k')=>decide (k=k')
  |_,_=>false)
 |.makeInterface t x,.mkI t' y=>Nat.beq t t'&&okX x y&&(match P.underlying t with
  |some (.interface _)=>false
  |some _=>true
  |none=>false)
 |.makeFunc (.func f) a c,.mkFn f' a' c'=>Nat.beq f f'&&okXs a.toList a'&&okXs c.toList c'
 |.makeMap _ none,.mkMap=>true
 |.makeSlice t l c,.mkSl z bytes l' c'=>okX l l'&&okX c c'&&(match P.underlying t with
  |some (.slice e)=>(match P.info? e with
   |some i=>Nat.beq i.bytes bytes&&Nat.beq i.size z.length&&(match i.zero with
    |some v=>zhL z v.cells.toList
    |none=>false)
   |none=>false)
  |_=>false)
 |.slice t x lo hi mx,.slc esz x' lo' hi' mx'=>okX x x'&&okXo lo lo'&&okXo hi hi'&&okXo mx mx'&&(match P.underlying t with
  |some (.slice e)=>isSz P e esz
  |_=>false)
 |.slice t x lo hi mx,.slcA len esz x' lo' hi'=>okX x x'&&okXo lo lo'&&okXo hi hi'&&mx.isNone&&(match P.underlying t with
  |some (.array n e)=>Nat.beq n len&&isSz P e esz
  |_=>false)
 |.slice t x lo hi mx,.slcS x' lo' hi'=>okX x x'&&okXo lo lo'&&okXo hi hi'&&mx.isNone&&(match P.underlying t with
  |some .string=>true
  |_=>false)
 |.fieldAddr s x f,.fld off y=>okX x y&&(match P.underlying s with
  |some (.struct fs)=>(match fs[f]? with
   |some fd=>Nat.beq fd.offset off&&(match szT P fd.type with
    |some n=>Nat.blt 0 n
    |none=>false)
   |none=>false)
  |_=>false)
 |.field s x f,.fldv off sz y=>okX x y&&(match P.underlying s with
  |some (.struct fs)=>(match fs[f]? with
   |some fd=>Nat.beq fd.offset off&&(match sz with
    |none=>zcl P fd.type
    |some n=>aggT P fd.type&&isSz P fd.type n)
   |none=>false)
  |_=>false)
 |.indexAddr t x ix,.ixS esz x' ix'=>okX x x'&&okX ix ix'&&(match P.underlying t with
  |some (.slice e)=>isSz P e esz
  |_=>false)
 |.indexAddr t x ix,.ixA len esz x' ix'=>okX x x'&&okX ix ix'&&(match P.underlying t with
  |some (.array n e)=>Nat.beq n len&&isSz P e esz
  |_=>false)
 |.index t x ix,.ixStr x' ix'=>okX x x'&&okX ix ix'&&(match P.underlying t with
  |some .string=>true
  |_=>false)
 |.index t x ix,.ixV len esz ag x' ix'=>okX x x'&&okX ix ix'&&(match P.underlying t with
  |some (.array n e)=>Nat.beq n len&&isSz P e esz&&(if ag then aggT P e else zcl P e)
  |_=>false)
 |.lookup t x k ok,.look kk z ok' x' k'=>okX x x'&&okX k k'&&(ok==ok')&&(match P.underlying t with
  |some (.map kt et)=>okKK P kt kk&&(match zey P et with
   |some v=>zcW z v
   |none=>false)
  |_=>false)
 |.mapUpdate t x k v,.mapSet kk x' k' v'=>okX x x'&&okX k k'&&okX v v'&&(match P.underlying t with
  |some (.map kt _)=>okKK P kt kk
  |_=>false)
 |.insert t x k v,.mapSet kk x' k' v'=>okX x x'&&okX k k'&&okX v v'&&(match P.underlying t with
  |some (.map kt _)=>okKK P kt kk
  |_=>false)
 |.extract x n,.ext y m=>Nat.beq n m&&okX x y
 |.call c,.call f args=>(match c.callee with
  |.value g=>okX g f&&okXs c.args.toList args
  |_=>false)
 |.call c,.lenS x=>okB P c (.lenS x)
 |.call c,.lenL x=>okB P c (.lenL x)
 |.call c,.lenM x=>okB P c (.lenM x)
 |.call c,.lenC n=>okB P c (.lenC n)
 |.call c,.app a b x y=>okB P c (.app a b x y)
 |.call c,.cpy n x y=>okB P c (.cpy n x y)
 |.call c,.clr z x=>okB P c (.clr z x)
 |.call c,.min xs=>okB P c (.min xs)
 |.call c,.max xs=>okB P c (.max xs)
 |.panic x,.panic y=>okX x y
 |.typeAssert x _ s ok,.tassert t z ok' y=>Nat.beq s t&&(ok==ok')&&okX x y&&(match P.underlying s with
  |some (.interface _)=>false
  |some _=>true
  |none=>false)&&(match zey P s with
   |some v=>zcW z v
   |none=>false)
 |.convert s d x,.s2b y=>okX x y&&(P.underlying s).isSome&&(match P.underlying d with
  |some (.slice e)=>(match P.underlying e with|some (.int .u8)=>true|_=>false)&&isSz P e 1
  |_=>false)
 |.convert s d x,.mark y=>okX x y&&Nat.beq s d&&(match P.underlying s with
  |some (.slice e)=>(match P.underlying e with|some (.int .u8)=>true|_=>false)
  |_=>false)
 |.convert s d x,.b2s y=>okX x y&&(match P.underlying s,P.underlying d with
  |some (.slice e),some .string=>(match P.underlying e with|some (.int .u8)=>true|_=>false)
  |_,_=>false)
 |_,_=>false
def zlc:Option Tmp→Option Nat→Bool
 |none,none=>true
 |some a,some b=>Nat.beq a b
 |_,_=>false
def okG (ops:Array Oper):Option (Nat × Bool)→Option (Nat × Bool)→Bool
 |none,none=>true
 |some (j,w),some (d,w')=>(w==w')&&(match ops[j]? with
  |some o=>zlc o.dst (some d)
  |none=>false)
 |_,_=>false
def okO (ops:Array Oper) (o:Oper) (a:O):Bool:=zlc o.dst a.dst&&okG ops o.guard a.g&&okA P o.op a.op
def zec (ops:Array Oper):List Oper→List O→Bool
 |[],[]=>true
 |o::l,a::m=>okO P ops o a&&zec ops l m
 |_,_=>false
inductive Cls where
 |idle|reads|writes
 deriving DecidableEq
def cls:A→Cls
 |.st ..|.mapSet ..|.call ..|.app ..|.cpy ..|.clr ..|.mark ..=>.writes
 |.ld _|.ldn ..|.look ..|.lenM _|.b2s _=>.reads
 |_=>.idle
def xT:X→List Nat
 |.t n=>[n]
 |_=>[]
def xoT:Option X→List Nat
 |some x=>xT x
 |none=>[]
def uses:A→List Nat
 |.mov x|.box x|.ld x|.ldn _ x|.nilck x|.un _ x|.conv _ x|.mkI _ x|.fld _ x|.fldv _ _ x|.ext x _|.lenS x|.lenL x|.lenM x|.clr _ x|.panic x|.tassert _ _ _ x|.s2b x|.b2s x|.mark x=>xT x
 |.pick a b c=>xT a++xT b++xT c
 |.build _ ps|.buildSl _ _ ps=>ps.flatMap fun p=>xT p.2.2
 |.st _ a b|.bin _ a b|.eqv _ _ a b|.mkSl _ _ a b|.ixS _ a b|.ixA _ _ a b|.ixStr a b|.ixV _ _ _ a b|.look _ _ _ a b|.app _ _ a b|.cpy _ a b=>xT a++xT b
 |.mapSet _ a b c=>xT a++xT b++xT c
 |.mkFn _ a c=>a.flatMap xT++c.flatMap xT
 |.slc _ x a b c=>xT x++xoT a++xoT b++xoT c
 |.slcA _ _ x a b|.slcS x a b=>xT x++xoT a++xoT b
 |.call f xs=>xT f++xs.flatMap xT
 |.min xs|.max xs=>xs.flatMap xT
 |.alloc _|.mkMap|.lenC _|.no=>[]
def zkJ (o:O):List Nat:=uses o.op++(match o.g with|some (n,_)=>[n]|none=>[])
def zjP (d:Option Nat) (l:List Nat):Bool:=match d with
 |some n=>l.contains n
 |none=>false
def free (a b:O) (seen:Bool):Bool:=
 !zjP a.dst (zkJ b++b.dst.toList) && !zjP b.dst (zkJ a) &&
 (seen||match cls a.op,cls b.op with
   |.idle,_|_,.idle|.reads,.reads=>true
   |_,_=>false)
def zjD (ops:Array Oper):List Nat:=
 ops.toList.foldl (init:=[]) fun acc o=>
  acc++[o.after.toList.foldl (fun s e=>if Region.binds .any e then s ||| 2^e.on ||| acc.getD e.on 0 else s) 0]
def zkb:Nat→List Oper→Bool
 |_,[]=>true
 |i,o::l=>o.after.toList.all (fun e => !Region.binds .any e||Nat.blt e.on i)&&zkb (i+1) l
def zpK (bs:List Nat) (l:List O) (crit:List (Nat × Nat)):Bool:=
 (List.range l.length).all fun j=>(List.range j).all fun i=>
   (bs.getD j 0).testBit i||(match l[i]?,l[j]? with
     |some a,some b=>free a b (crit.any fun p=>Nat.beq p.1 i&&Nat.beq p.2 j)
     |_,_=>false)
def znq (ops:Array Oper) (l:List O) (crit:List (Nat × Nat)):Bool:=zkb 0 ops.toList&&zpK (zjD ops) l crit
def okC:Code→C→Bool
 |.skip,.skip=>true
 |.label _,.skip=>true
 |.region _ ops false,.ops l=>zec P ops ops.toList l
 |.region _ ops true,.draw l crit=>zec P ops ops.toList l&&znq ops l crit
 |.seq a b,.seq c d=>okC a c&&okC b d
 |.cond x a b,.cond y c d=>okX x y&&okC a c&&okC b d
 |.block i a,.block j c=>Nat.beq i j&&okC a c
 |.loop a,.loop c=>okC a c
 |.scope a,c=>okC a c
 |.exit i,.exit j=>Nat.beq i j
 |.ret,.ret=>true
 |.rangeFunc f ps a b,.rangeF g qs c d=>okX f g&&decide (ps.toList=qs)&&okC a c&&okC b d
 |_,_=>false
def zeH:List ResultVar→List ResV→Bool
 |[],[]=>true
 |.tmp t::l,.tmp n::m=>Nat.beq t n&&zeH l m
 |.cell a t::l,.cell n sz::m=>Nat.beq a n&&(match sz with
  |none=>zcl P t
  |some k=>aggT P t&&isSz P t k)&&zeH l m
 |_,_=>false
def flat:C→Bool
 |.draw _ _|.rangeF _ _ _ _|.prim _=>false
 |.seq a b=>flat a&&flat b
 |.cond _ a b=>flat a&&flat b
 |.block _ a=>flat a
 |.loop a=>flat a
 |_=>true
def zny:A→Bool
 |.call _ _=>true
 |_=>false
def okDf (ops:Array Oper):List Oper→List O→X→Bool
 |[o],[a],x=>(match o.op with
   |.defer c=>(match c.callee with
    |.value y=>okX y x&&Nat.beq c.args.size 0
    |_=>false)
   |_=>false)&&o.dst.isNone&&o.guard.isNone&&a.dst.isNone&&a.g.isNone&&(match a.op with
   |.mov _=>true
   |_=>false)
 |o::l,a::m,x=>okO P ops o a&&okDf ops l m x
 |_,_,_=>false
def zhN:Code→C→C→X→Bool
 |.seq (.region _ ops false) b,.ops l,rest,x=>okDf P ops ops.toList l x&&okC P b rest
 |.seq a b,.seq a' b',rest,x=>okC P a a'&&flat a'&&zhN b b' rest x
 |_,_,_,_=>false
def okRcv (c:Code) (body:C) (n:Nat):Bool:=match c,body with
 |.seq (.region _ ops false) b,.seq (.ops l) rest=>(match ops.toList with
  |o::L=>(match o.op with
    |.call k=>(match k.callee with
     |.builtin .recover=>true
     |_=>false)
    |_=>false)&&zlc o.dst (some n)&&o.guard.isNone&&zec P ops L l&&l.all (fun a => !zny a.op)&&okC P b rest&&flat rest
  |[]=>false)
 |_,_=>false
def znr (c:Code) (fi:FI):Bool:=match fi.rcv,fi.dfr with
 |none,none=>okC P c fi.body
 |none,some (pre,x)=>zhN P c pre fi.body x
 |some n,none=>fi.res.isEmpty&&okRcv P c fi.body n
 |_,_=>false
def okFI (k:Nat) (fi:FI):Bool:=match P.funcs[k]? with
 |some fn=>Nat.beq fn.ntmps fi.ntmps && !(fn.name == "runtime.NumGoroutine")&&zeH P fn.results.toList fi.res&&(match fn.body with
  |some c=>znr P c fi
  |none=>false)
 |none=>false
end
end Go.Air
namespace Go.Air
theorem T.get_setF {α:Type} (v:Option α):∀(f:Nat) (t:T α) (k j:Nat),k<f→(T.setF f t k v).get j=if j=k then v else t.get j
 |0,_,_,_,h=>by omega
 |f+1,.e,0,j,_=>by cases j<;>simp[T.setF,T.get];split<;>rfl
 |f+1,.n l x r,0,j,_=>by cases j<;>simp[T.setF,T.get]
 |f+1,.e,k+1,0,h=>by
  simp only[T.setF]
  cases hk:k%2<;>simp[T.get]
 |f+1,.n l x r,k+1,0,h=>by
  simp only[T.setF]
  cases hk:k%2<;>simp[T.get]
 |f+1,.e,k+1,j+1,h=>by
  simp only[T.setF]
  cases hk:k%2 with
  |zero=>
   simp only[T.get]
   cases hj:j%2 with
   |zero=>simp only[T.get_setF v f .e (k/2) (j/2) (by omega),T.get];simp only[show (j/2=k/2)=(j+1=k+1) from propext ⟨fun _=>by omega,fun _=>by omega⟩]
   |succ n=>simp only[];rw[if_neg (by omega)]
  |succ m=>
   simp only[T.get]
   cases hj:j%2 with
   |zero=>simp only[];rw[if_neg (by omega)]
   |succ n=>simp only[T.get_setF v f .e (k/2) (j/2) (by omega),T.get];simp only[show (j/2=k/2)=(j+1=k+1) from propext ⟨fun _=>by omega,fun _=>by omega⟩]
 |f+1,.n l x r,k+1,j+1,h=>by
  simp only[T.setF]
  cases hk:k%2 with
  |zero=>
   simp only[T.get]
   cases hj:j%2 with
   |zero=>simp only[T.get_setF v f l (k/2) (j/2) (by omega)];simp only[show (j/2=k/2)=(j+1=k+1) from propext ⟨fun _=>by omega,fun _=>by omega⟩]
   |succ n=>simp only[];rw[if_neg (by omega)]
  |succ m=>
   simp only[T.get]
   cases hj:j%2 with
   |zero=>simp only[];rw[if_neg (by omega)]
   |succ n=>simp only[T.get_setF v f r (k/2) (j/2) (by omega)];simp only[show (j/2=k/2)=(j+1=k+1) from propext ⟨fun _=>by omega,fun _=>by omega⟩]
theorem T.get_set {α:Type} (t:T α) (k j:Nat) (v:Option α):(t.set k v).get j=if j=k then v else t.get j:=T.get_setF v (k+1) t k j (by omega)
theorem H.get_new (h:H) (x:Blk) (b:Nat):(h.new x).get b=if b=h.next then some x else h.get b:=T.get_set ..
theorem H.get_put (h:H) (c:Nat) (x:Blk) (b:Nat):(h.put c x).get b=if b=c then some x else h.get b:=T.get_set ..
theorem H.get_kill (h:H) (c:Nat) (b:Nat):(h.kill c).get b=if b=c then none else h.get b:=T.get_set ..
@[simp] theorem H.next_new (h:H) (x:Blk):(h.new x).next=h.next+1:=rfl
@[simp] theorem H.next_put (h:H) (c:Nat) (x:Blk):(h.put c x).next=h.next:=rfl
@[simp] theorem H.next_kill (h:H) (c:Nat):(h.kill c).next=h.next:=rfl
@[simp] theorem H.log_new (h:H) (x:Blk):(h.new x).log=h.log:=rfl
@[simp] theorem H.log_put (h:H) (c:Nat) (x:Blk):(h.put c x).log=c::h.log:=rfl
@[simp] theorem H.log_kill (h:H) (c:Nat):(h.kill c).log=c::h.log:=rfl
def zif:LState→LoopState
 |.ready=>.ready
 |.busy=>.busy
 |.done=>.done
 |.over=>.exhausted
def zkX:Option Out→Option Code
 |none=>none
 |some .norm=>none
 |some (.exit i)=>some (.exit i)
 |some .ret=>some .ret
 |some (.pan _)=>none
def zfq (R:Emb):List (V × V)→Option (List (Value × Value))
 |[]=>some []
 |(k,v)::l=>match conc R k,conc R v,zfq R l with
  |some k,some v,some l=>some ((k,v)::l)
  |_,_,_=>none
theorem zdP {R:Emb} {k v:V} {l:List (V × V)} {vs:List (Value × Value)} :
 zfq R ((k,v)::l)=some vs↔∃x y w,conc R k=some x∧conc R v=some y∧zfq R l=some w∧vs=(x,y)::w:=by
 simp only[zfq]
 cases conc R k<;>cases conc R v<;>cases zfq R l<;>simp[eq_comm]
theorem zjA {R R':Emb} (h:R.le R'):∀(l:List (V × V)) (vs:List (Value × Value)),zfq R l=some vs→zfq R' l=some vs
 |[],vs,hx=>by simpa [zfq] using hx
 |(k,v)::l,vs,hx=>by
  obtain⟨x,y,w,h1,h2,h3,rfl⟩:=zdP.1 hx
  exact zdP.2 ⟨x,y,w,zdh h _ _ h1,zdh h _ _ h2,zjA h l w h3,rfl⟩
section
variable (P:Program)
structure Fr (n:Nat) where
 ty:TypeId
 fz:Nat × Nat
 is:fz=(0,0)∨fz=(n,n+1)
def Fr.none (n:Nat) (t:TypeId):Fr n:=⟨t,(0,0),.inl rfl⟩
def Fr.mark (n:Nat) (t:TypeId):Fr n:=⟨t,(n,n+1),.inr rfl⟩
theorem Fr.ok {n:Nat} (e:Fr n):∀o,o<n→(decide (e.fz.1≤o)&&decide (o<e.fz.2))=false:=by
 intro o ho
 rcases e.is with h|h<;>rw[h]<;>simp
 omega
def BlkRel (R:Emb) (w:World) (c sz:Nat):Blk→Prop
 |.cells cs=>∃(arr:Array Value) (e:Fr sz) (vs rest:List Value),w.heap[c]? = some (.cells arr e.ty e.fz)∧zae R cs=some vs∧arr.toList=vs++rest∧arr.size=sz
 |.ro cs=>∃arr e f,w.heap[c]? = some (.cells arr e f)∧arr.size=cs.length∧∀(i:Nat) (v:V),cs[i]? = some (some v)→∃x,arr.toList[i]? = some x∧conc R v=some x
 |.map es=>∃arr ck,w.heap[c]? = some (.map arr ck)∧zfq R es=some (arr.toList.map fun e=>(e.key,e.val))
 |.loop lp=>∃L:Go.Loop,w.heap[c]? = some (.loop L)∧L.state=zif lp.state∧L.pending=zkX lp.pending∧zae R lp.tmps=some L.tmps.toList ∧
   L.params.toList=lp.params∧okC P L.assign lp.asg=true∧okC P L.body lp.body=true
theorem BlkRel.mono {R R':Emb} (hR:R.le R') {w w':World} {c sz:Nat} {x:Blk} (h:BlkRel P R w c sz x) (hw:w'.heap[c]? = w.heap[c]?):BlkRel P R' w' c sz x:=by
 cases x with
 |cells cs=>obtain⟨arr,e,vs,rest,h1,h2,h3,h4⟩:=h;exact⟨arr,e,vs,rest,hw.trans h1,zav hR _ _ h2,h3,h4⟩
 |ro cs=>
  obtain⟨arr,e,f,h1,h2,h3⟩:=h
  refine⟨arr,e,f,hw.trans h1,h2,fun i v hi => ?_⟩
  obtain⟨x,q1,q2⟩:=h3 i v hi
  exact⟨x,q1,zdh hR _ _ q2⟩
 |map es=>obtain⟨arr,ck,h1,h2⟩:=h;exact⟨arr,ck,hw.trans h1,zjA hR _ _ h2⟩
 |loop lp=>obtain⟨L,h1,h2,h3,h4,h5⟩:=h;exact⟨L,hw.trans h1,h2,h3,zav hR _ _ h4,h5⟩
def Fix (R:Emb):Prop:=∀b∈fixB,R b=some (b,0)
theorem Fix.le {R R':Emb} (h:Fix R) (hl:R.le R'):Fix R':=fun b hb=>hl _ _ (h b hb)
theorem zjQ:zbO∈fixB:=by simp[fixB]
theorem zmi:zgE∈fixB:=by simp[fixB]
theorem zmp:zgJ∈fixB:=by simp[fixB]
theorem zjt {b:Nat} (h:b∈fixB):b<zcV:=by
 simp only[fixB,List.mem_cons,List.not_mem_nil,or_false]at h
 unfold zcV
 rcases h with rfl|rfl|rfl<;>omega
structure Sim (F:Nat→Prop) (R:Emb) (mem:Nat→Option Blk) (w:World):Prop where
 blk:∀b c sz x,F b→R b=some (c,sz)→mem b=some x→BlkRel P R w c sz x
 inj:∀b b' c sz sz' x x',F b→F b'→R b=some (c,sz)→R b'=some (c,sz')→mem b=some x→mem b'=some x'→b=b'
 lt:∀b c sz,R b=some (c,sz)→c<w.heap.size
 fix:Fix R
def SameIO (w w':World):Prop:=w'.os=w.os∧w'.tape=w.tape∧w'.output=w.output
theorem SameIO.refl (w:World):SameIO w w:=⟨rfl,rfl,rfl⟩
theorem SameIO.trans {w w1 w2:World} (a:SameIO w w1) (b:SameIO w1 w2):SameIO w w2:=⟨b.1.trans a.1,b.2.1.trans a.2.1,b.2.2.trans a.2.2⟩
structure Fwd (R R':Emb) (h h':H) (w w':World) (l:List Nat):Prop where
 le:R.le R'
 log:h'.log=l++h.log
 nx:h.next≤h'.next
 size:w.heap.size≤w'.heap.size
 new:∀b c sz,R' b=some (c,sz)→R b=some (c,sz)∨(h.next≤b∧b<h'.next∧(w.heap.size≤c∨∃b0 sz0,R b0=some (c,sz0)∧b0∈l))
 same:∀b,b<h.next→b ∉ l→h'.get b=h.get b
 frame:∀c,c<w.heap.size→(∀b sz,R b=some (c,sz)→b ∉ l)→w'.heap[c]? = w.heap[c]?
 own:∀b∈l,(h.next≤b∧b<h'.next)∨((∃x,R b=some x)∧(b<h.next→∃y,h.get b=some y))
 io:SameIO w w'
theorem Fwd.refl (R:Emb) (h:H) (w:World):Fwd R R h h w w []:=
 ⟨R.le_refl,rfl,Nat.le_refl _,Nat.le_refl _,fun _ _ _ h=>.inl h,fun _ _ _=>rfl,fun _ _ _=>rfl,fun _ hb=>by simp at hb,.refl w⟩
theorem Fwd.trans {R R1 R2:Emb} {h h1 h2:H} {w w1 w2:World} {l1 l2:List Nat} (a:Fwd R R1 h h1 w w1 l1) (b:Fwd R1 R2 h1 h2 w1 w2 l2):Fwd R R2 h h2 w w2 (l2++l1) where
 io:=a.io.trans b.io
 le:=Emb.le_trans a.le b.le
 log:=by rw[b.log,a.log,List.append_assoc]
 nx:=Nat.le_trans a.nx b.nx
 size:=Nat.le_trans a.size b.size
 new:=by
  intro x c sz hx
  rcases b.new x c sz hx with h'|⟨h1',h2',h3'⟩
  ·rcases a.new x c sz h' with h'|⟨q1,q2,q3⟩
   ·exact .inl h'
   ·refine .inr ⟨q1,Nat.lt_of_lt_of_le q2 b.nx,?_⟩
    rcases q3 with q3|⟨b0,s0,q3,q4⟩
    ·exact .inl q3
    ·exact .inr ⟨b0,s0,q3,List.mem_append.2 (.inr q4)⟩
  ·refine .inr ⟨Nat.le_trans a.nx h1',h2',?_⟩
   rcases h3' with h3'|⟨b0,s0,h3',h4'⟩
   ·exact .inl (Nat.le_trans a.size h3')
   ·rcases a.new b0 c s0 h3' with h'|⟨q1,q2,q3⟩
    ·exact .inr ⟨b0,s0,h',List.mem_append.2 (.inl h4')⟩
    ·rcases q3 with q3|⟨b1,s1,q3,q4⟩
     ·exact .inl q3
     ·exact .inr ⟨b1,s1,q3,List.mem_append.2 (.inr q4)⟩
 same:=by
  intro x hx hl
  rw[List.mem_append,not_or]at hl
  rw[b.same x (Nat.lt_of_lt_of_le hx a.nx) hl.1,a.same x hx hl.2]
 frame:=by
  intro c hc hl
  rw[b.frame c (Nat.lt_of_lt_of_le hc a.size) ?_,a.frame c hc (fun x sz hx hm=>hl x sz hx (List.mem_append.2 (.inr hm)))]
  intro x sz hx hm
  rcases a.new x c sz hx with h'|⟨q1,q2,q3⟩
  ·exact hl x sz h' (List.mem_append.2 (.inl hm))
  ·rcases q3 with q3|⟨b0,s0,q3,q4⟩
   ·omega
   ·exact hl b0 s0 q3 (List.mem_append.2 (.inr q4))
 own:=by
  intro x hx
  have hn:=a.nx
  have hn':=b.nx
  have left:∀y∈l1,(h.next≤y∧y<h2.next)∨((∃z,R y=some z)∧(y<h.next→∃z,h.get y=some z)):=by
   intro y hy
   rcases a.own y hy with q|q
   ·exact .inl ⟨q.1,by omega⟩
   ·exact .inr q
  rcases List.mem_append.1 hx with hx|hx
  ·rcases b.own x hx with q|⟨⟨z,q1⟩,q2⟩
   ·exact .inl ⟨by omega,q.2⟩
   ·by_cases hl:x∈l1
    ·exact left x hl
    ·obtain⟨c,sz⟩:=z
     rcases a.new x c sz q1 with q|⟨q3,q4,_⟩
     ·refine .inr ⟨⟨_,q⟩,fun hlt => ?_⟩
      obtain⟨y,hy⟩:=q2 (by omega)
      exact⟨y,by rw[← a.same x hlt hl];exact hy⟩
     ·exact .inl ⟨q3,by omega⟩
  ·exact left x hx
def Fresh (R:Emb) (h h':H):Prop:=∀b,h.next≤b→b<h'.next→R b=none
theorem Fresh.left {R:Emb} {h h1 h2:H} (hf:Fresh R h h2) (hn:h1.next≤h2.next):Fresh R h h1:=fun b h1' h2'=>hf b h1' (by omega)
theorem Fresh.right {R R1:Emb} {h h1 h2:H} {w w1:World} {l:List Nat} (hf:Fresh R h h2) (a:Fwd R R1 h h1 w w1 l):Fresh R1 h1 h2:=by
 intro b hb1 hb2
 have hn:=a.nx
 cases hr:R1 b with
 |none=>rfl
 |some x=>
  obtain⟨c,sz⟩:=x
  rcases a.new b c sz hr with h'|⟨q1,q2,_⟩
  ·rw[hf b (by omega) hb2]at h';cases h'
  ·omega
def PostV (F:Nat→Prop) (R:Emb) (h:H) (w:World) (v:V) (h':H) (x:Value) (w':World):Prop:=
 ∃R' l,Fwd R R' h h' w w' l∧Sim P F R' h'.get w'∧conc R' v=some x
variable {P}
theorem PostV.same {F:Nat→Prop} {R:Emb} {h:H} {w:World} {v:V} {x:Value} (hs:Sim P F R h.get w) (hv:conc R v=some x):PostV P F R h w v h x w:=
 ⟨R,[],.refl R h w,hs,hv⟩
def Emb.add (R:Emb) (b:Nat) (x:Nat × Nat):Emb:=fun c=>if c=b then some x else R c
theorem Emb.le_add {R:Emb} {b:Nat} {x:Nat × Nat} (h:R b=none):R.le (R.add b x):=by
 intro c y hc
 simp only[Emb.add]
 split
 ·rename_i e;subst e;rw[h]at hc;cases hc
 ·exact hc
theorem Emb.add_self {R:Emb} {b:Nat} {x:Nat × Nat}:R.add b x b=some x:=by simp[Emb.add]
theorem zcJ {w:World} {o:Obj} {c:Nat} (h:c<w.heap.size):(w.alloc o).heap[c]? = w.heap[c]? := by
 simp only[World.alloc,Array.getElem?_push]
 rw[if_neg (by omega)]
theorem zeP {w:World} {o:Obj}:(w.alloc o).heap[w.heap.size]? = some o:=by
 show (w.heap.push o)[w.heap.size]? = some o
 simp
theorem zds {F:Nat→Prop} {R:Emb} {h:H} {w:World} {o:Obj} {x:Blk} {sz:Nat} (hs:Sim P F R h.get w) (hf:R h.next=none)
 (hx:∀w':World,w'.heap[w.heap.size]? = some o→BlkRel P (R.add h.next (w.heap.size,sz)) w' w.heap.size sz x) :
 Fwd R (R.add h.next (w.heap.size,sz)) h (h.new x) w (w.alloc o) []∧Sim P F (R.add h.next (w.heap.size,sz)) (h.new x).get (w.alloc o):=by
 have hle:R.le (R.add h.next (w.heap.size,sz)):=Emb.le_add hf
 refine⟨⟨hle,rfl,by simp,by simp,?_,?_,?_,fun _ hb=>by simp at hb,⟨rfl,rfl,rfl⟩⟩,⟨?_,?_,?_,hs.fix.le hle⟩⟩
 ·intro b c s hb
  simp only[Emb.add]at hb
  split at hb
  ·rename_i e;subst e
   simp only[Option.some.injEq,Prod.mk.injEq]at hb
   exact .inr ⟨Nat.le_refl _,by simp,.inl (by omega)⟩
  ·exact .inl hb
 ·intro b hb _
  rw[H.get_new,if_neg (by omega)]
 ·intro c hc _
  exact zcJ hc
 ·intro b c s y hFb hb hy
  simp only[Emb.add]at hb
  rw[H.get_new]at hy
  split at hb
  ·rename_i e;subst e
   rw[if_pos rfl]at hy
   simp only[Option.some.injEq,Prod.mk.injEq]at hb hy
   obtain⟨rfl,rfl⟩:=hb
   subst hy
   exact hx _ zeP
  ·rename_i e
   rw[if_neg e]at hy
   exact (hs.blk b c s y hFb hb hy).mono P hle (zcJ (hs.lt b c s hb))
 ·intro b b' c s s' y y' hF hF' hb hb' hy hy'
  simp only[Emb.add]at hb hb'
  rw[H.get_new]at hy hy'
  split at hb<;>split at hb'
  ·rename_i e e';rw[e,e']
  ·simp only[Option.some.injEq,Prod.mk.injEq]at hb
   have:=hs.lt b' c s' hb'
   omega
  ·simp only[Option.some.injEq,Prod.mk.injEq]at hb'
   have:=hs.lt b c s hb
   omega
  ·rename_i e e'
   rw[if_neg e]at hy;rw[if_neg e']at hy'
   exact hs.inj b b' c s s' y y' hF hF' hb hb' hy hy'
 ·intro b c s hb
  simp only[Emb.add]at hb
  split at hb
  ·simp only[Option.some.injEq,Prod.mk.injEq]at hb
   simp;omega
  ·have:=hs.lt b c s hb
   simp;omega
theorem zhT {F:Nat→Prop} {R:Emb} {h:H} {w w':World} {x y:Blk} {b c sz:Nat} (hs:Sim P F R h.get w) (hF:F b) (hb:R b=some (c,sz)) (hy:h.get b=some y)
 (hio:SameIO w w') (hsize:w'.heap.size=w.heap.size) (hother:∀d,d≠c→w'.heap[d]? = w.heap[d]?) (hx:BlkRel P R w' c sz x) :
 Fwd R R h (h.put b x) w w' [b]∧Sim P F R (h.put b x).get w':=by
 refine⟨⟨R.le_refl,rfl,by simp,by omega,fun _ _ _ h=>.inl h,?_,?_,fun d hd=>.inr (by simp at hd;subst hd;exact⟨⟨_,hb⟩,fun _=>⟨_,hy⟩⟩),hio⟩,⟨?_,?_,?_,hs.fix⟩⟩
 ·intro d _ hd
  rw[H.get_put,if_neg (by simpa using hd)]
 ·intro d _ hl
  exact hother d (fun e=>hl b sz (e▸hb) (by simp))
 ·intro d e s z hFd hd hz
  rw[H.get_put]at hz
  split at hz
  ·rename_i e';subst e'
   rw[hb]at hd
   simp only[Option.some.injEq,Prod.mk.injEq]at hd hz
   obtain⟨rfl,rfl⟩:=hd
   subst hz
   exact hx
  ·rename_i ne
   refine (hs.blk d e s z hFd hd hz).mono P R.le_refl (hother e ?_)
   intro ee;subst ee
   exact ne (hs.inj d b e s sz z y hFd hF hd hb hz hy)
 ·intro d d' e s s' z z' hF1 hF2 hd hd' hz hz'
  rw[H.get_put]at hz hz'
  split at hz<;>split at hz'
  ·rename_i e1 e2;rw[e1,e2]
  ·rename_i e1 e2;subst e1;exact hs.inj d d' e s s' y z' hF1 hF2 hd hd' hy hz'
  ·rename_i e1 e2;subst e2;exact hs.inj d d' e s s' z y hF1 hF2 hd hd' hz hy
  ·exact hs.inj d d' e s s' z z' hF1 hF2 hd hd' hz hz'
 ·intro d e s hd
  rw[hsize];exact hs.lt d e s hd
theorem zgm {w:World} {c o:Nat} {arr:Array Value} {e:TypeId} {f:Nat × Nat} {v:Value} (h:w.heap[c]? = some (.cells arr e f)) (hv:arr.toList[o]? = some v):w.cell? ⟨c,o,none⟩=some v:=by
 simp only[World.cell?,h]
 simpa using hv
theorem zbW (c o i:Nat):(⟨c,o,none⟩:Addr).add i=⟨c,o+i,none⟩:=by
 unfold Addr.add
 split
 ·rename_i h;subst h;rfl
 ·rfl
theorem zet {w:World} {c o n:Nat} {arr:Array Value} {e:TypeId} {f:Nat × Nat} {vs rest:List Value} (h:w.heap[c]? = some (.cells arr e f)) (harr:arr.toList=vs++rest)
 (hn:o+n≤vs.length):(loadCells ⟨c,o,none⟩ n).run P w=.ok ((vs.drop o).take n).toArray w:=by
 have hl:((vs.drop o).take n).length=n:=by simp;omega
 have:=run_loadCells_list (P:=P) w ⟨c,o,none⟩ ((vs.drop o).take n) (fun j v hj=>by
  rw[zbW]
  refine zgm h ?_
  have hj':j<n:=by
   have:=(List.getElem?_eq_some_iff.1 hj).1
   omega
  rw[harr,List.getElem?_append_left (by omega)]
  rw[List.getElem?_take_of_lt hj',List.getElem?_drop]at hj
  exact hj)
 rw[hl]at this
 exact this
theorem zpM:∀{cs:List (Option V)} {o:Nat} {v:V},nthO cs o=some v→cs[o]? = some (some v)
 |[],_,_,h=>by simp[nthO]at h
 |x::_,0,_,h=>by simp only[nthO]at h;simp[h]
 |_::l,o+1,v,h=>by simpa using zpM (cs:=l) (o:=o) h
theorem ziJ:∀{cs:List (Option V)} {o n:Nat} {l:List V},cutO cs o n=some l→l.length=n∧∀(i:Nat) (v:V),l[i]? = some v→cs[o+i]? = some (some v)
 |[],0,0,_,h=>by simp[cutO]at h;subst h;simp
 |_::_,0,0,_,h=>by simp[cutO]at h;subst h;simp
 |[],0,_+1,_,h=>by simp[cutO]at h
 |[],_+1,_,_,h=>by simp[cutO]at h
 |x::cs,0,n+1,l,h=>by
  simp only[cutO]at h
  split at h<;>try simp at h
  rename_i v
  obtain⟨l',h1,rfl⟩:=h
  obtain⟨q1,q2⟩:=ziJ h1
  refine⟨by simp[q1],fun i u hu => ?_⟩
  cases i with
  |zero=>simpa using hu
  |succ i=>
   have:=q2 i u (by simpa using hu)
   simpa using this
 |_::cs,o+1,n,l,h=>by
  simp only[cutO]at h
  obtain⟨q1,q2⟩:=ziJ h
  refine⟨q1,fun i u hu => ?_⟩
  have:=q2 i u hu
  rw[show o+1+i=(o+i)+1 by omega]
  simpa using this
theorem rd1_at {F:Nat→Prop} {R:Emb} {h:H} {w:World} {b c sz o:Nat} {bl:Blk} {v:V} (hs:Sim P F R h.get w) (hF:F b) (hb:R b=some (c,sz)) (hg:h.get b=some bl) (hv:bl.rd1 o=some v) :
 ∃u,w.cell? ⟨c,o,none⟩=some u∧conc R v=some u:=by
 have hB:=hs.blk b c sz bl hF hb hg
 cases bl with
 |cells cs=>
  obtain⟨arr,e,vs,rest,h1,h2,h3,_⟩:=hB
  simp only[Blk.rd1]at hv
  rw[zdB]at hv
  obtain⟨u,hu,hc⟩:=zcb h2 hv
  exact⟨u,zgm h1 (by rw[h3,List.getElem?_append_left (List.getElem?_eq_some_iff.1 hu).1];exact hu),hc⟩
 |ro cs=>
  obtain⟨arr,e,f,h1,_,h3⟩:=hB
  obtain⟨x,q1,q2⟩:=h3 o v (zpM hv)
  exact⟨x,zgm h1 q1,q2⟩
 |map _=>simp[Blk.rd1]at hv
 |loop _=>simp[Blk.rd1]at hv
theorem znR:∀{R:Emb} {l:List V},(∀(i:Nat) (v:V),l[i]? = some v→∃x,conc R v=some x)→∃us,zae R l=some us
 |_,[],_=>⟨[],by simp[zae]⟩
 |R,v::l,h=>by
  obtain⟨x,hx⟩:=h 0 v (by simp)
  obtain⟨us,hu⟩:=znR (R:=R) (l:=l) fun i v hi=>h (i+1) v (by simpa using hi)
  exact⟨x::us,zah.2 ⟨x,us,hx,hu,rfl⟩⟩
theorem rd_at {F:Nat→Prop} {R:Emb} {h:H} {w:World} {b c sz o n:Nat} {bl:Blk} {l:List V} (hs:Sim P F R h.get w) (hF:F b) (hb:R b=some (c,sz)) (hg:h.get b=some bl) (hv:bl.rd o n=some l) :
 ∃us,zae R l=some us∧us.length=n∧(∀j v,us[j]? = some v→w.cell? ⟨c,o+j,none⟩=some v)∧(loadCells ⟨c,o,none⟩ n).run P w=.ok us.toArray w:=by
 have key:∃us,zae R l=some us∧us.length=n∧∀j v,us[j]? = some v→w.cell? ⟨c,o+j,none⟩=some v:=by
  have hB:=hs.blk b c sz bl hF hb hg
  cases bl with
  |cells cs=>
   obtain⟨arr,e,vs,rest,h1,h2,h3,_⟩:=hB
   simp only[Blk.rd]at hv
   obtain⟨hle,rfl⟩:=zbh.1 hv
   have hlen:=zan h2
   refine⟨_,zbd n (zbl o h2),by simp;omega,fun j v hj=>zgm h1 ?_⟩
   have hj':j<n:=by
    have:=(List.getElem?_eq_some_iff.1 hj).1
    simp at this;omega
   rw[h3,List.getElem?_append_left (by omega)]
   rw[List.getElem?_take_of_lt hj',List.getElem?_drop]at hj
   exact hj
  |ro cs=>
   obtain⟨arr,e,f,h1,_,h3⟩:=hB
   obtain⟨q1,q2⟩:=ziJ hv
   obtain⟨us,hus⟩:=znR (R:=R) (l:=l) fun i v hi=>let ⟨x,_,hx⟩:=h3 (o+i) v (q2 i v hi);⟨x,hx⟩
   refine⟨us,hus,by rw[zan hus,q1],fun j v hj => ?_⟩
   have hlt:j<l.length:=by
    have:=(List.getElem?_eq_some_iff.1 hj).1
    rw[zan hus]at this;exact this
   obtain⟨u,hu,hc⟩:=zcb hus (List.getElem?_eq_getElem hlt)
   obtain⟨x,x1,x2⟩:=h3 (o+j) _ (q2 j _ (List.getElem?_eq_getElem hlt))
   rw[hc]at x2
   rw[hj]at hu
   cases x2;cases hu
   exact zgm h1 x1
  |map _=>simp[Blk.rd]at hv
  |loop _=>simp[Blk.rd]at hv
 obtain⟨us,h1,h2,h3⟩:=key
 refine⟨us,h1,h2,h3,?_⟩
 have:=run_loadCells_list (P:=P) w ⟨c,o,none⟩ us (fun j v hj=>by rw[zbW];exact h3 j v hj)
 rw[h2]at this
 exact this
theorem zkN {w:World} {c o:Nat} {arr:Array Value} {e:TypeId} {f:Nat × Nat} (v:Value) (h:w.heap[c]? = some (.cells arr e f)) :
 (w.setCell ⟨c,o,none⟩ v).heap[c]? = some (.cells (arr.setIfInBounds o v) e f)∧(∀d,d≠c→(w.setCell ⟨c,o,none⟩ v).heap[d]? = w.heap[d]?):=by
 constructor
 ·simp[World.setCell,Array.getElem?_modify,h]
 ·intro d hd
  simp[World.setCell,Array.getElem?_modify,Ne.symm hd]
theorem zjk {α:Type} (L:List α) (k:Nat) (v:α) (vs:List α) (h:k+1+vs.length≤L.length) :
 (L.set k v).take (k+1)++vs++(L.set k v).drop (k+1+vs.length)=L.take k++(v::vs)++L.drop (k+(v::vs).length):=by
 have e:L.set k v=L.take k++v::L.drop (k+1):=by rw[List.set_eq_take_append_cons_drop,if_pos (by omega)]
 have l1:(L.take k).length=k:=by simp;omega
 rw[e,List.take_append,List.drop_append,l1]
 rw[show k+1-k=1 by omega,show k+1+vs.length-k=vs.length+1 by omega]
 simp only[List.take_take,List.take_succ_cons,List.take_zero,List.drop_succ_cons,List.drop_drop,List.length_cons]
 rw[show min (k+1) k=k by omega,List.drop_eq_nil_of_le (by omega),List.nil_append,show k+1+vs.length=k+(vs.length+1) by omega]
 simp
theorem zcd {c o sz:Nat} {e:Fr sz}:∀(vs:List Value) (i:Nat) (w:World) (arr:Array Value),arr.size=sz→w.heap[c]? = some (.cells arr e.ty e.fz)→o+i+vs.length≤arr.size →
 (∀v∈vs,v.oneCell'=true)→∃w' arr',(storeCells ⟨c,o,none⟩ vs i).run P w=.ok () w'∧w'.heap.size=w.heap.size∧(∀d,d≠c→w'.heap[d]? = w.heap[d]?) ∧
   w'.heap[c]? = some (.cells arr' e.ty e.fz)∧arr'.toList=arr.toList.take (o+i)++vs++arr.toList.drop (o+i+vs.length)∧SameIO w w'
 |[],i,w,arr,_,h,_,_=>⟨w,arr,by simp[storeCells],rfl,fun _ _=>rfl,h,by simp,.refl w⟩
 |v::vs,i,w,arr,ha,h,hn,hone=>by
  simp only[List.length_cons]at hn
  obtain⟨h1,h2⟩:=zkN (o:=o+i) v h
  obtain⟨w',arr',r1,r2,r3,r4,r5,r6⟩:=zcd (o:=o) vs (i+1) (w.setCell ⟨c,o+i,none⟩ v) (arr.setIfInBounds (o+i) v) (by simpa using ha) h1 (by simp;omega) (fun x hx=>hone x (by simp[hx]))
  have hlt:o+i<arr.toList.length:=by simp;omega
  have hcell:w.cell? ⟨c,o+i,none⟩=some arr.toList[o+i]:=zgm h (List.getElem?_eq_getElem hlt)
  have hfz:w.frozen? ⟨c,o+i,none⟩=false:=by
   have:=e.ok (o+i) (by omega)
   simpa [World.frozen?,h] using this
  refine⟨w',arr',?_,by simpa using r2,fun d hd=>(r3 d hd).trans (h2 d hd),r4,?_,SameIO.trans ⟨rfl,rfl,rfl⟩ r6⟩
  ·simp only[storeCells,Sem.run_bind,zbW,run_store P w _ v .plain (hone v (by simp)),hcell,hfz,Bool.false_eq_true,if_false,Result.andThen_ok]
   exact r1
  ·rw[r5]
   have hlen:o+i+1+vs.length≤arr.toList.length:=by have e1:arr.toList.length=arr.size:=Array.length_toList;omega
   simp only[Array.toList_setIfInBounds]
   rw[show o+(i+1)=(o+i)+1 by omega]
   exact zjk arr.toList (o+i) v vs hlen
end
end Go.Air
namespace Go.Air
section runs
variable {P:Program} (w:World)
theorem zdJ {t:TypeId} {i:TypeInfo} (h:P.info? t=some i):(typeInfo t).run P w=.ok i w:=by simp[typeInfo,h]
theorem zng {t:TypeId} {n:Nat} (h:isSz P t n=true):∃i,P.info? t=some i∧i.size=n:=by
 unfold isSz szT at h
 cases hi:P.info? t with
 |none=>simp[hi]at h
 |some i=>simp[hi]at h;exact⟨i,rfl,h⟩
theorem zaW {t:TypeId} {n:Nat} (h:isSz P t n=true):(sizeOf t).run P w=.ok n w:=by
 obtain⟨i,hi,hn⟩:=zng h
 simp[sizeOf,zdJ w hi,hn]
theorem znZ {t:TypeId} {v:Value} (h:zey P t=some v):∃i,P.info? t=some i∧i.zero=some v:=by
 unfold zey at h
 cases hi:P.info? t with
 |none=>simp[hi]at h
 |some i=>simp[hi]at h;exact⟨i,rfl,h⟩
theorem zcr {t:TypeId} {v:Value} (h:zey P t=some v):(zeroValue t).run P w=.ok v w:=by
 obtain⟨i,hi,hz⟩:=znZ h
 simp[zeroValue,zdJ w hi,hz]
theorem znn {t:TypeId} (h:zcl P t=true):∃d,P.underlying t=some d∧zdt d=false:=by
 unfold zcl at h
 cases hd:P.underlying t with
 |none=>simp[hd]at h
 |some d=>simp[hd]at h;exact⟨d,rfl,h⟩
theorem aggT_d {t:TypeId} (h:aggT P t=true):∃d,P.underlying t=some d∧zdt d=true:=by
 unfold aggT at h
 cases hd:P.underlying t with
 |none=>simp[hd]at h
 |some d=>simp[hd]at h;exact⟨d,rfl,h⟩
theorem zcX {t:TypeId} (h:zcl P t=true):(isAgg t).run P w=.ok false w:=by
 obtain⟨d,hd,ha⟩:=znn h
 cases d<;>simp[zdt]at ha<;>simp[isAgg,run_underlying hd]
theorem zdV {t:TypeId} (h:aggT P t=true):(isAgg t).run P w=.ok true w:=by
 obtain⟨d,hd,ha⟩:=aggT_d h
 cases d<;>simp[zdt]at ha<;>simp[isAgg,run_underlying hd]
end runs
def OpRun (P:Program) (F:Nat→Prop) (R:Emb) (h:H) (w:World) (s:Sem Next) (v:V) (h':H):Prop:=
 ∃nx x w',s.run P w=.ok nx w'∧(nx=.value x∨(nx=.skip∧x=undef))∧PostV P F R h w v h' x w'
section
variable {P:Program} {F:Nat→Prop} {R:Emb} {h h':H} {w:World} {t:List V} {ρ:Operand→Value} {v:V}
 {dst:Option Tmp} {op:Op} {ty:TypeId} {pos:String} {af:Array Edge} {gd:Option (Nat × Bool)} {call:V→List V→H→RO}
def zba (R:Emb) (t:List V) (ρ:Operand→Value):Prop:=∀x y,okX x y=true→conc R (y.ev t)=some (ρ x)
theorem OpRun.plain {s:Sem Next} {x:Value} (hs:Sim P F R h.get w) (hr:s.run P w=.ok (.value x) w) (hv:conc R v=some x):OpRun P F R h w s v h:=
 ⟨_,x,w,hr,.inl rfl,.same hs hv⟩
theorem zdL {o:Option V} (he:RO.ofV h o=.ok v h'):o=some v∧h'=h:=by
 cases o with
 |none=>simp[RO.ofV]at he
 |some u=>simp[RO.ofV]at he;exact⟨by rw[he.1],he.2.symm⟩
theorem run_mov {y:X} (hok:okA P op (.mov y)=true) (hρ:zba R t ρ) (hs:Sim P F R h.get w) (he:evA call (.mov y) t h=.ok v h') :
 OpRun P F R h w (execOp ρ ⟨dst,op,ty,pos,af,gd⟩) v h':=by
 simp only[evA,RO.ok.injEq]at he
 obtain⟨rfl,rfl⟩:=he
 cases op<;>first
  |exact (Bool.false_ne_true hok).elim
  |exact .plain hs rfl (hρ _ y hok)
theorem run_pick {a b c:X} (hok:okA P op (.pick a b c)=true) (hρ:zba R t ρ) (hs:Sim P F R h.get w) (he:evA call (.pick a b c) t h=.ok v h') :
 OpRun P F R h w (execOp ρ ⟨dst,op,ty,pos,af,gd⟩) v h':=by
 cases op<;>try exact (Bool.false_ne_true hok).elim
 rename_i a' b' c'
 have hok:(okX a' a&&okX b' b&&okX c' c)=true:=hok
 simp only[Bool.and_eq_true]at hok
 obtain⟨⟨ha,hb⟩,hc⟩:=hok
 have ha:=hρ _ _ ha
 simp only[evA]at he
 split at he<;>simp only[RO.ok.injEq,reduceCtorEq]at he
 ·rename_i e
  obtain⟨rfl,rfl⟩:=he
  rw[e]at ha;simp only[conc,Option.some.injEq]at ha
  exact .plain hs (by simp[execOp,← ha,asBool]) (hρ _ _ hb)
 ·rename_i e
  obtain⟨rfl,rfl⟩:=he
  rw[e]at ha;simp only[conc,Option.some.injEq]at ha
  exact .plain hs (by simp[execOp,← ha,asBool]) (hρ _ _ hc)
theorem zgO {cs:List V} {arr:Array Value} {e:TypeId} (hs:Sim P F R h.get w) (hf:R h.next=none) (hc:zae R cs=some arr.toList) :
 Fwd R (R.add h.next (w.heap.size,arr.size)) h (h.new (.cells cs)) w (w.alloc (.cells arr e)) []∧Sim P F (R.add h.next (w.heap.size,arr.size)) (h.new (.cells cs)).get (w.alloc (.cells arr e)):=
 zds hs hf fun w' hw'=>⟨arr,Fr.none _ e,arr.toList,[],hw',zav (Emb.le_add hf) _ _ hc,by simp,rfl⟩
theorem zbH {x:Blk} (hfr:Fresh R h (h.new x)):R h.next=none:=hfr h.next (Nat.le_refl _) (by simp)
theorem zpq {z:List V} (hok:okA P op (.alloc z)=true) (hs:Sim P F R h.get w) (hfr:Fresh R h h') (he:evA call (.alloc z) t h=.ok v h') :
 OpRun P F R h w (execOp ρ ⟨dst,op,ty,pos,af,gd⟩) v h':=by
 simp only[evA,RO.ok.injEq]at he
 obtain⟨rfl,rfl⟩:=he
 cases op<;>try exact (Bool.false_ne_true hok).elim
 rename_i e
 have hok:okZ P e z=true:=hok
 unfold okZ at hok
 cases hz:zey P e with
 |none=>simp[hz]at hok
 |some u=>
  rw[hz]at hok
  have hc:=zbq R z _ hok
  obtain⟨hf,hs'⟩:=zgO (e:=e) hs (zbH hfr) hc
  refine⟨.value (.pointer (some ⟨w.heap.size,0,none⟩)),_,_,?_,.inl rfl,_,_,hf,hs',?_⟩
  ·simp[execOp,Instr.alloc,zcr w hz,newVar,newRow]
  ·simp[conc,Emb.add_self]
theorem run_box {y:X} (hok:okA P op (.box y)=true) (hρ:zba R t ρ) (hs:Sim P F R h.get w) (hfr:Fresh R h h') (he:evA call (.box y) t h=.ok v h') :
 OpRun P F R h w (execOp ρ ⟨dst,op,ty,pos,af,gd⟩) v h':=by
 simp only[evA,RO.ok.injEq]at he
 obtain⟨rfl,rfl⟩:=he
 cases op<;>try exact (Bool.false_ne_true hok).elim
 rename_i e x
 have hx:=hρ x y hok
 obtain⟨l,hl,hc⟩:=zfl hx
 obtain⟨hf,hs'⟩:=zgO (e:=e) hs (zbH hfr) (arr:=l.toArray) (by simpa using hl)
 refine⟨.value (.pointer (some ⟨w.heap.size,0,none⟩)),_,_,?_,.inl rfl,_,_,hf,hs',?_⟩
 ·simp[execOp,Instr.box,newVar,newRow,hc]
 ·simp[conc,Emb.add_self]
theorem zoW:∀(vs:List Value) (k off:Nat) (arr:Array Value),off+k+vs.length≤arr.size →
 ((vs.zipIdx k).foldl (fun cs (x:Value × Nat)=>cs.setIfInBounds (off+x.2) x.1) arr).toList=arr.toList.take (off+k)++vs++arr.toList.drop (off+k+vs.length)
 |[],k,off,arr,_=>by simp
 |v::vs,k,off,arr,hn=>by
  simp only[List.zipIdx_cons,List.foldl_cons]
  simp only[List.length_cons]at hn
  rw[zoW vs (k+1) off _ (by simp;omega)]
  have hlen:off+k+1+vs.length≤arr.toList.length:=by have e1:arr.toList.length=arr.size:=Array.length_toList;omega
  simp only[Array.toList_setIfInBounds]
  rw[show off+(k+1)=(off+k)+1 by omega]
  exact zjk arr.toList (off+k) v vs hlen
theorem zlI {z z' cs:List V} {off:Nat} {arr:Array Value} {x:Value} {l:List Value} (hz:zae R z=some arr.toList) (hcs:zae R cs=some l) (hx:x.cells=l.toArray)
 (hl:lay z off cs=some z'):¬ (off+x.cells.size>arr.size)∧zae R z'=some (x.cells.zipIdx.foldl (fun cs (y:Value × Nat)=>cs.setIfInBounds (off+y.2) y.1) arr).toList:=by
 obtain⟨hle,rfl⟩:=zeu.1 hl
 have h1:=zan hz
 have h2:=zan hcs
 have h3:x.cells.size=cs.length:=by rw[hx];simpa using h2
 have h4:arr.toList.length=arr.size:=Array.length_toList
 refine⟨by omega,?_⟩
 rw[hx,← Array.foldl_toList]
 simp only[Array.toList_zipIdx]
 rw[zoW l 0 off arr (by omega)]
 simp only[Nat.add_zero]
 rw[h2]
 exact zaw (zaw (zbd off hz) hcs) (zbl _ hz)
theorem fill_S {fs:Array Field} {places:Array (Nat × Nat)} (hp:∀(i:Nat) (f:Field) (n:Nat),fs[i]? = some f→isSz P f.type n=true→places[i]? = some (f.offset,n)) (hρ:zba R t ρ) :
 ∀(parts:List (Nat × Operand)) (ps:List (Nat × Nat × X)) (z z':List V) (arr:Array Value),zeb P fs parts ps=true→zae R z=some arr.toList→fill t z ps=some z' →
  ∃arr',Instr.fill (places[·]?) arr (parts.map fun p=>(p.1,ρ p.2))=some arr'∧zae R z'=some arr'.toList
 |[],[],z,z',arr,_,hz,hf=>by
  simp only[fill,Option.some.injEq]at hf
  subst hf
  exact⟨arr,by simp[Instr.fill],hz⟩
 |[],_::_,_,_,_,hok,_,_=>by simp[zeb]at hok
 |(i,x)::l,[],_,_,_,hok,_,_=>by simp[zeb]at hok
 |(i,x)::l,(off,sz,y)::m,z,z',arr,hok,hz,hf=>by
  simp only[zeb,Bool.and_eq_true]at hok
  obtain⟨⟨hfld,hx⟩,hrest⟩:=hok
  cases hfi:fs[i]? with
  |none=>simp[hfi]at hfld
  |some f=>
   simp only[hfi,Bool.and_eq_true,Nat.beq_eq]at hfld
   obtain⟨ho,hsz⟩:=hfld
   have hpl:=hp i f sz hfi hsz
   obtain⟨lv,hl,hc⟩:=zfl (hρ x y hx)
   simp only[fill]at hf
   split at hf
   ·rename_i hlen
    rw[Nat.beq_eq]at hlen
    split at hf
    ·rename_i z1 hlay
     obtain⟨hb,hz1⟩:=zlI hz hl hc hlay
     obtain⟨arr',h1,h2⟩:=fill_S hp hρ l m z1 z' _ hrest hz1 hf
     refine⟨arr',?_,h2⟩
     have hsize:(ρ x).cells.size=sz:=by rw[hc];simp[zan hl,hlen]
     simp only[List.map_cons,Instr.fill,hpl,ho]
     rw[if_neg (by simp[hsize];omega)]
     exact h1
    ·simp at hf
   ·simp at hf
theorem zqF {size:Nat} (hρ:zba R t ρ) :
 ∀(parts:List (Nat × Operand)) (ps:List (Nat × Nat × X)) (z z':List V) (arr:Array Value),zcM size parts ps=true→zae R z=some arr.toList→fill t z ps=some z' →
  ∃arr',Instr.fill (fun i=>some (i*size,size)) arr (parts.map fun p=>(p.1,ρ p.2))=some arr'∧zae R z'=some arr'.toList
 |[],[],z,z',arr,_,hz,hf=>by
  simp only[fill,Option.some.injEq]at hf
  subst hf
  exact⟨arr,by simp[Instr.fill],hz⟩
 |[],_::_,_,_,_,hok,_,_=>by simp[zcM]at hok
 |(i,x)::l,[],_,_,_,hok,_,_=>by simp[zcM]at hok
 |(i,x)::l,(off,sz,y)::m,z,z',arr,hok,hz,hf=>by
  simp only[zcM,Bool.and_eq_true,Nat.beq_eq]at hok
  obtain⟨⟨⟨ho,hsz⟩,hx⟩,hrest⟩:=hok
  subst hsz
  obtain⟨lv,hl,hc⟩:=zfl (hρ x y hx)
  simp only[fill]at hf
  split at hf
  ·rename_i hlen
   rw[Nat.beq_eq]at hlen
   split at hf
   ·rename_i z1 hlay
    obtain⟨hb,hz1⟩:=zlI hz hl hc hlay
    obtain⟨arr',h1,h2⟩:=zqF hρ l m z1 z' _ hrest hz1 hf
    refine⟨arr',?_,h2⟩
    have hsize:(ρ x).cells.size=size:=by rw[hc];simp[zan hl,hlen]
    simp only[List.map_cons,Instr.fill,ho]
    rw[if_neg (by simp[hsize];omega)]
    exact h1
   ·simp at hf
  ·simp at hf
theorem zir:∀(fs:List Field),fs.all (fun f=>(szT P f.type).isSome)=true →
 (fs.mapM (m:=Sem) fun f=>Prod.mk f.offset <$> sizeOf f.type).run P w=.ok (fs.map fun f=>(f.offset,(szT P f.type).getD 0)) w
 |[],_=>by simp
 |f::fs,hall=>by
  simp only[List.all_cons,Bool.and_eq_true]at hall
  obtain⟨h1,h2⟩:=hall
  cases hs:szT P f.type with
  |none=>simp[hs]at h1
  |some n=>
   have hr:(sizeOf f.type).run P w=.ok n w:=zaW w (by simp[isSz,hs])
   simp[List.mapM_cons,hr,zir fs h2,hs]
theorem zpo {z:List V} {ps:List (Nat × Nat × X)} (hok:okA P op (.build z ps)=true) (hρ:zba R t ρ) (hs:Sim P F R h.get w) (he:evA call (.build z ps) t h=.ok v h') :
 OpRun P F R h w (execOp ρ ⟨dst,op,ty,pos,af,gd⟩) v h':=by
 cases op<;>try exact (Bool.false_ne_true hok).elim
 rename_i ty' parts
 have hok:(okZ P ty' z&&(match P.underlying ty' with
  |some (.struct fs)=>fs.toList.all (fun f=>(szT P f.type).isSome)&&zeb P fs parts.toList ps
  |some (.array _ e)=>(match szT P e with
   |some n=>zcM n parts.toList ps
   |none=>false)
  |_=>false))=true:=hok
 rw[Bool.and_eq_true]at hok
 obtain⟨hz,hp⟩:=hok
 unfold okZ at hz
 cases hzv:zey P ty' with
 |none=>simp[hzv]at hz
 |some u=>
  rw[hzv]at hz
  have hcz:=zbq R z _ hz
  simp only[evA]at he
  split at he<;>simp only[RO.ok.injEq,reduceCtorEq]at he
  rename_i c hfill
  obtain⟨rfl,rfl⟩:=he
  have hmap:(parts.map fun x=>(x.1,ρ x.2)).toList=parts.toList.map fun p=>(p.1,ρ p.2):=by simp
  split at hp<;>try simp at hp
  ·rename_i fs hu
   obtain⟨hall,hparts⟩:=hp
   obtain⟨arr',h1,h2⟩:=fill_S (P:=P) (fs:=fs) (places:=(fs.toList.map fun f=>(f.offset,(szT P f.type).getD 0)).toArray)
    (fun i f n hi hn=>by
      have:szT P f.type=some n:=by
       unfold isSz at hn
       cases hs:szT P f.type with
       |none=>simp[hs]at hn
       |some m=>simp[hs]at hn;rw[hn]
      simp[hi,this]) hρ parts.toList ps z c u.cells hparts hcz hfill
   refine OpRun.plain (x:=.agg arr') hs ?_ (by simp[conc,h2])
   have hmp:=zir (P:=P) (w:=w) fs.toList (by simpa using hall)
   simp only[execOp,Instr.build,Sem.run_bind,zcr w hzv,Result.andThen_ok,run_underlying hu,Array.mapM_eq_mapM_toList]
   have hmp':(fs.toList.mapM (m:=Sem) fun f=>do let a ← sizeOf f.type;pure (f.offset,a)).run P w=.ok (fs.toList.map fun f=>(f.offset,(szT P f.type).getD 0)) w:=by
    have e:(fun f:Field=>(do let a ← sizeOf f.type;pure (f.offset,a):Sem (Nat × Nat)))=fun f=>Prod.mk f.offset <$> sizeOf f.type:=by funext f;simp
    rw[e];exact hmp
   simp only[Sem.run_map,hmp',Result.andThen_ok]
   rw[hmap,h1]
   simp
  ·rename_i n e hu
   cases hse:szT P e with
   |none=>simp[hse]at hp
   |some k=>
    simp only[hse]at hp
    obtain⟨arr',h1,h2⟩:=zqF hρ parts.toList ps z c u.cells hp hcz hfill
    refine OpRun.plain (x:=.agg arr') hs ?_ (by simp[conc,h2])
    have hr:(sizeOf e).run P w=.ok k w:=zaW w (by simp[isSz,hse])
    simp only[execOp,Instr.build,Sem.run_bind,zcr w hzv,Result.andThen_ok,run_underlying hu,hr]
    rw[hmap,h1]
    simp
theorem zhe (z:Array Value) (n:Nat):((Array.range n).map fun i=>z[i%z.size]!).toList=zrow z.toList n:=by
 simp only[Array.toList_map,Array.toList_range,zrow,Array.length_toList]
 congr 1
 funext i
 rw[getElem!_def,List.getD_eq_getElem?_getD]
 simp only[Array.getElem?_toList]
 cases z[i%z.size]? <;> rfl
theorem zmo {z:List V} {len:Nat} {ps:List (Nat × Nat × X)} (hok:okA P op (.buildSl z len ps)=true) (hρ:zba R t ρ) (hs:Sim P F R h.get w) (hfr:Fresh R h h')
 (he:evA call (.buildSl z len ps) t h=.ok v h'):OpRun P F R h w (execOp ρ ⟨dst,op,ty,pos,af,gd⟩) v h':=by
 cases op<;>try exact (Bool.false_ne_true hok).elim
 rename_i ty' len' parts
 have hok:(Nat.beq len' len&&(match P.underlying ty' with
  |some (.slice e)=>(match P.info? e with
   |some i=>Nat.ble (len'*i.size) 16777216&&zcM i.size parts.toList ps&&(match i.zero with
    |some v=>zhL z (zrow v.cells.toList (len'*i.size))
    |none=>false)
   |none=>false)
  |_=>false))=true:=hok
 rw[Bool.and_eq_true,Nat.beq_eq]at hok
 obtain⟨rfl,hp⟩:=hok
 split at hp<;>try simp at hp
 rename_i e hu
 cases hi:P.info? e with
 |none=>simp[hi]at hp
 |some i=>
  simp only[hi,Bool.and_eq_true,Nat.ble_eq]at hp
  obtain⟨⟨hle,hparts⟩,hz⟩:=hp
  cases hzv:i.zero with
  |none=>simp[hzv]at hz
  |some u=>
   simp only[hzv]at hz
   have hz0:zey P e=some u:=by simp[zey,hi,hzv]
   have hr:(sizeOf e).run P w=.ok i.size w:=zaW w (by simp[isSz,szT,hi])
   simp only[evA]at he
   split at he<;>simp only[RO.ok.injEq,reduceCtorEq]at he
   rename_i c hfill
   obtain⟨rfl,rfl⟩:=he
   have hcz:zae R z=some (zrow u.cells.toList (len'*i.size)):=zbq R z _ hz
   have hmap:(parts.map fun x=>(x.1,ρ x.2)).toList=parts.toList.map fun p=>(p.1,ρ p.2):=by simp
   have key:∃arr0:Array Value,arr0.toList=zrow u.cells.toList (len'*i.size) ∧
    (Instr.buildSlice ty' len' (parts.map fun x=>(x.1,ρ x.2))).run P w=(match Instr.fill (fun k=>some (k*i.size,i.size)) arr0 (parts.toList.map fun p=>(p.1,ρ p.2)) with
      |some cells=>.ok (.slice (some ⟨w.heap.size,0,none⟩) len' len') (w.alloc (.cells cells e))
      |none=>.halt (.stuck "buildSlice: a part of the wrong size") w):=by
    by_cases h0:len'*i.size=0
    ·refine⟨(Array.range (len'*i.size)).map fun k=>(#[]:Array Value)[k%0]!,by simp[h0,zrow],?_⟩
     simp only[Instr.buildSlice,Sem.run_bind,run_underlying hu,Result.andThen_ok,hr]
     rw[if_neg (by omega),if_pos h0,hmap]
     simp only[Sem.run_bind,Sem.run_pure,Result.andThen_ok,List.size_toArray,List.length_nil]
     cases Instr.fill (fun k=>some (k*i.size,i.size)) ((Array.range (len'*i.size)).map fun k=>(#[]:Array Value)[k%0]!) (parts.toList.map fun p=>(p.1,ρ p.2))<;>simp[newRow]
    ·refine⟨(Array.range (len'*i.size)).map fun k=>u.cells[k%u.cells.size]!,zhe _ _,?_⟩
     simp only[Instr.buildSlice,Sem.run_bind,run_underlying hu,Result.andThen_ok,hr]
     rw[if_neg (by omega),if_neg h0,hmap]
     simp only[Sem.run_bind,zcr w hz0,Sem.run_pure,Result.andThen_ok]
     cases Instr.fill (fun k=>some (k*i.size,i.size)) ((Array.range (len'*i.size)).map fun k=>u.cells[k%u.cells.size]!) (parts.toList.map fun p=>(p.1,ρ p.2))<;>simp[newRow]
   obtain⟨arr0,ha0,hrun⟩:=key
   obtain⟨arr',h1,h2⟩:=zqF hρ parts.toList ps z c arr0 hparts (by rw[ha0];exact hcz) hfill
   rw[h1]at hrun
   obtain⟨hf,hs'⟩:=zgO (e:=e) hs (zbH hfr) h2
   refine⟨.value (.slice (some ⟨w.heap.size,0,none⟩) len' len'),_,_,?_,.inl rfl,_,_,hf,hs',by simp[conc,Emb.add_self]⟩
   simp[execOp,hrun]
end
end Go.Air
namespace Go.Air
section
variable {P:Program} {F:Nat→Prop} {R:Emb} {h h':H} {w:World} {t:List V} {ρ:Operand→Value} {v:V}
 {dst:Option Tmp} {op:Op} {ty:TypeId} {pos:String} {af:Array Edge} {gd:Option (Nat × Bool)} {call:V→List V→H→RO}
def zco (F:Nat→Prop):Option (List Nat)→Prop
 |none=>∀b,F b
 |some l=>∀b∈l,F b
theorem zeT {b o:Nat} {x:Value} (hx:conc R (.p b o)=some x):∃c sz,R b=some (c,sz)∧x=.pointer (some ⟨c,o,none⟩):=by
 simp only[conc,Option.map_eq_some_iff]at hx
 obtain⟨a,ha,rfl⟩:=hx
 exact⟨a.1,a.2,ha,rfl⟩
theorem zha {b c sz:Nat} {cs:List V} (hs:Sim P F R h.get w) (hF:F b) (hb:R b=some (c,sz)) (hg:h.get b=some (.cells cs)) :
 ∃(arr:Array Value) (e:Fr sz) (vs rest:List Value),w.heap[c]? = some (.cells arr e.ty e.fz)∧zae R cs=some vs∧arr.toList=vs++rest∧arr.size=sz:=hs.blk b c sz _ hF hb hg
theorem run_ld {y:X} (hok:okA P op (.ld y)=true) (hρ:zba R t ρ) (hs:Sim P F R h.get w) (hF:zco F (reads (.ld y) t)) (he:evA call (.ld y) t h=.ok v h') :
 OpRun P F R h w (execOp ρ ⟨dst,op,ty,pos,af,gd⟩) v h':=by
 cases op<;>try exact (Bool.false_ne_true hok).elim
 rename_i e x
 have hok:(zcl P e&&okX x y)=true:=hok
 rw[Bool.and_eq_true]at hok
 have hx:=hρ x y hok.2
 simp only[evA]at he
 split at he<;>try simp at he
 rename_i b o hy
 split at he<;>try simp at he
 rename_i bl hg
 obtain⟨hv,rfl⟩:=zdL he
 rw[hy]at hx
 obtain⟨c,sz,hb,hxe⟩:=zeT hx
 obtain⟨u,hcell,hc⟩:=rd1_at hs (hF b (by simp[hy,zaU])) hb hg hv
 exact .plain hs (by simp[execOp,Instr.loadAt,hxe,Instr.sureAddr,loadVar,zcX w hok.1,hcell]) hc
theorem run_ldn {n:Nat} {y:X} (hok:okA P op (.ldn n y)=true) (hρ:zba R t ρ) (hs:Sim P F R h.get w) (hF:zco F (reads (.ldn n y) t)) (he:evA call (.ldn n y) t h=.ok v h') :
 OpRun P F R h w (execOp ρ ⟨dst,op,ty,pos,af,gd⟩) v h':=by
 cases op<;>try exact (Bool.false_ne_true hok).elim
 rename_i e x
 have hok:(aggT P e&&isSz P e n&&okX x y)=true:=hok
 rw[Bool.and_eq_true,Bool.and_eq_true]at hok
 obtain⟨⟨hag,hsz⟩,hxy⟩:=hok
 have hx:=hρ x y hxy
 simp only[evA]at he
 split at he<;>try simp at he
 rename_i b o hy
 split at he<;>try simp at he
 rename_i bl hg
 split at he<;>simp only[RO.ok.injEq,reduceCtorEq]at he
 rename_i l hl
 obtain⟨rfl,rfl⟩:=he
 rw[hy]at hx
 obtain⟨c,sz,hb,hxe⟩:=zeT hx
 obtain⟨us,h1,_,_,hr⟩:=rd_at hs (hF b (by simp[hy,zaU])) hb hg hl
 exact .plain (x:=.agg us.toArray) hs (by simp[execOp,Instr.loadAt,hxe,Instr.sureAddr,loadVar,zdV w hag,zaW w hsz,hr])
  (by simp[conc,h1])
theorem zoe {b o:Nat} {vs:List V} (he:storeAt h b o vs=some h'):∃cs cs',h.get b=some (.cells cs)∧lay cs o vs=some cs'∧(∀v∈vs,v.oneCell=true)∧h'=h.put b (.cells cs'):=by
 unfold storeAt at he
 split at he<;>try simp at he
 rename_i cs hg
 split at he<;>try simp at he
 rename_i cs' hl
 obtain⟨hone,rfl⟩:=he
 exact⟨cs,cs',hg,hl,hone,rfl⟩
theorem ziM:∀{vs:List V} {xs:List Value},zae R vs=some xs→(∀v∈vs,v.oneCell=true)→∀x∈xs,x.oneCell'=true
 |[],xs,h,_=>by simp[zae]at h;subst h;simp
 |v::vs,xs,h,ho=>by
  obtain⟨x,ys,hx,hy,rfl⟩:=zah.1 h
  intro z hz
  rcases List.mem_cons.1 hz with rfl|hz
  ·exact zlV hx (ho v (by simp))
  ·exact ziM hy (fun u hu=>ho u (by simp[hu])) z hz
theorem zfc {b c sz o:Nat} {vs:List V} {xs:List Value} (hs:Sim P F R h.get w) (hF:F b) (hb:R b=some (c,sz)) (he:storeAt h b o vs=some h') (hv:zae R vs=some xs) :
 ∃w',(storeCells ⟨c,o,none⟩ xs).run P w=.ok () w'∧Fwd R R h h' w w' [b]∧Sim P F R h'.get w':=by
 obtain⟨cs,cs',hg,hl,hone,rfl⟩:=zoe he
 obtain⟨arr,e,ys,rest,h1,h2,h3,h4⟩:=zha hs hF hb hg
 obtain⟨hle,rfl⟩:=zeu.1 hl
 have e1:=zan h2
 have e2:=zan hv
 have e3:arr.toList.length=arr.size:=Array.length_toList
 have e4:arr.toList.length=ys.length+rest.length:=by rw[h3];simp
 obtain⟨w',arr',r1,r2,r3,r4,r5,rio⟩:=zcd (P:=P) (o:=o) xs 0 w arr h4 h1 (by omega) (ziM hv hone)
 obtain⟨hf,hs'⟩:=zhT (x:=.cells (cs.take o++vs++cs.drop (o+vs.length))) hs hF hb hg rio r2 r3
  ⟨arr',e,ys.take o++xs++ys.drop (o+xs.length),rest,r4,by rw[e2];exact zaw (zaw (zbd o h2) hv) (zbl _ h2),by
    rw[r5,h3]
    simp only[Nat.add_zero]
    rw[List.take_append_of_le_length (by omega),List.drop_append_of_le_length (by omega)]
    simp,by
    have:arr'.toList.length=arr'.size:=Array.length_toList
    rw[r5]at this
    simp at this
    omega⟩
 exact⟨w',r1,hf,hs'⟩
theorem zkP {e:TypeId} {n c o:Nat} {x:Value} {l:List Value} {w':World} (hsz:isSz P e n=true) (hx:x.cells=l.toArray) (hn:l.length=n)
 (hr:(storeCells ⟨c,o,none⟩ l).run P w=.ok () w'):(storeVar e ⟨c,o,none⟩ x).run P w=.ok () w':=by
 simp only[storeVar,Sem.run_bind,zaW w hsz,Result.andThen_ok,hx]
 rw[if_neg (by simpa using hn)]
 simpa using hr
theorem run_st {n:Nat} {a b:X} (hok:okA P op (.st n a b)=true) (hρ:zba R t ρ) (hs:Sim P F R h.get w) (hF:zco F (reads (.st n a b) t)) (he:evA call (.st n a b) t h=.ok v h') :
 OpRun P F R h w (execOp ρ ⟨dst,op,ty,pos,af,gd⟩) v h':=by
 cases op<;>try exact (Bool.false_ne_true hok).elim
 rename_i e x y
 have hok:(isSz P e n&&okX x a&&okX y b)=true:=hok
 rw[Bool.and_eq_true,Bool.and_eq_true]at hok
 obtain⟨⟨hsz,hxa⟩,hyb⟩:=hok
 have hx:=hρ x a hxa
 have hy:=hρ y b hyb
 simp only[evA]at he
 split at he<;>try simp at he
 rename_i b' o hya
 split at he<;>try simp at he
 rename_i hlen
 rw[hya]at hx
 obtain⟨c,sz,hb,hxe⟩:=zeT hx
 obtain⟨l,hl,hc⟩:=zfl hy
 split at he<;>simp only[RO.ok.injEq,reduceCtorEq]at he
 rename_i h1 hst
 obtain⟨rfl,rfl⟩:=he
 obtain⟨w',r1,hf,hs'⟩:=zfc hs (hF b' (by simp[hya,zaU])) hb hst hl
 refine⟨.skip,undef,w',?_,.inr ⟨rfl,rfl⟩,R,_,hf,hs',zbk R⟩
 have:=zkP hsz hc ((zan hl).trans hlen) r1
 simp[execOp,Instr.storeAt,hxe,Instr.sureAddr,this]
theorem zpl {y:X} (hok:okA P op (.nilck y)=true) (hρ:zba R t ρ) (hs:Sim P F R h.get w) (he:evA call (.nilck y) t h=.ok v h') :
 OpRun P F R h w (execOp ρ ⟨dst,op,ty,pos,af,gd⟩) v h':=by
 cases op<;>try exact (Bool.false_ne_true hok).elim
 rename_i x
 have hx:=hρ x y hok
 simp only[evA]at he
 split at he<;>simp only[RO.ok.injEq,reduceCtorEq]at he<;>(obtain⟨rfl,rfl⟩:=he)<;>rename_i e<;>rw[e]at hx
 ·obtain⟨c,sz,hb,hxe⟩:=zeT hx
  exact .plain (x:=ρ x) hs (by simp[execOp,hxe]) hx
 ·have hx0:=hx
  simp only[conc]at hx0
  split at hx0<;>simp at hx0
  exact .plain (x:=ρ x) hs (by simp[execOp,← hx0]) hx
 ·have hx0:=hx
  simp only[conc,Option.map_eq_some_iff]at hx0
  obtain⟨a,_,ha⟩:=hx0
  exact .plain (x:=ρ x) hs (by simp[execOp,← ha]) hx
theorem zdw {k:IntKind} {n:Int} {x:Value} (hx:conc R (.i k n)=some x):x=.int k n:=by simpa [conc,eq_comm] using hx
theorem ziN {b:Bool} {x:Value} (hx:conc R (.b b)=some x):x=.bool b:=by simpa [conc,eq_comm] using hx
theorem zdD {l:List Nat} {x:Value} (hx:conc R (.s l)=some x):x=.string (zai l)∧∀n∈l,n<256:=by
 simp only[conc]at hx
 split at hx<;>simp at hx
 rename_i hl
 exact⟨hx.symm,by simpa using hl⟩
theorem zdW (o:BinOp) (ty:TypeId) (x y:Operand) (k k':IntKind) (a b:Int):(eqGuard o ty x y (.int k a) (.int k' b)).run P w=.ok () w:=by
 cases o<;>simp[eqGuard]
theorem zjV (o:BinOp) (ty:TypeId) (x y:Operand) (a b:ByteArray):(eqGuard o ty x y (.string a) (.string b)).run P w=.ok () w:=by
 cases o<;>simp[eqGuard]
theorem run_binI {o:BinOp} {k:IntKind} {a b:Int} {ty:TypeId} (ho:o≠.shl) (ho':o≠.shr) (he:binI o k a b=some v) :
 ∃x,(binOp o ty (.int k a) (.int k b)).run P w=.ok x w∧conc R v=some x:=by
 cases o<;>simp only[binI]at he<;>try (first|exact absurd rfl ho|exact absurd rfl ho')
 case quo=>split at he<;>simp at he;rename_i hb;subst he;exact⟨_,by simp[binOp,Op.intDiv,hb];rfl,by simp[conc]⟩
 case rem=>split at he<;>simp at he;rename_i hb;subst he;exact⟨_,by simp[binOp,Op.intDiv,hb];rfl,by simp[conc]⟩
 all_goals (simp only[Option.some.injEq]at he;subst he;refine⟨_,?_,by simp only[conc,ziW];rfl⟩;simp[binOp,Op.intArith,Op.intBits,Op.intCmp])
 all_goals (first|rfl|(congr 1;simp[bne];done)|skip)
theorem zpk {o:BinOp} {k k':IntKind} {a b:Int} {ty:TypeId} (ho:o=.shl∨o=.shr) (he:shI o k a b=some v) :
 ∃x,(binOp o ty (.int k a) (.int k' b)).run P w=.ok x w∧conc R v=some x:=by
 unfold shI at he
 split at he<;>try simp at he
 rename_i hb
 rcases ho with rfl|rfl<;>simp only[Option.some.injEq]at he<;>subst he<;>exact⟨_,by simp[binOp,Op.shift,hb];rfl,by simp[conc]⟩
theorem zbY (l:List Nat):(zai l).toList=l.map UInt8.ofNat:=by rw[ByteArray.toList_eq];rfl
theorem zbP (l:List Nat):(zai l).size=l.length:=by simp[zai,ByteArray.size]
theorem ziX (a b:List Nat):zai a++zai b=zai (a++b):=by
 apply ByteArray.ext
 simp[zai,ByteArray.data_append]
theorem zld {a b:Nat} (ha:a<256) (hb:b<256) (h:UInt8.ofNat a=UInt8.ofNat b):a=b:=by
 have:=congrArg UInt8.toNat h
 simp at this
 omega
theorem zdj:∀(a b:List Nat),zbD a b=true↔a=b
 |[],[]=>by simp[zbD]
 |[],_::_=>by simp[zbD]
 |_::_,[]=>by simp[zbD]
 |x::a,y::b=>by simp[zbD,zdj a b]
theorem zeo:∀(a b:List Nat),(∀n∈a,n<256)→(∀n∈b,n<256)→((a.map UInt8.ofNat)==(b.map UInt8.ofNat))=zbD a b
 |[],[],_,_=>by simp[zbD]
 |[],_::_,_,_=>by simp[zbD]
 |_::_,[],_,_=>by simp[zbD]
 |x::a,y::b,ha,hb=>by
  have ih:=zeo a b (fun n hn=>ha n (by simp[hn])) (fun n hn=>hb n (by simp[hn]))
  simp only[List.map_cons,List.cons_beq_cons,zbD,ih]
  congr 1
  rw[Bool.eq_iff_iff]
  simp
  exact⟨fun e=>zld (ha x (by simp)) (hb y (by simp)) e,fun e=>by rw[e]⟩
theorem zhb:∀(a b:List Nat),(∀n∈a,n<256)→(∀n∈b,n<256)→Op.bytesLess (a.map UInt8.ofNat) (b.map UInt8.ofNat)=bytesLess a b
 |a,[],_,_=>by cases a<;>simp[Op.bytesLess,bytesLess]
 |[],_::_,_,_=>by simp[Op.bytesLess,bytesLess]
 |x::a,y::b,ha,hb=>by
  have ih:=zhb a b (fun n hn=>ha n (by simp[hn])) (fun n hn=>hb n (by simp[hn]))
  have hx:=ha x (by simp)
  have hy:=hb y (by simp)
  simp only[List.map_cons,Op.bytesLess,bytesLess,ih]
  have e1:decide (UInt8.ofNat x<UInt8.ofNat y)=Nat.blt x y:=by
   rw[Bool.eq_iff_iff]
   simp[UInt8.lt_iff_toNat_lt]
   omega
  have e2:(UInt8.ofNat x==UInt8.ofNat y)=Nat.beq x y:=by
   rw[Bool.eq_iff_iff]
   simp
   exact⟨fun e=>zld hx hy e,fun e=>by rw[e]⟩
  rw[e1,e2]
theorem run_binS {o:BinOp} {x y:List Nat} {ty:TypeId} (hx:∀n∈x,n<256) (hy:∀n∈y,n<256) (he:binS o x y=some v) :
 ∃u,(binOp o ty (.string (zai x)) (.string (zai y))).run P w=.ok u w∧conc R v=some u:=by
 have e1:=zeo x y hx hy
 have e2:=zhb x y hx hy
 cases o<;>simp only[binS,reduceCtorEq]at he
 case add=>
  split at he<;>simp at he
  rename_i hle
  subst he
  refine⟨.string (zai (x++y)),?_,?_⟩
  ·rw[Nat.ble_eq]at hle
   have:¬ (((zai x).size+(zai y).size:Nat):Int)>IntKind.i64.max:=by
    rw[zbP,zbP]
    have:IntKind.i64.max=9223372036854775807:=by decide
    omega
   simp only[binOp,Op.stringOp]
   rw[if_neg this,ziX]
   rfl
  ·simp only[conc]
   rw[if_pos]
   rw[List.all_append]
   simp only[Bool.and_eq_true,List.all_eq_true]
   exact⟨fun n hn=>by simpa using hx n hn,fun n hn=>by simpa using hy n hn⟩
 all_goals (simp only[Option.some.injEq]at he;subst he;refine⟨_,?_,by simp only[conc];rfl⟩;simp only[binOp,Op.stringOp,zbY,e1,e2];rfl)
theorem run_bin {o:BinOp} {a b:X} (hok:okA P op (.bin o a b)=true) (hρ:zba R t ρ) (hs:Sim P F R h.get w) (he:evA call (.bin o a b) t h=.ok v h') :
 OpRun P F R h w (execOp ρ ⟨dst,op,ty,pos,af,gd⟩) v h':=by
 cases op<;>try exact (Bool.false_ne_true hok).elim
 rename_i o' xt x y yt
 have hok:(decide (o'=o)&&okX x a&&okX y b)=true:=hok
 rw[Bool.and_eq_true,Bool.and_eq_true]at hok
 obtain⟨⟨ho,hxa⟩,hyb⟩:=hok
 have ho:o'=o:=by simpa using ho
 subst ho
 have hx:=hρ x a hxa
 have hy:=hρ y b hyb
 simp only[evA]at he
 obtain⟨hv,rfl⟩:=zdL he
 have fin:∀u:Value,(eqGuard o' xt x y (ρ x) (ρ y)).run P w=.ok () w→(binOp o' xt (ρ x) (ρ y)).run P w=.ok u w→conc R v=some u→OpRun P F R h' w (execOp ρ ⟨dst,.binOp o' xt x y yt,ty,pos,af,gd⟩) v h':=by
  intro u h1 h2 h3
  exact .plain (x:=u) hs (by simp[execOp,h1,h2]) h3
 generalize ha:a.ev t=va at *
 generalize hb:b.ev t=vb at *
 unfold binV at hv
 split at hv
 ·rename_i k n k' m
  have hx:=zdw hx
  have hy:=zdw hy
  split at hv
  ·obtain⟨u,h1,h2⟩:=zpk (P:=P) (R:=R) (w:=w) (ty:=xt) (k':=k') (.inl rfl) hv
   exact fin u (by rw[hx,hy];exact zdW ..) (by rw[hx,hy];exact h1) h2
  ·obtain⟨u,h1,h2⟩:=zpk (P:=P) (R:=R) (w:=w) (ty:=xt) (k':=k') (.inr rfl) hv
   exact fin u (by rw[hx,hy];exact zdW ..) (by rw[hx,hy];exact h1) h2
  ·rename_i n1 n2
   split at hv<;>try simp at hv
   rename_i hk
   subst hk
   obtain⟨u,h1,h2⟩:=run_binI (P:=P) (R:=R) (w:=w) (ty:=xt) n1 n2 hv
   exact fin u (by rw[hx,hy];exact zdW ..) (by rw[hx,hy];exact h1) h2
 ·rename_i l m
  obtain⟨hx,hx'⟩:=zdD hx
  obtain⟨hy,hy'⟩:=zdD hy
  obtain⟨u,h1,h2⟩:=run_binS (P:=P) (R:=R) (w:=w) (ty:=xt) hx' hy' hv
  exact fin u (by rw[hx,hy];exact zjV ..) (by rw[hx,hy];exact h1) h2
 ·simp at hv
theorem run_un {o:UnOp} {a:X} (hok:okA P op (.un o a)=true) (hρ:zba R t ρ) (hs:Sim P F R h.get w) (he:evA call (.un o a) t h=.ok v h') :
 OpRun P F R h w (execOp ρ ⟨dst,op,ty,pos,af,gd⟩) v h':=by
 cases op<;>try exact (Bool.false_ne_true hok).elim
 rename_i o' xt x
 have hok:(decide (o'=o)&&okX x a)=true:=hok
 rw[Bool.and_eq_true]at hok
 obtain⟨ho,hxa⟩:=hok
 have ho:o'=o:=by simpa using ho
 subst ho
 have hx:=hρ x a hxa
 simp only[evA]at he
 obtain⟨hv,rfl⟩:=zdL he
 generalize ha:a.ev t=va at *
 unfold unV at hv
 split at hv
 ·have hx:=zdw hx
  split at hv<;>simp only[Option.some.injEq,reduceCtorEq]at hv
  ·subst hv
   exact .plain hs (by simp[execOp,hx,Op.unary,Op.intArith];rfl) (by simp[conc])
  ·subst hv
   exact .plain hs (by simp[execOp,hx,Op.unary,Op.intBits];rfl) (by simp[conc,ziW])
 ·have hx:=ziN hx
  split at hv<;>simp only[Option.some.injEq,reduceCtorEq]at hv
  subst hv
  exact .plain hs (by simp[execOp,hx,Op.unary];rfl) (by simp[conc])
 ·simp at hv
theorem run_conv {k:IntKind} {a:X} (hok:okA P op (.conv k a)=true) (hρ:zba R t ρ) (hs:Sim P F R h.get w) (he:evA call (.conv k a) t h=.ok v h') :
 OpRun P F R h w (execOp ρ ⟨dst,op,ty,pos,af,gd⟩) v h':=by
 cases op<;>try exact (Bool.false_ne_true hok).elim
 rename_i s d x
 have hok:(okX x a&&(match P.underlying s,P.underlying d with
  |some _,some (.int k')=>decide (k=k')
  |_,_=>false))=true:=hok
 rw[Bool.and_eq_true]at hok
 obtain⟨hxa,hd⟩:=hok
 have hx:=hρ x a hxa
 split at hd<;>try simp at hd
 rename_i d1 k1 hs1 hd1
 subst hd
 simp only[evA]at he
 split at he<;>simp only[RO.ok.injEq,reduceCtorEq]at he
 rename_i k2 n e
 obtain⟨rfl,rfl⟩:=he
 rw[e]at hx
 have hx:=zdw hx
 refine .plain (x:=.int k (k.wrap n)) hs ?_ (by simp[conc])
 simp only[execOp,Sem.run_bind,convert,run_underlying hs1,run_underlying hd1,Result.andThen_ok,hx]
 cases d1<;>simp[Conv.intToInt]
theorem run_mkI {k:Nat} {a:X} (hok:okA P op (.mkI k a)=true) (hρ:zba R t ρ) (hs:Sim P F R h.get w) (he:evA call (.mkI k a) t h=.ok v h') :
 OpRun P F R h w (execOp ρ ⟨dst,op,ty,pos,af,gd⟩) v h':=by
 cases op<;>try exact (Bool.false_ne_true hok).elim
 rename_i s x
 have hok:(Nat.beq s k&&okX x a&&(match P.underlying s with
  |some (.interface _)=>false
  |some _=>true
  |none=>false))=true:=hok
 rw[Bool.and_eq_true,Bool.and_eq_true,Nat.beq_eq]at hok
 obtain⟨⟨rfl,hxa⟩,hd⟩:=hok
 have hx:=hρ x a hxa
 simp only[evA,RO.ok.injEq]at he
 obtain⟨rfl,rfl⟩:=he
 refine .plain (x:=.iface s (ρ x)) hs ?_ (by simp[conc,hx])
 cases hu:P.underlying s with
 |none=>simp[hu]at hd
 |some d=>
  cases d<;>simp[hu]at hd<;>simp[execOp,Instr.makeInterface,run_underlying hu]
theorem zdK (hρ:zba R t ρ):∀(xs:List Operand) (ys:List X),okXs xs ys=true→zae R (ys.map (X.ev t))=some (xs.map ρ)
 |[],[],_=>by simp[zae]
 |[],_::_,hk=>by simp[okXs]at hk
 |_::_,[],hk=>by simp[okXs]at hk
 |x::xs,y::ys,hk=>by
  simp only[okXs,Bool.and_eq_true]at hk
  exact zah.2 ⟨_,_,hρ x y hk.1,zdK hρ xs ys hk.2,rfl⟩
theorem run_mkFn {f:Nat} {a c:List X} (hok:okA P op (.mkFn f a c)=true) (hρ:zba R t ρ) (hs:Sim P F R h.get w) (he:evA call (.mkFn f a c) t h=.ok v h') :
 OpRun P F R h w (execOp ρ ⟨dst,op,ty,pos,af,gd⟩) v h':=by
 cases op<;>try exact (Bool.false_ne_true hok).elim
 rename_i fn a' c'
 cases fn<;>try exact (Bool.false_ne_true hok).elim
 rename_i g
 have hok:(Nat.beq g f&&okXs a'.toList a&&okXs c'.toList c)=true:=hok
 rw[Bool.and_eq_true,Bool.and_eq_true,Nat.beq_eq]at hok
 obtain⟨⟨rfl,ha⟩,hc⟩:=hok
 simp only[evA,RO.ok.injEq]at he
 obtain⟨rfl,rfl⟩:=he
 refine .plain (x:=.func (.func g) (a'.map ρ) (c'.map ρ)) hs (by simp[execOp,Instr.makeFunc]) ?_
 simp only[conc,zdK hρ _ _ ha,zdK hρ _ _ hc]
 congr 2<;>simp[← Array.toList_map]
theorem zpm (hok:okA P op .mkMap=true) (hs:Sim P F R h.get w) (hfr:Fresh R h h') (he:evA call .mkMap t h=.ok v h') :
 OpRun P F R h w (execOp ρ ⟨dst,op,ty,pos,af,gd⟩) v h':=by
 cases op<;>try exact (Bool.false_ne_true hok).elim
 rename_i s r
 cases r<;>try exact (Bool.false_ne_true hok).elim
 simp only[evA,RO.ok.injEq]at he
 obtain⟨rfl,rfl⟩:=he
 obtain⟨hf,hs'⟩:=zds (x:=.map []) (sz:=0) (o:=.map #[] 0) hs (zbH hfr) (fun w' hw'=>⟨#[],0,hw',by simp[zfq]⟩)
 exact⟨.value (.map (some w.heap.size)),_,_,by simp[execOp,Instr.makeMap],.inl rfl,_,_,hf,hs',by simp[conc,Emb.add_self]⟩
end
end Go.Air
namespace Go.Air
section
variable {P:Program} {F:Nat→Prop} {R:Emb} {h h':H} {w:World} {t:List V} {ρ:Operand→Value} {v:V}
 {dst:Option Tmp} {op:Op} {ty:TypeId} {pos:String} {af:Array Edge} {gd:Option (Nat × Bool)} {call:V→List V→H→RO}
theorem zfZ {v:V} {n:Nat} (hn:zbg v=some n):∃k,v=.i k (.ofNat n):=by
 unfold zbg at hn
 split at hn<;>simp at hn
 subst hn
 exact⟨_,rfl⟩
theorem zbL {x:Operand} {y:X} {n m:Nat} {code:BoundsCode} (hρ:zba R t ρ) (hxy:okX x y=true) (hn:zbg (y.ev t)=some n) (hle:n≤m) :
 (Instr.sliceBound (ρ x) m code).run P w=.ok n w:=by
 obtain⟨k,hk⟩:=zfZ hn
 have hx:=hρ x y hxy
 rw[hk]at hx
 have hx:=zdw hx
 simp only[Instr.sliceBound,hx,asIntOf,Sem.run_bind,Sem.run_pure,Result.andThen_ok]
 rw[if_pos ⟨Int.natCast_nonneg n,Int.ofNat_le.2 hle⟩]
 simp
theorem zcQ {iss:Bool} {len cap a b:Nat} {lo hi:Option X} {lo' hi':Option Operand} (hρ:zba R t ρ) (hlo:okXo lo' lo=true) (hhi:okXo hi' hi=true)
 (hb:zbr t len cap lo hi=some (a,b)) {cap':Nat} (hcap:cap≤cap'):(Instr.sliceBounds iss len cap' (lo'.map ρ) (hi'.map ρ) none).run P w=.ok (a,b,cap') w∧a≤b∧b≤cap:=by
 unfold zbr at hb
 cases hi with
 |none=>
  cases hi' with
  |some _=>simp[okXo]at hhi
  |none=>
   simp only at hb
   split at hb
   case isFalse=>simp at hb
   rename_i hc
   rw[Nat.ble_eq]at hc
   cases lo with
   |none=>
    cases lo' with
    |some _=>simp[okXo]at hlo
    |none=>
     simp at hb
     obtain⟨rfl,rfl⟩:=hb
     exact⟨by simp[Instr.sliceBounds],Nat.zero_le _,hc⟩
   |some x=>
    cases lo' with
    |none=>simp[okXo]at hlo
    |some x'=>
     split at hb<;>try simp at hb
     rename_i a' ha
     obtain⟨hle,rfl,rfl⟩:=hb
     exact⟨by simp[Instr.sliceBounds,zbL hρ hlo ha hle],hle,hc⟩
 |some y=>
  cases hi' with
  |none=>simp[okXo]at hhi
  |some y'=>
   simp only at hb
   split at hb
   ·simp at hb
   rename_i q hq
   split at hb
   case isFalse=>simp at hb
   rename_i hc
   rw[Nat.ble_eq]at hc
   have hrq:∀code,(Instr.sliceBound (ρ y') cap' code).run P w=.ok q w:=fun code=>zbL hρ hhi hq (by omega)
   cases lo with
   |none=>
    cases lo' with
    |some _=>simp[okXo]at hlo
    |none=>
     simp at hb
     obtain⟨rfl,rfl⟩:=hb
     exact⟨by simp[Instr.sliceBounds,hrq],Nat.zero_le _,hc⟩
   |some x=>
    cases lo' with
    |none=>simp[okXo]at hlo
    |some x'=>
     split at hb<;>try simp at hb
     rename_i a' ha
     obtain⟨hle,rfl,rfl⟩:=hb
     exact⟨by simp[Instr.sliceBounds,hrq,zbL hρ hlo ha hle],hle,hc⟩
theorem zci {b o l c:Nat} {g:Option Nat} {x:Value} (hx:conc R (.sl b o l c g)=some x):∃cb sz cap',R b=some (cb,sz)∧x=.slice (some ⟨cb,o,none⟩) l cap'∧c≤cap' ∧
 (g=none→cap'=c)∧(∀e,g=some e→cap'=(sz-o)/e∧o+c*e≤sz∧0<e):=by
 cases g with
 |none=>
  simp only[conc,Option.map_eq_some_iff]at hx
  obtain⟨a,ha,rfl⟩:=hx
  exact⟨a.1,a.2,c,ha,rfl,Nat.le_refl _,(fun _=>rfl),(fun e he=>by cases he)⟩
 |some e=>
  simp only[conc,Option.bind_eq_some_iff]at hx
  obtain⟨a,ha,hx⟩:=hx
  split at hx<;>simp at hx
  rename_i hc
  subst hx
  refine⟨a.1,a.2,_,ha,rfl,?_,(fun hn=>by cases hn),(fun e' he=>by cases he;exact⟨rfl,hc⟩)⟩
  rw[Nat.le_div_iff_mul_le hc.2]
  omega
theorem zii {e:TypeId} {esz:Nat} {t':TypeId} {x:Value} {lo hi:Option Value} {mx:Option Value} {a b m base len cap:Nat} {off:Nat} (hu:P.underlying t'=some (.slice e)) (hsz:isSz P e esz=true)
 (hx:x=.slice (some ⟨base,off,none⟩) len cap) (hb:(Instr.sliceBounds true len cap lo hi mx).run P w=.ok (a,b,m) w) :
 (Instr.sliceAt t' x lo hi mx).run P w=.ok (.slice (some ⟨base,if m=a then off else off+a*esz,none⟩) (b-a) (m-a)) w:=by
 subst hx
 simp only[Instr.sliceAt,Sem.run_bind,run_underlying hu,Result.andThen_ok,Instr.slice,hb,zaW w hsz,Sem.run_pure,Option.map_some,zbW]
 by_cases hm:m=a
 ·rw[if_pos hm,if_pos hm]
 ·rw[if_neg hm,if_neg hm]
theorem run_slc {esz:Nat} {y:X} {lo hi mx:Option X} (hok:okA P op (.slc esz y lo hi mx)=true) (hρ:zba R t ρ) (hs:Sim P F R h.get w) (he:evA call (.slc esz y lo hi mx) t h=.ok v h') :
 OpRun P F R h w (execOp ρ ⟨dst,op,ty,pos,af,gd⟩) v h':=by
 cases op<;>try exact (Bool.false_ne_true hok).elim
 rename_i t' x lo' hi' mx'
 have hok:(okX x y&&okXo lo' lo&&okXo hi' hi&&okXo mx' mx&&(match P.underlying t' with
  |some (.slice e)=>isSz P e esz
  |_=>false))=true:=hok
 simp only[Bool.and_eq_true]at hok
 obtain⟨⟨⟨⟨hxy,hlo⟩,hhi⟩,hmx⟩,hu⟩:=hok
 split at hu<;>try simp at hu
 rename_i e hue
 have hx:=hρ x y hxy
 simp only[evA]at he
 generalize y.ev t=vy at *
 cases mx with
 |none=>
  cases mx' with
  |some _=>simp[okXo]at hmx
  |none=>
   simp only at he
   obtain⟨hv,rfl⟩:=zdL he
   unfold zck at hv
   split at hv
   ·split at hv<;>simp at hv
    subst hv
    rename_i q hq
    obtain⟨a,b⟩:=q
    obtain⟨hr,h1,h2⟩:=zcQ (P:=P) (w:=w) (iss:=true) hρ hlo hhi hq (Nat.le_refl _)
    simp[conc]at hx
    obtain rfl:b=0:=by omega
    obtain rfl:a=0:=by omega
    refine .plain (x:=.slice none 0 0) hs ?_ (by simp[conc])
    simp[execOp,Instr.sliceAt,run_underlying hue,Instr.slice,← hx,hr,zaW w hu]
   ·rename_i aa
    split at hv<;>simp at hv
    subst hv
    rename_i q hq
    obtain⟨a,b⟩:=q
    obtain⟨hr,h1,h2⟩:=zcQ (P:=P) (w:=w) (iss:=true) hρ hlo hhi hq (Nat.le_refl _)
    simp[conc]at hx
    obtain rfl:b=0:=by omega
    obtain rfl:a=0:=by omega
    refine .plain (x:=.slice (some aa) 0 0) hs ?_ (by simp[conc])
    simp[execOp,Instr.sliceAt,run_underlying hue,Instr.slice,← hx,hr,zaW w hu]
   ·rename_i blk off len cap g
    split at hv<;>try simp at hv
    rename_i a b hq
    obtain⟨cb,sz,cap',hR,hxe,hcc,hg1,hg2⟩:=zci hx
    obtain⟨hr,h1,h2⟩:=zcQ (P:=P) (w:=w) (iss:=true) hρ hlo hhi hq hcc
    have hrun:=zii (P:=P) (w:=w) hue hu hxe hr
    refine⟨_,_,w,by simp only[execOp,Sem.run_bind,Option.map_none,hrun,Result.andThen_ok,Sem.run_pure];rfl,.inl rfl,.same hs ?_⟩
    cases g with
    |none=>
     simp at hv
     subst hv
     obtain rfl:=hg1 rfl
     simp only[conc,hR,Option.map_some,Nat.beq_eq_true_eq]
     congr 5
     by_cases hac:a=cap'
     ·simp[hac]
     ·simp[hac,Ne.symm hac]
    |some g=>
     simp at hv
     obtain⟨⟨hlt,rfl⟩,rfl⟩:=hv
     obtain⟨hc1,hc2,hc3⟩:=hg2 g rfl
     have hne:¬ cap'=a:=by omega
     simp only[conc,hR,Option.bind_some,if_neg hne]
     have h3:(cap-a)*g=cap*g-a*g:=Nat.sub_mul ..
     have h4:a*g≤cap*g:=Nat.mul_le_mul_right g (by omega)
     rw[if_pos ⟨by omega,hc3⟩,hc1]
     congr 2
     rw[Nat.sub_add_eq,Nat.mul_comm a g,Nat.sub_mul_div]
   ·simp at hv
 |some m=>
  cases mx' with
  |none=>simp[okXo]at hmx
  |some m'=>
   simp only at he
   obtain⟨hv,rfl⟩:=zdL he
   unfold zfV at hv
   have hbs:∀{len cap' mm a b:Nat} {hh:X},zbg (m.ev t)=some mm→hi=some hh→mm≤cap'→zbr t mm mm lo hi=some (a,b)→∃hi1,hi'=some hi1 ∧
    (Instr.sliceBounds true len cap' (lo'.map ρ) (some (ρ hi1)) (some (ρ m'))).run P w=.ok (a,b,mm) w:=by
    intro len cap' mm a b hh hm hhe hmc hq
    subst hhe
    cases hi' with
    |none=>simp[okXo]at hhi
    |some hi'=>
     refine⟨hi',rfl,?_⟩
     have hrm:=zbL (P:=P) (w:=w) (code:=.slice3Acap) hρ hmx hm hmc
     have hok2:okX hi' hh=true:=hhi
     unfold zbr at hq
     simp only at hq
     split at hq<;>try simp at hq
     rename_i b' hb'
     obtain⟨hle,hq⟩:=hq
     simp only[Instr.sliceBounds,Sem.run_bind,if_true,hrm,Result.andThen_ok,Sem.run_pure]
     rw[zbL hρ hok2 hb' hle]
     simp only[Result.andThen_ok]
     cases lo with
     |none=>
      cases lo' with
      |some _=>simp[okXo]at hlo
      |none=>simp at hq;simp[hq]
     |some x1=>
      cases lo' with
      |none=>simp[okXo]at hlo
      |some x1'=>
       simp only at hq
       split at hq<;>try simp at hq
       rename_i a' ha
       obtain⟨hle,rfl,rfl⟩:=hq
       simp only[Option.map_some,Sem.run_bind]
       rw[zbL hρ hlo ha hle]
       simp
   split at hv<;>try simp at hv
   ·rename_i blk off len cap g
    split at hv<;>try simp at hv
    rename_i mm hh hm
    obtain⟨hmc,hv⟩:=hv
    split at hv<;>simp at hv
    rename_i a b hq
    subst hv
    obtain⟨cb,sz,cap',hR,hxe,hcc,hg1,hg2⟩:=zci hx
    obtain⟨hi1,rfl,hrb⟩:=hbs (len:=len) (cap':=cap') hm rfl (Nat.le_trans hmc hcc) hq
    have hrun:=zii (P:=P) (w:=w) hue hu hxe hrb
    refine⟨_,_,w,by simp only[execOp,Sem.run_bind,Option.map_some,hrun,Result.andThen_ok,Sem.run_pure];rfl,.inl rfl,.same hs ?_⟩
    simp only[conc,hR,Option.map_some,Nat.beq_eq_true_eq]
    congr 5
    by_cases hac:a=mm
    ·simp[hac]
    ·simp[hac,Ne.symm hac]
   ·rename_i aa
    split at hv<;>try simp at hv
    rename_i mm hh hm
    obtain⟨rfl,hv⟩:=hv
    split at hv<;>simp at hv
    rename_i q hq
    obtain⟨a,b⟩:=q
    subst hv
    obtain⟨hi1,rfl,hrb⟩:=hbs (len:=0) (cap':=0) hm rfl (Nat.le_refl _) hq
    obtain⟨_,h1,h2⟩:=zcQ (P:=P) (w:=w) (iss:=true) hρ hlo hhi hq (Nat.le_refl _)
    obtain rfl:b=0:=by omega
    obtain rfl:a=0:=by omega
    simp[conc]at hx
    refine .plain (x:=.slice (some aa) 0 0) hs ?_ (by simp[conc])
    simp[execOp,Instr.sliceAt,run_underlying hue,Instr.slice,← hx,hrb,zaW w hu]
theorem run_slcA {len esz:Nat} {y:X} {lo hi:Option X} (hok:okA P op (.slcA len esz y lo hi)=true) (hρ:zba R t ρ) (hs:Sim P F R h.get w) (he:evA call (.slcA len esz y lo hi) t h=.ok v h') :
 OpRun P F R h w (execOp ρ ⟨dst,op,ty,pos,af,gd⟩) v h':=by
 cases op<;>try exact (Bool.false_ne_true hok).elim
 rename_i t' x lo' hi' mx'
 have hok:(okX x y&&okXo lo' lo&&okXo hi' hi&&mx'.isNone&&(match P.underlying t' with
  |some (.array n e)=>Nat.beq n len&&isSz P e esz
  |_=>false))=true:=hok
 simp only[Bool.and_eq_true,Option.isNone_iff_eq_none]at hok
 obtain⟨⟨⟨⟨hxy,hlo⟩,hhi⟩,rfl⟩,hu⟩:=hok
 split at hu<;>try simp at hu
 rename_i n e hue
 obtain⟨rfl,hsz⟩:=hu
 have hx:=hρ x y hxy
 simp only[evA]at he
 split at he<;>try simp at he
 rename_i b o hy
 split at he<;>simp only[RO.ok.injEq,reduceCtorEq]at he
 rename_i l r hq
 obtain⟨rfl,rfl⟩:=he
 rw[hy]at hx
 obtain⟨c,sz,hb,hxe⟩:=zeT hx
 obtain⟨hr,h1,h2⟩:=zcQ (P:=P) (w:=w) (iss:=false) hρ hlo hhi hq (Nat.le_refl _)
 refine .plain (x:=.slice (some ⟨c,if n=l then o else o+l*esz,none⟩) (r-l) (n-l)) hs ?_ ?_
 ·simp only[execOp,Instr.sliceAt,Sem.run_bind,run_underlying hue,Result.andThen_ok,hxe,Instr.sureAddr,Sem.run_pure,Option.map_none,hr,zaW w hsz,zbW]
  by_cases hm:n=l
  ·rw[if_pos hm,if_pos hm]
  ·rw[if_neg hm,if_neg hm]
 ·simp only[conc,hb,Option.map_some,Nat.beq_eq_true_eq]
  congr 5
  by_cases hac:l=n
  ·simp[hac]
  ·simp[hac,Ne.symm hac]
theorem zde (l:List Nat) (a b:Nat):(zai l).extract a b=zai ((l.drop a).take (b-a)):=by
 apply ByteArray.ext
 simp[zai,ByteArray.data_extract,List.extract,List.map_drop,List.map_take]
theorem run_slcS {y:X} {lo hi:Option X} (hok:okA P op (.slcS y lo hi)=true) (hρ:zba R t ρ) (hs:Sim P F R h.get w) (he:evA call (.slcS y lo hi) t h=.ok v h') :
 OpRun P F R h w (execOp ρ ⟨dst,op,ty,pos,af,gd⟩) v h':=by
 cases op<;>try exact (Bool.false_ne_true hok).elim
 rename_i t' x lo' hi' mx'
 have hok:(okX x y&&okXo lo' lo&&okXo hi' hi&&mx'.isNone&&(match P.underlying t' with
  |some .string=>true
  |_=>false))=true:=hok
 simp only[Bool.and_eq_true,Option.isNone_iff_eq_none]at hok
 obtain⟨⟨⟨⟨hxy,hlo⟩,hhi⟩,rfl⟩,hu⟩:=hok
 split at hu<;>try simp at hu
 rename_i hue
 have hx:=hρ x y hxy
 simp only[evA]at he
 split at he<;>try simp at he
 rename_i l hy
 split at he<;>simp only[RO.ok.injEq,reduceCtorEq]at he
 rename_i a b hq
 obtain⟨rfl,rfl⟩:=he
 rw[hy]at hx
 obtain⟨hxe,hlt⟩:=zdD hx
 obtain⟨hr,h1,h2⟩:=zcQ (P:=P) (w:=w) (iss:=false) hρ hlo hhi hq (Nat.le_refl _)
 refine .plain (x:=.string (zai ((l.drop a).take (b-a)))) hs ?_ ?_
 ·simp only[execOp,Instr.sliceAt,Sem.run_bind,run_underlying hue,Result.andThen_ok,hxe,Instr.slice,Option.isSome_none,Option.map_none,zbP,hr,zde]
  simp[hr]
 ·simp only[conc]
  rw[if_pos]
  rw[List.all_eq_true]
  intro n hn
  simpa using hlt n (List.mem_of_mem_drop (List.mem_of_mem_take hn))
theorem run_fld {off:Nat} {y:X} (hok:okA P op (.fld off y)=true) (hρ:zba R t ρ) (hs:Sim P F R h.get w) (he:evA call (.fld off y) t h=.ok v h') :
 OpRun P F R h w (execOp ρ ⟨dst,op,ty,pos,af,gd⟩) v h':=by
 cases op<;>try exact (Bool.false_ne_true hok).elim
 rename_i s x f
 have hok:(okX x y&&(match P.underlying s with
  |some (.struct fs)=>(match fs[f]? with
   |some fd=>Nat.beq fd.offset off&&(match szT P fd.type with
    |some n=>Nat.blt 0 n
    |none=>false)
   |none=>false)
  |_=>false))=true:=hok
 rw[Bool.and_eq_true]at hok
 obtain⟨hxy,hu⟩:=hok
 split at hu<;>try simp at hu
 rename_i fs hue
 split at hu<;>try simp at hu
 rename_i fd hfd
 obtain⟨rfl,hn⟩:=hu
 split at hn<;>try simp at hn
 rename_i n hsz
 have hx:=hρ x y hxy
 simp only[evA]at he
 split at he<;>simp only[RO.ok.injEq,reduceCtorEq]at he
 rename_i b o hy
 obtain⟨rfl,rfl⟩:=he
 rw[hy]at hx
 obtain⟨c,sz,hb,hxe⟩:=zeT hx
 have hr:(sizeOf fd.type).run P w=.ok n w:=zaW w (by simp[isSz,hsz])
 refine .plain (x:=.pointer (some ⟨c,o+fd.offset,none⟩)) hs ?_ (by simp[conc,hb])
 simp only[execOp,Instr.fieldAt,Sem.run_bind,run_underlying hue,Result.andThen_ok,hfd,hxe,Instr.sureAddr,Sem.run_pure,fieldPlace,hr]
 rw[if_neg (by omega)]
 simp[zbW]
theorem zcs {ft:TypeId} {cs:Array Value} {off:Nat} {x:Value} (hp:zcl P ft=true) (hx:cs.toList[off]? = some x):(part ft cs off).run P w=.ok x w:=by
 simp only[part,Sem.run_bind,zcX w hp,Result.andThen_ok,Bool.false_eq_true,if_false]
 rw[Array.getElem?_toList]at hx
 simp[hx]
theorem zcL {ft:TypeId} {cs:Array Value} {off n:Nat} (hp:aggT P ft=true) (hn:isSz P ft n=true):(part ft cs off).run P w=.ok (.agg ((cs.toList.drop off).take n).toArray) w:=by
 simp only[part,Sem.run_bind,zdV w hp,Result.andThen_ok,if_true,zaW w hn,Sem.run_pure]
 congr 2
 apply Array.ext'
 simp[List.extract]
theorem zcO {c:List V} {x:Value} (hx:conc R (.agg c)=some x):∃l,zae R c=some l∧x=.agg l.toArray:=by
 simp only[conc]at hx
 cases hc:zae R c with
 |none=>simp[hc]at hx
 |some l=>simp[hc]at hx;exact⟨l,rfl,hx.symm⟩
theorem conc_tup {c:List V} {x:Value} (hx:conc R (.tup c)=some x):∃l,zae R c=some l∧x=.tuple l.toArray:=by
 simp only[conc]at hx
 cases hc:zae R c with
 |none=>simp[hc]at hx
 |some l=>simp[hc]at hx;exact⟨l,rfl,hx.symm⟩
theorem run_fldv {off:Nat} {sz:Option Nat} {y:X} (hok:okA P op (.fldv off sz y)=true) (hρ:zba R t ρ) (hs:Sim P F R h.get w) (he:evA call (.fldv off sz y) t h=.ok v h') :
 OpRun P F R h w (execOp ρ ⟨dst,op,ty,pos,af,gd⟩) v h':=by
 cases op<;>try exact (Bool.false_ne_true hok).elim
 rename_i s x f
 have hok:(okX x y&&(match P.underlying s with
  |some (.struct fs)=>(match fs[f]? with
   |some fd=>Nat.beq fd.offset off&&(match (generalizing:=false) sz with
    |none=>zcl P fd.type
    |some n=>aggT P fd.type&&isSz P fd.type n)
   |none=>false)
  |_=>false))=true:=hok
 rw[Bool.and_eq_true]at hok
 obtain⟨hxy,hu⟩:=hok
 split at hu<;>try simp at hu
 rename_i fs hue
 split at hu<;>try simp at hu
 rename_i fd hfd
 obtain⟨rfl,hn⟩:=hu
 have hx:=hρ x y hxy
 simp only[evA]at he
 split at he<;>try simp at he
 rename_i c hy
 rw[hy]at hx
 obtain⟨l,hl,hxe⟩:=zcO hx
 cases sz with
 |none=>
  simp only at he
  obtain⟨hv,rfl⟩:=zdL he
  rw[zdB]at hv
  obtain⟨u,hu,hc⟩:=zcb hl hv
  refine .plain (x:=u) hs ?_ hc
  simp[execOp,Instr.field,run_underlying hue,hfd,hxe,asAgg,zcs (P:=P) (w:=w) (cs:=l.toArray) hn (by simpa using hu)]
 |some n=>
  simp only at he hn
  rw[Bool.and_eq_true]at hn
  split at he<;>simp only[RO.ok.injEq,reduceCtorEq]at he
  rename_i l' hl'
  obtain⟨rfl,rfl⟩:=he
  obtain⟨hle,rfl⟩:=zbh.1 hl'
  refine .plain (x:=.agg ((l.drop fd.offset).take n).toArray) hs ?_ (by simp[conc,zbd n (zbl fd.offset hl)])
  simp[execOp,Instr.field,run_underlying hue,hfd,hxe,asAgg,zcL (P:=P) (w:=w) (cs:=l.toArray) hn.1 hn.2]
theorem run_ixS {esz:Nat} {y i:X} (hok:okA P op (.ixS esz y i)=true) (hρ:zba R t ρ) (hs:Sim P F R h.get w) (he:evA call (.ixS esz y i) t h=.ok v h') :
 OpRun P F R h w (execOp ρ ⟨dst,op,ty,pos,af,gd⟩) v h':=by
 cases op<;>try exact (Bool.false_ne_true hok).elim
 rename_i t' x ix
 have hok:(okX x y&&okX ix i&&(match P.underlying t' with
  |some (.slice e)=>isSz P e esz
  |_=>false))=true:=hok
 simp only[Bool.and_eq_true]at hok
 obtain⟨⟨hxy,hii⟩,hu⟩:=hok
 split at hu<;>try simp at hu
 rename_i e hue
 have hx:=hρ x y hxy
 have hi:=hρ ix i hii
 simp only[evA]at he
 split at he<;>try simp at he
 rename_i b o len cap g n hy hn
 split at he<;>simp only[RO.ok.injEq,reduceCtorEq]at he
 rename_i hlt
 obtain⟨rfl,rfl⟩:=he
 rw[hy]at hx
 obtain⟨cb,sz,cap',hR,hxe,hcc,hg1,hg2⟩:=zci hx
 obtain⟨k,hk⟩:=zfZ hn
 rw[hk]at hi
 have hi:=zdw hi
 refine .plain (x:=.pointer (some ⟨cb,o+n*esz,none⟩)) hs ?_ (by simp[conc,hR])
 simp only[execOp,Instr.indexAt,Sem.run_bind,run_underlying hue,Result.andThen_ok,hxe,hi,asIntOf,Sem.run_pure]
 rw[if_pos ⟨Int.natCast_nonneg n,Int.ofNat_lt.2 hlt⟩]
 simp[zaW w hu,zbW]
theorem run_ixA {len esz:Nat} {y i:X} (hok:okA P op (.ixA len esz y i)=true) (hρ:zba R t ρ) (hs:Sim P F R h.get w) (he:evA call (.ixA len esz y i) t h=.ok v h') :
 OpRun P F R h w (execOp ρ ⟨dst,op,ty,pos,af,gd⟩) v h':=by
 cases op<;>try exact (Bool.false_ne_true hok).elim
 rename_i t' x ix
 have hok:(okX x y&&okX ix i&&(match P.underlying t' with
  |some (.array n e)=>Nat.beq n len&&isSz P e esz
  |_=>false))=true:=hok
 simp only[Bool.and_eq_true]at hok
 obtain⟨⟨hxy,hii⟩,hu⟩:=hok
 split at hu<;>try simp at hu
 rename_i n' e hue
 obtain⟨rfl,hsz⟩:=hu
 have hx:=hρ x y hxy
 have hi:=hρ ix i hii
 simp only[evA]at he
 split at he<;>try simp at he
 rename_i b o n hy hn
 split at he<;>simp only[RO.ok.injEq,reduceCtorEq]at he
 rename_i hlt
 obtain⟨rfl,rfl⟩:=he
 rw[hy]at hx
 obtain⟨c,sz,hb,hxe⟩:=zeT hx
 obtain⟨k,hk⟩:=zfZ hn
 rw[hk]at hi
 have hi:=zdw hi
 refine .plain (x:=.pointer (some ⟨c,o+n*esz,none⟩)) hs ?_ (by simp[conc,hb])
 simp only[execOp,Instr.indexAt,Sem.run_bind,run_underlying hue,Result.andThen_ok,hxe,hi,asIntOf,Sem.run_pure,Instr.sureAddr]
 rw[if_pos ⟨Int.natCast_nonneg n,Int.ofNat_lt.2 hlt⟩]
 simp[zaW w hsz,zbW]
theorem zpn {y i:X} (hok:okA P op (.ixStr y i)=true) (hρ:zba R t ρ) (hs:Sim P F R h.get w) (he:evA call (.ixStr y i) t h=.ok v h') :
 OpRun P F R h w (execOp ρ ⟨dst,op,ty,pos,af,gd⟩) v h':=by
 cases op<;>try exact (Bool.false_ne_true hok).elim
 rename_i t' x ix
 have hok:(okX x y&&okX ix i&&(match P.underlying t' with
  |some .string=>true
  |_=>false))=true:=hok
 simp only[Bool.and_eq_true]at hok
 obtain⟨⟨hxy,hii⟩,hu⟩:=hok
 split at hu<;>try simp at hu
 rename_i hue
 have hx:=hρ x y hxy
 have hi:=hρ ix i hii
 simp only[evA]at he
 split at he<;>try simp at he
 rename_i l n hy hn
 split at he<;>simp only[RO.ok.injEq,reduceCtorEq]at he
 rename_i c hc
 obtain⟨rfl,rfl⟩:=he
 rw[hy]at hx
 obtain⟨hxe,hlt⟩:=zdD hx
 obtain⟨k,hk⟩:=zfZ hn
 rw[hk]at hi
 have hi:=zdw hi
 have hn':n<l.length:=(List.getElem?_eq_some_iff.1 hc).1
 have hget:(zai l)[n]? = some (UInt8.ofNat c):=by
  have hs:n<(zai l).size:=by rw[zbP];exact hn'
  rw[getElem?_pos (zai l) n hs]
  congr 1
  have e:l[n]=c:=(List.getElem?_eq_some_iff.1 hc).2
  show (zai l).data[n]=_
  simp[zai,e]
 have hc256:c<256:=hlt c (List.mem_of_getElem? hc)
 refine .plain (x:=.int .u8 c) hs ?_ (by simp[conc])
 simp only[execOp,Instr.index,Sem.run_bind,run_underlying hue,Result.andThen_ok,hxe,hi,asIntOf,Sem.run_pure]
 rw[if_pos (show (0:Int)≤Int.ofNat n from Int.natCast_nonneg n)]
 simp only[Int.ofNat_eq_natCast,Int.toNat_natCast,hget]
 simp
 omega
theorem run_ixV {len esz:Nat} {ag:Bool} {y i:X} (hok:okA P op (.ixV len esz ag y i)=true) (hρ:zba R t ρ) (hs:Sim P F R h.get w) (he:evA call (.ixV len esz ag y i) t h=.ok v h') :
 OpRun P F R h w (execOp ρ ⟨dst,op,ty,pos,af,gd⟩) v h':=by
 cases op<;>try exact (Bool.false_ne_true hok).elim
 rename_i t' x ix
 have hok:(okX x y&&okX ix i&&(match P.underlying t' with
  |some (.array n e)=>Nat.beq n len&&isSz P e esz&&(if ag then aggT P e else zcl P e)
  |_=>false))=true:=hok
 simp only[Bool.and_eq_true]at hok
 obtain⟨⟨hxy,hii⟩,hu⟩:=hok
 split at hu<;>try simp at hu
 rename_i n' e hue
 obtain⟨⟨rfl,hsz⟩,hag⟩:=hu
 have hx:=hρ x y hxy
 have hi:=hρ ix i hii
 simp only[evA]at he
 split at he<;>try simp at he
 rename_i c n hy hn
 by_cases hlt:n<n'
 case neg=>rw[if_neg hlt]at he;cases he
 rw[if_pos hlt]at he
 rw[hy]at hx
 obtain⟨l,hl,hxe⟩:=zcO hx
 obtain⟨k,hk⟩:=zfZ hn
 rw[hk]at hi
 have hi:=zdw hi
 cases ag with
 |true=>
  simp only[if_true]at he hag
  split at he<;>simp only[RO.ok.injEq,reduceCtorEq]at he
  rename_i l' hl'
  obtain⟨rfl,rfl⟩:=he
  obtain⟨hle,rfl⟩:=zbh.1 hl'
  refine .plain (x:=.agg ((l.drop (n*esz)).take esz).toArray) hs ?_ (by simp[conc,zbd esz (zbl (n*esz) hl)])
  simp only[execOp,Instr.index,Sem.run_bind,run_underlying hue,Result.andThen_ok,hxe,hi,asIntOf,Sem.run_pure]
  rw[if_pos ⟨Int.natCast_nonneg n,Int.ofNat_lt.2 hlt⟩]
  simp[zaW w hsz,zcL (P:=P) (w:=w) (cs:=l.toArray) hag hsz]
 |false=>
  simp only[Bool.false_eq_true,if_false]at he hag
  obtain⟨hv,rfl⟩:=zdL he
  rw[zdB]at hv
  obtain⟨u,hu,hc⟩:=zcb hl hv
  refine .plain (x:=u) hs ?_ hc
  simp only[execOp,Instr.index,Sem.run_bind,run_underlying hue,Result.andThen_ok,hxe,hi,asIntOf,Sem.run_pure]
  rw[if_pos ⟨Int.natCast_nonneg n,Int.ofNat_lt.2 hlt⟩]
  simp[zaW w hsz,zcs (P:=P) (w:=w) (cs:=l.toArray) hag (by simpa using hu)]
theorem run_ext {y:X} {n:Nat} (hok:okA P op (.ext y n)=true) (hρ:zba R t ρ) (hs:Sim P F R h.get w) (he:evA call (.ext y n) t h=.ok v h') :
 OpRun P F R h w (execOp ρ ⟨dst,op,ty,pos,af,gd⟩) v h':=by
 cases op<;>try exact (Bool.false_ne_true hok).elim
 rename_i x m
 have hok:(Nat.beq m n&&okX x y)=true:=hok
 rw[Bool.and_eq_true,Nat.beq_eq]at hok
 obtain⟨rfl,hxy⟩:=hok
 have hx:=hρ x y hxy
 simp only[evA]at he
 split at he<;>try simp at he
 rename_i c hy
 obtain⟨hv,rfl⟩:=zdL he
 rw[hy]at hx
 obtain⟨l,hl,hxe⟩:=conc_tup hx
 rw[zdB]at hv
 obtain⟨u,hu,hc⟩:=zcb hl hv
 refine .plain (x:=u) hs ?_ hc
 simp[execOp,Instr.extract,hxe,hu]
end
end Go.Air
namespace Go.Air
theorem zhR (z:List Value):∀c:Nat,zrow z (c*z.length)=(List.replicate c z).flatten
 |0=>by simp[zrow]
 |c+1=>by
  have ih:=zhR z c
  rw[List.replicate_succ',List.flatten_append,← ih]
  unfold zrow
  rw[Nat.add_mul,Nat.one_mul,List.range_add,List.map_append,List.map_map]
  congr 1
  simp only[List.flatten_cons,List.flatten_nil,List.append_nil]
  apply List.ext_getElem?
  intro i
  by_cases hi:i<z.length
  ·simp[hi,Nat.mod_eq_of_lt hi]
  ·rw[List.getElem?_eq_none (by simpa using hi),List.getElem?_eq_none (by omega)]
theorem zhu (z:Array Value) (n:Nat):(Builtin.zeroCells z n).toList=(List.replicate n z.toList).flatten:=by
 unfold Builtin.zeroCells
 rw[zhe,← zhR]
 simp
section
variable {P:Program} {F:Nat→Prop} {R:Emb} {h h':H} {w:World} {t:List V} {ρ:Operand→Value} {v:V}
 {dst:Option Tmp} {op:Op} {ty:TypeId} {pos:String} {af:Array Edge} {gd:Option (Nat × Bool)} {call:V→List V→H→RO}
theorem run_mkSl {z:List V} {bytes:Nat} {a b:X} (hok:okA P op (.mkSl z bytes a b)=true) (hρ:zba R t ρ) (hs:Sim P F R h.get w) (hfr:Fresh R h h') (he:evA call (.mkSl z bytes a b) t h=.ok v h') :
 OpRun P F R h w (execOp ρ ⟨dst,op,ty,pos,af,gd⟩) v h':=by
 cases op<;>try exact (Bool.false_ne_true hok).elim
 rename_i t' x y
 have hok:(okX x a&&okX y b&&(match P.underlying t' with
  |some (.slice e)=>(match P.info? e with
   |some i=>Nat.beq i.bytes bytes&&Nat.beq i.size z.length&&(match i.zero with
    |some v=>zhL z v.cells.toList
    |none=>false)
   |none=>false)
  |_=>false))=true:=hok
 simp only[Bool.and_eq_true]at hok
 obtain⟨⟨hxa,hyb⟩,hu⟩:=hok
 split at hu<;>try simp at hu
 rename_i e hue
 cases hi:P.info? e with
 |none=>simp[hi]at hu
 |some i=>
  simp only[hi,Bool.and_eq_true,Nat.beq_eq]at hu
  obtain⟨⟨hby,hsz⟩,hz⟩:=hu
  cases hzv:i.zero with
  |none=>simp[hzv]at hz
  |some u=>
   simp only[hzv]at hz
   have hz0:zey P e=some u:=by simp[zey,hi,hzv]
   have hc:=zbq R z _ hz
   have hx:=hρ x a hxa
   have hy:=hρ y b hyb
   simp only[evA]at he
   split at he<;>try simp at he
   rename_i l c hl hcn
   obtain⟨k1,hk1⟩:=zfZ hl
   obtain⟨k2,hk2⟩:=zfZ hcn
   rw[hk1]at hx;rw[hk2]at hy
   have hx:=zdw hx
   have hy:=zdw hy
   split at he<;>simp only[RO.ok.injEq,reduceCtorEq]at he
   rename_i hle
   obtain⟨rfl,rfl⟩:=he
   obtain⟨⟨hlc,hc48⟩,hb48⟩:=hle
   have w1:IntKind.i64.wrap (Int.ofNat l)=l:=IntWalk.i64_in _ (by rw[Int.ofNat_eq_natCast];omega)
   have w2:IntKind.i64.wrap (Int.ofNat c)=c:=IntWalk.i64_in _ (by rw[Int.ofNat_eq_natCast];omega)
   have hsize:(sizeOf e).run P w=.ok i.size w:=zaW w (by simp[isSz,szT,hi])
   have hzl:u.cells.toList.length=z.length:=zan hc
   obtain⟨arr,ha,hrun⟩:∃arr:Array Value,arr.toList=(List.replicate c u.cells.toList).flatten ∧
    (Instr.makeSlice t' (ρ x) (ρ y)).run P w=.ok (.slice (some ⟨w.heap.size,0,none⟩) l c) (w.alloc (.cells arr e)):=by
    have hnot1:¬ ((decide ((c:Int)<0)||decide ((bytes:Int)*(c:Int)>2^48))=true):=by
     simp only[Bool.or_eq_true,decide_eq_true_eq,not_or]
     refine⟨by omega,?_⟩
     have:((bytes*c:Nat):Int)≤281474976710656:=Int.ofNat_le.2 hb48
     rw[Int.natCast_mul]at this
     omega
    have hnot:¬ (((decide ((c:Int)<0)||decide ((bytes:Int)*(c:Int)>2^48))||decide ((l:Int)<0)||decide ((l:Int)>(c:Int)))=true):=by
     rw[Bool.or_eq_true,Bool.or_eq_true,not_or,not_or]
     exact⟨⟨hnot1,by simp⟩,by simp;omega⟩
    by_cases h0:c*i.size=0
    ·refine⟨(Array.range (c*i.size)).map fun k=>(#[]:Array Value)[k%0]!,?_,?_⟩
     ·rw[← zhR,hzl,← hsz,h0]
      simp[zrow]
     ·simp only[Instr.makeSlice,Sem.run_bind,run_underlying hue,Result.andThen_ok,hx,hy,asInt,asIntOf,Sem.run_pure,zdJ w hi,w1,w2,hby]
      rw[if_neg hnot]
      simp only[Sem.run_bind,run_askRoom,Result.andThen_ok,hsize,Int.toNat_natCast]
      rw[if_pos h0]
      simp[newRow]
    ·refine⟨(Array.range (c*i.size)).map fun k=>u.cells[k%u.cells.size]!,?_,?_⟩
     ·rw[zhe,← zhR,hzl,← hsz]
     ·simp only[Instr.makeSlice,Sem.run_bind,run_underlying hue,Result.andThen_ok,hx,hy,asInt,asIntOf,Sem.run_pure,zdJ w hi,w1,w2,hby]
      rw[if_neg hnot]
      simp only[Sem.run_bind,run_askRoom,Result.andThen_ok,hsize,Int.toNat_natCast]
      rw[if_neg h0]
      simp[newRow,zcr w hz0]
   obtain⟨hf,hs'⟩:=zgO (e:=e) (cs:=rep z c) hs (zbH hfr) (arr:=arr) (by rw[ha];exact ziP hc c)
   exact⟨.value (.slice (some ⟨w.heap.size,0,none⟩) l c),_,_,by simp only[execOp,Sem.run_bind,hrun,Result.andThen_ok,Sem.run_pure],.inl rfl,_,_,hf,hs',by simp[conc,Emb.add_self]⟩
theorem zed {c:Call} {a:A} (hok:okB P c a=true):∃b,c.callee=.builtin b∧zcZ P b c.args.toList c.argTypes.toList a=true:=by
 unfold okB at hok
 split at hok<;>try simp at hok
 rename_i b hb
 exact⟨b,hb,hok⟩
theorem zaN {c:Call} {b:Builtin} (hb:c.callee=.builtin b) :
 (execOp ρ ⟨dst,.call c,ty,pos,af,gd⟩).run P w=(builtin b c.argTypes ty (c.args.map fun|.const _=>true|_=>false) (c.args.map ρ)).run P w:=by
 simp only[execOp,resolve,hb,Sem.run_bind,Sem.run_pure,Result.andThen_ok,invoke]
 rfl
theorem arr1 {α:Type} {a:Array α} {x:α} (h:a.toList=[x]):a = #[x]:=by
 apply Array.ext'
 simpa using h
theorem arr2 {α:Type} {a:Array α} {x y:α} (h:a.toList=[x,y]):a = #[x,y]:=by
 apply Array.ext'
 simpa using h
theorem run_lenS {y:X} (hok:okA P op (.lenS y)=true) (hρ:zba R t ρ) (hs:Sim P F R h.get w) (he:evA call (.lenS y) t h=.ok v h') :
 OpRun P F R h w (execOp ρ ⟨dst,op,ty,pos,af,gd⟩) v h':=by
 cases op<;>try exact (Bool.false_ne_true hok).elim
 rename_i c
 obtain⟨b,hb,hk⟩:=zed (show okB P c (.lenS y)=true from hok)
 simp only[zcZ]at hk
 split at hk<;>try simp at hk
 rename_i x t' hx ht
 obtain⟨hxy,hu⟩:=hk
 split at hu<;>try simp at hu
 rename_i hue
 have hx':=hρ x y hxy
 simp only[evA]at he
 split at he<;>simp only[RO.ok.injEq,reduceCtorEq]at he
 rename_i l hy
 obtain⟨rfl,rfl⟩:=he
 rw[hy]at hx'
 obtain⟨hxe,_⟩:=zdD hx'
 refine .plain (x:=.int .i64 (l.length:Int)) hs ?_ (by simp[conc])
 rw[zaN hb,arr1 hx,arr1 ht]
 simp[builtin,Builtin.len_,run_underlying hue,hxe,zbP,goInt]
theorem run_lenL {y:X} (hok:okA P op (.lenL y)=true) (hρ:zba R t ρ) (hs:Sim P F R h.get w) (he:evA call (.lenL y) t h=.ok v h') :
 OpRun P F R h w (execOp ρ ⟨dst,op,ty,pos,af,gd⟩) v h':=by
 cases op<;>try exact (Bool.false_ne_true hok).elim
 rename_i c
 obtain⟨b,hb,hk⟩:=zed (show okB P c (.lenL y)=true from hok)
 simp only[zcZ]at hk
 split at hk<;>try simp at hk
 rename_i x t' hx ht
 obtain⟨hxy,hu⟩:=hk
 split at hu<;>try simp at hu
 rename_i e hue
 have hx':=hρ x y hxy
 simp only[evA]at he
 split at he<;>simp only[RO.ok.injEq,reduceCtorEq]at he<;>rename_i hy<;>(obtain⟨rfl,rfl⟩:=he)<;>rw[hy]at hx'
 ·simp[conc]at hx'
  refine .plain (x:=.int .i64 0) hs ?_ (by simp[conc])
  rw[zaN hb,arr1 hx,arr1 ht]
  simp[builtin,Builtin.len_,run_underlying hue,← hx',goInt]
 ·simp[conc]at hx'
  refine .plain (x:=.int .i64 0) hs ?_ (by simp[conc])
  rw[zaN hb,arr1 hx,arr1 ht]
  simp[builtin,Builtin.len_,run_underlying hue,← hx',goInt]
 ·rename_i n _ _
  obtain⟨cb,sz,cap',hR,hxe,hcc,hg1,hg2⟩:=zci hx'
  refine .plain (x:=.int .i64 (n:Int)) hs ?_ (by simp[conc])
  rw[zaN hb,arr1 hx,arr1 ht]
  simp[builtin,Builtin.len_,run_underlying hue,hxe,goInt]
theorem run_lenC {n:Nat} (hok:okA P op (.lenC n)=true) (hs:Sim P F R h.get w) (he:evA call (.lenC n) t h=.ok v h') :
 OpRun P F R h w (execOp ρ ⟨dst,op,ty,pos,af,gd⟩) v h':=by
 cases op<;>try exact (Bool.false_ne_true hok).elim
 rename_i c
 obtain⟨b,hb,hk⟩:=zed (show okB P c (.lenC n)=true from hok)
 simp only[zcZ]at hk
 split at hk<;>try simp at hk
 rename_i x t' hx ht
 simp only[evA,RO.ok.injEq]at he
 obtain⟨rfl,rfl⟩:=he
 refine .plain (x:=.int .i64 (n:Int)) hs ?_ (by simp[conc])
 rw[zaN hb,arr1 hx,arr1 ht]
 split at hk<;>try simp at hk
 ·rename_i m e hue
  subst hk
  simp[builtin,Builtin.len_,run_underlying hue,goInt]
 ·rename_i a hue
  split at hk<;>try simp at hk
  rename_i m e hua
  subst hk
  simp[builtin,Builtin.len_,run_underlying hue,run_underlying hua,goInt]
theorem zhE:∀{es:List (V × V)} {l:List (Value × Value)},zfq R es=some l→l.length=es.length
 |[],l,hl=>by simp[zfq]at hl;subst hl;rfl
 |(k,v)::es,l,hl=>by
  obtain⟨x,y,w,_,_,h3,rfl⟩:=zdP.1 hl
  simp[zhE h3]
theorem run_lenM {y:X} (hok:okA P op (.lenM y)=true) (hρ:zba R t ρ) (hs:Sim P F R h.get w) (hF:zco F (reads (.lenM y) t)) (he:evA call (.lenM y) t h=.ok v h') :
 OpRun P F R h w (execOp ρ ⟨dst,op,ty,pos,af,gd⟩) v h':=by
 cases op<;>try exact (Bool.false_ne_true hok).elim
 rename_i c
 obtain⟨b,hb,hk⟩:=zed (show okB P c (.lenM y)=true from hok)
 simp only[zcZ]at hk
 split at hk<;>try simp at hk
 rename_i x t' hx ht
 obtain⟨hxy,hu⟩:=hk
 split at hu<;>try simp at hu
 rename_i k e hue
 have hx':=hρ x y hxy
 simp only[evA]at he
 split at he<;>try simp at he
 ·rename_i hy
  obtain⟨rfl,rfl⟩:=he
  rw[hy]at hx'
  simp[conc]at hx'
  refine .plain (x:=.int .i64 0) hs ?_ (by simp[conc])
  rw[zaN hb,arr1 hx,arr1 ht]
  simp[builtin,Builtin.len_,run_underlying hue,← hx',goInt]
 ·rename_i m hy
  split at he<;>simp only[RO.ok.injEq,reduceCtorEq]at he
  rename_i es hg
  obtain⟨rfl,rfl⟩:=he
  rw[hy]at hx'
  simp only[conc,Option.map_eq_some_iff]at hx'
  obtain⟨⟨cb,sz⟩,hR,hxe⟩:=hx'
  obtain⟨arr,ck,h1,h2⟩:=hs.blk m cb sz _ (hF m (by simp[hy,zaU])) hR hg
  have hl:=zhE h2
  refine .plain (x:=.int .i64 (es.length:Int)) hs ?_ (by simp[conc])
  rw[zaN hb,arr1 hx,arr1 ht]
  simp at hl
  simp[builtin,Builtin.len_,run_underlying hue,← hxe,getObj,Sem.run,h1,goInt,hl]
theorem run_mm {g:Bool}:∀(l:List V) (x:V) (xs:List Value) (y:Value),minI g x l=some v→conc R x=some y→zae R l=some xs→(∃k n,x=.i k n) →
 ∃u,(xs.foldlM (if g then Builtin.max2 else Builtin.min2) y).run P w=.ok u w∧conc R v=some u
 |[],x,xs,y,hm,hx,hl,_=>by
  simp[zae]at hl
  subst hl
  simp[minI]at hm
  subst hm
  exact⟨y,by simp,hx⟩
 |z::l,x,xs,y,hm,hx,hl,⟨k,n,hxi⟩=>by
  obtain⟨a,b,h1,h2,rfl⟩:=zah.1 hl
  subst hxi
  simp only[minI]at hm
  split at hm<;>try simp at hm
  rename_i q hq
  unfold mmI at hq
  split at hq<;>simp at hq
  rename_i k1 n1 k2 n2 e1
  simp only[V.i.injEq]at e1
  obtain⟨rfl,rfl⟩:=e1
  obtain rfl:=zdw hx
  obtain rfl:=zdw h1
  subst hq
  obtain⟨u,r1,r2⟩:=run_mm l _ b _ hm (by simp only[conc];rfl) h2 ⟨_,_,rfl⟩
  refine⟨u,?_,r2⟩
  cases g
  ·simp only[Bool.false_eq_true,if_false,List.foldlM_cons,Sem.run_bind,Builtin.min2,Sem.run_pure,Result.andThen_ok]at r1 ⊢
   exact r1
  ·simp only[if_true,List.foldlM_cons,Sem.run_bind,Builtin.max2,Sem.run_pure,Result.andThen_ok,gt_iff_lt]at r1 ⊢
   exact r1
theorem zpT {g:Bool} {xs:List V} {l:List Value} (hm:minL g xs=some v) (hl:zae R xs=some l) (h1:∀x,xs=[x]→∃k n,x=.i k n) :
 ∃y ys u,l=y::ys∧(ys.foldlM (if g then Builtin.max2 else Builtin.min2) y).run P w=.ok u w∧conc R v=some u:=by
 cases xs with
 |nil=>simp[minL]at hm
 |cons x xs=>
  obtain⟨a,b,ha,hb,rfl⟩:=zah.1 hl
  have:∃k n,x=.i k n:=by
   cases xs with
   |nil=>exact h1 x rfl
   |cons y ys=>
    simp only[minL,minI]at hm
    split at hm<;>try simp at hm
    rename_i q hq
    unfold mmI at hq
    split at hq<;>simp at hq
    exact⟨_,_,rfl⟩
  obtain⟨u,r1,r2⟩:=run_mm (P:=P) (w:=w) xs x b a hm ha hb this
  exact⟨a,b,u,rfl,r1,r2⟩
theorem run_min {xs:List X} (hok:okA P op (.min xs)=true) (hρ:zba R t ρ) (hs:Sim P F R h.get w) (he:evA call (.min xs) t h=.ok v h') :
 OpRun P F R h w (execOp ρ ⟨dst,op,ty,pos,af,gd⟩) v h':=by
 cases op<;>try exact (Bool.false_ne_true hok).elim
 rename_i c
 obtain⟨b,hb,hk⟩:=zed (show okB P c (.min xs)=true from hok)
 simp only[zcZ]at hk
 split at hk<;>try simp at hk
 have hl:=zdK hρ _ _ hk
 simp only[evA]at he
 obtain⟨hv,rfl⟩:=zdL he
 have hv2:∃y ys u,c.args.toList.map ρ=y::ys∧(ys.foldlM Builtin.min2 y).run P w=.ok u w∧conc R v=some u:=by
  cases hm:xs.map (X.ev t) with
  |nil=>rw[hm]at hv;simp[minL]at hv
  |cons x l=>
   cases l with
   |nil=>
    rw[hm]at hv hl
    simp[minL,minI]at hv
    subst hv
    obtain⟨a,b',ha,hb',e⟩:=zah.1 hl
    simp[zae]at hb'
    subst hb'
    exact⟨a,[],a,e,by simp,ha⟩
   |cons y l=>
    obtain⟨a,b',u,r1,r2,r3⟩:=zpT (P:=P) (w:=w) hv hl (by rw[hm];intro _ e;simp at e)
    exact⟨a,b',u,r1,by simpa using r2,r3⟩
 obtain⟨y,ys,u,r1,r2,r3⟩:=hv2
 refine .plain (x:=u) hs ?_ r3
 rw[zaN hb]
 simp only[builtin,Builtin.min_,Array.toList_map,r1,Sem.run_bind,r2,Result.andThen_ok,Sem.run_pure]
theorem run_max {xs:List X} (hok:okA P op (.max xs)=true) (hρ:zba R t ρ) (hs:Sim P F R h.get w) (he:evA call (.max xs) t h=.ok v h') :
 OpRun P F R h w (execOp ρ ⟨dst,op,ty,pos,af,gd⟩) v h':=by
 cases op<;>try exact (Bool.false_ne_true hok).elim
 rename_i c
 obtain⟨b,hb,hk⟩:=zed (show okB P c (.max xs)=true from hok)
 simp only[zcZ]at hk
 split at hk<;>try simp at hk
 have hl:=zdK hρ _ _ hk
 simp only[evA]at he
 obtain⟨hv,rfl⟩:=zdL he
 have hv2:∃y ys u,c.args.toList.map ρ=y::ys∧(ys.foldlM Builtin.max2 y).run P w=.ok u w∧conc R v=some u:=by
  cases hm:xs.map (X.ev t) with
  |nil=>rw[hm]at hv;simp[minL]at hv
  |cons x l=>
   cases l with
   |nil=>
    rw[hm]at hv hl
    simp[minL,minI]at hv
    subst hv
    obtain⟨a,b',ha,hb',e⟩:=zah.1 hl
    simp[zae]at hb'
    subst hb'
    exact⟨a,[],a,e,by simp,ha⟩
   |cons y l=>
    obtain⟨a,b',u,r1,r2,r3⟩:=zpT (P:=P) (w:=w) hv hl (by rw[hm];intro _ e;simp at e)
    exact⟨a,b',u,r1,by simpa using r2,r3⟩
 obtain⟨y,ys,u,r1,r2,r3⟩:=hv2
 refine .plain (x:=u) hs ?_ r3
 rw[zaN hb]
 simp only[builtin,Builtin.max_,Array.toList_map,r1,Sem.run_bind,r2,Result.andThen_ok,Sem.run_pure]
theorem zjf {x:V} {u:Value} {n:Nat} (hx:conc R x=some u) (hn:zaT x=some n):(Builtin.lenOf u).run P w=.ok n w:=by
 unfold zaT at hn
 split at hn<;>simp at hn<;>subst hn
 ·simp[conc]at hx;subst hx;simp[Builtin.lenOf]
 ·simp[conc]at hx;subst hx;simp[Builtin.lenOf]
 ·obtain⟨cb,sz,cap',hR,hxe,_⟩:=zci hx
  subst hxe;simp[Builtin.lenOf]
 ·obtain⟨hxe,_⟩:=zdD hx
  subst hxe;simp[Builtin.lenOf,zbP]
theorem zeD {x:V} {u:Value} {esz n:Nat} {l:List V} (hs:Sim P F R h.get w) (hF:∀b,F b) (hx:conc R x=some u) (hc:zat esz n h x=some l) :
 ∃xs,zae R l=some xs∧(Builtin.firstCells esz n u).run P w=.ok xs.toArray w∧xs.length=n*esz:=by
 unfold zat at hc
 split at hc
 ·split at hc<;>simp at hc
  rename_i hn
  subst hc
  simp[conc]at hx
  subst hx
  rw[Nat.beq_eq]at hn
  exact⟨[],by simp[zae],by simp[Builtin.firstCells],by simp[hn]⟩
 ·split at hc<;>simp at hc
  rename_i hn
  subst hc
  simp[conc]at hx
  subst hx
  rw[Nat.beq_eq]at hn
  subst hn
  exact⟨[],by simp[zae],by simp[Builtin.firstCells,loadCells,loadCellsFrom],by simp⟩
 ·rename_i blk off len cap g
  split at hc<;>try simp at hc
  rename_i bl hg
  obtain⟨cb,sz,cap',hR,hxe,_⟩:=zci hx
  obtain⟨us,h1,h2,_,h4⟩:=rd_at hs (hF blk) hR hg hc
  refine⟨us,h1,?_,h2⟩
  subst hxe
  exact h4
 ·rename_i x'
  split at hc
  case isFalse=>simp at hc
  rename_i he1
  rw[Nat.beq_eq]at he1
  obtain⟨hxe,hlt⟩:=zdD hx
  rw[Option.bind_eq_some_iff]at hc
  obtain⟨a,ha,hc⟩:=hc
  obtain⟨_,rfl⟩:=zbh.1 ha
  obtain⟨hle,rfl⟩:=zbh.1 hc
  subst he1 hxe
  have hlen:n≤x'.length:=by simpa using hle
  refine⟨(x'.take n).map fun c:Nat=>Value.int .u8 (c:Int),?_,?_,by simp;omega⟩
  ·have:∀m:List Nat,zae R (m.map fun c=>V.i .u8 (Int.ofNat c))=some (m.map fun c:Nat=>Value.int .u8 (c:Int)):=by
    intro m
    induction m with
    |nil=>simp[zae]
    |cons c m ih=>exact zah.2 ⟨_,_,by simp[conc],ih,rfl⟩
   have e:((x'.map fun c=>V.i .u8 (Int.ofNat c)).drop 0).take x'.length=x'.map fun c=>V.i .u8 (Int.ofNat c):=by
    rw[List.drop_zero,List.take_of_length_le (by simp)]
   rw[e,List.drop_zero,← List.map_take]
   exact this _
  ·simp only[Builtin.firstCells,Sem.run_pure,zde,List.drop_zero,Nat.sub_zero]
   congr 1
   apply Array.ext'
   simp only[zai,Array.toList_map]
   simp only[List.map_map]
   apply List.map_congr_left
   intro c hcm
   have:=hlt c (List.mem_of_mem_take hcm)
   simp
   omega
 ·simp at hc
theorem zlr (m:Nat):∀r c,c≤m+(m+768)/4→Builtin.growBy m r c≤m+(m+768)/4
 |0,c,hc=>by simpa [Builtin.growBy] using hc
 |r+1,c,hc=>by
  simp only[Builtin.growBy]
  split
  ·exact hc
  ·exact zlr m r _ (by omega)
theorem zor {m c:Nat} (hc:c<m):Builtin.nextslicecap m c≤2*m+200:=by
 unfold Builtin.nextslicecap
 split
 ·omega
 ·split
  ·omega
  ·have:=zlr m 4 c (by omega)
   omega
theorem Sim.drew {mem:Nat→Option Blk} (hs:Sim P F R mem w):Sim P F R mem w.drew:=⟨fun b c sz x h1 h2 h3=>by
 have:=hs.blk b c sz x h1 h2 h3
 cases x<;>exact this,hs.inj,hs.lt,hs.fix⟩
theorem zer {st xt e:TypeId} {i:TypeInfo} {z:Value} {d:TypeDesc} {base:Option Addr} {sLen sCap n esz:Nat} {s x:Value} {old new:List Value} {args:Array Value} {ats:Array TypeId}
 (hst:P.underlying st=some (.slice e)) (hxt:P.underlying xt=some d) (hd:∀k,d≠.int k) (hi:P.info? e=some i) (hz:i.zero=some z) (hesz:i.size=esz)
 (hargs:args = #[s,x]) (hats:ats = #[st,xt]) (hse:s=.slice base sLen sCap) (hn:(Builtin.lenOf x).run P w=.ok n w) (hneed:¬ sLen+n≤sCap) (hb:0<i.bytes)
 (hroom:(2*(sLen+n)+200)*i.bytes≤281474976710656) (hold:∀w':World,w'.heap=w.heap→(Builtin.firstCells esz sLen s).run P w'=.ok old.toArray w')
 (hnew:∀w':World,w'.heap=w.heap→(Builtin.firstCells esz n x).run P w'=.ok new.toArray w') :
 ∃newCap rest,sLen+n≤newCap∧rest=(List.replicate (newCap-(sLen+n)) z.cells.toList).flatten ∧
  (Builtin.append_ ats ty args).run P w=.ok (.slice (some ⟨w.heap.size,0,none⟩) (sLen+n) newCap) (w.drew.alloc (.cells (old++new++rest).toArray e)):=by
 subst hargs hats hse
 have hzero:zey P e=some z:=by simp[zey,hi,hz]
 have hsz:∀w':World,(sizeOf e).run P w'=.ok esz w':=fun w'=>zaW w' (by simp[isSz,szT,hi,hesz])
 have hlim:¬ (Builtin.nextslicecap (sLen+n) sCap*i.bytes>2^48):=by
  have h1:=zor (m:=sLen+n) (c:=sCap) (by omega)
  have h2:Builtin.nextslicecap (sLen+n) sCap*i.bytes≤(2*(sLen+n)+200)*i.bytes:=Nat.mul_le_mul_right _ h1
  omega
 let q:Question:=.appendCap (sLen+n) sCap e
 have hq:q.forced=false:=rfl
 have hcut:q.cut (w.tape w.drawn q)=sLen+n+w.tape w.drawn q%(2^63-(sLen+n)):=rfl
 refine⟨q.cut (w.tape w.drawn q),_,by rw[hcut];omega,rfl,?_⟩
 have hint:∀b:Bool,(match d with|.int _=>b|_ => !b) = !b:=by
  intro b
  cases d<;>simp
  exact absurd rfl (hd _)
 have hnz:(match d with|.int _=>true|_=>false)=false:=by
  cases d<;>simp
  exact absurd rfl (hd _)
 simp only[Builtin.append_]
 simp only[List.getElem?_toArray,List.getElem?_cons_zero,List.getElem?_cons_succ,Sem.run_bind,run_underlying hst,Result.andThen_ok,hsz,run_underlying hxt,Sem.run_pure,hnz,Bool.false_eq_true,if_false,hn]
 rw[if_neg hneed]
 have hb0:i.bytes≠0:=by omega
 simp only[zdJ w hi,Sem.run_bind,Result.andThen_ok,false_or,hb0,and_false,if_false]
 rw[if_neg hlim]
 simp only[Sem.run_bind,run_choose,show (Question.appendCap (sLen+n) sCap e).forced=false from rfl,Bool.false_eq_true,if_false,Result.andThen_ok,run_askRoom,zdJ _ hi]
 simp only[World.drew_eq]
 rw[hold w.drew rfl]
 simp only[Result.andThen_ok,Bool.not_false,if_true]
 rw[hnew w.drew rfl]
 simp only[Result.andThen_ok,zcr _ hzero,newRow,Sem.run_bind,run_newObj,Sem.run_pure]
 congr 3
 congr 1
 apply Array.ext'
 simp[zhu]
 rfl
end
end Go.Air
namespace Go.Air
section
variable {P:Program} {F:Nat→Prop} {R:Emb} {h h':H} {w:World} {t:List V} {ρ:Operand→Value} {v:V}
 {dst:Option Tmp} {op:Op} {ty:TypeId} {pos:String} {af:Array Edge} {gd:Option (Nat × Bool)} {call:V→List V→H→RO}
theorem zfp {st xt e:TypeId} {d:TypeDesc} {base:Option Addr} {sLen sCap n esz:Nat} {s x:Value} {new:List Value} {args:Array Value} {ats:Array TypeId} {w':World}
 (hst:P.underlying st=some (.slice e)) (hxt:P.underlying xt=some d) (hd:∀k,d≠.int k) (hsz:isSz P e esz=true)
 (hargs:args = #[s,x]) (hats:ats = #[st,xt]) (hse:s=.slice base sLen sCap) (hn:(Builtin.lenOf x).run P w=.ok n w) (hneed:sLen+n≤sCap)
 (hnew:(Builtin.firstCells esz n x).run P w=.ok new.toArray w)
 (hb:(∃a,base=some a∧(storeCells (a.add (sLen*esz)) new).run P w=.ok () w')∨(base=none∧w'=w)) :
 (Builtin.append_ ats ty args).run P w=.ok (.slice base (sLen+n) sCap) w':=by
 subst hargs hats hse
 have hs:(sizeOf e).run P w=.ok esz w:=zaW w hsz
 have hnz:(match d with|.int _=>true|_=>false)=false:=by
  cases d<;>simp
  exact absurd rfl (hd _)
 simp only[Builtin.append_]
 simp only[List.getElem?_toArray,List.getElem?_cons_zero,List.getElem?_cons_succ,Sem.run_bind,run_underlying hst,Result.andThen_ok,hs,run_underlying hxt,Sem.run_pure,hnz,Bool.false_eq_true,if_false,hn]
 rw[if_pos hneed]
 simp only[Bool.not_false,if_true,Sem.run_bind,hnew,Result.andThen_ok]
 rcases hb with⟨a,rfl,hr⟩|⟨rfl,rfl⟩
 ·simp only[Sem.run_bind,hr,Result.andThen_ok,Sem.run_pure]
 ·simp
theorem zhP {esz n:Nat} {x:V} {u:Value} {l:List V} (hs:Sim P F R h.get w) (hF:∀b,F b) (hx:conc R x=some u) (hc:zat esz n h x=some l) :
 ∃xs,zae R l=some xs∧xs.length=n*esz∧∀w':World,w'.heap=w.heap→(Builtin.firstCells esz n u).run P w'=.ok xs.toArray w':=by
 obtain⟨xs,h1,h2,h3⟩:=zeD hs hF hx hc
 refine⟨xs,h1,h3,fun w' hw' => ?_⟩
 have hs':Sim P F R h.get w':=⟨fun b c sz x q1 q2 q3=>(hs.blk b c sz x q1 q2 q3).mono P R.le_refl (by rw[hw']),hs.inj,fun b c sz q=>by rw[hw'];exact hs.lt b c sz q,hs.fix⟩
 obtain⟨xs',h1',h2',_⟩:=zeD hs' hF hx hc
 rw[h1]at h1'
 cases h1'
 exact h2'
theorem H.get_kn (h:H) (b:Nat) (x:Blk) (y:Nat):((h.kill b).new x).get y=if y=h.next then some x else if y=b then none else h.get y:=by
 rw[H.get_new,H.get_kill];rfl
theorem Fwd.undrew {R':Emb} {w':World} {l:List Nat} (f:Fwd R R' h h' w.drew w' l):Fwd R R' h h' w w' l:=⟨f.le,f.log,f.nx,f.size,f.new,f.same,f.frame,f.own,f.io⟩
theorem zqb {b:Nat} {z:Nat × Nat} {y:Blk} (hs:Sim P F R h.get w) (hb:R b=some z) (hy:h.get b=some y):Fwd R R h (h.kill b) w w [b]∧Sim P F R (h.kill b).get w:=by
 refine⟨⟨R.le_refl,rfl,by simp,Nat.le_refl _,fun _ _ _ h=>.inl h,?_,fun _ _ _=>rfl,fun d hd=>.inr (by simp at hd;subst hd;exact⟨⟨_,hb⟩,fun _=>⟨_,hy⟩⟩),.refl w⟩,⟨?_,?_,hs.lt,hs.fix⟩⟩
 ·intro x _ hx
  rw[H.get_kill,if_neg (by simpa using hx)]
 ·intro x c sz y hF hx hy
  rw[H.get_kill]at hy
  split at hy<;>try simp at hy
  exact hs.blk x c sz y hF hx hy
 ·intro x x' c s s' y y' h1 h2 hx hx' hy hy'
  rw[H.get_kill]at hy hy'
  split at hy<;>try simp at hy
  split at hy'<;>try simp at hy'
  exact hs.inj x x' c s s' y y' h1 h2 hx hx' hy hy'
theorem zmv {b c sz:Nat} {cs new:List V} {xs:List Value} {k:Nat} (hs:Sim P F R h.get w) (hF:∀b,F b) (hb:R b=some (c,sz)) (hg:h.get b=some (.cells cs)) (hk:k≤cs.length)
 (hlen:k+new.length≤sz) (hone:∀v∈new,v.oneCell=true) (hv:zae R new=some xs) (hf:R h.next=none) :
 ∃w',(storeCells ⟨c,k,none⟩ xs).run P w=.ok () w'∧Fwd R (R.add h.next (c,sz)) h ((h.kill b).new (.cells (cs.take k++new))) w w' [b] ∧
  Sim P F (R.add h.next (c,sz)) ((h.kill b).new (.cells (cs.take k++new))).get w':=by
 obtain⟨arr,e,ys,rest,h1,h2,h3,h4⟩:=zha hs (hF b) hb hg
 have e1:=zan h2
 have e2:=zan hv
 have e3:arr.toList.length=arr.size:=Array.length_toList
 have e4:arr.toList.length=ys.length+rest.length:=by rw[h3];simp
 obtain⟨w',arr',r1,r2,r3,r4,r5,rio⟩:=zcd (P:=P) (o:=k) xs 0 w arr h4 h1 (by omega) (ziM hv hone)
 have hle:R.le (R.add h.next (c,sz)):=Emb.le_add hf
 have hbn:b≠h.next:=by intro e;rw[e,hf]at hb;cases hb
 refine⟨w',r1,⟨hle,rfl,by simp,by omega,?_,?_,?_,fun d hd=>.inr (by simp at hd;subst hd;exact⟨⟨_,hb⟩,fun _=>⟨_,hg⟩⟩),rio⟩,⟨?_,?_,?_,hs.fix.le hle⟩⟩
 ·intro x c' s' hx
  simp only[Emb.add]at hx
  split at hx
  ·rename_i e;subst e
   simp only[Option.some.injEq,Prod.mk.injEq]at hx
   obtain⟨rfl,rfl⟩:=hx
   exact .inr ⟨Nat.le_refl _,by simp,.inr ⟨b,sz,hb,by simp⟩⟩
  ·exact .inl hx
 ·intro x hx hxl
  rw[H.get_kn,if_neg (by omega),if_neg (by simpa using hxl)]
 ·intro d _ hl
  exact r3 d (fun e=>hl b sz (e▸hb) (by simp))
 ·intro x c' s' y hFx hx hy
  simp only[Emb.add]at hx
  rw[H.get_kn]at hy
  split at hx
  ·rename_i e;subst e
   rw[if_pos rfl]at hy
   simp only[Option.some.injEq,Prod.mk.injEq]at hx hy
   obtain⟨rfl,rfl⟩:=hx
   subst hy
   refine⟨arr',e,ys.take k++xs,arr.toList.drop (k+xs.length),r4,zav hle _ _ (zaw (zbd k h2) hv),?_,?_⟩
   ·rw[r5,h3]
    simp only[Nat.add_zero]
    rw[List.take_append_of_le_length (by omega)]
   ·have:arr'.toList.length=arr'.size:=Array.length_toList
    rw[r5]at this
    simp at this
    omega
  ·rename_i ne
   rw[if_neg ne]at hy
   split at hy<;>try simp at hy
   rename_i ne2
   refine (hs.blk x c' s' y hFx hx hy).mono P hle (r3 c' ?_)
   intro ee;subst ee
   exact ne2 (hs.inj x b c' s' sz y _ hFx (hF b) hx hb hy hg)
 ·intro x x' c' s1 s2 y y' hF1 hF2 hx hx' hy hy'
  simp only[Emb.add]at hx hx'
  rw[H.get_kn]at hy hy'
  split at hx<;>split at hx'
  ·rename_i e1 e2;rw[e1,e2]
  ·rename_i e1 ne
   rw[if_neg ne]at hy'
   split at hy'<;>try simp at hy'
   rename_i ne2
   simp only[Option.some.injEq,Prod.mk.injEq]at hx
   obtain⟨rfl,rfl⟩:=hx
   exact absurd (hs.inj x' b c s2 sz y' _ hF2 (hF b) hx' hb hy' hg) ne2
  ·rename_i ne e1
   rw[if_neg ne]at hy
   split at hy<;>try simp at hy
   rename_i ne2
   simp only[Option.some.injEq,Prod.mk.injEq]at hx'
   obtain⟨rfl,rfl⟩:=hx'
   exact absurd (hs.inj x b c s1 sz y _ hF1 (hF b) hx hb hy hg) ne2
  ·rename_i n1 n2
   rw[if_neg n1]at hy
   rw[if_neg n2]at hy'
   split at hy<;>try simp at hy
   split at hy'<;>try simp at hy'
   exact hs.inj x x' c' s1 s2 y y' hF1 hF2 hx hx' hy hy'
 ·intro x c' s' hx
  simp only[Emb.add]at hx
  split at hx
  ·simp only[Option.some.injEq,Prod.mk.injEq]at hx
   have:=hs.lt b c sz hb
   omega
  ·have:=hs.lt x c' s' hx
   omega
theorem beq3 {a b c:Bool} (hh:(a&&b&&c)=true):a=true∧b=true∧c=true:=by
 cases a<;>cases b<;>cases c<;>simp_all
theorem run_app {esz bytes:Nat} {a b:X} (hok:okA P op (.app esz bytes a b)=true) (hρ:zba R t ρ) (hs:Sim P F R h.get w) (hF:zco F (reads (.app esz bytes a b) t)) (hfr:Fresh R h h')
 (he:evA call (.app esz bytes a b) t h=.ok v h'):OpRun P F R h w (execOp ρ ⟨dst,op,ty,pos,af,gd⟩) v h':=by
 cases op<;>try exact (Bool.false_ne_true hok).elim
 rename_i c
 obtain⟨bt,hb,hk⟩:=zed (show okB P c (.app esz bytes a b)=true from hok)
 simp only[zcZ]at hk
 split at hk
 case h_2=>simp at hk
 rename_i s' x' st xt hargs hats
 rw[Bool.and_eq_true,Bool.and_eq_true]at hk
 obtain⟨⟨hsa,hxb⟩,hk⟩:=hk
 split at hk
 case h_2=>simp at hk
 rename_i e d hst hxt
 rw[Bool.and_eq_true]at hk
 obtain⟨hd,hk⟩:=hk
 have hd':∀k,d≠.int k:=by
  intro k hk
  subst hk
  simp at hd
 cases hi:P.info? e with
 |none=>simp[hi]at hk
 |some i=>
  simp only[hi,Bool.and_eq_true,Nat.beq_eq]at hk
  obtain⟨⟨rfl,rfl⟩,hz⟩:=hk
  cases hzv:i.zero with
  |none=>simp[hzv]at hz
  |some z=>
   simp only[hzv,Nat.beq_eq]at hz
   have hsz:isSz P e i.size=true:=by simp[isSz,szT,hi]
   have hSv:=hρ s' a hsa
   have hXv:=hρ x' b hxb
   have hA:∀b,F b:=hF
   have hrun:∀u w',(Builtin.append_ c.argTypes ty (c.args.map ρ)).run P w=.ok u w'→(execOp ρ ⟨dst,.call c,ty,pos,af,gd⟩).run P w=.ok (.value u) w':=by
    intro u w' hu
    rw[zaN hb]
    simp only[builtin,Sem.run_bind,hu,Result.andThen_ok,Sem.run_pure]
   have hmap:c.args.map ρ = #[ρ s',ρ x']:=by rw[arr2 hargs];simp
   have hats':=arr2 hats
   simp only[evA]at he
   generalize a.ev t=S at *
   generalize b.ev t=X' at *
   unfold zaX at he
   cases hn:zaT X' with
   |none=>simp[hn]at he
   |some n=>
    simp only[hn]at he
    cases hc:zat i.size n h X' with
    |none=>simp[hc]at he
    |some new=>
     simp only[hc]at he
     obtain⟨xs,hxs,hxl,hfirst⟩:=zhP hs hA hXv hc
     have hnl:=zan hxs
     have hnlen:=zjf (P:=P) (w:=w) hXv hn
     split at he
     case isFalse=>simp at he
     rename_i hlim
     obtain⟨hlim,hb0,he0⟩:=beq3 hlim
     rw[Nat.ble_eq]at hlim
     rw[Nat.blt_eq]at hb0 he0
     cases S with
     |sn=>
      simp only at he
      simp[conc]at hSv
      split at he<;>simp only[RO.ok.injEq]at he<;>rename_i hn0
      ·obtain⟨rfl,rfl⟩:=he
       rw[Nat.beq_eq]at hn0
       subst hn0
       refine⟨_,_,w,hrun _ _ (zfp (new:=xs) (w':=w) hst hxt hd' hsz hmap hats' hSv.symm hnlen (by omega) (hfirst w rfl) (.inr ⟨rfl,rfl⟩)),.inl rfl,.same hs (by simp[conc])⟩
      ·obtain⟨rfl,rfl⟩:=he
       have hn0:n≠0:=by simpa using hn0
       obtain⟨newCap,rest,hcap,hrest,hr⟩:=zer (ty:=ty) (old:=[]) (new:=xs) hst hxt hd' hi hzv rfl hmap hats' hSv.symm hnlen (by omega) hb0 (by simpa using hlim)
        (fun w' _=>by rw[← hSv];simp[Builtin.firstCells]) hfirst
       have hrl:rest.length=(newCap-n)*i.size:=by rw[hrest];simp[hz]
       have hsize:([]++xs++rest).toArray.size=newCap*i.size:=by
        simp only[List.size_toArray,List.length_append,List.length_nil,hxl,hrl]
        rw[Nat.zero_add,← Nat.add_mul]
        congr 1
        omega
       obtain⟨hf,hs'⟩:=zds (x:=.cells new) (sz:=newCap*i.size) (o:=.cells ([]++xs++rest).toArray e) (Sim.drew hs) (zbH hfr)
        (fun w' hw'=>⟨_,Fr.none _ e,xs,rest,hw',zav (Emb.le_add (zbH hfr)) _ _ hxs,by simp,hsize⟩)
       refine⟨_,_,_,hrun _ _ hr,.inl rfl,_,_,hf.undrew,hs',?_⟩
       simp only[Nat.zero_add]at hcap ⊢
       simp only[conc,Emb.add_self,Option.bind_some]
       rw[if_pos ⟨by rw[Nat.zero_add];exact Nat.mul_le_mul_right _ hcap,he0⟩]
       simp[Nat.mul_div_cancel _ he0]
     |se ad=>
      simp only at he
      simp[conc]at hSv
      split at he<;>simp only[RO.ok.injEq]at he<;>rename_i hn0
      ·obtain⟨rfl,rfl⟩:=he
       rw[Nat.beq_eq]at hn0
       subst hn0
       have hx0:xs=[]:=List.eq_nil_of_length_eq_zero (by rw[hxl];simp)
       subst hx0
       refine⟨_,_,w,hrun _ _ (zfp (new:=[]) (w':=w) hst hxt hd' hsz hmap hats' hSv.symm hnlen (by omega) (hfirst w rfl) (.inl ⟨_,rfl,by simp[storeCells]⟩)),.inl rfl,.same hs (by simp[conc])⟩
      ·obtain⟨rfl,rfl⟩:=he
       have hn0:n≠0:=by simpa using hn0
       obtain⟨newCap,rest,hcap,hrest,hr⟩:=zer (ty:=ty) (old:=[]) (new:=xs) hst hxt hd' hi hzv rfl hmap hats' hSv.symm hnlen (by omega) hb0 (by simpa using hlim)
        (fun w' _=>by rw[← hSv];simp[Builtin.firstCells,loadCells,loadCellsFrom]) hfirst
       have hrl:rest.length=(newCap-n)*i.size:=by rw[hrest];simp[hz]
       have hsize:([]++xs++rest).toArray.size=newCap*i.size:=by
        simp only[List.size_toArray,List.length_append,List.length_nil,hxl,hrl]
        rw[Nat.zero_add,← Nat.add_mul]
        congr 1
        omega
       obtain⟨hf,hs'⟩:=zds (x:=.cells new) (sz:=newCap*i.size) (o:=.cells ([]++xs++rest).toArray e) (Sim.drew hs) (zbH hfr)
        (fun w' hw'=>⟨_,Fr.none _ e,xs,rest,hw',zav (Emb.le_add (zbH hfr)) _ _ hxs,by simp,hsize⟩)
       refine⟨_,_,_,hrun _ _ hr,.inl rfl,_,_,hf.undrew,hs',?_⟩
       simp only[Nat.zero_add]at hcap ⊢
       simp only[conc,Emb.add_self,Option.bind_some]
       rw[if_pos ⟨by rw[Nat.zero_add];exact Nat.mul_le_mul_right _ hcap,he0⟩]
       simp[Nat.mul_div_cancel _ he0]
     |sl blk off len cap g=>
      simp only at he
      obtain⟨cb,sz,cap',hR,hxe,hcc,hg1,hg2⟩:=zci hSv
      split at he
      ·rename_i hfit
       rw[Nat.ble_eq]at hfit
       split at he<;>simp only[RO.ok.injEq,reduceCtorEq]at he
       rename_i h1 hst'
       obtain⟨rfl,rfl⟩:=he
       obtain⟨w',r1,hf,hs'⟩:=zfc hs (hA blk) hR hst' hxs
       refine⟨_,_,w',hrun _ _ (zfp (new:=xs) (w':=w') hst hxt hd' hsz hmap hats' hxe hnlen (by omega) (hfirst w rfl) (.inl ⟨_,rfl,by rw[zbW];exact r1⟩)),.inl rfl,_,_,hf,hs',?_⟩
       cases g with
       |none=>obtain rfl:=hg1 rfl;simp[conc,hR]
       |some g=>
        obtain⟨q1,q2,q3⟩:=hg2 g rfl
        simp only[conc,hR,Option.bind_some]
        rw[if_pos ⟨q2,q3⟩,q1]
      ·rename_i hfit
       rw[Nat.ble_eq]at hfit
       split at he
       case isFalse=>simp at he
       rename_i hlim2
       rw[Nat.ble_eq]at hlim2
       have grow:∀(oldV:List V) (oldX:List Value),zae R oldV=some oldX→oldX.length=len*i.size →
        (∀w':World,w'.heap=w.heap→(Builtin.firstCells i.size len (ρ s')).run P w'=.ok oldX.toArray w') →
        cap'<len+n→v=.sl h.next 0 (len+n) (len+n) (some i.size)→∀h1:H,Fresh R h h1→h1=h.new (.cells (oldV++new)) →
        OpRun P F R h w (execOp ρ ⟨dst,.call c,ty,pos,af,gd⟩) v h1:=by
        intro oldV oldX hoc hol hofirst hlt hv h1 hfr1 hh1
        subst hh1 hv
        obtain⟨newCap,rest,hcap,hrest,hr⟩:=zer (ty:=ty) (new:=xs) hst hxt hd' hi hzv rfl hmap hats' hxe hnlen (by omega) hb0 hlim2 hofirst hfirst
        have hrl:rest.length=(newCap-(len+n))*i.size:=by rw[hrest];simp[hz]
        have hsize:(oldX++xs++rest).toArray.size=newCap*i.size:=by
         simp only[List.size_toArray,List.length_append,hol,hxl,hrl]
         rw[← Nat.add_mul,← Nat.add_mul]
         congr 1
         omega
        obtain⟨hf,hs'⟩:=zds (x:=.cells (oldV++new)) (sz:=newCap*i.size) (o:=.cells (oldX++xs++rest).toArray e) (Sim.drew hs) (zbH hfr1)
         (fun w' hw'=>⟨_,Fr.none _ e,oldX++xs,rest,hw',zav (Emb.le_add (zbH hfr1)) _ _ (zaw hoc hxs),by simp,hsize⟩)
        refine⟨_,_,_,hrun _ _ hr,.inl rfl,_,_,hf.undrew,hs',?_⟩
        simp only[conc,Emb.add_self,Option.bind_some]
        rw[if_pos ⟨by rw[Nat.zero_add];exact Nat.mul_le_mul_right _ hcap,he0⟩]
        simp[Nat.mul_div_cancel _ he0]
       cases g with
       |none=>
        simp only at he
        split at he
        case h_2=>simp at he
        rename_i bl hg
        split at he
        ·simp at he
        rename_i old hold
        simp only[RO.ok.injEq]at he
        obtain⟨hv,rfl⟩:=he
        obtain rfl:=hg1 rfl
        obtain⟨us,u1,u2,u3,_⟩:=rd_at hs (hA blk) hR hg hold
        refine grow old us u1 u2 ?_ (by omega) hv.symm _ hfr rfl
        intro w' hw'
        rw[hxe]
        have:=run_loadCells_list (P:=P) w' ⟨cb,off,none⟩ us (fun j v hj=>by
         rw[zbW]
         have:=u3 j v hj
         simp only[World.cell?,hw']at this ⊢
         exact this)
        rw[u2]at this
        exact this
       |some g=>
        simp only at he
        split at he
        case h_2=>simp at he
        rename_i cs hg
        split at he
        ·simp at he
        rename_i old hold
        obtain⟨hle,rfl⟩:=zbh.1 hold
        obtain⟨arr,e',vs,rst,q1,q2,q3,q4⟩:=zha hs (hA blk) hR hg
        have hvl:=zan q2
        have hofirst:∀w':World,w'.heap=w.heap→(Builtin.firstCells i.size len (ρ s')).run P w'=.ok ((vs.drop off).take (len*i.size)).toArray w':=by
         intro w' hw'
         rw[hxe]
         exact zet (by rw[hw'];exact q1) q3 (by omega)
        have hoc:zae R ((cs.drop off).take (len*i.size))=some ((vs.drop off).take (len*i.size)):=zbd _ (zbl _ q2)
        have hol:((vs.drop off).take (len*i.size)).length=len*i.size:=by simp;omega
        split at he
        case isFalse=>simp at he
        rename_i hg3
        rw[Bool.and_eq_true]at hg3
        obtain⟨hg3,hone⟩:=hg3
        obtain⟨g1,g2,g3⟩:=beq3 hg3
        rw[Nat.beq_eq]at g1 g2 g3
        rw[List.all_eq_true]at hone
        simp only[RO.ok.injEq]at he
        obtain⟨hv,rfl⟩:=he
        obtain⟨p1,p2,p3⟩:=hg2 g rfl
        subst g1 g2
        have hfn:R h.next=none:=hfr h.next (Nat.le_refl _) (by simp)
        simp only[List.drop_zero,Nat.zero_add,Nat.sub_zero]at *
        by_cases hroom:len+n≤cap'
        ·have hmul:(len+n)*i.size≤sz:=by
          have h1:(len+n)*i.size≤cap'*i.size:=Nat.mul_le_mul_right _ hroom
          have h2:cap'*i.size≤sz:=by rw[p1];exact Nat.div_mul_le_self _ _
          omega
         rw[Nat.add_mul]at hmul
         obtain⟨w',r1,hf,hs'⟩:=zmv (k:=len*i.size) hs hA hR hg (by omega) (by omega) hone hxs hfn
         refine⟨_,_,w',hrun _ _ (zfp (new:=xs) (w':=w') hst hxt hd' hsz hmap hats' hxe hnlen hroom (hfirst w rfl) (.inl ⟨_,rfl,by rw[zbW,Nat.zero_add];exact r1⟩)),.inl rfl,_,_,hf,hs',?_⟩
         subst hv
         simp only[conc,Emb.add_self,Option.bind_some,Nat.zero_add,Nat.sub_zero]
         rw[if_pos ⟨by rw[Nat.add_mul];omega,p3⟩,p1]
        ·obtain⟨newCap,rest,hcap,hrest,hr⟩:=zer (ty:=ty) (new:=xs) hst hxt hd' hi hzv rfl hmap hats' hxe hnlen hroom hb0 hlim2 hofirst hfirst
         have hrl:rest.length=(newCap-(len+n))*i.size:=by rw[hrest];simp[hz]
         have hsize:(vs.take (len*i.size)++xs++rest).toArray.size=newCap*i.size:=by
          simp only[List.size_toArray,List.length_append,hol,hxl,hrl]
          rw[← Nat.add_mul,← Nat.add_mul]
          congr 1
          omega
         obtain⟨hfk,hsk⟩:=zqb (b:=blk) hs hR hg
         obtain⟨hf,hs'⟩:=zds (h:=h.kill blk) (x:=.cells (cs.take (len*i.size)++new)) (sz:=newCap*i.size) (o:=.cells (vs.take (len*i.size)++xs++rest).toArray e) (Sim.drew hsk) hfn
          (fun w' hw'=>⟨_,Fr.none _ e,vs.take (len*i.size)++xs,rest,hw',zav (Emb.le_add hfn) _ _ (zaw hoc hxs),by simp,hsize⟩)
         refine⟨_,_,_,hrun _ _ hr,.inl rfl,_,_,hfk.trans hf.undrew,hs',?_⟩
         subst hv
         simp only[conc]
         rw[show (R.add (h.kill blk).next (w.drew.heap.size,newCap*i.size)) h.next=some (w.drew.heap.size,newCap*i.size) from Emb.add_self]
         simp only[Option.bind_some]
         rw[if_pos ⟨by rw[Nat.zero_add];exact Nat.mul_le_mul_right _ hcap,he0⟩]
         simp[Nat.mul_div_cancel _ he0]
     |_=>simp at he
theorem run_cpy {esz:Nat} {a b:X} (hok:okA P op (.cpy esz a b)=true) (hρ:zba R t ρ) (hs:Sim P F R h.get w) (hF:zco F (reads (.cpy esz a b) t))
 (he:evA call (.cpy esz a b) t h=.ok v h'):OpRun P F R h w (execOp ρ ⟨dst,op,ty,pos,af,gd⟩) v h':=by
 cases op<;>try exact (Bool.false_ne_true hok).elim
 rename_i c
 obtain⟨bt,hb,hk⟩:=zed (show okB P c (.cpy esz a b)=true from hok)
 simp only[zcZ]at hk
 split at hk
 case h_2=>simp at hk
 rename_i d' s' dt ats hargs hats
 rw[Bool.and_eq_true,Bool.and_eq_true]at hk
 obtain⟨⟨hda,hsb⟩,hk⟩:=hk
 split at hk
 case h_2=>simp at hk
 rename_i e hdt
 have hD:=hρ d' a hda
 have hS:=hρ s' b hsb
 have hA:∀b,F b:=hF
 have hmap:c.args.map ρ = #[ρ d',ρ s']:=by rw[arr2 hargs];simp
 have hat:c.argTypes[0]? = some dt:=by rw[← Array.getElem?_toList,hats];rfl
 simp only[evA]at he
 generalize a.ev t=D at *
 generalize b.ev t=S at *
 unfold zlT at he
 cases hn:zaT S with
 |none=>simp[hn]at he
 |some m=>
  simp only[hn]at he
  have hl:=zjf (P:=P) (w:=w) hS hn
  have hsz:=zaW w hk
  cases D with
  |sn=>
   simp only[RO.ok.injEq]at he
   obtain⟨rfl,rfl⟩:=he
   simp[conc]at hD
   have hfc:(Builtin.firstCells esz 0 (ρ s')).run P w=.ok #[] w:=by
    unfold zaT at hn
    split at hn<;>simp at hn
    ·simp[conc]at hS;rw[← hS];simp[Builtin.firstCells]
    ·simp[conc]at hS;rw[← hS];simp[Builtin.firstCells,loadCells,loadCellsFrom]
    ·obtain⟨cb,sz,cap',hR,hxe,_⟩:=zci hS
     rw[hxe];simp[Builtin.firstCells,loadCells,loadCellsFrom]
    ·obtain⟨hxe,_⟩:=zdD hS
     rw[hxe]
     simp[Builtin.firstCells,zde,zai]
   refine .plain (x:=.int .i64 0) hs ?_ (by simp[conc])
   rw[zaN hb]
   simp[builtin,Builtin.copy_,hmap,hat,run_underlying hdt,← hD,hl,hsz,hfc,goInt]
  |sl blk off len cap g=>
   simp only at he
   obtain⟨cb,sz,cap',hR,hxe,hcc,hg1,hg2⟩:=zci hD
   split at he
   ·simp at he
   rename_i l hl'
   obtain⟨xs,h1,h2,h3⟩:=zeD (P:=P) hs hA hS hl'
   split at he<;>simp only[RO.ok.injEq,reduceCtorEq]at he
   rename_i h1' hst
   obtain⟨rfl,rfl⟩:=he
   obtain⟨w',r1,hf,hs'⟩:=zfc hs (hA blk) hR hst h1
   refine⟨.value (.int .i64 (Nat.min m len:Int)),_,w',?_,.inl rfl,_,_,hf,hs',by simp[conc]⟩
   rw[zaN hb]
   simp[builtin,Builtin.copy_,hmap,hat,run_underlying hdt,hxe,hl,hsz,h2,r1,goInt]
  |_=>simp at he
theorem run_clr {z:List V} {a:X} (hok:okA P op (.clr z a)=true) (hρ:zba R t ρ) (hs:Sim P F R h.get w) (hF:zco F (reads (.clr z a) t))
 (he:evA call (.clr z a) t h=.ok v h'):OpRun P F R h w (execOp ρ ⟨dst,op,ty,pos,af,gd⟩) v h':=by
 cases op<;>try exact (Bool.false_ne_true hok).elim
 rename_i c
 obtain⟨bt,hb,hk⟩:=zed (show okB P c (.clr z a)=true from hok)
 simp only[zcZ]at hk
 split at hk
 case h_2=>simp at hk
 rename_i x t' hargs hats
 rw[Bool.and_eq_true]at hk
 obtain⟨hxa,hk⟩:=hk
 split at hk
 case h_2=>simp at hk
 rename_i e hdt
 unfold okZ at hk
 cases hz:zey P e with
 |none=>simp[hz]at hk
 |some u=>
  simp only[hz]at hk
  have hc:=zbq R z _ hk
  have hX:=hρ x a hxa
  simp only[evA]at he
  generalize a.ev t=S at *
  cases S with
  |sn=>
   simp only[RO.ok.injEq]at he
   obtain⟨rfl,rfl⟩:=he
   simp[conc]at hX
   refine .plain (x:=.tuple #[]) hs ?_ (zbk R)
   rw[zaN hb,arr1 hargs,arr1 hats]
   simp[builtin,Builtin.clear_,run_underlying hdt,← hX]
  |sl blk off len cap g=>
   simp only at he
   obtain⟨cb,sz,cap',hR,hxe,hcc,hg1,hg2⟩:=zci hX
   split at he
   ·rename_i h0
    rw[Nat.beq_eq]at h0
    subst h0
    simp only[RO.ok.injEq]at he
    obtain⟨rfl,rfl⟩:=he
    refine .plain (x:=.tuple #[]) hs ?_ (zbk R)
    rw[zaN hb,arr1 hargs,arr1 hats]
    simp[builtin,Builtin.clear_,run_underlying hdt,hxe]
   ·rename_i h0
    have h0:len≠0:=by simpa using h0
    split at he<;>simp only[RO.ok.injEq,reduceCtorEq]at he
    rename_i h1' hst
    obtain⟨rfl,rfl⟩:=he
    obtain⟨w',r1,hf,hs'⟩:=zfc hs (hF blk) hR hst (ziP hc len)
    refine⟨.value (.tuple #[]),_,w',?_,.inl rfl,_,_,hf,hs',zbk R⟩
    rw[zaN hb,arr1 hargs,arr1 hats]
    cases len with
    |zero=>exact absurd rfl h0
    |succ len=>simp[builtin,Builtin.clear_,run_underlying hdt,hxe,zcr w hz,zhu,r1]
  |_=>simp at he
end
end Go.Air
