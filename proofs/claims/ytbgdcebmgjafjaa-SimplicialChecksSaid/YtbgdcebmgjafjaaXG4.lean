/- Texts of this claim, one after the other: Code, U1, T100, T101, T102, T103, T104, T105, T108, U2s, U3s, U4s, U5s, U6s, U7s, U8s, U9s, U10s, U11s, U12s, U13s, U2p, U3p, U4p, U5p, U6p, U7p, U8p, U10p, U12p, U13p, T106, T109, T110, T111, T112, T113, T107, T114, T115, T116, T117, A33, T150, T118, T121. -/
import Derived.Test.YtbgdcebmgjafjaaProg
import Derived.Test.YtbgdcebmgjafjaaXG3
import Derived.KernelRfl
import Derived.Test.YtbgdcebmgjafjaaRows
import Derived.WalkKit
import Derived.ProofKit
import Derived.OpenShut

set_option linter.unusedSimpArgs false
set_option linter.unusedVariables false
namespace Go.Proofs.Ytbgdcebmgjafjaa
open Go Go.Abs Go.Abs.C2 Go.Abs.Ins Go.Abs.Opd Go.Abs.TK Go.Abs.MK
def cO (d:Nat) (i:Ins):Op2:=Op2.mk (some d) none i
def cG (d g:Nat) (b:Bool) (i:Ins):Op2:=Op2.mk (some d) (some (g,b)) i
def cN (k:Int):Opd:=Opd.c (AV.int IntKind.i64 k)
def cM (n:Nat):Ins:=Ins.mov (Opd.t n)
def cD (n:Nat):Ins:=Ins.ld1 (Opd.t n)
def cF (n:Nat):Opd:=Opd.c (AV.func n [])
def cB (o:BinOp) (x y:Opd):Ins:=Ins.bin o false false x y
def an:Opd:=Opd.c (AV.bool false)
def bt:Opd:=Opd.c (AV.bool true)
theorem follows:Try.prog.follows .mixedOrders=true:=by rfl
def b3:F2:=(F2.mk 43 [RV.t 4] ((ops 0 [cO 2 (box (t 0)),cO 3 (box (t 1)),cO 4 (mov an)]).seq (((ops 0 [cO 9 (ldn 2 (t 2)),cO 10 (call (cF 5) [t 9]),cO 11 (un UnOp.not (t 10))]).seq (C2.cond (t 11) ((ops 0 [cO 12 (call (cF 6) []),cO 4 (cM 12)]).seq ret) skip)).seq ((ops 0 [cO 14 (ldn 2 (t 2)),cO 15 (ldn 2 (t 3)),cO 16 (call (cF 7) [t 14,t 15]),cO 13 (cM 16),cO 17 (ext (t 13) 0),cO 18 (ext (t 13) 1),cO 5 (alloc (AV.agg [AV.int IntKind.i64 (0),AV.int IntKind.i64 (0)])),Op2.mk none none (Ins.st 2 (t 5) (t 17)),cO 6 (cM 18)]).seq ((ops 0 [cO 20 (ldn 2 (t 2)),cO 21 (ldn 2 (t 3)),cO 22 (call (cF 8) [t 20,t 21]),cO 19 (cM 22),cO 23 (ext (t 19) 0),cO 24 (ext (t 19) 1),cO 7 (alloc (AV.agg [AV.int IntKind.i64 (0),AV.int IntKind.i64 (0)])),Op2.mk none none (Ins.st 2 (t 7) (t 23)),cO 8 (cM 24)]).seq ((mixS 1 [cO 25 (ldn 2 (t 2)),cO 26 (call (cF 9) [t 25]),cO 27 (ldn 2 (t 2)),cO 28 (call (cF 10) [t 27]),cO 29 (cB .eql (t 26) (t 28)),cO 30 (cM 29),cG 31 30 true (ldn 2 (t 5)),cG 32 30 true (ldn 2 (t 7)),cG 33 30 true (binS BinOp.eql [int,int] (t 31) (t 32)),cO 34 (pick (t 30) (t 33) an),cO 35 (cM 34),cG 36 35 true (cM 6),cG 37 35 true (cM 8),cG 38 35 true (cB .eql (t 36) (t 37)),cO 39 (pick (t 35) (t 38) an),cO 40 (cM 39),cG 41 40 true (call (cF 6) []),cO 42 (pick (t 40) (t 41) an),cO 4 (cM 42)] [(0,0),(2,0),(1,1),(3,1),(4,0),(5,0),(6,0),(7,0),(8,0),(9,0),(10,0),(11,0),(12,0),(13,0),(14,0),(15,0),(16,2),(17,0),(18,0)]).seq ret))))))
theorem is3:Is Try.prog 3 b3:=Is.mk' Try.func3 (by kernel_rfl)
def b5:F2:=(F2.mk 13 [RV.t 2] ((ops 0 [cO 1 (box (t 0)),cO 2 (mov an)]).seq ((ops 0 [cO 3 (fa 0 (t 1)),cO 4 (cD 3),cO 5 (lenS (t 4)),cO 6 (cB .leq (t 5) (cN 40)),cO 7 (cM 6),cG 8 7 true (fa 1 (t 1)),cG 9 7 true (cD 8),cG 10 7 true (lenS (t 9)),cG 11 7 true (cB .leq (t 10) (cN 40)),cO 12 (pick (t 7) (t 11) an),cO 2 (cM 12)]).seq ret)))
theorem is5:Is Try.prog 5 b5:=Is.mk' Try.func5 (by kernel_rfl)
def b6:F2:=(F2.mk 161 [RV.t 0] ((ops 0 [cO 0 (mov an)]).seq ((ops 0 [cO 18 (bld [AV.int IntKind.i64 (0),AV.int IntKind.i64 (0)] []),cO 19 (bld [AV.int IntKind.i64 (0),AV.int IntKind.i64 (0)] [(0,1,cN ((1)))]),cO 20 (bld [AV.int IntKind.i64 (0),AV.int IntKind.i64 (0)] [(0,1,cN ((2)))]),cO 1 (alloc (AV.agg [AV.int IntKind.i64 (0),AV.int IntKind.i64 (0)])),cO 2 (alloc (AV.agg [AV.int IntKind.i64 (0),AV.int IntKind.i64 (0)])),cO 3 (alloc (AV.agg [AV.int IntKind.i64 (0),AV.int IntKind.i64 (0)])),Op2.mk none none (Ins.st 2 (t 1) (t 18)),Op2.mk none none (Ins.st 2 (t 2) (t 19)),Op2.mk none none (Ins.st 2 (t 3) (t 20))]).seq ((ops 0 [cO 21 (ldn 2 (t 1)),cO 22 (ldn 2 (t 2)),cO 23 (ldn 2 (t 3)),cO 24 (bldS 2 3 [AV.int IntKind.i64 (0),AV.int IntKind.i64 (0)] [(0,2,t 21),(2,2,t 22),(4,2,t 23)]),cO 25 (ldn 2 (t 1)),cO 26 (ldn 2 (t 2)),cO 27 (ldn 2 (t 1)),cO 28 (bldS 2 3 [AV.int IntKind.i64 (0),AV.int IntKind.i64 (0)] [(0,2,t 25),(2,2,t 26),(4,2,t 27)]),cO 29 (bld [AV.esl,AV.esl] [(0,1,t 24),(1,1,t 28)]),cO 4 (alloc (AV.agg [AV.esl,AV.esl])),Op2.mk none none (Ins.st 2 (t 4) (t 29))]).seq ((ops 0 [cO 30 (ldn 2 (t 1)),cO 31 (ldn 2 (t 2)),cO 32 (bldS 2 2 [AV.int IntKind.i64 (0),AV.int IntKind.i64 (0)] [(0,2,t 30),(2,2,t 31)]),cO 33 (ldn 2 (t 1)),cO 34 (ldn 2 (t 3)),cO 35 (bldS 2 2 [AV.int IntKind.i64 (0),AV.int IntKind.i64 (0)] [(0,2,t 33),(2,2,t 34)]),cO 36 (ldn 2 (t 2)),cO 37 (ldn 2 (t 3)),cO 38 (bldS 2 2 [AV.int IntKind.i64 (0),AV.int IntKind.i64 (0)] [(0,2,t 36),(2,2,t 37)]),cO 39 (bldS 1 3 [AV.esl] [(0,1,t 32),(1,1,t 35),(2,1,t 38)]),cO 40 (bld [AV.esl] [(0,1,t 39)]),cO 5 (alloc (AV.agg [AV.esl])),Op2.mk none none (Ins.st 1 (t 5) (t 40))]).seq ((ops 0 [cO 41 (ldn 2 (t 1)),cO 42 (ldn 2 (t 2)),cO 43 (bldS 2 2 [AV.int IntKind.i64 (0),AV.int IntKind.i64 (0)] [(0,2,t 41),(2,2,t 42)]),cO 44 (bldS 1 1 [AV.esl] [(0,1,t 43)]),cO 45 (bld [AV.esl] [(0,1,t 44)]),cO 6 (alloc (AV.agg [AV.esl])),Op2.mk none none (Ins.st 1 (t 6) (t 45))]).seq ((ops 0 [cO 47 (ldn 2 (t 4)),cO 48 (ldn 2 (t 1)),cO 49 (ldn 2 (t 2)),cO 50 (ldn 2 (t 3)),cO 51 (bldS 2 3 [AV.int IntKind.i64 (0),AV.int IntKind.i64 (0)] [(0,2,t 48),(2,2,t 49),(4,2,t 50)]),cO 52 (call (cF 13) [t 47,t 51]),cO 46 (cM 52),cO 53 (ext (t 46) 0),cO 54 (ext (t 46) 1),cO 7 (cM 53),cO 8 (cM 54)]).seq ((ops 0 [cO 56 (ldn 2 (t 4)),cO 57 (ldn 2 (t 1)),cO 58 (ldn 2 (t 3)),cO 59 (bldS 2 2 [AV.int IntKind.i64 (0),AV.int IntKind.i64 (0)] [(0,2,t 57),(2,2,t 58)]),cO 60 (call (cF 13) [t 56,t 59]),cO 55 (cM 60),cO 61 (ext (t 55) 0),cO 62 (ext (t 55) 1),cO 9 (cM 61),cO 10 (cM 62)]).seq ((ops 0 [cO 64 (ldn 2 (t 4)),cO 65 (call (cF 22) [t 64]),cO 63 (cM 65),cO 66 (ext (t 63) 0),cO 67 (ext (t 63) 1),cO 11 (cM 66),cO 12 (cM 67)]).seq ((ops 0 [cO 69 (ldn 2 (t 4)),cO 70 (ldn 1 (t 5)),cO 71 (ldn 1 (t 6)),cO 72 (call (cF 23) [t 69,t 70,t 71]),cO 68 (cM 72),cO 73 (ext (t 68) 0),cO 74 (ext (t 68) 1),cO 13 (cM 73),cO 14 (cM 74)]).seq (((ops 0 [cO 75 (cM 8),cO 76 (cM 10),cO 77 (cB .add (t 75) (t 76)),cO 78 (cM 12),cO 79 (cB .add (t 77) (t 78)),cO 80 (cM 14),cO 81 (cB .add (t 79) (t 80)),cO 82 (cB .neq (t 81) (cN 0)),cO 83 (cM 82),cG 84 83 false (cM 7),cG 85 83 false (ldn 2 (t 1)),cG 86 83 false (ldn 2 (t 2)),cG 87 83 false (bldS 2 2 [AV.int IntKind.i64 (0),AV.int IntKind.i64 (0)] [(0,2,t 85),(2,2,t 86)]),cG 88 83 false (call (cF 17) [t 84,t 87]),cG 89 83 false (un UnOp.not (t 88)),cO 90 (pick (t 83) bt (t 89)),cO 91 (cM 90),cG 92 91 false (cM 9),cG 93 91 false (ldn 2 (t 1)),cG 94 91 false (bldS 2 1 [AV.int IntKind.i64 (0),AV.int IntKind.i64 (0)] [(0,2,t 93)]),cG 95 91 false (call (cF 17) [t 92,t 94]),cG 96 91 false (un UnOp.not (t 95)),cO 97 (pick (t 91) bt (t 96)),cO 98 (cM 97),cG 99 98 false (cM 11),cO 100 (pick (t 98) bt (t 99)),cO 101 (cM 100),cG 102 101 false (cM 13),cG 103 101 false (un UnOp.not (t 102)),cO 104 (pick (t 101) bt (t 103))]).seq (C2.cond (t 104) ((ops 0 [cO 0 (mov an)]).seq ret) skip)).seq ((ops 0 [cO 106 (ldn 2 (t 4)),cO 107 (ldn 1 (t 5)),cO 108 (ldn 1 (t 6)),cO 109 (call (cF 24) [t 106,t 107,t 108,cN ((1))]),cO 105 (cM 109),cO 110 (ext (t 105) 0),cO 111 (ext (t 105) 1),cO 15 (alloc (AV.agg [AV.int IntKind.i64 (0),AV.esl])),Op2.mk none none (Ins.st 2 (t 15) (t 110)),cO 8 (cM 111)]).seq ((ops 0 [cO 113 (ldn 2 (t 4)),cO 114 (ldn 1 (t 5)),cO 115 (ldn 1 (t 6)),cO 116 (call (cF 24) [t 113,t 114,t 115,cN ((0))]),cO 112 (cM 116),cO 117 (ext (t 112) 0),cO 118 (ext (t 112) 1),cO 16 (alloc (AV.agg [AV.int IntKind.i64 (0),AV.esl])),Op2.mk none none (Ins.st 2 (t 16) (t 117)),cO 10 (cM 118)]).seq ((ops 0 [cO 120 (ldn 2 (t 4)),cO 121 (ldn 2 (t 1)),cO 122 (ldn 2 (t 2)),cO 123 (bldS 2 2 [AV.int IntKind.i64 (0),AV.int IntKind.i64 (0)] [(0,2,t 121),(2,2,t 122)]),cO 124 (ldn 2 (t 2)),cO 125 (ldn 2 (t 1)),cO 126 (bldS 2 2 [AV.int IntKind.i64 (0),AV.int IntKind.i64 (0)] [(0,2,t 124),(2,2,t 125)]),cO 127 (bld [AV.esl,AV.esl] [(0,1,t 123),(1,1,t 126)]),cO 128 (call (cF 25) [t 120,t 127]),cO 119 (cM 128),cO 129 (ext (t 119) 0),cO 130 (ext (t 119) 1),cO 17 (alloc (AV.agg [AV.esl,AV.esl])),Op2.mk none none (Ins.st 2 (t 17) (t 129)),cO 12 (cM 130)]).seq ((ops 0 [cO 131 (cM 8),cO 132 (cM 10),cO 133 (cB .add (t 131) (t 132)),cO 134 (cM 12),cO 135 (cB .add (t 133) (t 134)),cO 136 (cB .eql (t 135) (cN 0)),cO 137 (cM 136),cG 138 137 true (ldn 2 (t 15)),cG 139 137 true (bldS 1 2 [AV.int IntKind.i64 (0)] [(0,1,cN ((0))),(1,1,cN ((2)))]),cG 140 137 true (bldS 1 1 [AV.esl] [(0,1,t 139)]),cG 141 137 true (bld [AV.int IntKind.i64 (0),AV.esl] [(0,1,cN ((3))),(1,1,t 140)]),cG 142 137 true (call (cF 26) [t 138,t 141]),cO 143 (pick (t 137) (t 142) an),cO 144 (cM 143),cG 145 144 true (ldn 2 (t 16)),cG 146 144 true (bldS 1 2 [AV.int IntKind.i64 (0)] [(0,1,cN ((0))),(1,1,cN ((2)))]),cG 147 144 true (bldS 1 1 [AV.int IntKind.i64 (0)] [(0,1,cN ((1)))]),cG 148 144 true (bldS 1 2 [AV.esl] [(0,1,t 146),(1,1,t 147)]),cG 149 144 true (bld [AV.int IntKind.i64 (0),AV.esl] [(0,1,cN ((3))),(1,1,t 148)]),cG 150 144 true (call (cF 26) [t 145,t 149]),cO 151 (pick (t 144) (t 150) an),cO 152 (cM 151),cG 153 152 true (fa 1 (t 17)),cG 154 152 true (cD 153),cG 155 152 true (ldn 2 (t 2)),cG 156 152 true (ldn 2 (t 1)),cG 157 152 true (ldn 2 (t 2)),cG 158 152 true (bldS 2 3 [AV.int IntKind.i64 (0),AV.int IntKind.i64 (0)] [(0,2,t 155),(2,2,t 156),(4,2,t 157)]),cG 159 152 true (call (cF 27) [t 154,t 158]),cO 160 (pick (t 152) (t 159) an),cO 0 (cM 160)]).seq ret)))))))))))))))
theorem is6:Is Try.prog 6 b6:=Is.mk' Try.func6 (by kernel_rfl)
def b7:F2:=(F2.mk 29 [RV.cn 4 2,RV.t 5] ((ops 0 [cO 2 (box (t 0)),cO 3 (box (t 1)),cO 4 (alloc (AV.agg [AV.int IntKind.i64 (0),AV.int IntKind.i64 (0)])),cO 5 (mov (cN 0))]).seq ((ops 0 [cO 11 (ldn 2 (t 2)),cO 12 (call (cF 28) [t 11]),cO 10 (cM 12),cO 13 (ext (t 10) 0),cO 14 (ext (t 10) 1),cO 6 (cM 13),cO 7 (cM 14)]).seq (((ops 0 [cO 15 (cM 7),cO 16 (cB .neq (t 15) (cN 0))]).seq (C2.cond (t 16) ((ops 0 [cO 17 (bld [AV.int IntKind.i64 (0),AV.int IntKind.i64 (0)] []),cO 18 (cM 7),Op2.mk none none (Ins.st 2 (t 4) (t 17)),cO 5 (cM 18)]).seq ret) skip)).seq ((ops 0 [cO 20 (cM 6),cO 21 (ldn 2 (t 3)),cO 22 (Ins.mget (MK.st [int,int]) (AV.agg [AV.int IntKind.i64 (0),AV.int IntKind.i64 (0)]) true (t 20) (t 21)),cO 19 (cM 22),cO 23 (ext (t 19) 0),cO 24 (ext (t 19) 1),cO 8 (alloc (AV.agg [AV.int IntKind.i64 (0),AV.int IntKind.i64 (0)])),Op2.mk none none (Ins.st 2 (t 8) (t 23)),cO 9 (cM 24)]).seq (((ops 0 [cO 25 (cM 9),cO 26 (un UnOp.not (t 25))]).seq (C2.cond (t 26) ((ops 0 [cO 27 (bld [AV.int IntKind.i64 (0),AV.int IntKind.i64 (0)] []),Op2.mk none none (Ins.st 2 (t 4) (t 27)),cO 5 (mov (cN 6))]).seq ret) skip)).seq ((ops 0 [cO 28 (ldn 2 (t 8)),Op2.mk none none (Ins.st 2 (t 4) (t 28)),cO 5 (mov (cN 0))]).seq ret)))))))
theorem is7:Is Try.prog 7 b7:=Is.mk' Try.func7 (by kernel_rfl)
def b8:F2:=(F2.mk 25 [RV.cn 4 2,RV.t 5] ((ops 0 [cO 2 (box (t 0)),cO 3 (box (t 1)),cO 4 (alloc (AV.agg [AV.int IntKind.i64 (0),AV.int IntKind.i64 (0)])),cO 5 (mov (cN 0))]).seq (((ops 0 [cO 8 (ldn 2 (t 2)),cO 9 (call (cF 10) [t 8]),cO 6 (cM 9)]).seq ((ops 0 [cO 10 (cM 6),cO 11 (cB .neq (t 10) (cN 0))]).seq (C2.cond (t 11) ((ops 0 [cO 12 (bld [AV.int IntKind.i64 (0),AV.int IntKind.i64 (0)] []),cO 13 (cM 6),Op2.mk none none (Ins.st 2 (t 4) (t 12)),cO 5 (cM 13)]).seq ret) skip))).seq ((ops 0 [cO 14 (ldn 2 (t 2)),cO 15 (ldn 2 (t 3)),cO 16 (call (cF 29) [t 14,t 15]),cO 7 (cM 16)]).seq (((ops 0 [cO 17 (cM 7),cO 18 (cB .lss (t 17) (cN 0))]).seq (C2.cond (t 18) ((ops 0 [cO 19 (bld [AV.int IntKind.i64 (0),AV.int IntKind.i64 (0)] []),Op2.mk none none (Ins.st 2 (t 4) (t 19)),cO 5 (mov (cN 6))]).seq ret) skip)).seq ((ops 0 [cO 20 (fa 1 (t 2)),cO 21 (cD 20),cO 22 (cM 7),cO 23 (ixaS 2 (t 21) (t 22)),cO 24 (ldn 2 (t 23)),Op2.mk none none (Ins.st 2 (t 4) (t 24)),cO 5 (mov (cN 0))]).seq ret))))))
theorem is8:Is Try.prog 8 b8:=Is.mk' Try.func8 (by kernel_rfl)
def b9:F2:=(F2.mk 54 [RV.t 2] ((ops 0 [cO 1 (box (t 0)),cO 2 (mov (cN 0))]).seq ((block 0 ((ops 0 [cO 6 (fa 0 (t 1)),cO 7 (cD 6),cO 8 (lenS (t 7)),cO 9 (cB .gtr (t 8) (cN 4096)),cO 5 (cM 9)]).seq (C2.cond (t 5) ((ops 0 [cO 2 (mov (cN 5))]).seq ret) ((ops 0 [cO 11 (fa 1 (t 1)),cO 12 (cD 11),cO 13 (lenS (t 12)),cO 14 (fa 0 (t 1)),cO 15 (cD 14),cO 16 (lenS (t 15)),cO 17 (cB .neq (t 13) (t 16)),cO 10 (cM 17)]).seq (C2.cond (t 10) ((ops 0 [cO 2 (mov (cN 15))]).seq ret) skip))))).seq (((ops 0 [cO 18 (fa 0 (t 1)),cO 19 (cD 18),cO 20 (lenS (t 19)),cO 21 (mov (cN 0))]).seq (block 1 ((ops 0 [cO 22 (cB .lss (t 21) (t 20))]).seq ((C2.cond (t 22) skip (exit 1)).seq ((block 2 ((ops 0 [cO 23 (cM 21),cO 24 (ixaS 2 (t 19) (t 21)),cO 25 (ldn 2 (t 24)),cO 4 (alloc (AV.agg [AV.int IntKind.i64 (0),AV.int IntKind.i64 (0)])),cO 3 (cM 23),Op2.mk none none (Ins.st 2 (t 4) (t 25))]).seq (block 3 ((ops 0 [cO 27 (ldn 2 (t 4)),cO 28 (call (cF 30) [t 27]),cO 29 (un UnOp.not (t 28)),cO 30 (cM 29),cG 31 30 false (fa 1 (t 1)),cG 32 30 false (cD 31),cG 33 30 false (cM 3),cG 34 30 false (ixaS 2 (t 32) (t 33)),cG 35 30 false (ldn 2 (t 34)),cG 36 30 false (call (cF 30) [t 35]),cG 37 30 false (un UnOp.not (t 36)),cO 38 (pick (t 30) bt (t 37)),cO 26 (cM 38)]).seq (C2.cond (t 26) ((ops 0 [cO 2 (mov (cN 2))]).seq ret) ((mixS 1 [cO 40 (cM 3),cO 41 (cB .gtr (t 40) (cN 0)),cO 42 (cM 41),cG 43 42 true (fa 0 (t 1)),cG 44 42 true (cD 43),cG 45 42 true (cM 3),cG 46 42 true (cB .sub (t 45) (cN 1)),cG 47 42 true (ixaS 2 (t 44) (t 46)),cG 48 42 true (ldn 2 (t 47)),cG 49 42 true (ldn 2 (t 4)),cG 50 42 true (call (cF 31) [t 48,t 49]),cG 51 42 true (cB .geq (t 50) (cN 0)),cO 52 (pick (t 42) (t 51) an),cO 39 (cM 52)] [(0,0),(1,0),(2,0),(3,0),(4,0),(5,0),(6,0),(7,0),(8,0),(9,0),(10,2),(11,0),(12,0),(13,0)]).seq (C2.cond (t 39) ((ops 0 [cO 2 (mov (cN 14))]).seq ret) skip))))))).seq (ops 0 [cO 53 (cB .add (t 21) (cN 1)),cO 21 (cM 53)])))).loop)).seq ((ops 0 [cO 2 (mov (cN 0))]).seq ret)))))
theorem is9:Is Try.prog 9 b9:=Is.mk' Try.func9 (by kernel_rfl)
def b10:F2:=(F2.mk 55 [RV.t 2] ((ops 0 [cO 1 (box (t 0)),cO 2 (mov (cN 0))]).seq (((ops 0 [cO 4 (fa 0 (t 1)),cO 5 (cD 4),cO 6 (lenS (t 5)),cO 7 (cB .gtr (t 6) (cN 4096))]).seq (C2.cond (t 7) ((ops 0 [cO 2 (mov (cN 5))]).seq ret) skip)).seq (((ops 0 [cO 8 (fa 1 (t 1)),cO 9 (cD 8),cO 10 (lenS (t 9)),cO 11 (fa 0 (t 1)),cO 12 (cD 11),cO 13 (lenS (t 12)),cO 14 (cB .neq (t 10) (t 13))]).seq (C2.cond (t 14) ((ops 0 [cO 2 (mov (cN 15))]).seq ret) skip)).seq (((ops 0 [cO 3 (mov (cN 0))]).seq (block 0 (((ops 0 [cO 15 (cM 3),cO 16 (fa 0 (t 1)),cO 17 (cD 16),cO 18 (lenS (t 17)),cO 19 (cB .lss (t 15) (t 18))]).seq (C2.cond (t 19) skip (exit 0))).seq ((block 1 (((ops 0 [cO 22 (fa 0 (t 1)),cO 23 (cD 22),cO 24 (cM 3),cO 25 (ixaS 2 (t 23) (t 24)),cO 26 (ldn 2 (t 25)),cO 27 (call (cF 32) [t 26]),cO 28 (un UnOp.not (t 27)),cO 29 (cM 28),cG 30 29 false (fa 1 (t 1)),cG 31 29 false (cD 30),cG 32 29 false (cM 3),cG 33 29 false (ixaS 2 (t 31) (t 32)),cG 34 29 false (ldn 2 (t 33)),cG 35 29 false (call (cF 32) [t 34]),cG 36 29 false (un UnOp.not (t 35)),cO 37 (pick (t 29) bt (t 36))]).seq (C2.cond (t 37) ((ops 0 [cO 2 (mov (cN 2))]).seq ret) skip)).seq ((mixS 1 [cO 38 (cM 3),cO 39 (cB .gtr (t 38) (cN 0)),cO 40 (cM 39),cG 41 40 true (fa 0 (t 1)),cG 42 40 true (cD 41),cG 43 40 true (cM 3),cG 44 40 true (cB .sub (t 43) (cN 1)),cG 45 40 true (ixaS 2 (t 42) (t 44)),cG 46 40 true (ldn 2 (t 45)),cG 47 40 true (fa 0 (t 1)),cG 48 40 true (cD 47),cG 49 40 true (cM 3),cG 50 40 true (ixaS 2 (t 48) (t 49)),cG 51 40 true (ldn 2 (t 50)),cG 52 40 true (call (cF 33) [t 46,t 51]),cG 53 40 true (cB .geq (t 52) (cN 0)),cO 54 (pick (t 40) (t 53) an)] [(0,0),(1,0),(2,0),(3,0),(4,0),(5,0),(6,0),(7,0),(8,0),(9,0),(10,0),(11,0),(12,0),(13,0),(14,2),(15,0),(16,0)]).seq (C2.cond (t 54) ((ops 0 [cO 2 (mov (cN 14))]).seq ret) skip)))).seq (ops 0 [cO 20 (cM 3),cO 21 (cB .add (t 20) (cN 1)),cO 3 (cM 21)]))).loop)).seq ((ops 0 [cO 2 (mov (cN 0))]).seq ret))))))
theorem rO:Is Try.prog 10 b10:=Is.mk' Try.func10 (by kernel_rfl)
def b12:F2:=(F2.mk 36 [RV.t 2] ((ops 0 [cO 2 (mov (cN 0))]).seq ((block 0 ((ops 0 [cO 6 (cM 0),cO 7 (lenS (t 6)),cO 8 (cB .eql (t 7) (cN 0)),cO 5 (cM 8)]).seq (C2.cond (t 5) ((ops 0 [cO 2 (mov (cN 16))]).seq ret) ((ops 0 [cO 10 (cM 0),cO 11 (lenS (t 10)),cO 12 (cB .gtr (t 11) (cN 8)),cO 9 (cM 12)]).seq (C2.cond (t 9) ((ops 0 [cO 2 (mov (cN 5))]).seq ret) skip))))).seq (((ops 0 [cO 13 (cM 0),cO 14 (lenS (t 13)),cO 15 (mov (cN 0))]).seq (block 1 ((ops 0 [cO 16 (cB .lss (t 15) (t 14))]).seq ((C2.cond (t 16) skip (exit 1)).seq ((block 2 ((ops 0 [cO 17 (cM 15),cO 18 (ixaS 2 (t 13) (t 15)),cO 19 (ldn 2 (t 18)),cO 4 (alloc (AV.agg [AV.int IntKind.i64 (0),AV.int IntKind.i64 (0)])),cO 3 (cM 17),Op2.mk none none (Ins.st 2 (t 4) (t 19))]).seq (((ops 0 [cO 20 (ldn 2 (t 4)),cO 21 (call (cF 34) [t 20]),cO 22 (un UnOp.not (t 21))]).seq (C2.cond (t 22) ((ops 0 [cO 2 (mov (cN 2))]).seq ret) skip)).seq ((mixS 1 [cO 23 (cM 3),cO 24 (cB .gtr (t 23) (cN 0)),cO 25 (cM 24),cG 26 25 true (cM 0),cG 27 25 true (cM 3),cG 28 25 true (cB .sub (t 27) (cN 1)),cG 29 25 true (ixaS 2 (t 26) (t 28)),cG 30 25 true (ldn 2 (t 29)),cG 31 25 true (ldn 2 (t 4)),cG 32 25 true (call (cF 35) [t 30,t 31]),cG 33 25 true (cB .geq (t 32) (cN 0)),cO 34 (pick (t 25) (t 33) an)] [(0,0),(1,0),(2,0),(3,0),(4,0),(5,0),(6,0),(7,0),(8,0),(9,2),(10,0),(11,0)]).seq (C2.cond (t 34) ((ops 0 [cO 2 (mov (cN 14))]).seq ret) skip))))).seq (ops 0 [cO 35 (cB .add (t 15) (cN 1)),cO 15 (cM 35)])))).loop)).seq ((ops 0 [cO 2 (mov (cN 0))]).seq ret)))))
theorem sb:Is Try.prog 12 b12:=Is.mk' Try.func12 (by kernel_rfl)
def b13:F2:=(F2.mk 33 [RV.t 4,RV.t 5] ((ops 0 [cO 2 (box (t 0)),cO 4 (mov (c AV.esl)),cO 5 (mov (cN 0))]).seq ((ops 0 [cO 12 (ldn 2 (t 2)),cO 13 (call (cF 28) [t 12]),cO 11 (cM 13),cO 14 (ext (t 11) 0),cO 15 (ext (t 11) 1),cO 6 (cM 14),cO 7 (cM 15)]).seq (((ops 0 [cO 16 (cM 7),cO 17 (cB .neq (t 16) (cN 0))]).seq (C2.cond (t 17) ((ops 0 [cO 18 (cM 7),cO 4 (mov (c AV.esl)),cO 5 (cM 18)]).seq ret) skip)).seq (((ops 0 [cO 19 (cM 1),cO 20 (call (cF 12) [t 19]),cO 8 (cM 20)]).seq ((ops 0 [cO 21 (cM 8),cO 22 (cB .neq (t 21) (cN 0))]).seq (C2.cond (t 22) ((ops 0 [cO 23 (cM 8),cO 4 (mov (c AV.esl)),cO 5 (cM 23)]).seq ret) skip))).seq ((ops 0 [cO 25 (cM 6),cO 26 (cM 1),cO 27 (call (cF 36) [t 25,t 26]),cO 24 (cM 27),cO 28 (ext (t 24) 0),cO 29 (ext (t 24) 1),cO 9 (cM 28),cO 10 (cM 29)]).seq (((ops 0 [cO 30 (cM 10),cO 31 (un UnOp.not (t 30))]).seq (C2.cond (t 31) ((ops 0 [cO 4 (mov (c AV.esl)),cO 5 (mov (cN 6))]).seq ret) skip)).seq ((ops 0 [cO 32 (cM 9),cO 4 (cM 32),cO 5 (mov (cN 0))]).seq ret))))))))
theorem rM:Is Try.prog 13 b13:=Is.mk' Try.func13 (by kernel_rfl)
def b14:F2:=(F2.mk 24 [RV.t 4,RV.t 5] ((ops 0 [cO 4 (mov (c AV.esl)),cO 5 (mov (cN 0))]).seq (((ops 0 [cO 7 (cM 0),cO 8 (call (cF 12) [t 7]),cO 6 (cM 8)]).seq ((ops 0 [cO 9 (cM 6),cO 10 (cB .neq (t 9) (cN 0))]).seq (C2.cond (t 10) ((ops 0 [cO 11 (cM 6),cO 4 (mov (c AV.esl)),cO 5 (cM 11)]).seq ret) skip))).seq (((ops 0 [cO 12 (cM 1),cO 13 (cB .lss (t 12) (cN 1)),cO 14 (cM 13),cG 15 14 false (cM 1),cG 16 14 false (cM 0),cG 17 14 false (lenS (t 16)),cG 18 14 false (cB .gtr (t 15) (t 17)),cO 19 (pick (t 14) bt (t 18))]).seq (C2.cond (t 19) ((ops 0 [cO 4 (mov (c AV.esl)),cO 5 (mov (cN 2))]).seq ret) skip)).seq ((ops 0 [cO 20 (cM 0),cO 21 (cM 1),cO 22 (call (cF 38) [t 20,t 21]),cO 23 (call (cF 37) [t 22]),cO 4 (cM 23),cO 5 (mov (cN 0))]).seq ret)))))
theorem r9:Is Try.prog 14 b14:=Is.mk' Try.func14 (by kernel_rfl)
def b15:F2:=(F2.mk 19 [RV.t 4] ((ops 0 [cO 4 (mov (cN 0))]).seq (((ops 0 [cO 6 (cM 0),cO 7 (lenS (t 6)),cO 8 (mov (cN 0))]).seq (block 0 ((ops 0 [cO 9 (cB .lss (t 8) (t 7))]).seq ((C2.cond (t 9) skip (exit 0)).seq ((block 1 ((ops 0 [cO 10 (cM 8),cO 5 (cM 10)]).seq ((ops 0 [cO 11 (cM 1),cO 12 (cM 0),cO 13 (cM 5),cO 14 (ixaS 1 (t 12) (t 13)),cO 15 (cD 14),cO 16 (call (t 11) [t 15])]).seq (C2.cond (t 16) ((ops 0 [cO 17 (cM 5),cO 4 (cM 17)]).seq ret) skip)))).seq (ops 0 [cO 18 (cB .add (t 8) (cN 1)),cO 8 (cM 18)])))).loop)).seq ((ops 0 [cO 4 (mov (cN ((-1))))]).seq ret))))
theorem rL:Is Try.prog 15 b15:=Is.mk' Try.func15 (by kernel_rfl)
def b17:F2:=(F2.mk 9 [RV.t 4] ((ops 0 [cO 4 (mov an)]).seq ((ops 0 [cO 5 (cM 0),cO 6 (cM 1),cO 7 (call (cF 39) [t 5,t 6]),cO 8 (cB .eql (t 7) (cN 0)),cO 4 (cM 8)]).seq ret)))
theorem qX:Is Try.prog 17 b17:=Is.mk' Try.func17 (by kernel_rfl)
def b19:F2:=(F2.mk 14 [] ((ops 0 [cO 5 (cM 0),cO 6 (lenS (t 5)),cO 4 (cM 6)]).seq (ops 0 [cO 7 (cM 0),cO 8 (cM 4),cO 9 (cM 4),cO 10 (conv IntKind.u64 (t 9)),cO 11 (call (cF 41) [t 10]),cO 12 (cM 1),cO 13 (call (cF 40) [t 7,cN ((0)),t 8,t 11,t 12])])))
theorem rN:Is Try.prog 19 b19:=Is.mk' Try.func19 (by kernel_rfl)
def b20:F2:=(F2.mk 8 [RV.t 4] ((ops 0 [cO 4 (mov (cN 0))]).seq ((ops 0 [cO 5 (cM 0),cO 6 (cM 1),cO 7 (call (cF 42) [t 5,t 6,c (AV.func 35 [])]),cO 4 (cM 7)]).seq ret)))
theorem qW:Is Try.prog 20 b20:=Is.mk' Try.func20 (by kernel_rfl)
def b22:F2:=(F2.mk 30 [RV.t 2,RV.t 3] ((ops 0 [cO 1 (box (t 0)),cO 2 (mov an),cO 3 (mov (cN 0))]).seq (((ops 0 [cO 7 (ldn 2 (t 1)),cO 8 (call (cF 9) [t 7]),cO 4 (cM 8)]).seq ((ops 0 [cO 9 (cM 4),cO 10 (cB .neq (t 9) (cN 0))]).seq (C2.cond (t 10) ((ops 0 [cO 11 (cM 4),cO 2 (mov an),cO 3 (cM 11)]).seq ret) skip))).seq (((ops 0 [cO 12 (fa 0 (t 1)),cO 13 (cD 12),cO 14 (lenS (t 13)),cO 15 (mov (cN 0))]).seq (block 0 ((ops 0 [cO 16 (cB .lss (t 15) (t 14))]).seq ((C2.cond (t 16) skip (exit 0)).seq ((block 1 ((ops 0 [cO 17 (cM 15),cO 18 (ixaS 2 (t 13) (t 15)),cO 19 (ldn 2 (t 18)),cO 6 (alloc (AV.agg [AV.int IntKind.i64 (0),AV.int IntKind.i64 (0)])),cO 5 (cM 17),Op2.mk none none (Ins.st 2 (t 6) (t 19))]).seq ((ops 1 [cO 20 (fa 1 (t 1)),cO 21 (cD 20),cO 22 (cM 5),cO 23 (ixaS 2 (t 21) (t 22)),cO 24 (fa 0 (t 23)),cO 25 (cD 24),cO 26 (fa 0 (t 6)),cO 27 (cD 26),cO 28 (cB .neq (t 25) (t 27))]).seq (C2.cond (t 28) ((ops 0 [cO 2 (mov an),cO 3 (mov (cN 0))]).seq ret) skip)))).seq (ops 0 [cO 29 (cB .add (t 15) (cN 1)),cO 15 (cM 29)])))).loop)).seq ((ops 0 [cO 2 (mov bt),cO 3 (mov (cN 0))]).seq ret)))))
theorem rp:Is Try.prog 22 b22:=Is.mk' Try.func22 (by kernel_rfl)
def b23:F2:=(F2.mk 50 [RV.t 6,RV.t 7] ((ops 0 [cO 3 (box (t 0)),cO 4 (box (t 1)),cO 5 (box (t 2)),cO 6 (mov an),cO 7 (mov (cN 0))]).seq ((ops 0 [cO 17 (ldn 2 (t 3)),cO 18 (call (cF 28) [t 17]),cO 16 (cM 18),cO 19 (ext (t 16) 0),cO 20 (ext (t 16) 1),cO 8 (cM 19),cO 9 (cM 20)]).seq (((ops 0 [cO 21 (cM 9),cO 22 (cB .neq (t 21) (cN 0))]).seq (C2.cond (t 22) ((ops 0 [cO 23 (cM 9),cO 6 (mov an),cO 7 (cM 23)]).seq ret) skip)).seq (((ops 0 [cO 24 (ldn 1 (t 4)),cO 25 (ldn 1 (t 5)),cO 26 (bldS 1 2 [AV.esl] [(0,1,t 24),(1,1,t 25)]),cO 27 (lenS (t 26)),cO 28 (mov (cN 0))]).seq (block 0 ((ops 0 [cO 29 (cB .lss (t 28) (t 27))]).seq ((C2.cond (t 29) skip (exit 0)).seq ((block 1 ((ops 0 [cO 30 (ixaS 1 (t 26) (t 28)),cO 31 (ldn 1 (t 30)),cO 11 (alloc (AV.agg [AV.esl])),Op2.mk none none (Ins.st 1 (t 11) (t 31))]).seq ((ops 0 [cO 32 (ldn 1 (t 11)),cO 33 (call (cF 43) [t 32]),cO 12 (cM 33)]).seq ((ops 0 [cO 34 (cM 12),cO 35 (cB .neq (t 34) (cN 0))]).seq (C2.cond (t 35) ((ops 0 [cO 36 (cM 12),cO 6 (mov an),cO 7 (cM 36)]).seq ret) skip))))).seq (ops 0 [cO 37 (cB .add (t 28) (cN 1)),cO 28 (cM 37)])))).loop)).seq ((ops 0 [cO 39 (cM 8),cO 40 (ldn 1 (t 4)),cO 41 (call (cF 44) [t 39,t 40]),cO 38 (cM 41),cO 42 (ext (t 38) 0),cO 43 (ext (t 38) 1),cO 13 (cM 42),cO 14 (cM 43)]).seq (((ops 0 [cO 44 (cM 14),cO 45 (un UnOp.not (t 44))]).seq (C2.cond (t 45) ((ops 0 [cO 6 (mov an),cO 7 (mov (cN 6))]).seq ret) skip)).seq ((ops 0 [cO 15 (alloc AV.nilf),Op2.mk none none (Ins.st 1 (t 15) (cF 45))]).seq ((ops 0 [cO 46 (cM 13),cO 47 (mkfn 50 [t 5,t 15]),cO 48 (call (cF 49) [t 46,t 47]),cO 49 (un UnOp.not (t 48)),cO 6 (cM 49),cO 7 (mov (cN 0))]).seq ret)))))))))
theorem rT:Is Try.prog 23 b23:=Is.mk' Try.func23 (by kernel_rfl)
def b24:F2:=(F2.mk 114 [RV.cn 8 2,RV.t 9] ((ops 0 [cO 4 (box (t 0)),cO 5 (box (t 1)),cO 6 (box (t 2)),cO 8 (alloc (AV.agg [AV.int IntKind.i64 (0),AV.esl])),cO 9 (mov (cN 0))]).seq ((ops 0 [cO 24 (ldn 2 (t 4)),cO 25 (ldn 1 (t 5)),cO 26 (ldn 1 (t 6)),cO 27 (call (cF 23) [t 24,t 25,t 26]),cO 23 (cM 27),cO 28 (ext (t 23) 0),cO 29 (ext (t 23) 1),cO 10 (cM 28),cO 11 (cM 29)]).seq ((block 0 ((ops 0 [cO 31 (cM 11),cO 32 (cB .neq (t 31) (cN 0)),cO 30 (cM 32)]).seq (C2.cond (t 30) ((ops 0 [cO 33 (bld [AV.int IntKind.i64 (0),AV.esl] []),cO 34 (cM 11),Op2.mk none none (Ins.st 2 (t 8) (t 33)),cO 9 (cM 34)]).seq ret) ((ops 0 [cO 36 (cM 10),cO 37 (un UnOp.not (t 36)),cO 35 (cM 37)]).seq (C2.cond (t 35) ((ops 0 [cO 38 (bld [AV.int IntKind.i64 (0),AV.esl] []),Op2.mk none none (Ins.st 2 (t 8) (t 38)),cO 9 (mov (cN 22))]).seq ret) ((ops 0 [cO 40 (cM 3),cO 41 (cB .lss (t 40) (cN 0)),cO 42 (cM 41),cG 43 42 false (cM 3),cG 44 42 false (cB .geq (t 43) (cN 8)),cO 45 (pick (t 42) bt (t 44)),cO 39 (cM 45)]).seq (C2.cond (t 39) ((ops 0 [cO 46 (bld [AV.int IntKind.i64 (0),AV.esl] []),Op2.mk none none (Ins.st 2 (t 8) (t 46)),cO 9 (mov (cN 2))]).seq ret) skip))))))).seq ((ops 0 [cO 48 (ldn 1 (t 5)),cO 49 (cM 3),cO 50 (cB .add (t 49) (cN 1)),cO 51 (call (cF 52) [t 48,t 50]),cO 47 (cM 51),cO 52 (ext (t 47) 0),cO 53 (ext (t 47) 1),cO 12 (cM 52),cO 11 (cM 53)]).seq (((ops 0 [cO 54 (cM 11),cO 55 (cB .neq (t 54) (cN 0))]).seq (C2.cond (t 55) ((ops 0 [cO 56 (bld [AV.int IntKind.i64 (0),AV.esl] []),cO 57 (cM 11),Op2.mk none none (Ins.st 2 (t 8) (t 56)),cO 9 (cM 57)]).seq ret) skip)).seq ((ops 0 [cO 59 (ldn 1 (t 6)),cO 60 (cM 3),cO 61 (cB .add (t 60) (cN 1)),cO 62 (call (cF 52) [t 59,t 61]),cO 58 (cM 62),cO 63 (ext (t 58) 0),cO 64 (ext (t 58) 1),cO 13 (cM 63),cO 11 (cM 64)]).seq (((ops 0 [cO 65 (cM 11),cO 66 (cB .neq (t 65) (cN 0))]).seq (C2.cond (t 66) ((ops 0 [cO 67 (bld [AV.int IntKind.i64 (0),AV.esl] []),cO 68 (cM 11),Op2.mk none none (Ins.st 2 (t 8) (t 67)),cO 9 (cM 68)]).seq ret) skip)).seq ((ops 0 [cO 70 (ldn 2 (t 4)),cO 71 (call (cF 28) [t 70]),cO 69 (cM 71),cO 72 (ext (t 69) 0),cO 73 (ext (t 69) 1),cO 14 (cM 72),cO 15 (cM 73)]).seq ((ops 0 [cO 74 (cM 12),cO 75 (lenS (t 74)),cO 76 (cM 13),cO 77 (lenS (t 76)),cO 78 (mks 1 24 [AV.esl] (t 77) (t 77)),cO 79 (bld [AV.int IntKind.i64 (0),AV.esl] [(0,1,t 75),(1,1,t 78)]),cO 16 (alloc (AV.agg [AV.int IntKind.i64 (0),AV.esl])),Op2.mk none none (Ins.st 2 (t 16) (t 79))]).seq (((ops 0 [cO 80 (cM 12),cO 81 (lenS (t 80)),cO 82 (mov (cN 0))]).seq (block 1 ((ops 0 [cO 83 (cB .lss (t 82) (t 81))]).seq ((C2.cond (t 83) skip (exit 1)).seq ((block 2 ((ops 0 [cO 84 (cM 82),cO 85 (ixaS 1 (t 80) (t 82)),cO 86 (cD 85),cO 17 (cM 84),cO 18 (cM 86)]).seq ((ops 0 [cO 88 (cM 14),cO 89 (cM 18),cO 90 (call (cF 36) [t 88,t 89]),cO 87 (cM 90),cO 91 (ext (t 87) 0),cO 92 (ext (t 87) 1),cO 19 (cM 91),cO 20 (cM 92)]).seq ((ops 0 [cO 94 (cM 13),cO 95 (cM 19),cO 96 (call (cF 53) [t 94,t 95,c (AV.func 20 [])]),cO 93 (cM 96),cO 97 (ext (t 93) 0),cO 98 (ext (t 93) 1),cO 21 (cM 97),cO 22 (cM 98)]).seq ((ops 0 [cO 99 (cM 22)]).seq (C2.cond (t 99) (mixS 2 [cO 100 (fa 1 (t 16)),cO 101 (cD 100),cO 102 (cM 21),cO 103 (fa 1 (t 16)),cO 104 (cD 103),cO 105 (cM 21),cO 106 (ixaS 1 (t 104) (t 105)),cO 107 (cD 106),cO 108 (cM 17),cO 109 (bldS 1 1 [AV.int IntKind.i64 (0)] [(0,1,t 108)]),cO 110 (app 1 8 (t 107) (t 109)),cO 111 (ixaS 1 (t 101) (t 102)),Op2.mk none none (Ins.st 1 (t 111) (t 110))] [(0,0),(1,0),(2,0),(3,0),(4,0),(5,0),(6,0),(7,0),(8,0),(9,1),(10,1),(11,0),(12,2)]) skip)))))).seq (ops 0 [cO 112 (cB .add (t 82) (cN 1)),cO 82 (cM 112)])))).loop)).seq ((ops 0 [cO 113 (ldn 2 (t 16)),Op2.mk none none (Ins.st 2 (t 8) (t 113)),cO 9 (mov (cN 0))]).seq ret))))))))))))
theorem rZ:Is Try.prog 24 b24:=Is.mk' Try.func24 (by kernel_rfl)
def b25:F2:=(F2.mk 57 [RV.cn 4 2,RV.t 5] ((ops 0 [cO 2 (box (t 0)),cO 3 (box (t 1)),cO 4 (alloc (AV.agg [AV.esl,AV.esl])),cO 5 (mov (cN 0))]).seq (((ops 0 [cO 14 (ldn 2 (t 2)),cO 15 (call (cF 9) [t 14]),cO 6 (cM 15)]).seq ((ops 0 [cO 16 (cM 6),cO 17 (cB .neq (t 16) (cN 0))]).seq (C2.cond (t 17) ((ops 0 [cO 18 (bld [AV.esl,AV.esl] []),cO 19 (cM 6),Op2.mk none none (Ins.st 2 (t 4) (t 18)),cO 5 (cM 19)]).seq ret) skip))).seq ((ops 0 [cO 21 (ldn 2 (t 3)),cO 22 (call (cF 28) [t 21]),cO 20 (cM 22),cO 23 (ext (t 20) 0),cO 24 (ext (t 20) 1),cO 7 (cM 23),cO 8 (cM 24)]).seq (((ops 0 [cO 25 (cM 8),cO 26 (cB .neq (t 25) (cN 0))]).seq (C2.cond (t 26) ((ops 0 [cO 27 (bld [AV.esl,AV.esl] []),cO 28 (cM 8),Op2.mk none none (Ins.st 2 (t 4) (t 27)),cO 5 (cM 28)]).seq ret) skip)).seq ((ops 0 [cO 29 (fa 0 (t 2)),cO 30 (cD 29),cO 31 (call (cF 54) [t 30]),cO 32 (bld [AV.esl,AV.esl] [(0,1,t 31)]),cO 9 (alloc (AV.agg [AV.esl,AV.esl])),Op2.mk none none (Ins.st 2 (t 9) (t 32))]).seq (((ops 0 [cO 33 (fa 1 (t 2)),cO 34 (cD 33),cO 35 (lenS (t 34)),cO 36 (mov (cN 0))]).seq (block 0 ((ops 0 [cO 37 (cB .lss (t 36) (t 35))]).seq ((C2.cond (t 37) skip (exit 0)).seq ((block 1 ((ops 0 [cO 38 (ixaS 2 (t 34) (t 36)),cO 39 (ldn 2 (t 38)),cO 11 (alloc (AV.agg [AV.int IntKind.i64 (0),AV.int IntKind.i64 (0)])),Op2.mk none none (Ins.st 2 (t 11) (t 39))]).seq ((ops 0 [cO 41 (cM 7),cO 42 (ldn 2 (t 11)),cO 43 (Ins.mget (MK.st [int,int]) (AV.agg [AV.int IntKind.i64 (0),AV.int IntKind.i64 (0)]) true (t 41) (t 42)),cO 40 (cM 43),cO 44 (ext (t 40) 0),cO 45 (ext (t 40) 1),cO 12 (alloc (AV.agg [AV.int IntKind.i64 (0),AV.int IntKind.i64 (0)])),Op2.mk none none (Ins.st 2 (t 12) (t 44)),cO 13 (cM 45)]).seq (((ops 0 [cO 46 (cM 13),cO 47 (un UnOp.not (t 46))]).seq (C2.cond (t 47) ((ops 0 [cO 48 (bld [AV.esl,AV.esl] []),Op2.mk none none (Ins.st 2 (t 4) (t 48)),cO 5 (mov (cN 6))]).seq ret) skip)).seq (ops 0 [cO 49 (fa 1 (t 9)),cO 50 (cD 49),cO 51 (ldn 2 (t 12)),cO 52 (bldS 2 1 [AV.int IntKind.i64 (0),AV.int IntKind.i64 (0)] [(0,2,t 51)]),cO 53 (app 2 16 (t 50) (t 52)),cO 54 (fa 1 (t 9)),Op2.mk none none (Ins.st 1 (t 54) (t 53))]))))).seq (ops 0 [cO 55 (cB .add (t 36) (cN 1)),cO 36 (cM 55)])))).loop)).seq ((ops 0 [cO 56 (ldn 2 (t 9)),Op2.mk none none (Ins.st 2 (t 4) (t 56)),cO 5 (mov (cN 0))]).seq ret))))))))
theorem re:Is Try.prog 25 b25:=Is.mk' Try.func25 (by kernel_rfl)
def b26:F2:=(F2.mk 39 [RV.t 4] ((ops 0 [cO 2 (box (t 0)),cO 3 (box (t 1)),cO 4 (mov an)]).seq (((ops 0 [cO 6 (fa 0 (t 2)),cO 7 (cD 6),cO 8 (fa 0 (t 3)),cO 9 (cD 8),cO 10 (cB .neq (t 7) (t 9)),cO 11 (cM 10),cG 12 11 false (fa 1 (t 2)),cG 13 11 false (cD 12),cG 14 11 false (lenS (t 13)),cG 15 11 false (fa 1 (t 3)),cG 16 11 false (cD 15),cG 17 11 false (lenS (t 16)),cG 18 11 false (cB .neq (t 14) (t 17)),cO 19 (pick (t 11) bt (t 18))]).seq (C2.cond (t 19) ((ops 0 [cO 4 (mov an)]).seq ret) skip)).seq (((ops 0 [cO 5 (mov (cN 0))]).seq (block 0 (((ops 0 [cO 20 (cM 5),cO 21 (fa 1 (t 2)),cO 22 (cD 21),cO 23 (lenS (t 22)),cO 24 (cB .lss (t 20) (t 23))]).seq (C2.cond (t 24) skip (exit 0))).seq ((block 1 ((mixS 1 [cO 27 (fa 1 (t 2)),cO 28 (cD 27),cO 29 (cM 5),cO 30 (ixaS 1 (t 28) (t 29)),cO 31 (cD 30),cO 32 (fa 1 (t 3)),cO 33 (cD 32),cO 34 (cM 5),cO 35 (ixaS 1 (t 33) (t 34)),cO 36 (cD 35),cO 37 (call (cF 55) [t 31,t 36]),cO 38 (un UnOp.not (t 37))] [(0,0),(1,0),(2,0),(3,0),(4,0),(5,0),(6,0),(7,0),(8,0),(9,0),(10,2),(11,0)]).seq (C2.cond (t 38) ((ops 0 [cO 4 (mov an)]).seq ret) skip))).seq (ops 0 [cO 25 (cM 5),cO 26 (cB .add (t 25) (cN 1)),cO 5 (cM 26)]))).loop)).seq ((ops 0 [cO 4 (mov bt)]).seq ret)))))
theorem ry:Is Try.prog 26 b26:=Is.mk' Try.func26 (by kernel_rfl)
def b27:F2:=(F2.mk 26 [RV.t 4] ((ops 0 [cO 4 (mov an)]).seq (((ops 0 [cO 6 (cM 0),cO 7 (lenS (t 6)),cO 8 (cM 1),cO 9 (lenS (t 8)),cO 10 (cB .neq (t 7) (t 9))]).seq (C2.cond (t 10) ((ops 0 [cO 4 (mov an)]).seq ret) skip)).seq (((ops 0 [cO 11 (cM 0),cO 12 (lenS (t 11)),cO 13 (mov (cN 0))]).seq (block 0 ((ops 0 [cO 14 (cB .lss (t 13) (t 12))]).seq ((C2.cond (t 14) skip (exit 0)).seq ((block 1 ((ops 0 [cO 15 (cM 13),cO 5 (cM 15)]).seq ((ops 1 [cO 16 (cM 0),cO 17 (cM 5),cO 18 (ixaS 2 (t 16) (t 17)),cO 19 (ldn 2 (t 18)),cO 20 (cM 1),cO 21 (cM 5),cO 22 (ixaS 2 (t 20) (t 21)),cO 23 (ldn 2 (t 22)),cO 24 (binS BinOp.neq [int,int] (t 19) (t 23))]).seq (C2.cond (t 24) ((ops 0 [cO 4 (mov an)]).seq ret) skip)))).seq (ops 0 [cO 25 (cB .add (t 13) (cN 1)),cO 13 (cM 25)])))).loop)).seq ((ops 0 [cO 4 (mov bt)]).seq ret)))))
theorem ru:Is Try.prog 27 b27:=Is.mk' Try.func27 (by kernel_rfl)
def b28:F2:=(F2.mk 31 [RV.t 2,RV.t 3] ((ops 0 [cO 1 (box (t 0)),cO 2 (mov (c AV.undef)),cO 3 (mov (cN 0))]).seq (((ops 0 [cO 8 (ldn 2 (t 1)),cO 9 (call (cF 9) [t 8]),cO 4 (cM 9)]).seq ((ops 0 [cO 10 (cM 4),cO 11 (cB .neq (t 10) (cN 0))]).seq (C2.cond (t 11) ((ops 0 [cO 12 (cM 4),cO 2 (mov (c AV.undef)),cO 3 (cM 12)]).seq ret) skip))).seq ((ops 0 [cO 13 (mkm none),cO 5 (cM 13)]).seq (((ops 0 [cO 14 (fa 0 (t 1)),cO 15 (cD 14),cO 16 (lenS (t 15)),cO 17 (mov (cN 0))]).seq (block 0 ((ops 0 [cO 18 (cB .lss (t 17) (t 16))]).seq ((C2.cond (t 18) skip (exit 0)).seq ((block 1 ((ops 0 [cO 19 (cM 17),cO 20 (ixaS 2 (t 15) (t 17)),cO 21 (ldn 2 (t 20)),cO 7 (alloc (AV.agg [AV.int IntKind.i64 (0),AV.int IntKind.i64 (0)])),cO 6 (cM 19),Op2.mk none none (Ins.st 2 (t 7) (t 21))]).seq (mixS 9 [cO 22 (cM 5),cO 23 (ldn 2 (t 7)),cO 24 (fa 1 (t 1)),cO 25 (cD 24),cO 26 (cM 6),cO 27 (ixaS 2 (t 25) (t 26)),cO 28 (ldn 2 (t 27)),Op2.mk none none (mput (MK.st [int,int]) (t 22) (t 23) (t 28))] [(0,0),(1,0),(2,0),(3,0),(4,0),(5,0),(6,0),(7,2)]))).seq (ops 0 [cO 29 (cB .add (t 17) (cN 1)),cO 17 (cM 29)])))).loop)).seq ((ops 0 [cO 30 (cM 5),cO 2 (cM 30),cO 3 (mov (cN 0))]).seq ret))))))
theorem qx:Is Try.prog 28 b28:=Is.mk' Try.func28 (by kernel_rfl)
def b29:F2:=(F2.mk 21 [RV.t 4] ((ops 0 [cO 2 (box (t 0)),cO 3 (box (t 1)),cO 4 (mov (cN 0))]).seq (((ops 0 [cO 5 (mov (cN 0))]).seq (block 0 (((ops 0 [cO 6 (cM 5),cO 7 (fa 0 (t 2)),cO 8 (cD 7),cO 9 (lenS (t 8)),cO 10 (cB .lss (t 6) (t 9))]).seq (C2.cond (t 10) skip (exit 0))).seq ((block 1 ((ops 1 [cO 13 (fa 0 (t 2)),cO 14 (cD 13),cO 15 (cM 5),cO 16 (ixaS 2 (t 14) (t 15)),cO 17 (ldn 2 (t 16)),cO 18 (ldn 2 (t 3)),cO 19 (binS BinOp.eql [int,int] (t 17) (t 18))]).seq (C2.cond (t 19) ((ops 0 [cO 20 (cM 5),cO 4 (cM 20)]).seq ret) skip))).seq (ops 0 [cO 11 (cM 5),cO 12 (cB .add (t 11) (cN 1)),cO 5 (cM 12)]))).loop)).seq ((ops 0 [cO 4 (mov (cN ((-1))))]).seq ret))))
theorem r4:Is Try.prog 29 b29:=Is.mk' Try.func29 (by kernel_rfl)
def b30:F2:=(F2.mk 21 [RV.t 2] ((ops 0 [cO 1 (box (t 0)),cO 2 (mov an)]).seq ((ops 0 [cO 3 (fa 0 (t 1)),cO 4 (cD 3),cO 5 (cB .geq (t 4) (cN 0)),cO 6 (cM 5),cG 7 6 true (fa 0 (t 1)),cG 8 6 true (cD 7),cG 9 6 true (cB .lss (t 8) (cN 8)),cO 10 (pick (t 6) (t 9) an),cO 11 (cM 10),cG 12 11 true (fa 1 (t 1)),cG 13 11 true (cD 12),cG 14 11 true (cB .geq (t 13) (cN 0)),cO 15 (pick (t 11) (t 14) an),cO 16 (cM 15),cG 17 16 true (fa 1 (t 1)),cG 18 16 true (cD 17),cG 19 16 true (cB .leq (t 18) (cN 1048576)),cO 20 (pick (t 16) (t 19) an),cO 2 (cM 20)]).seq ret)))
theorem qD:Is Try.prog 30 b30:=Is.mk' Try.func30 (by kernel_rfl)
def b31:F2:=(F2.mk 17 [RV.t 4] ((ops 0 [cO 2 (box (t 0)),cO 3 (box (t 1)),cO 4 (mov (cN 0))]).seq ((mixS 1 [cO 5 (fa 0 (t 2)),cO 6 (cD 5),cO 7 (fa 0 (t 3)),cO 8 (cD 7),cO 9 (call (cF 57) [t 6,t 8]),cO 10 (fa 1 (t 2)),cO 11 (cD 10),cO 12 (fa 1 (t 3)),cO 13 (cD 12),cO 14 (call (cF 57) [t 11,t 13]),cO 15 (bldS 1 2 [AV.int IntKind.i64 (0)] [(0,1,t 9),(1,1,t 14)]),cO 16 (call (cF 56) [t 15]),cO 4 (cM 16)] [(0,0),(1,0),(2,0),(3,0),(5,0),(6,0),(7,0),(8,0),(4,1),(9,2),(10,2),(11,2),(12,0)]).seq ret)))
theorem qF:Is Try.prog 31 b31:=Is.mk' Try.func31 (by kernel_rfl)
def b32:F2:=(F2.mk 21 [RV.t 2] ((ops 0 [cO 1 (box (t 0)),cO 2 (mov an)]).seq ((ops 0 [cO 3 (fa 0 (t 1)),cO 4 (cD 3),cO 5 (cB .geq (t 4) (cN 0)),cO 6 (cM 5),cG 7 6 true (fa 0 (t 1)),cG 8 6 true (cD 7),cG 9 6 true (cB .lss (t 8) (cN 8)),cO 10 (pick (t 6) (t 9) an),cO 11 (cM 10),cG 12 11 true (fa 1 (t 1)),cG 13 11 true (cD 12),cG 14 11 true (cB .geq (t 13) (cN 0)),cO 15 (pick (t 11) (t 14) an),cO 16 (cM 15),cG 17 16 true (fa 1 (t 1)),cG 18 16 true (cD 17),cG 19 16 true (cB .leq (t 18) (cN 1048576)),cO 20 (pick (t 16) (t 19) an),cO 2 (cM 20)]).seq ret)))
theorem rF:Is Try.prog 32 b32:=Is.mk' Try.func32 (by kernel_rfl)
def b33:F2:=(F2.mk 29 [RV.t 4] ((ops 0 [cO 2 (box (t 0)),cO 3 (box (t 1)),cO 4 (mov (cN 0))]).seq ((block 0 ((ops 0 [cO 6 (fa 0 (t 2)),cO 7 (cD 6),cO 8 (fa 0 (t 3)),cO 9 (cD 8),cO 10 (cB .lss (t 7) (t 9)),cO 5 (cM 10)]).seq (C2.cond (t 5) ((ops 0 [cO 4 (mov (cN ((-1))))]).seq ret) ((ops 0 [cO 12 (fa 0 (t 2)),cO 13 (cD 12),cO 14 (fa 0 (t 3)),cO 15 (cD 14),cO 16 (cB .gtr (t 13) (t 15)),cO 11 (cM 16)]).seq (C2.cond (t 11) ((ops 0 [cO 4 (mov (cN 1))]).seq ret) ((ops 0 [cO 18 (fa 1 (t 2)),cO 19 (cD 18),cO 20 (fa 1 (t 3)),cO 21 (cD 20),cO 22 (cB .lss (t 19) (t 21)),cO 17 (cM 22)]).seq (C2.cond (t 17) ((ops 0 [cO 4 (mov (cN ((-1))))]).seq ret) ((ops 0 [cO 24 (fa 1 (t 2)),cO 25 (cD 24),cO 26 (fa 1 (t 3)),cO 27 (cD 26),cO 28 (cB .gtr (t 25) (t 27)),cO 23 (cM 28)]).seq (C2.cond (t 23) ((ops 0 [cO 4 (mov (cN 1))]).seq ret) skip))))))))).seq ((ops 0 [cO 4 (mov (cN 0))]).seq ret))))
theorem qI:Is Try.prog 33 b33:=Is.mk' Try.func33 (by kernel_rfl)
def b34:F2:=(F2.mk 21 [RV.t 2] ((ops 0 [cO 1 (box (t 0)),cO 2 (mov an)]).seq ((ops 0 [cO 3 (fa 0 (t 1)),cO 4 (cD 3),cO 5 (cB .geq (t 4) (cN 0)),cO 6 (cM 5),cG 7 6 true (fa 0 (t 1)),cG 8 6 true (cD 7),cG 9 6 true (cB .lss (t 8) (cN 8)),cO 10 (pick (t 6) (t 9) an),cO 11 (cM 10),cG 12 11 true (fa 1 (t 1)),cG 13 11 true (cD 12),cG 14 11 true (cB .geq (t 13) (cN 0)),cO 15 (pick (t 11) (t 14) an),cO 16 (cM 15),cG 17 16 true (fa 1 (t 1)),cG 18 16 true (cD 17),cG 19 16 true (cB .leq (t 18) (cN 1048576)),cO 20 (pick (t 16) (t 19) an),cO 2 (cM 20)]).seq ret)))
theorem rU:Is Try.prog 34 b34:=Is.mk' Try.func34 (by kernel_rfl)
def b35:F2:=(F2.mk 17 [RV.t 4] ((ops 0 [cO 2 (box (t 0)),cO 3 (box (t 1)),cO 4 (mov (cN 0))]).seq ((mixS 1 [cO 5 (fa 0 (t 2)),cO 6 (cD 5),cO 7 (fa 0 (t 3)),cO 8 (cD 7),cO 9 (call (cF 57) [t 6,t 8]),cO 10 (fa 1 (t 2)),cO 11 (cD 10),cO 12 (fa 1 (t 3)),cO 13 (cD 12),cO 14 (call (cF 57) [t 11,t 13]),cO 15 (bldS 1 2 [AV.int IntKind.i64 (0)] [(0,1,t 9),(1,1,t 14)]),cO 16 (call (cF 56) [t 15]),cO 4 (cM 16)] [(0,0),(1,0),(2,0),(3,0),(5,0),(6,0),(7,0),(8,0),(4,1),(9,2),(10,2),(11,2),(12,0)]).seq ret)))
theorem rl:Is Try.prog 35 b35:=Is.mk' Try.func35 (by kernel_rfl)
def b36:F2:=(F2.mk 34 [RV.t 4,RV.t 5] ((ops 0 [cO 4 (mov (c AV.esl)),cO 5 (mov an)]).seq ((ops 0 [cO 6 (mov (c AV.esl))]).seq (((ops 0 [cO 11 (cM 1),cO 12 (lenS (t 11)),cO 13 (mov (cN 0))]).seq (block 0 ((ops 0 [cO 14 (cB .lss (t 13) (t 12))]).seq ((C2.cond (t 14) skip (exit 0)).seq ((block 1 ((ops 0 [cO 15 (ixaS 2 (t 11) (t 13)),cO 16 (ldn 2 (t 15)),cO 8 (alloc (AV.agg [AV.int IntKind.i64 (0),AV.int IntKind.i64 (0)])),Op2.mk none none (Ins.st 2 (t 8) (t 16))]).seq ((ops 0 [cO 18 (cM 0),cO 19 (ldn 2 (t 8)),cO 20 (Ins.mget (MK.st [int,int]) (AV.agg [AV.int IntKind.i64 (0),AV.int IntKind.i64 (0)]) true (t 18) (t 19)),cO 17 (cM 20),cO 21 (ext (t 17) 0),cO 22 (ext (t 17) 1),cO 9 (alloc (AV.agg [AV.int IntKind.i64 (0),AV.int IntKind.i64 (0)])),Op2.mk none none (Ins.st 2 (t 9) (t 21)),cO 10 (cM 22)]).seq (((ops 0 [cO 23 (cM 10),cO 24 (un UnOp.not (t 23))]).seq (C2.cond (t 24) ((ops 0 [cO 4 (mov (c AV.esl)),cO 5 (mov an)]).seq ret) skip)).seq (ops 0 [cO 25 (cM 6),cO 26 (ldn 2 (t 9)),cO 27 (bldS 2 1 [AV.int IntKind.i64 (0),AV.int IntKind.i64 (0)] [(0,2,t 26)]),cO 28 (app 2 16 (t 25) (t 27)),cO 6 (cM 28)]))))).seq (ops 0 [cO 29 (cB .add (t 13) (cN 1)),cO 13 (cM 29)])))).loop)).seq ((ops 0 [cO 30 (cM 6),cO 31 (call (cF 58) [t 30,c (AV.func 31 [])])]).seq ((ops 0 [cO 32 (cM 6),cO 33 (call (cF 59) [t 32]),cO 4 (cM 33),cO 5 (mov bt)]).seq ret))))))
theorem rh:Is Try.prog 36 b36:=Is.mk' Try.func36 (by kernel_rfl)
def b37:F2:=(F2.mk 5 [RV.t 2] ((ops 0 [cO 2 (mov (c AV.esl))]).seq ((ops 0 [cO 3 (cM 0),cO 4 (call (cF 60) [c AV.esl,t 3]),cO 2 (cM 4)]).seq ret)))
theorem rz:Is Try.prog 37 b37:=Is.mk' Try.func37 (by kernel_rfl)
def b38:F2:=(F2.mk 6 [RV.t 4] ((ops 0 [cO 2 (box (t 0)),cO 3 (box (t 1)),cO 4 (mov (c AV.nilf))]).seq ((ops 0 [cO 5 (mkfn 61 [t 3,t 2]),cO 4 (cM 5)]).seq ret)))
theorem rg:Is Try.prog 38 b38:=Is.mk' Try.func38 (by kernel_rfl)
def b39:F2:=(F2.mk 43 [RV.t 4] ((ops 0 [cO 4 (mov (cN 0))]).seq (((ops 0 [cO 5 (mov (cN 0))]).seq (block 0 (((ops 0 [cO 7 (cM 5),cO 8 (cM 0),cO 9 (lenS (t 8)),cO 10 (cB .lss (t 7) (t 9)),cO 11 (cM 10),cG 12 11 true (cM 5),cG 13 11 true (cM 1),cG 14 11 true (lenS (t 13)),cG 15 11 true (cB .lss (t 12) (t 14)),cO 16 (pick (t 11) (t 15) an)]).seq (C2.cond (t 16) skip (exit 0))).seq ((block 1 ((mixS 1 [cO 19 (cM 0),cO 20 (cM 5),cO 21 (ixaS 2 (t 19) (t 20)),cO 22 (ldn 2 (t 21)),cO 23 (cM 1),cO 24 (cM 5),cO 25 (ixaS 2 (t 23) (t 24)),cO 26 (ldn 2 (t 25)),cO 27 (call (cF 33) [t 22,t 26]),cO 6 (cM 27)] [(0,0),(1,0),(2,0),(3,0),(4,0),(5,0),(6,0),(7,0),(8,2),(9,0)]).seq ((ops 0 [cO 28 (cM 6),cO 29 (cB .neq (t 28) (cN 0))]).seq (C2.cond (t 29) ((ops 0 [cO 30 (cM 6),cO 4 (cM 30)]).seq ret) skip)))).seq (ops 0 [cO 17 (cM 5),cO 18 (cB .add (t 17) (cN 1)),cO 5 (cM 18)]))).loop)).seq ((block 2 ((ops 0 [cO 32 (cM 0),cO 33 (lenS (t 32)),cO 34 (cM 1),cO 35 (lenS (t 34)),cO 36 (cB .lss (t 33) (t 35)),cO 31 (cM 36)]).seq (C2.cond (t 31) ((ops 0 [cO 4 (mov (cN ((-1))))]).seq ret) ((ops 0 [cO 38 (cM 0),cO 39 (lenS (t 38)),cO 40 (cM 1),cO 41 (lenS (t 40)),cO 42 (cB .gtr (t 39) (t 41)),cO 37 (cM 42)]).seq (C2.cond (t 37) ((ops 0 [cO 4 (mov (cN 1))]).seq ret) skip))))).seq ((ops 0 [cO 4 (mov (cN 0))]).seq ret)))))
theorem r8:Is Try.prog 39 b39:=Is.mk' Try.func39 (by kernel_rfl)
def b40:F2:=(F2.mk 148 [] ((ops 0 [cO 10 (mov bt)]).seq ((ops 0 [cO 11 (mov bt)]).seq (block 0 (block 1 ((ops 0 [cO 21 (cM 2),cO 22 (cM 1),cO 23 (cB .sub (t 21) (t 22)),cO 12 (cM 23)]).seq (((ops 0 [cO 24 (cM 12),cO 25 (cB .leq (t 24) (cN 12))]).seq (C2.cond (t 25) ((ops 0 [cO 26 (cM 0),cO 27 (cM 1),cO 28 (cM 2),cO 29 (cM 4),cO 30 (call (cF 63) [t 26,t 27,t 28,t 29])]).seq ret) skip)).seq (((ops 0 [cO 31 (cM 3),cO 32 (cB .eql (t 31) (cN 0))]).seq (C2.cond (t 32) ((ops 0 [cO 33 (cM 0),cO 34 (cM 1),cO 35 (cM 2),cO 36 (cM 4),cO 37 (call (cF 64) [t 33,t 34,t 35,t 36])]).seq ret) skip)).seq (((ops 0 [cO 38 (cM 10),cO 39 (un UnOp.not (t 38))]).seq (C2.cond (t 39) ((ops 0 [cO 40 (cM 0),cO 41 (cM 1),cO 42 (cM 2),cO 43 (cM 4),cO 44 (call (cF 65) [t 40,t 41,t 42,t 43])]).seq (ops 0 [cO 45 (cM 3),cO 46 (cB .sub (t 45) (cN 1)),cO 3 (cM 46)])) skip)).seq ((ops 0 [cO 48 (cM 0),cO 49 (cM 1),cO 50 (cM 2),cO 51 (cM 4),cO 52 (call (cF 66) [t 48,t 49,t 50,t 51]),cO 47 (cM 52),cO 53 (ext (t 47) 0),cO 54 (ext (t 47) 1),cO 13 (cM 53),cO 14 (cM 54)]).seq (((ops 0 [cO 55 (cM 14),cO 56 (cB .eql (t 55) (cN 2))]).seq (C2.cond (t 56) ((ops 0 [cO 57 (cM 0),cO 58 (cM 1),cO 59 (cM 2),cO 60 (cM 4),cO 61 (call (cF 67) [t 57,t 58,t 59,t 60])]).seq ((ops 0 [cO 62 (cM 2),cO 63 (cB .sub (t 62) (cN 1)),cO 64 (cM 13),cO 65 (cM 1),cO 66 (cB .sub (t 64) (t 65)),cO 67 (cB .sub (t 63) (t 66)),cO 13 (cM 67)]).seq (ops 0 [cO 14 (mov (cN 1))]))) skip)).seq (((ops 0 [cO 68 (cM 10),cO 69 (cM 68),cG 70 69 true (cM 11),cO 71 (pick (t 69) (t 70) an),cO 72 (cM 71),cG 73 72 true (cM 14),cG 74 72 true (cB .eql (t 73) (cN 1)),cO 75 (pick (t 72) (t 74) an)]).seq (C2.cond (t 75) ((ops 0 [cO 76 (cM 0),cO 77 (cM 1),cO 78 (cM 2),cO 79 (cM 4),cO 80 (call (cF 68) [t 76,t 77,t 78,t 79])]).seq (C2.cond (t 80) ret skip)) skip)).seq (((mixS 1 [cO 81 (cM 1),cO 82 (cB .gtr (t 81) (cN 0)),cO 83 (cM 82),cG 84 83 true (cM 4),cG 85 83 true (cM 0),cG 86 83 true (cM 1),cG 87 83 true (cB .sub (t 86) (cN 1)),cG 88 83 true (ixaS 1 (t 85) (t 87)),cG 89 83 true (cD 88),cG 90 83 true (cM 0),cG 91 83 true (cM 13),cG 92 83 true (ixaS 1 (t 90) (t 91)),cG 93 83 true (cD 92),cG 94 83 true (call (t 84) [t 89,t 93]),cG 95 83 true (cB .lss (t 94) (cN 0)),cG 96 83 true (un UnOp.not (t 95)),cO 97 (pick (t 83) (t 96) an)] [(0,0),(1,0),(2,0),(3,0),(4,0),(5,0),(6,0),(7,0),(8,0),(9,0),(10,0),(11,0),(12,0),(13,2),(14,0),(15,0),(16,0)]).seq (C2.cond (t 97) ((ops 0 [cO 98 (cM 0),cO 99 (cM 1),cO 100 (cM 2),cO 101 (cM 13),cO 102 (cM 4),cO 103 (call (cF 69) [t 98,t 99,t 100,t 101,t 102]),cO 15 (cM 103)]).seq ((ops 0 [cO 104 (cM 15),cO 1 (cM 104)]).seq (exit 1))) skip)).seq ((ops 0 [cO 106 (cM 0),cO 107 (cM 1),cO 108 (cM 2),cO 109 (cM 13),cO 110 (cM 4),cO 111 (call (cF 70) [t 106,t 107,t 108,t 109,t 110]),cO 105 (cM 111),cO 112 (ext (t 105) 0),cO 113 (ext (t 105) 1),cO 16 (cM 112),cO 17 (cM 113)]).seq ((ops 0 [cO 114 (cM 17),cO 11 (cM 114)]).seq ((ops 0 [cO 115 (cM 16),cO 116 (cM 1),cO 117 (cB .sub (t 115) (t 116)),cO 118 (cM 2),cO 119 (cM 16),cO 120 (cB .sub (t 118) (t 119)),cO 18 (cM 117),cO 19 (cM 120)]).seq ((ops 0 [cO 121 (cM 12),cO 122 (cB .quo (t 121) (cN 8)),cO 20 (cM 122)]).seq ((ops 0 [cO 123 (cM 18),cO 124 (cM 19),cO 125 (cB .lss (t 123) (t 124))]).seq (C2.cond (t 125) ((ops 0 [cO 126 (cM 18),cO 127 (cM 20),cO 128 (cB .geq (t 126) (t 127)),cO 10 (cM 128)]).seq ((ops 0 [cO 129 (cM 0),cO 130 (cM 1),cO 131 (cM 16),cO 132 (cM 3),cO 133 (cM 4),cO 134 (call (cF 40) [t 129,t 130,t 131,t 132,t 133])]).seq (ops 0 [cO 135 (cM 16),cO 136 (cB .add (t 135) (cN 1)),cO 1 (cM 136)]))) ((ops 0 [cO 137 (cM 19),cO 138 (cM 20),cO 139 (cB .geq (t 137) (t 138)),cO 10 (cM 139)]).seq ((ops 0 [cO 140 (cM 0),cO 141 (cM 16),cO 142 (cB .add (t 141) (cN 1)),cO 143 (cM 2),cO 144 (cM 3),cO 145 (cM 4),cO 146 (call (cF 40) [t 140,t 142,t 143,t 144,t 145])]).seq (ops 0 [cO 147 (cM 16),cO 2 (cM 147)])))))))))))))))))).loop))))
theorem rQ:Is Try.prog 40 b40:=Is.mk' Try.func40 (by kernel_rfl)
def b41:F2:=(F2.mk 8 [RV.t 2] ((ops 0 [cO 2 (mov (cN 0))]).seq ((C2.cond an ((ops 0 [cO 3 (cM 0),cO 4 (conv IntKind.u32 (t 3)),cO 5 (call (cF 71) [t 4]),cO 2 (cM 5)]).seq ret) skip).seq ((ops 0 [cO 6 (cM 0),cO 7 (call (cF 72) [t 6]),cO 2 (cM 7)]).seq ret))))
theorem rW:Is Try.prog 41 b41:=Is.mk' Try.func41 (by kernel_rfl)
def b42:F2:=(F2.mk 39 [RV.t 6] ((ops 0 [cO 6 (mov (cN 0))]).seq (((ops 0 [cO 11 (cM 0),cO 12 (lenS (t 11)),cO 13 (mov (cN 0))]).seq (block 0 ((ops 0 [cO 14 (cB .lss (t 13) (t 12))]).seq ((C2.cond (t 14) skip (exit 0)).seq ((block 1 ((ops 0 [cO 15 (cM 13),cO 16 (ixaS 2 (t 11) (t 13)),cO 17 (ldn 2 (t 16)),cO 8 (alloc (AV.agg [AV.int IntKind.i64 (0),AV.int IntKind.i64 (0)])),cO 7 (cM 15),Op2.mk none none (Ins.st 2 (t 8) (t 17))]).seq (((ops 0 [cO 18 (cM 7),cO 19 (cM 1),cO 20 (lenS (t 19)),cO 21 (cB .geq (t 18) (t 20))]).seq (C2.cond (t 21) ((ops 0 [cO 6 (mov (cN 1))]).seq ret) skip)).seq ((ops 0 [cO 22 (cM 1),cO 23 (cM 7),cO 24 (ixaS 2 (t 22) (t 23)),cO 25 (ldn 2 (t 24)),cO 9 (alloc (AV.agg [AV.int IntKind.i64 (0),AV.int IntKind.i64 (0)])),Op2.mk none none (Ins.st 2 (t 9) (t 25))]).seq ((ops 0 [cO 26 (cM 2),cO 27 (ldn 2 (t 8)),cO 28 (ldn 2 (t 9)),cO 29 (call (t 26) [t 27,t 28]),cO 10 (cM 29)]).seq ((ops 0 [cO 30 (cM 10),cO 31 (cB .neq (t 30) (cN 0))]).seq (C2.cond (t 31) ((ops 0 [cO 32 (cM 10),cO 6 (cM 32)]).seq ret) skip))))))).seq (ops 0 [cO 33 (cB .add (t 13) (cN 1)),cO 13 (cM 33)])))).loop)).seq (((ops 0 [cO 34 (cM 0),cO 35 (lenS (t 34)),cO 36 (cM 1),cO 37 (lenS (t 36)),cO 38 (cB .lss (t 35) (t 37))]).seq (C2.cond (t 38) ((ops 0 [cO 6 (mov (cN ((-1))))]).seq ret) skip)).seq ((ops 0 [cO 6 (mov (cN 0))]).seq ret)))))
theorem rt:Is Try.prog 42 b42:=Is.mk' Try.func42 (by kernel_rfl)
def b43:F2:=(F2.mk 60 [RV.t 2] ((ops 0 [cO 1 (box (t 0)),cO 2 (mov (cN 0))]).seq (((ops 0 [cO 9 (fa 0 (t 1)),cO 10 (cD 9),cO 11 (lenS (t 10)),cO 12 (cB .gtr (t 11) (cN 4096))]).seq (C2.cond (t 12) ((ops 0 [cO 2 (mov (cN 5))]).seq ret) skip)).seq (((ops 0 [cO 13 (fa 0 (t 1)),cO 14 (cD 13),cO 15 (lenS (t 14)),cO 16 (mov (cN 0))]).seq (block 0 ((ops 0 [cO 17 (cB .lss (t 16) (t 15))]).seq ((C2.cond (t 17) skip (exit 0)).seq ((block 1 ((ops 0 [cO 18 (cM 16),cO 19 (ixaS 1 (t 14) (t 16)),cO 20 (cD 19),cO 3 (cM 18),cO 4 (cM 20)]).seq (((ops 0 [cO 21 (cM 4),cO 22 (call (cF 12) [t 21]),cO 5 (cM 22)]).seq ((ops 0 [cO 23 (cM 5),cO 24 (cB .neq (t 23) (cN 0))]).seq (C2.cond (t 24) ((ops 0 [cO 25 (cM 5),cO 2 (cM 25)]).seq ret) skip))).seq ((ops 0 [cO 26 (cM 3),cO 27 (cB .gtr (t 26) (cN 0)),cO 28 (cM 27),cG 29 28 true (fa 0 (t 1)),cG 30 28 true (cD 29),cG 31 28 true (cM 3),cG 32 28 true (cB .sub (t 31) (cN 1)),cG 33 28 true (ixaS 1 (t 30) (t 32)),cG 34 28 true (cD 33),cG 35 28 true (cM 4),cG 36 28 true (call (cF 20) [t 34,t 35]),cG 37 28 true (cB .geq (t 36) (cN 0)),cO 38 (pick (t 28) (t 37) an)]).seq (C2.cond (t 38) ((ops 0 [cO 2 (mov (cN 14))]).seq ret) skip))))).seq (ops 0 [cO 39 (cB .add (t 16) (cN 1)),cO 16 (cM 39)])))).loop)).seq ((ops 0 [cO 40 (fa 0 (t 1)),cO 41 (cD 40),cO 42 (call (cF 73) [t 41]),cO 6 (cM 42)]).seq (((ops 0 [cO 43 (fa 0 (t 1)),cO 44 (cD 43),cO 45 (lenS (t 44)),cO 46 (mov (cN 0))]).seq (block 2 ((ops 0 [cO 47 (cB .lss (t 46) (t 45))]).seq ((C2.cond (t 47) skip (exit 2)).seq ((block 3 ((ops 0 [cO 48 (ixaS 1 (t 44) (t 46)),cO 49 (cD 48),cO 8 (cM 49)]).seq ((mixS 9 [cO 50 (fa 0 (t 1)),cO 51 (cD 50),cO 52 (cM 6),cO 53 (cM 8),cO 54 (ixaS 2 (t 53) (cN 0)),cO 55 (ldn 2 (t 54)),cO 56 (Ins.mget (MK.st [int,int]) AV.esl false (t 52) (t 55)),cO 57 (cM 8),cO 58 (call (cF 74) [t 51,t 56,t 57])] [(0,0),(1,0),(2,0),(3,0),(4,0),(5,0),(7,0),(6,1),(8,2)]).seq (C2.cond (t 58) ((ops 0 [cO 2 (mov (cN 7))]).seq ret) skip)))).seq (ops 0 [cO 59 (cB .add (t 46) (cN 1)),cO 46 (cM 59)])))).loop)).seq ((ops 0 [cO 2 (mov (cN 0))]).seq ret)))))))
theorem rX:Is Try.prog 43 b43:=Is.mk' Try.func43 (by kernel_rfl)
def b44:F2:=(F2.mk 32 [RV.t 4,RV.t 5] ((ops 0 [cO 3 (box (t 1)),cO 4 (mov (c AV.esl)),cO 5 (mov an)]).seq ((ops 0 [cO 6 (mov (c AV.esl))]).seq (((ops 0 [cO 11 (fa 0 (t 3)),cO 12 (cD 11),cO 13 (lenS (t 12)),cO 14 (mov (cN 0))]).seq (block 0 ((ops 0 [cO 15 (cB .lss (t 14) (t 13))]).seq ((C2.cond (t 15) skip (exit 0)).seq ((block 1 ((ops 0 [cO 16 (ixaS 1 (t 12) (t 14)),cO 17 (cD 16),cO 8 (cM 17)]).seq ((ops 0 [cO 19 (cM 0),cO 20 (cM 8),cO 21 (call (cF 36) [t 19,t 20]),cO 18 (cM 21),cO 22 (ext (t 18) 0),cO 23 (ext (t 18) 1),cO 9 (cM 22),cO 10 (cM 23)]).seq (((ops 0 [cO 24 (cM 10),cO 25 (un UnOp.not (t 24))]).seq (C2.cond (t 25) ((ops 0 [cO 4 (mov (c AV.esl)),cO 5 (mov an)]).seq ret) skip)).seq (ops 0 [cO 26 (cM 6),cO 27 (cM 9),cO 28 (bldS 1 1 [AV.esl] [(0,1,t 27)]),cO 29 (app 1 24 (t 26) (t 28)),cO 6 (cM 29)]))))).seq (ops 0 [cO 30 (cB .add (t 14) (cN 1)),cO 14 (cM 30)])))).loop)).seq ((ops 0 [cO 31 (cM 6),cO 4 (cM 31),cO 5 (mov bt)]).seq ret)))))
theorem se:Is Try.prog 44 b44:=Is.mk' Try.func44 (by kernel_rfl)
def b45:F2:=(F2.mk 9 [RV.t 4] ((ops 0 [cO 3 (box (t 1)),cO 4 (mov an)]).seq ((ops 0 [cO 5 (cM 0),cO 6 (mkfn 47 [t 3]),cO 7 (call (cF 46) [t 5,t 6]),cO 8 (un UnOp.not (t 7)),cO 4 (cM 8)]).seq ret)))
theorem rD:Is Try.prog 45 b45:=Is.mk' Try.func45 (by kernel_rfl)
def b46:F2:=(F2.mk 9 [RV.t 4] ((ops 0 [cO 4 (mov an)]).seq ((ops 0 [cO 5 (cM 0),cO 6 (cM 1),cO 7 (call (cF 75) [t 5,t 6]),cO 8 (cB .geq (t 7) (cN 0)),cO 4 (cM 8)]).seq ret)))
theorem rE:Is Try.prog 46 b46:=Is.mk' Try.func46 (by kernel_rfl)
def b47:F2:=(F2.mk 8 [RV.t 3] ((ops 0 [cO 2 (box (t 0)),cO 3 (mov an)]).seq ((ops 0 [cO 4 (cD 1),cO 5 (ldn 2 (t 2)),cO 6 (call (cF 48) [t 4,t 5]),cO 7 (un UnOp.not (t 6)),cO 3 (cM 7)]).seq ret)))
theorem rS:Is Try.prog 47 b47:=Is.mk' Try.func47 (by kernel_rfl)
def b48:F2:=(F2.mk 9 [RV.t 4] ((ops 0 [cO 3 (box (t 1)),cO 4 (mov an)]).seq ((ops 0 [cO 5 (cM 0),cO 6 (ldn 2 (t 3)),cO 7 (call (cF 76) [t 5,t 6]),cO 8 (cB .geq (t 7) (cN 0)),cO 4 (cM 8)]).seq ret)))
theorem sa:Is Try.prog 48 b48:=Is.mk' Try.func48 (by kernel_rfl)
def b49:F2:=(F2.mk 9 [RV.t 4] ((ops 0 [cO 4 (mov an)]).seq ((ops 0 [cO 5 (cM 0),cO 6 (cM 1),cO 7 (call (cF 15) [t 5,t 6]),cO 8 (cB .geq (t 7) (cN 0)),cO 4 (cM 8)]).seq ret)))
theorem r7:Is Try.prog 49 b49:=Is.mk' Try.func49 (by kernel_rfl)
def b50:F2:=(F2.mk 10 [RV.t 4] ((ops 0 [cO 3 (box (t 0)),cO 4 (mov an)]).seq ((ops 0 [cO 5 (fa 0 (t 1)),cO 6 (cD 5),cO 7 (mkfn 51 [t 2,t 3]),cO 8 (call (cF 49) [t 6,t 7]),cO 9 (un UnOp.not (t 8)),cO 4 (cM 9)]).seq ret)))
theorem sc:Is Try.prog 50 b50:=Is.mk' Try.func50 (by kernel_rfl)
def b51:F2:=(F2.mk 9 [RV.t 4] ((ops 0 [cO 4 (mov an)]).seq ((ops 0 [cO 5 (cD 1),cO 6 (cD 2),cO 7 (cM 0),cO 8 (call (t 5) [t 6,t 7]),cO 4 (cM 8)]).seq ret)))
theorem ro:Is Try.prog 51 b51:=Is.mk' Try.func51 (by kernel_rfl)
def b52:F2:=(F2.mk 24 [RV.t 4,RV.t 5] ((ops 0 [cO 2 (box (t 0)),cO 4 (mov (c AV.esl)),cO 5 (mov (cN 0))]).seq (((ops 0 [cO 7 (ldn 1 (t 2)),cO 8 (call (cF 43) [t 7]),cO 6 (cM 8)]).seq ((ops 0 [cO 9 (cM 6),cO 10 (cB .neq (t 9) (cN 0))]).seq (C2.cond (t 10) ((ops 0 [cO 11 (cM 6),cO 4 (mov (c AV.esl)),cO 5 (cM 11)]).seq ret) skip))).seq (((ops 0 [cO 12 (cM 1),cO 13 (cB .lss (t 12) (cN 1)),cO 14 (cM 13),cG 15 14 false (cM 1),cG 16 14 false (cB .gtr (t 15) (cN 8)),cO 17 (pick (t 14) bt (t 16))]).seq (C2.cond (t 17) ((ops 0 [cO 4 (mov (c AV.esl)),cO 5 (mov (cN 2))]).seq ret) skip)).seq ((ops 0 [cO 18 (fa 0 (t 2)),cO 19 (cD 18),cO 20 (cM 1),cO 21 (call (cF 77) [t 19,t 20]),cO 22 (ext (t 21) 0),cO 23 (ext (t 21) 1),cO 4 (cM 22),cO 5 (cM 23)]).seq ret)))))
theorem r6:Is Try.prog 52 b52:=Is.mk' Try.func52 (by kernel_rfl)
def b53:F2:=(F2.mk 14 [RV.t 6,RV.t 7] ((ops 0 [cO 6 (mov (cN 0)),cO 7 (mov an)]).seq ((ops 0 [cO 8 (cM 0),cO 9 (cM 1),cO 10 (cM 2),cO 11 (call (cF 78) [t 8,t 9,t 10]),cO 12 (ext (t 11) 0),cO 13 (ext (t 11) 1),cO 6 (cM 12),cO 7 (cM 13)]).seq ret)))
theorem rj:Is Try.prog 53 b53:=Is.mk' Try.func53 (by kernel_rfl)
def b54:F2:=(F2.mk 8 [RV.t 2] ((ops 0 [cO 2 (mov (c AV.esl))]).seq (((ops 0 [cO 3 (cM 0),cO 4 (snil false (t 3))]).seq (C2.cond (t 4) ((ops 0 [cO 2 (mov (c AV.esl))]).seq ret) skip)).seq ((ops 0 [cO 5 (bldS 2 0 [AV.int IntKind.i64 (0),AV.int IntKind.i64 (0)] []),cO 6 (cM 0),cO 7 (app 2 16 (t 5) (t 6)),cO 2 (cM 7)]).seq ret))))
theorem rG:Is Try.prog 54 b54:=Is.mk' Try.func54 (by kernel_rfl)
def b55:F2:=(F2.mk 26 [RV.t 4] ((ops 0 [cO 4 (mov an)]).seq (((ops 0 [cO 6 (cM 0),cO 7 (lenS (t 6)),cO 8 (cM 1),cO 9 (lenS (t 8)),cO 10 (cB .neq (t 7) (t 9))]).seq (C2.cond (t 10) ((ops 0 [cO 4 (mov an)]).seq ret) skip)).seq (((ops 0 [cO 5 (mov (cN 0))]).seq (block 0 (((ops 0 [cO 11 (cM 5),cO 12 (cM 0),cO 13 (lenS (t 12)),cO 14 (cB .lss (t 11) (t 13))]).seq (C2.cond (t 14) skip (exit 0))).seq ((block 1 ((ops 1 [cO 17 (cM 0),cO 18 (cM 5),cO 19 (ixaS 1 (t 17) (t 18)),cO 20 (cD 19),cO 21 (cM 1),cO 22 (cM 5),cO 23 (ixaS 1 (t 21) (t 22)),cO 24 (cD 23),cO 25 (cB .neq (t 20) (t 24))]).seq (C2.cond (t 25) ((ops 0 [cO 4 (mov an)]).seq ret) skip))).seq (ops 0 [cO 15 (cM 5),cO 16 (cB .add (t 15) (cN 1)),cO 5 (cM 16)]))).loop)).seq ((ops 0 [cO 4 (mov bt)]).seq ret)))))
theorem q0:Is Try.prog 55 b55:=Is.mk' Try.func55 (by kernel_rfl)
def b56:F2:=(F2.mk 18 [RV.t 2] ((ops 0 [cO 2 (mov (cN 0))]).seq ((ops 0 [cO 3 (mov (cN 0))]).seq (((ops 0 [cO 6 (cM 0),cO 7 (lenS (t 6)),cO 8 (mov (cN 0))]).seq (block 0 ((ops 0 [cO 9 (cB .lss (t 8) (t 7))]).seq ((C2.cond (t 9) skip (exit 0)).seq ((block 1 ((ops 0 [cO 10 (ixaS 1 (t 6) (t 8)),cO 11 (cD 10),cO 5 (cM 11)]).seq ((ops 0 [cO 12 (cM 5),cO 13 (cM 3),cO 14 (cB .neq (t 12) (t 13))]).seq (C2.cond (t 14) ((ops 0 [cO 15 (cM 5),cO 2 (cM 15)]).seq ret) skip)))).seq (ops 0 [cO 16 (cB .add (t 8) (cN 1)),cO 8 (cM 16)])))).loop)).seq ((ops 0 [cO 17 (cM 3),cO 2 (cM 17)]).seq ret)))))
theorem qv:Is Try.prog 56 b56:=Is.mk' Try.func56 (by kernel_rfl)
def b57:F2:=(F2.mk 20 [RV.t 4] ((ops 0 [cO 4 (mov (cN 0))]).seq ((ops 0 [cO 7 (cM 0),cO 8 (call (cF 79) [t 7]),cO 5 (cM 8)]).seq ((ops 0 [cO 9 (cM 1),cO 10 (call (cF 79) [t 9]),cO 6 (cM 10)]).seq (((ops 0 [cO 11 (cM 5)]).seq (C2.cond (t 11) (((ops 0 [cO 12 (cM 6)]).seq (C2.cond (t 12) ((ops 0 [cO 4 (mov (cN 0))]).seq ret) skip)).seq ((ops 0 [cO 4 (mov (cN ((-1))))]).seq ret)) skip)).seq (((ops 0 [cO 13 (cM 6)]).seq (C2.cond (t 13) ((ops 0 [cO 4 (mov (cN 1))]).seq ret) skip)).seq (((ops 0 [cO 14 (cM 0),cO 15 (cM 1),cO 16 (cB .lss (t 14) (t 15))]).seq (C2.cond (t 16) ((ops 0 [cO 4 (mov (cN ((-1))))]).seq ret) skip)).seq (((ops 0 [cO 17 (cM 0),cO 18 (cM 1),cO 19 (cB .gtr (t 17) (t 18))]).seq (C2.cond (t 19) ((ops 0 [cO 4 (mov (cN 1))]).seq ret) skip)).seq ((ops 0 [cO 4 (mov (cN 0))]).seq ret)))))))))
theorem qS:Is Try.prog 57 b57:=Is.mk' Try.func57 (by kernel_rfl)
def b58:F2:=(F2.mk 14 [] ((ops 0 [cO 5 (cM 0),cO 6 (lenS (t 5)),cO 4 (cM 6)]).seq (ops 0 [cO 7 (cM 0),cO 8 (cM 4),cO 9 (cM 4),cO 10 (conv IntKind.u64 (t 9)),cO 11 (call (cF 41) [t 10]),cO 12 (cM 1),cO 13 (call (cF 80) [t 7,cN ((0)),t 8,t 11,t 12])])))
theorem rf:Is Try.prog 58 b58:=Is.mk' Try.func58 (by kernel_rfl)
def b59:F2:=(F2.mk 61 [RV.t 2] ((ops 0 [cO 2 (mov (c AV.esl))]).seq (((ops 0 [cO 6 (cM 0),cO 7 (lenS (t 6)),cO 8 (cB .lss (t 7) (cN 2))]).seq (C2.cond (t 8) ((ops 0 [cO 9 (cM 0),cO 2 (cM 9)]).seq ret) skip)).seq (((ops 0 [cO 3 (mov (cN 1))]).seq (block 0 (((ops 0 [cO 10 (cM 3),cO 11 (cM 0),cO 12 (lenS (t 11)),cO 13 (cB .lss (t 10) (t 12))]).seq (C2.cond (t 13) skip (exit 0))).seq ((block 1 ((ops 1 [cO 16 (cM 0),cO 17 (cM 3),cO 18 (ixaS 2 (t 16) (t 17)),cO 19 (ldn 2 (t 18)),cO 20 (cM 0),cO 21 (cM 3),cO 22 (cB .sub (t 21) (cN 1)),cO 23 (ixaS 2 (t 20) (t 22)),cO 24 (ldn 2 (t 23)),cO 25 (binS BinOp.eql [int,int] (t 19) (t 24))]).seq (C2.cond (t 25) ((ops 0 [cO 26 (cM 0),cO 27 (cM 3),cO 28 (sls 2 (t 26) (some (t 27)) none none),cO 4 (cM 28)]).seq (((ops 0 [cO 5 (mov (cN 1))]).seq (block 2 (((ops 0 [cO 29 (cM 5),cO 30 (cM 4),cO 31 (lenS (t 30)),cO 32 (cB .lss (t 29) (t 31))]).seq (C2.cond (t 32) skip (exit 2))).seq ((block 3 ((ops 1 [cO 35 (cM 4),cO 36 (cM 5),cO 37 (ixaS 2 (t 35) (t 36)),cO 38 (ldn 2 (t 37)),cO 39 (cM 4),cO 40 (cM 5),cO 41 (cB .sub (t 40) (cN 1)),cO 42 (ixaS 2 (t 39) (t 41)),cO 43 (ldn 2 (t 42)),cO 44 (binS BinOp.neq [int,int] (t 38) (t 43))]).seq (C2.cond (t 44) ((ops 0 [cO 45 (cM 0),cO 46 (cM 3),cO 47 (cM 4),cO 48 (cM 5),cO 49 (ixaS 2 (t 47) (t 48)),cO 50 (ldn 2 (t 49)),cO 51 (ixaS 2 (t 45) (t 46)),Op2.mk none none (Ins.st 2 (t 51) (t 50))]).seq (ops 0 [cO 52 (cM 3),cO 53 (cB .add (t 52) (cN 1)),cO 3 (cM 53)])) skip))).seq (ops 0 [cO 33 (cM 5),cO 34 (cB .add (t 33) (cN 1)),cO 5 (cM 34)]))).loop)).seq ((ops 0 [cO 54 (cM 0),cO 55 (cM 3),cO 56 (sls 2 (t 54) (some (t 55)) none none),Op2.mk none none (clr 2 (AV.agg [AV.int IntKind.i64 (0),AV.int IntKind.i64 (0)]) (t 56))]).seq ((ops 0 [cO 57 (cM 0),cO 58 (cM 3),cO 59 (sls 2 (t 57) none (some (t 58)) none),cO 2 (cM 59)]).seq ret)))) skip))).seq (ops 0 [cO 14 (cM 3),cO 15 (cB .add (t 14) (cN 1)),cO 3 (cM 15)]))).loop)).seq ((ops 0 [cO 60 (cM 0),cO 2 (cM 60)]).seq ret)))))
theorem rJ:Is Try.prog 59 b59:=Is.mk' Try.func59 (by kernel_rfl)
def b60:F2:=(F2.mk 13 [RV.t 4] ((ops 0 [cO 2 (box (t 0)),cO 4 (mov (c AV.esl))]).seq (((ops 0 [cO 6 (cM 1)]).seq (block 0 (rangeF (t 6) [7] (ops 0 [cO 5 (cM 7)]) (block 1 (ops 0 [cO 8 (cD 2),cO 9 (cM 5),cO 10 (bldS 1 1 [AV.esl] [(0,1,t 9)]),cO 11 (app 1 24 (t 8) (t 10)),Op2.mk none none (Ins.st 1 (t 2) (t 11))]))))).seq ((ops 0 [cO 12 (cD 2),cO 4 (cM 12)]).seq ret))))
theorem rY:Is Try.prog 60 b60:=Is.mk' Try.func60 (by kernel_rfl)
def b61:F2:=(F2.mk 10 [] ((ops 0 [cO 3 (box (t 0))]).seq ((ops 0 [cO 4 (alloc AV.nilf)]).seq ((ops 0 [cO 5 (mkfn 62 [t 1,t 3,t 2,t 4]),Op2.mk none none (Ins.st 1 (t 4) (t 5))]).seq (mixS 1 [cO 6 (cD 4),cO 7 (cD 1),cO 8 (mks 2 16 [AV.int IntKind.i64 (0),AV.int IntKind.i64 (0)] (cN 0) (t 7)),cO 9 (call (t 6) [cN ((0)),t 8])] [(0,0),(1,0),(2,1),(3,2)])))))
theorem qY:Is Try.prog 61 b61:=Is.mk' Try.func61 (by kernel_rfl)
def b62:F2:=(F2.mk 37 [RV.t 8] ((ops 0 [cO 8 (mov an)]).seq (((ops 0 [cO 10 (cM 1),cO 11 (lenS (t 10)),cO 12 (cD 2),cO 13 (cB .eql (t 11) (t 12))]).seq (C2.cond (t 13) ((mixS 1 [cO 14 (cD 3),cO 15 (cM 1),cO 16 (call (cF 54) [t 15]),cO 17 (call (t 14) [t 16]),cO 8 (cM 17)] [(0,0),(1,0),(2,1),(3,2),(4,0)]).seq ret) skip)).seq (((ops 0 [cO 18 (cM 0),cO 9 (cM 18)]).seq (block 0 (((ops 0 [cO 19 (cM 9),cO 20 (cD 4),cO 21 (lenS (t 20)),cO 22 (cB .lss (t 19) (t 21))]).seq (C2.cond (t 22) skip (exit 0))).seq ((block 1 ((mixS 2 [cO 25 (cD 5),cO 26 (cM 9),cO 27 (cB .add (t 26) (cN 1)),cO 28 (cM 1),cO 29 (cD 4),cO 30 (cM 9),cO 31 (ixaS 2 (t 29) (t 30)),cO 32 (ldn 2 (t 31)),cO 33 (bldS 2 1 [AV.int IntKind.i64 (0),AV.int IntKind.i64 (0)] [(0,2,t 32)]),cO 34 (app 2 16 (t 28) (t 33)),cO 35 (call (t 25) [t 27,t 34]),cO 36 (un UnOp.not (t 35))] [(0,0),(1,0),(2,0),(3,0),(4,0),(5,0),(6,0),(7,0),(8,1),(9,1),(10,2),(11,0)]).seq (C2.cond (t 36) ((ops 0 [cO 8 (mov an)]).seq ret) skip))).seq (ops 0 [cO 23 (cM 9),cO 24 (cB .add (t 23) (cN 1)),cO 9 (cM 24)]))).loop)).seq ((ops 0 [cO 8 (mov bt)]).seq ret)))))
theorem rR:Is Try.prog 62 b62:=Is.mk' Try.func62 (by kernel_rfl)
def b63:F2:=(F2.mk 53 [] ((ops 0 [cO 10 (cM 1),cO 11 (cB .add (t 10) (cN 1)),cO 8 (cM 11)]).seq (block 0 (((ops 0 [cO 12 (cM 8),cO 13 (cM 2),cO 14 (cB .lss (t 12) (t 13))]).seq (C2.cond (t 14) skip (exit 0))).seq ((block 1 ((ops 0 [cO 17 (cM 8),cO 9 (cM 17)]).seq (block 2 (((mixS 1 [cO 18 (cM 9),cO 19 (cM 1),cO 20 (cB .gtr (t 18) (t 19)),cO 21 (cM 20),cG 22 21 true (cM 3),cG 23 21 true (cM 0),cG 24 21 true (cM 9),cG 25 21 true (ixaS 1 (t 23) (t 24)),cG 26 21 true (cD 25),cG 27 21 true (cM 0),cG 28 21 true (cM 9),cG 29 21 true (cB .sub (t 28) (cN 1)),cG 30 21 true (ixaS 1 (t 27) (t 29)),cG 31 21 true (cD 30),cG 32 21 true (call (t 22) [t 26,t 31]),cG 33 21 true (cB .lss (t 32) (cN 0)),cO 34 (pick (t 21) (t 33) an)] [(0,0),(1,0),(2,0),(3,0),(4,0),(5,0),(6,0),(7,0),(8,0),(9,0),(10,0),(11,0),(12,0),(13,0),(14,2),(15,0),(16,0)]).seq (C2.cond (t 34) skip (exit 2))).seq ((block 3 (ops 1 [cO 37 (cM 0),cO 38 (cM 9),cO 39 (cM 0),cO 40 (cM 9),cO 41 (cB .sub (t 40) (cN 1)),cO 42 (cM 0),cO 43 (cM 9),cO 44 (cB .sub (t 43) (cN 1)),cO 45 (ixaS 1 (t 42) (t 44)),cO 46 (cD 45),cO 47 (cM 0),cO 48 (cM 9),cO 49 (ixaS 1 (t 47) (t 48)),cO 50 (cD 49),cO 51 (ixaS 1 (t 37) (t 38)),Op2.mk none none (Ins.st 1 (t 51) (t 46)),cO 52 (ixaS 1 (t 39) (t 41)),Op2.mk none none (Ins.st 1 (t 52) (t 50))])).seq (ops 0 [cO 35 (cM 9),cO 36 (cB .sub (t 35) (cN 1)),cO 9 (cM 36)]))).loop))).seq (ops 0 [cO 15 (cM 8),cO 16 (cB .add (t 15) (cN 1)),cO 8 (cM 16)]))).loop)))
theorem rI:Is Try.prog 63 b63:=Is.mk' Try.func63 (by kernel_rfl)
def b72:F2:=(F2.mk 25 [RV.t 2] ((ops 0 [cO 2 (mov (cN 0))]).seq (((ops 0 [cO 3 (cM 0),cO 4 (cB .geq (t 3) (c (AV.int IntKind.u64 (4294967296))))]).seq (C2.cond (t 4) ((ops 0 [cO 5 (cM 0),cO 6 (cB .shr (t 5) (c (AV.int IntKind.u64 (32)))),cO 0 (cM 6)]).seq (ops 0 [cO 2 (mov (cN 32))])) skip)).seq (((ops 0 [cO 7 (cM 0),cO 8 (cB .geq (t 7) (c (AV.int IntKind.u64 (65536))))]).seq (C2.cond (t 8) ((ops 0 [cO 9 (cM 0),cO 10 (cB .shr (t 9) (c (AV.int IntKind.u64 (16)))),cO 0 (cM 10)]).seq (ops 0 [cO 11 (cM 2),cO 12 (cB .add (t 11) (cN 16)),cO 2 (cM 12)])) skip)).seq (((ops 0 [cO 13 (cM 0),cO 14 (cB .geq (t 13) (c (AV.int IntKind.u64 (256))))]).seq (C2.cond (t 14) ((ops 0 [cO 15 (cM 0),cO 16 (cB .shr (t 15) (c (AV.int IntKind.u64 (8)))),cO 0 (cM 16)]).seq (ops 0 [cO 17 (cM 2),cO 18 (cB .add (t 17) (cN 8)),cO 2 (cM 18)])) skip)).seq ((ops 0 [cO 19 (cM 2),cO 20 (cM 0),cO 21 (conv IntKind.u8 (t 20)),cO 22 (ixStr (c (AV.str (ByteArray.mk (Array.mk [0,1,2,2,3,3,3,3,4,4,4,4,4,4,4,4,5,5,5,5,5,5,5,5,5,5,5,5,5,5,5,5,6,6,6,6,6,6,6,6,6,6,6,6,6,6,6,6,6,6,6,6,6,6,6,6,6,6,6,6,6,6,6,6,7,7,7,7,7,7,7,7,7,7,7,7,7,7,7,7,7,7,7,7,7,7,7,7,7,7,7,7,7,7,7,7,7,7,7,7,7,7,7,7,7,7,7,7,7,7,7,7,7,7,7,7,7,7,7,7,7,7,7,7,7,7,7,7,8,8,8,8,8,8,8,8,8,8,8,8,8,8,8,8,8,8,8,8,8,8,8,8,8,8,8,8,8,8,8,8,8,8,8,8,8,8,8,8,8,8,8,8,8,8,8,8,8,8,8,8,8,8,8,8,8,8,8,8,8,8,8,8,8,8,8,8,8,8,8,8,8,8,8,8,8,8,8,8,8,8,8,8,8,8,8,8,8,8,8,8,8,8,8,8,8,8,8,8,8,8,8,8,8,8,8,8,8,8,8,8,8,8,8,8,8,8,8,8,8,8,8,8,8,8,8,8])))) (t 21)),cO 23 (conv IntKind.i64 (t 22)),cO 24 (cB .add (t 19) (t 23)),cO 2 (cM 24)]).seq ret))))))
theorem rB:Is Try.prog 72 b72:=Is.mk' Try.func72 (by kernel_rfl)
def b73:F2:=(F2.mk 33 [RV.t 2] ((ops 0 [cO 2 (mov (c AV.undef))]).seq ((ops 0 [cO 8 (mkm none),cO 3 (cM 8)]).seq (((ops 0 [cO 9 (cM 0),cO 10 (lenS (t 9)),cO 11 (mov (cN 0))]).seq (block 0 ((ops 0 [cO 12 (cB .lss (t 11) (t 10))]).seq ((C2.cond (t 12) skip (exit 0)).seq ((block 1 ((ops 0 [cO 13 (cM 11),cO 14 (ixaS 1 (t 9) (t 11)),cO 15 (cD 14),cO 4 (cM 13),cO 5 (cM 15)]).seq ((ops 0 [cO 16 (cM 5),cO 17 (lenS (t 16)),cO 18 (mov (cN 0))]).seq (block 2 ((ops 0 [cO 19 (cB .lss (t 18) (t 17))]).seq ((C2.cond (t 19) skip (exit 2)).seq ((block 3 ((ops 0 [cO 20 (ixaS 2 (t 16) (t 18)),cO 21 (ldn 2 (t 20)),cO 7 (alloc (AV.agg [AV.int IntKind.i64 (0),AV.int IntKind.i64 (0)])),Op2.mk none none (Ins.st 2 (t 7) (t 21))]).seq (ops 0 [cO 22 (cM 3),cO 23 (ldn 2 (t 7)),cO 25 (cM 4),cO 26 (bldS 1 1 [AV.int IntKind.i64 (0)] [(0,1,t 25)]),cO 27 (mplc (MK.st [int,int]) AV.esl (t 22) (t 23)),cO 24 (ext (t 27) 0),cO 28 (app 1 8 (t 24) (t 26)),cO 29 (ext (t 27) 1),Op2.mk none none (mpst (t 22) (t 29) (t 28))]))).seq (ops 0 [cO 30 (cB .add (t 18) (cN 1)),cO 18 (cM 30)])))).loop)))).seq (ops 0 [cO 31 (cB .add (t 11) (cN 1)),cO 11 (cM 31)])))).loop)).seq ((ops 0 [cO 32 (cM 3),cO 2 (cM 32)]).seq ret)))))
theorem rP:Is Try.prog 73 b73:=Is.mk' Try.func73 (by kernel_rfl)
def b74:F2:=(F2.mk 10 [RV.t 6] ((ops 0 [cO 3 (box (t 0)),cO 5 (box (t 2)),cO 6 (mov an)]).seq ((ops 0 [cO 7 (cM 1),cO 8 (mkfn 87 [t 3,t 5]),cO 9 (call (cF 86) [t 7,t 8]),cO 6 (cM 9)]).seq ret)))
theorem rH:Is Try.prog 74 b74:=Is.mk' Try.func74 (by kernel_rfl)
def b75:F2:=(F2.mk 19 [RV.t 4] ((ops 0 [cO 4 (mov (cN 0))]).seq (((ops 0 [cO 6 (cM 0),cO 7 (lenS (t 6)),cO 8 (mov (cN 0))]).seq (block 0 ((ops 0 [cO 9 (cB .lss (t 8) (t 7))]).seq ((C2.cond (t 9) skip (exit 0)).seq ((block 1 ((ops 0 [cO 10 (cM 8),cO 5 (cM 10)]).seq ((ops 0 [cO 11 (cM 1),cO 12 (cM 0),cO 13 (cM 5),cO 14 (ixaS 2 (t 12) (t 13)),cO 15 (ldn 2 (t 14)),cO 16 (call (t 11) [t 15])]).seq (C2.cond (t 16) ((ops 0 [cO 17 (cM 5),cO 4 (cM 17)]).seq ret) skip)))).seq (ops 0 [cO 18 (cB .add (t 8) (cN 1)),cO 8 (cM 18)])))).loop)).seq ((ops 0 [cO 4 (mov (cN ((-1))))]).seq ret))))
theorem rK:Is Try.prog 75 b75:=Is.mk' Try.func75 (by kernel_rfl)
def b76:F2:=(F2.mk 19 [RV.t 4] ((ops 0 [cO 3 (box (t 1)),cO 4 (mov (cN 0))]).seq (((ops 0 [cO 6 (cM 0),cO 7 (lenS (t 6)),cO 8 (mov (cN 0))]).seq (block 0 ((ops 0 [cO 9 (cB .lss (t 8) (t 7))]).seq ((C2.cond (t 9) skip (exit 0)).seq ((block 1 ((ops 0 [cO 10 (cM 8),cO 5 (cM 10)]).seq ((ops 1 [cO 11 (ldn 2 (t 3)),cO 12 (cM 0),cO 13 (cM 5),cO 14 (ixaS 2 (t 12) (t 13)),cO 15 (ldn 2 (t 14)),cO 16 (binS BinOp.eql [int,int] (t 11) (t 15))]).seq (C2.cond (t 16) ((ops 0 [cO 17 (cM 5),cO 4 (cM 17)]).seq ret) skip)))).seq (ops 0 [cO 18 (cB .add (t 8) (cN 1)),cO 8 (cM 18)])))).loop)).seq ((ops 0 [cO 4 (mov (cN ((-1))))]).seq ret))))
theorem ra:Is Try.prog 76 b76:=Is.mk' Try.func76 (by kernel_rfl)
def b77:F2:=(F2.mk 60 [RV.t 4,RV.t 5] ((ops 0 [cO 4 (mov (c AV.esl)),cO 5 (mov (cN 0))]).seq ((ops 0 [cO 14 (mkm none),cO 6 (cM 14)]).seq ((ops 0 [cO 7 (mov (c AV.esl))]).seq (((ops 0 [cO 15 (cM 0),cO 16 (lenS (t 15)),cO 17 (mov (cN 0))]).seq (block 0 ((ops 0 [cO 18 (cB .lss (t 17) (t 16))]).seq ((C2.cond (t 18) skip (exit 0)).seq ((block 1 ((ops 0 [cO 19 (ixaS 1 (t 15) (t 17)),cO 20 (cD 19),cO 9 (cM 20)]).seq (((ops 0 [cO 21 (cM 9),cO 22 (lenS (t 21)),cO 23 (cM 1),cO 24 (cB .lss (t 22) (t 23))]).seq (C2.cond (t 24) (exit 1) skip)).seq ((ops 0 [cO 26 (cM 9),cO 27 (cM 1),cO 28 (call (cF 14) [t 26,t 27]),cO 25 (cM 28),cO 29 (ext (t 25) 0),cO 30 (ext (t 25) 1),cO 10 (cM 29),cO 11 (cM 30)]).seq (((ops 0 [cO 31 (cM 11),cO 32 (cB .neq (t 31) (cN 0))]).seq (C2.cond (t 32) ((ops 0 [cO 33 (cM 11),cO 4 (mov (c AV.esl)),cO 5 (cM 33)]).seq ret) skip)).seq (((ops 0 [cO 34 (cM 10),cO 35 (lenS (t 34)),cO 36 (mov (cN 0))]).seq (block 2 ((ops 0 [cO 37 (cB .lss (t 36) (t 35))]).seq ((C2.cond (t 37) skip (exit 2)).seq ((block 3 ((ops 0 [cO 38 (ixaS 1 (t 34) (t 36)),cO 39 (cD 38),cO 13 (cM 39)]).seq ((ops 0 [cO 40 (cM 6),cO 41 (cM 13),cO 42 (call (cF 89) [t 41]),cO 43 (Ins.mget (MK.st [int,int,int,int,int,int,int,int,int,int,int,int,int,int,int,int]) (AV.bool false) false (t 40) (t 42)),cO 44 (un UnOp.not (t 43))]).seq (C2.cond (t 44) ((ops 0 [cO 45 (cM 6),cO 46 (cM 13),cO 47 (call (cF 89) [t 46]),Op2.mk none none (mput (MK.st [int,int,int,int,int,int,int,int,int,int,int,int,int,int,int,int]) (t 45) (t 47) bt)]).seq (ops 0 [cO 48 (cM 7),cO 49 (cM 13),cO 50 (bldS 1 1 [AV.esl] [(0,1,t 49)]),cO 51 (app 1 24 (t 48) (t 50)),cO 7 (cM 51)])) skip)))).seq (ops 0 [cO 52 (cB .add (t 36) (cN 1)),cO 36 (cM 52)])))).loop)).seq ((ops 0 [cO 53 (cM 7),cO 54 (lenS (t 53)),cO 55 (cB .gtr (t 54) (cN 4096))]).seq (C2.cond (t 55) ((ops 0 [cO 4 (mov (c AV.esl)),cO 5 (mov (cN 17))]).seq ret) skip)))))))).seq (ops 0 [cO 56 (cB .add (t 17) (cN 1)),cO 17 (cM 56)])))).loop)).seq ((ops 0 [cO 57 (cM 7),cO 58 (call (cF 19) [t 57,c (AV.func 20 [])])]).seq ((ops 0 [cO 59 (cM 7),cO 4 (cM 59),cO 5 (mov (cN 0))]).seq ret)))))))
theorem rC:Is Try.prog 77 b77:=Is.mk' Try.func77 (by kernel_rfl)
def b78:F2:=(F2.mk 49 [RV.t 6,RV.t 7] ((ops 0 [cO 6 (mov (cN 0)),cO 7 (mov an)]).seq ((ops 0 [cO 12 (cM 0),cO 13 (lenS (t 12)),cO 8 (cM 13)]).seq ((ops 0 [cO 14 (cM 8),cO 9 (mov (cN 0)),cO 10 (cM 14)]).seq ((block 0 (((ops 0 [cO 15 (cM 9),cO 16 (cM 10),cO 17 (cB .lss (t 15) (t 16))]).seq (C2.cond (t 17) skip (exit 0))).seq (block 1 ((ops 0 [cO 18 (cM 9),cO 19 (cM 10),cO 20 (cB .add (t 18) (t 19)),cO 21 (conv IntKind.u64 (t 20)),cO 22 (cB .shr (t 21) (c (AV.int IntKind.u64 (1)))),cO 23 (conv IntKind.i64 (t 22)),cO 11 (cM 23)]).seq ((ops 0 [cO 24 (cM 2),cO 25 (cM 0),cO 26 (cM 11),cO 27 (ixaS 1 (t 25) (t 26)),cO 28 (cD 27),cO 29 (cM 1),cO 30 (call (t 24) [t 28,t 29]),cO 31 (cB .lss (t 30) (cN 0))]).seq (C2.cond (t 31) (ops 0 [cO 32 (cM 11),cO 33 (cB .add (t 32) (cN 1)),cO 9 (cM 33)]) (ops 0 [cO 34 (cM 11),cO 10 (cM 34)])))))).loop).seq ((ops 0 [cO 35 (cM 9),cO 36 (cM 9),cO 37 (cM 8),cO 38 (cB .lss (t 36) (t 37)),cO 39 (cM 38),cG 40 39 true (cM 2),cG 41 39 true (cM 0),cG 42 39 true (cM 9),cG 43 39 true (ixaS 1 (t 41) (t 42)),cG 44 39 true (cD 43),cG 45 39 true (cM 1),cG 46 39 true (call (t 40) [t 44,t 45]),cG 47 39 true (cB .eql (t 46) (cN 0)),cO 48 (pick (t 39) (t 47) an),cO 6 (cM 35),cO 7 (cM 48)]).seq ret))))))
theorem sd:Is Try.prog 78 b78:=Is.mk' Try.func78 (by kernel_rfl)
def b79:F2:=(F2.mk 6 [RV.t 2] ((ops 0 [cO 2 (mov an)]).seq ((ops 0 [cO 3 (cM 0),cO 4 (cM 0),cO 5 (cB .neq (t 3) (t 4)),cO 2 (cM 5)]).seq ret)))
theorem qT:Is Try.prog 79 b79:=Is.mk' Try.func79 (by kernel_rfl)
def b80:F2:=(F2.mk 148 [] ((ops 0 [cO 10 (mov bt)]).seq ((ops 0 [cO 11 (mov bt)]).seq (block 0 (block 1 ((ops 0 [cO 21 (cM 2),cO 22 (cM 1),cO 23 (cB .sub (t 21) (t 22)),cO 12 (cM 23)]).seq (((ops 0 [cO 24 (cM 12),cO 25 (cB .leq (t 24) (cN 12))]).seq (C2.cond (t 25) ((ops 0 [cO 26 (cM 0),cO 27 (cM 1),cO 28 (cM 2),cO 29 (cM 4),cO 30 (call (cF 90) [t 26,t 27,t 28,t 29])]).seq ret) skip)).seq (((ops 0 [cO 31 (cM 3),cO 32 (cB .eql (t 31) (cN 0))]).seq (C2.cond (t 32) ((ops 0 [cO 33 (cM 0),cO 34 (cM 1),cO 35 (cM 2),cO 36 (cM 4),cO 37 (call (cF 91) [t 33,t 34,t 35,t 36])]).seq ret) skip)).seq (((ops 0 [cO 38 (cM 10),cO 39 (un UnOp.not (t 38))]).seq (C2.cond (t 39) ((ops 0 [cO 40 (cM 0),cO 41 (cM 1),cO 42 (cM 2),cO 43 (cM 4),cO 44 (call (cF 92) [t 40,t 41,t 42,t 43])]).seq (ops 0 [cO 45 (cM 3),cO 46 (cB .sub (t 45) (cN 1)),cO 3 (cM 46)])) skip)).seq ((ops 0 [cO 48 (cM 0),cO 49 (cM 1),cO 50 (cM 2),cO 51 (cM 4),cO 52 (call (cF 93) [t 48,t 49,t 50,t 51]),cO 47 (cM 52),cO 53 (ext (t 47) 0),cO 54 (ext (t 47) 1),cO 13 (cM 53),cO 14 (cM 54)]).seq (((ops 0 [cO 55 (cM 14),cO 56 (cB .eql (t 55) (cN 2))]).seq (C2.cond (t 56) ((ops 0 [cO 57 (cM 0),cO 58 (cM 1),cO 59 (cM 2),cO 60 (cM 4),cO 61 (call (cF 94) [t 57,t 58,t 59,t 60])]).seq ((ops 0 [cO 62 (cM 2),cO 63 (cB .sub (t 62) (cN 1)),cO 64 (cM 13),cO 65 (cM 1),cO 66 (cB .sub (t 64) (t 65)),cO 67 (cB .sub (t 63) (t 66)),cO 13 (cM 67)]).seq (ops 0 [cO 14 (mov (cN 1))]))) skip)).seq (((ops 0 [cO 68 (cM 10),cO 69 (cM 68),cG 70 69 true (cM 11),cO 71 (pick (t 69) (t 70) an),cO 72 (cM 71),cG 73 72 true (cM 14),cG 74 72 true (cB .eql (t 73) (cN 1)),cO 75 (pick (t 72) (t 74) an)]).seq (C2.cond (t 75) ((ops 0 [cO 76 (cM 0),cO 77 (cM 1),cO 78 (cM 2),cO 79 (cM 4),cO 80 (call (cF 95) [t 76,t 77,t 78,t 79])]).seq (C2.cond (t 80) ret skip)) skip)).seq (((mixS 1 [cO 81 (cM 1),cO 82 (cB .gtr (t 81) (cN 0)),cO 83 (cM 82),cG 84 83 true (cM 4),cG 85 83 true (cM 0),cG 86 83 true (cM 1),cG 87 83 true (cB .sub (t 86) (cN 1)),cG 88 83 true (ixaS 2 (t 85) (t 87)),cG 89 83 true (ldn 2 (t 88)),cG 90 83 true (cM 0),cG 91 83 true (cM 13),cG 92 83 true (ixaS 2 (t 90) (t 91)),cG 93 83 true (ldn 2 (t 92)),cG 94 83 true (call (t 84) [t 89,t 93]),cG 95 83 true (cB .lss (t 94) (cN 0)),cG 96 83 true (un UnOp.not (t 95)),cO 97 (pick (t 83) (t 96) an)] [(0,0),(1,0),(2,0),(3,0),(4,0),(5,0),(6,0),(7,0),(8,0),(9,0),(10,0),(11,0),(12,0),(13,2),(14,0),(15,0),(16,0)]).seq (C2.cond (t 97) ((ops 0 [cO 98 (cM 0),cO 99 (cM 1),cO 100 (cM 2),cO 101 (cM 13),cO 102 (cM 4),cO 103 (call (cF 96) [t 98,t 99,t 100,t 101,t 102]),cO 15 (cM 103)]).seq ((ops 0 [cO 104 (cM 15),cO 1 (cM 104)]).seq (exit 1))) skip)).seq ((ops 0 [cO 106 (cM 0),cO 107 (cM 1),cO 108 (cM 2),cO 109 (cM 13),cO 110 (cM 4),cO 111 (call (cF 97) [t 106,t 107,t 108,t 109,t 110]),cO 105 (cM 111),cO 112 (ext (t 105) 0),cO 113 (ext (t 105) 1),cO 16 (cM 112),cO 17 (cM 113)]).seq ((ops 0 [cO 114 (cM 17),cO 11 (cM 114)]).seq ((ops 0 [cO 115 (cM 16),cO 116 (cM 1),cO 117 (cB .sub (t 115) (t 116)),cO 118 (cM 2),cO 119 (cM 16),cO 120 (cB .sub (t 118) (t 119)),cO 18 (cM 117),cO 19 (cM 120)]).seq ((ops 0 [cO 121 (cM 12),cO 122 (cB .quo (t 121) (cN 8)),cO 20 (cM 122)]).seq ((ops 0 [cO 123 (cM 18),cO 124 (cM 19),cO 125 (cB .lss (t 123) (t 124))]).seq (C2.cond (t 125) ((ops 0 [cO 126 (cM 18),cO 127 (cM 20),cO 128 (cB .geq (t 126) (t 127)),cO 10 (cM 128)]).seq ((ops 0 [cO 129 (cM 0),cO 130 (cM 1),cO 131 (cM 16),cO 132 (cM 3),cO 133 (cM 4),cO 134 (call (cF 80) [t 129,t 130,t 131,t 132,t 133])]).seq (ops 0 [cO 135 (cM 16),cO 136 (cB .add (t 135) (cN 1)),cO 1 (cM 136)]))) ((ops 0 [cO 137 (cM 19),cO 138 (cM 20),cO 139 (cB .geq (t 137) (t 138)),cO 10 (cM 139)]).seq ((ops 0 [cO 140 (cM 0),cO 141 (cM 16),cO 142 (cB .add (t 141) (cN 1)),cO 143 (cM 2),cO 144 (cM 3),cO 145 (cM 4),cO 146 (call (cF 80) [t 140,t 142,t 143,t 144,t 145])]).seq (ops 0 [cO 147 (cM 16),cO 2 (cM 147)])))))))))))))))))).loop))))
theorem rq:Is Try.prog 80 b80:=Is.mk' Try.func80 (by kernel_rfl)
def b86:F2:=(F2.mk 9 [RV.t 4] ((ops 0 [cO 4 (mov an)]).seq ((ops 0 [cO 5 (cM 0),cO 6 (cM 1),cO 7 (call (cF 99) [t 5,t 6]),cO 8 (cB .geq (t 7) (cN 0)),cO 4 (cM 8)]).seq ret)))
theorem rm:Is Try.prog 86 b86:=Is.mk' Try.func86 (by kernel_rfl)
def b87:F2:=(F2.mk 21 [RV.t 4] ((ops 0 [cO 4 (mov an)]).seq ((mixS 1 [cO 5 (cD 1),cO 6 (cM 0),cO 7 (ixaS 1 (t 5) (t 6)),cO 8 (cD 7),cO 9 (lenS (t 8)),cO 10 (cD 2),cO 11 (lenS (t 10)),cO 12 (cB .gtr (t 9) (t 11)),cO 13 (cM 12),cG 14 13 true (cD 2),cG 15 13 true (cD 1),cG 16 13 true (cM 0),cG 17 13 true (ixaS 1 (t 15) (t 16)),cG 18 13 true (cD 17),cG 19 13 true (call (cF 88) [t 14,t 18]),cO 20 (pick (t 13) (t 19) an),cO 4 (cM 20)] [(0,0),(1,0),(2,0),(3,0),(4,0),(5,0),(6,0),(7,0),(8,0),(9,0),(10,0),(11,0),(12,0),(13,0),(14,2),(15,0),(16,0)]).seq ret)))
theorem rc:Is Try.prog 87 b87:=Is.mk' Try.func87 (by kernel_rfl)
def b89:F2:=(F2.mk 16 [RV.cn 2 16] ((ops 0 [cO 2 (alloc (AV.agg [AV.int IntKind.i64 (0),AV.int IntKind.i64 (0),AV.int IntKind.i64 (0),AV.int IntKind.i64 (0),AV.int IntKind.i64 (0),AV.int IntKind.i64 (0),AV.int IntKind.i64 (0),AV.int IntKind.i64 (0),AV.int IntKind.i64 (0),AV.int IntKind.i64 (0),AV.int IntKind.i64 (0),AV.int IntKind.i64 (0),AV.int IntKind.i64 (0),AV.int IntKind.i64 (0),AV.int IntKind.i64 (0),AV.int IntKind.i64 (0)]))]).seq ((ops 0 [cO 3 (alloc (AV.agg [AV.int IntKind.i64 (0),AV.int IntKind.i64 (0),AV.int IntKind.i64 (0),AV.int IntKind.i64 (0),AV.int IntKind.i64 (0),AV.int IntKind.i64 (0),AV.int IntKind.i64 (0),AV.int IntKind.i64 (0),AV.int IntKind.i64 (0),AV.int IntKind.i64 (0),AV.int IntKind.i64 (0),AV.int IntKind.i64 (0),AV.int IntKind.i64 (0),AV.int IntKind.i64 (0),AV.int IntKind.i64 (0),AV.int IntKind.i64 (0)]))]).seq (((ops 0 [cO 5 (mov (cN 0))]).seq (block 0 ((ops 0 [cO 6 (cB .lss (t 5) (cN 8))]).seq ((C2.cond (t 6) skip (exit 0)).seq ((block 1 ((ops 0 [cO 7 (cM 5),cO 4 (cM 7)]).seq (ops 0 [cO 8 (cM 4),cO 9 (ixaA 8 2 (t 3) (t 8)),cO 10 (fa 0 (t 9)),Op2.mk none none (Ins.st 1 (t 10) (cN ((-1))))]))).seq (ops 0 [cO 11 (cB .add (t 5) (cN 1)),cO 5 (cM 11)])))).loop)).seq ((ops 0 [cO 12 (slp 8 2 (t 3)),cO 13 (cM 0),cO 14 (cpy 2 (t 12) (t 13))]).seq ((ops 0 [cO 15 (ldn 16 (t 3)),Op2.mk none none (Ins.st 16 (t 2) (t 15))]).seq ret))))))
theorem ri:Is Try.prog 89 b89:=Is.mk' Try.func89 (by kernel_rfl)
def b90:F2:=(F2.mk 53 [] ((ops 0 [cO 10 (cM 1),cO 11 (cB .add (t 10) (cN 1)),cO 8 (cM 11)]).seq (block 0 (((ops 0 [cO 12 (cM 8),cO 13 (cM 2),cO 14 (cB .lss (t 12) (t 13))]).seq (C2.cond (t 14) skip (exit 0))).seq ((block 1 ((ops 0 [cO 17 (cM 8),cO 9 (cM 17)]).seq (block 2 (((mixS 1 [cO 18 (cM 9),cO 19 (cM 1),cO 20 (cB .gtr (t 18) (t 19)),cO 21 (cM 20),cG 22 21 true (cM 3),cG 23 21 true (cM 0),cG 24 21 true (cM 9),cG 25 21 true (ixaS 2 (t 23) (t 24)),cG 26 21 true (ldn 2 (t 25)),cG 27 21 true (cM 0),cG 28 21 true (cM 9),cG 29 21 true (cB .sub (t 28) (cN 1)),cG 30 21 true (ixaS 2 (t 27) (t 29)),cG 31 21 true (ldn 2 (t 30)),cG 32 21 true (call (t 22) [t 26,t 31]),cG 33 21 true (cB .lss (t 32) (cN 0)),cO 34 (pick (t 21) (t 33) an)] [(0,0),(1,0),(2,0),(3,0),(4,0),(5,0),(6,0),(7,0),(8,0),(9,0),(10,0),(11,0),(12,0),(13,0),(14,2),(15,0),(16,0)]).seq (C2.cond (t 34) skip (exit 2))).seq ((block 3 (ops 1 [cO 37 (cM 0),cO 38 (cM 9),cO 39 (cM 0),cO 40 (cM 9),cO 41 (cB .sub (t 40) (cN 1)),cO 42 (cM 0),cO 43 (cM 9),cO 44 (cB .sub (t 43) (cN 1)),cO 45 (ixaS 2 (t 42) (t 44)),cO 46 (ldn 2 (t 45)),cO 47 (cM 0),cO 48 (cM 9),cO 49 (ixaS 2 (t 47) (t 48)),cO 50 (ldn 2 (t 49)),cO 51 (ixaS 2 (t 37) (t 38)),Op2.mk none none (Ins.st 2 (t 51) (t 46)),cO 52 (ixaS 2 (t 39) (t 41)),Op2.mk none none (Ins.st 2 (t 52) (t 50))])).seq (ops 0 [cO 35 (cM 9),cO 36 (cB .sub (t 35) (cN 1)),cO 9 (cM 36)]))).loop))).seq (ops 0 [cO 15 (cM 8),cO 16 (cB .add (t 15) (cN 1)),cO 8 (cM 16)]))).loop)))
theorem rV:Is Try.prog 90 b90:=Is.mk' Try.func90 (by kernel_rfl)
def b99:F2:=(F2.mk 19 [RV.t 4] ((ops 0 [cO 4 (mov (cN 0))]).seq (((ops 0 [cO 6 (cM 0),cO 7 (lenS (t 6)),cO 8 (mov (cN 0))]).seq (block 0 ((ops 0 [cO 9 (cB .lss (t 8) (t 7))]).seq ((C2.cond (t 9) skip (exit 0)).seq ((block 1 ((ops 0 [cO 10 (cM 8),cO 5 (cM 10)]).seq ((ops 0 [cO 11 (cM 1),cO 12 (cM 0),cO 13 (cM 5),cO 14 (ixaS 1 (t 12) (t 13)),cO 15 (cD 14),cO 16 (call (t 11) [t 15])]).seq (C2.cond (t 16) ((ops 0 [cO 17 (cM 5),cO 4 (cM 17)]).seq ret) skip)))).seq (ops 0 [cO 18 (cB .add (t 8) (cN 1)),cO 8 (cM 18)])))).loop)).seq ((ops 0 [cO 4 (mov (cN ((-1))))]).seq ret))))
theorem qZ:Is Try.prog 99 b99:=Is.mk' Try.func99 (by kernel_rfl)
end Go.Proofs.Ytbgdcebmgjafjaa
namespace Go.Proofs.Ytbgdcebmgjafjaa
open Go Go.Abs
def swp {α:Type} [Inhabited α] (L:List α) (i j:Nat):List α:=(L.set i (L.getD j default)).set j (L.getD i default)
structure PermR {α:Type} [Inhabited α] (a b:Nat) (L L':List α):Prop where
 len:L'.length=L.length
 out:∀ i,i < a ∨ b ≤ i→L'.getD i default=L.getD i default
 perm:L'.Perm L
section
variable {α:Type} [Inhabited α] {a b a' b':Nat} {L L' L'':List α}
theorem bh {l:List α} {i j:Nat} {x:α} (h:i < l.length):(l.set i x).getD j default=if i=j then x else l.getD j default:=by
 simp only [List.getD,List.getElem?_set]
 split
 ·rename_i e; subst e; simp [h]
 ·rfl
theorem mD (i j:Nat):(swp L i j).length=L.length:=by simp [swp]
theorem co {i j:Nat} (hi:i < L.length) (hj:j < L.length) (k:Nat):(swp L i j).getD k default=if k=j then L.getD i default else if k=i then L.getD j default else L.getD k default:=by
 unfold swp
 rw [bh (by simpa using hj),bh hi]
 by_cases e:k=j
 ·subst e; simp
 ·rw [if_neg (fun h=>e h.symm),if_neg e]
  by_cases e2:k=i
  ·subst e2; simp
  ·rw [if_neg (fun h=>e2 h.symm),if_neg e2]
theorem nR {i j:Nat} (hi:i < L.length) (hj:j < L.length):(swp L i j).Perm L:=by
 unfold swp
 have e1:L.getD i default=L[i]:=by simp [List.getD,hi]
 have e2:L.getD j default=L[j]:=by simp [List.getD,hj]
 rw [e1,e2]
 exact List.set_set_perm hi hj
theorem PermR.refl:PermR a b L L:=⟨rfl,fun _ _=>rfl,List.Perm.refl _⟩
theorem PermR.trans (h:PermR a b L L') (k:PermR a b L' L''):PermR a b L L'':=⟨k.len.trans h.len,fun i hi=>(k.out i hi).trans (h.out i hi),k.perm.trans h.perm⟩
theorem PermR.mono (h:PermR a' b' L L') (h1:a ≤ a') (h2:b' ≤ b):PermR a b L L':=⟨h.len,fun i hi=>h.out i (by omega),h.perm⟩
theorem PermR.swap {i j:Nat} (h1:a ≤ i∧i < b) (h2:a ≤ j∧j < b) (hb:b ≤ L.length):PermR a b L (swp L i j) :=
 ⟨mD i j,fun k hk=>by rw [co (by omega) (by omega),if_neg (by omega),if_neg (by omega)],nR (by omega) (by omega)⟩
theorem kr {l m:List α} (hl:l.length=m.length) (h:∀ i,i < l.length→l.getD i default=m.getD i default):l=m :=
 List.ext_getElem hl (fun i h1 h2=>by
  have:=h i h1
  simpa [List.getD,h1,h2] using this)
theorem PermR.mid (h:PermR a b L L') (hab:a ≤ b) (hb:b ≤ L.length):((L'.drop a).take (b - a)).Perm ((L.drop a).take (b - a)):=by
 have e1:∀ M:List α,b ≤ M.length→M=M.take a ++ ((M.drop a).take (b - a) ++ M.drop b):=fun M hM=>by
  have:M.drop b=(M.drop a).drop (b - a):=by rw [List.drop_drop]; congr 1; omega
  rw [this,List.take_append_drop,List.take_append_drop]
 have t:L'.take a=L.take a:=kr (by simp [h.len]) (fun i hi=>by
  have hi':i < a:=by simp at hi; omega
  rw [jm hi',jm hi']; exact h.out i (.inl hi'))
 have d:L'.drop b=L.drop b:=kr (by simp [h.len]) (fun i hi=>by
  have e:∀ M:List α,(M.drop b).getD i default=M.getD (b + i) default:=fun M=>by simp [List.getD,List.getElem?_drop]
  rw [e,e]; exact h.out (b + i) (.inr (by omega)))
 have p:=h.perm
 rw [e1 L' (by rw [h.len]; exact hb),e1 L hb,t,d] at p
 exact (List.perm_append_right_iff _).1 ((List.perm_append_left_iff _).1 p)
theorem mE {M:List α} {x:α} (hab:a ≤ b) (hb:b ≤ M.length):x ∈ (M.drop a).take (b - a) ↔ ∃ i,a ≤ i∧i < b∧M.getD i default=x:=by
 constructor
 ·intro h
  obtain ⟨j,hj,e⟩:=List.getElem_of_mem h
  have hj':j < b - a:=by simp at hj; omega
  refine ⟨a + j,by omega,by omega,?_⟩
  rw [← e]
  simp [List.getD,List.getElem_take,List.getElem_drop,show a + j < M.length by omega]
 ·rintro ⟨i,h1,h2,rfl⟩
  rw [List.mem_iff_getElem?]
  refine ⟨i - a,?_⟩
  rw [List.getElem?_take,if_pos (by omega),List.getElem?_drop,show a + (i - a)=i by omega]
  simp [List.getD,show i < M.length by omega]
theorem PermR.all {p:α→Prop} (h:PermR a b L L') (hab:a ≤ b) (hb:b ≤ L.length) (hp:∀ i,a ≤ i→i < b→p (L.getD i default)):∀ i,a ≤ i→i < b→p (L'.getD i default):=by
 intro i h1 h2
 have hm:L'.getD i default ∈ (L'.drop a).take (b - a):=(mE hab (by rw [h.len]; exact hb)).2 ⟨i,h1,h2,rfl⟩
 obtain ⟨j,k1,k2,e⟩:=(mE hab hb).1 ((h.mid hab hb).mem_iff.1 hm)
 rw [← e]; exact hp j k1 k2
end
structure Ord {α:Type} (K:α→α→Int):Prop where
 irr:∀ x,¬ K x x < 0
 asym:∀ x y,K x y < 0→¬ K y x < 0
 negtr:∀ x y z,¬ K y x < 0→¬ K z y < 0→¬ K z x < 0
def aO {α:Type} [Inhabited α] (K:α→α→Int) (a b:Nat) (L:List α):Prop:=∀ i j,a ≤ i→i < j→j < b→¬ K (L.getD j default) (L.getD i default) < 0
theorem aO.one {α:Type} [Inhabited α] {K:α→α→Int} {a b:Nat} {L:List α} (h:b ≤ a + 1):aO K a b L:=fun i j h1 h2 h3=>by omega
end Go.Proofs.Ytbgdcebmgjafjaa
namespace Go.Proofs.Ytbgdcebmgjafjaa
open Go Go.Abs
structure LinK {α:Type} (K:α→α→Int):Prop where
 ord:Ord K
 eq:∀ x y,¬ K x y < 0→¬ K y x < 0→x=y
def kj {α:Type} (K:α→α→Int) (l:List α):Prop:=l.Pairwise fun x y=>K x y < 0
section
variable {α:Type} [DecidableEq α] {K:α→α→Int}
omit [DecidableEq α] in
theorem kj.nil:kj K ([]:List α):=List.Pairwise.nil
omit [DecidableEq α] in
theorem kj.nodup {l:List α} (hK:LinK K) (h:kj K l):l.Nodup:=List.Pairwise.imp (fun {a b} h e=>by subst e; exact hK.ord.irr a h) h
omit [DecidableEq α] in
theorem LinK.trans (hK:LinK K) {x y z:α} (h1:K x y < 0) (h2:K y z < 0):K x z < 0:=by
 refine Decidable.byContradiction fun hn=>?_
 exact hK.ord.negtr z x y hn (hK.ord.asym _ _ h1) h2
end
section
variable {α:Type} [Inhabited α] [DecidableEq α]
end
end Go.Proofs.Ytbgdcebmgjafjaa
namespace Go.Proofs.Ytbgdcebmgjafjaa
open Go Go.Abs
abbrev Shn {α:Type} (l:List α):Prop:=l.length ≤ 17592186044416
structure Vtx where
 color:Int
 label:Int
 deriving Inhabited,DecidableEq
abbrev Spx:=List Vtx
abbrev bb (v:Vtx):AV:=.agg [.int .i64 v.color,.int .i64 v.label]
def bc (l:Spx):AV:=lI 2 bb l
def l7 (l:List Spx):AV:=lI 1 bc l
theorem a7 (v:Vtx):Dat (bb v):=Dat.agg (DatL.cons .int (DatL.cons .int DatL.nil))
theorem eS (l:Spx):Dat (bc l):=kL (fun x _ c hc=>by
 simp only [bb,AV.cells,List.mem_cons,List.not_mem_nil,or_false] at hc
 rcases hc with rfl | rfl <;> exact .int)
theorem ij (l:List Spx):Dat (l7 l):=kL (fun x _ c hc=>by
 simp only [bc,lI,AV.cells,List.mem_singleton] at hc; subst hc; exact eS x)
instance datI_encX {v:Vtx}:DatI (bb v):=⟨a7 v⟩
instance datI_encXs {l:Spx}:DatI (bc l):=⟨eS l⟩
instance datI_encXss {l:List Spx}:DatI (l7 l):=⟨ij l⟩
theorem aB {l:Spx}:(bc l).cells=[bc l]:=rfl
theorem aQ {l:Spx}:(bc l).one=true:=rfl
theorem lM {l:Spx} {k:IntKind} {n:Int}:dN 2 (bc l) (.int k n)=if 0 ≤ n∧n < l.length then some (.iptr [.int .i64 (l.getD n.toNat default).color,.int .i64 (l.getD n.toNat default).label] 0) else none:=mW
theorem aj {l:Spx}:bR (bc l)=some (.int .i64 l.length):=lJ
theorem ix2 {l:Spx} {k:Nat} (h:k < l.length):dN 2 (bc l) (.int .i64 (k:Int))=some (.iptr [.int .i64 (l.getD k default).color,.int .i64 (l.getD k default).label] 0):=by
 rw [lM,if_pos ⟨by omega,by omega⟩,Int.toNat_natCast]
def dJ (v w:Vtx):Int:=if v.color < w.color then -1 else if v.color > w.color then 1 else if v.label < w.label then -1 else if v.label > w.label then 1 else 0
theorem fP {v w:Vtx}:dJ v w < 0 ↔ v.color < w.color ∨ (v.color=w.color∧v.label < w.label):=by
 unfold dJ; (repeat' split) <;> constructor <;> intro h <;> omega
theorem ml {v w:Vtx}:v=w ↔ v.color=w.color∧v.label=w.label:=by
 obtain ⟨a,b⟩:=v
 obtain ⟨c,d⟩:=w
 simp
theorem qP:LinK dJ where
 ord:={ irr:=fun x=>by rw [fP]; omega,asym:=fun x y h=>by rw [fP] at *; omega,negtr:=fun x y z h1 h2=>by rw [fP] at *; omega }
 eq:=fun x y h1 h2=>by rw [fP] at *; rw [ml]; omega
def cE (f:Nat→Int):Nat→Int
 | 0=>0
 | n + 1=>if cE f n ≠ 0 then cE f n else f n
theorem di {f:Nat→Int}:∀ {n:Nat},(∀ i,i < n→f i=0)→cE f n=0
 | 0,_=>rfl
 | n + 1,h=>by
  have:=di (f:=f) (n:=n) (fun i hi=>h i (by omega))
  rw [cE,this,if_neg (by simp)]; exact h n (by omega)
theorem bP {f:Nat→Int}:∀ {n k:Nat},k < n→(∀ i,i < k→f i=0)→f k ≠ 0→cE f n=f k
 | 0,k,h,_,_=>absurd h (by omega)
 | n + 1,k,h,h0,hk=>by
  rw [cE]
  by_cases e:k=n
  ·subst e
   rw [di h0,if_neg (by simp)]
  ·rw [bP (n:=n) (by omega) h0 hk,if_pos hk]
theorem iu {f:Nat→Int}:∀ {n:Nat},cE f n=0→∀ i,i < n→f i=0
 | 0,_,i,h=>absurd h (by omega)
 | n + 1,h,i,hi=>by
  rw [cE] at h
  by_cases e:cE f n=0
  ·rw [e,if_neg (by simp)] at h
   by_cases ei:i=n
   ·subst ei; exact h
   ·exact iu e i (by omega)
  ·rw [if_pos e] at h; exact absurd h e
def a9 (v:Vtx):Bool:=decide (0 ≤ v.color) && decide (v.color < 8) && (decide (0 ≤ v.label) && decide (v.label ≤ 1048576))
theorem oL {α:Type} [Inhabited α] {K:α→α→Int} {l:List α} (h:kj K l) {i j:Nat} (hij:i < j) (hj:j < l.length):K (l.getD i default) (l.getD j default) < 0:=by
 have:=List.pairwise_iff_getElem.1 h i j (by omega) hj hij
 simpa [List.getD,hj,show i < l.length by omega] using this
end Go.Proofs.Ytbgdcebmgjafjaa
namespace Go.Proofs.Ytbgdcebmgjafjaa
open Go Go.Abs
open Nat (reduceEqDiff reduceAdd reduceLeDiff)
def c3i (a b:Int):Int:=if a < b then -1 else if a > b then 1 else 0
theorem o9 (v w:Vtx):(if c3i v.color w.color ≠ 0 then c3i v.color w.color else c3i v.label w.label)=dJ v w:=by
 unfold c3i dJ
 by_cases h1:v.color < w.color
 ·rw [if_pos h1,if_pos h1,if_pos (by simp)]
 ·rw [if_neg h1,if_neg h1]
  by_cases h2:v.color > w.color
  ·rw [if_pos h2,if_pos h2,if_pos (by simp)]
  ·rw [if_neg h2,if_neg h2,if_neg (by simp)]
attribute [local irreducible] ai ab aE aG am ao af ap aL aW Go.Abs.Fn aC Go.Abs.Pure ah al Yl
theorem kS (n:Int):Pure Try.prog 79 [.int .i64 n] (.bool false):=by
 refine Pure.of_c2 follows qT (Nat.le_of_ble_eq_true rfl) ?_
 simp only [b79,cO,cG,cN,cM,cD,cF,cB,an,bt]
 (have zz:=and_self; repeat' (first | refine zW ?_ | apply a_n | refine zO ?_ | refine vZ ?_ | refine aK rfl ?_ | refine r1Z ?_ | fail)) <;> (try clear zz)
 exact eU (decide_eq_false (fun h=>h rfl))
theorem oV (a b:Int):Pure Try.prog 57 [.int .i64 a,.int .i64 b] (.int .i64 (c3i a b)):=by
 refine Pure.of_c2 follows qS (Nat.le_of_ble_eq_true rfl) ?_
 simp only [b57,cO,cG,cN,cM,cD,cF,cB,an,bt]
 have h1:=kS a
 have h2:=kS b
 unfold c3i
 (have zz:=and_self; repeat' (first | refine zW ?_ | apply a_n | apply a_r | refine zO ?_ | refine vZ ?_ | refine cZ ?_ (hp:=by first | exact h1 | exact h2) | refine cFZ ?_ | (refine zGZ ?_ ?_ <;> (intro _hg; try (exfalso; omega))) | refine aK rfl ?_ | refine r1Z ?_ | fail)) <;> (try clear zz)
 all_goals (refine da ?_)
 ·rw [if_pos (by omega)]
 ·rw [if_neg (by omega),if_pos (by omega)]
 ·rw [if_neg (by omega),if_neg (by omega)]
theorem qA (a b:Int):Pure Try.prog 56 [cH [a,b]] (.int .i64 (if a ≠ 0 then a else b)):=by
 refine Pure.of_c2 follows qv (Nat.le_of_ble_eq_true rfl) ?_
 simp only [b56,cO,cG,cN,cM,cD,cF,cB,an,bt]
 (have zz:=and_self; repeat' (first | refine zW ?_ | apply a_n | refine zO ?_ | refine vZ ?_ | fail)) <;> (try clear zz)
 refine qH (fun k=>[(3,.int .i64 0),(6,cH [a,b]),(7,.int .i64 2),(8,.int .i64 k)]) 2 (fun k=>[a,b].getD k default=0) (by (iterate 4 refine And.intro rfl ?_); trivial) ?_
 intro k hk hz
 rcases (by omega:k=0 ∨ k=1 ∨ k=2) with rfl | rfl | rfl
 ·have e:[a,b].getD 0 default=a:=rfl
  have ix:dN 1 (cH [a,b]) (.int .i64 ((0:Nat):Int))=some (.iptr [.int .i64 a] 0):=rfl
  by_cases h0:a=0
  ·have z:decide (a ≠ 0)=false:=decide_eq_false (fun h=>h h0)
   (have zz:=aI @ix @z; repeat' (first | refine zW ?_ | apply a_n | refine zO ?_ | refine vZ ?_ | refine cFZ ?_ | (refine zGZ ?_ ?_ <;> (intro _hg; try (exfalso; omega))) | fail)) <;> (try clear zz)
   exact ⟨by omega,h0,by (iterate 4 refine And.intro rfl ?_); trivial,rfl,rfl⟩
  ·have z:decide (a ≠ 0)=true:=decide_eq_true h0
   (have zz:=aI @ix @z; repeat' (first | refine zW ?_ | apply a_n | apply a_r | refine zO ?_ | refine vZ ?_ | refine cTZ ?_ | (refine zGZ ?_ ?_ <;> (intro _hg; try (exfalso; omega))) | refine aK rfl ?_ | refine r1Z ?_ | fail)) <;> (try clear zz)
   rw [if_pos h0]; exact .int _ _
 ·have h0:a=0:=hz 0 (by omega)
  have ix:dN 1 (cH [a,b]) (.int .i64 ((1:Nat):Int))=some (.iptr [.int .i64 b] 0):=rfl
  rw [if_neg (fun h=>h h0)]
  by_cases h1:b=0
  ·have z:decide (b ≠ 0)=false:=decide_eq_false (fun h=>h h1)
   (have zz:=aI @ix @z; repeat' (first | refine zW ?_ | apply a_n | refine zO ?_ | refine vZ ?_ | refine cFZ ?_ | (refine zGZ ?_ ?_ <;> (intro _hg; try (exfalso; omega))) | fail)) <;> (try clear zz)
   exact ⟨by omega,h1,by (iterate 4 refine And.intro rfl ?_); trivial,rfl,rfl⟩
  ·have z:decide (b ≠ 0)=true:=decide_eq_true h1
   (have zz:=aI @ix @z; repeat' (first | refine zW ?_ | apply a_n | apply a_r | refine zO ?_ | refine vZ ?_ | refine cTZ ?_ | (refine zGZ ?_ ?_ <;> (intro _hg; try (exfalso; omega))) | refine aK rfl ?_ | refine r1Z ?_ | fail)) <;> (try clear zz)
   exact .int _ _
 ·have h0:a=0:=hz 0 (by omega)
  have h1:b=0:=hz 1 (by omega)
  rw [if_neg (fun h=>h h0),h1]
  (have zz:=and_self; repeat' (first | refine zW ?_ | apply a_n | apply a_x | refine zO ?_ | refine vZ ?_ | (refine zGZ ?_ ?_ <;> (intro _hg; try (exfalso; omega))) | refine aK rfl ?_ | refine r1Z ?_ | fail)) <;> (try clear zz)
  exact .int _ _
theorem ma (v w:Vtx):Pure Try.prog 31 [bb v,bb w] (.int .i64 (dJ v w)):=by
 refine Pure.of_c2 follows qF (Nat.le_of_ble_eq_true rfl) ?_
 simp only [b31,cO,cG,cN,cM,cD,cF,cB,an,bt]
 have h1:=oV v.color w.color
 have h2:=oV v.label w.label
 have h3:=qA (c3i v.color w.color) (c3i v.label w.label)
 rw [o9] at h3
 (have zz:=and_self; repeat' (first | refine zW ?_ | refine zM ?_ | apply a_n | refine zO ?_ | refine vZ ?_ | refine cZ ?_ (hp:=by first | exact h1 | exact h2) | refine bxZ ?_ | refine blZ ?_ | fail)) <;> (try clear zz)
 refine mw ev0 (by ((try simp only [c9,ZA,reduceEqDiff,↓reduceIte,reduceAdd,reduceLeDiff]); (try with_reducible rfl)); rfl) h3 (au (fl (oQ bk rfl rfl) az) rfl) ?_
 (have zz:=and_self; repeat' (first | apply a_n | refine zO ?_ | refine vZ ?_ | refine aK rfl ?_ | refine r1Z ?_ | fail)) <;> (try clear zz)
 exact .int _ _
theorem lS (v w:Vtx):Pure Try.prog 33 [bb v,bb w] (.int .i64 (dJ v w)):=by
 refine Pure.of_c2 follows qI (Nat.le_of_ble_eq_true rfl) ?_
 simp only [b33,cO,cG,cN,cM,cD,cF,cB,an,bt]
 unfold dJ
 (have zz:=and_self; repeat' (first | refine zW ?_ | apply a_n | apply a_r | refine zO ?_ | refine vZ ?_ | refine bxZ ?_ | (refine zGZ ?_ ?_ <;> (intro _hg; try (exfalso; omega))) | refine aK rfl ?_ | refine r1Z ?_ | fail)) <;> (try clear zz)
 all_goals (refine da ?_; (repeat' split) <;> omega)
theorem kW (v:Vtx):Pure Try.prog 30 [bb v] (.bool (a9 v)):=by
 refine Pure.of_c2 follows qD (Nat.le_of_ble_eq_true rfl) ?_
 simp only [b30,cO,cG,cN,cM,cD,cF,cB,an,bt]
 unfold a9
 (have zz:=and_self; repeat' (first | refine zW ?_ | apply a_n | refine zO ?_ | refine vZ ?_ | refine bxZ ?_ | refine gTZ ?_ | refine gFZ ?_ | (refine zGZ ?_ ?_ <;> (intro _hg; try (exfalso; omega))) | refine aK rfl ?_ | refine r1Z ?_ | fail)) <;> (try clear zz)
 all_goals (refine eU ?_; rw [Bool.eq_iff_iff]; simp only [Bool.and_eq_true,decide_eq_true_iff,Bool.false_eq_true,false_iff]; omega)
theorem jo (v:Vtx):Pure Try.prog 32 [bb v] (.bool (a9 v)):=by
 refine Pure.of_c2 follows rF (Nat.le_of_ble_eq_true rfl) ?_
 simp only [b32,cO,cG,cN,cM,cD,cF,cB,an,bt]
 unfold a9
 (have zz:=and_self; repeat' (first | refine zW ?_ | apply a_n | refine zO ?_ | refine vZ ?_ | refine bxZ ?_ | refine gTZ ?_ | refine gFZ ?_ | (refine zGZ ?_ ?_ <;> (intro _hg; try (exfalso; omega))) | refine aK rfl ?_ | refine r1Z ?_ | fail)) <;> (try clear zz)
 all_goals (refine eU ?_; rw [Bool.eq_iff_iff]; simp only [Bool.and_eq_true,decide_eq_true_iff,Bool.false_eq_true,false_iff]; omega)
end Go.Proofs.Ytbgdcebmgjafjaa
namespace Go.Proofs.Ytbgdcebmgjafjaa
open Go Go.Abs
attribute [local irreducible] ai ab aE aG am ao af ap aL aW Go.Abs.Fn aC Go.Abs.Pure ah al Yl
end Go.Proofs.Ytbgdcebmgjafjaa
namespace Go.Proofs.Ytbgdcebmgjafjaa
open Go Go.Abs
theorem oJ (a b c d:Int):bd [.int,.int] [.int .i64 a,.int .i64 b] [.int .i64 c,.int .i64 d]=some (decide (a=c∧b=d)):=by
 have e:∀ x y:Int,(x == y)=decide (x=y):=fun x y=>rfl
 by_cases h1:a=c
 ·by_cases h2:b=d
  ·subst h1 h2; simp [bd,dI]
  ·subst h1; simp only [bd,dI,if_true,e,decide_eq_false h2,decide_true,h2,and_false,decide_false]
 ·simp only [bd,dI,if_true,e,decide_eq_false h1,h1,false_and,decide_false]
theorem acq (a b c d:Int):gC .eql [.int,.int] [.int .i64 a,.int .i64 b] [.int .i64 c,.int .i64 d]=some (.bool (decide (a=c∧b=d))):=by
 unfold gC; rw [oJ]
theorem mI (v w:Vtx):decide (v.color=w.color∧v.label=w.label)=decide (v=w):=decide_eq_decide.2 ml.symm
theorem jn {α:Type} [Inhabited α] {l:List α} {k:Nat} (h:k < l.length):l.take (k + 1)=l.take k ++ [l.getD k default]:=by
 rw [List.take_add_one]; simp [List.getD,h]
section
variable {α:Type} {K:α→α→Int} {v x:α} {l:List α}
end
attribute [local irreducible] ai ab aE aG am ao af ap aL aW Go.Abs.Fn aC Go.Abs.Pure ah al Yl
abbrev pK (c:List Spx):AV:=.agg [l7 c]
theorem nb (c:List Spx):Dat (pK c):=Dat.agg (DatL.cons (ij c) DatL.nil)
instance datI_encCx {c:List Spx}:DatI (pK c):=⟨nb c⟩
end Go.Proofs.Ytbgdcebmgjafjaa
namespace Go.Proofs.Ytbgdcebmgjafjaa
open Go Go.Abs
section
attribute [local irreducible] ai ab aE aG am ao af ap aL aW Go.Abs.Fn aC Go.Abs.Pure ah al Yl
end
end Go.Proofs.Ytbgdcebmgjafjaa
namespace Go.Proofs.Ytbgdcebmgjafjaa
open Go Go.Abs
open Nat (reduceEqDiff reduceAdd reduceLeDiff)
theorem oX {α:Type} [Inhabited α] {l:List α} {i:Nat} (h:i < l.length):l.getD i default ∈ l:=oo h
attribute [local irreducible] ai ab aE aG am ao af ap aL aW Go.Abs.Fn aC Go.Abs.Pure ah al Yl
end Go.Proofs.Ytbgdcebmgjafjaa
namespace Go.Proofs.Ytbgdcebmgjafjaa
open Go Go.Abs
structure Cmp {α:Type} (P:Program) (f:α→AV) (K:α→α→Int) (G:α→Prop) (g:Nat) (caps:List AV):Prop where
 cells:∀ x,(f x).cells=[f x]
 one:∀ x,(f x).one=true
 dat:∀ x,Dat (f x)
 dcaps:∀ x ∈ caps,Dat x
 run:∀ x y,G x→G y→Go.Abs.Pure P g (f x :: f y :: caps) (.int .i64 (K x y))
 ord:Ord K
def dU {α:Type} [Inhabited α] (K:α→α→Int) (a i j:Nat) (M:List α):Prop:=∀ p q,a ≤ p→p < q→q ≤ i→q ≠ j→¬ K (M.getD q default) (M.getD p default) < 0
section
variable {α:Type} [Inhabited α] {f:α→AV} {K:α→α→Int} {G:α→Prop} {g:Nat} {caps:List AV}
theorem dU.start {a i:Nat} {M:List α} (h:aO K a i M):dU K a i i M:=fun p q h1 h2 h3 h4=>h p q h1 h2 (by omega)
theorem dU.done {a i j:Nat} {M:List α} (hK:Ord K) (h:dU K a i j M) (hj:j=a ∨ (a < j∧¬ K (M.getD j default) (M.getD (j - 1) default) < 0)):aO K a (i + 1) M:=by
 intro p q h1 h2 h3
 by_cases e:q=j
 ·subst e
  rcases hj with hj | ⟨hj,hk⟩
  ·omega
  ·by_cases e2:p=q - 1
   ·rw [e2]; exact hk
   ·exact hK.negtr _ _ _ (h p (q - 1) h1 (by omega) (by omega) (by omega)) hk
 ·exact h p q h1 h2 (by omega) e
theorem dU.step {a i j:Nat} {M:List α} (hK:Ord K) (h:dU K a i (j + 1) M) (haj:a ≤ j) (hji:j + 1 ≤ i) (hi:i < M.length) (hk:K (M.getD (j + 1) default) (M.getD j default) < 0):dU K a i j (swp M (j + 1) j):=by
 intro p q h1 h2 h3 h4
 rw [co (by omega) (by omega),co (by omega) (by omega)]
 rw [if_neg h4]
 by_cases e1:q=j + 1
 ·rw [if_pos e1]
  by_cases e2:p=j
  ·rw [if_pos e2]; exact hK.asym _ _ hk
  ·rw [if_neg e2,if_neg (by omega)]
   exact h p j h1 (by omega) (by omega) (by omega)
 ·rw [if_neg e1]
  by_cases e2:p=j
  ·rw [if_pos e2]; exact h (j + 1) q (by omega) (by omega) h3 e1
  ·rw [if_neg e2]
   by_cases e3:p=j + 1
   ·rw [if_pos e3]; exact h j q (by omega) (by omega) h3 e1
   ·rw [if_neg e3]; exact h p q h1 h2 h3 e1
theorem aO.mono {a b a' b':Nat} {M:List α} (h:aO K a b M) (h1:a ≤ a') (h2:b' ≤ b):aO K a' b' M:=fun p q k1 k2 k3=>h p q (by omega) k2 (by omega)
attribute [local irreducible] ai ab aE aG am ao af ap aL aW Go.Abs.Fn aC Go.Abs.Pure ah al Yl
end
end Go.Proofs.Ytbgdcebmgjafjaa
namespace Go.Proofs.Ytbgdcebmgjafjaa
open Go Go.Abs
def Kid (p c:Nat):Prop:=c=2 * p + 1 ∨ c=2 * p + 2
def ip {α:Type} [Inhabited α] (K:α→α→Int) (a hi r:Nat) (M:List α):Prop:=∀ p c,r ≤ p→Kid p c→c < hi→¬ K (M.getD (a + p) default) (M.getD (a + c) default) < 0
structure SiftR {α:Type} [Inhabited α] (K:α→α→Int) (a hi lo root:Nat) (M:List α):Prop where
 le:lo ≤ root
 heap:∀ p c,lo ≤ p→p ≠ root→Kid p c→c < hi→¬ K (M.getD (a + p) default) (M.getD (a + c) default) < 0
 up:∀ q c,lo ≤ q→Kid q root→Kid root c→c < hi→¬ K (M.getD (a + q) default) (M.getD (a + c) default) < 0
section
variable {α:Type} [Inhabited α] {f:α→AV} {K:α→α→Int} {G:α→Prop} {g:Nat} {caps:List AV}
theorem SiftR.start {a hi lo:Nat} {M:List α} (h:ip K a hi (lo + 1) M):SiftR K a hi lo lo M :=
 ⟨Nat.le_refl _,fun p c h1 h2=>h p c (by omega),fun q c h1 h2=>by unfold Kid at h2; omega⟩
theorem SiftR.leaf {a hi lo root:Nat} {M:List α} (h:SiftR K a hi lo root M) (hr:hi ≤ 2 * root + 1):ip K a hi lo M:=fun p c h1 h2 h3=>by
 by_cases e:p=root
 ·subst e; unfold Kid at h2; omega
 ·exact h.heap p c h1 e h2 h3
theorem SiftR.step {a hi lo root c:Nat} {M:List α} (hK:Ord K) (h:SiftR K a hi lo root M) (hkid:Kid root c) (hc:c < hi) (hM:a + hi ≤ M.length) (hb:∀ d,Kid root d→d < hi→¬ K (M.getD (a + c) default) (M.getD (a + d) default) < 0) (hn:K (M.getD (a + root) default) (M.getD (a + c) default) < 0):SiftR K a hi lo c (swp M (a + root) (a + c)):=by
 have hrc:root < c:=by unfold Kid at hkid; omega
 have hg:∀ k,(swp M (a + root) (a + c)).getD (a + k) default=if k=c then M.getD (a + root) default else if k=root then M.getD (a + c) default else M.getD (a + k) default:=fun k=>by
  rw [co (by omega) (by omega)]
  by_cases e:k=c
  ·rw [if_pos (by omega),if_pos e]
  ·rw [if_neg (by omega),if_neg e]
   by_cases e2:k=root
   ·rw [if_pos (by omega),if_pos e2]
   ·rw [if_neg (by omega),if_neg e2]
 refine ⟨by have:=h.le; omega,fun p d h1 h2 h3 h4=>?_,fun q d h1 h2 h3 h4=>?_⟩
 ·rw [hg,hg,if_neg h2]
  by_cases e1:p=root
  ·rw [if_pos e1]
   subst e1
   by_cases e2:d=c
   ·rw [if_pos e2]; exact hK.asym _ _ hn
   ·rw [if_neg e2,if_neg (by unfold Kid at h3; omega)]; exact hb d h3 h4
  ·rw [if_neg e1]
   have hdc:d ≠ c:=fun e=>by subst e; unfold Kid at h3 hkid; omega
   rw [if_neg hdc]
   by_cases e2:d=root
   ·rw [if_pos e2]; subst e2; exact h.up p c h1 h3 hkid hc
   ·rw [if_neg e2]; exact h.heap p d h1 e1 h3 h4
 ·have eq:q=root:=by unfold Kid at h2 hkid; omega
  subst eq
  rw [hg,hg,if_neg (by omega),if_pos rfl,if_neg (by unfold Kid at h3; omega),if_neg (by unfold Kid at h3; omega)]
  exact h.heap c d (by omega) (by omega) h3 h4
attribute [local irreducible] ai ab aE aG am ao af ap aL aW Go.Abs.Fn aC Go.Abs.Pure ah al Yl
end
end Go.Proofs.Ytbgdcebmgjafjaa
namespace Go.Proofs.Ytbgdcebmgjafjaa
open Go Go.Abs
open Nat (reduceEqDiff reduceAdd reduceLeDiff)
section
variable {α:Type} [Inhabited α] {f:α→AV} {K:α→α→Int} {G:α→Prop} {g:Nat} {caps:List AV}
theorem ip.top {a hi:Nat} {M:List α} (hK:Ord K) (h:ip K a hi 0 M):∀ p,p < hi→¬ K (M.getD a default) (M.getD (a + p) default) < 0:=by
 intro p
 induction p using Nat.strongRecOn with
 | ind p ih =>
  intro hp
  by_cases e:p=0
  ·subst e; exact hK.irr _
  ·have k:Kid ((p - 1) / 2) p:=by unfold Kid; omega
   exact hK.negtr _ _ _ (h _ p (Nat.zero_le _) k hp) (ih ((p - 1) / 2) (by omega) (by omega))
structure TailR {α:Type} [Inhabited α] (K:α→α→Int) (a e k:Nat) (M:List α):Prop where
 sort:aO K k e M
 ge:∀ p q,a ≤ p→p < k→k ≤ q→q < e→¬ K (M.getD q default) (M.getD p default) < 0
theorem TailR.step {a e k:Nat} {M N:List α} (hK:Ord K) (ht:TailR K a e (a + (k + 1)) M) (hh:ip K a (k + 1) 0 M) (he:a + (k + 1) ≤ e) (hM:e ≤ M.length) (hp:PermR a (a + k) (swp M a (a + k)) N):TailR K a e (a + k) N:=by
 have hg:∀ j,(swp M a (a + k)).getD j default=if j=a + k then M.getD a default else if j=a then M.getD (a + k) default else M.getD j default:=fun j=>co (by omega) (by omega) j
 have hmax:=hh.top hK
 have lo:∀ q,a + k ≤ q→q < e→∀ p,a ≤ p→p < a + k→¬ K (N.getD q default) (N.getD p default) < 0:=by
  intro q h1 h2
  rw [hp.out q (.inr h1),hg]
  have hl:(swp M a (a + k)).length=M.length:=mD _ _
  refine hp.all (p:=fun x=>¬ K (if q=a + k then M.getD a default else if q=a then M.getD (a + k) default else M.getD q default) x < 0) (by omega) (by omega) ?_
  intro p k1 k2
  rw [hg,if_neg (by omega:¬ p=a + k)]
  by_cases e1:q=a + k
  ·rw [if_pos e1]
   by_cases e2:p=a
   ·rw [if_pos e2]; exact hmax k (by omega)
   ·rw [if_neg e2]
    have:=hmax (p - a) (by omega)
    rw [show a + (p - a)=p by omega] at this
    exact this
  ·rw [if_neg e1,if_neg (by omega:¬ q=a)]
   by_cases e2:p=a
   ·rw [if_pos e2]; exact ht.ge (a + k) q (by omega) (by omega) (by omega) h2
   ·rw [if_neg e2]; exact ht.ge p q k1 (by omega) (by omega) h2
 refine ⟨fun p q h1 h2 h3=>?_,fun p q h1 h2 h3 h4=>lo q h3 h4 p h1 h2⟩
 rw [hp.out p (.inr h1),hp.out q (.inr (by omega)),hg,hg,if_neg (by omega:¬ q=a + k),if_neg (by omega:¬ q=a)]
 by_cases e1:p=a + k
 ·rw [if_pos e1]; exact ht.ge a q (Nat.le_refl _) (by omega) (by omega) h3
 ·rw [if_neg e1,if_neg (by omega:¬ p=a)]; exact ht.sort p q (by omega) h2 h3
theorem TailR.start {a e:Nat} {M:List α}:TailR K a e e M:=⟨fun p q h1 h2 h3=>by omega,fun p q h1 h2 h3 h4=>by omega⟩
theorem TailR.done {a e:Nat} {M:List α} (h:TailR K a e a M):aO K a e M:=h.sort
theorem ip.start {a hi r:Nat} {M:List α} (hr:hi ≤ 2 * r + 1):ip K a hi r M:=fun p c h1 h2 h3=>by unfold Kid at h2; omega
attribute [local irreducible] ai ab aE aG am ao af ap aL aW Go.Abs.Fn aC Go.Abs.Pure ah al Yl
end
end Go.Proofs.Ytbgdcebmgjafjaa
namespace Go.Proofs.Ytbgdcebmgjafjaa
open Go Go.Abs
section
variable {α:Type} [Inhabited α] {f:α→AV} {K:α→α→Int} {G:α→Prop} {g:Nat} {caps:List AV}
attribute [local irreducible] ai ab aE aG am ao af ap aL aW Go.Abs.Fn aC Go.Abs.Pure ah al Yl
end
end Go.Proofs.Ytbgdcebmgjafjaa
namespace Go.Proofs.Ytbgdcebmgjafjaa
open Go Go.Abs
section
variable {α:Type} [Inhabited α] {f:α→AV} {K:α→α→Int} {G:α→Prop} {g:Nat} {caps:List AV}
attribute [local irreducible] ai ab aE aG am ao af ap aL aW Go.Abs.Fn aC Go.Abs.Pure ah al Yl
end
end Go.Proofs.Ytbgdcebmgjafjaa
namespace Go.Proofs.Ytbgdcebmgjafjaa
open Go Go.Abs
def lg {α:Type} [Inhabited α] (K:α→α→Int) (a e:Nat) (M:List α):Prop:=∀ q,0 < a→a ≤ q→q < e→¬ K (M.getD q default) (M.getD (a - 1) default) < 0
section
variable {α:Type} [Inhabited α] {f:α→AV} {K:α→α→Int} {G:α→Prop} {g:Nat} {caps:List AV}
theorem lg.perm {a e:Nat} {L M:List α} (h:lg K a e L) (hp:PermR a e L M) (hae:a ≤ e) (he:e ≤ L.length):lg K a e M:=fun q h0 h1 h2=>by
 rw [hp.out (a - 1) (.inl (by omega))]
 exact hp.all (p:=fun x=>¬ K x (L.getD (a - 1) default) < 0) hae he (fun i k1 k2=>h i h0 k1 k2) q h1 h2
theorem aO.out {a i e:Nat} {L M:List α} (h:aO K a i L) (hp:PermR i e L M):aO K a i M:=fun p q h1 h2 h3=>by
 rw [hp.out p (.inl (by omega)),hp.out q (.inl h3)]; exact h p q h1 h2 h3
attribute [local irreducible] ai ab aE aG am ao af ap aL aW Go.Abs.Fn aC Go.Abs.Pure ah al Yl
end
end Go.Proofs.Ytbgdcebmgjafjaa
namespace Go.Proofs.Ytbgdcebmgjafjaa
open Go Go.Abs
structure PartR {α:Type} [Inhabited α] (P:α→Prop) (a e mu i j:Nat) (M:List α):Prop where
 lo:a + 1 ≤ i
 mid:i ≤ j + 1
 hi:j < e
 mu:j + 1 - i ≤ mu
 up:∀ p,a + 1 ≤ p→p < i→P (M.getD p default)
 dn:∀ q,j < q→q < e→¬ P (M.getD q default)
section
variable {α:Type} [Inhabited α] {f:α→AV} {K:α→α→Int} {G:α→Prop} {g:Nat} {caps:List AV}
theorem PartR.start {P:α→Prop} {a m:Nat} {M:List α} (h:a ≤ m):PartR P a (m + 1) (m + 1 - (a + 1)) (a + 1) m M:=⟨Nat.le_refl _,by omega,by omega,Nat.le_refl _,fun p h1 h2=>by omega,fun q h1 h2=>by omega⟩
theorem PartR.swap {P:α→Prop} {a e mu i k:Nat} {M:List α} (h:PartR P a e mu i (k + 1) M) (hM:e ≤ M.length) (hij:i ≤ k + 1) (hi:¬ P (M.getD i default)) (hj:P (M.getD (k + 1) default)):PartR P a e (k + 1 - (i + 1)) (i + 1) k (swp M i (k + 1))∧k + 1 - (i + 1) < mu:=by
 have hne:i ≠ k + 1:=fun e=>hi (by rw [e]; exact hj)
 have hh:=h.hi
 have hlo:=h.lo
 have hmu:=h.mu
 refine ⟨⟨by omega,by omega,by omega,Nat.le_refl _,fun p h1 h2=>?_,fun q h1 h2=>?_⟩,by omega⟩
 ·rw [co (by omega) (by omega),if_neg (by omega)]
  by_cases e:p=i
  ·rw [if_pos e]; exact hj
  ·rw [if_neg e]; exact h.up p h1 (by omega)
 ·rw [co (by omega) (by omega)]
  by_cases e:q=k + 1
  ·rw [if_pos e]; exact hi
  ·rw [if_neg e,if_neg (by omega)]; exact h.dn q (by omega) h2
attribute [local irreducible] ai ab aE aG am ao af ap aL aW Go.Abs.Fn aC Go.Abs.Pure ah al Yl
theorem PartR.done {P:α→Prop} {a e mu i j:Nat} {M:List α} {v:α} (hK:Ord K) (h:PartR P a e mu i j M) (hM:e ≤ M.length) (hji:j < i) (hv:M.getD a default=v) (hP:∀ x,P x ↔ K x v < 0):a ≤ j∧j < e∧(∀ p,a ≤ p→p < j→K ((swp M j a).getD p default) ((swp M j a).getD j default) < 0)∧(∀ q,j < q→q < e→¬ K ((swp M j a).getD q default) ((swp M j a).getD j default) < 0):=by
 have hlo:=h.lo; have hmid:=h.mid; have hhi:=h.hi
 have ej:(swp M j a).getD j default=v:=by
  rw [co (by omega) (by omega)]
  split
  ·rename_i e; rw [e,hv]
  ·rw [if_pos rfl,hv]
 rw [ej]
 refine ⟨by omega,by omega,fun p h1 h2=>?_,fun q h1 h2=>?_⟩
 ·rw [co (by omega) (by omega)]
  by_cases e:p=a
  ·rw [if_pos e]; exact (hP _).1 (h.up j (by omega) hji)
  ·rw [if_neg e,if_neg (by omega)]; exact (hP _).1 (h.up p (by omega) (by omega))
 ·rw [co (by omega) (by omega),if_neg (by omega),if_neg (by omega),← hP]; exact h.dn q h1 h2
end
end Go.Proofs.Ytbgdcebmgjafjaa
namespace Go.Proofs.Ytbgdcebmgjafjaa
open Go Go.Abs
def xr (a b:Int):Int:=IntKind.wrap .u64 (BitVec.ofInt 64 a ^^^ BitVec.ofInt 64 b).toNat
def q9 (a:Int):Int:=IntKind.wrap .u64 (a * 2 ^ 13)
def rA (a:Int):Int:=IntKind.wrap .u64 (a * 2 ^ 17)
def sr7 (a:Int):Int:=a.fdiv (2 ^ 7)
attribute [irreducible] xr q9 rA sr7
attribute [local irreducible] ai ab aE aG am ao af ap aL aW Go.Abs.Fn aC Go.Abs.Pure ah al Yl
end Go.Proofs.Ytbgdcebmgjafjaa
namespace Go.Proofs.Ytbgdcebmgjafjaa
open Go Go.Abs
open Nat (reduceEqDiff reduceAdd reduceLeDiff)
section
variable {α:Type} [Inhabited α] {f:α→AV} {K:α→α→Int} {G:α→Prop} {g:Nat} {caps:List AV}
attribute [local irreducible] ai ab aE aG am ao af ap aL aW Go.Abs.Fn aC Go.Abs.Pure ah al Yl
end
end Go.Proofs.Ytbgdcebmgjafjaa
namespace Go.Proofs.Ytbgdcebmgjafjaa
open Go Go.Abs
structure PS (H H1:Hp) (nx n1 b:Nat) (cs:List AV):Prop where
 at_:H1 b=some cs
 fr:∀ i,i < nx→i ≠ b→H1 i=H i
 le:nx ≤ n1
section
variable {H H1 H2:Hp} {nx n1 n2 b:Nat} {cs cs':List AV}
theorem PS.upd (h:PS H H1 nx n1 b cs):PS H (ae H1 b cs') nx n1 b cs':=⟨bk,fun i k1 k2=>by rw [a8 k2]; exact h.fr i k1 k2,h.le⟩
theorem PS.new {v:List AV} (hb:b < nx) (h:PS H H1 nx n1 b cs):PS H (ae H1 n1 v) nx (n1 + 1) b cs :=
 have h1:=h.le
 ⟨by rw [a8 (by omega)]; exact h.at_,fun i k1 k2=>by rw [a8 (by omega)]; exact h.fr i k1 k2,by omega⟩
end
section
variable {α:Type} [Inhabited α] {f:α→AV} {K:α→α→Int} {G:α→Prop} {g:Nat} {caps:List AV}
structure PI {α:Type} [Inhabited α] (K:α→α→Int) (a e:Nat) (L:List α) (a1 e1:Nat) (M:List α):Prop where
 lo:a ≤ a1
 mid:a1 ≤ e1
 hi:e1 ≤ e
 len:e ≤ L.length
 perm:PermR a e L M
 low:lg K a1 e1 M
 close:∀ N,PermR a1 e1 M N→aO K a1 e1 N→aO K a e N
variable {a e a1 e1:Nat} {L M N:List α}
theorem PI.mlen (h:PI K a e L a1 e1 M):e1 ≤ M.length:=by rw [h.perm.len]; exact Nat.le_trans h.hi h.len
theorem PI.start (h1:a ≤ e) (h2:e ≤ L.length) (h3:lg K a e L):PI K a e L a e L:=⟨Nat.le_refl _,h1,Nat.le_refl _,h2,.refl,h3,fun _ _ h=>h⟩
theorem PI.swap (h:PI K a e L a1 e1 M) (hp:PermR a1 e1 M N):PI K a e L a1 e1 N :=
 ⟨h.lo,h.mid,h.hi,h.len,h.perm.trans (hp.mono h.lo h.hi),h.low.perm hp h.mid h.mlen,fun N' k1 k2=>h.close N' (hp.trans k1) k2⟩
theorem PI.done (h:PI K a e L a1 e1 M) (hp:PermR a1 e1 M N) (hs:aO K a1 e1 N):PermR a e L N∧aO K a e N:=⟨h.perm.trans (hp.mono h.lo h.hi),h.close N hp hs⟩
theorem PI.equal {v:α} {m:Nat} (hK:Ord K) (h:PI K a e L a1 e1 M) (hp:PermR a1 e1 M N) (hv:¬ K (M.getD (a1 - 1) default) v < 0) (ha:0 < a1) (hm:a1 < m∧m ≤ e1) (h1:∀ p,a1 ≤ p→p < m→¬ K v (N.getD p default) < 0) (h2:∀ q,m ≤ q→q < e1→K v (N.getD q default) < 0):PI K a e L m e1 N:=by
 have hN:=h.swap hp
 have hlow:=hN.low
 have ho:N.getD (a1 - 1) default=M.getD (a1 - 1) default:=hp.out _ (.inl (by omega))
 refine ⟨by have:=h.lo; omega,hm.2,h.hi,h.len,hN.perm,fun q k0 k1 k2=>hK.negtr _ _ _ (h1 (m - 1) (by omega) (by omega)) (hK.asym _ _ (h2 q k1 k2)),fun N' k1 k2=>hN.close N' (k1.mono (by omega) (Nat.le_refl _)) (fun p q c1 c2 c3=>?_)⟩
 by_cases e1':m ≤ p
 ·exact k2 p q e1' c2 c3
 ·rw [k1.out p (.inl (by omega))]
  refine hK.negtr _ _ _ (h1 p c1 (by omega)) ?_
  by_cases e2:m ≤ q
  ·exact hK.asym _ _ (k1.all (p:=fun x=>K v x < 0) hm.2 hN.mlen h2 q e2 c3)
  ·rw [k1.out q (.inl (by omega))]
   exact hK.negtr _ _ _ hv (by rw [← ho]; exact hlow q ha (by omega) c3)
theorem aO.glue {m:Nat} (hK:Ord K) (h1:aO K a1 m N) (h2:aO K (m + 1) e1 N) (h3:∀ p,a1 ≤ p→p < m→¬ K (N.getD m default) (N.getD p default) < 0) (h4:∀ q,m < q→q < e1→¬ K (N.getD q default) (N.getD m default) < 0):aO K a1 e1 N:=fun p q k1 k2 k3=>by
 by_cases c1:q < m
 ·exact h1 p q k1 k2 c1
 ·by_cases c2:m < p
  ·exact h2 p q c2 k2 k3
  ·by_cases c3:p=m
   ·subst c3; exact h4 q (by omega) k3
   ·by_cases c4:q=m
    ·subst c4; exact h3 p k1 k2
    ·exact hK.negtr _ _ _ (h3 p k1 (by omega)) (h4 q (by omega) k3)
structure TwoS {α:Type} [Inhabited α] (K:α→α→Int) (a1 e1 m:Nat) (N:List α):Prop where
 mid:a1 ≤ m∧m < e1
 lt:∀ p,a1 ≤ p→p < m→¬ K (N.getD m default) (N.getD p default) < 0
 ge:∀ q,m < q→q < e1→¬ K (N.getD q default) (N.getD m default) < 0
theorem TwoS.left {m:Nat} {N':List α} (h:TwoS K a1 e1 m N) (hp:PermR a1 m N N') (hl:e1 ≤ N.length):TwoS K a1 e1 m N' :=
 have hm:=h.mid
 ⟨hm,by
  rw [hp.out m (.inr (Nat.le_refl _))]
  exact hp.all (p:=fun x=>¬ K (N.getD m default) x < 0) hm.1 (by omega) h.lt,fun q k1 k2=>by rw [hp.out m (.inr (Nat.le_refl _)),hp.out q (.inr (by omega))]; exact h.ge q k1 k2⟩
theorem TwoS.right {m:Nat} {N':List α} (h:TwoS K a1 e1 m N) (hp:PermR (m + 1) e1 N N') (hl:e1 ≤ N.length):TwoS K a1 e1 m N' :=
 have hm:=h.mid
 ⟨hm,fun p k1 k2=>by rw [hp.out m (.inl (by omega)),hp.out p (.inl (by omega))]; exact h.lt p k1 k2,by
  rw [hp.out m (.inl (by omega))]
  exact fun q k1 k2=>hp.all (p:=fun x=>¬ K x (N.getD m default) < 0) (by omega) hl (fun i c1 c2=>h.ge i (by omega) c2) q (by omega) k2⟩
theorem PI.left {m:Nat} (hK:Ord K) (h:PI K a e L a1 e1 M) (ht:TwoS K a1 e1 m M) (hp:PermR a1 m M N) (hs:aO K a1 m N):PI K a e L (m + 1) e1 N:=by
 have hm:=ht.mid
 have hN:=h.swap (hp.mono (Nat.le_refl _) (by omega))
 have htN:=ht.left hp h.mlen
 refine ⟨by have:=h.lo; omega,by omega,h.hi,h.len,hN.perm,fun q k0 k1 k2=>by rw [Nat.add_sub_cancel]; exact htN.ge q k1 k2,fun N' k1 k2=>hN.close N' (k1.mono (by omega) (Nat.le_refl _)) ?_⟩
 have ht':=htN.right k1 hN.mlen
 exact aO.glue hK (fun p q c1 c2 c3=>by rw [k1.out p (.inl (by omega)),k1.out q (.inl (by omega))]; exact hs p q c1 c2 c3) k2 ht'.lt ht'.ge
theorem PI.right {m:Nat} (hK:Ord K) (h:PI K a e L a1 e1 M) (ht:TwoS K a1 e1 m M) (hp:PermR (m + 1) e1 M N) (hs:aO K (m + 1) e1 N):PI K a e L a1 m N:=by
 have hm:=ht.mid
 have hN:=h.swap (hp.mono (by omega) (Nat.le_refl _))
 have htN:=ht.right hp h.mlen
 refine ⟨h.lo,hm.1,by have:=h.hi; omega,h.len,hN.perm,fun q k0 k1 k2=>hN.low q k0 k1 (by omega),fun N' k1 k2=>hN.close N' (k1.mono (Nat.le_refl _) (by omega)) ?_⟩
 have ht':=htN.left k1 hN.mlen
 exact aO.glue hK k2 (fun p q c1 c2 c3=>by rw [k1.out p (.inr (by omega)),k1.out q (.inr (by omega))]; exact hs p q c1 c2 c3) ht'.lt ht'.ge
theorem lg.sub {a e a' e':Nat} {M:List α} (h:lg K a e M) (ha:a'=a) (he:e' ≤ e):lg K a' e' M:=fun q k0 k1 k2=>by subst ha; exact h q k0 k1 (by omega)
end
end Go.Proofs.Ytbgdcebmgjafjaa
namespace Go.Proofs.Ytbgdcebmgjafjaa
open Go Go.Abs
section
variable {α:Type} [Inhabited α] {f:α→AV} {K:α→α→Int} {G:α→Prop} {g:Nat} {caps:List AV}
attribute [local irreducible] ai ab aE aG am ao af ap aL aW Go.Abs.Fn aC Go.Abs.Pure ah al Yl
end
end Go.Proofs.Ytbgdcebmgjafjaa
namespace Go.Proofs.Ytbgdcebmgjafjaa
open Go Go.Abs
open Nat (reduceEqDiff reduceAdd reduceLeDiff)
section
variable {α:Type} [Inhabited α] {f:α→AV} {K:α→α→Int} {G:α→Prop} {g:Nat} {caps:List AV}
attribute [local irreducible] ai ab aE aG am ao af ap aL aW Go.Abs.Fn aC Go.Abs.Pure ah al Yl
end
end Go.Proofs.Ytbgdcebmgjafjaa
namespace Go.Proofs.Ytbgdcebmgjafjaa
open Go Go.Abs
def _root_.List.c2 {α:Type} (l:List α) (f:α→AV):List AV:=l.flatMap fun x=>(f x).cells
structure Cmp2 {α:Type} (P:Program) (f:α→AV) (K:α→α→Int) (G:α→Prop) (g:Nat) (caps:List AV):Prop where
 len:∀ x,(f x).cells.length=2
 agg:∀ x,AV.agg (f x).cells=f x
 ones:∀ x,AV.ones (f x).cells=true
 dat:∀ x,Dat (f x)
 dcaps:∀ x ∈ caps,Dat x
 run:∀ x y,G x→G y→Go.Abs.Pure P g (f x :: f y :: caps) (.int .i64 (K x y))
 ord:Ord K
section
variable {α:Type} {f:α→AV} (h:∀ x,(f x).cells.length=2)
include h
end
section
variable {α:Type} [Inhabited α] {f:α→AV} {K:α→α→Int} {G:α→Prop} {g:Nat} {caps:List AV}
attribute [local irreducible] ai ab aE aG am ao af ap aL aW Go.Abs.Fn aC Go.Abs.Pure ah al Yl
end
end Go.Proofs.Ytbgdcebmgjafjaa
namespace Go.Proofs.Ytbgdcebmgjafjaa
open Go Go.Abs
section
variable {α:Type} [Inhabited α] {f:α→AV} {K:α→α→Int} {G:α→Prop} {g:Nat} {caps:List AV}
attribute [local irreducible] ai ab aE aG am ao af ap aL aW Go.Abs.Fn aC Go.Abs.Pure ah al Yl
end
end Go.Proofs.Ytbgdcebmgjafjaa
namespace Go.Proofs.Ytbgdcebmgjafjaa
open Go Go.Abs
open Nat (reduceEqDiff reduceAdd reduceLeDiff)
section
variable {α:Type} [Inhabited α] {f:α→AV} {K:α→α→Int} {G:α→Prop} {g:Nat} {caps:List AV}
attribute [local irreducible] ai ab aE aG am ao af ap aL aW Go.Abs.Fn aC Go.Abs.Pure ah al Yl
end
end Go.Proofs.Ytbgdcebmgjafjaa
namespace Go.Proofs.Ytbgdcebmgjafjaa
open Go Go.Abs
section
variable {α:Type} [Inhabited α] {f:α→AV} {K:α→α→Int} {G:α→Prop} {g:Nat} {caps:List AV}
attribute [local irreducible] ai ab aE aG am ao af ap aL aW Go.Abs.Fn aC Go.Abs.Pure ah al Yl
end
end Go.Proofs.Ytbgdcebmgjafjaa
namespace Go.Proofs.Ytbgdcebmgjafjaa
open Go Go.Abs
section
variable {α:Type} [Inhabited α] {f:α→AV} {K:α→α→Int} {G:α→Prop} {g:Nat} {caps:List AV}
attribute [local irreducible] ai ab aE aG am ao af ap aL aW Go.Abs.Fn aC Go.Abs.Pure ah al Yl
end
end Go.Proofs.Ytbgdcebmgjafjaa
namespace Go.Proofs.Ytbgdcebmgjafjaa
open Go Go.Abs
section
variable {α:Type} [Inhabited α] {f:α→AV} {K:α→α→Int} {G:α→Prop} {g:Nat} {caps:List AV}
attribute [local irreducible] ai ab aE aG am ao af ap aL aW Go.Abs.Fn aC Go.Abs.Pure ah al Yl
end
end Go.Proofs.Ytbgdcebmgjafjaa
namespace Go.Proofs.Ytbgdcebmgjafjaa
open Go Go.Abs
section
variable {α:Type} [Inhabited α] {f:α→AV} {K:α→α→Int} {G:α→Prop} {g:Nat} {caps:List AV}
attribute [local irreducible] ai ab aE aG am ao af ap aL aW Go.Abs.Fn aC Go.Abs.Pure ah al Yl
end
end Go.Proofs.Ytbgdcebmgjafjaa
namespace Go.Proofs.Ytbgdcebmgjafjaa
open Go Go.Abs
open Nat (reduceEqDiff reduceAdd reduceLeDiff)
section
variable {α:Type} [Inhabited α] {f:α→AV} {K:α→α→Int} {G:α→Prop} {g:Nat} {caps:List AV}
attribute [local irreducible] ai ab aE aG am ao af ap aL aW Go.Abs.Fn aC Go.Abs.Pure ah al Yl
end
end Go.Proofs.Ytbgdcebmgjafjaa
namespace Go.Proofs.Ytbgdcebmgjafjaa
open Go Go.Abs
section
variable {α:Type} [Inhabited α] {f:α→AV} {K:α→α→Int} {G:α→Prop} {g:Nat} {caps:List AV}
attribute [local irreducible] ai ab aE aG am ao af ap aL aW Go.Abs.Fn aC Go.Abs.Pure ah al Yl
end
end Go.Proofs.Ytbgdcebmgjafjaa
namespace Go.Proofs.Ytbgdcebmgjafjaa
open Go Go.Abs
open Nat (reduceEqDiff reduceAdd reduceLeDiff)
section
variable {α:Type} [Inhabited α] {f:α→AV} {K:α→α→Int} {G:α→Prop} {g:Nat} {caps:List AV}
attribute [local irreducible] ai ab aE aG am ao af ap aL aW Go.Abs.Fn aC Go.Abs.Pure ah al Yl
end
end Go.Proofs.Ytbgdcebmgjafjaa
namespace Go.Proofs.Ytbgdcebmgjafjaa
open Go Go.Abs
open Nat (reduceEqDiff reduceAdd reduceLeDiff)
attribute [local irreducible] ai ab aE aG am ao af ap aL aW Go.Abs.Fn aC Go.Abs.Pure ah al Yl
end Go.Proofs.Ytbgdcebmgjafjaa
namespace Go.Proofs.Ytbgdcebmgjafjaa
open Go Go.Abs
theorem pZ (a b:Vtx):gH (.st [.int,.int]) (bb a) (bb b)=some (decide (a=b)):=by
 show bd [.int,.int] [.int .i64 a.color,.int .i64 a.label] [.int .i64 b.color,.int .i64 b.label]=_
 rw [oJ,mI]
theorem nW (v:Vtx) (ks:List Vtx):bm (.st [.int,.int]) (bb v) (ks.map bb)=some (if v ∈ ks then some (ks.idxOf v) else none):=jx _ bb pZ v ks
theorem oa (v:Vtx):f8 (.st [.int,.int]) (bb v)=true:=rfl
def pP (i:Nat):AV:=.int .i64 (i:Int)
structure IncOk (H:Hp) (b lo hi:Nat) (F:Vtx→List Nat) (ks:List Vtx) (vs:List AV):Prop where
 box:H b=some [.omap (ks.map bb) vs]
 len:vs.length=ks.length
 nodup:ks.Nodup
 dom:∀ v,v ∈ ks ↔ F v ≠ []
 row:∀ j,j < ks.length→Row H 1 (vs.getD j .undef) ((F (ks.getD j default)).map pP)
 bnd:∀ j B,j < ks.length→lc (vs.getD j .undef)=some B→lo ≤ B∧B < hi∧B ≠ b
 apart:∀ i j B,i < ks.length→j < ks.length→i ≠ j→lc (vs.getD i .undef)=some B→lc (vs.getD j .undef) ≠ some B
 lt:b < hi
theorem ni {l:List AV} {i j:Nat} {x:AV} (h:i < l.length):(l.set i x).getD j .undef=if i=j then x else l.getD j .undef:=by
 simp only [List.getD,List.getElem?_set]
 split
 ·rename_i e; subst e; simp [h]
 ·rfl
theorem lh {α:Type} {l m:List α} {j:Nat} {d:α} (h:j < l.length):(l ++ m).getD j d=l.getD j d:=by
 simp [List.getD,List.getElem?_append_left h]
theorem jv {α:Type} {l:List α} {x d:α}:(l ++ [x]).getD l.length d=x:=by simp [List.getD]
theorem j1 {l:List Vtx} {v:Vtx} (h:v ∈ l):l.idxOf v < l.length∧l.getD (l.idxOf v) default=v:=by
 have h1:=List.idxOf_lt_length_iff.2 h
 exact ⟨h1,by simp [List.getD,h1]⟩
theorem na {l:List Vtx} (h:l.Nodup) {i j:Nat} (hi:i < l.length) (hj:j < l.length) (e:l.getD i default=l.getD j default):i=j:=by
 have hp:=List.pairwise_iff_getElem.1 (List.nodup_iff_pairwise_ne.1 h)
 rw [show l.getD i default=l[i] by simp [List.getD,hi],show l.getD j default=l[j] by simp [List.getD,hj]] at e
 rcases Nat.lt_trichotomy i j with c | c | c
 ·exact absurd e (hp i j hi hj c)
 ·exact c
 ·exact absurd e.symm (hp j i hj hi c)
theorem IncOk.same {H H':Hp} {b lo hi hi':Nat} {F:Vtx→List Nat} {ks:List Vtx} {vs:List AV} (h:IncOk H b lo hi F ks vs) (hb:H' b=H b) (hs:∀ x,lo ≤ x→x < hi→x ≠ b→H' x=H x) (hh:hi ≤ hi'):IncOk H' b lo hi' F ks vs :=
 ⟨hb.trans h.box,h.len,h.nodup,h.dom,fun j hj=>(h.row j hj).same fun B hB=>by have:=h.bnd j B hj hB; exact hs B this.1 this.2.1 this.2.2,fun j B hj hB=>by have:=h.bnd j B hj hB; exact ⟨this.1,by omega,this.2.2⟩,h.apart,by have:=h.lt; omega⟩
theorem IncOk.put {H H':Hp} {b lo hi hi' i:Nat} {F G:Vtx→List Nat} {ks:List Vtx} {vs:List AV} {w:Vtx} {sv:AV} (h:IncOk H b lo hi F ks vs) (hw:w ∈ ks) (hG:∀ v,G v=if v=w then F v ++ [i] else F v) (hrow:Row H' 1 sv ((F w ++ [i]).map pP)) (hB:∀ B,lc sv=some B→lc (vs.getD (ks.idxOf w) .undef)=some B ∨ hi ≤ B∧B < hi'∧B ≠ b) (hb:H' b=some [.omap (ks.map bb) (vs.set (ks.idxOf w) sv)])
    (hs:∀ x,lo ≤ x→x < hi→x ≠ b→lc (vs.getD (ks.idxOf w) .undef) ≠ some x→H' x=H x) (hh:hi ≤ hi') (hlo:lo ≤ hi):IncOk H' b lo hi' G ks (vs.set (ks.idxOf w) sv):=by
 obtain ⟨k1,k2⟩:=j1 hw
 have hl:=h.len
 have hg:∀ j,(vs.set (ks.idxOf w) sv).getD j .undef=if ks.idxOf w=j then sv else vs.getD j .undef:=fun j=>ni (by omega)
 have hne:∀ j,j < ks.length→ks.idxOf w ≠ j→ks.getD j default ≠ w:=fun j hj hn e=>hn (na h.nodup k1 hj (by rw [k2,e]))
 refine ⟨hb,by simp [hl],h.nodup,fun v=>?_,fun j hj=>?_,fun j B hj=>?_,fun p q B hp hq hpq=>?_,by have:=h.lt; omega⟩
 ·rw [hG,h.dom]
  by_cases e:v=w
  ·subst e
   rw [if_pos rfl]
   exact ⟨fun _=>by simp,fun _=>(h.dom v).1 hw⟩
  ·rw [if_neg e]
 ·rw [hg,hG]
  by_cases e:ks.idxOf w=j
  ·rw [if_pos e,if_pos (by rw [← e]; exact k2),← e,k2]; exact hrow
  ·rw [if_neg e,if_neg (hne j hj e)]
   exact (h.row j hj).same fun B hB'=>by
    have:=h.bnd j B hj hB'
    exact hs B this.1 this.2.1 this.2.2 fun h'=>h.apart (ks.idxOf w) j B k1 hj e h' hB'
 ·rw [hg]
  by_cases e:ks.idxOf w=j
  ·rw [if_pos e]
   intro hB'
   rcases hB B hB' with h' | h'
   ·have:=h.bnd _ B k1 h'; exact ⟨this.1,by omega,this.2.2⟩
   ·exact ⟨by omega,h'.2⟩
  ·rw [if_neg e]
   intro hB'
   have:=h.bnd j B hj hB'
   exact ⟨this.1,by omega,this.2.2⟩
 ·rw [hg,hg]
  by_cases e1:ks.idxOf w=p
  ·rw [if_pos e1,if_neg (by omega)]
   intro h1 h2
   rcases hB B h1 with h' | h'
   ·exact h.apart (ks.idxOf w) q B k1 hq (by omega) h' h2
   ·have:=h.bnd q B hq h2; omega
  ·rw [if_neg e1]
   by_cases e2:ks.idxOf w=q
   ·rw [if_pos e2]
    intro h1 h2
    rcases hB B h2 with h' | h'
    ·exact h.apart p (ks.idxOf w) B hp k1 (by omega) h1 h'
    ·have:=h.bnd p B hp h1; omega
   ·rw [if_neg e2]; exact h.apart p q B hp hq hpq
theorem IncOk.new {H H':Hp} {b lo hi hi' i:Nat} {F G:Vtx→List Nat} {ks:List Vtx} {vs:List AV} {w:Vtx} {sv:AV} (h:IncOk H b lo hi F ks vs) (hw:w ∉ ks) (hG:∀ v,G v=if v=w then F v ++ [i] else F v) (hrow:Row H' 1 sv ([i].map pP)) (hB:∀ B,lc sv=some B→hi ≤ B∧B < hi'∧B ≠ b) (hb:H' b=some [.omap ((ks ++ [w]).map bb) (vs ++ [sv])])
    (hs:∀ x,lo ≤ x→x < hi→x ≠ b→H' x=H x) (hh:hi ≤ hi') (hlo:lo ≤ hi):IncOk H' b lo hi' G (ks ++ [w]) (vs ++ [sv]):=by
 have hl:=h.len
 have hF:F w=[]:=by
  cases hf:F w with
  | nil=>rfl
  | cons a r=>exact absurd ((h.dom w).2 (by rw [hf]; simp)) hw
 have g1:∀ j,j < ks.length→(ks ++ [w]).getD j default=ks.getD j default∧(vs ++ [sv]).getD j .undef=vs.getD j .undef:=fun j hj=>⟨lh hj,lh (by omega)⟩
 have g2:(ks ++ [w]).getD ks.length default=w∧(vs ++ [sv]).getD ks.length .undef=sv:=⟨jv,by rw [← hl]; exact jv⟩
 refine ⟨hb,by simp [hl],?_,fun v=>?_,fun j hj=>?_,fun j B hj=>?_,fun p q B hp hq hpq=>?_,by have:=h.lt; omega⟩
 ·rw [List.nodup_append]
  exact ⟨h.nodup,by simp,fun a ha c hc e=>by rw [List.mem_singleton] at hc; exact hw (by rw [← hc,← e]; exact ha)⟩
 ·rw [hG,List.mem_append,List.mem_singleton]
  by_cases e:v=w
  ·subst e; rw [if_pos rfl]; simp
  ·rw [if_neg e,← h.dom]; simp [e]
 ·rw [List.length_append,List.length_singleton] at hj
  by_cases e:j=ks.length
  ·subst e
   rw [g2.1,g2.2,hG,if_pos rfl,hF]; exact hrow
  ·obtain ⟨e1,e2⟩:=g1 j (by omega)
   have hne:ks.getD j default ≠ w:=fun e'=>hw (e' ▸ oX (by omega))
   rw [e1,e2,hG,if_neg hne]
   exact (h.row j (by omega)).same fun B hB'=>by have:=h.bnd j B (by omega) hB'; exact hs B this.1 this.2.1 this.2.2
 ·rw [List.length_append,List.length_singleton] at hj
  by_cases e:j=ks.length
  ·subst e
   rw [g2.2]; intro hB'
   have:=hB B hB'; exact ⟨by omega,this.2⟩
  ·rw [(g1 j (by omega)).2]; intro hB'
   have:=h.bnd j B (by omega) hB'; exact ⟨this.1,by omega,this.2.2⟩
 ·rw [List.length_append,List.length_singleton] at hp hq
  by_cases e1:p=ks.length
  ·subst e1
   rw [g2.2,(g1 q (by omega)).2]
   intro h1 h2
   have:=hB B h1
   have:=h.bnd q B (by omega) h2
   omega
  ·rw [(g1 p (by omega)).2]
   by_cases e2:q=ks.length
   ·subst e2
    rw [g2.2]
    intro h1 h2
    have:=hB B h2
    have:=h.bnd p B (by omega) h1
    omega
   ·rw [(g1 q (by omega)).2]; exact h.apart p q B (by omega) (by omega) hpq
end Go.Proofs.Ytbgdcebmgjafjaa
namespace Go.Proofs.Ytbgdcebmgjafjaa
open Go Go.Abs
attribute [local irreducible] ai ab aE aG am ao af ap aL aW Go.Abs.Fn aC Go.Abs.Pure ah al Yl
end Go.Proofs.Ytbgdcebmgjafjaa
namespace Go.Proofs.Ytbgdcebmgjafjaa
open Go Go.Abs
attribute [local irreducible] ai ab aE aG am ao af ap aL aW Go.Abs.Fn aC Go.Abs.Pure ah al Yl
end Go.Proofs.Ytbgdcebmgjafjaa
namespace Go.Proofs.Ytbgdcebmgjafjaa
open Go Go.Abs
attribute [local irreducible] ai ab aE aG am ao af ap aL aW Go.Abs.Fn aC Go.Abs.Pure ah al Yl
end Go.Proofs.Ytbgdcebmgjafjaa
namespace Go.Proofs.Ytbgdcebmgjafjaa
open Go Go.Abs
attribute [local irreducible] ai ab aE aG am ao af ap aL aW Go.Abs.Fn aC Go.Abs.Pure ah al Yl
end Go.Proofs.Ytbgdcebmgjafjaa
namespace Go.Proofs.Ytbgdcebmgjafjaa
open Go Go.Abs
structure MapV where
 fr:Spx
 to:Spx
 deriving Inhabited,DecidableEq
abbrev i1 (m:MapV):AV:=.agg [bc m.fr,bc m.to]
theorem cp (m:MapV):Dat (i1 m):=Dat.agg (DatL.cons (eS _) (DatL.cons (eS _) DatL.nil))
instance datI_encM {m:MapV}:DatI (i1 m):=⟨cp m⟩
abbrev ShM (m:MapV):Prop:=Shn m.fr∧Shn m.to
def iZ (m:MapV) (k:Nat):Int:=if a9 (m.fr.getD k default)=false ∨ a9 (m.to.getD k default)=false then 2 else if 0 < k∧0 ≤ dJ (m.fr.getD (k - 1) default) (m.fr.getD k default) then 14 else 0
def cg (m:MapV):Int:=if 4096 < m.fr.length then 5 else if m.to.length ≠ m.fr.length then 15 else cE (iZ m) m.fr.length
theorem lU {m:MapV} (h:cg m=0):m.fr.length ≤ 4096∧m.to.length=m.fr.length∧kj dJ m.fr∧(∀ v ∈ m.fr,a9 v=true)∧∀ v ∈ m.to,a9 v=true:=by
 unfold cg at h
 split at h
 ·exact absurd h (by decide)
 split at h
 ·exact absurd h (by decide)
 rename_i h1 h2
 have h2:=Decidable.of_not_not h2
 have hz:=iu h
 have h3:∀ k,k < m.fr.length→(a9 (m.fr.getD k default)=true∧a9 (m.to.getD k default)=true)∧(0 < k→dJ (m.fr.getD (k - 1) default) (m.fr.getD k default) < 0):=fun k hk=>by
  have:=hz k hk
  unfold iZ at this
  split at this
  ·exact absurd this (by decide)
  rename_i g1
  split at this
  ·exact absurd this (by decide)
  rename_i g2
  exact ⟨⟨by cases hr:a9 (m.fr.getD k default) with
   | true=>rfl
   | false=>exact absurd (.inl hr) g1,by cases hr:a9 (m.to.getD k default) with
   | true=>rfl
   | false=>exact absurd (.inr hr) g1⟩,fun h0=>by omega⟩
 refine ⟨by omega,h2,?_,fun v hv=>?_,fun v hv=>?_⟩
 ·have step:∀ j i,i < j→j < m.fr.length→dJ (m.fr.getD i default) (m.fr.getD j default) < 0:=by
    intro j
    induction j with
    | zero=>intro i h; omega
    | succ j ih =>
     intro i hi hj
     have hs:=(h3 (j + 1) hj).2 (by omega)
     rw [Nat.add_sub_cancel] at hs
     by_cases e:i=j
     ·subst e; exact hs
     ·exact qP.trans (ih i (by omega) (by omega)) hs
  unfold kj
  rw [List.pairwise_iff_getElem]
  intro i j hi hj hij
  have:=step j i hij hj
  simpa [List.getD,hi,hj] using this
 ·obtain ⟨i,hi,rfl⟩:=List.getElem_of_mem hv
  have:=(h3 i hi).1.1
  simpa [List.getD,hi] using this
 ·obtain ⟨i,hi,rfl⟩:=List.getElem_of_mem hv
  have:=(h3 i (by omega)).1.2
  simpa [List.getD,hi] using this
def nu (m:MapV) (v:Vtx):Vtx:=m.to.getD (m.fr.idxOf v) default
def nJ (m:MapV):Bool:=decide (m.fr.length ≤ 40) && decide (m.to.length ≤ 40)
theorem ir {m:MapV} {k:Nat}:iZ m k=if a9 (m.fr.getD k default)=false ∨ a9 (m.to.getD k default)=false then 2 else if 0 < k∧0 ≤ dJ (m.fr.getD (k - 1) default) (m.fr.getD k default) then 14 else 0:=rfl
attribute [local irreducible] ai ab aE aG am ao af ap aL aW Go.Abs.Fn aC Go.Abs.Pure ah al Yl
theorem kG (m:MapV) (hm:ShM m):Pure Try.prog 9 [i1 m] (.int .i64 (cg m)):=by
 refine Pure.of_c2 follows is9 (Nat.le_of_ble_eq_true rfl) ?_
 simp only [b9,cO,cG,cN,cM,cD,cF,cB,an,bt]
 obtain ⟨hm1,hm2⟩:=hm
 have hm1':m.fr.length ≤ 17592186044416:=hm1
 have hm2':m.to.length ≤ 17592186044416:=hm2
 by_cases h0:4096 < m.fr.length
 ·rw [show cg m=5 by unfold cg; rw [if_pos h0]]
  (have zz:=aI @aj (aI @aQ @aB); repeat' (first | refine zW ?_ | apply a_n | apply a_r | refine zO ?_ | refine vZ ?_ | refine bxZ ?_ | (refine zGZ ?_ ?_ <;> (intro _hg; try (exfalso; omega))) | refine aK rfl ?_ | refine r1Z ?_ | fail)) <;> (try clear zz)
  all_goals exact da rfl
 by_cases h8:m.to.length ≠ m.fr.length
 ·rw [show cg m=15 by unfold cg; rw [if_neg h0,if_pos h8]]
  have z:decide ((m.to.length:Int) ≠ m.fr.length)=true:=decide_eq_true (by omega)
  (have zz:=aI @aj (aI @aQ (aI @aB @z)); repeat' (first | refine zW ?_ | apply a_n | apply a_r | refine zO ?_ | refine vZ ?_ | refine bxZ ?_ | refine cTZ ?_ | (refine zGZ ?_ ?_ <;> (intro _hg; try (exfalso; omega))) | refine aK rfl ?_ | refine r1Z ?_ | fail)) <;> (try clear zz)
  all_goals exact da rfl
 rw [show cg m=cE (iZ m) m.fr.length by unfold cg; rw [if_neg h0,if_neg h8]]
 have h8':=Decidable.of_not_not h8
 have z:decide ((m.to.length:Int) ≠ m.fr.length)=false:=decide_eq_false (by omega)
 (have zz:=aI @aj (aI @aQ (aI @aB @z)); repeat' (first | refine zW ?_ | apply a_n | refine zO ?_ | refine vZ ?_ | refine bxZ ?_ | refine cFZ ?_ | (refine zGZ ?_ ?_ <;> (intro _hg; try (exfalso; omega))) | fail)) <;> (try clear zz)
 refine mh (X:=Nat) (fun k=>[(1,.ptr 0 2 0),(19,bc m.fr),(20,.int .i64 m.fr.length),(21,.int .i64 k)]) (fun k H nx=>k ≤ m.fr.length∧H 0=some [bc m.fr,bc m.to]∧1 ≤ nx∧∀ i,i < k→iZ m i=0) (fun k=>m.fr.length - k) 0 ⟨Nat.zero_le _,rfl,by omega,fun i h=>absurd h (by omega)⟩ (by (iterate 4 refine And.intro rfl ?_); trivial) ?_
 rintro k H nx ⟨h1,g0,hnx,h2⟩
 by_cases hk:k < m.fr.length
 rotate_left
 ·rw [di fun i hi=>h2 i (by omega)]
  (have zz:=@aj; repeat' (first | refine zW ?_ | apply a_n | apply a_x | refine zO ?_ | refine vY ?_ | (refine zGY ?_ ?_ <;> (intro _hg; try (exfalso; omega))) | refine aK rfl ?_ | refine r1Y ?_ | fail)) <;> (try clear zz)
  exact .int _ _
 have ix:=ix2 hk
 have it:=ix2 (l:=m.to) (k:=k) (by omega)
 have hp:=kW (m.fr.getD k default)
 have hq:=kW (m.to.getD k default)
 have hs:=ir (m:=m) (k:=k)
 have done:iZ m k=0→∀ i,i < k + 1→iZ m i=0:=fun h i hi=>by
  rcases Nat.lt_succ_iff_lt_or_eq.1 hi with h' | rfl
  ·exact h2 i h'
  ·exact h
 cases hr:a9 (m.fr.getD k default)
 ·rw [hr] at hp
  rw [if_pos (.inl hr)] at hs
  rw [bP hk h2 (by rw [hs]; decide),hs]
  (have zz:=aI @aj (aI @ix (aI @it @g0)); repeat' (first | refine zW ?_ | apply a_n | apply a_r | refine zO ?_ | refine vY ?_ | refine cY ?_ (hp:=hp) (hs:=by (first | refine au ?_ rfl | apply aH); (repeat' (first | exact az | apply aZ | apply aF | exact a7 _)); first | done | fail) | refine alY ?_ | refine stY ?_ | refine gFY ?_ | refine cTY ?_ | (refine zGY ?_ ?_ <;> (intro _hg; try (exfalso; omega))) | refine aK rfl ?_ | refine r1Y ?_ | fail)) <;> (try clear zz)
  exact .int _ _
 rw [hr] at hp
 cases hr2:a9 (m.to.getD k default)
 ·rw [hr2] at hq
  rw [if_pos (.inr hr2)] at hs
  rw [bP hk h2 (by rw [hs]; decide),hs]
  (have zz:=aI @aj (aI @ix (aI @it @g0)); repeat' (first | refine zW ?_ | apply a_n | apply a_r | refine zO ?_ | refine vY ?_ | refine cY ?_ (hp:=by first | exact hp | exact hq) (hs:=by (first | refine au ?_ rfl | apply aH); (repeat' (first | exact az | apply aZ | apply aF | exact a7 _)); first | done | fail) | refine alY ?_ | refine stY ?_ | refine gTY ?_ | refine cTY ?_ | (refine zGY ?_ ?_ <;> (intro _hg; try (exfalso; omega))) | refine aK rfl ?_ | refine r1Y ?_ | fail)) <;> (try clear zz)
  exact .int _ _
 rw [hr2] at hq
 rw [if_neg (by rw [hr,hr2]; rintro (h | h) <;> cases h)] at hs
 have gk:∀ {cs:List AV},ae H nx cs 0=some [bc m.fr,bc m.to]:=fun {cs}=>by rw [a8 (by omega)]; exact g0
 by_cases hk0:0 < k
 rotate_left
 ·rw [if_neg (fun h=>hk0 h.1)] at hs
  have zk:decide (0 < (k:Int))=false:=decide_eq_false (by omega)
  (have zz:=aI @aj (aI @ix (aI @it (aI @zk @g0))); repeat' (first | refine zW ?_ | refine zM ?_ | apply a_n | refine zO ?_ | refine vY ?_ | refine cY ?_ (hp:=by first | exact hp | exact hq) (hs:=by (first | refine au ?_ rfl | apply aH); (repeat' (first | exact az | apply aZ | apply aF | exact a7 _)); first | done | fail) | refine alY ?_ | refine stY ?_ | refine gTY ?_ | refine gFY ?_ | refine cFY ?_ | (refine zGY ?_ ?_ <;> (intro _hg; try (exfalso; omega))) | fail)) <;> (try clear zz)
  exact ⟨k + 1,by omega,⟨by omega,by (repeat rw [a8 (by omega)]); exact g0,by omega,done hs⟩,ag0⟩
 have zk:decide (0 < (k:Int))=true:=decide_eq_true (by omega)
 have iy:dN 2 (bc m.fr) (.int .i64 ((k:Int) - 1))=some (.iptr [.int .i64 (m.fr.getD (k - 1) default).color,.int .i64 (m.fr.getD (k - 1) default).label] 0):=by
  have:=ix2 (l:=m.fr) (k:=k - 1) (by omega)
  rwa [show ((k - 1:Nat):Int)=(k:Int) - 1 by omega] at this
 have hc:=ma (m.fr.getD (k - 1) default) (m.fr.getD k default)
 by_cases hv:0 ≤ dJ (m.fr.getD (k - 1) default) (m.fr.getD k default)
 ·have z:decide (0 ≤ dJ (m.fr.getD (k - 1) default) (m.fr.getD k default))=true:=decide_eq_true hv
  rw [if_pos ⟨hk0,hv⟩] at hs
  rw [bP hk h2 (by rw [hs]; decide),hs]
  (have zz:=aI @aj (aI @ix (aI @it (aI @iy (aI @zk (aI @z @g0))))); repeat' (first | refine zW ?_ | refine zM ?_ | apply a_n | apply a_r | refine zO ?_ | refine vY ?_ | refine cY ?_ (hp:=by first | exact hp | exact hq | exact hc) (hs:=by (first | refine au ?_ rfl | apply aH); (repeat' (first | exact az | apply aZ | apply aF | exact a7 _)); first | done | fail) | refine alY ?_ | refine stY ?_ | refine gTY ?_ | refine cTY ?_ | refine cFY ?_ | (refine zGY ?_ ?_ <;> (intro _hg; try (exfalso; omega))) | refine aK rfl ?_ | refine r1Y ?_ | fail)) <;> (try clear zz)
  exact .int _ _
 ·have z:decide (0 ≤ dJ (m.fr.getD (k - 1) default) (m.fr.getD k default))=false:=decide_eq_false hv
  rw [if_neg (fun h=>hv h.2)] at hs
  (have zz:=aI @aj (aI @ix (aI @it (aI @iy (aI @zk (aI @z @g0))))); repeat' (first | refine zW ?_ | refine zM ?_ | apply a_n | refine zO ?_ | refine vY ?_ | refine cY ?_ (hp:=by first | exact hp | exact hq | exact hc) (hs:=by (first | refine au ?_ rfl | apply aH); (repeat' (first | exact az | apply aZ | apply aF | exact a7 _)); first | done | fail) | refine alY ?_ | refine stY ?_ | refine gTY ?_ | refine cFY ?_ | (refine zGY ?_ ?_ <;> (intro _hg; try (exfalso; omega))) | fail)) <;> (try clear zz)
  exact ⟨k + 1,by omega,⟨by omega,by (repeat rw [a8 (by omega)]); exact g0,by omega,done hs⟩,ag0⟩
theorem mj (m:MapV) (hm:ShM m):Pure Try.prog 10 [i1 m] (.int .i64 (cg m)):=by
 refine Pure.of_c2 follows rO (Nat.le_of_ble_eq_true rfl) ?_
 simp only [b10,cO,cG,cN,cM,cD,cF,cB,an,bt]
 obtain ⟨hm1,hm2⟩:=hm
 have hm1':m.fr.length ≤ 17592186044416:=hm1
 have hm2':m.to.length ≤ 17592186044416:=hm2
 by_cases h0:4096 < m.fr.length
 ·rw [show cg m=5 by unfold cg; rw [if_pos h0]]
  (have zz:=aI @aj (aI @aQ @aB); repeat' (first | refine zW ?_ | apply a_n | apply a_r | refine zO ?_ | refine vZ ?_ | refine bxZ ?_ | (refine zGZ ?_ ?_ <;> (intro _hg; try (exfalso; omega))) | refine aK rfl ?_ | refine r1Z ?_ | fail)) <;> (try clear zz)
  all_goals exact da rfl
 by_cases h8:m.to.length ≠ m.fr.length
 ·rw [show cg m=15 by unfold cg; rw [if_neg h0,if_pos h8]]
  have z:decide ((m.to.length:Int) ≠ m.fr.length)=true:=decide_eq_true (by omega)
  (have zz:=aI @aj (aI @aQ (aI @aB @z)); repeat' (first | refine zW ?_ | apply a_n | apply a_r | refine zO ?_ | refine vZ ?_ | refine bxZ ?_ | refine cTZ ?_ | (refine zGZ ?_ ?_ <;> (intro _hg; try (exfalso; omega))) | refine aK rfl ?_ | refine r1Z ?_ | fail)) <;> (try clear zz)
  all_goals exact da rfl
 rw [show cg m=cE (iZ m) m.fr.length by unfold cg; rw [if_neg h0,if_neg h8]]
 have h8':=Decidable.of_not_not h8
 have z:decide ((m.to.length:Int) ≠ m.fr.length)=false:=decide_eq_false (by omega)
 (have zz:=aI @aj (aI @aQ (aI @aB @z)); repeat' (first | refine zW ?_ | apply a_n | refine zO ?_ | refine vZ ?_ | refine bxZ ?_ | refine cFZ ?_ | (refine zGZ ?_ ?_ <;> (intro _hg; try (exfalso; omega))) | fail)) <;> (try clear zz)
 refine mh (X:=Nat) (fun k=>[(1,.ptr 0 2 0),(3,.int .i64 k)]) (fun k H nx=>k ≤ m.fr.length∧H 0=some [bc m.fr,bc m.to]∧1 ≤ nx∧∀ i,i < k→iZ m i=0) (fun k=>m.fr.length - k) 0 ⟨Nat.zero_le _,rfl,by omega,fun i h=>absurd h (by omega)⟩ (by (iterate 2 refine And.intro rfl ?_); trivial) ?_
 rintro k H nx ⟨h1,g0,hnx,h2⟩
 by_cases hk:k < m.fr.length
 rotate_left
 ·rw [di fun i hi=>h2 i (by omega)]
  (have zz:=aI @aj @g0; repeat' (first | refine zW ?_ | apply a_n | apply a_x | refine zO ?_ | refine vY ?_ | (refine zGY ?_ ?_ <;> (intro _hg; try (exfalso; omega))) | refine aK rfl ?_ | refine r1Y ?_ | fail)) <;> (try clear zz)
  exact .int _ _
 have ix:=ix2 hk
 have it:=ix2 (l:=m.to) (k:=k) (by omega)
 have hp:=jo (m.fr.getD k default)
 have hq:=jo (m.to.getD k default)
 have hs:=ir (m:=m) (k:=k)
 have done:iZ m k=0→∀ i,i < k + 1→iZ m i=0:=fun h i hi=>by
  rcases Nat.lt_succ_iff_lt_or_eq.1 hi with h' | rfl
  ·exact h2 i h'
  ·exact h
 cases hr:a9 (m.fr.getD k default)
 ·rw [hr] at hp
  rw [if_pos (.inl hr)] at hs
  rw [bP hk h2 (by rw [hs]; decide),hs]
  (have zz:=aI @aj (aI @ix (aI @it @g0)); repeat' (first | refine zW ?_ | apply a_n | apply a_r | refine zO ?_ | refine vY ?_ | refine cY ?_ (hp:=hp) (hs:=by (first | refine au ?_ rfl | apply aH); (repeat' (first | exact az | apply aZ | apply aF | exact a7 _)); first | done | fail) | refine gFY ?_ | refine cTY ?_ | (refine zGY ?_ ?_ <;> (intro _hg; try (exfalso; omega))) | refine aK rfl ?_ | refine r1Y ?_ | fail)) <;> (try clear zz)
  exact .int _ _
 rw [hr] at hp
 cases hr2:a9 (m.to.getD k default)
 ·rw [hr2] at hq
  rw [if_pos (.inr hr2)] at hs
  rw [bP hk h2 (by rw [hs]; decide),hs]
  (have zz:=aI @aj (aI @ix (aI @it @g0)); repeat' (first | refine zW ?_ | apply a_n | apply a_r | refine zO ?_ | refine vY ?_ | refine cY ?_ (hp:=by first | exact hp | exact hq) (hs:=by (first | refine au ?_ rfl | apply aH); (repeat' (first | exact az | apply aZ | apply aF | exact a7 _)); first | done | fail) | refine gTY ?_ | refine cTY ?_ | (refine zGY ?_ ?_ <;> (intro _hg; try (exfalso; omega))) | refine aK rfl ?_ | refine r1Y ?_ | fail)) <;> (try clear zz)
  exact .int _ _
 rw [hr2] at hq
 rw [if_neg (by rw [hr,hr2]; rintro (h | h) <;> cases h)] at hs
 by_cases hk0:0 < k
 rotate_left
 ·rw [if_neg (fun h=>hk0 h.1)] at hs
  have zk:decide (0 < (k:Int))=false:=decide_eq_false (by omega)
  (have zz:=aI @aj (aI @ix (aI @it (aI @zk @g0))); repeat' (first | refine zW ?_ | refine zM ?_ | apply a_n | refine zO ?_ | refine vY ?_ | refine cY ?_ (hp:=by first | exact hp | exact hq) (hs:=by (first | refine au ?_ rfl | apply aH); (repeat' (first | exact az | apply aZ | apply aF | exact a7 _)); first | done | fail) | refine gTY ?_ | refine gFY ?_ | refine cFY ?_ | (refine zGY ?_ ?_ <;> (intro _hg; try (exfalso; omega))) | fail)) <;> (try clear zz)
  exact ⟨k + 1,by omega,⟨by omega,g0,by omega,done hs⟩,ag0⟩
 have zk:decide (0 < (k:Int))=true:=decide_eq_true (by omega)
 have iy:dN 2 (bc m.fr) (.int .i64 ((k:Int) - 1))=some (.iptr [.int .i64 (m.fr.getD (k - 1) default).color,.int .i64 (m.fr.getD (k - 1) default).label] 0):=by
  have:=ix2 (l:=m.fr) (k:=k - 1) (by omega)
  rwa [show ((k - 1:Nat):Int)=(k:Int) - 1 by omega] at this
 have hc:=lS (m.fr.getD (k - 1) default) (m.fr.getD k default)
 by_cases hv:0 ≤ dJ (m.fr.getD (k - 1) default) (m.fr.getD k default)
 ·have z:decide (0 ≤ dJ (m.fr.getD (k - 1) default) (m.fr.getD k default))=true:=decide_eq_true hv
  rw [if_pos ⟨hk0,hv⟩] at hs
  rw [bP hk h2 (by rw [hs]; decide),hs]
  (have zz:=aI @aj (aI @ix (aI @it (aI @iy (aI @zk (aI @z @g0))))); repeat' (first | refine zW ?_ | refine zM ?_ | apply a_n | apply a_r | refine zO ?_ | refine vY ?_ | refine cY ?_ (hp:=by first | exact hp | exact hq | exact hc) (hs:=by (first | refine au ?_ rfl | apply aH); (repeat' (first | exact az | apply aZ | apply aF | exact a7 _)); first | done | fail) | refine gTY ?_ | refine cTY ?_ | refine cFY ?_ | (refine zGY ?_ ?_ <;> (intro _hg; try (exfalso; omega))) | refine aK rfl ?_ | refine r1Y ?_ | fail)) <;> (try clear zz)
  exact .int _ _
 ·have z:decide (0 ≤ dJ (m.fr.getD (k - 1) default) (m.fr.getD k default))=false:=decide_eq_false hv
  rw [if_neg (fun h=>hv h.2)] at hs
  (have zz:=aI @aj (aI @ix (aI @it (aI @iy (aI @zk (aI @z @g0))))); repeat' (first | refine zW ?_ | refine zM ?_ | apply a_n | refine zO ?_ | refine vY ?_ | refine cY ?_ (hp:=by first | exact hp | exact hq | exact hc) (hs:=by (first | refine au ?_ rfl | apply aH); (repeat' (first | exact az | apply aZ | apply aF | exact a7 _)); first | done | fail) | refine gTY ?_ | refine cFY ?_ | (refine zGY ?_ ?_ <;> (intro _hg; try (exfalso; omega))) | fail)) <;> (try clear zz)
  exact ⟨k + 1,by omega,⟨by omega,g0,by omega,done hs⟩,ag0⟩
theorem pR (m:MapV) (hm:ShM m):Pure Try.prog 5 [i1 m] (.bool (nJ m)):=by
 refine Pure.of_c2 follows is5 (Nat.le_of_ble_eq_true rfl) ?_
 simp only [b5,cO,cG,cN,cM,cD,cF,cB,an,bt]
 unfold nJ
 (have zz:=aI @aj (aI @aQ @aB); repeat' (first | refine zW ?_ | apply a_n | refine zO ?_ | refine vZ ?_ | refine bxZ ?_ | refine gTZ ?_ | refine gFZ ?_ | (refine zGZ ?_ ?_ <;> (intro _hg; try (exfalso; omega))) | refine aK rfl ?_ | refine r1Z ?_ | fail)) <;> (try clear zz)
 all_goals (refine eU ?_; rw [Bool.eq_iff_iff]; simp only [Bool.and_eq_true,decide_eq_true_iff,Bool.false_eq_true,false_iff]; omega)
theorem qh {l:Spx} {v:Vtx} {k:Nat} (hk:k < l.length) (h:∀ i,i < k→l.getD i default ≠ v) (hv:l.getD k default=v):v ∈ l∧l.idxOf v=k:=by
 have e:l.getD k default=l[k]:=by simp [List.getD,hk]
 have hm:v ∈ l:=by rw [← hv,e]; exact List.getElem_mem hk
 refine ⟨hm,?_⟩
 have h1:l.idxOf v ≤ k:=by
  by_cases hlt:l.idxOf v ≤ k
  ·exact hlt
  ·exfalso
   have:=List.not_of_lt_findIdx (xs:=l) (p:=(· == v)) (i:=k) (by simp only [List.idxOf] at hlt; omega)
   rw [← e,hv] at this; simp at this
 have h2:k ≤ l.idxOf v:=by
  by_cases hlt:k ≤ l.idxOf v
  ·exact hlt
  ·exfalso
   have hi:=List.idxOf_lt_length_iff.2 hm
   have:=h (l.idxOf v) (by omega)
   apply this
   simp [List.getD,hi]
 omega
theorem oI (m:MapV) (v:Vtx) (hm:ShM m):Pure Try.prog 29 [i1 m,bb v] (.int .i64 (if v ∈ m.fr then (m.fr.idxOf v:Nat) else -1)):=by
 refine Pure.of_c2 follows r4 (Nat.le_of_ble_eq_true rfl) ?_
 simp only [b29,cO,cG,cN,cM,cD,cF,cB,an,bt]
 have hm1':m.fr.length ≤ 17592186044416:=hm.1
 (have zz:=aI @aj (aI @aQ @aB); repeat' (first | refine zW ?_ | apply a_n | refine zO ?_ | refine vZ ?_ | refine bxZ ?_ | fail)) <;> (try clear zz)
 refine mh (X:=Nat) (fun k=>[(2,.ptr 0 2 0),(3,.ptr 1 2 0),(5,.int .i64 k)]) (fun k H nx=>k ≤ m.fr.length∧H 0=some [bc m.fr,bc m.to]∧H 1=some [.int .i64 v.color,.int .i64 v.label]∧∀ i,i < k→m.fr.getD i default ≠ v) (fun k=>m.fr.length - k) 0 ⟨Nat.zero_le _,rfl,rfl,fun i h=>absurd h (by omega)⟩ (by (iterate 3 refine And.intro rfl ?_); trivial) ?_
 rintro k H nx ⟨h1,g0,g1,h2⟩
 by_cases hk:k < m.fr.length
 rotate_left
 ·(have zz:=aI @aj @g0; repeat' (first | refine zW ?_ | apply a_n | apply a_x | refine zO ?_ | refine vY ?_ | (refine zGY ?_ ?_ <;> (intro _hg; try (exfalso; omega))) | refine aK rfl ?_ | refine r1Y ?_ | fail)) <;> (try clear zz)
  refine da ?_
  rw [if_neg]
  intro hmem
  obtain ⟨i,hi,e⟩:=List.getElem_of_mem hmem
  exact h2 i (by omega) (by simp [List.getD,hi,e])
 have ix:=ix2 hk
 have hd:=mI (m.fr.getD k default) v
 by_cases he:m.fr.getD k default=v
 ·rw [decide_eq_true he] at hd
  obtain ⟨e1,e2⟩:=qh hk h2 he
  rw [if_pos e1,e2]
  (have zz:=aI @aj (aI @ix (aI @g0 (aI @g1 (aI @acq @hd)))); repeat' (first | refine zW ?_ | apply a_n | apply a_r | refine zO ?_ | refine vY ?_ | refine cTY ?_ | (refine zGY ?_ ?_ <;> (intro _hg; try (exfalso; omega))) | refine aK rfl ?_ | refine r1Y ?_ | fail)) <;> (try clear zz)
  exact .int _ _
 ·rw [decide_eq_false he] at hd
  (have zz:=aI @aj (aI @ix (aI @g0 (aI @g1 (aI @acq @hd)))); repeat' (first | refine zW ?_ | apply a_n | refine zO ?_ | refine vY ?_ | refine cFY ?_ | (refine zGY ?_ ?_ <;> (intro _hg; try (exfalso; omega))) | fail)) <;> (try clear zz)
  exact ⟨k + 1,by omega,⟨by omega,g0,g1,fun i hi=>by
   rcases Nat.lt_succ_iff_lt_or_eq.1 hi with h' | rfl
   ·exact h2 i h'
   ·exact he⟩,ag0⟩
end Go.Proofs.Ytbgdcebmgjafjaa
namespace Go.Proofs.Ytbgdcebmgjafjaa
open Go Go.Abs
attribute [local irreducible] ai ab aE aG am ao af ap aL aW Go.Abs.Fn aC Go.Abs.Pure ah al Yl
end Go.Proofs.Ytbgdcebmgjafjaa
namespace Go.Proofs.Ytbgdcebmgjafjaa
open Go Go.Abs
open Nat (reduceEqDiff reduceAdd reduceLeDiff)
theorem nX {l:Spx} (ha:kj dJ l) {k:Nat} (hk:k < l.length):l.getD k default ∉ l.take k:=fun hm=>by
 obtain ⟨i,hi,e⟩:=List.getElem_of_mem hm
 rw [List.length_take] at hi
 rw [List.getElem_take] at e
 have:=oL ha (i:=i) (j:=k) (by omega) hk
 rw [show l.getD i default=l[i] by simp [List.getD,show i < l.length by omega],e] at this
 exact qP.ord.irr _ this
theorem oE {m:MapV} {v:Vtx} (h:m.to.length=m.fr.length) (hv:v ∈ m.fr):(m.to.map bb).getD (m.fr.idxOf v) .undef=bb (nu m v):=by
 have:=(j1 hv).1
 unfold nu
 simp [List.getD,show m.fr.idxOf v < m.to.length by omega]
attribute [local irreducible] ai ab aE aG am ao af ap aL aW Go.Abs.Fn aC Go.Abs.Pure ah al Yl
set_option maxHeartbeats 1000000 in
theorem qc (m:MapV) (hm:ShM m) (H:Hp) (nx:Nat):Abs.Fn Try.prog 28 [i1 m] H nx fun r H' nx'=>(∀ x,x < nx→H' x=H x)∧nx ≤ nx'∧((cg m=0∧∃ b,r=.tup [.mp b,.int .i64 0]∧nx ≤ b∧b < nx'∧H' b=some [.omap (m.fr.map bb) (m.to.map bb)]) ∨ (cg m ≠ 0∧r=.tup [.undef,.int .i64 (cg m)])):=by
 refine Abs.Fn.of_c2 follows qx (Nat.le_of_ble_eq_true rfl) ?_
 simp only [b28,cO,cG,cN,cM,cD,cF,cB,an,bt]
 have hc:=kG m hm
 have hm1':m.fr.length ≤ 17592186044416:=hm.1
 by_cases he:cg m=0
 rotate_left
 ·have z:decide (cg m ≠ 0)=true:=decide_eq_true he
  (have zz:=aI @aj (aI @aQ (aI @aB @z)); repeat' (first | refine zW ?_ | apply a_n | apply a_r | refine zO ?_ | refine vY ?_ | refine cY ?_ (hp:=hc) (hs:=by (first | refine au ?_ rfl | apply aH); (repeat' (first | exact az | apply aZ | apply aF | exact cp _)); first | done | fail) | refine bxY ?_ | refine cTY ?_ | refine aK rfl ?_ | refine r2Y ?_ | fail)) <;> (try clear zz)
  exact ⟨fun x hx=>a8 (by omega),by omega,.inr ⟨he,rfl⟩⟩
 rw [he] at hc
 obtain ⟨q1,q2,q3,q4,q5⟩:=lU he
 have z:decide ((0:Int) ≠ 0)=false:=rfl
 (have zz:=aI @aj (aI @aQ (aI @aB @z)); repeat' (first | refine zW ?_ | apply a_n | refine zO ?_ | refine vY ?_ | refine cY ?_ (hp:=hc) (hs:=by (first | refine au ?_ rfl | apply aH); (repeat' (first | exact az | apply aZ | apply aF | exact cp _)); first | done | fail) | refine bxY ?_ | refine cFY ?_ | fail)) <;> (try clear zz)
 refine qU ?_
 (have zz:=@aj; repeat' (first | refine zW ?_ | apply a_n | refine zO ?_ | refine vY ?_ | fail)) <;> (try clear zz)
 refine mh (X:=Nat) (fun k=>[(1,.ptr nx 2 0),(5,.mp (nx + 1)),(15,bc m.fr),(16,.int .i64 m.fr.length),(17,.int .i64 k)]) (fun k H' nx'=>k ≤ m.fr.length∧H' nx=some [bc m.fr,bc m.to]∧H' (nx + 1)=some [.omap ((m.fr.take k).map bb) ((m.to.take k).map bb)]∧(∀ x,x < nx→H' x=H x)∧nx + 2 ≤ nx') (fun k=>m.fr.length - k) 0 ⟨Nat.zero_le _,by rw [a8 (by omega),bk],bk,fun x hx=>by rw [a8 (by omega),a8 (by omega)],by omega⟩ (by simp (disch:=omega) only [agr,ZG,reduceEqDiff,↓reduceIte,List.length_cons,List.length_nil,Nat.zero_add,reduceAdd]) ?_
 rintro k H1 nx1 ⟨h1,g0,g1,h2,hnx⟩
 by_cases hk:k < m.fr.length
 rotate_left
 ·obtain rfl:k=m.fr.length:=by omega
  rw [List.take_length,List.take_of_length_le (by omega)] at g1
  (have zz:=and_self; repeat' (first | refine zW ?_ | apply a_n | apply a_x | refine zO ?_ | refine vY ?_ | (refine zGY ?_ ?_ <;> (intro _hg; try (exfalso; omega))) | refine aK rfl ?_ | refine r2Y ?_ | fail)) <;> (try clear zz)
  exact ⟨h2,by omega,.inl ⟨he,nx + 1,rfl,by omega,by omega,g1⟩⟩
 have ix:=ix2 hk
 have it:=ix2 (l:=m.to) (k:=k) (by omega)
 have hnt:=nX q3 hk
 have hmf:=nW (m.fr.getD k default) (m.fr.take k)
 rw [if_neg hnt] at hmf
 have e1:(m.fr.take (k + 1)).map bb=(m.fr.take k).map bb ++ [bb (m.fr.getD k default)]:=by rw [jn hk,List.map_append]; rfl
 have e2:(m.to.take (k + 1)).map bb=(m.to.take k).map bb ++ [bb (m.to.getD k default)]:=by rw [jn (by omega),List.map_append]; rfl
 generalize m.fr.getD k default=v at *
 generalize m.to.getD k default=w at *
 (have zz:=@ix; repeat' (first | refine zW ?_ | apply a_n | refine zO ?_ | refine vY ?_ | refine alY ?_ | refine stY ?_ | (refine zGY ?_ ?_ <;> (intro _hg; try (exfalso; omega))) | fail)) <;> (try clear zz)
 refine qj (fun y=>if y=nx ∨ y=nx1 then ae (ae H1 nx1 [.int .i64 0,.int .i64 0]) nx1 (cw [.int .i64 0,.int .i64 0] 0 [.int .i64 v.color,.int .i64 v.label]) y else none) rfl (fun y cs h=>by
  dsimp only at h
  split at h
  ·exact h
  ·cases h) ?_
 have hS0:(fun y=>if y=nx ∨ y=nx1 then ae (ae H1 nx1 [.int .i64 0,.int .i64 0]) nx1 (cw [.int .i64 0,.int .i64 0] 0 [.int .i64 v.color,.int .i64 v.label]) y else none) nx=some [bc m.fr,bc m.to]:=by dsimp only; rw [if_pos (.inl rfl),a8 (by omega),a8 (by omega)]; exact g0
 have hS1:(fun y=>if y=nx ∨ y=nx1 then ae (ae H1 nx1 [.int .i64 0,.int .i64 0]) nx1 (cw [.int .i64 0,.int .i64 0] 0 [.int .i64 v.color,.int .i64 v.label]) y else none) nx1=some [.int .i64 v.color,.int .i64 v.label]:=by dsimp only; rw [if_pos (.inr rfl),bk]; rfl
 generalize (fun y=>if y=nx ∨ y=nx1 then ae (ae H1 nx1 [.int .i64 0,.int .i64 0]) nx1 (cw [.int .i64 0,.int .i64 0] 0 [.int .i64 v.color,.int .i64 v.label]) y else none)=S at hS0 hS1
 (have zz:=aI @hS0 (aI @hS1 @it); repeat' (first | apply a_n | refine zO ?_ | refine nvY ?_ | apply pE | fail)) <;> (try clear zz)
 refine pY ev0 (by rw [a8 (by omega),a8 (by omega)]; exact g1) ev0 ev0 (oa v) hmf ?_
 (have zz:=and_self; repeat' (first | apply a_n | refine zO ?_ | refine vY ?_ | fail)) <;> (try clear zz)
 refine ⟨k + 1,by omega,⟨by omega,by (repeat rw [a8 (by omega)]); exact g0,?_,fun x hx=>by (repeat rw [a8 (by omega)]); exact h2 x hx,by omega⟩,ag0⟩
 rw [bk,e1,e2]; rfl
end Go.Proofs.Ytbgdcebmgjafjaa
namespace Go.Proofs.Ytbgdcebmgjafjaa
open Go Go.Abs
attribute [local irreducible] ai ab aE aG am ao af ap aL aW Go.Abs.Fn aC Go.Abs.Pure ah al Yl
end Go.Proofs.Ytbgdcebmgjafjaa
namespace Go.Proofs.Ytbgdcebmgjafjaa
open Go Go.Abs
attribute [local irreducible] ai ab aE aG am ao af ap aL aW Go.Abs.Fn aC Go.Abs.Pure ah al Yl
end Go.Proofs.Ytbgdcebmgjafjaa
namespace Go.Proofs.Ytbgdcebmgjafjaa
open Go Go.Abs
def qz:List (Nat × F2):=[(6,b6),(23,b23),(22,b22),(25,b25),(24,b24),(26,b26),(13,b13),(17,b17),(43,b43),(54,b54),(52,b52),(9,b9),(14,b14),(27,b27),(28,b28),(44,b44),(45,b45),(46,b46),(47,b47),(48,b48),(49,b49),(50,b50),(51,b51),(36,b36),(53,b53),(20,b20),(39,b39),(55,b55),(12,b12),(73,b73),(74,b74),(77,b77),(30,b30),(31,b31),(37,b37),(38,b38),(75,b75),(76,b76),(15,b15),(33,b33),(58,b58),(59,b59),(78,b78),(42,b42),(35,b35),(34,b34),(86,b86),(87,b87),(89,b89),(19,b19),(56,b56),(57,b57),(60,b60),(61,b61),(62,b62),(80,b80),(41,b41),(99,b99),(40,b40),(79,b79),(90,b90),(72,b72),(63,b63)]
theorem qq:ew Try.prog (lookup qz) :=
 (aa is6 (aa rT (aa rp (aa re (aa rZ (aa ry (aa rM (aa qX (aa rX (aa rG (aa r6 (aa is9 (aa r9 (aa ru (aa qx (aa se (aa rD (aa rE (aa rS (aa sa (aa r7 (aa sc (aa ro (aa rh (aa rj (aa qW (aa r8 (aa q0 (aa sb (aa rP (aa rH (aa rC (aa qD (aa qF (aa rz (aa rg (aa rK (aa ra (aa rL (aa qI (aa rf (aa rJ (aa sd (aa rt (aa rl (aa rU (aa rm (aa rc (aa ri (aa rN (aa qv (aa qS (aa rY (aa qY (aa rR (aa rq (aa rW (aa qZ (aa rQ (aa qT (aa rV (aa rB (aa rI mS)))))))))))))))))))))))))))))))))))))))))))))))))))))))))))))))
set_option maxRecDepth 100000 in
theorem mM:Go.Abs.Pure Try.prog 6 [] (.bool true):=Pure.of_run follows qq (pf:=pG [13,22,23,24,25,17,26,27]) (n:=2000) (good:=isTrue) (by decide +kernel) nz
end Go.Proofs.Ytbgdcebmgjafjaa
namespace Go.Proofs.Ytbgdcebmgjafjaa
open Go Go.Abs
def atT (m:MapV) (v:Vtx):Vtx × Int:=if cg m ≠ 0 then (⟨0,0⟩,cg m) else if v ∈ m.fr then (nu m v,0) else (⟨0,0⟩,6)
theorem ga {H:Hp} {v:Vtx} {e f:Int} (he:e=f):Snap H (.tup [bb v,.int .i64 e]) (.tup [bb v,.int .i64 f]):=by
 subst he; exact oP (fl (a7 v).snap (fl (.int _ _) az))
attribute [local irreducible] ai ab aE aG am ao af ap aL aW Go.Abs.Fn aC Go.Abs.Pure ah al Yl
theorem rk (m:MapV) (v:Vtx) (hm:ShM m):Pure Try.prog 7 [i1 m,bb v] (.tup [bb (atT m v).1,.int .i64 (atT m v).2]):=by
 refine Pure.of_c2 follows is7 (Nat.le_of_ble_eq_true rfl) ?_
 simp only [b7,cO,cG,cN,cM,cD,cF,cB,an,bt]
 unfold atT
 (have zz:=aI @aQ @aB; repeat' (first | refine zW ?_ | apply a_n | refine zO ?_ | refine vY ?_ | refine alY ?_ | refine bxY ?_ | fail)) <;> (try clear zz)
 refine pn ev0 ev0 (qc m hm _ _) ?_
 rintro _ H1 nx1 ⟨hsm,hle,h⟩
 have g1:H1 1=some [.int .i64 v.color,.int .i64 v.label]:=(hsm 1 (by omega)).trans (by rw [a8 (by omega),bk])
 have g2:H1 2=some [.int .i64 0,.int .i64 0]:=(hsm 2 (by omega)).trans bk
 rcases h with ⟨he,B,rfl,hB1,hB2,hB3⟩ | ⟨he,rfl⟩
 rotate_left
 ·rw [if_pos he]
  have z:decide (cg m ≠ 0)=true:=decide_eq_true he
  (have zz:=aI @g2 @z; repeat' (first | refine zW ?_ | apply a_n | apply a_r | refine zO ?_ | refine vY ?_ | refine stY ?_ | refine cTY ?_ | refine aK rfl ?_ | refine r2Y ?_ | fail)) <;> (try clear zz)
  exact ga (v:=⟨0,0⟩) rfl
 rw [if_neg (fun h=>h he)]
 obtain ⟨q1,q2,q3,q4,q5⟩:=lU he
 have z0:decide ((0:Int) ≠ 0)=false:=rfl
 have hmf:=nW v m.fr
 (have zz:=aI @g1 (aI @g2 @z0); repeat' (first | refine zW ?_ | apply a_n | refine zO ?_ | refine vY ?_ | refine cFY ?_ | fail)) <;> (try clear zz)
 by_cases hv:v ∈ m.fr
 ·rw [if_pos hv] at hmf
  rw [if_pos hv]
  have hmg:=oE q2 hv
  generalize nu m v=w at *
  refine oe ev0 hB3 ev0 (oa v) hmf ?_
  rw [show mget (.agg [.int .i64 0,.int .i64 0]) true (some (m.fr.idxOf v)) (m.to.map bb)=.tup [(m.to.map bb).getD (m.fr.idxOf v) .undef,.bool true] from rfl,hmg]
  (have zz:=@g2; repeat' (first | refine zW ?_ | apply a_n | refine zO ?_ | refine vY ?_ | refine alY ?_ | refine stY ?_ | refine cFY ?_ | refine aK rfl ?_ | refine r2Y ?_ | fail)) <;> (try clear zz)
  exact ga rfl
 ·rw [if_neg hv] at hmf
  rw [if_neg hv]
  refine oe ev0 hB3 ev0 (oa v) hmf ?_
  rw [show mget (.agg [.int .i64 0,.int .i64 0]) true none (m.to.map bb)=.tup [.agg [.int .i64 0,.int .i64 0],.bool false] from rfl]
  (have zz:=@g2; repeat' (first | refine zW ?_ | apply a_n | apply a_r | refine zO ?_ | refine vY ?_ | refine alY ?_ | refine stY ?_ | refine cTY ?_ | refine aK rfl ?_ | refine r2Y ?_ | fail)) <;> (try clear zz)
  exact ga (v:=⟨0,0⟩) rfl
theorem qN (m:MapV) (v:Vtx) (hm:ShM m):Pure Try.prog 8 [i1 m,bb v] (.tup [bb (atT m v).1,.int .i64 (atT m v).2]):=by
 refine Pure.of_c2 follows is8 (Nat.le_of_ble_eq_true rfl) ?_
 simp only [b8,cO,cG,cN,cM,cD,cF,cB,an,bt]
 have hk:=mj m hm
 have hi:=oI m v hm
 unfold atT
 by_cases he:cg m=0
 rotate_left
 ·rw [if_pos he]
  have z:decide (cg m ≠ 0)=true:=decide_eq_true he
  (have zz:=aI @aQ (aI @aB @z); repeat' (first | refine zW ?_ | apply a_n | apply a_r | refine zO ?_ | refine vY ?_ | refine cY ?_ (hp:=hk) (hs:=by (first | refine au ?_ rfl | apply aH); (repeat' (first | exact az | apply aZ | apply aF | exact cp _)); first | done | fail) | refine alY ?_ | refine bxY ?_ | refine stY ?_ | refine cTY ?_ | refine aK rfl ?_ | refine r2Y ?_ | fail)) <;> (try clear zz)
  exact ga (v:=⟨0,0⟩) rfl
 rw [if_neg (fun h=>h he)]
 rw [he] at hk
 obtain ⟨q1,q2,q3,q4,q5⟩:=lU he
 have z0:decide ((0:Int) ≠ 0)=false:=rfl
 by_cases hv:v ∈ m.fr
 ·rw [if_pos hv] at hi
  rw [if_pos hv]
  have hlt:=(j1 hv).1
  have it:=ix2 (l:=m.to) (k:=m.fr.idxOf v) (by omega)
  rw [show m.to.getD (m.fr.idxOf v) default=nu m v from rfl] at it
  generalize nu m v=w at *
  generalize m.fr.idxOf v=i at *
  (have zz:=aI @aQ (aI @aB (aI @z0 @it)); repeat' (first | refine zW ?_ | apply a_n | refine zO ?_ | refine vY ?_ | refine cY ?_ (hp:=by first | exact hk | exact hi) (hs:=by (first | refine au ?_ rfl | apply aH); (repeat' (first | exact az | apply aZ | apply aF | exact cp _ | exact a7 _)); first | done | fail) | refine alY ?_ | refine bxY ?_ | refine stY ?_ | refine cFY ?_ | (refine zGY ?_ ?_ <;> (intro _hg; try (exfalso; omega))) | refine aK rfl ?_ | refine r2Y ?_ | fail)) <;> (try clear zz)
  exact ga rfl
 ·rw [if_neg hv] at hi
  rw [if_neg hv]
  have z1:decide ((-1:Int) < 0)=true:=rfl
  (have zz:=aI @aQ (aI @aB (aI @z0 @z1)); repeat' (first | refine zW ?_ | apply a_n | apply a_r | refine zO ?_ | refine vY ?_ | refine cY ?_ (hp:=by first | exact hk | exact hi) (hs:=by (first | refine au ?_ rfl | apply aH); (repeat' (first | exact az | apply aZ | apply aF | exact cp _ | exact a7 _)); first | done | fail) | refine alY ?_ | refine bxY ?_ | refine stY ?_ | refine cTY ?_ | refine cFY ?_ | refine aK rfl ?_ | refine r2Y ?_ | fail)) <;> (try clear zz)
  exact ga (v:=⟨0,0⟩) rfl
theorem nS (m:MapV) (v:Vtx) (hm:ShM m):Pure Try.prog 3 [i1 m,bb v] (.bool true):=by
 refine Pure.of_c2 follows is3 (Nat.le_of_ble_eq_true rfl) ?_
 simp only [b3,cO,cG,cN,cM,cD,cF,cB,an,bt]
 have f1:=pR m hm
 cases e1:nJ m
 ·rw [e1] at f1
  (have zz:=aI @aQ @aB; repeat' (first | refine zW ?_ | apply a_n | apply a_r | refine zO ?_ | refine vY ?_ | refine cY ?_ (hp:=by first | exact f1 | exact mM) (hs:=by (first | refine au ?_ rfl | apply aH); (repeat' (first | exact az | apply aZ | apply aF | exact cp _)); first | done | fail) | refine bxY ?_ | refine cTY ?_ | refine aK rfl ?_ | refine r1Y ?_ | fail)) <;> (try clear zz)
  exact .bool _
 rw [e1] at f1
 have s1:=rk m v hm
 have s2:=qN m v hm
 have s3:=kG m hm
 have s4:=mj m hm
 generalize atT m v=p at *
 generalize cg m=e at *
 obtain ⟨⟨p1,p2⟩,p3⟩:=p
 dsimp only [bb] at s1 s2
 have z1:decide (p3=p3)=true:=decide_eq_true rfl
 have z2:decide (e=e)=true:=decide_eq_true rfl
 have z3:gC .eql [.int,.int] [.int .i64 p1,.int .i64 p2] [.int .i64 p1,.int .i64 p2]=some (.bool true):=by rw [acq]; simp
 (have zz:=aI @aQ (aI @aB (aI @z1 (aI @z2 @z3))); repeat' (first | refine zW ?_ | refine zM ?_ | apply a_n | refine zO ?_ | refine vY ?_ | refine cY ?_ (hp:=by first | exact f1 | exact s1 | exact s2 | exact s3 | exact s4 | exact mM) (hs:=by (first | refine au ?_ rfl | apply aH); (repeat' (first | exact az | apply aZ | apply aF | exact cp _ | exact a7 _)); first | done | fail) | refine alY ?_ | refine bxY ?_ | refine stY ?_ | refine gTY ?_ | (refine zGY ?_ ?_ <;> (intro _hg; try (exfalso; omega))) | refine cFY ?_ | refine aK rfl ?_ | refine r1Y ?_ | fail)) <;> (try clear zz)
 exact .bool _
end Go.Proofs.Ytbgdcebmgjafjaa
namespace Go.Proofs.Ytbgdcebmgjafjaa
open Go Go.Abs Go.RowKit
section
variable {H:Type} {enc:TypeId × Value→H} {W:World}
theorem oi:bZ enc Try.prog W 3 (AV.int .i64) (fun n=>(Lit.int .i64 n).wf=true):=nj Try.underlying3
set_option maxRecDepth 100000 in
theorem qG:bZ enc Try.prog W 26 bb (fun _=>True) :=
 (fx Try.underlying26 (by kernel_rfl) (dl (off:=0) (off':=1) rfl (by kernel_rfl) oi (dl (off:=1) (off':=2) rfl (by kernel_rfl) oi iW))).map
  (fun a=>(⟨a.1,a.2.1⟩:Vtx)) (fun _ _=>trivial) (fun _ _=>rfl)
theorem oXs:bZ enc Try.prog W 22 bc Shn :=
 (lb Try.underlying22 (sz:=2) (by_:=16) (by kernel_rfl) (by kernel_rfl) (by omega) (fun _=>rfl) qG).mono fun l h=>by have:=h.2.2; show _ ≤ _; omega
set_option maxRecDepth 100000 in
theorem r5:bZ enc Try.prog W 24 i1 ShM :=
 (fx Try.underlying24 (by kernel_rfl) (dl (off:=0) (off':=1) rfl (by kernel_rfl) oXs (dl (off:=1) (off':=2) rfl (by kernel_rfl) oXs iW))).map
  (fun a=>(⟨a.1,a.2.1⟩:MapV)) (by rintro ⟨n,i,u⟩ ⟨h1,h2,_⟩; exact ⟨h1,h2⟩) (fun _ _=>rfl)
end
theorem hY {f:FuncId} {xs:List AV} {vs:List Value} (h:Go.Abs.Pure Try.prog f xs (.bool true)) (w:World) (hv:aX (E0 (jE w)) w xs vs) :
    Calls Try.prog f vs.toArray w fun e w'=>e=.returned (.bool true)∧Below w.heap.size w w':=by
 refine (h.2 (jE w) w vs (fun _ h=>h) hv).mono ?_
 rintro e w' ⟨v,imm',rfl,hb,_,_,_,hr⟩
 cases hr
 exact ⟨rfl,hb⟩
theorem rb:laidOutB Try.prog=true:=by kernel_rfl
end Go.Proofs.Ytbgdcebmgjafjaa
namespace Go.Proofs.Ytbgdcebmgjafjaa
open Go Go.Abs Go.RowKit Go.ChangeShapes Go.WideShapes Go.ChangeAt
theorem jf {H:Type} {enc:TypeId × Value→H} {P:Program} {f:Func} {s:ChangeSpec} {apart fresh handsOn again:Bool} {W W':World} {args:Array Value} {v:Value} {ds gs:List (DataW H)} {before pa pv:List MemPlace}
    (hW:DataW.Whole enc P f.params.toList s.vars apart W args.toList ds gs before)
    (hres:∀ (b:Nat) (sp:Nat→Bool) (hd:Bool),DataW.TrodAll enc P W' b sp hd f.resultTypes.toList (v.resultList f.resultTypes.size) (s.fn H (ds ++ gs)).results [])
    (hargs:∀ sp:Nat→Bool,(∀ p ∈ before,sp p.block=true)→DataW.TrodAll enc P W' 0 sp true f.params.toList args.toList (s.fn H (ds ++ gs)).args pa)
    (hvars:∀ sp:Nat→Bool,(∀ p ∈ before,sp p.block=true)→DataW.TrodVars enc P W' sp s.vars (s.fn H (ds ++ gs)).vars pv)
    (hps:before=pa ++ pv) (hb:Below W.heap.size W W')
    (hok:∀ (j:Nat) (t:TypeId) (r:Value),f.resultTypes[j]?=some t→(v.resultList f.resultTypes.size)[j]?=some r→Value.okWide P W' .any 0 t r) :
    s.post enc P f apart fresh handsOn again W args v W':=by
 have hold:∀ p ∈ before,(fun b=>decide (b < W.heap.size)) p.block=true:=fun p hp=>by simpa using hW.lt p hp
 have hlt:=fun p hp=>hW.lt p hp
 refine ⟨ds,gs,before,[],pa,pv,hW,hres _ _ _,hargs _ hold,hvars _ hold,World.keptBut_mono (fun p hp=>⟨hp,?_⟩) (hb.frame _),fun _=>?_⟩
 ·rw [hps,List.mem_append] at hp
  exact Or.inr hp
 ·obtain ⟨_,_,_,_,_,hz,hn⟩:=hW
  refine ⟨hok,_,_,([] ++ pa) ++ pv,⟨[] ++ pa,pv,trodAll_append (hargs _ (fun _ _=>rfl)) (hres _ _ _),hvars _ (fun _ _=>rfl),rfl,?_,?_⟩,?_⟩
  ·intro b off hp
   have hp':MemPlace.cell b off ∈ before:=by rw [hps]; simpa using hp
   rw [hb.frozen (hlt _ hp')]
   exact hz b off hp'
  ·intro ha
   have:=hn ha
   rw [hps] at this
   simpa using this
  ·intro p hp _
   rw [hps]
   simpa using hp
theorem ou {E:Env} {w:World}:aX E w [] []:=⟨rfl,fun i x y h=>(by cases h)⟩
theorem jw {E:Env} {w:World} {x:AV} {y:Value} {xs:List AV} {ys:List Value} (h:Rel E w x y) (hs:aX E w xs ys):aX E w (x :: xs) (y :: ys):=by
 refine ⟨by simp [hs.1],fun i a b ha hb=>?_⟩
 cases i with
 | zero=>simp at ha hb; subst ha hb; exact h
 | succ i=>simp at ha hb; exact hs.2 i a b ha hb
theorem own:ownKnob Try.prog.godebug=none:=by kernel_rfl
end Go.Proofs.Ytbgdcebmgjafjaa