/- Texts of this claim, one after the other: Code, U1, T100, T101, T102, T103, T104, T105, T108, U2s, U3s, U4s. -/
import Derived.Test.YtbgdcebmgjafjaaGreatProg
import Derived.Test.YtbgdcebmgjafjaaGreatXG3
import Derived.KernelRfl

set_option linter.unusedSimpArgs false
set_option linter.unusedVariables false
namespace Go.Proofs.YtbgdcebmgjafjaaGreat
open Go Go.Abs Go.Abs.C2 Go.Abs.Ins Go.Abs.Opd Go.Abs.TK Go.Abs.MK
def cO (d:Nat) (i:Ins):Op2:=Op2.mk (some d) none i
def cG (d g:Nat) (b:Bool) (i:Ins):Op2:=Op2.mk (some d) (some (g,b)) i
def cN (k:Int):Opd:=Opd.c (AV.int IntKind.i64 k)
def cM (n:Nat):Ins:=Ins.mov (Opd.t n)
def cD (n:Nat):Ins:=Ins.ld1 (Opd.t n)
def cF (n:Nat):Opd:=Opd.c (AV.func n [])
def cB (o:BinOp) (x y:Opd):Ins:=Ins.bin o false false x y
def au:Opd:=Opd.c (AV.bool false)
def aH:Opd:=Opd.c (AV.bool true)
theorem follows:Tryz.prog.follows .mixedOrders=true:=by rfl
def b3:F2:=(F2.mk 74 [RV.t 6] ((ops 0 [cO 3 (box (t 0)),cO 4 (box (t 1)),cO 5 (box (t 2)),cO 6 (mov au)]).seq (((ops 0 [cO 15 (ldn 2 (t 3)),cO 16 (call (cF 9) [t 15]),cO 17 (un UnOp.not (t 16)),cO 18 (cM 17),cG 19 18 false (ldn 1 (t 4)),cG 20 18 false (call (cF 10) [t 19]),cG 21 18 false (un UnOp.not (t 20)),cO 22 (pick (t 18) aH (t 21)),cO 23 (cM 22),cG 24 23 false (ldn 1 (t 5)),cG 25 23 false (call (cF 10) [t 24]),cG 26 23 false (un UnOp.not (t 25)),cO 27 (pick (t 23) aH (t 26))]).seq (C2.cond (t 27) ((ops 0 [cO 28 (call (cF 11) []),cO 6 (cM 28)]).seq ret) skip)).seq ((ops 0 [cO 30 (ldn 2 (t 3)),cO 31 (ldn 1 (t 4)),cO 32 (ldn 1 (t 5)),cO 33 (call (cF 12) [t 30,t 31,t 32]),cO 29 (cM 33),cO 34 (ext (t 29) 0),cO 35 (ext (t 29) 1),cO 7 (cM 34),cO 8 (cM 35)]).seq ((ops 0 [cO 37 (ldn 2 (t 3)),cO 38 (ldn 1 (t 4)),cO 39 (ldn 1 (t 5)),cO 40 (call (cF 13) [t 37,t 38,t 39]),cO 36 (cM 40),cO 41 (ext (t 36) 0),cO 42 (ext (t 36) 1),cO 9 (cM 41),cO 10 (cM 42)]).seq ((ops 0 [cO 44 (ldn 2 (t 3)),cO 45 (call (cF 14) [t 44]),cO 43 (cM 45),cO 46 (ext (t 43) 0),cO 47 (ext (t 43) 1),cO 11 (cM 46),cO 12 (cM 47)]).seq ((ops 0 [cO 49 (ldn 2 (t 3)),cO 50 (call (cF 15) [t 49]),cO 48 (cM 50),cO 51 (ext (t 48) 0),cO 52 (ext (t 48) 1),cO 13 (cM 51),cO 14 (cM 52)]).seq ((ops 0 [cO 53 (cM 7),cO 54 (cM 9),cO 55 (bin BinOp.eql true false (t 53) (t 54)),cO 56 (cM 55),cG 57 56 true (cM 8),cG 58 56 true (cM 10),cG 59 56 true (cB .eql (t 57) (t 58)),cO 60 (pick (t 56) (t 59) au),cO 61 (cM 60),cG 62 61 true (cM 11),cG 63 61 true (cM 13),cG 64 61 true (bin BinOp.eql true false (t 62) (t 63)),cO 65 (pick (t 61) (t 64) au),cO 66 (cM 65),cG 67 66 true (cM 12),cG 68 66 true (cM 14),cG 69 66 true (cB .eql (t 67) (t 68)),cO 70 (pick (t 66) (t 69) au),cO 71 (cM 70),cG 72 71 true (call (cF 11) []),cO 73 (pick (t 71) (t 72) au),cO 6 (cM 73)]).seq ret))))))))
def b4:F2:=(F2.mk 91 [RV.t 6] ((ops 0 [cO 3 (box (t 0)),cO 4 (box (t 1)),cO 5 (box (t 2)),cO 6 (mov au)]).seq (((ops 0 [cO 15 (ldn 2 (t 3)),cO 16 (call (cF 9) [t 15]),cO 17 (un UnOp.not (t 16)),cO 18 (cM 17),cG 19 18 false (ldn 2 (t 4)),cG 20 18 false (call (cF 9) [t 19]),cG 21 18 false (un UnOp.not (t 20)),cO 22 (pick (t 18) aH (t 21)),cO 23 (cM 22),cG 24 23 false (fa 0 (t 5)),cG 25 23 false (ldn 1 (t 24)),cG 26 23 false (call (cF 10) [t 25]),cG 27 23 false (un UnOp.not (t 26)),cO 28 (pick (t 23) aH (t 27)),cO 29 (cM 28),cG 30 29 false (fa 1 (t 5)),cG 31 29 false (ldn 1 (t 30)),cG 32 29 false (call (cF 10) [t 31]),cG 33 29 false (un UnOp.not (t 32)),cO 34 (pick (t 29) aH (t 33))]).seq (C2.cond (t 34) ((ops 0 [cO 35 (call (cF 11) []),cO 6 (cM 35)]).seq ret) skip)).seq ((ops 0 [cO 37 (ldn 2 (t 3)),cO 38 (ldn 2 (t 4)),cO 39 (call (cF 16) [t 37,t 38]),cO 36 (cM 39),cO 40 (ext (t 36) 0),cO 41 (ext (t 36) 1),cO 7 (alloc (AV.agg [AV.esl,AV.esl])),Op2.mk none none (Ins.st 2 (t 7) (t 40)),cO 8 (cM 41)]).seq ((ops 0 [cO 43 (ldn 2 (t 3)),cO 44 (ldn 2 (t 4)),cO 45 (call (cF 17) [t 43,t 44]),cO 42 (cM 45),cO 46 (ext (t 42) 0),cO 47 (ext (t 42) 1),cO 9 (alloc (AV.agg [AV.esl,AV.esl])),Op2.mk none none (Ins.st 2 (t 9) (t 46)),cO 10 (cM 47)]).seq ((ops 0 [cO 49 (ldn 2 (t 3)),cO 50 (fa 0 (t 5)),cO 51 (ldn 1 (t 50)),cO 52 (fa 1 (t 5)),cO 53 (ldn 1 (t 52)),cO 54 (fa 2 (t 5)),cO 55 (cD 54),cO 56 (call (cF 18) [t 49,t 51,t 53,t 55]),cO 48 (cM 56),cO 57 (ext (t 48) 0),cO 58 (ext (t 48) 1),cO 11 (alloc (AV.agg [AV.int IntKind.i64 (0),AV.esl])),Op2.mk none none (Ins.st 2 (t 11) (t 57)),cO 12 (cM 58)]).seq ((ops 0 [cO 60 (ldn 2 (t 3)),cO 61 (fa 0 (t 5)),cO 62 (ldn 1 (t 61)),cO 63 (fa 1 (t 5)),cO 64 (ldn 1 (t 63)),cO 65 (fa 2 (t 5)),cO 66 (cD 65),cO 67 (call (cF 19) [t 60,t 62,t 64,t 66]),cO 59 (cM 67),cO 68 (ext (t 59) 0),cO 69 (ext (t 59) 1),cO 13 (alloc (AV.agg [AV.int IntKind.i64 (0),AV.esl])),Op2.mk none none (Ins.st 2 (t 13) (t 68)),cO 14 (cM 69)]).seq ((ops 0 [cO 70 (ldn 2 (t 7)),cO 71 (ldn 2 (t 9)),cO 72 (call (cF 20) [t 70,t 71]),cO 73 (cM 72),cG 74 73 true (cM 8),cG 75 73 true (cM 10),cG 76 73 true (cB .eql (t 74) (t 75)),cO 77 (pick (t 73) (t 76) au),cO 78 (cM 77),cG 79 78 true (ldn 2 (t 11)),cG 80 78 true (ldn 2 (t 13)),cG 81 78 true (call (cF 21) [t 79,t 80]),cO 82 (pick (t 78) (t 81) au),cO 83 (cM 82),cG 84 83 true (cM 12),cG 85 83 true (cM 14),cG 86 83 true (cB .eql (t 84) (t 85)),cO 87 (pick (t 83) (t 86) au),cO 88 (cM 87),cG 89 88 true (call (cF 11) []),cO 90 (pick (t 88) (t 89) au),cO 6 (cM 90)]).seq ret))))))))
theorem is4:Is Tryz.prog 4 b4:=Is.mk' Tryz.func4 (by kernel_rfl)
def b9:F2:=(F2.mk 13 [RV.t 2] ((ops 0 [cO 1 (box (t 0)),cO 2 (mov au)]).seq ((ops 0 [cO 3 (fa 0 (t 1)),cO 4 (cD 3),cO 5 (lenS (t 4)),cO 6 (cB .leq (t 5) (cN 40)),cO 7 (cM 6),cG 8 7 true (fa 1 (t 1)),cG 9 7 true (cD 8),cG 10 7 true (lenS (t 9)),cG 11 7 true (cB .leq (t 10) (cN 40)),cO 12 (pick (t 7) (t 11) au),cO 2 (cM 12)]).seq ret)))
theorem is9:Is Tryz.prog 9 b9:=Is.mk' Tryz.func9 (by kernel_rfl)
def b10:F2:=(F2.mk 6 [RV.t 2] ((ops 0 [cO 1 (box (t 0)),cO 2 (mov au)]).seq ((ops 0 [cO 3 (fa 0 (t 1)),cO 4 (cD 3),cO 5 (call (cF 39) [t 4]),cO 2 (cM 5)]).seq ret)))
theorem BU:Is Tryz.prog 10 b10:=Is.mk' Tryz.func10 (by kernel_rfl)
def b11:F2:=(F2.mk 161 [RV.t 0] ((ops 0 [cO 0 (mov au)]).seq ((ops 0 [cO 18 (bld [AV.int IntKind.i64 (0),AV.int IntKind.i64 (0)] []),cO 19 (bld [AV.int IntKind.i64 (0),AV.int IntKind.i64 (0)] [(0,1,cN ((1)))]),cO 20 (bld [AV.int IntKind.i64 (0),AV.int IntKind.i64 (0)] [(0,1,cN ((2)))]),cO 1 (alloc (AV.agg [AV.int IntKind.i64 (0),AV.int IntKind.i64 (0)])),cO 2 (alloc (AV.agg [AV.int IntKind.i64 (0),AV.int IntKind.i64 (0)])),cO 3 (alloc (AV.agg [AV.int IntKind.i64 (0),AV.int IntKind.i64 (0)])),Op2.mk none none (Ins.st 2 (t 1) (t 18)),Op2.mk none none (Ins.st 2 (t 2) (t 19)),Op2.mk none none (Ins.st 2 (t 3) (t 20))]).seq ((ops 0 [cO 21 (ldn 2 (t 1)),cO 22 (ldn 2 (t 2)),cO 23 (ldn 2 (t 3)),cO 24 (bldS 2 3 [AV.int IntKind.i64 (0),AV.int IntKind.i64 (0)] [(0,2,t 21),(2,2,t 22),(4,2,t 23)]),cO 25 (ldn 2 (t 1)),cO 26 (ldn 2 (t 2)),cO 27 (ldn 2 (t 1)),cO 28 (bldS 2 3 [AV.int IntKind.i64 (0),AV.int IntKind.i64 (0)] [(0,2,t 25),(2,2,t 26),(4,2,t 27)]),cO 29 (bld [AV.esl,AV.esl] [(0,1,t 24),(1,1,t 28)]),cO 4 (alloc (AV.agg [AV.esl,AV.esl])),Op2.mk none none (Ins.st 2 (t 4) (t 29))]).seq ((ops 0 [cO 30 (ldn 2 (t 1)),cO 31 (ldn 2 (t 2)),cO 32 (bldS 2 2 [AV.int IntKind.i64 (0),AV.int IntKind.i64 (0)] [(0,2,t 30),(2,2,t 31)]),cO 33 (ldn 2 (t 1)),cO 34 (ldn 2 (t 3)),cO 35 (bldS 2 2 [AV.int IntKind.i64 (0),AV.int IntKind.i64 (0)] [(0,2,t 33),(2,2,t 34)]),cO 36 (ldn 2 (t 2)),cO 37 (ldn 2 (t 3)),cO 38 (bldS 2 2 [AV.int IntKind.i64 (0),AV.int IntKind.i64 (0)] [(0,2,t 36),(2,2,t 37)]),cO 39 (bldS 1 3 [AV.esl] [(0,1,t 32),(1,1,t 35),(2,1,t 38)]),cO 40 (bld [AV.esl] [(0,1,t 39)]),cO 5 (alloc (AV.agg [AV.esl])),Op2.mk none none (Ins.st 1 (t 5) (t 40))]).seq ((ops 0 [cO 41 (ldn 2 (t 1)),cO 42 (ldn 2 (t 2)),cO 43 (bldS 2 2 [AV.int IntKind.i64 (0),AV.int IntKind.i64 (0)] [(0,2,t 41),(2,2,t 42)]),cO 44 (bldS 1 1 [AV.esl] [(0,1,t 43)]),cO 45 (bld [AV.esl] [(0,1,t 44)]),cO 6 (alloc (AV.agg [AV.esl])),Op2.mk none none (Ins.st 1 (t 6) (t 45))]).seq ((ops 0 [cO 47 (ldn 2 (t 4)),cO 48 (ldn 2 (t 1)),cO 49 (ldn 2 (t 2)),cO 50 (ldn 2 (t 3)),cO 51 (bldS 2 3 [AV.int IntKind.i64 (0),AV.int IntKind.i64 (0)] [(0,2,t 48),(2,2,t 49),(4,2,t 50)]),cO 52 (call (cF 23) [t 47,t 51]),cO 46 (cM 52),cO 53 (ext (t 46) 0),cO 54 (ext (t 46) 1),cO 7 (cM 53),cO 8 (cM 54)]).seq ((ops 0 [cO 56 (ldn 2 (t 4)),cO 57 (ldn 2 (t 1)),cO 58 (ldn 2 (t 3)),cO 59 (bldS 2 2 [AV.int IntKind.i64 (0),AV.int IntKind.i64 (0)] [(0,2,t 57),(2,2,t 58)]),cO 60 (call (cF 23) [t 56,t 59]),cO 55 (cM 60),cO 61 (ext (t 55) 0),cO 62 (ext (t 55) 1),cO 9 (cM 61),cO 10 (cM 62)]).seq ((ops 0 [cO 64 (ldn 2 (t 4)),cO 65 (call (cF 14) [t 64]),cO 63 (cM 65),cO 66 (ext (t 63) 0),cO 67 (ext (t 63) 1),cO 11 (cM 66),cO 12 (cM 67)]).seq ((ops 0 [cO 69 (ldn 2 (t 4)),cO 70 (ldn 1 (t 5)),cO 71 (ldn 1 (t 6)),cO 72 (call (cF 12) [t 69,t 70,t 71]),cO 68 (cM 72),cO 73 (ext (t 68) 0),cO 74 (ext (t 68) 1),cO 13 (cM 73),cO 14 (cM 74)]).seq (((ops 0 [cO 75 (cM 8),cO 76 (cM 10),cO 77 (cB .add (t 75) (t 76)),cO 78 (cM 12),cO 79 (cB .add (t 77) (t 78)),cO 80 (cM 14),cO 81 (cB .add (t 79) (t 80)),cO 82 (cB .neq (t 81) (cN 0)),cO 83 (cM 82),cG 84 83 false (cM 7),cG 85 83 false (ldn 2 (t 1)),cG 86 83 false (ldn 2 (t 2)),cG 87 83 false (bldS 2 2 [AV.int IntKind.i64 (0),AV.int IntKind.i64 (0)] [(0,2,t 85),(2,2,t 86)]),cG 88 83 false (call (cF 27) [t 84,t 87]),cG 89 83 false (un UnOp.not (t 88)),cO 90 (pick (t 83) aH (t 89)),cO 91 (cM 90),cG 92 91 false (cM 9),cG 93 91 false (ldn 2 (t 1)),cG 94 91 false (bldS 2 1 [AV.int IntKind.i64 (0),AV.int IntKind.i64 (0)] [(0,2,t 93)]),cG 95 91 false (call (cF 27) [t 92,t 94]),cG 96 91 false (un UnOp.not (t 95)),cO 97 (pick (t 91) aH (t 96)),cO 98 (cM 97),cG 99 98 false (cM 11),cO 100 (pick (t 98) aH (t 99)),cO 101 (cM 100),cG 102 101 false (cM 13),cG 103 101 false (un UnOp.not (t 102)),cO 104 (pick (t 101) aH (t 103))]).seq (C2.cond (t 104) ((ops 0 [cO 0 (mov au)]).seq ret) skip)).seq ((ops 0 [cO 106 (ldn 2 (t 4)),cO 107 (ldn 1 (t 5)),cO 108 (ldn 1 (t 6)),cO 109 (call (cF 18) [t 106,t 107,t 108,cN ((1))]),cO 105 (cM 109),cO 110 (ext (t 105) 0),cO 111 (ext (t 105) 1),cO 15 (alloc (AV.agg [AV.int IntKind.i64 (0),AV.esl])),Op2.mk none none (Ins.st 2 (t 15) (t 110)),cO 8 (cM 111)]).seq ((ops 0 [cO 113 (ldn 2 (t 4)),cO 114 (ldn 1 (t 5)),cO 115 (ldn 1 (t 6)),cO 116 (call (cF 18) [t 113,t 114,t 115,cN ((0))]),cO 112 (cM 116),cO 117 (ext (t 112) 0),cO 118 (ext (t 112) 1),cO 16 (alloc (AV.agg [AV.int IntKind.i64 (0),AV.esl])),Op2.mk none none (Ins.st 2 (t 16) (t 117)),cO 10 (cM 118)]).seq ((ops 0 [cO 120 (ldn 2 (t 4)),cO 121 (ldn 2 (t 1)),cO 122 (ldn 2 (t 2)),cO 123 (bldS 2 2 [AV.int IntKind.i64 (0),AV.int IntKind.i64 (0)] [(0,2,t 121),(2,2,t 122)]),cO 124 (ldn 2 (t 2)),cO 125 (ldn 2 (t 1)),cO 126 (bldS 2 2 [AV.int IntKind.i64 (0),AV.int IntKind.i64 (0)] [(0,2,t 124),(2,2,t 125)]),cO 127 (bld [AV.esl,AV.esl] [(0,1,t 123),(1,1,t 126)]),cO 128 (call (cF 16) [t 120,t 127]),cO 119 (cM 128),cO 129 (ext (t 119) 0),cO 130 (ext (t 119) 1),cO 17 (alloc (AV.agg [AV.esl,AV.esl])),Op2.mk none none (Ins.st 2 (t 17) (t 129)),cO 12 (cM 130)]).seq ((ops 0 [cO 131 (cM 8),cO 132 (cM 10),cO 133 (cB .add (t 131) (t 132)),cO 134 (cM 12),cO 135 (cB .add (t 133) (t 134)),cO 136 (cB .eql (t 135) (cN 0)),cO 137 (cM 136),cG 138 137 true (ldn 2 (t 15)),cG 139 137 true (bldS 1 2 [AV.int IntKind.i64 (0)] [(0,1,cN ((0))),(1,1,cN ((2)))]),cG 140 137 true (bldS 1 1 [AV.esl] [(0,1,t 139)]),cG 141 137 true (bld [AV.int IntKind.i64 (0),AV.esl] [(0,1,cN ((3))),(1,1,t 140)]),cG 142 137 true (call (cF 21) [t 138,t 141]),cO 143 (pick (t 137) (t 142) au),cO 144 (cM 143),cG 145 144 true (ldn 2 (t 16)),cG 146 144 true (bldS 1 2 [AV.int IntKind.i64 (0)] [(0,1,cN ((0))),(1,1,cN ((2)))]),cG 147 144 true (bldS 1 1 [AV.int IntKind.i64 (0)] [(0,1,cN ((1)))]),cG 148 144 true (bldS 1 2 [AV.esl] [(0,1,t 146),(1,1,t 147)]),cG 149 144 true (bld [AV.int IntKind.i64 (0),AV.esl] [(0,1,cN ((3))),(1,1,t 148)]),cG 150 144 true (call (cF 21) [t 145,t 149]),cO 151 (pick (t 144) (t 150) au),cO 152 (cM 151),cG 153 152 true (fa 1 (t 17)),cG 154 152 true (cD 153),cG 155 152 true (ldn 2 (t 2)),cG 156 152 true (ldn 2 (t 1)),cG 157 152 true (ldn 2 (t 2)),cG 158 152 true (bldS 2 3 [AV.int IntKind.i64 (0),AV.int IntKind.i64 (0)] [(0,2,t 155),(2,2,t 156),(4,2,t 157)]),cG 159 152 true (call (cF 40) [t 154,t 158]),cO 160 (pick (t 152) (t 159) au),cO 0 (cM 160)]).seq ret)))))))))))))))
theorem BI:Is Tryz.prog 11 b11:=Is.mk' Tryz.func11 (by kernel_rfl)
def b12:F2:=(F2.mk 50 [RV.t 6,RV.t 7] ((ops 0 [cO 3 (box (t 0)),cO 4 (box (t 1)),cO 5 (box (t 2)),cO 6 (mov au),cO 7 (mov (cN 0))]).seq ((ops 0 [cO 17 (ldn 2 (t 3)),cO 18 (call (cF 41) [t 17]),cO 16 (cM 18),cO 19 (ext (t 16) 0),cO 20 (ext (t 16) 1),cO 8 (cM 19),cO 9 (cM 20)]).seq (((ops 0 [cO 21 (cM 9),cO 22 (cB .neq (t 21) (cN 0))]).seq (C2.cond (t 22) ((ops 0 [cO 23 (cM 9),cO 6 (mov au),cO 7 (cM 23)]).seq ret) skip)).seq (((ops 0 [cO 24 (ldn 1 (t 4)),cO 25 (ldn 1 (t 5)),cO 26 (bldS 1 2 [AV.esl] [(0,1,t 24),(1,1,t 25)]),cO 27 (lenS (t 26)),cO 28 (mov (cN 0))]).seq (block 0 ((ops 0 [cO 29 (cB .lss (t 28) (t 27))]).seq ((C2.cond (t 29) skip (exit 0)).seq ((block 1 ((ops 0 [cO 30 (ixaS 1 (t 26) (t 28)),cO 31 (ldn 1 (t 30)),cO 11 (alloc (AV.agg [AV.esl])),Op2.mk none none (Ins.st 1 (t 11) (t 31))]).seq ((ops 0 [cO 32 (ldn 1 (t 11)),cO 33 (call (cF 29) [t 32]),cO 12 (cM 33)]).seq ((ops 0 [cO 34 (cM 12),cO 35 (cB .neq (t 34) (cN 0))]).seq (C2.cond (t 35) ((ops 0 [cO 36 (cM 12),cO 6 (mov au),cO 7 (cM 36)]).seq ret) skip))))).seq (ops 0 [cO 37 (cB .add (t 28) (cN 1)),cO 28 (cM 37)])))).loop)).seq ((ops 0 [cO 39 (cM 8),cO 40 (ldn 1 (t 4)),cO 41 (call (cF 42) [t 39,t 40]),cO 38 (cM 41),cO 42 (ext (t 38) 0),cO 43 (ext (t 38) 1),cO 13 (cM 42),cO 14 (cM 43)]).seq (((ops 0 [cO 44 (cM 14),cO 45 (un UnOp.not (t 44))]).seq (C2.cond (t 45) ((ops 0 [cO 6 (mov au),cO 7 (mov (cN 6))]).seq ret) skip)).seq ((ops 0 [cO 15 (alloc AV.nilf),Op2.mk none none (Ins.st 1 (t 15) (cF 43))]).seq ((ops 0 [cO 46 (cM 13),cO 47 (mkfn 48 [t 5,t 15]),cO 48 (call (cF 47) [t 46,t 47]),cO 49 (un UnOp.not (t 48)),cO 6 (cM 49),cO 7 (mov (cN 0))]).seq ret)))))))))
theorem AY:Is Tryz.prog 12 b12:=Is.mk' Tryz.func12 (by kernel_rfl)
def b13:F2:=(F2.mk 49 [RV.t 6,RV.t 7] ((ops 0 [cO 3 (box (t 0)),cO 4 (box (t 1)),cO 5 (box (t 2)),cO 6 (mov au),cO 7 (mov (cN 0))]).seq (((ops 0 [cO 13 (ldn 2 (t 3)),cO 14 (call (cF 50) [t 13]),cO 8 (cM 14)]).seq ((ops 0 [cO 15 (cM 8),cO 16 (cB .neq (t 15) (cN 0))]).seq (C2.cond (t 16) ((ops 0 [cO 17 (cM 8),cO 6 (mov au),cO 7 (cM 17)]).seq ret) skip))).seq (((ops 0 [cO 18 (ldn 1 (t 4)),cO 19 (call (cF 51) [t 18]),cO 9 (cM 19)]).seq ((ops 0 [cO 20 (cM 9),cO 21 (cB .neq (t 20) (cN 0))]).seq (C2.cond (t 21) ((ops 0 [cO 22 (cM 9),cO 6 (mov au),cO 7 (cM 22)]).seq ret) skip))).seq (((ops 0 [cO 23 (ldn 1 (t 5)),cO 24 (call (cF 51) [t 23]),cO 10 (cM 24)]).seq ((ops 0 [cO 25 (cM 10),cO 26 (cB .neq (t 25) (cN 0))]).seq (C2.cond (t 26) ((ops 0 [cO 27 (cM 10),cO 6 (mov au),cO 7 (cM 27)]).seq ret) skip))).seq (((mixS 1 [cO 28 (ldn 2 (t 3)),cO 29 (ldn 1 (t 4)),cO 30 (call (cF 53) [t 29]),cO 31 (call (cF 52) [t 28,t 30]),cO 32 (un UnOp.not (t 31))] [(0,0),(1,0),(2,1),(3,2),(4,0)]).seq (C2.cond (t 32) ((ops 0 [cO 6 (mov au),cO 7 (mov (cN 6))]).seq ret) skip)).seq ((ops 0 [cO 33 (ldn 2 (t 3)),cO 34 (ldn 1 (t 4)),cO 35 (call (cF 54) [t 33,t 34]),cO 11 (cM 35)]).seq (((ops 0 [cO 12 (mov (cN 0))]).seq (block 0 (((ops 0 [cO 36 (cM 12),cO 37 (cM 11),cO 38 (lenS (t 37)),cO 39 (cB .lss (t 36) (t 38))]).seq (C2.cond (t 39) skip (exit 0))).seq ((block 1 ((mixS 1 [cO 42 (ldn 1 (t 5)),cO 43 (cM 11),cO 44 (cM 12),cO 45 (ixaS 1 (t 43) (t 44)),cO 46 (cD 45),cO 47 (call (cF 55) [t 42,t 46]),cO 48 (un UnOp.not (t 47))] [(0,0),(1,0),(2,0),(3,0),(4,0),(5,2),(6,0)]).seq (C2.cond (t 48) ((ops 0 [cO 6 (mov au),cO 7 (mov (cN 0))]).seq ret) skip))).seq (ops 0 [cO 40 (cM 12),cO 41 (cB .add (t 40) (cN 1)),cO 12 (cM 41)]))).loop)).seq ((ops 0 [cO 6 (mov aH),cO 7 (mov (cN 0))]).seq ret)))))))))
theorem BF:Is Tryz.prog 13 b13:=Is.mk' Tryz.func13 (by kernel_rfl)
def b14:F2:=(F2.mk 30 [RV.t 2,RV.t 3] ((ops 0 [cO 1 (box (t 0)),cO 2 (mov au),cO 3 (mov (cN 0))]).seq (((ops 0 [cO 7 (ldn 2 (t 1)),cO 8 (call (cF 34) [t 7]),cO 4 (cM 8)]).seq ((ops 0 [cO 9 (cM 4),cO 10 (cB .neq (t 9) (cN 0))]).seq (C2.cond (t 10) ((ops 0 [cO 11 (cM 4),cO 2 (mov au),cO 3 (cM 11)]).seq ret) skip))).seq (((ops 0 [cO 12 (fa 0 (t 1)),cO 13 (cD 12),cO 14 (lenS (t 13)),cO 15 (mov (cN 0))]).seq (block 0 ((ops 0 [cO 16 (cB .lss (t 15) (t 14))]).seq ((C2.cond (t 16) skip (exit 0)).seq ((block 1 ((ops 0 [cO 17 (cM 15),cO 18 (ixaS 2 (t 13) (t 15)),cO 19 (ldn 2 (t 18)),cO 6 (alloc (AV.agg [AV.int IntKind.i64 (0),AV.int IntKind.i64 (0)])),cO 5 (cM 17),Op2.mk none none (Ins.st 2 (t 6) (t 19))]).seq ((ops 1 [cO 20 (fa 1 (t 1)),cO 21 (cD 20),cO 22 (cM 5),cO 23 (ixaS 2 (t 21) (t 22)),cO 24 (fa 0 (t 23)),cO 25 (cD 24),cO 26 (fa 0 (t 6)),cO 27 (cD 26),cO 28 (cB .neq (t 25) (t 27))]).seq (C2.cond (t 28) ((ops 0 [cO 2 (mov au),cO 3 (mov (cN 0))]).seq ret) skip)))).seq (ops 0 [cO 29 (cB .add (t 15) (cN 1)),cO 15 (cM 29)])))).loop)).seq ((ops 0 [cO 2 (mov aH),cO 3 (mov (cN 0))]).seq ret)))))
theorem BL:Is Tryz.prog 14 b14:=Is.mk' Tryz.func14 (by kernel_rfl)
def b16:F2:=(F2.mk 57 [RV.cn 4 2,RV.t 5] ((ops 0 [cO 2 (box (t 0)),cO 3 (box (t 1)),cO 4 (alloc (AV.agg [AV.esl,AV.esl])),cO 5 (mov (cN 0))]).seq (((ops 0 [cO 14 (ldn 2 (t 2)),cO 15 (call (cF 34) [t 14]),cO 6 (cM 15)]).seq ((ops 0 [cO 16 (cM 6),cO 17 (cB .neq (t 16) (cN 0))]).seq (C2.cond (t 17) ((ops 0 [cO 18 (bld [AV.esl,AV.esl] []),cO 19 (cM 6),Op2.mk none none (Ins.st 2 (t 4) (t 18)),cO 5 (cM 19)]).seq ret) skip))).seq ((ops 0 [cO 21 (ldn 2 (t 3)),cO 22 (call (cF 41) [t 21]),cO 20 (cM 22),cO 23 (ext (t 20) 0),cO 24 (ext (t 20) 1),cO 7 (cM 23),cO 8 (cM 24)]).seq (((ops 0 [cO 25 (cM 8),cO 26 (cB .neq (t 25) (cN 0))]).seq (C2.cond (t 26) ((ops 0 [cO 27 (bld [AV.esl,AV.esl] []),cO 28 (cM 8),Op2.mk none none (Ins.st 2 (t 4) (t 27)),cO 5 (cM 28)]).seq ret) skip)).seq ((ops 0 [cO 29 (fa 0 (t 2)),cO 30 (cD 29),cO 31 (call (cF 31) [t 30]),cO 32 (bld [AV.esl,AV.esl] [(0,1,t 31)]),cO 9 (alloc (AV.agg [AV.esl,AV.esl])),Op2.mk none none (Ins.st 2 (t 9) (t 32))]).seq (((ops 0 [cO 33 (fa 1 (t 2)),cO 34 (cD 33),cO 35 (lenS (t 34)),cO 36 (mov (cN 0))]).seq (block 0 ((ops 0 [cO 37 (cB .lss (t 36) (t 35))]).seq ((C2.cond (t 37) skip (exit 0)).seq ((block 1 ((ops 0 [cO 38 (ixaS 2 (t 34) (t 36)),cO 39 (ldn 2 (t 38)),cO 11 (alloc (AV.agg [AV.int IntKind.i64 (0),AV.int IntKind.i64 (0)])),Op2.mk none none (Ins.st 2 (t 11) (t 39))]).seq ((ops 0 [cO 41 (cM 7),cO 42 (ldn 2 (t 11)),cO 43 (Ins.mget (MK.st [int,int]) (AV.agg [AV.int IntKind.i64 (0),AV.int IntKind.i64 (0)]) true (t 41) (t 42)),cO 40 (cM 43),cO 44 (ext (t 40) 0),cO 45 (ext (t 40) 1),cO 12 (alloc (AV.agg [AV.int IntKind.i64 (0),AV.int IntKind.i64 (0)])),Op2.mk none none (Ins.st 2 (t 12) (t 44)),cO 13 (cM 45)]).seq (((ops 0 [cO 46 (cM 13),cO 47 (un UnOp.not (t 46))]).seq (C2.cond (t 47) ((ops 0 [cO 48 (bld [AV.esl,AV.esl] []),Op2.mk none none (Ins.st 2 (t 4) (t 48)),cO 5 (mov (cN 6))]).seq ret) skip)).seq (ops 0 [cO 49 (fa 1 (t 9)),cO 50 (cD 49),cO 51 (ldn 2 (t 12)),cO 52 (bldS 2 1 [AV.int IntKind.i64 (0),AV.int IntKind.i64 (0)] [(0,2,t 51)]),cO 53 (app 2 16 (t 50) (t 52)),cO 54 (fa 1 (t 9)),Op2.mk none none (Ins.st 1 (t 54) (t 53))]))))).seq (ops 0 [cO 55 (cB .add (t 36) (cN 1)),cO 36 (cM 55)])))).loop)).seq ((ops 0 [cO 56 (ldn 2 (t 9)),Op2.mk none none (Ins.st 2 (t 4) (t 56)),cO 5 (mov (cN 0))]).seq ret))))))))
theorem Ab:Is Tryz.prog 16 b16:=Is.mk' Tryz.func16 (by kernel_rfl)
def b17:F2:=(F2.mk 62 [RV.cn 4 2,RV.t 5] ((ops 0 [cO 2 (box (t 0)),cO 3 (box (t 1)),cO 4 (alloc (AV.agg [AV.esl,AV.esl])),cO 5 (mov (cN 0))]).seq (((ops 0 [cO 10 (ldn 2 (t 2)),cO 11 (call (cF 50) [t 10]),cO 6 (cM 11)]).seq ((ops 0 [cO 12 (cM 6),cO 13 (cB .neq (t 12) (cN 0))]).seq (C2.cond (t 13) ((ops 0 [cO 14 (bld [AV.esl,AV.esl] []),cO 15 (cM 6),Op2.mk none none (Ins.st 2 (t 4) (t 14)),cO 5 (cM 15)]).seq ret) skip))).seq (((ops 0 [cO 16 (ldn 2 (t 3)),cO 17 (call (cF 50) [t 16]),cO 7 (cM 17)]).seq ((ops 0 [cO 18 (cM 7),cO 19 (cB .neq (t 18) (cN 0))]).seq (C2.cond (t 19) ((ops 0 [cO 20 (bld [AV.esl,AV.esl] []),cO 21 (cM 7),Op2.mk none none (Ins.st 2 (t 4) (t 20)),cO 5 (cM 21)]).seq ret) skip))).seq (((ops 0 [cO 22 (ldn 2 (t 3)),cO 23 (fa 1 (t 2)),cO 24 (cD 23),cO 25 (call (cF 52) [t 22,t 24]),cO 26 (un UnOp.not (t 25))]).seq (C2.cond (t 26) ((ops 0 [cO 27 (bld [AV.esl,AV.esl] []),Op2.mk none none (Ins.st 2 (t 4) (t 27)),cO 5 (mov (cN 6))]).seq ret) skip)).seq ((ops 0 [cO 8 (alloc (AV.agg [AV.esl,AV.esl]))]).seq (((ops 0 [cO 9 (mov (cN 0))]).seq (block 0 (((ops 0 [cO 28 (cM 9),cO 29 (fa 0 (t 2)),cO 30 (cD 29),cO 31 (lenS (t 30)),cO 32 (cB .lss (t 28) (t 31))]).seq (C2.cond (t 32) skip (exit 0))).seq ((block 1 ((ops 1 [cO 35 (fa 0 (t 8)),cO 36 (cD 35),cO 37 (fa 0 (t 2)),cO 38 (cD 37),cO 39 (cM 9),cO 40 (ixaS 2 (t 38) (t 39)),cO 41 (ldn 2 (t 40)),cO 42 (bldS 2 1 [AV.int IntKind.i64 (0),AV.int IntKind.i64 (0)] [(0,2,t 41)]),cO 43 (app 2 16 (t 36) (t 42)),cO 44 (fa 0 (t 8)),Op2.mk none none (Ins.st 1 (t 44) (t 43))]).seq (mixS 1 [cO 45 (fa 1 (t 8)),cO 46 (cD 45),cO 47 (fa 1 (t 3)),cO 48 (cD 47),cO 49 (ldn 2 (t 3)),cO 50 (fa 1 (t 2)),cO 51 (cD 50),cO 52 (cM 9),cO 53 (ixaS 2 (t 51) (t 52)),cO 54 (ldn 2 (t 53)),cO 55 (call (cF 56) [t 49,t 54]),cO 56 (ixaS 2 (t 48) (t 55)),cO 57 (ldn 2 (t 56)),cO 58 (bldS 2 1 [AV.int IntKind.i64 (0),AV.int IntKind.i64 (0)] [(0,2,t 57)]),cO 59 (app 2 16 (t 46) (t 58)),cO 60 (fa 1 (t 8)),Op2.mk none none (Ins.st 1 (t 60) (t 59))] [(0,0),(1,0),(2,0),(3,0),(4,0),(5,0),(6,0),(7,0),(8,0),(9,0),(10,1),(11,0),(12,0),(13,1),(14,2),(15,0),(16,2)]))).seq (ops 0 [cO 33 (cM 9),cO 34 (cB .add (t 33) (cN 1)),cO 9 (cM 34)]))).loop)).seq ((ops 0 [cO 61 (ldn 2 (t 8)),Op2.mk none none (Ins.st 2 (t 4) (t 61)),cO 5 (mov (cN 0))]).seq ret))))))))
theorem BN:Is Tryz.prog 17 b17:=Is.mk' Tryz.func17 (by kernel_rfl)
def b18:F2:=(F2.mk 114 [RV.cn 8 2,RV.t 9] ((ops 0 [cO 4 (box (t 0)),cO 5 (box (t 1)),cO 6 (box (t 2)),cO 8 (alloc (AV.agg [AV.int IntKind.i64 (0),AV.esl])),cO 9 (mov (cN 0))]).seq ((ops 0 [cO 24 (ldn 2 (t 4)),cO 25 (ldn 1 (t 5)),cO 26 (ldn 1 (t 6)),cO 27 (call (cF 12) [t 24,t 25,t 26]),cO 23 (cM 27),cO 28 (ext (t 23) 0),cO 29 (ext (t 23) 1),cO 10 (cM 28),cO 11 (cM 29)]).seq ((block 0 ((ops 0 [cO 31 (cM 11),cO 32 (cB .neq (t 31) (cN 0)),cO 30 (cM 32)]).seq (C2.cond (t 30) ((ops 0 [cO 33 (bld [AV.int IntKind.i64 (0),AV.esl] []),cO 34 (cM 11),Op2.mk none none (Ins.st 2 (t 8) (t 33)),cO 9 (cM 34)]).seq ret) ((ops 0 [cO 36 (cM 10),cO 37 (un UnOp.not (t 36)),cO 35 (cM 37)]).seq (C2.cond (t 35) ((ops 0 [cO 38 (bld [AV.int IntKind.i64 (0),AV.esl] []),Op2.mk none none (Ins.st 2 (t 8) (t 38)),cO 9 (mov (cN 22))]).seq ret) ((ops 0 [cO 40 (cM 3),cO 41 (cB .lss (t 40) (cN 0)),cO 42 (cM 41),cG 43 42 false (cM 3),cG 44 42 false (cB .geq (t 43) (cN 8)),cO 45 (pick (t 42) aH (t 44)),cO 39 (cM 45)]).seq (C2.cond (t 39) ((ops 0 [cO 46 (bld [AV.int IntKind.i64 (0),AV.esl] []),Op2.mk none none (Ins.st 2 (t 8) (t 46)),cO 9 (mov (cN 2))]).seq ret) skip))))))).seq ((ops 0 [cO 48 (ldn 1 (t 5)),cO 49 (cM 3),cO 50 (cB .add (t 49) (cN 1)),cO 51 (call (cF 32) [t 48,t 50]),cO 47 (cM 51),cO 52 (ext (t 47) 0),cO 53 (ext (t 47) 1),cO 12 (cM 52),cO 11 (cM 53)]).seq (((ops 0 [cO 54 (cM 11),cO 55 (cB .neq (t 54) (cN 0))]).seq (C2.cond (t 55) ((ops 0 [cO 56 (bld [AV.int IntKind.i64 (0),AV.esl] []),cO 57 (cM 11),Op2.mk none none (Ins.st 2 (t 8) (t 56)),cO 9 (cM 57)]).seq ret) skip)).seq ((ops 0 [cO 59 (ldn 1 (t 6)),cO 60 (cM 3),cO 61 (cB .add (t 60) (cN 1)),cO 62 (call (cF 32) [t 59,t 61]),cO 58 (cM 62),cO 63 (ext (t 58) 0),cO 64 (ext (t 58) 1),cO 13 (cM 63),cO 11 (cM 64)]).seq (((ops 0 [cO 65 (cM 11),cO 66 (cB .neq (t 65) (cN 0))]).seq (C2.cond (t 66) ((ops 0 [cO 67 (bld [AV.int IntKind.i64 (0),AV.esl] []),cO 68 (cM 11),Op2.mk none none (Ins.st 2 (t 8) (t 67)),cO 9 (cM 68)]).seq ret) skip)).seq ((ops 0 [cO 70 (ldn 2 (t 4)),cO 71 (call (cF 41) [t 70]),cO 69 (cM 71),cO 72 (ext (t 69) 0),cO 73 (ext (t 69) 1),cO 14 (cM 72),cO 15 (cM 73)]).seq ((ops 0 [cO 74 (cM 12),cO 75 (lenS (t 74)),cO 76 (cM 13),cO 77 (lenS (t 76)),cO 78 (mks 1 24 [AV.esl] (t 77) (t 77)),cO 79 (bld [AV.int IntKind.i64 (0),AV.esl] [(0,1,t 75),(1,1,t 78)]),cO 16 (alloc (AV.agg [AV.int IntKind.i64 (0),AV.esl])),Op2.mk none none (Ins.st 2 (t 16) (t 79))]).seq (((ops 0 [cO 80 (cM 12),cO 81 (lenS (t 80)),cO 82 (mov (cN 0))]).seq (block 1 ((ops 0 [cO 83 (cB .lss (t 82) (t 81))]).seq ((C2.cond (t 83) skip (exit 1)).seq ((block 2 ((ops 0 [cO 84 (cM 82),cO 85 (ixaS 1 (t 80) (t 82)),cO 86 (cD 85),cO 17 (cM 84),cO 18 (cM 86)]).seq ((ops 0 [cO 88 (cM 14),cO 89 (cM 18),cO 90 (call (cF 57) [t 88,t 89]),cO 87 (cM 90),cO 91 (ext (t 87) 0),cO 92 (ext (t 87) 1),cO 19 (cM 91),cO 20 (cM 92)]).seq ((ops 0 [cO 94 (cM 13),cO 95 (cM 19),cO 96 (call (cF 58) [t 94,t 95,c (AV.func 59 [])]),cO 93 (cM 96),cO 97 (ext (t 93) 0),cO 98 (ext (t 93) 1),cO 21 (cM 97),cO 22 (cM 98)]).seq ((ops 0 [cO 99 (cM 22)]).seq (C2.cond (t 99) (mixS 2 [cO 100 (fa 1 (t 16)),cO 101 (cD 100),cO 102 (cM 21),cO 103 (fa 1 (t 16)),cO 104 (cD 103),cO 105 (cM 21),cO 106 (ixaS 1 (t 104) (t 105)),cO 107 (cD 106),cO 108 (cM 17),cO 109 (bldS 1 1 [AV.int IntKind.i64 (0)] [(0,1,t 108)]),cO 110 (app 1 8 (t 107) (t 109)),cO 111 (ixaS 1 (t 101) (t 102)),Op2.mk none none (Ins.st 1 (t 111) (t 110))] [(0,0),(1,0),(2,0),(3,0),(4,0),(5,0),(6,0),(7,0),(8,0),(9,1),(10,1),(11,0),(12,2)]) skip)))))).seq (ops 0 [cO 112 (cB .add (t 82) (cN 1)),cO 82 (cM 112)])))).loop)).seq ((ops 0 [cO 113 (ldn 2 (t 16)),Op2.mk none none (Ins.st 2 (t 8) (t 113)),cO 9 (mov (cN 0))]).seq ret))))))))))))
theorem Bh:Is Tryz.prog 18 b18:=Is.mk' Tryz.func18 (by kernel_rfl)
def b19:F2:=(F2.mk 98 [RV.cn 8 2,RV.t 9] ((ops 0 [cO 4 (box (t 0)),cO 5 (box (t 1)),cO 6 (box (t 2)),cO 8 (alloc (AV.agg [AV.int IntKind.i64 (0),AV.esl])),cO 9 (mov (cN 0))]).seq ((ops 0 [cO 19 (ldn 2 (t 4)),cO 20 (ldn 1 (t 5)),cO 21 (ldn 1 (t 6)),cO 22 (call (cF 13) [t 19,t 20,t 21]),cO 18 (cM 22),cO 23 (ext (t 18) 0),cO 24 (ext (t 18) 1),cO 10 (cM 23),cO 11 (cM 24)]).seq (((ops 0 [cO 25 (cM 11),cO 26 (cB .neq (t 25) (cN 0))]).seq (C2.cond (t 26) ((ops 0 [cO 27 (bld [AV.int IntKind.i64 (0),AV.esl] []),cO 28 (cM 11),Op2.mk none none (Ins.st 2 (t 8) (t 27)),cO 9 (cM 28)]).seq ret) skip)).seq (((ops 0 [cO 29 (cM 10),cO 30 (un UnOp.not (t 29))]).seq (C2.cond (t 30) ((ops 0 [cO 31 (bld [AV.int IntKind.i64 (0),AV.esl] []),Op2.mk none none (Ins.st 2 (t 8) (t 31)),cO 9 (mov (cN 22))]).seq ret) skip)).seq (((ops 0 [cO 32 (cM 3),cO 33 (cB .lss (t 32) (cN 0)),cO 34 (cM 33),cG 35 34 false (cM 3),cG 36 34 false (cB .geq (t 35) (cN 8)),cO 37 (pick (t 34) aH (t 36))]).seq (C2.cond (t 37) ((ops 0 [cO 38 (bld [AV.int IntKind.i64 (0),AV.esl] []),Op2.mk none none (Ins.st 2 (t 8) (t 38)),cO 9 (mov (cN 2))]).seq ret) skip)).seq ((ops 0 [cO 40 (ldn 1 (t 5)),cO 41 (cM 3),cO 42 (cB .add (t 41) (cN 1)),cO 43 (call (cF 60) [t 40,t 42]),cO 39 (cM 43),cO 44 (ext (t 39) 0),cO 45 (ext (t 39) 1),cO 12 (cM 44),cO 11 (cM 45)]).seq (((ops 0 [cO 46 (cM 11),cO 47 (cB .neq (t 46) (cN 0))]).seq (C2.cond (t 47) ((ops 0 [cO 48 (bld [AV.int IntKind.i64 (0),AV.esl] []),cO 49 (cM 11),Op2.mk none none (Ins.st 2 (t 8) (t 48)),cO 9 (cM 49)]).seq ret) skip)).seq ((ops 0 [cO 51 (ldn 1 (t 6)),cO 52 (cM 3),cO 53 (cB .add (t 52) (cN 1)),cO 54 (call (cF 60) [t 51,t 53]),cO 50 (cM 54),cO 55 (ext (t 50) 0),cO 56 (ext (t 50) 1),cO 13 (cM 55),cO 11 (cM 56)]).seq (((ops 0 [cO 57 (cM 11),cO 58 (cB .neq (t 57) (cN 0))]).seq (C2.cond (t 58) ((ops 0 [cO 59 (bld [AV.int IntKind.i64 (0),AV.esl] []),cO 60 (cM 11),Op2.mk none none (Ins.st 2 (t 8) (t 59)),cO 9 (cM 60)]).seq ret) skip)).seq ((ops 0 [cO 61 (cM 12),cO 62 (lenS (t 61)),cO 63 (bld [AV.int IntKind.i64 (0),AV.esl] [(0,1,t 62)]),cO 14 (alloc (AV.agg [AV.int IntKind.i64 (0),AV.esl])),Op2.mk none none (Ins.st 2 (t 14) (t 63))]).seq (((ops 0 [cO 15 (mov (cN 0))]).seq (block 0 (((ops 0 [cO 64 (cM 15),cO 65 (cM 13),cO 66 (lenS (t 65)),cO 67 (cB .lss (t 64) (t 66))]).seq (C2.cond (t 67) skip (exit 0))).seq ((block 1 ((ops 0 [cO 16 (mov (c AV.esl))]).seq (((ops 0 [cO 17 (mov (cN 0))]).seq (block 2 (((ops 0 [cO 70 (cM 17),cO 71 (cM 12),cO 72 (lenS (t 71)),cO 73 (cB .lss (t 70) (t 72))]).seq (C2.cond (t 73) skip (exit 2))).seq ((block 3 ((mixS 1 [cO 76 (ldn 2 (t 4)),cO 77 (cM 12),cO 78 (cM 17),cO 79 (ixaS 1 (t 77) (t 78)),cO 80 (cD 79),cO 81 (call (cF 61) [t 76,t 80]),cO 82 (cM 13),cO 83 (cM 15),cO 84 (ixaS 1 (t 82) (t 83)),cO 85 (cD 84),cO 86 (call (cF 27) [t 81,t 85])] [(0,0),(1,0),(2,0),(3,0),(4,0),(6,0),(7,0),(8,0),(9,0),(5,1),(10,2)]).seq (C2.cond (t 86) (ops 0 [cO 87 (cM 16),cO 88 (cM 17),cO 89 (bldS 1 1 [AV.int IntKind.i64 (0)] [(0,1,t 88)]),cO 90 (app 1 8 (t 87) (t 89)),cO 16 (cM 90)]) skip))).seq (ops 0 [cO 74 (cM 17),cO 75 (cB .add (t 74) (cN 1)),cO 17 (cM 75)]))).loop)).seq (ops 0 [cO 91 (fa 1 (t 14)),cO 92 (cD 91),cO 93 (cM 16),cO 94 (bldS 1 1 [AV.esl] [(0,1,t 93)]),cO 95 (app 1 24 (t 92) (t 94)),cO 96 (fa 1 (t 14)),Op2.mk none none (Ins.st 1 (t 96) (t 95))])))).seq (ops 0 [cO 68 (cM 15),cO 69 (cB .add (t 68) (cN 1)),cO 15 (cM 69)]))).loop)).seq ((ops 0 [cO 97 (ldn 2 (t 14)),Op2.mk none none (Ins.st 2 (t 8) (t 97)),cO 9 (mov (cN 0))]).seq ret)))))))))))))
theorem BG:Is Tryz.prog 19 b19:=Is.mk' Tryz.func19 (by kernel_rfl)
def b20:F2:=(F2.mk 19 [RV.t 4] ((ops 0 [cO 2 (box (t 0)),cO 3 (box (t 1)),cO 4 (mov au)]).seq ((ops 0 [cO 5 (fa 0 (t 2)),cO 6 (cD 5),cO 7 (fa 0 (t 3)),cO 8 (cD 7),cO 9 (call (cF 62) [t 6,t 8]),cO 10 (cB .eql (t 9) (cN 0)),cO 11 (cM 10),cG 12 11 true (fa 1 (t 2)),cG 13 11 true (cD 12),cG 14 11 true (fa 1 (t 3)),cG 15 11 true (cD 14),cG 16 11 true (call (cF 62) [t 13,t 15]),cG 17 11 true (cB .eql (t 16) (cN 0)),cO 18 (pick (t 11) (t 17) au),cO 4 (cM 18)]).seq ret)))
theorem BX:Is Tryz.prog 20 b20:=Is.mk' Tryz.func20 (by kernel_rfl)
def b21:F2:=(F2.mk 39 [RV.t 4] ((ops 0 [cO 2 (box (t 0)),cO 3 (box (t 1)),cO 4 (mov au)]).seq (((ops 0 [cO 6 (fa 0 (t 2)),cO 7 (cD 6),cO 8 (fa 0 (t 3)),cO 9 (cD 8),cO 10 (cB .neq (t 7) (t 9)),cO 11 (cM 10),cG 12 11 false (fa 1 (t 2)),cG 13 11 false (cD 12),cG 14 11 false (lenS (t 13)),cG 15 11 false (fa 1 (t 3)),cG 16 11 false (cD 15),cG 17 11 false (lenS (t 16)),cG 18 11 false (cB .neq (t 14) (t 17)),cO 19 (pick (t 11) aH (t 18))]).seq (C2.cond (t 19) ((ops 0 [cO 4 (mov au)]).seq ret) skip)).seq (((ops 0 [cO 5 (mov (cN 0))]).seq (block 0 (((ops 0 [cO 20 (cM 5),cO 21 (fa 1 (t 2)),cO 22 (cD 21),cO 23 (lenS (t 22)),cO 24 (cB .lss (t 20) (t 23))]).seq (C2.cond (t 24) skip (exit 0))).seq ((block 1 ((mixS 1 [cO 27 (fa 1 (t 2)),cO 28 (cD 27),cO 29 (cM 5),cO 30 (ixaS 1 (t 28) (t 29)),cO 31 (cD 30),cO 32 (fa 1 (t 3)),cO 33 (cD 32),cO 34 (cM 5),cO 35 (ixaS 1 (t 33) (t 34)),cO 36 (cD 35),cO 37 (call (cF 63) [t 31,t 36]),cO 38 (un UnOp.not (t 37))] [(0,0),(1,0),(2,0),(3,0),(4,0),(5,0),(6,0),(7,0),(8,0),(9,0),(10,2),(11,0)]).seq (C2.cond (t 38) ((ops 0 [cO 4 (mov au)]).seq ret) skip))).seq (ops 0 [cO 25 (cM 5),cO 26 (cB .add (t 25) (cN 1)),cO 5 (cM 26)]))).loop)).seq ((ops 0 [cO 4 (mov aH)]).seq ret)))))
theorem zb:Is Tryz.prog 21 b21:=Is.mk' Tryz.func21 (by kernel_rfl)
def b22:F2:=(F2.mk 6 [RV.t 2] ((ops 0 [cO 2 (mov au)]).seq ((ops 0 [cO 3 (cM 0),cO 4 (lenS (t 3)),cO 5 (cB .leq (t 4) (cN 10)),cO 2 (cM 5)]).seq ret)))
theorem BQ:Is Tryz.prog 22 b22:=Is.mk' Tryz.func22 (by kernel_rfl)
def b23:F2:=(F2.mk 33 [RV.t 4,RV.t 5] ((ops 0 [cO 2 (box (t 0)),cO 4 (mov (c AV.esl)),cO 5 (mov (cN 0))]).seq ((ops 0 [cO 12 (ldn 2 (t 2)),cO 13 (call (cF 41) [t 12]),cO 11 (cM 13),cO 14 (ext (t 11) 0),cO 15 (ext (t 11) 1),cO 6 (cM 14),cO 7 (cM 15)]).seq (((ops 0 [cO 16 (cM 7),cO 17 (cB .neq (t 16) (cN 0))]).seq (C2.cond (t 17) ((ops 0 [cO 18 (cM 7),cO 4 (mov (c AV.esl)),cO 5 (cM 18)]).seq ret) skip)).seq (((ops 0 [cO 19 (cM 1),cO 20 (call (cF 64) [t 19]),cO 8 (cM 20)]).seq ((ops 0 [cO 21 (cM 8),cO 22 (cB .neq (t 21) (cN 0))]).seq (C2.cond (t 22) ((ops 0 [cO 23 (cM 8),cO 4 (mov (c AV.esl)),cO 5 (cM 23)]).seq ret) skip))).seq ((ops 0 [cO 25 (cM 6),cO 26 (cM 1),cO 27 (call (cF 57) [t 25,t 26]),cO 24 (cM 27),cO 28 (ext (t 24) 0),cO 29 (ext (t 24) 1),cO 9 (cM 28),cO 10 (cM 29)]).seq (((ops 0 [cO 30 (cM 10),cO 31 (un UnOp.not (t 30))]).seq (C2.cond (t 31) ((ops 0 [cO 4 (mov (c AV.esl)),cO 5 (mov (cN 6))]).seq ret) skip)).seq ((ops 0 [cO 32 (cM 9),cO 4 (cM 32),cO 5 (mov (cN 0))]).seq ret))))))))
theorem BV:Is Tryz.prog 23 b23:=Is.mk' Tryz.func23 (by kernel_rfl)
def b27:F2:=(F2.mk 9 [RV.t 4] ((ops 0 [cO 4 (mov au)]).seq ((ops 0 [cO 5 (cM 0),cO 6 (cM 1),cO 7 (call (cF 62) [t 5,t 6]),cO 8 (cB .eql (t 7) (cN 0)),cO 4 (cM 8)]).seq ret)))
theorem ze:Is Tryz.prog 27 b27:=Is.mk' Tryz.func27 (by kernel_rfl)
def b29:F2:=(F2.mk 60 [RV.t 2] ((ops 0 [cO 1 (box (t 0)),cO 2 (mov (cN 0))]).seq (((ops 0 [cO 9 (fa 0 (t 1)),cO 10 (cD 9),cO 11 (lenS (t 10)),cO 12 (cB .gtr (t 11) (cN 4096))]).seq (C2.cond (t 12) ((ops 0 [cO 2 (mov (cN 5))]).seq ret) skip)).seq (((ops 0 [cO 13 (fa 0 (t 1)),cO 14 (cD 13),cO 15 (lenS (t 14)),cO 16 (mov (cN 0))]).seq (block 0 ((ops 0 [cO 17 (cB .lss (t 16) (t 15))]).seq ((C2.cond (t 17) skip (exit 0)).seq ((block 1 ((ops 0 [cO 18 (cM 16),cO 19 (ixaS 1 (t 14) (t 16)),cO 20 (cD 19),cO 3 (cM 18),cO 4 (cM 20)]).seq (((ops 0 [cO 21 (cM 4),cO 22 (call (cF 64) [t 21]),cO 5 (cM 22)]).seq ((ops 0 [cO 23 (cM 5),cO 24 (cB .neq (t 23) (cN 0))]).seq (C2.cond (t 24) ((ops 0 [cO 25 (cM 5),cO 2 (cM 25)]).seq ret) skip))).seq ((ops 0 [cO 26 (cM 3),cO 27 (cB .gtr (t 26) (cN 0)),cO 28 (cM 27),cG 29 28 true (fa 0 (t 1)),cG 30 28 true (cD 29),cG 31 28 true (cM 3),cG 32 28 true (cB .sub (t 31) (cN 1)),cG 33 28 true (ixaS 1 (t 30) (t 32)),cG 34 28 true (cD 33),cG 35 28 true (cM 4),cG 36 28 true (call (cF 59) [t 34,t 35]),cG 37 28 true (cB .geq (t 36) (cN 0)),cO 38 (pick (t 28) (t 37) au)]).seq (C2.cond (t 38) ((ops 0 [cO 2 (mov (cN 14))]).seq ret) skip))))).seq (ops 0 [cO 39 (cB .add (t 16) (cN 1)),cO 16 (cM 39)])))).loop)).seq ((ops 0 [cO 40 (fa 0 (t 1)),cO 41 (cD 40),cO 42 (call (cF 69) [t 41]),cO 6 (cM 42)]).seq (((ops 0 [cO 43 (fa 0 (t 1)),cO 44 (cD 43),cO 45 (lenS (t 44)),cO 46 (mov (cN 0))]).seq (block 2 ((ops 0 [cO 47 (cB .lss (t 46) (t 45))]).seq ((C2.cond (t 47) skip (exit 2)).seq ((block 3 ((ops 0 [cO 48 (ixaS 1 (t 44) (t 46)),cO 49 (cD 48),cO 8 (cM 49)]).seq ((mixS 9 [cO 50 (fa 0 (t 1)),cO 51 (cD 50),cO 52 (cM 6),cO 53 (cM 8),cO 54 (ixaS 2 (t 53) (cN 0)),cO 55 (ldn 2 (t 54)),cO 56 (Ins.mget (MK.st [int,int]) AV.esl false (t 52) (t 55)),cO 57 (cM 8),cO 58 (call (cF 70) [t 51,t 56,t 57])] [(0,0),(1,0),(2,0),(3,0),(4,0),(5,0),(7,0),(6,1),(8,2)]).seq (C2.cond (t 58) ((ops 0 [cO 2 (mov (cN 7))]).seq ret) skip)))).seq (ops 0 [cO 59 (cB .add (t 46) (cN 1)),cO 46 (cM 59)])))).loop)).seq ((ops 0 [cO 2 (mov (cN 0))]).seq ret)))))))
theorem zF:Is Tryz.prog 29 b29:=Is.mk' Tryz.func29 (by kernel_rfl)
def b31:F2:=(F2.mk 8 [RV.t 2] ((ops 0 [cO 2 (mov (c AV.esl))]).seq (((ops 0 [cO 3 (cM 0),cO 4 (snil false (t 3))]).seq (C2.cond (t 4) ((ops 0 [cO 2 (mov (c AV.esl))]).seq ret) skip)).seq ((ops 0 [cO 5 (bldS 2 0 [AV.int IntKind.i64 (0),AV.int IntKind.i64 (0)] []),cO 6 (cM 0),cO 7 (app 2 16 (t 5) (t 6)),cO 2 (cM 7)]).seq ret))))
theorem yX:Is Tryz.prog 31 b31:=Is.mk' Tryz.func31 (by kernel_rfl)
def b32:F2:=(F2.mk 24 [RV.t 4,RV.t 5] ((ops 0 [cO 2 (box (t 0)),cO 4 (mov (c AV.esl)),cO 5 (mov (cN 0))]).seq (((ops 0 [cO 7 (ldn 1 (t 2)),cO 8 (call (cF 29) [t 7]),cO 6 (cM 8)]).seq ((ops 0 [cO 9 (cM 6),cO 10 (cB .neq (t 9) (cN 0))]).seq (C2.cond (t 10) ((ops 0 [cO 11 (cM 6),cO 4 (mov (c AV.esl)),cO 5 (cM 11)]).seq ret) skip))).seq (((ops 0 [cO 12 (cM 1),cO 13 (cB .lss (t 12) (cN 1)),cO 14 (cM 13),cG 15 14 false (cM 1),cG 16 14 false (cB .gtr (t 15) (cN 8)),cO 17 (pick (t 14) aH (t 16))]).seq (C2.cond (t 17) ((ops 0 [cO 4 (mov (c AV.esl)),cO 5 (mov (cN 2))]).seq ret) skip)).seq ((ops 0 [cO 18 (fa 0 (t 2)),cO 19 (cD 18),cO 20 (cM 1),cO 21 (call (cF 72) [t 19,t 20]),cO 22 (ext (t 21) 0),cO 23 (ext (t 21) 1),cO 4 (cM 22),cO 5 (cM 23)]).seq ret)))))
theorem zi:Is Tryz.prog 32 b32:=Is.mk' Tryz.func32 (by kernel_rfl)
def b34:F2:=(F2.mk 54 [RV.t 2] ((ops 0 [cO 1 (box (t 0)),cO 2 (mov (cN 0))]).seq ((block 0 ((ops 0 [cO 6 (fa 0 (t 1)),cO 7 (cD 6),cO 8 (lenS (t 7)),cO 9 (cB .gtr (t 8) (cN 4096)),cO 5 (cM 9)]).seq (C2.cond (t 5) ((ops 0 [cO 2 (mov (cN 5))]).seq ret) ((ops 0 [cO 11 (fa 1 (t 1)),cO 12 (cD 11),cO 13 (lenS (t 12)),cO 14 (fa 0 (t 1)),cO 15 (cD 14),cO 16 (lenS (t 15)),cO 17 (cB .neq (t 13) (t 16)),cO 10 (cM 17)]).seq (C2.cond (t 10) ((ops 0 [cO 2 (mov (cN 15))]).seq ret) skip))))).seq (((ops 0 [cO 18 (fa 0 (t 1)),cO 19 (cD 18),cO 20 (lenS (t 19)),cO 21 (mov (cN 0))]).seq (block 1 ((ops 0 [cO 22 (cB .lss (t 21) (t 20))]).seq ((C2.cond (t 22) skip (exit 1)).seq ((block 2 ((ops 0 [cO 23 (cM 21),cO 24 (ixaS 2 (t 19) (t 21)),cO 25 (ldn 2 (t 24)),cO 4 (alloc (AV.agg [AV.int IntKind.i64 (0),AV.int IntKind.i64 (0)])),cO 3 (cM 23),Op2.mk none none (Ins.st 2 (t 4) (t 25))]).seq (block 3 ((ops 0 [cO 27 (ldn 2 (t 4)),cO 28 (call (cF 73) [t 27]),cO 29 (un UnOp.not (t 28)),cO 30 (cM 29),cG 31 30 false (fa 1 (t 1)),cG 32 30 false (cD 31),cG 33 30 false (cM 3),cG 34 30 false (ixaS 2 (t 32) (t 33)),cG 35 30 false (ldn 2 (t 34)),cG 36 30 false (call (cF 73) [t 35]),cG 37 30 false (un UnOp.not (t 36)),cO 38 (pick (t 30) aH (t 37)),cO 26 (cM 38)]).seq (C2.cond (t 26) ((ops 0 [cO 2 (mov (cN 2))]).seq ret) ((mixS 1 [cO 40 (cM 3),cO 41 (cB .gtr (t 40) (cN 0)),cO 42 (cM 41),cG 43 42 true (fa 0 (t 1)),cG 44 42 true (cD 43),cG 45 42 true (cM 3),cG 46 42 true (cB .sub (t 45) (cN 1)),cG 47 42 true (ixaS 2 (t 44) (t 46)),cG 48 42 true (ldn 2 (t 47)),cG 49 42 true (ldn 2 (t 4)),cG 50 42 true (call (cF 74) [t 48,t 49]),cG 51 42 true (cB .geq (t 50) (cN 0)),cO 52 (pick (t 42) (t 51) au),cO 39 (cM 52)] [(0,0),(1,0),(2,0),(3,0),(4,0),(5,0),(6,0),(7,0),(8,0),(9,0),(10,2),(11,0),(12,0),(13,0)]).seq (C2.cond (t 39) ((ops 0 [cO 2 (mov (cN 14))]).seq ret) skip))))))).seq (ops 0 [cO 53 (cB .add (t 21) (cN 1)),cO 21 (cM 53)])))).loop)).seq ((ops 0 [cO 2 (mov (cN 0))]).seq ret)))))
theorem zy:Is Tryz.prog 34 b34:=Is.mk' Tryz.func34 (by kernel_rfl)
def b35:F2:=(F2.mk 24 [RV.t 4,RV.t 5] ((ops 0 [cO 4 (mov (c AV.esl)),cO 5 (mov (cN 0))]).seq (((ops 0 [cO 7 (cM 0),cO 8 (call (cF 64) [t 7]),cO 6 (cM 8)]).seq ((ops 0 [cO 9 (cM 6),cO 10 (cB .neq (t 9) (cN 0))]).seq (C2.cond (t 10) ((ops 0 [cO 11 (cM 6),cO 4 (mov (c AV.esl)),cO 5 (cM 11)]).seq ret) skip))).seq (((ops 0 [cO 12 (cM 1),cO 13 (cB .lss (t 12) (cN 1)),cO 14 (cM 13),cG 15 14 false (cM 1),cG 16 14 false (cM 0),cG 17 14 false (lenS (t 16)),cG 18 14 false (cB .gtr (t 15) (t 17)),cO 19 (pick (t 14) aH (t 18))]).seq (C2.cond (t 19) ((ops 0 [cO 4 (mov (c AV.esl)),cO 5 (mov (cN 2))]).seq ret) skip)).seq ((ops 0 [cO 20 (cM 0),cO 21 (cM 1),cO 22 (call (cF 76) [t 20,t 21]),cO 23 (call (cF 75) [t 22]),cO 4 (cM 23),cO 5 (mov (cN 0))]).seq ret)))))
theorem zT:Is Tryz.prog 35 b35:=Is.mk' Tryz.func35 (by kernel_rfl)
def b39:F2:=(F2.mk 19 [RV.t 2] ((ops 0 [cO 2 (mov au)]).seq (((ops 0 [cO 4 (cM 0),cO 5 (lenS (t 4)),cO 6 (cB .gtr (t 5) (cN 30))]).seq (C2.cond (t 6) ((ops 0 [cO 2 (mov au)]).seq ret) skip)).seq (((ops 0 [cO 3 (mov (cN 0))]).seq (block 0 (((ops 0 [cO 7 (cM 3),cO 8 (cM 0),cO 9 (lenS (t 8)),cO 10 (cB .lss (t 7) (t 9))]).seq (C2.cond (t 10) skip (exit 0))).seq ((block 1 ((ops 0 [cO 13 (cM 0),cO 14 (cM 3),cO 15 (ixaS 1 (t 13) (t 14)),cO 16 (cD 15),cO 17 (call (cF 22) [t 16]),cO 18 (un UnOp.not (t 17))]).seq (C2.cond (t 18) ((ops 0 [cO 2 (mov au)]).seq ret) skip))).seq (ops 0 [cO 11 (cM 3),cO 12 (cB .add (t 11) (cN 1)),cO 3 (cM 12)]))).loop)).seq ((ops 0 [cO 2 (mov aH)]).seq ret)))))
theorem B3:Is Tryz.prog 39 b39:=Is.mk' Tryz.func39 (by kernel_rfl)
def b40:F2:=(F2.mk 26 [RV.t 4] ((ops 0 [cO 4 (mov au)]).seq (((ops 0 [cO 6 (cM 0),cO 7 (lenS (t 6)),cO 8 (cM 1),cO 9 (lenS (t 8)),cO 10 (cB .neq (t 7) (t 9))]).seq (C2.cond (t 10) ((ops 0 [cO 4 (mov au)]).seq ret) skip)).seq (((ops 0 [cO 11 (cM 0),cO 12 (lenS (t 11)),cO 13 (mov (cN 0))]).seq (block 0 ((ops 0 [cO 14 (cB .lss (t 13) (t 12))]).seq ((C2.cond (t 14) skip (exit 0)).seq ((block 1 ((ops 0 [cO 15 (cM 13),cO 5 (cM 15)]).seq ((ops 1 [cO 16 (cM 0),cO 17 (cM 5),cO 18 (ixaS 2 (t 16) (t 17)),cO 19 (ldn 2 (t 18)),cO 20 (cM 1),cO 21 (cM 5),cO 22 (ixaS 2 (t 20) (t 21)),cO 23 (ldn 2 (t 22)),cO 24 (binS BinOp.neq [int,int] (t 19) (t 23))]).seq (C2.cond (t 24) ((ops 0 [cO 4 (mov au)]).seq ret) skip)))).seq (ops 0 [cO 25 (cB .add (t 13) (cN 1)),cO 13 (cM 25)])))).loop)).seq ((ops 0 [cO 4 (mov aH)]).seq ret)))))
theorem BH:Is Tryz.prog 40 b40:=Is.mk' Tryz.func40 (by kernel_rfl)
def b41:F2:=(F2.mk 31 [RV.t 2,RV.t 3] ((ops 0 [cO 1 (box (t 0)),cO 2 (mov (c AV.undef)),cO 3 (mov (cN 0))]).seq (((ops 0 [cO 8 (ldn 2 (t 1)),cO 9 (call (cF 34) [t 8]),cO 4 (cM 9)]).seq ((ops 0 [cO 10 (cM 4),cO 11 (cB .neq (t 10) (cN 0))]).seq (C2.cond (t 11) ((ops 0 [cO 12 (cM 4),cO 2 (mov (c AV.undef)),cO 3 (cM 12)]).seq ret) skip))).seq ((ops 0 [cO 13 (mkm none),cO 5 (cM 13)]).seq (((ops 0 [cO 14 (fa 0 (t 1)),cO 15 (cD 14),cO 16 (lenS (t 15)),cO 17 (mov (cN 0))]).seq (block 0 ((ops 0 [cO 18 (cB .lss (t 17) (t 16))]).seq ((C2.cond (t 18) skip (exit 0)).seq ((block 1 ((ops 0 [cO 19 (cM 17),cO 20 (ixaS 2 (t 15) (t 17)),cO 21 (ldn 2 (t 20)),cO 7 (alloc (AV.agg [AV.int IntKind.i64 (0),AV.int IntKind.i64 (0)])),cO 6 (cM 19),Op2.mk none none (Ins.st 2 (t 7) (t 21))]).seq (mixS 9 [cO 22 (cM 5),cO 23 (ldn 2 (t 7)),cO 24 (fa 1 (t 1)),cO 25 (cD 24),cO 26 (cM 6),cO 27 (ixaS 2 (t 25) (t 26)),cO 28 (ldn 2 (t 27)),Op2.mk none none (mput (MK.st [int,int]) (t 22) (t 23) (t 28))] [(0,0),(1,0),(2,0),(3,0),(4,0),(5,0),(6,0),(7,2)]))).seq (ops 0 [cO 29 (cB .add (t 17) (cN 1)),cO 17 (cM 29)])))).loop)).seq ((ops 0 [cO 30 (cM 5),cO 2 (cM 30),cO 3 (mov (cN 0))]).seq ret))))))
theorem AK:Is Tryz.prog 41 b41:=Is.mk' Tryz.func41 (by kernel_rfl)
def b42:F2:=(F2.mk 32 [RV.t 4,RV.t 5] ((ops 0 [cO 3 (box (t 1)),cO 4 (mov (c AV.esl)),cO 5 (mov au)]).seq ((ops 0 [cO 6 (mov (c AV.esl))]).seq (((ops 0 [cO 11 (fa 0 (t 3)),cO 12 (cD 11),cO 13 (lenS (t 12)),cO 14 (mov (cN 0))]).seq (block 0 ((ops 0 [cO 15 (cB .lss (t 14) (t 13))]).seq ((C2.cond (t 15) skip (exit 0)).seq ((block 1 ((ops 0 [cO 16 (ixaS 1 (t 12) (t 14)),cO 17 (cD 16),cO 8 (cM 17)]).seq ((ops 0 [cO 19 (cM 0),cO 20 (cM 8),cO 21 (call (cF 57) [t 19,t 20]),cO 18 (cM 21),cO 22 (ext (t 18) 0),cO 23 (ext (t 18) 1),cO 9 (cM 22),cO 10 (cM 23)]).seq (((ops 0 [cO 24 (cM 10),cO 25 (un UnOp.not (t 24))]).seq (C2.cond (t 25) ((ops 0 [cO 4 (mov (c AV.esl)),cO 5 (mov au)]).seq ret) skip)).seq (ops 0 [cO 26 (cM 6),cO 27 (cM 9),cO 28 (bldS 1 1 [AV.esl] [(0,1,t 27)]),cO 29 (app 1 24 (t 26) (t 28)),cO 6 (cM 29)]))))).seq (ops 0 [cO 30 (cB .add (t 14) (cN 1)),cO 14 (cM 30)])))).loop)).seq ((ops 0 [cO 31 (cM 6),cO 4 (cM 31),cO 5 (mov aH)]).seq ret)))))
theorem A8:Is Tryz.prog 42 b42:=Is.mk' Tryz.func42 (by kernel_rfl)
def b43:F2:=(F2.mk 9 [RV.t 4] ((ops 0 [cO 3 (box (t 1)),cO 4 (mov au)]).seq ((ops 0 [cO 5 (cM 0),cO 6 (mkfn 45 [t 3]),cO 7 (call (cF 44) [t 5,t 6]),cO 8 (un UnOp.not (t 7)),cO 4 (cM 8)]).seq ret)))
theorem zE:Is Tryz.prog 43 b43:=Is.mk' Tryz.func43 (by kernel_rfl)
def b44:F2:=(F2.mk 9 [RV.t 4] ((ops 0 [cO 4 (mov au)]).seq ((ops 0 [cO 5 (cM 0),cO 6 (cM 1),cO 7 (call (cF 84) [t 5,t 6]),cO 8 (cB .geq (t 7) (cN 0)),cO 4 (cM 8)]).seq ret)))
theorem zI:Is Tryz.prog 44 b44:=Is.mk' Tryz.func44 (by kernel_rfl)
def b45:F2:=(F2.mk 8 [RV.t 3] ((ops 0 [cO 2 (box (t 0)),cO 3 (mov au)]).seq ((ops 0 [cO 4 (cD 1),cO 5 (ldn 2 (t 2)),cO 6 (call (cF 46) [t 4,t 5]),cO 7 (un UnOp.not (t 6)),cO 3 (cM 7)]).seq ret)))
theorem zg:Is Tryz.prog 45 b45:=Is.mk' Tryz.func45 (by kernel_rfl)
def b46:F2:=(F2.mk 9 [RV.t 4] ((ops 0 [cO 3 (box (t 1)),cO 4 (mov au)]).seq ((ops 0 [cO 5 (cM 0),cO 6 (ldn 2 (t 3)),cO 7 (call (cF 85) [t 5,t 6]),cO 8 (cB .geq (t 7) (cN 0)),cO 4 (cM 8)]).seq ret)))
theorem zh:Is Tryz.prog 46 b46:=Is.mk' Tryz.func46 (by kernel_rfl)
def b47:F2:=(F2.mk 9 [RV.t 4] ((ops 0 [cO 4 (mov au)]).seq ((ops 0 [cO 5 (cM 0),cO 6 (cM 1),cO 7 (call (cF 86) [t 5,t 6]),cO 8 (cB .geq (t 7) (cN 0)),cO 4 (cM 8)]).seq ret)))
theorem Bl:Is Tryz.prog 47 b47:=Is.mk' Tryz.func47 (by kernel_rfl)
def b48:F2:=(F2.mk 10 [RV.t 4] ((ops 0 [cO 3 (box (t 0)),cO 4 (mov au)]).seq ((ops 0 [cO 5 (fa 0 (t 1)),cO 6 (cD 5),cO 7 (mkfn 49 [t 2,t 3]),cO 8 (call (cF 47) [t 6,t 7]),cO 9 (un UnOp.not (t 8)),cO 4 (cM 9)]).seq ret)))
theorem Bu:Is Tryz.prog 48 b48:=Is.mk' Tryz.func48 (by kernel_rfl)
def b49:F2:=(F2.mk 9 [RV.t 4] ((ops 0 [cO 4 (mov au)]).seq ((ops 0 [cO 5 (cD 1),cO 6 (cD 2),cO 7 (cM 0),cO 8 (call (t 5) [t 6,t 7]),cO 4 (cM 8)]).seq ret)))
theorem AU:Is Tryz.prog 49 b49:=Is.mk' Tryz.func49 (by kernel_rfl)
def b50:F2:=(F2.mk 55 [RV.t 2] ((ops 0 [cO 1 (box (t 0)),cO 2 (mov (cN 0))]).seq (((ops 0 [cO 4 (fa 0 (t 1)),cO 5 (cD 4),cO 6 (lenS (t 5)),cO 7 (cB .gtr (t 6) (cN 4096))]).seq (C2.cond (t 7) ((ops 0 [cO 2 (mov (cN 5))]).seq ret) skip)).seq (((ops 0 [cO 8 (fa 1 (t 1)),cO 9 (cD 8),cO 10 (lenS (t 9)),cO 11 (fa 0 (t 1)),cO 12 (cD 11),cO 13 (lenS (t 12)),cO 14 (cB .neq (t 10) (t 13))]).seq (C2.cond (t 14) ((ops 0 [cO 2 (mov (cN 15))]).seq ret) skip)).seq (((ops 0 [cO 3 (mov (cN 0))]).seq (block 0 (((ops 0 [cO 15 (cM 3),cO 16 (fa 0 (t 1)),cO 17 (cD 16),cO 18 (lenS (t 17)),cO 19 (cB .lss (t 15) (t 18))]).seq (C2.cond (t 19) skip (exit 0))).seq ((block 1 (((ops 0 [cO 22 (fa 0 (t 1)),cO 23 (cD 22),cO 24 (cM 3),cO 25 (ixaS 2 (t 23) (t 24)),cO 26 (ldn 2 (t 25)),cO 27 (call (cF 87) [t 26]),cO 28 (un UnOp.not (t 27)),cO 29 (cM 28),cG 30 29 false (fa 1 (t 1)),cG 31 29 false (cD 30),cG 32 29 false (cM 3),cG 33 29 false (ixaS 2 (t 31) (t 32)),cG 34 29 false (ldn 2 (t 33)),cG 35 29 false (call (cF 87) [t 34]),cG 36 29 false (un UnOp.not (t 35)),cO 37 (pick (t 29) aH (t 36))]).seq (C2.cond (t 37) ((ops 0 [cO 2 (mov (cN 2))]).seq ret) skip)).seq ((mixS 1 [cO 38 (cM 3),cO 39 (cB .gtr (t 38) (cN 0)),cO 40 (cM 39),cG 41 40 true (fa 0 (t 1)),cG 42 40 true (cD 41),cG 43 40 true (cM 3),cG 44 40 true (cB .sub (t 43) (cN 1)),cG 45 40 true (ixaS 2 (t 42) (t 44)),cG 46 40 true (ldn 2 (t 45)),cG 47 40 true (fa 0 (t 1)),cG 48 40 true (cD 47),cG 49 40 true (cM 3),cG 50 40 true (ixaS 2 (t 48) (t 49)),cG 51 40 true (ldn 2 (t 50)),cG 52 40 true (call (cF 88) [t 46,t 51]),cG 53 40 true (cB .geq (t 52) (cN 0)),cO 54 (pick (t 40) (t 53) au)] [(0,0),(1,0),(2,0),(3,0),(4,0),(5,0),(6,0),(7,0),(8,0),(9,0),(10,0),(11,0),(12,0),(13,0),(14,2),(15,0),(16,0)]).seq (C2.cond (t 54) ((ops 0 [cO 2 (mov (cN 14))]).seq ret) skip)))).seq (ops 0 [cO 20 (cM 3),cO 21 (cB .add (t 20) (cN 1)),cO 3 (cM 21)]))).loop)).seq ((ops 0 [cO 2 (mov (cN 0))]).seq ret))))))
theorem BM:Is Tryz.prog 50 b50:=Is.mk' Tryz.func50 (by kernel_rfl)
def b51:F2:=(F2.mk 68 [RV.t 2] ((ops 0 [cO 1 (box (t 0)),cO 2 (mov (cN 0))]).seq ((ops 0 [cO 8 (fa 0 (t 1)),cO 9 (cD 8),cO 3 (cM 9)]).seq (((ops 0 [cO 10 (cM 3),cO 11 (lenS (t 10)),cO 12 (cB .gtr (t 11) (cN 4096))]).seq (C2.cond (t 12) ((ops 0 [cO 2 (mov (cN 5))]).seq ret) skip)).seq (((ops 0 [cO 4 (mov (cN 0))]).seq (block 0 (((ops 0 [cO 13 (cM 4),cO 14 (cM 3),cO 15 (lenS (t 14)),cO 16 (cB .lss (t 13) (t 15))]).seq (C2.cond (t 16) skip (exit 0))).seq ((block 1 (((ops 0 [cO 19 (cM 3),cO 20 (cM 4),cO 21 (ixaS 1 (t 19) (t 20)),cO 22 (cD 21),cO 23 (call (cF 65) [t 22]),cO 5 (cM 23)]).seq ((ops 0 [cO 24 (cM 5),cO 25 (cB .neq (t 24) (cN 0))]).seq (C2.cond (t 25) ((ops 0 [cO 26 (cM 5),cO 2 (cM 26)]).seq ret) skip))).seq ((mixS 1 [cO 27 (cM 4),cO 28 (cB .gtr (t 27) (cN 0)),cO 29 (cM 28),cG 30 29 true (cM 3),cG 31 29 true (cM 4),cG 32 29 true (cB .sub (t 31) (cN 1)),cG 33 29 true (ixaS 1 (t 30) (t 32)),cG 34 29 true (cD 33),cG 35 29 true (cM 3),cG 36 29 true (cM 4),cG 37 29 true (ixaS 1 (t 35) (t 36)),cG 38 29 true (cD 37),cG 39 29 true (call (cF 62) [t 34,t 38]),cG 40 29 true (cB .geq (t 39) (cN 0)),cO 41 (pick (t 29) (t 40) au)] [(0,0),(1,0),(2,0),(3,0),(4,0),(5,0),(6,0),(7,0),(8,0),(9,0),(10,0),(11,0),(12,2),(13,0),(14,0)]).seq (C2.cond (t 41) ((ops 0 [cO 2 (mov (cN 14))]).seq ret) skip)))).seq (ops 0 [cO 17 (cM 4),cO 18 (cB .add (t 17) (cN 1)),cO 4 (cM 18)]))).loop)).seq (((ops 0 [cO 6 (mov (cN 0))]).seq (block 2 (((ops 0 [cO 42 (cM 6),cO 43 (cM 3),cO 44 (lenS (t 43)),cO 45 (cB .lss (t 42) (t 44))]).seq (C2.cond (t 45) skip (exit 2))).seq ((block 3 ((ops 0 [cO 7 (mov (cN 0))]).seq (block 4 (((ops 0 [cO 48 (cM 7),cO 49 (cM 3),cO 50 (lenS (t 49)),cO 51 (cB .lss (t 48) (t 50))]).seq (C2.cond (t 51) skip (exit 4))).seq ((block 5 ((mixS 1 [cO 54 (cM 6),cO 55 (cM 7),cO 56 (cB .neq (t 54) (t 55)),cO 57 (cM 56),cG 58 57 true (cM 3),cG 59 57 true (cM 6),cG 60 57 true (ixaS 1 (t 58) (t 59)),cG 61 57 true (cD 60),cG 62 57 true (cM 3),cG 63 57 true (cM 7),cG 64 57 true (ixaS 1 (t 62) (t 63)),cG 65 57 true (cD 64),cG 66 57 true (call (cF 89) [t 61,t 65]),cO 67 (pick (t 57) (t 66) au)] [(0,0),(1,0),(2,0),(3,0),(4,0),(5,0),(6,0),(7,0),(8,0),(9,0),(10,0),(11,0),(12,2),(13,0)]).seq (C2.cond (t 67) ((ops 0 [cO 2 (mov (cN 7))]).seq ret) skip))).seq (ops 0 [cO 52 (cM 7),cO 53 (cB .add (t 52) (cN 1)),cO 7 (cM 53)]))).loop))).seq (ops 0 [cO 46 (cM 6),cO 47 (cB .add (t 46) (cN 1)),cO 6 (cM 47)]))).loop)).seq ((ops 0 [cO 2 (mov (cN 0))]).seq ret)))))))
theorem Bx:Is Tryz.prog 51 b51:=Is.mk' Tryz.func51 (by kernel_rfl)
def b52:F2:=(F2.mk 19 [RV.t 4] ((ops 0 [cO 2 (box (t 0)),cO 4 (mov au)]).seq (((ops 0 [cO 5 (mov (cN 0))]).seq (block 0 (((ops 0 [cO 6 (cM 5),cO 7 (cM 1),cO 8 (lenS (t 7)),cO 9 (cB .lss (t 6) (t 8))]).seq (C2.cond (t 9) skip (exit 0))).seq ((block 1 ((mixS 1 [cO 12 (ldn 2 (t 2)),cO 13 (cM 1),cO 14 (cM 5),cO 15 (ixaS 2 (t 13) (t 14)),cO 16 (ldn 2 (t 15)),cO 17 (call (cF 56) [t 12,t 16]),cO 18 (cB .lss (t 17) (cN 0))] [(0,0),(1,0),(2,0),(3,0),(4,0),(5,2),(6,0)]).seq (C2.cond (t 18) ((ops 0 [cO 4 (mov au)]).seq ret) skip))).seq (ops 0 [cO 10 (cM 5),cO 11 (cB .add (t 10) (cN 1)),cO 5 (cM 11)]))).loop)).seq ((ops 0 [cO 4 (mov aH)]).seq ret))))
theorem B2:Is Tryz.prog 52 b52:=Is.mk' Tryz.func52 (by kernel_rfl)
def b53:F2:=(F2.mk 20 [RV.t 2] ((ops 0 [cO 1 (box (t 0)),cO 2 (mov (c AV.esl))]).seq ((ops 0 [cO 3 (mov (c AV.esl))]).seq (((ops 0 [cO 4 (mov (cN 0))]).seq (block 0 (((ops 0 [cO 5 (cM 4),cO 6 (fa 0 (t 1)),cO 7 (cD 6),cO 8 (lenS (t 7)),cO 9 (cB .lss (t 5) (t 8))]).seq (C2.cond (t 9) skip (exit 0))).seq ((block 1 (ops 0 [cO 12 (cM 3),cO 13 (fa 0 (t 1)),cO 14 (cD 13),cO 15 (cM 4),cO 16 (ixaS 1 (t 14) (t 15)),cO 17 (cD 16),cO 18 (call (cF 90) [t 12,t 17]),cO 3 (cM 18)])).seq (ops 0 [cO 10 (cM 4),cO 11 (cB .add (t 10) (cN 1)),cO 4 (cM 11)]))).loop)).seq ((ops 0 [cO 19 (cM 3),cO 2 (cM 19)]).seq ret)))))
theorem B0:Is Tryz.prog 53 b53:=Is.mk' Tryz.func53 (by kernel_rfl)
def b54:F2:=(F2.mk 25 [RV.t 4] ((ops 0 [cO 2 (box (t 0)),cO 3 (box (t 1)),cO 4 (mov (c AV.esl))]).seq ((ops 0 [cO 5 (mov (c AV.esl))]).seq (((ops 0 [cO 6 (mov (cN 0))]).seq (block 0 (((ops 0 [cO 7 (cM 6),cO 8 (fa 0 (t 3)),cO 9 (cD 8),cO 10 (lenS (t 9)),cO 11 (cB .lss (t 7) (t 10))]).seq (C2.cond (t 11) skip (exit 0))).seq ((block 1 (mixS 1 [cO 14 (cM 5),cO 15 (ldn 2 (t 2)),cO 16 (fa 0 (t 3)),cO 17 (cD 16),cO 18 (cM 6),cO 19 (ixaS 1 (t 17) (t 18)),cO 20 (cD 19),cO 21 (call (cF 61) [t 15,t 20]),cO 22 (bldS 1 1 [AV.esl] [(0,1,t 21)]),cO 23 (app 1 24 (t 14) (t 22)),cO 5 (cM 23)] [(0,0),(1,0),(2,0),(3,0),(4,0),(5,0),(6,0),(7,2),(8,2),(9,2),(10,0)])).seq (ops 0 [cO 12 (cM 6),cO 13 (cB .add (t 12) (cN 1)),cO 6 (cM 13)]))).loop)).seq ((ops 0 [cO 24 (cM 5),cO 4 (cM 24)]).seq ret)))))
theorem BR:Is Tryz.prog 54 b54:=Is.mk' Tryz.func54 (by kernel_rfl)
def b55:F2:=(F2.mk 20 [RV.t 4] ((ops 0 [cO 2 (box (t 0)),cO 4 (mov au)]).seq (((ops 0 [cO 5 (mov (cN 0))]).seq (block 0 (((ops 0 [cO 6 (cM 5),cO 7 (fa 0 (t 2)),cO 8 (cD 7),cO 9 (lenS (t 8)),cO 10 (cB .lss (t 6) (t 9))]).seq (C2.cond (t 10) skip (exit 0))).seq ((block 1 ((ops 0 [cO 13 (cM 1),cO 14 (fa 0 (t 2)),cO 15 (cD 14),cO 16 (cM 5),cO 17 (ixaS 1 (t 15) (t 16)),cO 18 (cD 17),cO 19 (call (cF 89) [t 13,t 18])]).seq (C2.cond (t 19) ((ops 0 [cO 4 (mov aH)]).seq ret) skip))).seq (ops 0 [cO 11 (cM 5),cO 12 (cB .add (t 11) (cN 1)),cO 5 (cM 12)]))).loop)).seq ((ops 0 [cO 4 (mov au)]).seq ret))))
theorem BE:Is Tryz.prog 55 b55:=Is.mk' Tryz.func55 (by kernel_rfl)
def b56:F2:=(F2.mk 21 [RV.t 4] ((ops 0 [cO 2 (box (t 0)),cO 3 (box (t 1)),cO 4 (mov (cN 0))]).seq (((ops 0 [cO 5 (mov (cN 0))]).seq (block 0 (((ops 0 [cO 6 (cM 5),cO 7 (fa 0 (t 2)),cO 8 (cD 7),cO 9 (lenS (t 8)),cO 10 (cB .lss (t 6) (t 9))]).seq (C2.cond (t 10) skip (exit 0))).seq ((block 1 ((ops 1 [cO 13 (fa 0 (t 2)),cO 14 (cD 13),cO 15 (cM 5),cO 16 (ixaS 2 (t 14) (t 15)),cO 17 (ldn 2 (t 16)),cO 18 (ldn 2 (t 3)),cO 19 (binS BinOp.eql [int,int] (t 17) (t 18))]).seq (C2.cond (t 19) ((ops 0 [cO 20 (cM 5),cO 4 (cM 20)]).seq ret) skip))).seq (ops 0 [cO 11 (cM 5),cO 12 (cB .add (t 11) (cN 1)),cO 5 (cM 12)]))).loop)).seq ((ops 0 [cO 4 (mov (cN ((-1))))]).seq ret))))
theorem BZ:Is Tryz.prog 56 b56:=Is.mk' Tryz.func56 (by kernel_rfl)
def b57:F2:=(F2.mk 34 [RV.t 4,RV.t 5] ((ops 0 [cO 4 (mov (c AV.esl)),cO 5 (mov au)]).seq ((ops 0 [cO 6 (mov (c AV.esl))]).seq (((ops 0 [cO 11 (cM 1),cO 12 (lenS (t 11)),cO 13 (mov (cN 0))]).seq (block 0 ((ops 0 [cO 14 (cB .lss (t 13) (t 12))]).seq ((C2.cond (t 14) skip (exit 0)).seq ((block 1 ((ops 0 [cO 15 (ixaS 2 (t 11) (t 13)),cO 16 (ldn 2 (t 15)),cO 8 (alloc (AV.agg [AV.int IntKind.i64 (0),AV.int IntKind.i64 (0)])),Op2.mk none none (Ins.st 2 (t 8) (t 16))]).seq ((ops 0 [cO 18 (cM 0),cO 19 (ldn 2 (t 8)),cO 20 (Ins.mget (MK.st [int,int]) (AV.agg [AV.int IntKind.i64 (0),AV.int IntKind.i64 (0)]) true (t 18) (t 19)),cO 17 (cM 20),cO 21 (ext (t 17) 0),cO 22 (ext (t 17) 1),cO 9 (alloc (AV.agg [AV.int IntKind.i64 (0),AV.int IntKind.i64 (0)])),Op2.mk none none (Ins.st 2 (t 9) (t 21)),cO 10 (cM 22)]).seq (((ops 0 [cO 23 (cM 10),cO 24 (un UnOp.not (t 23))]).seq (C2.cond (t 24) ((ops 0 [cO 4 (mov (c AV.esl)),cO 5 (mov au)]).seq ret) skip)).seq (ops 0 [cO 25 (cM 6),cO 26 (ldn 2 (t 9)),cO 27 (bldS 2 1 [AV.int IntKind.i64 (0),AV.int IntKind.i64 (0)] [(0,2,t 26)]),cO 28 (app 2 16 (t 25) (t 27)),cO 6 (cM 28)]))))).seq (ops 0 [cO 29 (cB .add (t 13) (cN 1)),cO 13 (cM 29)])))).loop)).seq ((ops 0 [cO 30 (cM 6),cO 31 (call (cF 91) [t 30,c (AV.func 74 [])])]).seq ((ops 0 [cO 32 (cM 6),cO 33 (call (cF 92) [t 32]),cO 4 (cM 33),cO 5 (mov aH)]).seq ret))))))
theorem AR:Is Tryz.prog 57 b57:=Is.mk' Tryz.func57 (by kernel_rfl)
def b58:F2:=(F2.mk 14 [RV.t 6,RV.t 7] ((ops 0 [cO 6 (mov (cN 0)),cO 7 (mov au)]).seq ((ops 0 [cO 8 (cM 0),cO 9 (cM 1),cO 10 (cM 2),cO 11 (call (cF 93) [t 8,t 9,t 10]),cO 12 (ext (t 11) 0),cO 13 (ext (t 11) 1),cO 6 (cM 12),cO 7 (cM 13)]).seq ret)))
theorem zR:Is Tryz.prog 58 b58:=Is.mk' Tryz.func58 (by kernel_rfl)
def b59:F2:=(F2.mk 8 [RV.t 4] ((ops 0 [cO 4 (mov (cN 0))]).seq ((ops 0 [cO 5 (cM 0),cO 6 (cM 1),cO 7 (call (cF 94) [t 5,t 6,c (AV.func 95 [])]),cO 4 (cM 7)]).seq ret)))
theorem Bi:Is Tryz.prog 59 b59:=Is.mk' Tryz.func59 (by kernel_rfl)
def b60:F2:=(F2.mk 26 [RV.t 4,RV.t 5] ((ops 0 [cO 2 (box (t 0)),cO 4 (mov (c AV.esl)),cO 5 (mov (cN 0))]).seq (((ops 0 [cO 8 (ldn 1 (t 2)),cO 9 (call (cF 51) [t 8]),cO 6 (cM 9)]).seq ((ops 0 [cO 10 (cM 6),cO 11 (cB .neq (t 10) (cN 0))]).seq (C2.cond (t 11) ((ops 0 [cO 12 (cM 6),cO 4 (mov (c AV.esl)),cO 5 (cM 12)]).seq ret) skip))).seq (((ops 0 [cO 13 (cM 1),cO 14 (cB .lss (t 13) (cN 1)),cO 15 (cM 14),cG 16 15 false (cM 1),cG 17 15 false (cB .gtr (t 16) (cN 8)),cO 18 (pick (t 15) aH (t 17))]).seq (C2.cond (t 18) ((ops 0 [cO 4 (mov (c AV.esl)),cO 5 (mov (cN 2))]).seq ret) skip)).seq ((ops 0 [cO 19 (ldn 1 (t 2)),cO 20 (cM 1),cO 21 (call (cF 96) [t 19,t 20]),cO 7 (cM 21)]).seq (((ops 0 [cO 22 (cM 7),cO 23 (lenS (t 22)),cO 24 (cB .gtr (t 23) (cN 4096))]).seq (C2.cond (t 24) ((ops 0 [cO 4 (mov (c AV.esl)),cO 5 (mov (cN 17))]).seq ret) skip)).seq ((ops 0 [cO 25 (cM 7),cO 4 (cM 25),cO 5 (mov (cN 0))]).seq ret)))))))
theorem BK:Is Tryz.prog 60 b60:=Is.mk' Tryz.func60 (by kernel_rfl)
def b61:F2:=(F2.mk 32 [RV.t 4] ((ops 0 [cO 2 (box (t 0)),cO 4 (mov (c AV.esl))]).seq ((ops 0 [cO 5 (mov (c AV.esl))]).seq (((ops 0 [cO 6 (mov (cN 0))]).seq (block 0 (((ops 0 [cO 8 (cM 6),cO 9 (cM 1),cO 10 (lenS (t 9)),cO 11 (cB .lss (t 8) (t 10))]).seq (C2.cond (t 11) skip (exit 0))).seq ((block 1 ((ops 1 [cO 14 (fa 1 (t 2)),cO 15 (cD 14),cO 16 (ldn 2 (t 2)),cO 17 (cM 1),cO 18 (cM 6),cO 19 (ixaS 2 (t 17) (t 18)),cO 20 (ldn 2 (t 19)),cO 21 (call (cF 56) [t 16,t 20]),cO 22 (ixaS 2 (t 15) (t 21)),cO 23 (ldn 2 (t 22)),cO 7 (alloc (AV.agg [AV.int IntKind.i64 (0),AV.int IntKind.i64 (0)])),Op2.mk none none (Ins.st 2 (t 7) (t 23))]).seq ((ops 0 [cO 24 (cM 5),cO 25 (ldn 2 (t 7)),cO 26 (call (cF 97) [t 24,t 25]),cO 27 (un UnOp.not (t 26))]).seq (C2.cond (t 27) (ops 0 [cO 28 (cM 5),cO 29 (ldn 2 (t 7)),cO 30 (call (cF 98) [t 28,t 29]),cO 5 (cM 30)]) skip)))).seq (ops 0 [cO 12 (cM 6),cO 13 (cB .add (t 12) (cN 1)),cO 6 (cM 13)]))).loop)).seq ((ops 0 [cO 31 (cM 5),cO 4 (cM 31)]).seq ret)))))
theorem BD:Is Tryz.prog 61 b61:=Is.mk' Tryz.func61 (by kernel_rfl)
def b62:F2:=(F2.mk 43 [RV.t 4] ((ops 0 [cO 4 (mov (cN 0))]).seq (((ops 0 [cO 5 (mov (cN 0))]).seq (block 0 (((ops 0 [cO 7 (cM 5),cO 8 (cM 0),cO 9 (lenS (t 8)),cO 10 (cB .lss (t 7) (t 9)),cO 11 (cM 10),cG 12 11 true (cM 5),cG 13 11 true (cM 1),cG 14 11 true (lenS (t 13)),cG 15 11 true (cB .lss (t 12) (t 14)),cO 16 (pick (t 11) (t 15) au)]).seq (C2.cond (t 16) skip (exit 0))).seq ((block 1 ((mixS 1 [cO 19 (cM 0),cO 20 (cM 5),cO 21 (ixaS 2 (t 19) (t 20)),cO 22 (ldn 2 (t 21)),cO 23 (cM 1),cO 24 (cM 5),cO 25 (ixaS 2 (t 23) (t 24)),cO 26 (ldn 2 (t 25)),cO 27 (call (cF 88) [t 22,t 26]),cO 6 (cM 27)] [(0,0),(1,0),(2,0),(3,0),(4,0),(5,0),(6,0),(7,0),(8,2),(9,0)]).seq ((ops 0 [cO 28 (cM 6),cO 29 (cB .neq (t 28) (cN 0))]).seq (C2.cond (t 29) ((ops 0 [cO 30 (cM 6),cO 4 (cM 30)]).seq ret) skip)))).seq (ops 0 [cO 17 (cM 5),cO 18 (cB .add (t 17) (cN 1)),cO 5 (cM 18)]))).loop)).seq ((block 2 ((ops 0 [cO 32 (cM 0),cO 33 (lenS (t 32)),cO 34 (cM 1),cO 35 (lenS (t 34)),cO 36 (cB .lss (t 33) (t 35)),cO 31 (cM 36)]).seq (C2.cond (t 31) ((ops 0 [cO 4 (mov (cN ((-1))))]).seq ret) ((ops 0 [cO 38 (cM 0),cO 39 (lenS (t 38)),cO 40 (cM 1),cO 41 (lenS (t 40)),cO 42 (cB .gtr (t 39) (t 41)),cO 37 (cM 42)]).seq (C2.cond (t 37) ((ops 0 [cO 4 (mov (cN 1))]).seq ret) skip))))).seq ((ops 0 [cO 4 (mov (cN 0))]).seq ret)))))
theorem zv:Is Tryz.prog 62 b62:=Is.mk' Tryz.func62 (by kernel_rfl)
def b63:F2:=(F2.mk 26 [RV.t 4] ((ops 0 [cO 4 (mov au)]).seq (((ops 0 [cO 6 (cM 0),cO 7 (lenS (t 6)),cO 8 (cM 1),cO 9 (lenS (t 8)),cO 10 (cB .neq (t 7) (t 9))]).seq (C2.cond (t 10) ((ops 0 [cO 4 (mov au)]).seq ret) skip)).seq (((ops 0 [cO 5 (mov (cN 0))]).seq (block 0 (((ops 0 [cO 11 (cM 5),cO 12 (cM 0),cO 13 (lenS (t 12)),cO 14 (cB .lss (t 11) (t 13))]).seq (C2.cond (t 14) skip (exit 0))).seq ((block 1 ((ops 1 [cO 17 (cM 0),cO 18 (cM 5),cO 19 (ixaS 1 (t 17) (t 18)),cO 20 (cD 19),cO 21 (cM 1),cO 22 (cM 5),cO 23 (ixaS 1 (t 21) (t 22)),cO 24 (cD 23),cO 25 (cB .neq (t 20) (t 24))]).seq (C2.cond (t 25) ((ops 0 [cO 4 (mov au)]).seq ret) skip))).seq (ops 0 [cO 15 (cM 5),cO 16 (cB .add (t 15) (cN 1)),cO 5 (cM 16)]))).loop)).seq ((ops 0 [cO 4 (mov aH)]).seq ret)))))
theorem z8:Is Tryz.prog 63 b63:=Is.mk' Tryz.func63 (by kernel_rfl)
def b64:F2:=(F2.mk 36 [RV.t 2] ((ops 0 [cO 2 (mov (cN 0))]).seq ((block 0 ((ops 0 [cO 6 (cM 0),cO 7 (lenS (t 6)),cO 8 (cB .eql (t 7) (cN 0)),cO 5 (cM 8)]).seq (C2.cond (t 5) ((ops 0 [cO 2 (mov (cN 16))]).seq ret) ((ops 0 [cO 10 (cM 0),cO 11 (lenS (t 10)),cO 12 (cB .gtr (t 11) (cN 8)),cO 9 (cM 12)]).seq (C2.cond (t 9) ((ops 0 [cO 2 (mov (cN 5))]).seq ret) skip))))).seq (((ops 0 [cO 13 (cM 0),cO 14 (lenS (t 13)),cO 15 (mov (cN 0))]).seq (block 1 ((ops 0 [cO 16 (cB .lss (t 15) (t 14))]).seq ((C2.cond (t 16) skip (exit 1)).seq ((block 2 ((ops 0 [cO 17 (cM 15),cO 18 (ixaS 2 (t 13) (t 15)),cO 19 (ldn 2 (t 18)),cO 4 (alloc (AV.agg [AV.int IntKind.i64 (0),AV.int IntKind.i64 (0)])),cO 3 (cM 17),Op2.mk none none (Ins.st 2 (t 4) (t 19))]).seq (((ops 0 [cO 20 (ldn 2 (t 4)),cO 21 (call (cF 99) [t 20]),cO 22 (un UnOp.not (t 21))]).seq (C2.cond (t 22) ((ops 0 [cO 2 (mov (cN 2))]).seq ret) skip)).seq ((mixS 1 [cO 23 (cM 3),cO 24 (cB .gtr (t 23) (cN 0)),cO 25 (cM 24),cG 26 25 true (cM 0),cG 27 25 true (cM 3),cG 28 25 true (cB .sub (t 27) (cN 1)),cG 29 25 true (ixaS 2 (t 26) (t 28)),cG 30 25 true (ldn 2 (t 29)),cG 31 25 true (ldn 2 (t 4)),cG 32 25 true (call (cF 95) [t 30,t 31]),cG 33 25 true (cB .geq (t 32) (cN 0)),cO 34 (pick (t 25) (t 33) au)] [(0,0),(1,0),(2,0),(3,0),(4,0),(5,0),(6,0),(7,0),(8,0),(9,2),(10,0),(11,0)]).seq (C2.cond (t 34) ((ops 0 [cO 2 (mov (cN 14))]).seq ret) skip))))).seq (ops 0 [cO 35 (cB .add (t 15) (cN 1)),cO 15 (cM 35)])))).loop)).seq ((ops 0 [cO 2 (mov (cN 0))]).seq ret)))))
theorem zf:Is Tryz.prog 64 b64:=Is.mk' Tryz.func64 (by kernel_rfl)
def b65:F2:=(F2.mk 39 [RV.t 2] ((ops 0 [cO 2 (mov (cN 0))]).seq ((block 0 ((ops 0 [cO 5 (cM 0),cO 6 (lenS (t 5)),cO 7 (cB .eql (t 6) (cN 0)),cO 4 (cM 7)]).seq (C2.cond (t 4) ((ops 0 [cO 2 (mov (cN 16))]).seq ret) ((ops 0 [cO 9 (cM 0),cO 10 (lenS (t 9)),cO 11 (cB .gtr (t 10) (cN 8)),cO 8 (cM 11)]).seq (C2.cond (t 8) ((ops 0 [cO 2 (mov (cN 5))]).seq ret) skip))))).seq (((ops 0 [cO 3 (mov (cN 0))]).seq (block 1 (((ops 0 [cO 12 (cM 3),cO 13 (cM 0),cO 14 (lenS (t 13)),cO 15 (cB .lss (t 12) (t 14))]).seq (C2.cond (t 15) skip (exit 1))).seq ((block 2 (((ops 0 [cO 18 (cM 0),cO 19 (cM 3),cO 20 (ixaS 2 (t 18) (t 19)),cO 21 (ldn 2 (t 20)),cO 22 (call (cF 87) [t 21]),cO 23 (un UnOp.not (t 22))]).seq (C2.cond (t 23) ((ops 0 [cO 2 (mov (cN 2))]).seq ret) skip)).seq ((mixS 1 [cO 24 (cM 3),cO 25 (cB .gtr (t 24) (cN 0)),cO 26 (cM 25),cG 27 26 true (cM 0),cG 28 26 true (cM 3),cG 29 26 true (cB .sub (t 28) (cN 1)),cG 30 26 true (ixaS 2 (t 27) (t 29)),cG 31 26 true (ldn 2 (t 30)),cG 32 26 true (cM 0),cG 33 26 true (cM 3),cG 34 26 true (ixaS 2 (t 32) (t 33)),cG 35 26 true (ldn 2 (t 34)),cG 36 26 true (call (cF 88) [t 31,t 35]),cG 37 26 true (cB .geq (t 36) (cN 0)),cO 38 (pick (t 26) (t 37) au)] [(0,0),(1,0),(2,0),(3,0),(4,0),(5,0),(6,0),(7,0),(8,0),(9,0),(10,0),(11,0),(12,2),(13,0),(14,0)]).seq (C2.cond (t 38) ((ops 0 [cO 2 (mov (cN 14))]).seq ret) skip)))).seq (ops 0 [cO 16 (cM 3),cO 17 (cB .add (t 16) (cN 1)),cO 3 (cM 17)]))).loop)).seq ((ops 0 [cO 2 (mov (cN 0))]).seq ret)))))
theorem BB:Is Tryz.prog 65 b65:=Is.mk' Tryz.func65 (by kernel_rfl)
def b69:F2:=(F2.mk 33 [RV.t 2] ((ops 0 [cO 2 (mov (c AV.undef))]).seq ((ops 0 [cO 8 (mkm none),cO 3 (cM 8)]).seq (((ops 0 [cO 9 (cM 0),cO 10 (lenS (t 9)),cO 11 (mov (cN 0))]).seq (block 0 ((ops 0 [cO 12 (cB .lss (t 11) (t 10))]).seq ((C2.cond (t 12) skip (exit 0)).seq ((block 1 ((ops 0 [cO 13 (cM 11),cO 14 (ixaS 1 (t 9) (t 11)),cO 15 (cD 14),cO 4 (cM 13),cO 5 (cM 15)]).seq ((ops 0 [cO 16 (cM 5),cO 17 (lenS (t 16)),cO 18 (mov (cN 0))]).seq (block 2 ((ops 0 [cO 19 (cB .lss (t 18) (t 17))]).seq ((C2.cond (t 19) skip (exit 2)).seq ((block 3 ((ops 0 [cO 20 (ixaS 2 (t 16) (t 18)),cO 21 (ldn 2 (t 20)),cO 7 (alloc (AV.agg [AV.int IntKind.i64 (0),AV.int IntKind.i64 (0)])),Op2.mk none none (Ins.st 2 (t 7) (t 21))]).seq (ops 0 [cO 22 (cM 3),cO 23 (ldn 2 (t 7)),cO 25 (cM 4),cO 26 (bldS 1 1 [AV.int IntKind.i64 (0)] [(0,1,t 25)]),cO 27 (mplc (MK.st [int,int]) AV.esl (t 22) (t 23)),cO 24 (ext (t 27) 0),cO 28 (app 1 8 (t 24) (t 26)),cO 29 (ext (t 27) 1),Op2.mk none none (mpst (t 22) (t 29) (t 28))]))).seq (ops 0 [cO 30 (cB .add (t 18) (cN 1)),cO 18 (cM 30)])))).loop)))).seq (ops 0 [cO 31 (cB .add (t 11) (cN 1)),cO 11 (cM 31)])))).loop)).seq ((ops 0 [cO 32 (cM 3),cO 2 (cM 32)]).seq ret)))))
theorem A7:Is Tryz.prog 69 b69:=Is.mk' Tryz.func69 (by kernel_rfl)
def b70:F2:=(F2.mk 10 [RV.t 6] ((ops 0 [cO 3 (box (t 0)),cO 5 (box (t 2)),cO 6 (mov au)]).seq ((ops 0 [cO 7 (cM 1),cO 8 (mkfn 104 [t 3,t 5]),cO 9 (call (cF 103) [t 7,t 8]),cO 6 (cM 9)]).seq ret)))
theorem Bn:Is Tryz.prog 70 b70:=Is.mk' Tryz.func70 (by kernel_rfl)
def b72:F2:=(F2.mk 60 [RV.t 4,RV.t 5] ((ops 0 [cO 4 (mov (c AV.esl)),cO 5 (mov (cN 0))]).seq ((ops 0 [cO 14 (mkm none),cO 6 (cM 14)]).seq ((ops 0 [cO 7 (mov (c AV.esl))]).seq (((ops 0 [cO 15 (cM 0),cO 16 (lenS (t 15)),cO 17 (mov (cN 0))]).seq (block 0 ((ops 0 [cO 18 (cB .lss (t 17) (t 16))]).seq ((C2.cond (t 18) skip (exit 0)).seq ((block 1 ((ops 0 [cO 19 (ixaS 1 (t 15) (t 17)),cO 20 (cD 19),cO 9 (cM 20)]).seq (((ops 0 [cO 21 (cM 9),cO 22 (lenS (t 21)),cO 23 (cM 1),cO 24 (cB .lss (t 22) (t 23))]).seq (C2.cond (t 24) (exit 1) skip)).seq ((ops 0 [cO 26 (cM 9),cO 27 (cM 1),cO 28 (call (cF 35) [t 26,t 27]),cO 25 (cM 28),cO 29 (ext (t 25) 0),cO 30 (ext (t 25) 1),cO 10 (cM 29),cO 11 (cM 30)]).seq (((ops 0 [cO 31 (cM 11),cO 32 (cB .neq (t 31) (cN 0))]).seq (C2.cond (t 32) ((ops 0 [cO 33 (cM 11),cO 4 (mov (c AV.esl)),cO 5 (cM 33)]).seq ret) skip)).seq (((ops 0 [cO 34 (cM 10),cO 35 (lenS (t 34)),cO 36 (mov (cN 0))]).seq (block 2 ((ops 0 [cO 37 (cB .lss (t 36) (t 35))]).seq ((C2.cond (t 37) skip (exit 2)).seq ((block 3 ((ops 0 [cO 38 (ixaS 1 (t 34) (t 36)),cO 39 (cD 38),cO 13 (cM 39)]).seq ((ops 0 [cO 40 (cM 6),cO 41 (cM 13),cO 42 (call (cF 108) [t 41]),cO 43 (Ins.mget (MK.st [int,int,int,int,int,int,int,int,int,int,int,int,int,int,int,int]) (AV.bool false) false (t 40) (t 42)),cO 44 (un UnOp.not (t 43))]).seq (C2.cond (t 44) ((ops 0 [cO 45 (cM 6),cO 46 (cM 13),cO 47 (call (cF 108) [t 46]),Op2.mk none none (mput (MK.st [int,int,int,int,int,int,int,int,int,int,int,int,int,int,int,int]) (t 45) (t 47) aH)]).seq (ops 0 [cO 48 (cM 7),cO 49 (cM 13),cO 50 (bldS 1 1 [AV.esl] [(0,1,t 49)]),cO 51 (app 1 24 (t 48) (t 50)),cO 7 (cM 51)])) skip)))).seq (ops 0 [cO 52 (cB .add (t 36) (cN 1)),cO 36 (cM 52)])))).loop)).seq ((ops 0 [cO 53 (cM 7),cO 54 (lenS (t 53)),cO 55 (cB .gtr (t 54) (cN 4096))]).seq (C2.cond (t 55) ((ops 0 [cO 4 (mov (c AV.esl)),cO 5 (mov (cN 17))]).seq ret) skip)))))))).seq (ops 0 [cO 56 (cB .add (t 17) (cN 1)),cO 17 (cM 56)])))).loop)).seq ((ops 0 [cO 57 (cM 7),cO 58 (call (cF 109) [t 57,c (AV.func 59 [])])]).seq ((ops 0 [cO 59 (cM 7),cO 4 (cM 59),cO 5 (mov (cN 0))]).seq ret)))))))
theorem AA:Is Tryz.prog 72 b72:=Is.mk' Tryz.func72 (by kernel_rfl)
def b73:F2:=(F2.mk 21 [RV.t 2] ((ops 0 [cO 1 (box (t 0)),cO 2 (mov au)]).seq ((ops 0 [cO 3 (fa 0 (t 1)),cO 4 (cD 3),cO 5 (cB .geq (t 4) (cN 0)),cO 6 (cM 5),cG 7 6 true (fa 0 (t 1)),cG 8 6 true (cD 7),cG 9 6 true (cB .lss (t 8) (cN 8)),cO 10 (pick (t 6) (t 9) au),cO 11 (cM 10),cG 12 11 true (fa 1 (t 1)),cG 13 11 true (cD 12),cG 14 11 true (cB .geq (t 13) (cN 0)),cO 15 (pick (t 11) (t 14) au),cO 16 (cM 15),cG 17 16 true (fa 1 (t 1)),cG 18 16 true (cD 17),cG 19 16 true (cB .leq (t 18) (cN 1048576)),cO 20 (pick (t 16) (t 19) au),cO 2 (cM 20)]).seq ret)))
theorem Ae:Is Tryz.prog 73 b73:=Is.mk' Tryz.func73 (by kernel_rfl)
def b74:F2:=(F2.mk 17 [RV.t 4] ((ops 0 [cO 2 (box (t 0)),cO 3 (box (t 1)),cO 4 (mov (cN 0))]).seq ((mixS 1 [cO 5 (fa 0 (t 2)),cO 6 (cD 5),cO 7 (fa 0 (t 3)),cO 8 (cD 7),cO 9 (call (cF 111) [t 6,t 8]),cO 10 (fa 1 (t 2)),cO 11 (cD 10),cO 12 (fa 1 (t 3)),cO 13 (cD 12),cO 14 (call (cF 111) [t 11,t 13]),cO 15 (bldS 1 2 [AV.int IntKind.i64 (0)] [(0,1,t 9),(1,1,t 14)]),cO 16 (call (cF 110) [t 15]),cO 4 (cM 16)] [(0,0),(1,0),(2,0),(3,0),(5,0),(6,0),(7,0),(8,0),(4,1),(9,2),(10,2),(11,2),(12,0)]).seq ret)))
theorem zl:Is Tryz.prog 74 b74:=Is.mk' Tryz.func74 (by kernel_rfl)
def b75:F2:=(F2.mk 5 [RV.t 2] ((ops 0 [cO 2 (mov (c AV.esl))]).seq ((ops 0 [cO 3 (cM 0),cO 4 (call (cF 112) [c AV.esl,t 3]),cO 2 (cM 4)]).seq ret)))
theorem zp:Is Tryz.prog 75 b75:=Is.mk' Tryz.func75 (by kernel_rfl)
def b76:F2:=(F2.mk 6 [RV.t 4] ((ops 0 [cO 2 (box (t 0)),cO 3 (box (t 1)),cO 4 (mov (c AV.nilf))]).seq ((ops 0 [cO 5 (mkfn 113 [t 3,t 2]),cO 4 (cM 5)]).seq ret)))
theorem Ar:Is Tryz.prog 76 b76:=Is.mk' Tryz.func76 (by kernel_rfl)
def b84:F2:=(F2.mk 19 [RV.t 4] ((ops 0 [cO 4 (mov (cN 0))]).seq (((ops 0 [cO 6 (cM 0),cO 7 (lenS (t 6)),cO 8 (mov (cN 0))]).seq (block 0 ((ops 0 [cO 9 (cB .lss (t 8) (t 7))]).seq ((C2.cond (t 9) skip (exit 0)).seq ((block 1 ((ops 0 [cO 10 (cM 8),cO 5 (cM 10)]).seq ((ops 0 [cO 11 (cM 1),cO 12 (cM 0),cO 13 (cM 5),cO 14 (ixaS 2 (t 12) (t 13)),cO 15 (ldn 2 (t 14)),cO 16 (call (t 11) [t 15])]).seq (C2.cond (t 16) ((ops 0 [cO 17 (cM 5),cO 4 (cM 17)]).seq ret) skip)))).seq (ops 0 [cO 18 (cB .add (t 8) (cN 1)),cO 8 (cM 18)])))).loop)).seq ((ops 0 [cO 4 (mov (cN ((-1))))]).seq ret))))
theorem z7:Is Tryz.prog 84 b84:=Is.mk' Tryz.func84 (by kernel_rfl)
def b85:F2:=(F2.mk 19 [RV.t 4] ((ops 0 [cO 3 (box (t 1)),cO 4 (mov (cN 0))]).seq (((ops 0 [cO 6 (cM 0),cO 7 (lenS (t 6)),cO 8 (mov (cN 0))]).seq (block 0 ((ops 0 [cO 9 (cB .lss (t 8) (t 7))]).seq ((C2.cond (t 9) skip (exit 0)).seq ((block 1 ((ops 0 [cO 10 (cM 8),cO 5 (cM 10)]).seq ((ops 1 [cO 11 (ldn 2 (t 3)),cO 12 (cM 0),cO 13 (cM 5),cO 14 (ixaS 2 (t 12) (t 13)),cO 15 (ldn 2 (t 14)),cO 16 (binS BinOp.eql [int,int] (t 11) (t 15))]).seq (C2.cond (t 16) ((ops 0 [cO 17 (cM 5),cO 4 (cM 17)]).seq ret) skip)))).seq (ops 0 [cO 18 (cB .add (t 8) (cN 1)),cO 8 (cM 18)])))).loop)).seq ((ops 0 [cO 4 (mov (cN ((-1))))]).seq ret))))
theorem Bm:Is Tryz.prog 85 b85:=Is.mk' Tryz.func85 (by kernel_rfl)
def b86:F2:=(F2.mk 19 [RV.t 4] ((ops 0 [cO 4 (mov (cN 0))]).seq (((ops 0 [cO 6 (cM 0),cO 7 (lenS (t 6)),cO 8 (mov (cN 0))]).seq (block 0 ((ops 0 [cO 9 (cB .lss (t 8) (t 7))]).seq ((C2.cond (t 9) skip (exit 0)).seq ((block 1 ((ops 0 [cO 10 (cM 8),cO 5 (cM 10)]).seq ((ops 0 [cO 11 (cM 1),cO 12 (cM 0),cO 13 (cM 5),cO 14 (ixaS 1 (t 12) (t 13)),cO 15 (cD 14),cO 16 (call (t 11) [t 15])]).seq (C2.cond (t 16) ((ops 0 [cO 17 (cM 5),cO 4 (cM 17)]).seq ret) skip)))).seq (ops 0 [cO 18 (cB .add (t 8) (cN 1)),cO 8 (cM 18)])))).loop)).seq ((ops 0 [cO 4 (mov (cN ((-1))))]).seq ret))))
theorem zU:Is Tryz.prog 86 b86:=Is.mk' Tryz.func86 (by kernel_rfl)
def b87:F2:=(F2.mk 21 [RV.t 2] ((ops 0 [cO 1 (box (t 0)),cO 2 (mov au)]).seq ((ops 0 [cO 3 (fa 0 (t 1)),cO 4 (cD 3),cO 5 (cB .geq (t 4) (cN 0)),cO 6 (cM 5),cG 7 6 true (fa 0 (t 1)),cG 8 6 true (cD 7),cG 9 6 true (cB .lss (t 8) (cN 8)),cO 10 (pick (t 6) (t 9) au),cO 11 (cM 10),cG 12 11 true (fa 1 (t 1)),cG 13 11 true (cD 12),cG 14 11 true (cB .geq (t 13) (cN 0)),cO 15 (pick (t 11) (t 14) au),cO 16 (cM 15),cG 17 16 true (fa 1 (t 1)),cG 18 16 true (cD 17),cG 19 16 true (cB .leq (t 18) (cN 1048576)),cO 20 (pick (t 16) (t 19) au),cO 2 (cM 20)]).seq ret)))
theorem BO:Is Tryz.prog 87 b87:=Is.mk' Tryz.func87 (by kernel_rfl)
def b88:F2:=(F2.mk 29 [RV.t 4] ((ops 0 [cO 2 (box (t 0)),cO 3 (box (t 1)),cO 4 (mov (cN 0))]).seq ((block 0 ((ops 0 [cO 6 (fa 0 (t 2)),cO 7 (cD 6),cO 8 (fa 0 (t 3)),cO 9 (cD 8),cO 10 (cB .lss (t 7) (t 9)),cO 5 (cM 10)]).seq (C2.cond (t 5) ((ops 0 [cO 4 (mov (cN ((-1))))]).seq ret) ((ops 0 [cO 12 (fa 0 (t 2)),cO 13 (cD 12),cO 14 (fa 0 (t 3)),cO 15 (cD 14),cO 16 (cB .gtr (t 13) (t 15)),cO 11 (cM 16)]).seq (C2.cond (t 11) ((ops 0 [cO 4 (mov (cN 1))]).seq ret) ((ops 0 [cO 18 (fa 1 (t 2)),cO 19 (cD 18),cO 20 (fa 1 (t 3)),cO 21 (cD 20),cO 22 (cB .lss (t 19) (t 21)),cO 17 (cM 22)]).seq (C2.cond (t 17) ((ops 0 [cO 4 (mov (cN ((-1))))]).seq ret) ((ops 0 [cO 24 (fa 1 (t 2)),cO 25 (cD 24),cO 26 (fa 1 (t 3)),cO 27 (cD 26),cO 28 (cB .gtr (t 25) (t 27)),cO 23 (cM 28)]).seq (C2.cond (t 23) ((ops 0 [cO 4 (mov (cN 1))]).seq ret) skip))))))))).seq ((ops 0 [cO 4 (mov (cN 0))]).seq ret))))
theorem zH:Is Tryz.prog 88 b88:=Is.mk' Tryz.func88 (by kernel_rfl)
def b89:F2:=(F2.mk 19 [RV.t 4] ((ops 0 [cO 4 (mov au)]).seq (((ops 0 [cO 5 (mov (cN 0))]).seq (block 0 (((ops 0 [cO 6 (cM 5),cO 7 (cM 0),cO 8 (lenS (t 7)),cO 9 (cB .lss (t 6) (t 8))]).seq (C2.cond (t 9) skip (exit 0))).seq ((block 1 ((ops 0 [cO 12 (cM 1),cO 13 (cM 0),cO 14 (cM 5),cO 15 (ixaS 2 (t 13) (t 14)),cO 16 (ldn 2 (t 15)),cO 17 (call (cF 97) [t 12,t 16]),cO 18 (un UnOp.not (t 17))]).seq (C2.cond (t 18) ((ops 0 [cO 4 (mov au)]).seq ret) skip))).seq (ops 0 [cO 10 (cM 5),cO 11 (cB .add (t 10) (cN 1)),cO 5 (cM 11)]))).loop)).seq ((ops 0 [cO 4 (mov aH)]).seq ret))))
theorem BP:Is Tryz.prog 89 b89:=Is.mk' Tryz.func89 (by kernel_rfl)
def b90:F2:=(F2.mk 23 [RV.t 4] ((ops 0 [cO 4 (mov (c AV.esl))]).seq ((ops 0 [cO 7 (bldS 2 0 [AV.int IntKind.i64 (0),AV.int IntKind.i64 (0)] []),cO 8 (cM 0),cO 9 (app 2 16 (t 7) (t 8)),cO 5 (cM 9)]).seq (((ops 0 [cO 6 (mov (cN 0))]).seq (block 0 (((ops 0 [cO 10 (cM 6),cO 11 (cM 1),cO 12 (lenS (t 11)),cO 13 (cB .lss (t 10) (t 12))]).seq (C2.cond (t 13) skip (exit 0))).seq ((block 1 (ops 0 [cO 16 (cM 5),cO 17 (cM 1),cO 18 (cM 6),cO 19 (ixaS 2 (t 17) (t 18)),cO 20 (ldn 2 (t 19)),cO 21 (call (cF 98) [t 16,t 20]),cO 5 (cM 21)])).seq (ops 0 [cO 14 (cM 6),cO 15 (cB .add (t 14) (cN 1)),cO 6 (cM 15)]))).loop)).seq ((ops 0 [cO 22 (cM 5),cO 4 (cM 22)]).seq ret)))))
theorem BW:Is Tryz.prog 90 b90:=Is.mk' Tryz.func90 (by kernel_rfl)
def b91:F2:=(F2.mk 14 [] ((ops 0 [cO 5 (cM 0),cO 6 (lenS (t 5)),cO 4 (cM 6)]).seq (ops 0 [cO 7 (cM 0),cO 8 (cM 4),cO 9 (cM 4),cO 10 (conv IntKind.u64 (t 9)),cO 11 (call (cF 123) [t 10]),cO 12 (cM 1),cO 13 (call (cF 122) [t 7,cN ((0)),t 8,t 11,t 12])])))
theorem AQ:Is Tryz.prog 91 b91:=Is.mk' Tryz.func91 (by kernel_rfl)
def b92:F2:=(F2.mk 61 [RV.t 2] ((ops 0 [cO 2 (mov (c AV.esl))]).seq (((ops 0 [cO 6 (cM 0),cO 7 (lenS (t 6)),cO 8 (cB .lss (t 7) (cN 2))]).seq (C2.cond (t 8) ((ops 0 [cO 9 (cM 0),cO 2 (cM 9)]).seq ret) skip)).seq (((ops 0 [cO 3 (mov (cN 1))]).seq (block 0 (((ops 0 [cO 10 (cM 3),cO 11 (cM 0),cO 12 (lenS (t 11)),cO 13 (cB .lss (t 10) (t 12))]).seq (C2.cond (t 13) skip (exit 0))).seq ((block 1 ((ops 1 [cO 16 (cM 0),cO 17 (cM 3),cO 18 (ixaS 2 (t 16) (t 17)),cO 19 (ldn 2 (t 18)),cO 20 (cM 0),cO 21 (cM 3),cO 22 (cB .sub (t 21) (cN 1)),cO 23 (ixaS 2 (t 20) (t 22)),cO 24 (ldn 2 (t 23)),cO 25 (binS BinOp.eql [int,int] (t 19) (t 24))]).seq (C2.cond (t 25) ((ops 0 [cO 26 (cM 0),cO 27 (cM 3),cO 28 (sls 2 (t 26) (some (t 27)) none none),cO 4 (cM 28)]).seq (((ops 0 [cO 5 (mov (cN 1))]).seq (block 2 (((ops 0 [cO 29 (cM 5),cO 30 (cM 4),cO 31 (lenS (t 30)),cO 32 (cB .lss (t 29) (t 31))]).seq (C2.cond (t 32) skip (exit 2))).seq ((block 3 ((ops 1 [cO 35 (cM 4),cO 36 (cM 5),cO 37 (ixaS 2 (t 35) (t 36)),cO 38 (ldn 2 (t 37)),cO 39 (cM 4),cO 40 (cM 5),cO 41 (cB .sub (t 40) (cN 1)),cO 42 (ixaS 2 (t 39) (t 41)),cO 43 (ldn 2 (t 42)),cO 44 (binS BinOp.neq [int,int] (t 38) (t 43))]).seq (C2.cond (t 44) ((ops 0 [cO 45 (cM 0),cO 46 (cM 3),cO 47 (cM 4),cO 48 (cM 5),cO 49 (ixaS 2 (t 47) (t 48)),cO 50 (ldn 2 (t 49)),cO 51 (ixaS 2 (t 45) (t 46)),Op2.mk none none (Ins.st 2 (t 51) (t 50))]).seq (ops 0 [cO 52 (cM 3),cO 53 (cB .add (t 52) (cN 1)),cO 3 (cM 53)])) skip))).seq (ops 0 [cO 33 (cM 5),cO 34 (cB .add (t 33) (cN 1)),cO 5 (cM 34)]))).loop)).seq ((ops 0 [cO 54 (cM 0),cO 55 (cM 3),cO 56 (sls 2 (t 54) (some (t 55)) none none),Op2.mk none none (clr 2 (AV.agg [AV.int IntKind.i64 (0),AV.int IntKind.i64 (0)]) (t 56))]).seq ((ops 0 [cO 57 (cM 0),cO 58 (cM 3),cO 59 (sls 2 (t 57) none (some (t 58)) none),cO 2 (cM 59)]).seq ret)))) skip))).seq (ops 0 [cO 14 (cM 3),cO 15 (cB .add (t 14) (cN 1)),cO 3 (cM 15)]))).loop)).seq ((ops 0 [cO 60 (cM 0),cO 2 (cM 60)]).seq ret)))))
theorem AW:Is Tryz.prog 92 b92:=Is.mk' Tryz.func92 (by kernel_rfl)
def b93:F2:=(F2.mk 49 [RV.t 6,RV.t 7] ((ops 0 [cO 6 (mov (cN 0)),cO 7 (mov au)]).seq ((ops 0 [cO 12 (cM 0),cO 13 (lenS (t 12)),cO 8 (cM 13)]).seq ((ops 0 [cO 14 (cM 8),cO 9 (mov (cN 0)),cO 10 (cM 14)]).seq ((block 0 (((ops 0 [cO 15 (cM 9),cO 16 (cM 10),cO 17 (cB .lss (t 15) (t 16))]).seq (C2.cond (t 17) skip (exit 0))).seq (block 1 ((ops 0 [cO 18 (cM 9),cO 19 (cM 10),cO 20 (cB .add (t 18) (t 19)),cO 21 (conv IntKind.u64 (t 20)),cO 22 (cB .shr (t 21) (c (AV.int IntKind.u64 (1)))),cO 23 (conv IntKind.i64 (t 22)),cO 11 (cM 23)]).seq ((ops 0 [cO 24 (cM 2),cO 25 (cM 0),cO 26 (cM 11),cO 27 (ixaS 1 (t 25) (t 26)),cO 28 (cD 27),cO 29 (cM 1),cO 30 (call (t 24) [t 28,t 29]),cO 31 (cB .lss (t 30) (cN 0))]).seq (C2.cond (t 31) (ops 0 [cO 32 (cM 11),cO 33 (cB .add (t 32) (cN 1)),cO 9 (cM 33)]) (ops 0 [cO 34 (cM 11),cO 10 (cM 34)])))))).loop).seq ((ops 0 [cO 35 (cM 9),cO 36 (cM 9),cO 37 (cM 8),cO 38 (cB .lss (t 36) (t 37)),cO 39 (cM 38),cG 40 39 true (cM 2),cG 41 39 true (cM 0),cG 42 39 true (cM 9),cG 43 39 true (ixaS 1 (t 41) (t 42)),cG 44 39 true (cD 43),cG 45 39 true (cM 1),cG 46 39 true (call (t 40) [t 44,t 45]),cG 47 39 true (cB .eql (t 46) (cN 0)),cO 48 (pick (t 39) (t 47) au),cO 6 (cM 35),cO 7 (cM 48)]).seq ret))))))
theorem AX:Is Tryz.prog 93 b93:=Is.mk' Tryz.func93 (by kernel_rfl)
def b94:F2:=(F2.mk 39 [RV.t 6] ((ops 0 [cO 6 (mov (cN 0))]).seq (((ops 0 [cO 11 (cM 0),cO 12 (lenS (t 11)),cO 13 (mov (cN 0))]).seq (block 0 ((ops 0 [cO 14 (cB .lss (t 13) (t 12))]).seq ((C2.cond (t 14) skip (exit 0)).seq ((block 1 ((ops 0 [cO 15 (cM 13),cO 16 (ixaS 2 (t 11) (t 13)),cO 17 (ldn 2 (t 16)),cO 8 (alloc (AV.agg [AV.int IntKind.i64 (0),AV.int IntKind.i64 (0)])),cO 7 (cM 15),Op2.mk none none (Ins.st 2 (t 8) (t 17))]).seq (((ops 0 [cO 18 (cM 7),cO 19 (cM 1),cO 20 (lenS (t 19)),cO 21 (cB .geq (t 18) (t 20))]).seq (C2.cond (t 21) ((ops 0 [cO 6 (mov (cN 1))]).seq ret) skip)).seq ((ops 0 [cO 22 (cM 1),cO 23 (cM 7),cO 24 (ixaS 2 (t 22) (t 23)),cO 25 (ldn 2 (t 24)),cO 9 (alloc (AV.agg [AV.int IntKind.i64 (0),AV.int IntKind.i64 (0)])),Op2.mk none none (Ins.st 2 (t 9) (t 25))]).seq ((ops 0 [cO 26 (cM 2),cO 27 (ldn 2 (t 8)),cO 28 (ldn 2 (t 9)),cO 29 (call (t 26) [t 27,t 28]),cO 10 (cM 29)]).seq ((ops 0 [cO 30 (cM 10),cO 31 (cB .neq (t 30) (cN 0))]).seq (C2.cond (t 31) ((ops 0 [cO 32 (cM 10),cO 6 (cM 32)]).seq ret) skip))))))).seq (ops 0 [cO 33 (cB .add (t 13) (cN 1)),cO 13 (cM 33)])))).loop)).seq (((ops 0 [cO 34 (cM 0),cO 35 (lenS (t 34)),cO 36 (cM 1),cO 37 (lenS (t 36)),cO 38 (cB .lss (t 35) (t 37))]).seq (C2.cond (t 38) ((ops 0 [cO 6 (mov (cN ((-1))))]).seq ret) skip)).seq ((ops 0 [cO 6 (mov (cN 0))]).seq ret)))))
theorem zK:Is Tryz.prog 94 b94:=Is.mk' Tryz.func94 (by kernel_rfl)
def b95:F2:=(F2.mk 17 [RV.t 4] ((ops 0 [cO 2 (box (t 0)),cO 3 (box (t 1)),cO 4 (mov (cN 0))]).seq ((mixS 1 [cO 5 (fa 0 (t 2)),cO 6 (cD 5),cO 7 (fa 0 (t 3)),cO 8 (cD 7),cO 9 (call (cF 111) [t 6,t 8]),cO 10 (fa 1 (t 2)),cO 11 (cD 10),cO 12 (fa 1 (t 3)),cO 13 (cD 12),cO 14 (call (cF 111) [t 11,t 13]),cO 15 (bldS 1 2 [AV.int IntKind.i64 (0)] [(0,1,t 9),(1,1,t 14)]),cO 16 (call (cF 110) [t 15]),cO 4 (cM 16)] [(0,0),(1,0),(2,0),(3,0),(5,0),(6,0),(7,0),(8,0),(4,1),(9,2),(10,2),(11,2),(12,0)]).seq ret)))
theorem Be:Is Tryz.prog 95 b95:=Is.mk' Tryz.func95 (by kernel_rfl)
def b96:F2:=(F2.mk 44 [RV.t 4] ((ops 0 [cO 2 (box (t 0)),cO 4 (mov (c AV.esl))]).seq ((ops 0 [cO 5 (mov (c AV.esl))]).seq (((ops 0 [cO 6 (mov (cN 0))]).seq (block 0 (((ops 0 [cO 9 (cM 6),cO 10 (fa 0 (t 2)),cO 11 (cD 10),cO 12 (lenS (t 11)),cO 13 (cB .lss (t 9) (t 12))]).seq (C2.cond (t 13) skip (exit 0))).seq ((block 1 (((ops 0 [cO 16 (cM 1),cO 17 (fa 0 (t 2)),cO 18 (cD 17),cO 19 (cM 6),cO 20 (ixaS 1 (t 18) (t 19)),cO 21 (cD 20),cO 22 (lenS (t 21)),cO 23 (cB .gtr (t 16) (t 22))]).seq (C2.cond (t 23) (exit 1) skip)).seq ((ops 0 [cO 24 (fa 0 (t 2)),cO 25 (cD 24),cO 26 (cM 6),cO 27 (ixaS 1 (t 25) (t 26)),cO 28 (cD 27),cO 29 (cM 1),cO 30 (call (cF 124) [t 28,t 29]),cO 7 (cM 30)]).seq ((ops 0 [cO 8 (mov (cN 0))]).seq (block 2 (((ops 0 [cO 31 (cM 8),cO 32 (cM 7),cO 33 (lenS (t 32)),cO 34 (cB .lss (t 31) (t 33))]).seq (C2.cond (t 34) skip (exit 2))).seq ((block 3 (ops 0 [cO 37 (cM 5),cO 38 (cM 7),cO 39 (cM 8),cO 40 (ixaS 1 (t 38) (t 39)),cO 41 (cD 40),cO 42 (call (cF 102) [t 37,t 41]),cO 5 (cM 42)])).seq (ops 0 [cO 35 (cM 8),cO 36 (cB .add (t 35) (cN 1)),cO 8 (cM 36)]))).loop))))).seq (ops 0 [cO 14 (cM 6),cO 15 (cB .add (t 14) (cN 1)),cO 6 (cM 15)]))).loop)).seq ((ops 0 [cO 43 (cM 5),cO 4 (cM 43)]).seq ret)))))
theorem BT:Is Tryz.prog 96 b96:=Is.mk' Tryz.func96 (by kernel_rfl)
def b97:F2:=(F2.mk 18 [RV.t 4] ((ops 0 [cO 3 (box (t 1)),cO 4 (mov au)]).seq (((ops 0 [cO 5 (mov (cN 0))]).seq (block 0 (((ops 0 [cO 6 (cM 5),cO 7 (cM 0),cO 8 (lenS (t 7)),cO 9 (cB .lss (t 6) (t 8))]).seq (C2.cond (t 9) skip (exit 0))).seq ((block 1 ((ops 1 [cO 12 (cM 0),cO 13 (cM 5),cO 14 (ixaS 2 (t 12) (t 13)),cO 15 (ldn 2 (t 14)),cO 16 (ldn 2 (t 3)),cO 17 (binS BinOp.eql [int,int] (t 15) (t 16))]).seq (C2.cond (t 17) ((ops 0 [cO 4 (mov aH)]).seq ret) skip))).seq (ops 0 [cO 10 (cM 5),cO 11 (cB .add (t 10) (cN 1)),cO 5 (cM 11)]))).loop)).seq ((ops 0 [cO 4 (mov au)]).seq ret))))
theorem BJ:Is Tryz.prog 97 b97:=Is.mk' Tryz.func97 (by kernel_rfl)
def b98:F2:=(F2.mk 47 [RV.t 4] ((ops 0 [cO 3 (box (t 1)),cO 4 (mov (c AV.esl))]).seq (((ops 0 [cO 8 (cM 0),cO 9 (ldn 2 (t 3)),cO 10 (call (cF 97) [t 8,t 9])]).seq (C2.cond (t 10) ((ops 0 [cO 11 (cM 0),cO 4 (cM 11)]).seq ret) skip)).seq ((ops 0 [cO 5 (mov (c AV.esl))]).seq ((ops 0 [cO 6 (mov au)]).seq (((ops 0 [cO 7 (mov (cN 0))]).seq (block 0 (((ops 0 [cO 12 (cM 7),cO 13 (cM 0),cO 14 (lenS (t 13)),cO 15 (cB .lss (t 12) (t 14))]).seq (C2.cond (t 15) skip (exit 0))).seq ((block 1 (((mixS 1 [cO 18 (cM 6),cO 19 (un UnOp.not (t 18)),cO 20 (cM 19),cG 21 20 true (ldn 2 (t 3)),cG 22 20 true (cM 0),cG 23 20 true (cM 7),cG 24 20 true (ixaS 2 (t 22) (t 23)),cG 25 20 true (ldn 2 (t 24)),cG 26 20 true (call (cF 88) [t 21,t 25]),cG 27 20 true (cB .lss (t 26) (cN 0)),cO 28 (pick (t 20) (t 27) au)] [(0,0),(1,0),(2,0),(3,0),(4,0),(5,0),(6,0),(7,0),(8,2),(9,0),(10,0)]).seq (C2.cond (t 28) (ops 0 [cO 29 (cM 5),cO 30 (ldn 2 (t 3)),cO 31 (bldS 2 1 [AV.int IntKind.i64 (0),AV.int IntKind.i64 (0)] [(0,2,t 30)]),cO 32 (app 2 16 (t 29) (t 31)),cO 5 (cM 32),cO 6 (mov aH)]) skip)).seq (ops 0 [cO 33 (cM 5),cO 34 (cM 0),cO 35 (cM 7),cO 36 (ixaS 2 (t 34) (t 35)),cO 37 (ldn 2 (t 36)),cO 38 (bldS 2 1 [AV.int IntKind.i64 (0),AV.int IntKind.i64 (0)] [(0,2,t 37)]),cO 39 (app 2 16 (t 33) (t 38)),cO 5 (cM 39)]))).seq (ops 0 [cO 16 (cM 7),cO 17 (cB .add (t 16) (cN 1)),cO 7 (cM 17)]))).loop)).seq (((ops 0 [cO 40 (cM 6),cO 41 (un UnOp.not (t 40))]).seq (C2.cond (t 41) (ops 0 [cO 42 (cM 5),cO 43 (ldn 2 (t 3)),cO 44 (bldS 2 1 [AV.int IntKind.i64 (0),AV.int IntKind.i64 (0)] [(0,2,t 43)]),cO 45 (app 2 16 (t 42) (t 44)),cO 5 (cM 45)]) skip)).seq ((ops 0 [cO 46 (cM 5),cO 4 (cM 46)]).seq ret))))))))
theorem B1:Is Tryz.prog 98 b98:=Is.mk' Tryz.func98 (by kernel_rfl)
def b99:F2:=(F2.mk 21 [RV.t 2] ((ops 0 [cO 1 (box (t 0)),cO 2 (mov au)]).seq ((ops 0 [cO 3 (fa 0 (t 1)),cO 4 (cD 3),cO 5 (cB .geq (t 4) (cN 0)),cO 6 (cM 5),cG 7 6 true (fa 0 (t 1)),cG 8 6 true (cD 7),cG 9 6 true (cB .lss (t 8) (cN 8)),cO 10 (pick (t 6) (t 9) au),cO 11 (cM 10),cG 12 11 true (fa 1 (t 1)),cG 13 11 true (cD 12),cG 14 11 true (cB .geq (t 13) (cN 0)),cO 15 (pick (t 11) (t 14) au),cO 16 (cM 15),cG 17 16 true (fa 1 (t 1)),cG 18 16 true (cD 17),cG 19 16 true (cB .leq (t 18) (cN 1048576)),cO 20 (pick (t 16) (t 19) au),cO 2 (cM 20)]).seq ret)))
theorem zN:Is Tryz.prog 99 b99:=Is.mk' Tryz.func99 (by kernel_rfl)
def AD:F2:=(F2.mk 48 [RV.t 4] ((ops 0 [cO 4 (mov (c AV.esl))]).seq ((ops 0 [cO 5 (mov (c AV.esl))]).seq ((ops 0 [cO 6 (mov au)]).seq (((ops 0 [cO 7 (mov (cN 0))]).seq (block 0 (((ops 0 [cO 9 (cM 7),cO 10 (cM 0),cO 11 (lenS (t 10)),cO 12 (cB .lss (t 9) (t 11))]).seq (C2.cond (t 12) skip (exit 0))).seq ((block 1 ((ops 0 [cO 15 (cM 1),cO 16 (cM 0),cO 17 (cM 7),cO 18 (ixaS 1 (t 16) (t 17)),cO 19 (cD 18),cO 20 (call (cF 62) [t 15,t 19]),cO 8 (cM 20)]).seq (((ops 0 [cO 21 (cM 8),cO 22 (cB .eql (t 21) (cN 0))]).seq (C2.cond (t 22) ((ops 0 [cO 23 (cM 0),cO 4 (cM 23)]).seq ret) skip)).seq (((ops 0 [cO 24 (cM 6),cO 25 (un UnOp.not (t 24)),cO 26 (cM 25),cG 27 26 true (cM 8),cG 28 26 true (cB .lss (t 27) (cN 0)),cO 29 (pick (t 26) (t 28) au)]).seq (C2.cond (t 29) (ops 0 [cO 30 (cM 5),cO 31 (cM 1),cO 32 (bldS 1 1 [AV.esl] [(0,1,t 31)]),cO 33 (app 1 24 (t 30) (t 32)),cO 5 (cM 33),cO 6 (mov aH)]) skip)).seq (ops 0 [cO 34 (cM 5),cO 35 (cM 0),cO 36 (cM 7),cO 37 (ixaS 1 (t 35) (t 36)),cO 38 (cD 37),cO 39 (bldS 1 1 [AV.esl] [(0,1,t 38)]),cO 40 (app 1 24 (t 34) (t 39)),cO 5 (cM 40)]))))).seq (ops 0 [cO 13 (cM 7),cO 14 (cB .add (t 13) (cN 1)),cO 7 (cM 14)]))).loop)).seq (((ops 0 [cO 41 (cM 6),cO 42 (un UnOp.not (t 41))]).seq (C2.cond (t 42) (ops 0 [cO 43 (cM 5),cO 44 (cM 1),cO 45 (bldS 1 1 [AV.esl] [(0,1,t 44)]),cO 46 (app 1 24 (t 43) (t 45)),cO 5 (cM 46)]) skip)).seq ((ops 0 [cO 47 (cM 5),cO 4 (cM 47)]).seq ret)))))))
theorem AN:Is Tryz.prog 102 AD:=Is.mk' Tryz.func102 (by kernel_rfl)
def yx:F2:=(F2.mk 9 [RV.t 4] ((ops 0 [cO 4 (mov au)]).seq ((ops 0 [cO 5 (cM 0),cO 6 (cM 1),cO 7 (call (cF 127) [t 5,t 6]),cO 8 (cB .geq (t 7) (cN 0)),cO 4 (cM 8)]).seq ret)))
theorem xG:Is Tryz.prog 103 yx:=Is.mk' Tryz.func103 (by kernel_rfl)
def yZ:F2:=(F2.mk 21 [RV.t 4] ((ops 0 [cO 4 (mov au)]).seq ((mixS 1 [cO 5 (cD 1),cO 6 (cM 0),cO 7 (ixaS 1 (t 5) (t 6)),cO 8 (cD 7),cO 9 (lenS (t 8)),cO 10 (cD 2),cO 11 (lenS (t 10)),cO 12 (cB .gtr (t 9) (t 11)),cO 13 (cM 12),cG 14 13 true (cD 2),cG 15 13 true (cD 1),cG 16 13 true (cM 0),cG 17 13 true (ixaS 1 (t 15) (t 16)),cG 18 13 true (cD 17),cG 19 13 true (call (cF 105) [t 14,t 18]),cO 20 (pick (t 13) (t 19) au),cO 4 (cM 20)] [(0,0),(1,0),(2,0),(3,0),(4,0),(5,0),(6,0),(7,0),(8,0),(9,0),(10,0),(11,0),(12,0),(13,0),(14,2),(15,0),(16,0)]).seq ret)))
theorem xH:Is Tryz.prog 104 yZ:=Is.mk' Tryz.func104 (by kernel_rfl)
def AO:F2:=(F2.mk 29 [RV.t 4] ((ops 0 [cO 4 (mov au)]).seq (((ops 0 [cO 7 (cM 0),cO 8 (lenS (t 7)),cO 9 (mov (cN 0))]).seq (block 0 ((ops 0 [cO 10 (cB .lss (t 9) (t 8))]).seq ((C2.cond (t 10) skip (exit 0)).seq ((block 1 ((ops 0 [cO 11 (ixaS 2 (t 7) (t 9)),cO 12 (ldn 2 (t 11)),cO 6 (alloc (AV.agg [AV.int IntKind.i64 (0),AV.int IntKind.i64 (0)])),Op2.mk none none (Ins.st 2 (t 6) (t 12))]).seq ((block 2 (((ops 1 [cO 13 (cM 1),cO 14 (lenS (t 13)),cO 15 (cB .gtr (t 14) (cN 0)),cO 16 (cM 15),cG 17 16 true (cM 1),cG 18 16 true (ixaS 2 (t 17) (cN 0)),cG 19 16 true (ldn 2 (t 18)),cG 20 16 true (ldn 2 (t 6)),cG 21 16 true (binS BinOp.neq [int,int] (t 19) (t 20)),cO 22 (pick (t 16) (t 21) au)]).seq (C2.cond (t 22) skip (exit 2))).seq (block 3 (ops 0 [cO 23 (cM 1),cO 24 (sls 2 (t 23) (some (cN 1)) none none),cO 1 (cM 24)]))).loop).seq ((ops 0 [cO 25 (cM 1),cO 26 (lenS (t 25)),cO 27 (cB .eql (t 26) (cN 0))]).seq (C2.cond (t 27) ((ops 0 [cO 4 (mov au)]).seq ret) skip))))).seq (ops 0 [cO 28 (cB .add (t 9) (cN 1)),cO 9 (cM 28)])))).loop)).seq ((ops 0 [cO 4 (mov aH)]).seq ret))))
theorem Bb:Is Tryz.prog 105 AO:=Is.mk' Tryz.func105 (by kernel_rfl)
def yh:F2:=(F2.mk 16 [RV.cn 2 16] ((ops 0 [cO 2 (alloc (AV.agg [AV.int IntKind.i64 (0),AV.int IntKind.i64 (0),AV.int IntKind.i64 (0),AV.int IntKind.i64 (0),AV.int IntKind.i64 (0),AV.int IntKind.i64 (0),AV.int IntKind.i64 (0),AV.int IntKind.i64 (0),AV.int IntKind.i64 (0),AV.int IntKind.i64 (0),AV.int IntKind.i64 (0),AV.int IntKind.i64 (0),AV.int IntKind.i64 (0),AV.int IntKind.i64 (0),AV.int IntKind.i64 (0),AV.int IntKind.i64 (0)]))]).seq ((ops 0 [cO 3 (alloc (AV.agg [AV.int IntKind.i64 (0),AV.int IntKind.i64 (0),AV.int IntKind.i64 (0),AV.int IntKind.i64 (0),AV.int IntKind.i64 (0),AV.int IntKind.i64 (0),AV.int IntKind.i64 (0),AV.int IntKind.i64 (0),AV.int IntKind.i64 (0),AV.int IntKind.i64 (0),AV.int IntKind.i64 (0),AV.int IntKind.i64 (0),AV.int IntKind.i64 (0),AV.int IntKind.i64 (0),AV.int IntKind.i64 (0),AV.int IntKind.i64 (0)]))]).seq (((ops 0 [cO 5 (mov (cN 0))]).seq (block 0 ((ops 0 [cO 6 (cB .lss (t 5) (cN 8))]).seq ((C2.cond (t 6) skip (exit 0)).seq ((block 1 ((ops 0 [cO 7 (cM 5),cO 4 (cM 7)]).seq (ops 0 [cO 8 (cM 4),cO 9 (ixaA 8 2 (t 3) (t 8)),cO 10 (fa 0 (t 9)),Op2.mk none none (Ins.st 1 (t 10) (cN ((-1))))]))).seq (ops 0 [cO 11 (cB .add (t 5) (cN 1)),cO 5 (cM 11)])))).loop)).seq ((ops 0 [cO 12 (slp 8 2 (t 3)),cO 13 (cM 0),cO 14 (cpy 2 (t 12) (t 13))]).seq ((ops 0 [cO 15 (ldn 16 (t 3)),Op2.mk none none (Ins.st 16 (t 2) (t 15))]).seq ret))))))
theorem x6:Is Tryz.prog 108 yh:=Is.mk' Tryz.func108 (by kernel_rfl)
def w7:F2:=(F2.mk 14 [] ((ops 0 [cO 5 (cM 0),cO 6 (lenS (t 5)),cO 4 (cM 6)]).seq (ops 0 [cO 7 (cM 0),cO 8 (cM 4),cO 9 (cM 4),cO 10 (conv IntKind.u64 (t 9)),cO 11 (call (cF 123) [t 10]),cO 12 (cM 1),cO 13 (call (cF 129) [t 7,cN ((0)),t 8,t 11,t 12])])))
theorem uW:Is Tryz.prog 109 w7:=Is.mk' Tryz.func109 (by kernel_rfl)
def yd:F2:=(F2.mk 18 [RV.t 2] ((ops 0 [cO 2 (mov (cN 0))]).seq ((ops 0 [cO 3 (mov (cN 0))]).seq (((ops 0 [cO 6 (cM 0),cO 7 (lenS (t 6)),cO 8 (mov (cN 0))]).seq (block 0 ((ops 0 [cO 9 (cB .lss (t 8) (t 7))]).seq ((C2.cond (t 9) skip (exit 0)).seq ((block 1 ((ops 0 [cO 10 (ixaS 1 (t 6) (t 8)),cO 11 (cD 10),cO 5 (cM 11)]).seq ((ops 0 [cO 12 (cM 5),cO 13 (cM 3),cO 14 (cB .neq (t 12) (t 13))]).seq (C2.cond (t 14) ((ops 0 [cO 15 (cM 5),cO 2 (cM 15)]).seq ret) skip)))).seq (ops 0 [cO 16 (cB .add (t 8) (cN 1)),cO 8 (cM 16)])))).loop)).seq ((ops 0 [cO 17 (cM 3),cO 2 (cM 17)]).seq ret)))))
theorem xI:Is Tryz.prog 110 yd:=Is.mk' Tryz.func110 (by kernel_rfl)
def x7:F2:=(F2.mk 20 [RV.t 4] ((ops 0 [cO 4 (mov (cN 0))]).seq ((ops 0 [cO 7 (cM 0),cO 8 (call (cF 130) [t 7]),cO 5 (cM 8)]).seq ((ops 0 [cO 9 (cM 1),cO 10 (call (cF 130) [t 9]),cO 6 (cM 10)]).seq (((ops 0 [cO 11 (cM 5)]).seq (C2.cond (t 11) (((ops 0 [cO 12 (cM 6)]).seq (C2.cond (t 12) ((ops 0 [cO 4 (mov (cN 0))]).seq ret) skip)).seq ((ops 0 [cO 4 (mov (cN ((-1))))]).seq ret)) skip)).seq (((ops 0 [cO 13 (cM 6)]).seq (C2.cond (t 13) ((ops 0 [cO 4 (mov (cN 1))]).seq ret) skip)).seq (((ops 0 [cO 14 (cM 0),cO 15 (cM 1),cO 16 (cB .lss (t 14) (t 15))]).seq (C2.cond (t 16) ((ops 0 [cO 4 (mov (cN ((-1))))]).seq ret) skip)).seq (((ops 0 [cO 17 (cM 0),cO 18 (cM 1),cO 19 (cB .gtr (t 17) (t 18))]).seq (C2.cond (t 19) ((ops 0 [cO 4 (mov (cN 1))]).seq ret) skip)).seq ((ops 0 [cO 4 (mov (cN 0))]).seq ret)))))))))
theorem xY:Is Tryz.prog 111 x7:=Is.mk' Tryz.func111 (by kernel_rfl)
def yz:F2:=(F2.mk 13 [RV.t 4] ((ops 0 [cO 2 (box (t 0)),cO 4 (mov (c AV.esl))]).seq (((ops 0 [cO 6 (cM 1)]).seq (block 0 (rangeF (t 6) [7] (ops 0 [cO 5 (cM 7)]) (block 1 (ops 0 [cO 8 (cD 2),cO 9 (cM 5),cO 10 (bldS 1 1 [AV.esl] [(0,1,t 9)]),cO 11 (app 1 24 (t 8) (t 10)),Op2.mk none none (Ins.st 1 (t 2) (t 11))]))))).seq ((ops 0 [cO 12 (cD 2),cO 4 (cM 12)]).seq ret))))
theorem xK:Is Tryz.prog 112 yz:=Is.mk' Tryz.func112 (by kernel_rfl)
def yo:F2:=(F2.mk 10 [] ((ops 0 [cO 3 (box (t 0))]).seq ((ops 0 [cO 4 (alloc AV.nilf)]).seq ((ops 0 [cO 5 (mkfn 114 [t 1,t 3,t 2,t 4]),Op2.mk none none (Ins.st 1 (t 4) (t 5))]).seq (mixS 1 [cO 6 (cD 4),cO 7 (cD 1),cO 8 (mks 2 16 [AV.int IntKind.i64 (0),AV.int IntKind.i64 (0)] (cN 0) (t 7)),cO 9 (call (t 6) [cN ((0)),t 8])] [(0,0),(1,0),(2,1),(3,2)])))))
theorem x5:Is Tryz.prog 113 yo:=Is.mk' Tryz.func113 (by kernel_rfl)
def w9:F2:=(F2.mk 37 [RV.t 8] ((ops 0 [cO 8 (mov au)]).seq (((ops 0 [cO 10 (cM 1),cO 11 (lenS (t 10)),cO 12 (cD 2),cO 13 (cB .eql (t 11) (t 12))]).seq (C2.cond (t 13) ((mixS 1 [cO 14 (cD 3),cO 15 (cM 1),cO 16 (call (cF 31) [t 15]),cO 17 (call (t 14) [t 16]),cO 8 (cM 17)] [(0,0),(1,0),(2,1),(3,2),(4,0)]).seq ret) skip)).seq (((ops 0 [cO 18 (cM 0),cO 9 (cM 18)]).seq (block 0 (((ops 0 [cO 19 (cM 9),cO 20 (cD 4),cO 21 (lenS (t 20)),cO 22 (cB .lss (t 19) (t 21))]).seq (C2.cond (t 22) skip (exit 0))).seq ((block 1 ((mixS 2 [cO 25 (cD 5),cO 26 (cM 9),cO 27 (cB .add (t 26) (cN 1)),cO 28 (cM 1),cO 29 (cD 4),cO 30 (cM 9),cO 31 (ixaS 2 (t 29) (t 30)),cO 32 (ldn 2 (t 31)),cO 33 (bldS 2 1 [AV.int IntKind.i64 (0),AV.int IntKind.i64 (0)] [(0,2,t 32)]),cO 34 (app 2 16 (t 28) (t 33)),cO 35 (call (t 25) [t 27,t 34]),cO 36 (un UnOp.not (t 35))] [(0,0),(1,0),(2,0),(3,0),(4,0),(5,0),(6,0),(7,0),(8,1),(9,1),(10,2),(11,0)]).seq (C2.cond (t 36) ((ops 0 [cO 8 (mov au)]).seq ret) skip))).seq (ops 0 [cO 23 (cM 9),cO 24 (cB .add (t 23) (cN 1)),cO 9 (cM 24)]))).loop)).seq ((ops 0 [cO 8 (mov aH)]).seq ret)))))
theorem wk:Is Tryz.prog 114 w9:=Is.mk' Tryz.func114 (by kernel_rfl)
def yq:F2:=(F2.mk 148 [] ((ops 0 [cO 10 (mov aH)]).seq ((ops 0 [cO 11 (mov aH)]).seq (block 0 (block 1 ((ops 0 [cO 21 (cM 2),cO 22 (cM 1),cO 23 (cB .sub (t 21) (t 22)),cO 12 (cM 23)]).seq (((ops 0 [cO 24 (cM 12),cO 25 (cB .leq (t 24) (cN 12))]).seq (C2.cond (t 25) ((ops 0 [cO 26 (cM 0),cO 27 (cM 1),cO 28 (cM 2),cO 29 (cM 4),cO 30 (call (cF 132) [t 26,t 27,t 28,t 29])]).seq ret) skip)).seq (((ops 0 [cO 31 (cM 3),cO 32 (cB .eql (t 31) (cN 0))]).seq (C2.cond (t 32) ((ops 0 [cO 33 (cM 0),cO 34 (cM 1),cO 35 (cM 2),cO 36 (cM 4),cO 37 (call (cF 133) [t 33,t 34,t 35,t 36])]).seq ret) skip)).seq (((ops 0 [cO 38 (cM 10),cO 39 (un UnOp.not (t 38))]).seq (C2.cond (t 39) ((ops 0 [cO 40 (cM 0),cO 41 (cM 1),cO 42 (cM 2),cO 43 (cM 4),cO 44 (call (cF 134) [t 40,t 41,t 42,t 43])]).seq (ops 0 [cO 45 (cM 3),cO 46 (cB .sub (t 45) (cN 1)),cO 3 (cM 46)])) skip)).seq ((ops 0 [cO 48 (cM 0),cO 49 (cM 1),cO 50 (cM 2),cO 51 (cM 4),cO 52 (call (cF 135) [t 48,t 49,t 50,t 51]),cO 47 (cM 52),cO 53 (ext (t 47) 0),cO 54 (ext (t 47) 1),cO 13 (cM 53),cO 14 (cM 54)]).seq (((ops 0 [cO 55 (cM 14),cO 56 (cB .eql (t 55) (cN 2))]).seq (C2.cond (t 56) ((ops 0 [cO 57 (cM 0),cO 58 (cM 1),cO 59 (cM 2),cO 60 (cM 4),cO 61 (call (cF 136) [t 57,t 58,t 59,t 60])]).seq ((ops 0 [cO 62 (cM 2),cO 63 (cB .sub (t 62) (cN 1)),cO 64 (cM 13),cO 65 (cM 1),cO 66 (cB .sub (t 64) (t 65)),cO 67 (cB .sub (t 63) (t 66)),cO 13 (cM 67)]).seq (ops 0 [cO 14 (mov (cN 1))]))) skip)).seq (((ops 0 [cO 68 (cM 10),cO 69 (cM 68),cG 70 69 true (cM 11),cO 71 (pick (t 69) (t 70) au),cO 72 (cM 71),cG 73 72 true (cM 14),cG 74 72 true (cB .eql (t 73) (cN 1)),cO 75 (pick (t 72) (t 74) au)]).seq (C2.cond (t 75) ((ops 0 [cO 76 (cM 0),cO 77 (cM 1),cO 78 (cM 2),cO 79 (cM 4),cO 80 (call (cF 137) [t 76,t 77,t 78,t 79])]).seq (C2.cond (t 80) ret skip)) skip)).seq (((mixS 1 [cO 81 (cM 1),cO 82 (cB .gtr (t 81) (cN 0)),cO 83 (cM 82),cG 84 83 true (cM 4),cG 85 83 true (cM 0),cG 86 83 true (cM 1),cG 87 83 true (cB .sub (t 86) (cN 1)),cG 88 83 true (ixaS 2 (t 85) (t 87)),cG 89 83 true (ldn 2 (t 88)),cG 90 83 true (cM 0),cG 91 83 true (cM 13),cG 92 83 true (ixaS 2 (t 90) (t 91)),cG 93 83 true (ldn 2 (t 92)),cG 94 83 true (call (t 84) [t 89,t 93]),cG 95 83 true (cB .lss (t 94) (cN 0)),cG 96 83 true (un UnOp.not (t 95)),cO 97 (pick (t 83) (t 96) au)] [(0,0),(1,0),(2,0),(3,0),(4,0),(5,0),(6,0),(7,0),(8,0),(9,0),(10,0),(11,0),(12,0),(13,2),(14,0),(15,0),(16,0)]).seq (C2.cond (t 97) ((ops 0 [cO 98 (cM 0),cO 99 (cM 1),cO 100 (cM 2),cO 101 (cM 13),cO 102 (cM 4),cO 103 (call (cF 138) [t 98,t 99,t 100,t 101,t 102]),cO 15 (cM 103)]).seq ((ops 0 [cO 104 (cM 15),cO 1 (cM 104)]).seq (exit 1))) skip)).seq ((ops 0 [cO 106 (cM 0),cO 107 (cM 1),cO 108 (cM 2),cO 109 (cM 13),cO 110 (cM 4),cO 111 (call (cF 139) [t 106,t 107,t 108,t 109,t 110]),cO 105 (cM 111),cO 112 (ext (t 105) 0),cO 113 (ext (t 105) 1),cO 16 (cM 112),cO 17 (cM 113)]).seq ((ops 0 [cO 114 (cM 17),cO 11 (cM 114)]).seq ((ops 0 [cO 115 (cM 16),cO 116 (cM 1),cO 117 (cB .sub (t 115) (t 116)),cO 118 (cM 2),cO 119 (cM 16),cO 120 (cB .sub (t 118) (t 119)),cO 18 (cM 117),cO 19 (cM 120)]).seq ((ops 0 [cO 121 (cM 12),cO 122 (cB .quo (t 121) (cN 8)),cO 20 (cM 122)]).seq ((ops 0 [cO 123 (cM 18),cO 124 (cM 19),cO 125 (cB .lss (t 123) (t 124))]).seq (C2.cond (t 125) ((ops 0 [cO 126 (cM 18),cO 127 (cM 20),cO 128 (cB .geq (t 126) (t 127)),cO 10 (cM 128)]).seq ((ops 0 [cO 129 (cM 0),cO 130 (cM 1),cO 131 (cM 16),cO 132 (cM 3),cO 133 (cM 4),cO 134 (call (cF 122) [t 129,t 130,t 131,t 132,t 133])]).seq (ops 0 [cO 135 (cM 16),cO 136 (cB .add (t 135) (cN 1)),cO 1 (cM 136)]))) ((ops 0 [cO 137 (cM 19),cO 138 (cM 20),cO 139 (cB .geq (t 137) (t 138)),cO 10 (cM 139)]).seq ((ops 0 [cO 140 (cM 0),cO 141 (cM 16),cO 142 (cB .add (t 141) (cN 1)),cO 143 (cM 2),cO 144 (cM 3),cO 145 (cM 4),cO 146 (call (cF 122) [t 140,t 142,t 143,t 144,t 145])]).seq (ops 0 [cO 147 (cM 16),cO 2 (cM 147)])))))))))))))))))).loop))))
theorem xO:Is Tryz.prog 122 yq:=Is.mk' Tryz.func122 (by kernel_rfl)
def xx:F2:=(F2.mk 8 [RV.t 2] ((ops 0 [cO 2 (mov (cN 0))]).seq ((C2.cond au ((ops 0 [cO 3 (cM 0),cO 4 (conv IntKind.u32 (t 3)),cO 5 (call (cF 140) [t 4]),cO 2 (cM 5)]).seq ret) skip).seq ((ops 0 [cO 6 (cM 0),cO 7 (call (cF 141) [t 6]),cO 2 (cM 7)]).seq ret))))
theorem vj:Is Tryz.prog 123 xx:=Is.mk' Tryz.func123 (by kernel_rfl)
def yE:F2:=(F2.mk 47 [RV.t 4] ((ops 0 [cO 4 (mov (c AV.esl))]).seq (((ops 0 [cO 9 (cM 1),cO 10 (cB .eql (t 9) (cN 0))]).seq (C2.cond (t 10) ((ops 0 [cO 11 (bldS 1 1 [AV.esl] [(0,1,c AV.esl)]),cO 4 (cM 11)]).seq ret) skip)).seq ((ops 0 [cO 5 (mov (c AV.esl))]).seq (((ops 0 [cO 6 (mov (cN 0))]).seq (block 0 (((ops 0 [cO 12 (cM 6),cO 13 (cM 1),cO 14 (cB .add (t 12) (t 13)),cO 15 (cM 0),cO 16 (lenS (t 15)),cO 17 (cB .leq (t 14) (t 16))]).seq (C2.cond (t 17) skip (exit 0))).seq ((block 1 ((ops 0 [cO 20 (cM 0),cO 21 (cM 6),cO 22 (cB .add (t 21) (cN 1)),cO 23 (sls 2 (t 20) (some (t 22)) none none),cO 24 (cM 1),cO 25 (cB .sub (t 24) (cN 1)),cO 26 (call (cF 124) [t 23,t 25]),cO 7 (cM 26)]).seq ((ops 0 [cO 8 (mov (cN 0))]).seq (block 2 (((ops 0 [cO 27 (cM 8),cO 28 (cM 7),cO 29 (lenS (t 28)),cO 30 (cB .lss (t 27) (t 29))]).seq (C2.cond (t 30) skip (exit 2))).seq ((block 3 (mixS 9 [cO 33 (cM 5),cO 34 (cM 0),cO 35 (cM 6),cO 36 (ixaS 2 (t 34) (t 35)),cO 37 (ldn 2 (t 36)),cO 38 (bldS 2 1 [AV.int IntKind.i64 (0),AV.int IntKind.i64 (0)] [(0,2,t 37)]),cO 39 (cM 7),cO 40 (cM 8),cO 41 (ixaS 1 (t 39) (t 40)),cO 42 (cD 41),cO 43 (app 2 16 (t 38) (t 42)),cO 44 (bldS 1 1 [AV.esl] [(0,1,t 43)]),cO 45 (app 1 24 (t 33) (t 44)),cO 5 (cM 45)] [(0,0),(1,0),(2,0),(3,0),(4,0),(6,0),(7,0),(8,0),(9,0),(5,1),(10,2),(11,3),(12,2),(13,0)])).seq (ops 0 [cO 31 (cM 8),cO 32 (cB .add (t 31) (cN 1)),cO 8 (cM 32)]))).loop)))).seq (ops 0 [cO 18 (cM 6),cO 19 (cB .add (t 18) (cN 1)),cO 6 (cM 19)]))).loop)).seq ((ops 0 [cO 46 (cM 5),cO 4 (cM 46)]).seq ret))))))
theorem xF:Is Tryz.prog 124 yE:=Is.mk' Tryz.func124 (by kernel_rfl)
def yO:F2:=(F2.mk 19 [RV.t 4] ((ops 0 [cO 4 (mov (cN 0))]).seq (((ops 0 [cO 6 (cM 0),cO 7 (lenS (t 6)),cO 8 (mov (cN 0))]).seq (block 0 ((ops 0 [cO 9 (cB .lss (t 8) (t 7))]).seq ((C2.cond (t 9) skip (exit 0)).seq ((block 1 ((ops 0 [cO 10 (cM 8),cO 5 (cM 10)]).seq ((ops 0 [cO 11 (cM 1),cO 12 (cM 0),cO 13 (cM 5),cO 14 (ixaS 1 (t 12) (t 13)),cO 15 (cD 14),cO 16 (call (t 11) [t 15])]).seq (C2.cond (t 16) ((ops 0 [cO 17 (cM 5),cO 4 (cM 17)]).seq ret) skip)))).seq (ops 0 [cO 18 (cB .add (t 8) (cN 1)),cO 8 (cM 18)])))).loop)).seq ((ops 0 [cO 4 (mov (cN ((-1))))]).seq ret))))
theorem xC:Is Tryz.prog 127 yO:=Is.mk' Tryz.func127 (by kernel_rfl)
def wY:F2:=(F2.mk 148 [] ((ops 0 [cO 10 (mov aH)]).seq ((ops 0 [cO 11 (mov aH)]).seq (block 0 (block 1 ((ops 0 [cO 21 (cM 2),cO 22 (cM 1),cO 23 (cB .sub (t 21) (t 22)),cO 12 (cM 23)]).seq (((ops 0 [cO 24 (cM 12),cO 25 (cB .leq (t 24) (cN 12))]).seq (C2.cond (t 25) ((ops 0 [cO 26 (cM 0),cO 27 (cM 1),cO 28 (cM 2),cO 29 (cM 4),cO 30 (call (cF 142) [t 26,t 27,t 28,t 29])]).seq ret) skip)).seq (((ops 0 [cO 31 (cM 3),cO 32 (cB .eql (t 31) (cN 0))]).seq (C2.cond (t 32) ((ops 0 [cO 33 (cM 0),cO 34 (cM 1),cO 35 (cM 2),cO 36 (cM 4),cO 37 (call (cF 143) [t 33,t 34,t 35,t 36])]).seq ret) skip)).seq (((ops 0 [cO 38 (cM 10),cO 39 (un UnOp.not (t 38))]).seq (C2.cond (t 39) ((ops 0 [cO 40 (cM 0),cO 41 (cM 1),cO 42 (cM 2),cO 43 (cM 4),cO 44 (call (cF 144) [t 40,t 41,t 42,t 43])]).seq (ops 0 [cO 45 (cM 3),cO 46 (cB .sub (t 45) (cN 1)),cO 3 (cM 46)])) skip)).seq ((ops 0 [cO 48 (cM 0),cO 49 (cM 1),cO 50 (cM 2),cO 51 (cM 4),cO 52 (call (cF 145) [t 48,t 49,t 50,t 51]),cO 47 (cM 52),cO 53 (ext (t 47) 0),cO 54 (ext (t 47) 1),cO 13 (cM 53),cO 14 (cM 54)]).seq (((ops 0 [cO 55 (cM 14),cO 56 (cB .eql (t 55) (cN 2))]).seq (C2.cond (t 56) ((ops 0 [cO 57 (cM 0),cO 58 (cM 1),cO 59 (cM 2),cO 60 (cM 4),cO 61 (call (cF 146) [t 57,t 58,t 59,t 60])]).seq ((ops 0 [cO 62 (cM 2),cO 63 (cB .sub (t 62) (cN 1)),cO 64 (cM 13),cO 65 (cM 1),cO 66 (cB .sub (t 64) (t 65)),cO 67 (cB .sub (t 63) (t 66)),cO 13 (cM 67)]).seq (ops 0 [cO 14 (mov (cN 1))]))) skip)).seq (((ops 0 [cO 68 (cM 10),cO 69 (cM 68),cG 70 69 true (cM 11),cO 71 (pick (t 69) (t 70) au),cO 72 (cM 71),cG 73 72 true (cM 14),cG 74 72 true (cB .eql (t 73) (cN 1)),cO 75 (pick (t 72) (t 74) au)]).seq (C2.cond (t 75) ((ops 0 [cO 76 (cM 0),cO 77 (cM 1),cO 78 (cM 2),cO 79 (cM 4),cO 80 (call (cF 147) [t 76,t 77,t 78,t 79])]).seq (C2.cond (t 80) ret skip)) skip)).seq (((mixS 1 [cO 81 (cM 1),cO 82 (cB .gtr (t 81) (cN 0)),cO 83 (cM 82),cG 84 83 true (cM 4),cG 85 83 true (cM 0),cG 86 83 true (cM 1),cG 87 83 true (cB .sub (t 86) (cN 1)),cG 88 83 true (ixaS 1 (t 85) (t 87)),cG 89 83 true (cD 88),cG 90 83 true (cM 0),cG 91 83 true (cM 13),cG 92 83 true (ixaS 1 (t 90) (t 91)),cG 93 83 true (cD 92),cG 94 83 true (call (t 84) [t 89,t 93]),cG 95 83 true (cB .lss (t 94) (cN 0)),cG 96 83 true (un UnOp.not (t 95)),cO 97 (pick (t 83) (t 96) au)] [(0,0),(1,0),(2,0),(3,0),(4,0),(5,0),(6,0),(7,0),(8,0),(9,0),(10,0),(11,0),(12,0),(13,2),(14,0),(15,0),(16,0)]).seq (C2.cond (t 97) ((ops 0 [cO 98 (cM 0),cO 99 (cM 1),cO 100 (cM 2),cO 101 (cM 13),cO 102 (cM 4),cO 103 (call (cF 148) [t 98,t 99,t 100,t 101,t 102]),cO 15 (cM 103)]).seq ((ops 0 [cO 104 (cM 15),cO 1 (cM 104)]).seq (exit 1))) skip)).seq ((ops 0 [cO 106 (cM 0),cO 107 (cM 1),cO 108 (cM 2),cO 109 (cM 13),cO 110 (cM 4),cO 111 (call (cF 149) [t 106,t 107,t 108,t 109,t 110]),cO 105 (cM 111),cO 112 (ext (t 105) 0),cO 113 (ext (t 105) 1),cO 16 (cM 112),cO 17 (cM 113)]).seq ((ops 0 [cO 114 (cM 17),cO 11 (cM 114)]).seq ((ops 0 [cO 115 (cM 16),cO 116 (cM 1),cO 117 (cB .sub (t 115) (t 116)),cO 118 (cM 2),cO 119 (cM 16),cO 120 (cB .sub (t 118) (t 119)),cO 18 (cM 117),cO 19 (cM 120)]).seq ((ops 0 [cO 121 (cM 12),cO 122 (cB .quo (t 121) (cN 8)),cO 20 (cM 122)]).seq ((ops 0 [cO 123 (cM 18),cO 124 (cM 19),cO 125 (cB .lss (t 123) (t 124))]).seq (C2.cond (t 125) ((ops 0 [cO 126 (cM 18),cO 127 (cM 20),cO 128 (cB .geq (t 126) (t 127)),cO 10 (cM 128)]).seq ((ops 0 [cO 129 (cM 0),cO 130 (cM 1),cO 131 (cM 16),cO 132 (cM 3),cO 133 (cM 4),cO 134 (call (cF 129) [t 129,t 130,t 131,t 132,t 133])]).seq (ops 0 [cO 135 (cM 16),cO 136 (cB .add (t 135) (cN 1)),cO 1 (cM 136)]))) ((ops 0 [cO 137 (cM 19),cO 138 (cM 20),cO 139 (cB .geq (t 137) (t 138)),cO 10 (cM 139)]).seq ((ops 0 [cO 140 (cM 0),cO 141 (cM 16),cO 142 (cB .add (t 141) (cN 1)),cO 143 (cM 2),cO 144 (cM 3),cO 145 (cM 4),cO 146 (call (cF 129) [t 140,t 142,t 143,t 144,t 145])]).seq (ops 0 [cO 147 (cM 16),cO 2 (cM 147)])))))))))))))))))).loop))))
theorem uH:Is Tryz.prog 129 wY:=Is.mk' Tryz.func129 (by kernel_rfl)
def yw:F2:=(F2.mk 6 [RV.t 2] ((ops 0 [cO 2 (mov au)]).seq ((ops 0 [cO 3 (cM 0),cO 4 (cM 0),cO 5 (cB .neq (t 3) (t 4)),cO 2 (cM 5)]).seq ret)))
theorem xR:Is Tryz.prog 130 yw:=Is.mk' Tryz.func130 (by kernel_rfl)
def yU:F2:=(F2.mk 53 [] ((ops 0 [cO 10 (cM 1),cO 11 (cB .add (t 10) (cN 1)),cO 8 (cM 11)]).seq (block 0 (((ops 0 [cO 12 (cM 8),cO 13 (cM 2),cO 14 (cB .lss (t 12) (t 13))]).seq (C2.cond (t 14) skip (exit 0))).seq ((block 1 ((ops 0 [cO 17 (cM 8),cO 9 (cM 17)]).seq (block 2 (((mixS 1 [cO 18 (cM 9),cO 19 (cM 1),cO 20 (cB .gtr (t 18) (t 19)),cO 21 (cM 20),cG 22 21 true (cM 3),cG 23 21 true (cM 0),cG 24 21 true (cM 9),cG 25 21 true (ixaS 2 (t 23) (t 24)),cG 26 21 true (ldn 2 (t 25)),cG 27 21 true (cM 0),cG 28 21 true (cM 9),cG 29 21 true (cB .sub (t 28) (cN 1)),cG 30 21 true (ixaS 2 (t 27) (t 29)),cG 31 21 true (ldn 2 (t 30)),cG 32 21 true (call (t 22) [t 26,t 31]),cG 33 21 true (cB .lss (t 32) (cN 0)),cO 34 (pick (t 21) (t 33) au)] [(0,0),(1,0),(2,0),(3,0),(4,0),(5,0),(6,0),(7,0),(8,0),(9,0),(10,0),(11,0),(12,0),(13,0),(14,2),(15,0),(16,0)]).seq (C2.cond (t 34) skip (exit 2))).seq ((block 3 (ops 1 [cO 37 (cM 0),cO 38 (cM 9),cO 39 (cM 0),cO 40 (cM 9),cO 41 (cB .sub (t 40) (cN 1)),cO 42 (cM 0),cO 43 (cM 9),cO 44 (cB .sub (t 43) (cN 1)),cO 45 (ixaS 2 (t 42) (t 44)),cO 46 (ldn 2 (t 45)),cO 47 (cM 0),cO 48 (cM 9),cO 49 (ixaS 2 (t 47) (t 48)),cO 50 (ldn 2 (t 49)),cO 51 (ixaS 2 (t 37) (t 38)),Op2.mk none none (Ins.st 2 (t 51) (t 46)),cO 52 (ixaS 2 (t 39) (t 41)),Op2.mk none none (Ins.st 2 (t 52) (t 50))])).seq (ops 0 [cO 35 (cM 9),cO 36 (cB .sub (t 35) (cN 1)),cO 9 (cM 36)]))).loop))).seq (ops 0 [cO 15 (cM 8),cO 16 (cB .add (t 15) (cN 1)),cO 8 (cM 16)]))).loop)))
theorem xQ:Is Tryz.prog 132 yU:=Is.mk' Tryz.func132 (by kernel_rfl)
def AS:F2:=(F2.mk 60 [] ((ops 0 [cO 13 (cM 1),cO 8 (cM 13)]).seq ((ops 0 [cO 9 (mov (cN 0))]).seq ((ops 0 [cO 14 (cM 2),cO 15 (cM 1),cO 16 (cB .sub (t 14) (t 15)),cO 10 (cM 16)]).seq (((ops 0 [cO 17 (cM 10),cO 18 (cB .sub (t 17) (cN 1)),cO 19 (cB .quo (t 18) (cN 2)),cO 11 (cM 19)]).seq (block 0 (((ops 0 [cO 20 (cM 11),cO 21 (cB .geq (t 20) (cN 0))]).seq (C2.cond (t 21) skip (exit 0))).seq ((block 1 (ops 0 [cO 24 (cM 0),cO 25 (cM 11),cO 26 (cM 10),cO 27 (cM 8),cO 28 (cM 3),cO 29 (call (cF 150) [t 24,t 25,t 26,t 27,t 28])])).seq (ops 0 [cO 22 (cM 11),cO 23 (cB .sub (t 22) (cN 1)),cO 11 (cM 23)]))).loop)).seq ((ops 0 [cO 30 (cM 10),cO 31 (cB .sub (t 30) (cN 1)),cO 12 (cM 31)]).seq (block 2 (((ops 0 [cO 32 (cM 12),cO 33 (cB .geq (t 32) (cN 0))]).seq (C2.cond (t 33) skip (exit 2))).seq ((block 3 ((ops 1 [cO 36 (cM 0),cO 37 (cM 8),cO 38 (cM 0),cO 39 (cM 8),cO 40 (cM 12),cO 41 (cB .add (t 39) (t 40)),cO 42 (cM 0),cO 43 (cM 8),cO 44 (cM 12),cO 45 (cB .add (t 43) (t 44)),cO 46 (ixaS 2 (t 42) (t 45)),cO 47 (ldn 2 (t 46)),cO 48 (cM 0),cO 49 (cM 8),cO 50 (ixaS 2 (t 48) (t 49)),cO 51 (ldn 2 (t 50)),cO 52 (ixaS 2 (t 36) (t 37)),Op2.mk none none (Ins.st 2 (t 52) (t 47)),cO 53 (ixaS 2 (t 38) (t 41)),Op2.mk none none (Ins.st 2 (t 53) (t 51))]).seq (ops 0 [cO 54 (cM 0),cO 55 (cM 9),cO 56 (cM 12),cO 57 (cM 8),cO 58 (cM 3),cO 59 (call (cF 150) [t 54,t 55,t 56,t 57,t 58])]))).seq (ops 0 [cO 34 (cM 12),cO 35 (cB .sub (t 34) (cN 1)),cO 12 (cM 35)]))).loop)))))))
theorem Ao:Is Tryz.prog 133 AS:=Is.mk' Tryz.func133 (by kernel_rfl)
def Ag:F2:=(F2.mk 67 [] ((ops 0 [cO 13 (cM 2),cO 14 (cM 1),cO 15 (cB .sub (t 13) (t 14)),cO 8 (cM 15)]).seq ((ops 0 [cO 16 (cM 8),cO 17 (cB .geq (t 16) (cN 8))]).seq (C2.cond (t 17) ((ops 0 [cO 18 (cM 8),cO 19 (conv IntKind.u64 (t 18)),cO 9 (alloc (AV.int IntKind.u64 (0))),Op2.mk none none (Ins.st 1 (t 9) (t 19))]).seq ((ops 0 [cO 20 (cM 8),cO 21 (call (cF 151) [t 20]),cO 10 (cM 21)]).seq ((ops 0 [cO 22 (cM 1),cO 23 (cM 8),cO 24 (cB .quo (t 23) (cN 4)),cO 25 (cB .mul (t 24) (cN 2)),cO 26 (cB .add (t 22) (t 25)),cO 27 (cB .sub (t 26) (cN 1)),cO 11 (cM 27)]).seq (block 0 (((ops 0 [cO 28 (cM 11),cO 29 (cM 1),cO 30 (cM 8),cO 31 (cB .quo (t 30) (cN 4)),cO 32 (cB .mul (t 31) (cN 2)),cO 33 (cB .add (t 29) (t 32)),cO 34 (cB .add (t 33) (cN 1)),cO 35 (cB .leq (t 28) (t 34))]).seq (C2.cond (t 35) skip (exit 0))).seq ((block 1 ((ops 0 [cO 38 (call (cF 152) [t 9]),cO 39 (cM 10),cO 40 (cB .sub (t 39) (c (AV.int IntKind.u64 (1)))),cO 41 (cB .and (t 38) (t 40)),cO 42 (conv IntKind.i64 (t 41)),cO 12 (cM 42)]).seq (((ops 0 [cO 43 (cM 12),cO 44 (cM 8),cO 45 (cB .geq (t 43) (t 44))]).seq (C2.cond (t 45) (ops 0 [cO 46 (cM 12),cO 47 (cM 8),cO 48 (cB .sub (t 46) (t 47)),cO 12 (cM 48)]) skip)).seq (ops 1 [cO 49 (cM 0),cO 50 (cM 11),cO 51 (cM 0),cO 52 (cM 1),cO 53 (cM 12),cO 54 (cB .add (t 52) (t 53)),cO 55 (cM 0),cO 56 (cM 1),cO 57 (cM 12),cO 58 (cB .add (t 56) (t 57)),cO 59 (ixaS 2 (t 55) (t 58)),cO 60 (ldn 2 (t 59)),cO 61 (cM 0),cO 62 (cM 11),cO 63 (ixaS 2 (t 61) (t 62)),cO 64 (ldn 2 (t 63)),cO 65 (ixaS 2 (t 49) (t 50)),Op2.mk none none (Ins.st 2 (t 65) (t 60)),cO 66 (ixaS 2 (t 51) (t 54)),Op2.mk none none (Ins.st 2 (t 66) (t 64))])))).seq (ops 0 [cO 36 (cM 11),cO 37 (cB .add (t 36) (cN 1)),cO 11 (cM 37)]))).loop)))) skip))))
theorem Bc:Is Tryz.prog 134 Ag:=Is.mk' Tryz.func134 (by kernel_rfl)
def z5:F2:=(F2.mk 63 [RV.t 8,RV.t 9] ((ops 0 [cO 8 (mov (cN 0)),cO 9 (mov (cN 0))]).seq ((ops 0 [cO 15 (cM 2),cO 16 (cM 1),cO 17 (cB .sub (t 15) (t 16)),cO 10 (cM 17)]).seq ((ops 0 [cO 11 (alloc (AV.int IntKind.i64 (0)))]).seq ((ops 0 [cO 18 (cM 1),cO 19 (cM 10),cO 20 (cB .quo (t 19) (cN 4)),cO 21 (cB .mul (t 20) (cN 1)),cO 22 (cB .add (t 18) (t 21)),cO 12 (cM 22)]).seq ((ops 0 [cO 23 (cM 1),cO 24 (cM 10),cO 25 (cB .quo (t 24) (cN 4)),cO 26 (cB .mul (t 25) (cN 2)),cO 27 (cB .add (t 23) (t 26)),cO 13 (cM 27)]).seq ((ops 0 [cO 28 (cM 1),cO 29 (cM 10),cO 30 (cB .quo (t 29) (cN 4)),cO 31 (cB .mul (t 30) (cN 3)),cO 32 (cB .add (t 28) (t 31)),cO 14 (cM 32)]).seq (((ops 0 [cO 33 (cM 10),cO 34 (cB .geq (t 33) (cN 8))]).seq (C2.cond (t 34) (((ops 0 [cO 35 (cM 10),cO 36 (cB .geq (t 35) (cN 50))]).seq (C2.cond (t 36) ((ops 0 [cO 37 (cM 0),cO 38 (cM 12),cO 39 (cM 3),cO 40 (call (cF 153) [t 37,t 38,t 11,t 39]),cO 12 (cM 40)]).seq ((ops 0 [cO 41 (cM 0),cO 42 (cM 13),cO 43 (cM 3),cO 44 (call (cF 153) [t 41,t 42,t 11,t 43]),cO 13 (cM 44)]).seq (ops 0 [cO 45 (cM 0),cO 46 (cM 14),cO 47 (cM 3),cO 48 (call (cF 153) [t 45,t 46,t 11,t 47]),cO 14 (cM 48)]))) skip)).seq (ops 0 [cO 49 (cM 0),cO 50 (cM 12),cO 51 (cM 13),cO 52 (cM 14),cO 53 (cM 3),cO 54 (call (cF 154) [t 49,t 50,t 51,t 52,t 11,t 53]),cO 13 (cM 54)])) skip)).seq ((ops 0 [cO 55 (cD 11)]).seq (block 0 ((ops 0 [cO 58 (cB .eql (t 55) (cN 0)),cO 57 (cM 58)]).seq (C2.cond (t 57) ((ops 0 [cO 59 (cM 13),cO 8 (cM 59),cO 9 (mov (cN 1))]).seq ret) ((ops 0 [cO 61 (cB .eql (t 55) (cN 12)),cO 60 (cM 61)]).seq (C2.cond (t 60) ((ops 0 [cO 62 (cM 13),cO 8 (cM 62),cO 9 (mov (cN 2))]).seq ret) ((ops 0 [cO 56 (cM 13),cO 8 (cM 56),cO 9 (mov (cN 0))]).seq ret)))))))))))))))
theorem Bg:Is Tryz.prog 135 z5:=Is.mk' Tryz.func135 (by kernel_rfl)
def AE:F2:=(F2.mk 34 [] ((ops 0 [cO 10 (cM 1),cO 8 (cM 10)]).seq ((ops 0 [cO 11 (cM 2),cO 12 (cB .sub (t 11) (cN 1)),cO 9 (cM 12)]).seq (block 0 (((ops 0 [cO 13 (cM 8),cO 14 (cM 9),cO 15 (cB .lss (t 13) (t 14))]).seq (C2.cond (t 15) skip (exit 0))).seq (block 1 ((ops 1 [cO 16 (cM 0),cO 17 (cM 8),cO 18 (cM 0),cO 19 (cM 9),cO 20 (cM 0),cO 21 (cM 9),cO 22 (ixaS 2 (t 20) (t 21)),cO 23 (ldn 2 (t 22)),cO 24 (cM 0),cO 25 (cM 8),cO 26 (ixaS 2 (t 24) (t 25)),cO 27 (ldn 2 (t 26)),cO 28 (ixaS 2 (t 16) (t 17)),Op2.mk none none (Ins.st 2 (t 28) (t 23)),cO 29 (ixaS 2 (t 18) (t 19)),Op2.mk none none (Ins.st 2 (t 29) (t 27))]).seq ((ops 0 [cO 30 (cM 8),cO 31 (cB .add (t 30) (cN 1)),cO 8 (cM 31)]).seq (ops 0 [cO 32 (cM 9),cO 33 (cB .sub (t 32) (cN 1)),cO 9 (cM 33)]))))).loop))))
theorem AJ:Is Tryz.prog 136 AE:=Is.mk' Tryz.func136 (by kernel_rfl)
def zD:F2:=(F2.mk 141 [RV.t 8] ((ops 0 [cO 8 (mov au)]).seq ((ops 0 [cO 13 (cM 1),cO 14 (cB .add (t 13) (cN 1)),cO 9 (cM 14)]).seq (((ops 0 [cO 10 (mov (cN 0))]).seq (block 0 (((ops 0 [cO 15 (cM 10),cO 16 (cB .lss (t 15) (cN 5))]).seq (C2.cond (t 16) skip (exit 0))).seq ((block 1 ((block 2 (((mixS 1 [cO 19 (cM 9),cO 20 (cM 2),cO 21 (cB .lss (t 19) (t 20)),cO 22 (cM 21),cG 23 22 true (cM 3),cG 24 22 true (cM 0),cG 25 22 true (cM 9),cG 26 22 true (ixaS 2 (t 24) (t 25)),cG 27 22 true (ldn 2 (t 26)),cG 28 22 true (cM 0),cG 29 22 true (cM 9),cG 30 22 true (cB .sub (t 29) (cN 1)),cG 31 22 true (ixaS 2 (t 28) (t 30)),cG 32 22 true (ldn 2 (t 31)),cG 33 22 true (call (t 23) [t 27,t 32]),cG 34 22 true (cB .lss (t 33) (cN 0)),cG 35 22 true (un UnOp.not (t 34)),cO 36 (pick (t 22) (t 35) au)] [(0,0),(1,0),(2,0),(3,0),(4,0),(5,0),(6,0),(7,0),(8,0),(9,0),(10,0),(11,0),(12,0),(13,0),(14,2),(15,0),(16,0),(17,0)]).seq (C2.cond (t 36) skip (exit 2))).seq (block 3 (ops 0 [cO 37 (cM 9),cO 38 (cB .add (t 37) (cN 1)),cO 9 (cM 38)]))).loop).seq (((ops 0 [cO 39 (cM 9),cO 40 (cM 2),cO 41 (cB .eql (t 39) (t 40))]).seq (C2.cond (t 41) ((ops 0 [cO 8 (mov aH)]).seq ret) skip)).seq (((ops 0 [cO 42 (cM 2),cO 43 (cM 1),cO 44 (cB .sub (t 42) (t 43)),cO 45 (cB .lss (t 44) (cN 50))]).seq (C2.cond (t 45) ((ops 0 [cO 8 (mov au)]).seq ret) skip)).seq ((ops 1 [cO 46 (cM 0),cO 47 (cM 9),cO 48 (cM 0),cO 49 (cM 9),cO 50 (cB .sub (t 49) (cN 1)),cO 51 (cM 0),cO 52 (cM 9),cO 53 (cB .sub (t 52) (cN 1)),cO 54 (ixaS 2 (t 51) (t 53)),cO 55 (ldn 2 (t 54)),cO 56 (cM 0),cO 57 (cM 9),cO 58 (ixaS 2 (t 56) (t 57)),cO 59 (ldn 2 (t 58)),cO 60 (ixaS 2 (t 46) (t 47)),Op2.mk none none (Ins.st 2 (t 60) (t 55)),cO 61 (ixaS 2 (t 48) (t 50)),Op2.mk none none (Ins.st 2 (t 61) (t 59))]).seq (((ops 0 [cO 62 (cM 9),cO 63 (cM 1),cO 64 (cB .sub (t 62) (t 63)),cO 65 (cB .geq (t 64) (cN 2))]).seq (C2.cond (t 65) ((ops 0 [cO 66 (cM 9),cO 67 (cB .sub (t 66) (cN 1)),cO 11 (cM 67)]).seq (block 4 (((ops 0 [cO 68 (cM 11),cO 69 (cB .geq (t 68) (cN 1))]).seq (C2.cond (t 69) skip (exit 4))).seq ((block 5 (((mixS 1 [cO 72 (cM 3),cO 73 (cM 0),cO 74 (cM 11),cO 75 (ixaS 2 (t 73) (t 74)),cO 76 (ldn 2 (t 75)),cO 77 (cM 0),cO 78 (cM 11),cO 79 (cB .sub (t 78) (cN 1)),cO 80 (ixaS 2 (t 77) (t 79)),cO 81 (ldn 2 (t 80)),cO 82 (call (t 72) [t 76,t 81]),cO 83 (cB .lss (t 82) (cN 0)),cO 84 (un UnOp.not (t 83))] [(0,0),(1,0),(2,0),(3,0),(4,0),(5,0),(6,0),(7,0),(8,0),(9,0),(10,2),(11,0),(12,0)]).seq (C2.cond (t 84) (exit 4) skip)).seq (ops 1 [cO 85 (cM 0),cO 86 (cM 11),cO 87 (cM 0),cO 88 (cM 11),cO 89 (cB .sub (t 88) (cN 1)),cO 90 (cM 0),cO 91 (cM 11),cO 92 (cB .sub (t 91) (cN 1)),cO 93 (ixaS 2 (t 90) (t 92)),cO 94 (ldn 2 (t 93)),cO 95 (cM 0),cO 96 (cM 11),cO 97 (ixaS 2 (t 95) (t 96)),cO 98 (ldn 2 (t 97)),cO 99 (ixaS 2 (t 85) (t 86)),Op2.mk none none (Ins.st 2 (t 99) (t 94)),cO 100 (ixaS 2 (t 87) (t 89)),Op2.mk none none (Ins.st 2 (t 100) (t 98))]))).seq (ops 0 [cO 70 (cM 11),cO 71 (cB .sub (t 70) (cN 1)),cO 11 (cM 71)]))).loop)) skip)).seq ((ops 0 [cO 101 (cM 2),cO 102 (cM 9),cO 103 (cB .sub (t 101) (t 102)),cO 104 (cB .geq (t 103) (cN 2))]).seq (C2.cond (t 104) ((ops 0 [cO 105 (cM 9),cO 106 (cB .add (t 105) (cN 1)),cO 12 (cM 106)]).seq (block 6 (((ops 0 [cO 107 (cM 12),cO 108 (cM 2),cO 109 (cB .lss (t 107) (t 108))]).seq (C2.cond (t 109) skip (exit 6))).seq ((block 7 (((mixS 1 [cO 112 (cM 3),cO 113 (cM 0),cO 114 (cM 12),cO 115 (ixaS 2 (t 113) (t 114)),cO 116 (ldn 2 (t 115)),cO 117 (cM 0),cO 118 (cM 12),cO 119 (cB .sub (t 118) (cN 1)),cO 120 (ixaS 2 (t 117) (t 119)),cO 121 (ldn 2 (t 120)),cO 122 (call (t 112) [t 116,t 121]),cO 123 (cB .lss (t 122) (cN 0)),cO 124 (un UnOp.not (t 123))] [(0,0),(1,0),(2,0),(3,0),(4,0),(5,0),(6,0),(7,0),(8,0),(9,0),(10,2),(11,0),(12,0)]).seq (C2.cond (t 124) (exit 6) skip)).seq (ops 1 [cO 125 (cM 0),cO 126 (cM 12),cO 127 (cM 0),cO 128 (cM 12),cO 129 (cB .sub (t 128) (cN 1)),cO 130 (cM 0),cO 131 (cM 12),cO 132 (cB .sub (t 131) (cN 1)),cO 133 (ixaS 2 (t 130) (t 132)),cO 134 (ldn 2 (t 133)),cO 135 (cM 0),cO 136 (cM 12),cO 137 (ixaS 2 (t 135) (t 136)),cO 138 (ldn 2 (t 137)),cO 139 (ixaS 2 (t 125) (t 126)),Op2.mk none none (Ins.st 2 (t 139) (t 134)),cO 140 (ixaS 2 (t 127) (t 129)),Op2.mk none none (Ins.st 2 (t 140) (t 138))]))).seq (ops 0 [cO 110 (cM 12),cO 111 (cB .add (t 110) (cN 1)),cO 12 (cM 111)]))).loop)) skip)))))))).seq (ops 0 [cO 17 (cM 10),cO 18 (cB .add (t 17) (cN 1)),cO 10 (cM 18)]))).loop)).seq ((ops 0 [cO 8 (mov au)]).seq ret)))))
theorem Ah:Is Tryz.prog 137 zD:=Is.mk' Tryz.func137 (by kernel_rfl)
def Aw:F2:=(F2.mk 90 [RV.t 10] ((ops 0 [cO 10 (mov (cN 0))]).seq ((ops 1 [cO 13 (cM 0),cO 14 (cM 1),cO 15 (cM 0),cO 16 (cM 3),cO 17 (cM 0),cO 18 (cM 3),cO 19 (ixaS 2 (t 17) (t 18)),cO 20 (ldn 2 (t 19)),cO 21 (cM 0),cO 22 (cM 1),cO 23 (ixaS 2 (t 21) (t 22)),cO 24 (ldn 2 (t 23)),cO 25 (ixaS 2 (t 13) (t 14)),Op2.mk none none (Ins.st 2 (t 25) (t 20)),cO 26 (ixaS 2 (t 15) (t 16)),Op2.mk none none (Ins.st 2 (t 26) (t 24))]).seq ((ops 0 [cO 27 (cM 1),cO 28 (cB .add (t 27) (cN 1)),cO 29 (cM 2),cO 30 (cB .sub (t 29) (cN 1)),cO 11 (cM 28),cO 12 (cM 30)]).seq ((block 0 (block 1 ((block 2 (((mixS 1 [cO 31 (cM 11),cO 32 (cM 12),cO 33 (cB .leq (t 31) (t 32)),cO 34 (cM 33),cG 35 34 true (cM 4),cG 36 34 true (cM 0),cG 37 34 true (cM 1),cG 38 34 true (ixaS 2 (t 36) (t 37)),cG 39 34 true (ldn 2 (t 38)),cG 40 34 true (cM 0),cG 41 34 true (cM 11),cG 42 34 true (ixaS 2 (t 40) (t 41)),cG 43 34 true (ldn 2 (t 42)),cG 44 34 true (call (t 35) [t 39,t 43]),cG 45 34 true (cB .lss (t 44) (cN 0)),cG 46 34 true (un UnOp.not (t 45)),cO 47 (pick (t 34) (t 46) au)] [(0,0),(1,0),(2,0),(3,0),(4,0),(5,0),(6,0),(7,0),(8,0),(9,0),(10,0),(11,0),(12,0),(13,2),(14,0),(15,0),(16,0)]).seq (C2.cond (t 47) skip (exit 2))).seq (block 3 (ops 0 [cO 48 (cM 11),cO 49 (cB .add (t 48) (cN 1)),cO 11 (cM 49)]))).loop).seq ((block 4 (((mixS 1 [cO 50 (cM 11),cO 51 (cM 12),cO 52 (cB .leq (t 50) (t 51)),cO 53 (cM 52),cG 54 53 true (cM 4),cG 55 53 true (cM 0),cG 56 53 true (cM 1),cG 57 53 true (ixaS 2 (t 55) (t 56)),cG 58 53 true (ldn 2 (t 57)),cG 59 53 true (cM 0),cG 60 53 true (cM 12),cG 61 53 true (ixaS 2 (t 59) (t 60)),cG 62 53 true (ldn 2 (t 61)),cG 63 53 true (call (t 54) [t 58,t 62]),cG 64 53 true (cB .lss (t 63) (cN 0)),cO 65 (pick (t 53) (t 64) au)] [(0,0),(1,0),(2,0),(3,0),(4,0),(5,0),(6,0),(7,0),(8,0),(9,0),(10,0),(11,0),(12,0),(13,2),(14,0),(15,0)]).seq (C2.cond (t 65) skip (exit 4))).seq (block 5 (ops 0 [cO 66 (cM 12),cO 67 (cB .sub (t 66) (cN 1)),cO 12 (cM 67)]))).loop).seq (((ops 0 [cO 68 (cM 11),cO 69 (cM 12),cO 70 (cB .gtr (t 68) (t 69))]).seq (C2.cond (t 70) (exit 0) skip)).seq ((ops 1 [cO 71 (cM 0),cO 72 (cM 11),cO 73 (cM 0),cO 74 (cM 12),cO 75 (cM 0),cO 76 (cM 12),cO 77 (ixaS 2 (t 75) (t 76)),cO 78 (ldn 2 (t 77)),cO 79 (cM 0),cO 80 (cM 11),cO 81 (ixaS 2 (t 79) (t 80)),cO 82 (ldn 2 (t 81)),cO 83 (ixaS 2 (t 71) (t 72)),Op2.mk none none (Ins.st 2 (t 83) (t 78)),cO 84 (ixaS 2 (t 73) (t 74)),Op2.mk none none (Ins.st 2 (t 84) (t 82))]).seq ((ops 0 [cO 85 (cM 11),cO 86 (cB .add (t 85) (cN 1)),cO 11 (cM 86)]).seq (ops 0 [cO 87 (cM 12),cO 88 (cB .sub (t 87) (cN 1)),cO 12 (cM 88)]))))))).loop).seq ((ops 0 [cO 89 (cM 11),cO 10 (cM 89)]).seq ret))))))
theorem Ad:Is Tryz.prog 138 Aw:=Is.mk' Tryz.func138 (by kernel_rfl)
def AB:F2:=(F2.mk 178 [RV.t 10,RV.t 11] ((ops 0 [cO 10 (mov (cN 0)),cO 11 (mov au)]).seq ((ops 1 [cO 14 (cM 0),cO 15 (cM 1),cO 16 (cM 0),cO 17 (cM 3),cO 18 (cM 0),cO 19 (cM 3),cO 20 (ixaS 2 (t 18) (t 19)),cO 21 (ldn 2 (t 20)),cO 22 (cM 0),cO 23 (cM 1),cO 24 (ixaS 2 (t 22) (t 23)),cO 25 (ldn 2 (t 24)),cO 26 (ixaS 2 (t 14) (t 15)),Op2.mk none none (Ins.st 2 (t 26) (t 21)),cO 27 (ixaS 2 (t 16) (t 17)),Op2.mk none none (Ins.st 2 (t 27) (t 25))]).seq ((ops 0 [cO 28 (cM 1),cO 29 (cB .add (t 28) (cN 1)),cO 30 (cM 2),cO 31 (cB .sub (t 30) (cN 1)),cO 12 (cM 29),cO 13 (cM 31)]).seq ((block 0 (((mixS 1 [cO 32 (cM 12),cO 33 (cM 13),cO 34 (cB .leq (t 32) (t 33)),cO 35 (cM 34),cG 36 35 true (cM 4),cG 37 35 true (cM 0),cG 38 35 true (cM 12),cG 39 35 true (ixaS 2 (t 37) (t 38)),cG 40 35 true (ldn 2 (t 39)),cG 41 35 true (cM 0),cG 42 35 true (cM 1),cG 43 35 true (ixaS 2 (t 41) (t 42)),cG 44 35 true (ldn 2 (t 43)),cG 45 35 true (call (t 36) [t 40,t 44]),cG 46 35 true (cB .lss (t 45) (cN 0)),cO 47 (pick (t 35) (t 46) au)] [(0,0),(1,0),(2,0),(3,0),(4,0),(5,0),(6,0),(7,0),(8,0),(9,0),(10,0),(11,0),(12,0),(13,2),(14,0),(15,0)]).seq (C2.cond (t 47) skip (exit 0))).seq (block 1 (ops 0 [cO 48 (cM 12),cO 49 (cB .add (t 48) (cN 1)),cO 12 (cM 49)]))).loop).seq ((block 2 (((mixS 1 [cO 50 (cM 12),cO 51 (cM 13),cO 52 (cB .leq (t 50) (t 51)),cO 53 (cM 52),cG 54 53 true (cM 4),cG 55 53 true (cM 0),cG 56 53 true (cM 13),cG 57 53 true (ixaS 2 (t 55) (t 56)),cG 58 53 true (ldn 2 (t 57)),cG 59 53 true (cM 0),cG 60 53 true (cM 1),cG 61 53 true (ixaS 2 (t 59) (t 60)),cG 62 53 true (ldn 2 (t 61)),cG 63 53 true (call (t 54) [t 58,t 62]),cG 64 53 true (cB .lss (t 63) (cN 0)),cG 65 53 true (un UnOp.not (t 64)),cO 66 (pick (t 53) (t 65) au)] [(0,0),(1,0),(2,0),(3,0),(4,0),(5,0),(6,0),(7,0),(8,0),(9,0),(10,0),(11,0),(12,0),(13,2),(14,0),(15,0),(16,0)]).seq (C2.cond (t 66) skip (exit 2))).seq (block 3 (ops 0 [cO 67 (cM 13),cO 68 (cB .sub (t 67) (cN 1)),cO 13 (cM 68)]))).loop).seq (((ops 0 [cO 69 (cM 12),cO 70 (cM 13),cO 71 (cB .gtr (t 69) (t 70))]).seq (C2.cond (t 71) ((ops 1 [cO 72 (cM 0),cO 73 (cM 13),cO 74 (cM 0),cO 75 (cM 1),cO 76 (cM 0),cO 77 (cM 1),cO 78 (ixaS 2 (t 76) (t 77)),cO 79 (ldn 2 (t 78)),cO 80 (cM 0),cO 81 (cM 13),cO 82 (ixaS 2 (t 80) (t 81)),cO 83 (ldn 2 (t 82)),cO 84 (ixaS 2 (t 72) (t 73)),Op2.mk none none (Ins.st 2 (t 84) (t 79)),cO 85 (ixaS 2 (t 74) (t 75)),Op2.mk none none (Ins.st 2 (t 85) (t 83))]).seq ((ops 0 [cO 86 (cM 13),cO 10 (cM 86),cO 11 (mov aH)]).seq ret)) skip)).seq ((ops 1 [cO 87 (cM 0),cO 88 (cM 12),cO 89 (cM 0),cO 90 (cM 13),cO 91 (cM 0),cO 92 (cM 13),cO 93 (ixaS 2 (t 91) (t 92)),cO 94 (ldn 2 (t 93)),cO 95 (cM 0),cO 96 (cM 12),cO 97 (ixaS 2 (t 95) (t 96)),cO 98 (ldn 2 (t 97)),cO 99 (ixaS 2 (t 87) (t 88)),Op2.mk none none (Ins.st 2 (t 99) (t 94)),cO 100 (ixaS 2 (t 89) (t 90)),Op2.mk none none (Ins.st 2 (t 100) (t 98))]).seq ((ops 0 [cO 101 (cM 12),cO 102 (cB .add (t 101) (cN 1)),cO 12 (cM 102)]).seq ((ops 0 [cO 103 (cM 13),cO 104 (cB .sub (t 103) (cN 1)),cO 13 (cM 104)]).seq ((block 4 (block 5 ((block 6 (((mixS 1 [cO 105 (cM 12),cO 106 (cM 13),cO 107 (cB .leq (t 105) (t 106)),cO 108 (cM 107),cG 109 108 true (cM 4),cG 110 108 true (cM 0),cG 111 108 true (cM 12),cG 112 108 true (ixaS 2 (t 110) (t 111)),cG 113 108 true (ldn 2 (t 112)),cG 114 108 true (cM 0),cG 115 108 true (cM 1),cG 116 108 true (ixaS 2 (t 114) (t 115)),cG 117 108 true (ldn 2 (t 116)),cG 118 108 true (call (t 109) [t 113,t 117]),cG 119 108 true (cB .lss (t 118) (cN 0)),cO 120 (pick (t 108) (t 119) au)] [(0,0),(1,0),(2,0),(3,0),(4,0),(5,0),(6,0),(7,0),(8,0),(9,0),(10,0),(11,0),(12,0),(13,2),(14,0),(15,0)]).seq (C2.cond (t 120) skip (exit 6))).seq (block 7 (ops 0 [cO 121 (cM 12),cO 122 (cB .add (t 121) (cN 1)),cO 12 (cM 122)]))).loop).seq ((block 8 (((mixS 1 [cO 123 (cM 12),cO 124 (cM 13),cO 125 (cB .leq (t 123) (t 124)),cO 126 (cM 125),cG 127 126 true (cM 4),cG 128 126 true (cM 0),cG 129 126 true (cM 13),cG 130 126 true (ixaS 2 (t 128) (t 129)),cG 131 126 true (ldn 2 (t 130)),cG 132 126 true (cM 0),cG 133 126 true (cM 1),cG 134 126 true (ixaS 2 (t 132) (t 133)),cG 135 126 true (ldn 2 (t 134)),cG 136 126 true (call (t 127) [t 131,t 135]),cG 137 126 true (cB .lss (t 136) (cN 0)),cG 138 126 true (un UnOp.not (t 137)),cO 139 (pick (t 126) (t 138) au)] [(0,0),(1,0),(2,0),(3,0),(4,0),(5,0),(6,0),(7,0),(8,0),(9,0),(10,0),(11,0),(12,0),(13,2),(14,0),(15,0),(16,0)]).seq (C2.cond (t 139) skip (exit 8))).seq (block 9 (ops 0 [cO 140 (cM 13),cO 141 (cB .sub (t 140) (cN 1)),cO 13 (cM 141)]))).loop).seq (((ops 0 [cO 142 (cM 12),cO 143 (cM 13),cO 144 (cB .gtr (t 142) (t 143))]).seq (C2.cond (t 144) (exit 4) skip)).seq ((ops 1 [cO 145 (cM 0),cO 146 (cM 12),cO 147 (cM 0),cO 148 (cM 13),cO 149 (cM 0),cO 150 (cM 13),cO 151 (ixaS 2 (t 149) (t 150)),cO 152 (ldn 2 (t 151)),cO 153 (cM 0),cO 154 (cM 12),cO 155 (ixaS 2 (t 153) (t 154)),cO 156 (ldn 2 (t 155)),cO 157 (ixaS 2 (t 145) (t 146)),Op2.mk none none (Ins.st 2 (t 157) (t 152)),cO 158 (ixaS 2 (t 147) (t 148)),Op2.mk none none (Ins.st 2 (t 158) (t 156))]).seq ((ops 0 [cO 159 (cM 12),cO 160 (cB .add (t 159) (cN 1)),cO 12 (cM 160)]).seq (ops 0 [cO 161 (cM 13),cO 162 (cB .sub (t 161) (cN 1)),cO 13 (cM 162)]))))))).loop).seq ((ops 1 [cO 163 (cM 0),cO 164 (cM 13),cO 165 (cM 0),cO 166 (cM 1),cO 167 (cM 0),cO 168 (cM 1),cO 169 (ixaS 2 (t 167) (t 168)),cO 170 (ldn 2 (t 169)),cO 171 (cM 0),cO 172 (cM 13),cO 173 (ixaS 2 (t 171) (t 172)),cO 174 (ldn 2 (t 173)),cO 175 (ixaS 2 (t 163) (t 164)),Op2.mk none none (Ins.st 2 (t 175) (t 170)),cO 176 (ixaS 2 (t 165) (t 166)),Op2.mk none none (Ins.st 2 (t 176) (t 174))]).seq ((ops 0 [cO 177 (cM 13),cO 10 (cM 177),cO 11 (mov au)]).seq ret)))))))))))))
theorem zx:Is Tryz.prog 139 AB:=Is.mk' Tryz.func139 (by kernel_rfl)
def xq:F2:=(F2.mk 25 [RV.t 2] ((ops 0 [cO 2 (mov (cN 0))]).seq (((ops 0 [cO 3 (cM 0),cO 4 (cB .geq (t 3) (c (AV.int IntKind.u64 (4294967296))))]).seq (C2.cond (t 4) ((ops 0 [cO 5 (cM 0),cO 6 (cB .shr (t 5) (c (AV.int IntKind.u64 (32)))),cO 0 (cM 6)]).seq (ops 0 [cO 2 (mov (cN 32))])) skip)).seq (((ops 0 [cO 7 (cM 0),cO 8 (cB .geq (t 7) (c (AV.int IntKind.u64 (65536))))]).seq (C2.cond (t 8) ((ops 0 [cO 9 (cM 0),cO 10 (cB .shr (t 9) (c (AV.int IntKind.u64 (16)))),cO 0 (cM 10)]).seq (ops 0 [cO 11 (cM 2),cO 12 (cB .add (t 11) (cN 16)),cO 2 (cM 12)])) skip)).seq (((ops 0 [cO 13 (cM 0),cO 14 (cB .geq (t 13) (c (AV.int IntKind.u64 (256))))]).seq (C2.cond (t 14) ((ops 0 [cO 15 (cM 0),cO 16 (cB .shr (t 15) (c (AV.int IntKind.u64 (8)))),cO 0 (cM 16)]).seq (ops 0 [cO 17 (cM 2),cO 18 (cB .add (t 17) (cN 8)),cO 2 (cM 18)])) skip)).seq ((ops 0 [cO 19 (cM 2),cO 20 (cM 0),cO 21 (conv IntKind.u8 (t 20)),cO 22 (ixStr (c (AV.str (ByteArray.mk (Array.mk [0,1,2,2,3,3,3,3,4,4,4,4,4,4,4,4,5,5,5,5,5,5,5,5,5,5,5,5,5,5,5,5,6,6,6,6,6,6,6,6,6,6,6,6,6,6,6,6,6,6,6,6,6,6,6,6,6,6,6,6,6,6,6,6,7,7,7,7,7,7,7,7,7,7,7,7,7,7,7,7,7,7,7,7,7,7,7,7,7,7,7,7,7,7,7,7,7,7,7,7,7,7,7,7,7,7,7,7,7,7,7,7,7,7,7,7,7,7,7,7,7,7,7,7,7,7,7,7,8,8,8,8,8,8,8,8,8,8,8,8,8,8,8,8,8,8,8,8,8,8,8,8,8,8,8,8,8,8,8,8,8,8,8,8,8,8,8,8,8,8,8,8,8,8,8,8,8,8,8,8,8,8,8,8,8,8,8,8,8,8,8,8,8,8,8,8,8,8,8,8,8,8,8,8,8,8,8,8,8,8,8,8,8,8,8,8,8,8,8,8,8,8,8,8,8,8,8,8,8,8,8,8,8,8,8,8,8,8,8,8,8,8,8,8,8,8,8,8,8,8,8,8,8,8,8,8])))) (t 21)),cO 23 (conv IntKind.i64 (t 22)),cO 24 (cB .add (t 19) (t 23)),cO 2 (cM 24)]).seq ret))))))
theorem vA:Is Tryz.prog 141 xq:=Is.mk' Tryz.func141 (by kernel_rfl)
def wL:F2:=(F2.mk 53 [] ((ops 0 [cO 10 (cM 1),cO 11 (cB .add (t 10) (cN 1)),cO 8 (cM 11)]).seq (block 0 (((ops 0 [cO 12 (cM 8),cO 13 (cM 2),cO 14 (cB .lss (t 12) (t 13))]).seq (C2.cond (t 14) skip (exit 0))).seq ((block 1 ((ops 0 [cO 17 (cM 8),cO 9 (cM 17)]).seq (block 2 (((mixS 1 [cO 18 (cM 9),cO 19 (cM 1),cO 20 (cB .gtr (t 18) (t 19)),cO 21 (cM 20),cG 22 21 true (cM 3),cG 23 21 true (cM 0),cG 24 21 true (cM 9),cG 25 21 true (ixaS 1 (t 23) (t 24)),cG 26 21 true (cD 25),cG 27 21 true (cM 0),cG 28 21 true (cM 9),cG 29 21 true (cB .sub (t 28) (cN 1)),cG 30 21 true (ixaS 1 (t 27) (t 29)),cG 31 21 true (cD 30),cG 32 21 true (call (t 22) [t 26,t 31]),cG 33 21 true (cB .lss (t 32) (cN 0)),cO 34 (pick (t 21) (t 33) au)] [(0,0),(1,0),(2,0),(3,0),(4,0),(5,0),(6,0),(7,0),(8,0),(9,0),(10,0),(11,0),(12,0),(13,0),(14,2),(15,0),(16,0)]).seq (C2.cond (t 34) skip (exit 2))).seq ((block 3 (ops 1 [cO 37 (cM 0),cO 38 (cM 9),cO 39 (cM 0),cO 40 (cM 9),cO 41 (cB .sub (t 40) (cN 1)),cO 42 (cM 0),cO 43 (cM 9),cO 44 (cB .sub (t 43) (cN 1)),cO 45 (ixaS 1 (t 42) (t 44)),cO 46 (cD 45),cO 47 (cM 0),cO 48 (cM 9),cO 49 (ixaS 1 (t 47) (t 48)),cO 50 (cD 49),cO 51 (ixaS 1 (t 37) (t 38)),Op2.mk none none (Ins.st 1 (t 51) (t 46)),cO 52 (ixaS 1 (t 39) (t 41)),Op2.mk none none (Ins.st 1 (t 52) (t 50))])).seq (ops 0 [cO 35 (cM 9),cO 36 (cB .sub (t 35) (cN 1)),cO 9 (cM 36)]))).loop))).seq (ops 0 [cO 15 (cM 8),cO 16 (cB .add (t 15) (cN 1)),cO 8 (cM 16)]))).loop)))
theorem uJ:Is Tryz.prog 142 wL:=Is.mk' Tryz.func142 (by kernel_rfl)
def zt:F2:=(F2.mk 60 [] ((ops 0 [cO 13 (cM 1),cO 8 (cM 13)]).seq ((ops 0 [cO 9 (mov (cN 0))]).seq ((ops 0 [cO 14 (cM 2),cO 15 (cM 1),cO 16 (cB .sub (t 14) (t 15)),cO 10 (cM 16)]).seq (((ops 0 [cO 17 (cM 10),cO 18 (cB .sub (t 17) (cN 1)),cO 19 (cB .quo (t 18) (cN 2)),cO 11 (cM 19)]).seq (block 0 (((ops 0 [cO 20 (cM 11),cO 21 (cB .geq (t 20) (cN 0))]).seq (C2.cond (t 21) skip (exit 0))).seq ((block 1 (ops 0 [cO 24 (cM 0),cO 25 (cM 11),cO 26 (cM 10),cO 27 (cM 8),cO 28 (cM 3),cO 29 (call (cF 155) [t 24,t 25,t 26,t 27,t 28])])).seq (ops 0 [cO 22 (cM 11),cO 23 (cB .sub (t 22) (cN 1)),cO 11 (cM 23)]))).loop)).seq ((ops 0 [cO 30 (cM 10),cO 31 (cB .sub (t 30) (cN 1)),cO 12 (cM 31)]).seq (block 2 (((ops 0 [cO 32 (cM 12),cO 33 (cB .geq (t 32) (cN 0))]).seq (C2.cond (t 33) skip (exit 2))).seq ((block 3 ((ops 1 [cO 36 (cM 0),cO 37 (cM 8),cO 38 (cM 0),cO 39 (cM 8),cO 40 (cM 12),cO 41 (cB .add (t 39) (t 40)),cO 42 (cM 0),cO 43 (cM 8),cO 44 (cM 12),cO 45 (cB .add (t 43) (t 44)),cO 46 (ixaS 1 (t 42) (t 45)),cO 47 (cD 46),cO 48 (cM 0),cO 49 (cM 8),cO 50 (ixaS 1 (t 48) (t 49)),cO 51 (cD 50),cO 52 (ixaS 1 (t 36) (t 37)),Op2.mk none none (Ins.st 1 (t 52) (t 47)),cO 53 (ixaS 1 (t 38) (t 41)),Op2.mk none none (Ins.st 1 (t 53) (t 51))]).seq (ops 0 [cO 54 (cM 0),cO 55 (cM 9),cO 56 (cM 12),cO 57 (cM 8),cO 58 (cM 3),cO 59 (call (cF 155) [t 54,t 55,t 56,t 57,t 58])]))).seq (ops 0 [cO 34 (cM 12),cO 35 (cB .sub (t 34) (cN 1)),cO 12 (cM 35)]))).loop)))))))
theorem A3:Is Tryz.prog 143 zt:=Is.mk' Tryz.func143 (by kernel_rfl)
def AC:F2:=(F2.mk 67 [] ((ops 0 [cO 13 (cM 2),cO 14 (cM 1),cO 15 (cB .sub (t 13) (t 14)),cO 8 (cM 15)]).seq ((ops 0 [cO 16 (cM 8),cO 17 (cB .geq (t 16) (cN 8))]).seq (C2.cond (t 17) ((ops 0 [cO 18 (cM 8),cO 19 (conv IntKind.u64 (t 18)),cO 9 (alloc (AV.int IntKind.u64 (0))),Op2.mk none none (Ins.st 1 (t 9) (t 19))]).seq ((ops 0 [cO 20 (cM 8),cO 21 (call (cF 151) [t 20]),cO 10 (cM 21)]).seq ((ops 0 [cO 22 (cM 1),cO 23 (cM 8),cO 24 (cB .quo (t 23) (cN 4)),cO 25 (cB .mul (t 24) (cN 2)),cO 26 (cB .add (t 22) (t 25)),cO 27 (cB .sub (t 26) (cN 1)),cO 11 (cM 27)]).seq (block 0 (((ops 0 [cO 28 (cM 11),cO 29 (cM 1),cO 30 (cM 8),cO 31 (cB .quo (t 30) (cN 4)),cO 32 (cB .mul (t 31) (cN 2)),cO 33 (cB .add (t 29) (t 32)),cO 34 (cB .add (t 33) (cN 1)),cO 35 (cB .leq (t 28) (t 34))]).seq (C2.cond (t 35) skip (exit 0))).seq ((block 1 ((ops 0 [cO 38 (call (cF 152) [t 9]),cO 39 (cM 10),cO 40 (cB .sub (t 39) (c (AV.int IntKind.u64 (1)))),cO 41 (cB .and (t 38) (t 40)),cO 42 (conv IntKind.i64 (t 41)),cO 12 (cM 42)]).seq (((ops 0 [cO 43 (cM 12),cO 44 (cM 8),cO 45 (cB .geq (t 43) (t 44))]).seq (C2.cond (t 45) (ops 0 [cO 46 (cM 12),cO 47 (cM 8),cO 48 (cB .sub (t 46) (t 47)),cO 12 (cM 48)]) skip)).seq (ops 1 [cO 49 (cM 0),cO 50 (cM 11),cO 51 (cM 0),cO 52 (cM 1),cO 53 (cM 12),cO 54 (cB .add (t 52) (t 53)),cO 55 (cM 0),cO 56 (cM 1),cO 57 (cM 12),cO 58 (cB .add (t 56) (t 57)),cO 59 (ixaS 1 (t 55) (t 58)),cO 60 (cD 59),cO 61 (cM 0),cO 62 (cM 11),cO 63 (ixaS 1 (t 61) (t 62)),cO 64 (cD 63),cO 65 (ixaS 1 (t 49) (t 50)),Op2.mk none none (Ins.st 1 (t 65) (t 60)),cO 66 (ixaS 1 (t 51) (t 54)),Op2.mk none none (Ins.st 1 (t 66) (t 64))])))).seq (ops 0 [cO 36 (cM 11),cO 37 (cB .add (t 36) (cN 1)),cO 11 (cM 37)]))).loop)))) skip))))
theorem za:Is Tryz.prog 144 AC:=Is.mk' Tryz.func144 (by kernel_rfl)
def Bt:F2:=(F2.mk 63 [RV.t 8,RV.t 9] ((ops 0 [cO 8 (mov (cN 0)),cO 9 (mov (cN 0))]).seq ((ops 0 [cO 15 (cM 2),cO 16 (cM 1),cO 17 (cB .sub (t 15) (t 16)),cO 10 (cM 17)]).seq ((ops 0 [cO 11 (alloc (AV.int IntKind.i64 (0)))]).seq ((ops 0 [cO 18 (cM 1),cO 19 (cM 10),cO 20 (cB .quo (t 19) (cN 4)),cO 21 (cB .mul (t 20) (cN 1)),cO 22 (cB .add (t 18) (t 21)),cO 12 (cM 22)]).seq ((ops 0 [cO 23 (cM 1),cO 24 (cM 10),cO 25 (cB .quo (t 24) (cN 4)),cO 26 (cB .mul (t 25) (cN 2)),cO 27 (cB .add (t 23) (t 26)),cO 13 (cM 27)]).seq ((ops 0 [cO 28 (cM 1),cO 29 (cM 10),cO 30 (cB .quo (t 29) (cN 4)),cO 31 (cB .mul (t 30) (cN 3)),cO 32 (cB .add (t 28) (t 31)),cO 14 (cM 32)]).seq (((ops 0 [cO 33 (cM 10),cO 34 (cB .geq (t 33) (cN 8))]).seq (C2.cond (t 34) (((ops 0 [cO 35 (cM 10),cO 36 (cB .geq (t 35) (cN 50))]).seq (C2.cond (t 36) ((ops 0 [cO 37 (cM 0),cO 38 (cM 12),cO 39 (cM 3),cO 40 (call (cF 156) [t 37,t 38,t 11,t 39]),cO 12 (cM 40)]).seq ((ops 0 [cO 41 (cM 0),cO 42 (cM 13),cO 43 (cM 3),cO 44 (call (cF 156) [t 41,t 42,t 11,t 43]),cO 13 (cM 44)]).seq (ops 0 [cO 45 (cM 0),cO 46 (cM 14),cO 47 (cM 3),cO 48 (call (cF 156) [t 45,t 46,t 11,t 47]),cO 14 (cM 48)]))) skip)).seq (ops 0 [cO 49 (cM 0),cO 50 (cM 12),cO 51 (cM 13),cO 52 (cM 14),cO 53 (cM 3),cO 54 (call (cF 157) [t 49,t 50,t 51,t 52,t 11,t 53]),cO 13 (cM 54)])) skip)).seq ((ops 0 [cO 55 (cD 11)]).seq (block 0 ((ops 0 [cO 58 (cB .eql (t 55) (cN 0)),cO 57 (cM 58)]).seq (C2.cond (t 57) ((ops 0 [cO 59 (cM 13),cO 8 (cM 59),cO 9 (mov (cN 1))]).seq ret) ((ops 0 [cO 61 (cB .eql (t 55) (cN 12)),cO 60 (cM 61)]).seq (C2.cond (t 60) ((ops 0 [cO 62 (cM 13),cO 8 (cM 62),cO 9 (mov (cN 2))]).seq ret) ((ops 0 [cO 56 (cM 13),cO 8 (cM 56),cO 9 (mov (cN 0))]).seq ret)))))))))))))))
theorem zG:Is Tryz.prog 145 Bt:=Is.mk' Tryz.func145 (by kernel_rfl)
def A2:F2:=(F2.mk 34 [] ((ops 0 [cO 10 (cM 1),cO 8 (cM 10)]).seq ((ops 0 [cO 11 (cM 2),cO 12 (cB .sub (t 11) (cN 1)),cO 9 (cM 12)]).seq (block 0 (((ops 0 [cO 13 (cM 8),cO 14 (cM 9),cO 15 (cB .lss (t 13) (t 14))]).seq (C2.cond (t 15) skip (exit 0))).seq (block 1 ((ops 1 [cO 16 (cM 0),cO 17 (cM 8),cO 18 (cM 0),cO 19 (cM 9),cO 20 (cM 0),cO 21 (cM 9),cO 22 (ixaS 1 (t 20) (t 21)),cO 23 (cD 22),cO 24 (cM 0),cO 25 (cM 8),cO 26 (ixaS 1 (t 24) (t 25)),cO 27 (cD 26),cO 28 (ixaS 1 (t 16) (t 17)),Op2.mk none none (Ins.st 1 (t 28) (t 23)),cO 29 (ixaS 1 (t 18) (t 19)),Op2.mk none none (Ins.st 1 (t 29) (t 27))]).seq ((ops 0 [cO 30 (cM 8),cO 31 (cB .add (t 30) (cN 1)),cO 8 (cM 31)]).seq (ops 0 [cO 32 (cM 9),cO 33 (cB .sub (t 32) (cN 1)),cO 9 (cM 33)]))))).loop))))
theorem Bk:Is Tryz.prog 146 A2:=Is.mk' Tryz.func146 (by kernel_rfl)
def Aj:F2:=(F2.mk 141 [RV.t 8] ((ops 0 [cO 8 (mov au)]).seq ((ops 0 [cO 13 (cM 1),cO 14 (cB .add (t 13) (cN 1)),cO 9 (cM 14)]).seq (((ops 0 [cO 10 (mov (cN 0))]).seq (block 0 (((ops 0 [cO 15 (cM 10),cO 16 (cB .lss (t 15) (cN 5))]).seq (C2.cond (t 16) skip (exit 0))).seq ((block 1 ((block 2 (((mixS 1 [cO 19 (cM 9),cO 20 (cM 2),cO 21 (cB .lss (t 19) (t 20)),cO 22 (cM 21),cG 23 22 true (cM 3),cG 24 22 true (cM 0),cG 25 22 true (cM 9),cG 26 22 true (ixaS 1 (t 24) (t 25)),cG 27 22 true (cD 26),cG 28 22 true (cM 0),cG 29 22 true (cM 9),cG 30 22 true (cB .sub (t 29) (cN 1)),cG 31 22 true (ixaS 1 (t 28) (t 30)),cG 32 22 true (cD 31),cG 33 22 true (call (t 23) [t 27,t 32]),cG 34 22 true (cB .lss (t 33) (cN 0)),cG 35 22 true (un UnOp.not (t 34)),cO 36 (pick (t 22) (t 35) au)] [(0,0),(1,0),(2,0),(3,0),(4,0),(5,0),(6,0),(7,0),(8,0),(9,0),(10,0),(11,0),(12,0),(13,0),(14,2),(15,0),(16,0),(17,0)]).seq (C2.cond (t 36) skip (exit 2))).seq (block 3 (ops 0 [cO 37 (cM 9),cO 38 (cB .add (t 37) (cN 1)),cO 9 (cM 38)]))).loop).seq (((ops 0 [cO 39 (cM 9),cO 40 (cM 2),cO 41 (cB .eql (t 39) (t 40))]).seq (C2.cond (t 41) ((ops 0 [cO 8 (mov aH)]).seq ret) skip)).seq (((ops 0 [cO 42 (cM 2),cO 43 (cM 1),cO 44 (cB .sub (t 42) (t 43)),cO 45 (cB .lss (t 44) (cN 50))]).seq (C2.cond (t 45) ((ops 0 [cO 8 (mov au)]).seq ret) skip)).seq ((ops 1 [cO 46 (cM 0),cO 47 (cM 9),cO 48 (cM 0),cO 49 (cM 9),cO 50 (cB .sub (t 49) (cN 1)),cO 51 (cM 0),cO 52 (cM 9),cO 53 (cB .sub (t 52) (cN 1)),cO 54 (ixaS 1 (t 51) (t 53)),cO 55 (cD 54),cO 56 (cM 0),cO 57 (cM 9),cO 58 (ixaS 1 (t 56) (t 57)),cO 59 (cD 58),cO 60 (ixaS 1 (t 46) (t 47)),Op2.mk none none (Ins.st 1 (t 60) (t 55)),cO 61 (ixaS 1 (t 48) (t 50)),Op2.mk none none (Ins.st 1 (t 61) (t 59))]).seq (((ops 0 [cO 62 (cM 9),cO 63 (cM 1),cO 64 (cB .sub (t 62) (t 63)),cO 65 (cB .geq (t 64) (cN 2))]).seq (C2.cond (t 65) ((ops 0 [cO 66 (cM 9),cO 67 (cB .sub (t 66) (cN 1)),cO 11 (cM 67)]).seq (block 4 (((ops 0 [cO 68 (cM 11),cO 69 (cB .geq (t 68) (cN 1))]).seq (C2.cond (t 69) skip (exit 4))).seq ((block 5 (((mixS 1 [cO 72 (cM 3),cO 73 (cM 0),cO 74 (cM 11),cO 75 (ixaS 1 (t 73) (t 74)),cO 76 (cD 75),cO 77 (cM 0),cO 78 (cM 11),cO 79 (cB .sub (t 78) (cN 1)),cO 80 (ixaS 1 (t 77) (t 79)),cO 81 (cD 80),cO 82 (call (t 72) [t 76,t 81]),cO 83 (cB .lss (t 82) (cN 0)),cO 84 (un UnOp.not (t 83))] [(0,0),(1,0),(2,0),(3,0),(4,0),(5,0),(6,0),(7,0),(8,0),(9,0),(10,2),(11,0),(12,0)]).seq (C2.cond (t 84) (exit 4) skip)).seq (ops 1 [cO 85 (cM 0),cO 86 (cM 11),cO 87 (cM 0),cO 88 (cM 11),cO 89 (cB .sub (t 88) (cN 1)),cO 90 (cM 0),cO 91 (cM 11),cO 92 (cB .sub (t 91) (cN 1)),cO 93 (ixaS 1 (t 90) (t 92)),cO 94 (cD 93),cO 95 (cM 0),cO 96 (cM 11),cO 97 (ixaS 1 (t 95) (t 96)),cO 98 (cD 97),cO 99 (ixaS 1 (t 85) (t 86)),Op2.mk none none (Ins.st 1 (t 99) (t 94)),cO 100 (ixaS 1 (t 87) (t 89)),Op2.mk none none (Ins.st 1 (t 100) (t 98))]))).seq (ops 0 [cO 70 (cM 11),cO 71 (cB .sub (t 70) (cN 1)),cO 11 (cM 71)]))).loop)) skip)).seq ((ops 0 [cO 101 (cM 2),cO 102 (cM 9),cO 103 (cB .sub (t 101) (t 102)),cO 104 (cB .geq (t 103) (cN 2))]).seq (C2.cond (t 104) ((ops 0 [cO 105 (cM 9),cO 106 (cB .add (t 105) (cN 1)),cO 12 (cM 106)]).seq (block 6 (((ops 0 [cO 107 (cM 12),cO 108 (cM 2),cO 109 (cB .lss (t 107) (t 108))]).seq (C2.cond (t 109) skip (exit 6))).seq ((block 7 (((mixS 1 [cO 112 (cM 3),cO 113 (cM 0),cO 114 (cM 12),cO 115 (ixaS 1 (t 113) (t 114)),cO 116 (cD 115),cO 117 (cM 0),cO 118 (cM 12),cO 119 (cB .sub (t 118) (cN 1)),cO 120 (ixaS 1 (t 117) (t 119)),cO 121 (cD 120),cO 122 (call (t 112) [t 116,t 121]),cO 123 (cB .lss (t 122) (cN 0)),cO 124 (un UnOp.not (t 123))] [(0,0),(1,0),(2,0),(3,0),(4,0),(5,0),(6,0),(7,0),(8,0),(9,0),(10,2),(11,0),(12,0)]).seq (C2.cond (t 124) (exit 6) skip)).seq (ops 1 [cO 125 (cM 0),cO 126 (cM 12),cO 127 (cM 0),cO 128 (cM 12),cO 129 (cB .sub (t 128) (cN 1)),cO 130 (cM 0),cO 131 (cM 12),cO 132 (cB .sub (t 131) (cN 1)),cO 133 (ixaS 1 (t 130) (t 132)),cO 134 (cD 133),cO 135 (cM 0),cO 136 (cM 12),cO 137 (ixaS 1 (t 135) (t 136)),cO 138 (cD 137),cO 139 (ixaS 1 (t 125) (t 126)),Op2.mk none none (Ins.st 1 (t 139) (t 134)),cO 140 (ixaS 1 (t 127) (t 129)),Op2.mk none none (Ins.st 1 (t 140) (t 138))]))).seq (ops 0 [cO 110 (cM 12),cO 111 (cB .add (t 110) (cN 1)),cO 12 (cM 111)]))).loop)) skip)))))))).seq (ops 0 [cO 17 (cM 10),cO 18 (cB .add (t 17) (cN 1)),cO 10 (cM 18)]))).loop)).seq ((ops 0 [cO 8 (mov au)]).seq ret)))))
theorem zr:Is Tryz.prog 147 Aj:=Is.mk' Tryz.func147 (by kernel_rfl)
def Ax:F2:=(F2.mk 90 [RV.t 10] ((ops 0 [cO 10 (mov (cN 0))]).seq ((ops 1 [cO 13 (cM 0),cO 14 (cM 1),cO 15 (cM 0),cO 16 (cM 3),cO 17 (cM 0),cO 18 (cM 3),cO 19 (ixaS 1 (t 17) (t 18)),cO 20 (cD 19),cO 21 (cM 0),cO 22 (cM 1),cO 23 (ixaS 1 (t 21) (t 22)),cO 24 (cD 23),cO 25 (ixaS 1 (t 13) (t 14)),Op2.mk none none (Ins.st 1 (t 25) (t 20)),cO 26 (ixaS 1 (t 15) (t 16)),Op2.mk none none (Ins.st 1 (t 26) (t 24))]).seq ((ops 0 [cO 27 (cM 1),cO 28 (cB .add (t 27) (cN 1)),cO 29 (cM 2),cO 30 (cB .sub (t 29) (cN 1)),cO 11 (cM 28),cO 12 (cM 30)]).seq ((block 0 (block 1 ((block 2 (((mixS 1 [cO 31 (cM 11),cO 32 (cM 12),cO 33 (cB .leq (t 31) (t 32)),cO 34 (cM 33),cG 35 34 true (cM 4),cG 36 34 true (cM 0),cG 37 34 true (cM 1),cG 38 34 true (ixaS 1 (t 36) (t 37)),cG 39 34 true (cD 38),cG 40 34 true (cM 0),cG 41 34 true (cM 11),cG 42 34 true (ixaS 1 (t 40) (t 41)),cG 43 34 true (cD 42),cG 44 34 true (call (t 35) [t 39,t 43]),cG 45 34 true (cB .lss (t 44) (cN 0)),cG 46 34 true (un UnOp.not (t 45)),cO 47 (pick (t 34) (t 46) au)] [(0,0),(1,0),(2,0),(3,0),(4,0),(5,0),(6,0),(7,0),(8,0),(9,0),(10,0),(11,0),(12,0),(13,2),(14,0),(15,0),(16,0)]).seq (C2.cond (t 47) skip (exit 2))).seq (block 3 (ops 0 [cO 48 (cM 11),cO 49 (cB .add (t 48) (cN 1)),cO 11 (cM 49)]))).loop).seq ((block 4 (((mixS 1 [cO 50 (cM 11),cO 51 (cM 12),cO 52 (cB .leq (t 50) (t 51)),cO 53 (cM 52),cG 54 53 true (cM 4),cG 55 53 true (cM 0),cG 56 53 true (cM 1),cG 57 53 true (ixaS 1 (t 55) (t 56)),cG 58 53 true (cD 57),cG 59 53 true (cM 0),cG 60 53 true (cM 12),cG 61 53 true (ixaS 1 (t 59) (t 60)),cG 62 53 true (cD 61),cG 63 53 true (call (t 54) [t 58,t 62]),cG 64 53 true (cB .lss (t 63) (cN 0)),cO 65 (pick (t 53) (t 64) au)] [(0,0),(1,0),(2,0),(3,0),(4,0),(5,0),(6,0),(7,0),(8,0),(9,0),(10,0),(11,0),(12,0),(13,2),(14,0),(15,0)]).seq (C2.cond (t 65) skip (exit 4))).seq (block 5 (ops 0 [cO 66 (cM 12),cO 67 (cB .sub (t 66) (cN 1)),cO 12 (cM 67)]))).loop).seq (((ops 0 [cO 68 (cM 11),cO 69 (cM 12),cO 70 (cB .gtr (t 68) (t 69))]).seq (C2.cond (t 70) (exit 0) skip)).seq ((ops 1 [cO 71 (cM 0),cO 72 (cM 11),cO 73 (cM 0),cO 74 (cM 12),cO 75 (cM 0),cO 76 (cM 12),cO 77 (ixaS 1 (t 75) (t 76)),cO 78 (cD 77),cO 79 (cM 0),cO 80 (cM 11),cO 81 (ixaS 1 (t 79) (t 80)),cO 82 (cD 81),cO 83 (ixaS 1 (t 71) (t 72)),Op2.mk none none (Ins.st 1 (t 83) (t 78)),cO 84 (ixaS 1 (t 73) (t 74)),Op2.mk none none (Ins.st 1 (t 84) (t 82))]).seq ((ops 0 [cO 85 (cM 11),cO 86 (cB .add (t 85) (cN 1)),cO 11 (cM 86)]).seq (ops 0 [cO 87 (cM 12),cO 88 (cB .sub (t 87) (cN 1)),cO 12 (cM 88)]))))))).loop).seq ((ops 0 [cO 89 (cM 11),cO 10 (cM 89)]).seq ret))))))
theorem z9:Is Tryz.prog 148 Ax:=Is.mk' Tryz.func148 (by kernel_rfl)
def Aa:F2:=(F2.mk 178 [RV.t 10,RV.t 11] ((ops 0 [cO 10 (mov (cN 0)),cO 11 (mov au)]).seq ((ops 1 [cO 14 (cM 0),cO 15 (cM 1),cO 16 (cM 0),cO 17 (cM 3),cO 18 (cM 0),cO 19 (cM 3),cO 20 (ixaS 1 (t 18) (t 19)),cO 21 (cD 20),cO 22 (cM 0),cO 23 (cM 1),cO 24 (ixaS 1 (t 22) (t 23)),cO 25 (cD 24),cO 26 (ixaS 1 (t 14) (t 15)),Op2.mk none none (Ins.st 1 (t 26) (t 21)),cO 27 (ixaS 1 (t 16) (t 17)),Op2.mk none none (Ins.st 1 (t 27) (t 25))]).seq ((ops 0 [cO 28 (cM 1),cO 29 (cB .add (t 28) (cN 1)),cO 30 (cM 2),cO 31 (cB .sub (t 30) (cN 1)),cO 12 (cM 29),cO 13 (cM 31)]).seq ((block 0 (((mixS 1 [cO 32 (cM 12),cO 33 (cM 13),cO 34 (cB .leq (t 32) (t 33)),cO 35 (cM 34),cG 36 35 true (cM 4),cG 37 35 true (cM 0),cG 38 35 true (cM 12),cG 39 35 true (ixaS 1 (t 37) (t 38)),cG 40 35 true (cD 39),cG 41 35 true (cM 0),cG 42 35 true (cM 1),cG 43 35 true (ixaS 1 (t 41) (t 42)),cG 44 35 true (cD 43),cG 45 35 true (call (t 36) [t 40,t 44]),cG 46 35 true (cB .lss (t 45) (cN 0)),cO 47 (pick (t 35) (t 46) au)] [(0,0),(1,0),(2,0),(3,0),(4,0),(5,0),(6,0),(7,0),(8,0),(9,0),(10,0),(11,0),(12,0),(13,2),(14,0),(15,0)]).seq (C2.cond (t 47) skip (exit 0))).seq (block 1 (ops 0 [cO 48 (cM 12),cO 49 (cB .add (t 48) (cN 1)),cO 12 (cM 49)]))).loop).seq ((block 2 (((mixS 1 [cO 50 (cM 12),cO 51 (cM 13),cO 52 (cB .leq (t 50) (t 51)),cO 53 (cM 52),cG 54 53 true (cM 4),cG 55 53 true (cM 0),cG 56 53 true (cM 13),cG 57 53 true (ixaS 1 (t 55) (t 56)),cG 58 53 true (cD 57),cG 59 53 true (cM 0),cG 60 53 true (cM 1),cG 61 53 true (ixaS 1 (t 59) (t 60)),cG 62 53 true (cD 61),cG 63 53 true (call (t 54) [t 58,t 62]),cG 64 53 true (cB .lss (t 63) (cN 0)),cG 65 53 true (un UnOp.not (t 64)),cO 66 (pick (t 53) (t 65) au)] [(0,0),(1,0),(2,0),(3,0),(4,0),(5,0),(6,0),(7,0),(8,0),(9,0),(10,0),(11,0),(12,0),(13,2),(14,0),(15,0),(16,0)]).seq (C2.cond (t 66) skip (exit 2))).seq (block 3 (ops 0 [cO 67 (cM 13),cO 68 (cB .sub (t 67) (cN 1)),cO 13 (cM 68)]))).loop).seq (((ops 0 [cO 69 (cM 12),cO 70 (cM 13),cO 71 (cB .gtr (t 69) (t 70))]).seq (C2.cond (t 71) ((ops 1 [cO 72 (cM 0),cO 73 (cM 13),cO 74 (cM 0),cO 75 (cM 1),cO 76 (cM 0),cO 77 (cM 1),cO 78 (ixaS 1 (t 76) (t 77)),cO 79 (cD 78),cO 80 (cM 0),cO 81 (cM 13),cO 82 (ixaS 1 (t 80) (t 81)),cO 83 (cD 82),cO 84 (ixaS 1 (t 72) (t 73)),Op2.mk none none (Ins.st 1 (t 84) (t 79)),cO 85 (ixaS 1 (t 74) (t 75)),Op2.mk none none (Ins.st 1 (t 85) (t 83))]).seq ((ops 0 [cO 86 (cM 13),cO 10 (cM 86),cO 11 (mov aH)]).seq ret)) skip)).seq ((ops 1 [cO 87 (cM 0),cO 88 (cM 12),cO 89 (cM 0),cO 90 (cM 13),cO 91 (cM 0),cO 92 (cM 13),cO 93 (ixaS 1 (t 91) (t 92)),cO 94 (cD 93),cO 95 (cM 0),cO 96 (cM 12),cO 97 (ixaS 1 (t 95) (t 96)),cO 98 (cD 97),cO 99 (ixaS 1 (t 87) (t 88)),Op2.mk none none (Ins.st 1 (t 99) (t 94)),cO 100 (ixaS 1 (t 89) (t 90)),Op2.mk none none (Ins.st 1 (t 100) (t 98))]).seq ((ops 0 [cO 101 (cM 12),cO 102 (cB .add (t 101) (cN 1)),cO 12 (cM 102)]).seq ((ops 0 [cO 103 (cM 13),cO 104 (cB .sub (t 103) (cN 1)),cO 13 (cM 104)]).seq ((block 4 (block 5 ((block 6 (((mixS 1 [cO 105 (cM 12),cO 106 (cM 13),cO 107 (cB .leq (t 105) (t 106)),cO 108 (cM 107),cG 109 108 true (cM 4),cG 110 108 true (cM 0),cG 111 108 true (cM 12),cG 112 108 true (ixaS 1 (t 110) (t 111)),cG 113 108 true (cD 112),cG 114 108 true (cM 0),cG 115 108 true (cM 1),cG 116 108 true (ixaS 1 (t 114) (t 115)),cG 117 108 true (cD 116),cG 118 108 true (call (t 109) [t 113,t 117]),cG 119 108 true (cB .lss (t 118) (cN 0)),cO 120 (pick (t 108) (t 119) au)] [(0,0),(1,0),(2,0),(3,0),(4,0),(5,0),(6,0),(7,0),(8,0),(9,0),(10,0),(11,0),(12,0),(13,2),(14,0),(15,0)]).seq (C2.cond (t 120) skip (exit 6))).seq (block 7 (ops 0 [cO 121 (cM 12),cO 122 (cB .add (t 121) (cN 1)),cO 12 (cM 122)]))).loop).seq ((block 8 (((mixS 1 [cO 123 (cM 12),cO 124 (cM 13),cO 125 (cB .leq (t 123) (t 124)),cO 126 (cM 125),cG 127 126 true (cM 4),cG 128 126 true (cM 0),cG 129 126 true (cM 13),cG 130 126 true (ixaS 1 (t 128) (t 129)),cG 131 126 true (cD 130),cG 132 126 true (cM 0),cG 133 126 true (cM 1),cG 134 126 true (ixaS 1 (t 132) (t 133)),cG 135 126 true (cD 134),cG 136 126 true (call (t 127) [t 131,t 135]),cG 137 126 true (cB .lss (t 136) (cN 0)),cG 138 126 true (un UnOp.not (t 137)),cO 139 (pick (t 126) (t 138) au)] [(0,0),(1,0),(2,0),(3,0),(4,0),(5,0),(6,0),(7,0),(8,0),(9,0),(10,0),(11,0),(12,0),(13,2),(14,0),(15,0),(16,0)]).seq (C2.cond (t 139) skip (exit 8))).seq (block 9 (ops 0 [cO 140 (cM 13),cO 141 (cB .sub (t 140) (cN 1)),cO 13 (cM 141)]))).loop).seq (((ops 0 [cO 142 (cM 12),cO 143 (cM 13),cO 144 (cB .gtr (t 142) (t 143))]).seq (C2.cond (t 144) (exit 4) skip)).seq ((ops 1 [cO 145 (cM 0),cO 146 (cM 12),cO 147 (cM 0),cO 148 (cM 13),cO 149 (cM 0),cO 150 (cM 13),cO 151 (ixaS 1 (t 149) (t 150)),cO 152 (cD 151),cO 153 (cM 0),cO 154 (cM 12),cO 155 (ixaS 1 (t 153) (t 154)),cO 156 (cD 155),cO 157 (ixaS 1 (t 145) (t 146)),Op2.mk none none (Ins.st 1 (t 157) (t 152)),cO 158 (ixaS 1 (t 147) (t 148)),Op2.mk none none (Ins.st 1 (t 158) (t 156))]).seq ((ops 0 [cO 159 (cM 12),cO 160 (cB .add (t 159) (cN 1)),cO 12 (cM 160)]).seq (ops 0 [cO 161 (cM 13),cO 162 (cB .sub (t 161) (cN 1)),cO 13 (cM 162)]))))))).loop).seq ((ops 1 [cO 163 (cM 0),cO 164 (cM 13),cO 165 (cM 0),cO 166 (cM 1),cO 167 (cM 0),cO 168 (cM 1),cO 169 (ixaS 1 (t 167) (t 168)),cO 170 (cD 169),cO 171 (cM 0),cO 172 (cM 13),cO 173 (ixaS 1 (t 171) (t 172)),cO 174 (cD 173),cO 175 (ixaS 1 (t 163) (t 164)),Op2.mk none none (Ins.st 1 (t 175) (t 170)),cO 176 (ixaS 1 (t 165) (t 166)),Op2.mk none none (Ins.st 1 (t 176) (t 174))]).seq ((ops 0 [cO 177 (cM 13),cO 10 (cM 177),cO 11 (mov au)]).seq ret)))))))))))))
theorem zm:Is Tryz.prog 149 Aa:=Is.mk' Tryz.func149 (by kernel_rfl)
def AL:F2:=(F2.mk 82 [] ((ops 0 [cO 12 (cM 1),cO 10 (cM 12)]).seq (block 0 (block 1 ((ops 0 [cO 13 (cM 10),cO 14 (cB .mul (cN 2) (t 13)),cO 15 (cB .add (t 14) (cN 1)),cO 11 (cM 15)]).seq (((ops 0 [cO 16 (cM 11),cO 17 (cM 2),cO 18 (cB .geq (t 16) (t 17))]).seq (C2.cond (t 18) (exit 0) skip)).seq (((mixS 1 [cO 19 (cM 11),cO 20 (cB .add (t 19) (cN 1)),cO 21 (cM 2),cO 22 (cB .lss (t 20) (t 21)),cO 23 (cM 22),cG 24 23 true (cM 4),cG 25 23 true (cM 0),cG 26 23 true (cM 3),cG 27 23 true (cM 11),cG 28 23 true (cB .add (t 26) (t 27)),cG 29 23 true (ixaS 2 (t 25) (t 28)),cG 30 23 true (ldn 2 (t 29)),cG 31 23 true (cM 0),cG 32 23 true (cM 3),cG 33 23 true (cM 11),cG 34 23 true (cB .add (t 32) (t 33)),cG 35 23 true (cB .add (t 34) (cN 1)),cG 36 23 true (ixaS 2 (t 31) (t 35)),cG 37 23 true (ldn 2 (t 36)),cG 38 23 true (call (t 24) [t 30,t 37]),cG 39 23 true (cB .lss (t 38) (cN 0)),cO 40 (pick (t 23) (t 39) au)] [(0,0),(1,0),(2,0),(3,0),(4,0),(5,0),(6,0),(7,0),(8,0),(9,0),(10,0),(11,0),(12,0),(13,0),(14,0),(15,0),(16,0),(17,0),(18,0),(19,2),(20,0),(21,0)]).seq (C2.cond (t 40) (ops 0 [cO 41 (cM 11),cO 42 (cB .add (t 41) (cN 1)),cO 11 (cM 42)]) skip)).seq (((mixS 1 [cO 43 (cM 4),cO 44 (cM 0),cO 45 (cM 3),cO 46 (cM 10),cO 47 (cB .add (t 45) (t 46)),cO 48 (ixaS 2 (t 44) (t 47)),cO 49 (ldn 2 (t 48)),cO 50 (cM 0),cO 51 (cM 3),cO 52 (cM 11),cO 53 (cB .add (t 51) (t 52)),cO 54 (ixaS 2 (t 50) (t 53)),cO 55 (ldn 2 (t 54)),cO 56 (call (t 43) [t 49,t 55]),cO 57 (cB .lss (t 56) (cN 0)),cO 58 (un UnOp.not (t 57))] [(0,0),(1,0),(2,0),(3,0),(4,0),(5,0),(6,0),(7,0),(8,0),(9,0),(10,0),(11,0),(12,0),(13,2),(14,0),(15,0)]).seq (C2.cond (t 58) ret skip)).seq ((ops 1 [cO 59 (cM 0),cO 60 (cM 3),cO 61 (cM 10),cO 62 (cB .add (t 60) (t 61)),cO 63 (cM 0),cO 64 (cM 3),cO 65 (cM 11),cO 66 (cB .add (t 64) (t 65)),cO 67 (cM 0),cO 68 (cM 3),cO 69 (cM 11),cO 70 (cB .add (t 68) (t 69)),cO 71 (ixaS 2 (t 67) (t 70)),cO 72 (ldn 2 (t 71)),cO 73 (cM 0),cO 74 (cM 3),cO 75 (cM 10),cO 76 (cB .add (t 74) (t 75)),cO 77 (ixaS 2 (t 73) (t 76)),cO 78 (ldn 2 (t 77)),cO 79 (ixaS 2 (t 59) (t 62)),Op2.mk none none (Ins.st 2 (t 79) (t 72)),cO 80 (ixaS 2 (t 63) (t 66)),Op2.mk none none (Ins.st 2 (t 80) (t 78))]).seq (ops 0 [cO 81 (cM 11),cO 10 (cM 81)]))))))).loop)))
theorem Ay:Is Tryz.prog 150 AL:=Is.mk' Tryz.func150 (by kernel_rfl)
def Av:F2:=(F2.mk 7 [RV.t 2] ((ops 0 [cO 2 (mov (c (AV.int IntKind.u64 (0))))]).seq ((ops 0 [cO 3 (cM 0),cO 4 (conv IntKind.u64 (t 3)),cO 5 (call (cF 123) [t 4]),cO 6 (cB .shl (c (AV.int IntKind.u64 (1))) (t 5)),cO 2 (cM 6)]).seq ret)))
theorem zn:Is Tryz.prog 151 Av:=Is.mk' Tryz.func151 (by kernel_rfl)
def zw:F2:=(F2.mk 33 [RV.t 2] ((ops 0 [cO 2 (mov (c (AV.int IntKind.u64 (0))))]).seq ((ops 1 [cO 3 (cM 0),cO 4 (nilck (t 3)),cO 5 (cD 4),cO 6 (cM 0),cO 7 (nilck (t 6)),cO 8 (cD 7),cO 9 (cB .shl (t 8) (c (AV.int IntKind.u64 (13)))),cO 10 (cB .xor (t 5) (t 9)),cO 11 (nilck (t 3)),Op2.mk none none (Ins.st 1 (t 11) (t 10))]).seq ((ops 1 [cO 12 (cM 0),cO 13 (nilck (t 12)),cO 14 (cD 13),cO 15 (cM 0),cO 16 (nilck (t 15)),cO 17 (cD 16),cO 18 (cB .shr (t 17) (c (AV.int IntKind.u64 (7)))),cO 19 (cB .xor (t 14) (t 18)),cO 20 (nilck (t 12)),Op2.mk none none (Ins.st 1 (t 20) (t 19))]).seq ((ops 1 [cO 21 (cM 0),cO 22 (nilck (t 21)),cO 23 (cD 22),cO 24 (cM 0),cO 25 (nilck (t 24)),cO 26 (cD 25),cO 27 (cB .shl (t 26) (c (AV.int IntKind.u64 (17)))),cO 28 (cB .xor (t 23) (t 27)),cO 29 (nilck (t 21)),Op2.mk none none (Ins.st 1 (t 29) (t 28))]).seq ((ops 0 [cO 30 (cM 0),cO 31 (nilck (t 30)),cO 32 (cD 31),cO 2 (cM 32)]).seq ret))))))
theorem zX:Is Tryz.prog 152 zw:=Is.mk' Tryz.func152 (by kernel_rfl)
def AP:F2:=(F2.mk 18 [RV.t 8] ((ops 0 [cO 8 (mov (cN 0))]).seq ((ops 0 [cO 9 (cM 0),cO 10 (cM 1),cO 11 (cB .sub (t 10) (cN 1)),cO 12 (cM 1),cO 13 (cM 1),cO 14 (cB .add (t 13) (cN 1)),cO 15 (cM 2),cO 16 (cM 3),cO 17 (call (cF 154) [t 9,t 11,t 12,t 14,t 15,t 16]),cO 8 (cM 17)]).seq ret)))
theorem Bj:Is Tryz.prog 153 AP:=Is.mk' Tryz.func153 (by kernel_rfl)
def zC:F2:=(F2.mk 41 [RV.t 12] ((ops 0 [cO 12 (mov (cN 0))]).seq ((ops 0 [cO 14 (cM 0),cO 15 (cM 1),cO 16 (cM 2),cO 17 (cM 4),cO 18 (cM 5),cO 19 (call (cF 158) [t 14,t 15,t 16,t 17,t 18]),cO 13 (cM 19),cO 20 (ext (t 13) 0),cO 21 (ext (t 13) 1),cO 1 (cM 20),cO 2 (cM 21)]).seq ((ops 0 [cO 23 (cM 0),cO 24 (cM 2),cO 25 (cM 3),cO 26 (cM 4),cO 27 (cM 5),cO 28 (call (cF 158) [t 23,t 24,t 25,t 26,t 27]),cO 22 (cM 28),cO 29 (ext (t 22) 0),cO 30 (ext (t 22) 1),cO 2 (cM 29),cO 3 (cM 30)]).seq ((ops 0 [cO 32 (cM 0),cO 33 (cM 1),cO 34 (cM 2),cO 35 (cM 4),cO 36 (cM 5),cO 37 (call (cF 158) [t 32,t 33,t 34,t 35,t 36]),cO 31 (cM 37),cO 38 (ext (t 31) 0),cO 39 (ext (t 31) 1),cO 1 (cM 38),cO 2 (cM 39)]).seq ((ops 0 [cO 40 (cM 2),cO 12 (cM 40)]).seq ret))))))
theorem zo:Is Tryz.prog 154 zC:=Is.mk' Tryz.func154 (by kernel_rfl)
def Ai:F2:=(F2.mk 82 [] ((ops 0 [cO 12 (cM 1),cO 10 (cM 12)]).seq (block 0 (block 1 ((ops 0 [cO 13 (cM 10),cO 14 (cB .mul (cN 2) (t 13)),cO 15 (cB .add (t 14) (cN 1)),cO 11 (cM 15)]).seq (((ops 0 [cO 16 (cM 11),cO 17 (cM 2),cO 18 (cB .geq (t 16) (t 17))]).seq (C2.cond (t 18) (exit 0) skip)).seq (((mixS 1 [cO 19 (cM 11),cO 20 (cB .add (t 19) (cN 1)),cO 21 (cM 2),cO 22 (cB .lss (t 20) (t 21)),cO 23 (cM 22),cG 24 23 true (cM 4),cG 25 23 true (cM 0),cG 26 23 true (cM 3),cG 27 23 true (cM 11),cG 28 23 true (cB .add (t 26) (t 27)),cG 29 23 true (ixaS 1 (t 25) (t 28)),cG 30 23 true (cD 29),cG 31 23 true (cM 0),cG 32 23 true (cM 3),cG 33 23 true (cM 11),cG 34 23 true (cB .add (t 32) (t 33)),cG 35 23 true (cB .add (t 34) (cN 1)),cG 36 23 true (ixaS 1 (t 31) (t 35)),cG 37 23 true (cD 36),cG 38 23 true (call (t 24) [t 30,t 37]),cG 39 23 true (cB .lss (t 38) (cN 0)),cO 40 (pick (t 23) (t 39) au)] [(0,0),(1,0),(2,0),(3,0),(4,0),(5,0),(6,0),(7,0),(8,0),(9,0),(10,0),(11,0),(12,0),(13,0),(14,0),(15,0),(16,0),(17,0),(18,0),(19,2),(20,0),(21,0)]).seq (C2.cond (t 40) (ops 0 [cO 41 (cM 11),cO 42 (cB .add (t 41) (cN 1)),cO 11 (cM 42)]) skip)).seq (((mixS 1 [cO 43 (cM 4),cO 44 (cM 0),cO 45 (cM 3),cO 46 (cM 10),cO 47 (cB .add (t 45) (t 46)),cO 48 (ixaS 1 (t 44) (t 47)),cO 49 (cD 48),cO 50 (cM 0),cO 51 (cM 3),cO 52 (cM 11),cO 53 (cB .add (t 51) (t 52)),cO 54 (ixaS 1 (t 50) (t 53)),cO 55 (cD 54),cO 56 (call (t 43) [t 49,t 55]),cO 57 (cB .lss (t 56) (cN 0)),cO 58 (un UnOp.not (t 57))] [(0,0),(1,0),(2,0),(3,0),(4,0),(5,0),(6,0),(7,0),(8,0),(9,0),(10,0),(11,0),(12,0),(13,2),(14,0),(15,0)]).seq (C2.cond (t 58) ret skip)).seq ((ops 1 [cO 59 (cM 0),cO 60 (cM 3),cO 61 (cM 10),cO 62 (cB .add (t 60) (t 61)),cO 63 (cM 0),cO 64 (cM 3),cO 65 (cM 11),cO 66 (cB .add (t 64) (t 65)),cO 67 (cM 0),cO 68 (cM 3),cO 69 (cM 11),cO 70 (cB .add (t 68) (t 69)),cO 71 (ixaS 1 (t 67) (t 70)),cO 72 (cD 71),cO 73 (cM 0),cO 74 (cM 3),cO 75 (cM 10),cO 76 (cB .add (t 74) (t 75)),cO 77 (ixaS 1 (t 73) (t 76)),cO 78 (cD 77),cO 79 (ixaS 1 (t 59) (t 62)),Op2.mk none none (Ins.st 1 (t 79) (t 72)),cO 80 (ixaS 1 (t 63) (t 66)),Op2.mk none none (Ins.st 1 (t 80) (t 78))]).seq (ops 0 [cO 81 (cM 11),cO 10 (cM 81)]))))))).loop)))
theorem Bo:Is Tryz.prog 155 Ai:=Is.mk' Tryz.func155 (by kernel_rfl)
def zq:F2:=(F2.mk 18 [RV.t 8] ((ops 0 [cO 8 (mov (cN 0))]).seq ((ops 0 [cO 9 (cM 0),cO 10 (cM 1),cO 11 (cB .sub (t 10) (cN 1)),cO 12 (cM 1),cO 13 (cM 1),cO 14 (cB .add (t 13) (cN 1)),cO 15 (cM 2),cO 16 (cM 3),cO 17 (call (cF 157) [t 9,t 11,t 12,t 14,t 15,t 16]),cO 8 (cM 17)]).seq ret)))
theorem Ak:Is Tryz.prog 156 zq:=Is.mk' Tryz.func156 (by kernel_rfl)
def Bf:F2:=(F2.mk 41 [RV.t 12] ((ops 0 [cO 12 (mov (cN 0))]).seq ((ops 0 [cO 14 (cM 0),cO 15 (cM 1),cO 16 (cM 2),cO 17 (cM 4),cO 18 (cM 5),cO 19 (call (cF 159) [t 14,t 15,t 16,t 17,t 18]),cO 13 (cM 19),cO 20 (ext (t 13) 0),cO 21 (ext (t 13) 1),cO 1 (cM 20),cO 2 (cM 21)]).seq ((ops 0 [cO 23 (cM 0),cO 24 (cM 2),cO 25 (cM 3),cO 26 (cM 4),cO 27 (cM 5),cO 28 (call (cF 159) [t 23,t 24,t 25,t 26,t 27]),cO 22 (cM 28),cO 29 (ext (t 22) 0),cO 30 (ext (t 22) 1),cO 2 (cM 29),cO 3 (cM 30)]).seq ((ops 0 [cO 32 (cM 0),cO 33 (cM 1),cO 34 (cM 2),cO 35 (cM 4),cO 36 (cM 5),cO 37 (call (cF 159) [t 32,t 33,t 34,t 35,t 36]),cO 31 (cM 37),cO 38 (ext (t 31) 0),cO 39 (ext (t 31) 1),cO 1 (cM 38),cO 2 (cM 39)]).seq ((ops 0 [cO 40 (cM 2),cO 12 (cM 40)]).seq ret))))))
theorem A1:Is Tryz.prog 157 Bf:=Is.mk' Tryz.func157 (by kernel_rfl)
def Bd:F2:=(F2.mk 32 [RV.t 10,RV.t 11] ((ops 0 [cO 10 (mov (cN 0)),cO 11 (mov (cN 0))]).seq (((mixS 1 [cO 12 (cM 4),cO 13 (cM 0),cO 14 (cM 2),cO 15 (ixaS 2 (t 13) (t 14)),cO 16 (ldn 2 (t 15)),cO 17 (cM 0),cO 18 (cM 1),cO 19 (ixaS 2 (t 17) (t 18)),cO 20 (ldn 2 (t 19)),cO 21 (call (t 12) [t 16,t 20]),cO 22 (cB .lss (t 21) (cN 0))] [(0,0),(1,0),(2,0),(3,0),(4,0),(5,0),(6,0),(7,0),(8,0),(9,2),(10,0)]).seq (C2.cond (t 22) ((ops 0 [cO 23 (cM 3),cO 24 (nilck (t 23)),cO 25 (cD 24),cO 26 (cB .add (t 25) (cN 1)),cO 27 (nilck (t 23)),Op2.mk none none (Ins.st 1 (t 27) (t 26))]).seq ((ops 0 [cO 28 (cM 2),cO 29 (cM 1),cO 10 (cM 28),cO 11 (cM 29)]).seq ret)) skip)).seq ((ops 0 [cO 30 (cM 1),cO 31 (cM 2),cO 10 (cM 30),cO 11 (cM 31)]).seq ret))))
theorem Aq:Is Tryz.prog 158 Bd:=Is.mk' Tryz.func158 (by kernel_rfl)
def Af:F2:=(F2.mk 32 [RV.t 10,RV.t 11] ((ops 0 [cO 10 (mov (cN 0)),cO 11 (mov (cN 0))]).seq (((mixS 1 [cO 12 (cM 4),cO 13 (cM 0),cO 14 (cM 2),cO 15 (ixaS 1 (t 13) (t 14)),cO 16 (cD 15),cO 17 (cM 0),cO 18 (cM 1),cO 19 (ixaS 1 (t 17) (t 18)),cO 20 (cD 19),cO 21 (call (t 12) [t 16,t 20]),cO 22 (cB .lss (t 21) (cN 0))] [(0,0),(1,0),(2,0),(3,0),(4,0),(5,0),(6,0),(7,0),(8,0),(9,2),(10,0)]).seq (C2.cond (t 22) ((ops 0 [cO 23 (cM 3),cO 24 (nilck (t 23)),cO 25 (cD 24),cO 26 (cB .add (t 25) (cN 1)),cO 27 (nilck (t 23)),Op2.mk none none (Ins.st 1 (t 27) (t 26))]).seq ((ops 0 [cO 28 (cM 2),cO 29 (cM 1),cO 10 (cM 28),cO 11 (cM 29)]).seq ret)) skip)).seq ((ops 0 [cO 30 (cM 1),cO 31 (cM 2),cO 10 (cM 30),cO 11 (cM 31)]).seq ret))))
theorem A5:Is Tryz.prog 159 Af:=Is.mk' Tryz.func159 (by kernel_rfl)
end Go.Proofs.YtbgdcebmgjafjaaGreat
namespace Go.Proofs.YtbgdcebmgjafjaaGreat
open Go Go.Abs
def swp {α:Type} [Inhabited α] (L:List α) (i j:Nat):List α:=(L.set i (L.getD j default)).set j (L.getD i default)
structure PermR {α:Type} [Inhabited α] (a b:Nat) (L L':List α):Prop where
 len:L'.length=L.length
 out:∀ i,i < a ∨ b ≤ i→L'.getD i default=L.getD i default
 perm:L'.Perm L
section
variable {α:Type} [Inhabited α] {a b a' b':Nat} {L L' L'':List α}
theorem cu {l:List α} {i j:Nat} {x:α} (h:i < l.length):(l.set i x).getD j default=if i=j then x else l.getD j default:=by
 simp only [List.getD,List.getElem?_set]
 split
 ·rename_i e; subst e; simp [h]
 ·rfl
theorem sJ (i j:Nat):(swp L i j).length=L.length:=by simp [swp]
theorem cp {i j:Nat} (hi:i < L.length) (hj:j < L.length) (k:Nat):(swp L i j).getD k default=if k=j then L.getD i default else if k=i then L.getD j default else L.getD k default:=by
 unfold swp
 rw [cu (by simpa using hj),cu hi]
 by_cases e:k=j
 ·subst e; simp
 ·rw [if_neg (fun h=>e h.symm),if_neg e]
  by_cases e2:k=i
  ·subst e2; simp
  ·rw [if_neg (fun h=>e2 h.symm),if_neg e2]
theorem vG {i j:Nat} (hi:i < L.length) (hj:j < L.length):(swp L i j).Perm L:=by
 unfold swp
 have e1:L.getD i default=L[i]:=by simp [List.getD,hi]
 have e2:L.getD j default=L[j]:=by simp [List.getD,hj]
 rw [e1,e2]
 exact List.set_set_perm hi hj
theorem PermR.refl:PermR a b L L:=⟨rfl,fun _ _=>rfl,List.Perm.refl _⟩
theorem PermR.trans (h:PermR a b L L') (k:PermR a b L' L''):PermR a b L L'':=⟨k.len.trans h.len,fun i hi=>(k.out i hi).trans (h.out i hi),k.perm.trans h.perm⟩
theorem PermR.mono (h:PermR a' b' L L') (h1:a ≤ a') (h2:b' ≤ b):PermR a b L L':=⟨h.len,fun i hi=>h.out i (by omega),h.perm⟩
theorem PermR.swap {i j:Nat} (h1:a ≤ i∧i < b) (h2:a ≤ j∧j < b) (hb:b ≤ L.length):PermR a b L (swp L i j) :=
 ⟨sJ i j,fun k hk=>by rw [cp (by omega) (by omega),if_neg (by omega),if_neg (by omega)],vG (by omega) (by omega)⟩
theorem qc {l m:List α} (hl:l.length=m.length) (h:∀ i,i < l.length→l.getD i default=m.getD i default):l=m :=
 List.ext_getElem hl (fun i h1 h2=>by
  have:=h i h1
  simpa [List.getD,h1,h2] using this)
theorem PermR.mid (h:PermR a b L L') (hab:a ≤ b) (hb:b ≤ L.length):((L'.drop a).take (b - a)).Perm ((L.drop a).take (b - a)):=by
 have e1:∀ M:List α,b ≤ M.length→M=M.take a ++ ((M.drop a).take (b - a) ++ M.drop b):=fun M hM=>by
  have:M.drop b=(M.drop a).drop (b - a):=by rw [List.drop_drop]; congr 1; omega
  rw [this,List.take_append_drop,List.take_append_drop]
 have t:L'.take a=L.take a:=qc (by simp [h.len]) (fun i hi=>by
  have hi':i < a:=by simp at hi; omega
  rw [n4 hi',n4 hi']; exact h.out i (.inl hi'))
 have d:L'.drop b=L.drop b:=qc (by simp [h.len]) (fun i hi=>by
  have e:∀ M:List α,(M.drop b).getD i default=M.getD (b + i) default:=fun M=>by simp [List.getD,List.getElem?_drop]
  rw [e,e]; exact h.out (b + i) (.inr (by omega)))
 have p:=h.perm
 rw [e1 L' (by rw [h.len]; exact hb),e1 L hb,t,d] at p
 exact (List.perm_append_right_iff _).1 ((List.perm_append_left_iff _).1 p)
theorem sk {M:List α} {x:α} (hab:a ≤ b) (hb:b ≤ M.length):x ∈ (M.drop a).take (b - a) ↔ ∃ i,a ≤ i∧i < b∧M.getD i default=x:=by
 constructor
 ·intro h
  obtain ⟨j,hj,e⟩:=List.getElem_of_mem h
  have hj':j < b - a:=by simp at hj; omega
  refine ⟨a + j,by omega,by omega,?_⟩
  rw [← e]
  simp [List.getD,List.getElem_take,List.getElem_drop,show a + j < M.length by omega]
 ·rintro ⟨i,h1,h2,rfl⟩
  rw [List.mem_iff_getElem?]
  refine ⟨i - a,?_⟩
  rw [List.getElem?_take,if_pos (by omega),List.getElem?_drop,show a + (i - a)=i by omega]
  simp [List.getD,show i < M.length by omega]
theorem PermR.all {p:α→Prop} (h:PermR a b L L') (hab:a ≤ b) (hb:b ≤ L.length) (hp:∀ i,a ≤ i→i < b→p (L.getD i default)):∀ i,a ≤ i→i < b→p (L'.getD i default):=by
 intro i h1 h2
 have hm:L'.getD i default ∈ (L'.drop a).take (b - a):=(sk hab (by rw [h.len]; exact hb)).2 ⟨i,h1,h2,rfl⟩
 obtain ⟨j,k1,k2,e⟩:=(sk hab hb).1 ((h.mid hab hb).mem_iff.1 hm)
 rw [← e]; exact hp j k1 k2
end
structure Ord {α:Type} (K:α→α→Int):Prop where
 irr:∀ x,¬ K x x < 0
 asym:∀ x y,K x y < 0→¬ K y x < 0
 negtr:∀ x y z,¬ K y x < 0→¬ K z y < 0→¬ K z x < 0
def aK {α:Type} [Inhabited α] (K:α→α→Int) (a b:Nat) (L:List α):Prop:=∀ i j,a ≤ i→i < j→j < b→¬ K (L.getD j default) (L.getD i default) < 0
theorem aK.one {α:Type} [Inhabited α] {K:α→α→Int} {a b:Nat} {L:List α} (h:b ≤ a + 1):aK K a b L:=fun i j h1 h2 h3=>by omega
end Go.Proofs.YtbgdcebmgjafjaaGreat
namespace Go.Proofs.YtbgdcebmgjafjaaGreat
open Go Go.Abs
structure LinK {α:Type} (K:α→α→Int):Prop where
 ord:Ord K
 eq:∀ x y,¬ K x y < 0→¬ K y x < 0→x=y
def cP {α:Type} (K:α→α→Int) (l:List α):Prop:=l.Pairwise fun x y=>K x y < 0
def fT {α:Type} (K:α→α→Int):List α→α→List α
 | [],v=>[v]
 | a :: l,v=>if K v a < 0 then v :: a :: l else a :: fT K l v
section
variable {α:Type} [DecidableEq α] {K:α→α→Int}
def e7 (K:α→α→Int) (acc:List α) (v:α):List α:=if v ∈ acc then acc else fT K acc v
def eU (K:α→α→Int) (acc l:List α):List α:=l.foldl (e7 K) acc
def fS (K:α→α→Int) (l:List α):List α:=eU K [] l
omit [DecidableEq α] in
theorem cP.nil:cP K ([]:List α):=List.Pairwise.nil
omit [DecidableEq α] in
theorem cP.nodup {l:List α} (hK:LinK K) (h:cP K l):l.Nodup:=List.Pairwise.imp (fun {a b} h e=>by subst e; exact hK.ord.irr a h) h
omit [DecidableEq α] in
theorem LinK.tri (hK:LinK K) (x y:α):K x y < 0 ∨ x=y ∨ K y x < 0:=by
 by_cases h1:K x y < 0
 ·exact .inl h1
 ·by_cases h2:K y x < 0
  ·exact .inr (.inr h2)
  ·exact .inr (.inl (hK.eq x y h1 h2))
omit [DecidableEq α] in
theorem LinK.trans (hK:LinK K) {x y z:α} (h1:K x y < 0) (h2:K y z < 0):K x z < 0:=by
 refine Decidable.byContradiction fun hn=>?_
 exact hK.ord.negtr z x y hn (hK.ord.asym _ _ h1) h2
omit [DecidableEq α] in
theorem kF {a b:List α} (hK:LinK K) (ha:cP K a) (hb:cP K b) (h:∀ x,x ∈ a ↔ x ∈ b):a=b:=by
 classical
 have hp:a.Perm b:=(List.perm_ext_iff_of_nodup (ha.nodup hK) (hb.nodup hK)).2 h
 exact List.Perm.eq_of_pairwise (fun x y _ _ h1 h2=>absurd h2 (hK.ord.asym _ _ h1)) ha hb hp
omit [DecidableEq α] in
theorem qV {l:List α} {v x:α}:x ∈ fT K l v ↔ x ∈ l ∨ x=v:=by
 induction l with
 | nil=>simp [fT]
 | cons a l ih =>
  unfold fT
  split
  ·simp only [List.mem_cons]
   exact ⟨fun h=>h.elim .inr .inl,fun h=>h.elim .inr .inl⟩
  ·rw [List.mem_cons,ih,List.mem_cons,or_assoc]
omit [DecidableEq α] in
theorem uI {l:List α} {v:α} (hK:LinK K) (h:cP K l) (hv:v ∉ l):cP K (fT K l v):=by
 induction l with
 | nil=>exact List.pairwise_singleton _ _
 | cons a l ih =>
  unfold cP at h
  rw [List.pairwise_cons] at h
  unfold fT
  split
  ·rename_i hlt
   exact List.pairwise_cons.2 ⟨fun y hy=>by
    rcases List.mem_cons.1 hy with rfl | hy
    ·exact hlt
    ·exact hK.trans hlt (h.1 y hy),List.pairwise_cons.2 h⟩
  ·rename_i hlt
   refine List.pairwise_cons.2 ⟨fun y hy=>?_,ih h.2 fun hm=>hv (List.mem_cons_of_mem _ hm)⟩
   rcases qV.1 hy with hy | rfl
   ·exact h.1 y hy
   ·rcases hK.tri y a with k | k | k
    ·exact absurd k hlt
    ·exact absurd (k ▸ List.mem_cons_self) hv
    ·exact k
omit [DecidableEq α] in
theorem mI {l:List α} {v:α}:(fT K l v).length=l.length + 1:=by
 induction l with
 | nil=>rfl
 | cons a l ih=>unfold fT; split <;> simp [ih]
theorem v8 {acc:List α} {v x:α}:x ∈ e7 K acc v ↔ x ∈ acc ∨ x=v:=by
 unfold e7
 split
 ·rename_i h
  exact ⟨.inl,fun h2=>h2.elim id (fun e=>e ▸ h)⟩
 ·exact qV
theorem wx {acc:List α} {v:α} (hK:LinK K) (h:cP K acc):cP K (e7 K acc v):=by
 unfold e7
 split
 ·exact h
 ·rename_i hn
  exact uI hK h hn
theorem uD {acc:List α} {v:α}:(e7 K acc v).length ≤ acc.length + 1:=by
 unfold e7
 split
 ·omega
 ·rw [mI]; exact Nat.le_refl _
theorem mR:∀ {l acc:List α} {x:α},x ∈ eU K acc l ↔ x ∈ acc ∨ x ∈ l
 | [],acc,x=>by simp [eU]
 | v :: l,acc,x=>by
  rw [show eU K acc (v :: l)=eU K (e7 K acc v) l from rfl,mR,v8,List.mem_cons,or_assoc]
theorem qH (hK:LinK K):∀ {l acc:List α},cP K acc→cP K (eU K acc l)
 | [],_,h=>h
 | v :: l,acc,h=>qH hK (l:=l) (wx hK (v:=v) h)
theorem jB:∀ {l acc:List α},(eU K acc l).length ≤ acc.length + l.length
 | [],acc=>by simp [eU]
 | v :: l,acc=>by
  rw [show eU K acc (v :: l)=eU K (e7 K acc v) l from rfl]
  have:=jB (l:=l) (acc:=e7 K acc v)
  have:=uD (K:=K) (acc:=acc) (v:=v)
  rw [List.length_cons]; omega
theorem oz {acc l:List α} {v:α}:eU K acc (l ++ [v])=e7 K (eU K acc l) v:=by
 unfold eU; rw [List.foldl_append]; rfl
theorem ma (hK:LinK K) (l:List α):cP K (fS K l):=qH hK List.Pairwise.nil
theorem gZ {l:List α} {x:α}:x ∈ fS K l ↔ x ∈ l:=by
 unfold fS; rw [mR]; simp
theorem e9 {l:List α}:(fS K l).length ≤ l.length:=by
 have:=jB (K:=K) (l:=l) (acc:=[])
 unfold fS
 rw [List.length_nil] at this
 omega
theorem nW {l:List α} {v:α}:fS K (l ++ [v])=e7 K (fS K l) v:=oz
theorem qg {l:List α}:fS K l=[] ↔ l=[]:=by
 constructor
 ·intro h
  cases l with
  | nil=>rfl
  | cons a l =>
   have:a ∈ fS K (a :: l):=gZ.2 (List.mem_cons_self ..)
   rw [h] at this
   exact absurd this (by simp)
 ·rintro rfl; rfl
end
section
variable {α:Type} [Inhabited α] [DecidableEq α]
def bQ (l:List α):Nat→Nat
 | 0=>0
 | k + 1=>bQ l k + if k=0 ∨ l.getD k default ≠ l.getD (k - 1) default then 1 else 0
theorem vN (l:List α) (k:Nat):bQ l k ≤ k:=by
 induction k with
 | zero=>exact Nat.le_refl _
 | succ k ih=>unfold bQ; split <;> omega
theorem gi {l:List α} {k:Nat} (hk:k ≠ 0) (h:l.getD k default=l.getD (k - 1) default):bQ l (k + 1)=bQ l k:=by
 rw [bQ,if_neg (by rintro (h' | h'); exact hk h'; exact h' h)]; rfl
theorem mt {l:List α} {k:Nat} (h:l.getD k default ≠ l.getD (k - 1) default):bQ l (k + 1)=bQ l k + 1:=by
 rw [bQ,if_pos (.inr h)]
def dT (l:List α):Nat→List α
 | 0=>[]
 | k + 1=>dT l k ++ if k=0 ∨ l.getD k default ≠ l.getD (k - 1) default then [l.getD k default] else []
theorem uc (l:List α) (k:Nat):(dT l k).length=bQ l k:=by
 induction k with
 | zero=>rfl
 | succ k ih=>rw [dT,bQ,List.length_append,ih]; split <;> rfl
theorem mN {l:List α} {k:Nat} (hk:k ≠ 0) (h:l.getD k default=l.getD (k - 1) default):dT l (k + 1)=dT l k:=by
 rw [dT,if_neg (by rintro (h' | h'); exact hk h'; exact h' h),List.append_nil]
theorem nI {l:List α} {k:Nat} (h:l.getD k default ≠ l.getD (k - 1) default):dT l (k + 1)=dT l k ++ [l.getD k default]:=by
 rw [dT,if_pos (.inr h)]
theorem kA {l:List α}:∀ {k:Nat},k ≤ l.length→∀ x,x ∈ dT l k ↔ ∃ j,j < k∧l.getD j default=x
 | 0,_,x=>by simp [dT]
 | k + 1,hk,x=>by
  have ih:=kA (l:=l) (k:=k) (by omega) x
  rw [dT,List.mem_append,ih]
  constructor
  ·rintro (⟨j,h1,h2⟩ | h)
   ·exact ⟨j,by omega,h2⟩
   ·split at h
    ·rw [List.mem_singleton] at h; exact ⟨k,by omega,h.symm⟩
    ·simp at h
  ·rintro ⟨j,h1,h2⟩
   by_cases e:j=k
   ·subst e
    by_cases c:j=0 ∨ l.getD j default ≠ l.getD (j - 1) default
    ·right; rw [if_pos c,List.mem_singleton]; exact h2.symm
    ·left
     have c1:j ≠ 0:=fun h=>c (.inl h)
     have c2:l.getD j default=l.getD (j - 1) default:=Decidable.of_not_not fun h=>c (.inr h)
     exact ⟨j - 1,by omega,by rw [← c2]; exact h2⟩
   ·left; exact ⟨j,by omega,h2⟩
theorem oa {K:α→α→Int} (hK:LinK K) {l:List α} (hs:∀ i j,i < j→j < l.length→¬ K (l.getD j default) (l.getD i default) < 0):∀ {k:Nat},k ≤ l.length→cP K (dT l k)
 | 0,_=>List.Pairwise.nil
 | k + 1,hk=>by
  have ih:=oa hK hs (k:=k) (by omega)
  unfold cP
  rw [dT,List.pairwise_append]
  refine ⟨ih,by split <;> simp,fun x hx y hy=>?_⟩
  split at hy
  ·rename_i c
   rw [List.mem_singleton] at hy
   subst hy
   obtain ⟨j,h1,rfl⟩:=(kA (by omega) x).1 hx
   rcases c with c | c
   ·omega
   ·refine Decidable.byContradiction fun hn=>?_
    have a2:=hs (k - 1) k (by omega) (by omega)
    have hne:K (l.getD (k - 1) default) (l.getD k default) < 0:=Decidable.byContradiction fun h3=>c (hK.eq _ _ a2 h3)
    by_cases e:j=k - 1
    ·rw [e] at hn; exact hn hne
    ·have a1:=hs j (k - 1) (by omega) (by omega)
     exact hK.ord.negtr _ _ _ hn a1 hne
  ·simp at hy
omit [DecidableEq α] in
theorem v9 {M:List α} {x:α}:(∃ j,j < M.length∧M.getD j default=x) ↔ x ∈ M:=by
 constructor
 ·rintro ⟨j,h1,rfl⟩; simp [List.getD,h1]
 ·intro h
  obtain ⟨j,hj,rfl⟩:=List.getElem_of_mem h
  exact ⟨j,hj,by simp [List.getD,hj]⟩
theorem uz {K:α→α→Int} (hK:LinK K) {l M:List α} (hp:M.Perm l) (hs:aK K 0 M.length M):dT M M.length=fS K l:=by
 refine kF hK (oa hK (fun i j h1 h2=>hs i j (Nat.zero_le _) h1 h2) (Nat.le_refl _)) (ma hK l) fun x=>?_
 rw [kA (Nat.le_refl _),v9,hp.mem_iff,gZ]
end
end Go.Proofs.YtbgdcebmgjafjaaGreat
namespace Go.Proofs.YtbgdcebmgjafjaaGreat
open Go Go.Abs
abbrev Shn {α:Type} (l:List α):Prop:=l.length ≤ 17592186044416
structure Vtx where
 color:Int
 label:Int
 deriving Inhabited,DecidableEq
abbrev Spx:=List Vtx
def kI (v:Vtx):List AV:=[.int .i64 v.color,.int .i64 v.label]
abbrev bh (v:Vtx):AV:=.agg [.int .i64 v.color,.int .i64 v.label]
def ao (l:Spx):AV:=ja 2 bh l
def aC (l:List Spx):AV:=ja 1 ao l
def cX (l:Spx):List AV:=l.flatMap kI
theorem aP (v:Vtx):Dat (bh v):=Dat.agg (DatL.cons .int (DatL.cons .int DatL.nil))
theorem an (l:Spx):Dat (ao l):=pR (fun x _ c hc=>by
 simp only [bh,AV.cells,List.mem_cons,List.not_mem_nil,or_false] at hc
 rcases hc with rfl | rfl <;> exact .int)
theorem bl (l:List Spx):Dat (aC l):=pR (fun x _ c hc=>by
 simp only [ao,ja,AV.cells,List.mem_singleton] at hc; subst hc; exact an x)
instance datI_encX {v:Vtx}:DatI (bh v):=⟨aP v⟩
instance datI_encXs {l:Spx}:DatI (ao l):=⟨an l⟩
instance datI_encXss {l:List Spx}:DatI (aC l):=⟨bl l⟩
theorem ap {l:Spx}:(ao l).cells=[ao l]:=rfl
theorem ay {l:Spx}:(ao l).one=true:=rfl
theorem ar {l:List Spx}:(aC l).cells=[aC l]:=rfl
theorem az {l:List Spx}:(aC l).one=true:=rfl
theorem rU {l:Spx} {k:IntKind} {n:Int}:d7 2 (ao l) (.int k n)=if 0 ≤ n∧n < l.length then some (.iptr [.int .i64 (l.getD n.toNat default).color,.int .i64 (l.getD n.toNat default).label] 0) else none:=nS
theorem ai {l:Spx}:cR (ao l)=some (.int .i64 l.length):=mP
theorem re {l:List Spx} {k:IntKind} {n:Int}:d7 1 (aC l) (.int k n)=if 0 ≤ n∧n < l.length then some (.iptr [ao (l.getD n.toNat default)] 0) else none:=nS
theorem ak {l:List Spx}:cR (aC l)=some (.int .i64 l.length):=mP
theorem ix2 {l:Spx} {k:Nat} (h:k < l.length):d7 2 (ao l) (.int .i64 (k:Int))=some (.iptr [.int .i64 (l.getD k default).color,.int .i64 (l.getD k default).label] 0):=by
 rw [rU,if_pos ⟨by omega,by omega⟩,Int.toNat_natCast]
theorem dI {l:List Spx} {k:Nat} (h:k < l.length):d7 1 (aC l) (.int .i64 (k:Int))=some (.iptr [ao (l.getD k default)] 0):=by
 rw [re,if_pos ⟨by omega,by omega⟩,Int.toNat_natCast]
theorem ci (l:Spx):(cX l).length=l.length * 2:=by
 induction l with
 | nil=>rfl
 | cons a l ih=>rw [cX,List.flatMap_cons,List.length_append,List.length_cons,show (l.flatMap kI).length=l.length * 2 from ih]; show 2 + _=_; omega
theorem cq (l m:Spx):cX (l ++ m)=cX l ++ cX m:=List.flatMap_append
theorem yf (v:Vtx):cX [v]=[.int .i64 v.color,.int .i64 v.label]:=rfl
theorem r6 (l:Spx):(l.map bh).flatMap AV.cells=cX l:=by
 induction l with
 | nil=>rfl
 | cons a l ih=>rw [List.map_cons,List.flatMap_cons,ih]; rfl
theorem ik {H:Hp} {s:AV} {l:Spx} (h:Row H 2 s (cX l)):Snap H s (ao l):=by
 refine Row.snap (elems:=l.map bh) (by rw [r6]; exact h) (fun y hy=>?_) (by omega) (fun y hy c hx=>?_)
 ·obtain ⟨n,_,rfl⟩:=List.mem_map.1 hy; rfl
 ·obtain ⟨n,_,rfl⟩:=List.mem_map.1 hy
  simp only [bh,AV.cells,List.mem_cons,List.not_mem_nil,or_false] at hx
  rcases hx with rfl | rfl <;> exact .int
theorem ga {H:Hp} {s:AV} {l:List Spx} (h:Row H 1 s (l.map ao)):Snap H s (aC l):=h.snapL' (fun _=>rfl) (fun x _=>an x)
theorem qd {H:Hp} {l:Spx}:dz 2 H (ao l)=some (l.length,cX l):=by
 unfold ao ja; rw [sa,r6]; simp
theorem io (l:Spx):AV.ones (cX l)=true:=by
 unfold AV.ones
 rw [List.all_eq_true]
 intro x hx
 obtain ⟨v,_,hv⟩:=List.mem_flatMap.1 hx
 simp only [kI,List.mem_cons,List.not_mem_nil,or_false] at hv
 rcases hv with rfl | rfl <;> rfl
def aV (v w:Vtx):Int:=if v.color < w.color then -1 else if v.color > w.color then 1 else if v.label < w.label then -1 else if v.label > w.label then 1 else 0
def bi:Spx→Spx→Int
 | [],[]=>0
 | [],_ :: _=>-1
 | _ :: _,[]=>1
 | a :: l,b :: m=>if aV a b ≠ 0 then aV a b else bi l m
theorem jn {v w:Vtx}:aV v w < 0 ↔ v.color < w.color ∨ (v.color=w.color∧v.label < w.label):=by
 unfold aV; (repeat' split) <;> constructor <;> intro h <;> omega
theorem lB {v w:Vtx}:v=w ↔ v.color=w.color∧v.label=w.label:=by
 obtain ⟨a,b⟩:=v
 obtain ⟨c,d⟩:=w
 simp
theorem fX {v w:Vtx}:aV v w=0 ↔ v=w:=by
 rw [lB]; unfold aV; (repeat' split) <;> constructor <;> intro h <;> omega
theorem nU (v w:Vtx):aV w v=- aV v w:=by
 unfold aV; (repeat' split) <;> omega
theorem nF:LinK aV where
 ord:={ irr:=fun x=>by rw [jn]; omega,asym:=fun x y h=>by rw [jn] at *; omega,negtr:=fun x y z h1 h2=>by rw [jn] at *; omega }
 eq:=fun x y h1 h2=>by rw [jn] at *; rw [lB]; omega
theorem dL:∀ l:Spx,bi l l=0
 | []=>rfl
 | a :: l=>by rw [bi,fX.2 rfl,if_neg (by simp)]; exact dL l
theorem lJ:∀ {l m:Spx},bi l m=0→l=m
 | [],[],_=>rfl
 | [],_ :: _,h=>by simp [bi] at h
 | _ :: _,[],h=>by simp [bi] at h
 | a :: l,b :: m,h=>by
  rw [bi] at h
  by_cases e:aV a b=0
  ·rw [if_neg (fun h=>h e)] at h
   rw [fX.1 e,lJ h]
  ·rw [if_pos e] at h; exact absurd h e
theorem n7 {l m:Spx}:bi l m=0 ↔ l=m:=⟨lJ,fun h=>by rw [h]; exact dL _⟩
theorem j9:∀ l m:Spx,bi m l=- bi l m
 | [],[]=>rfl
 | [],_ :: _=>rfl
 | _ :: _,[]=>rfl
 | a :: l,b :: m=>by
  rw [bi,bi,nU a b]
  by_cases e:aV a b=0
  ·rw [e,if_neg (by simp),if_neg (by simp)]; exact j9 l m
  ·rw [if_pos (by omega),if_pos e]
theorem lU:∀ (x y z:Spx),¬ bi y x < 0→¬ bi z y < 0→¬ bi z x < 0
 | [],_,[],_,_=>by simp [bi]
 | [],_,_ :: _,_,_=>by simp [bi]
 | _ :: _,[],_,h,_=>by simp [bi] at h
 | _ :: _,_ :: _,[],_,h=>by simp [bi] at h
 | a :: x,b :: y,c :: z,h1,h2=>by
  rw [bi] at h1 h2 ⊢
  have n:=nF.ord.negtr a b c
  by_cases e1:aV b a=0
  ·have e1':=fX.1 e1
   subst e1'
   rw [if_neg (fun h=>h e1)] at h1
   by_cases e2:aV c b=0
   ·rw [if_neg (fun h=>h e2)] at h2 ⊢
    exact lU x y z h1 h2
   ·rw [if_pos e2] at h2 ⊢; exact h2
  ·rw [if_pos e1] at h1
   by_cases e2:aV c b=0
   ·have e2':=fX.1 e2
    subst e2'
    rw [if_pos e1]; exact h1
   ·rw [if_pos e2] at h2
    have h3:=n h1 h2
    by_cases e3:aV c a=0
    ·exfalso
     have e3':=fX.1 e3
     subst e3'
     have:=nU b c
     omega
    ·rw [if_pos e3]; exact h3
theorem pz:LinK bi where
 ord:={ irr:=fun x=>by rw [dL]; omega,asym:=fun x y h=>by rw [j9]; omega,negtr:=lU }
 eq:=fun x y h1 h2=>by
  have:=j9 x y
  exact lJ (by omega)
theorem oe {l m:Spx} {k:Nat} (h1:k < l.length) (h2:k < m.length):bi (l.drop k) (m.drop k)=if aV (l.getD k default) (m.getD k default) ≠ 0 then aV (l.getD k default) (m.getD k default) else bi (l.drop (k + 1)) (m.drop (k + 1)):=by
 rw [eY h1,eY h2,bi]
theorem nc {l m:Spx} {k:Nat} (h:l.length ≤ k ∨ m.length ≤ k) (hk:k ≤ l.length∧k ≤ m.length):bi (l.drop k) (m.drop k)=if l.length < m.length then -1 else if m.length < l.length then 1 else 0:=by
 by_cases e1:l.length=k
 ·rw [List.drop_eq_nil_of_le (show l.length ≤ k by omega)]
  by_cases e2:m.length=k
  ·rw [List.drop_eq_nil_of_le (by omega),if_neg (by omega),if_neg (by omega)]; rfl
  ·rw [eY (l:=m) (k:=k) (by omega),if_pos (by omega)]; rfl
 ·have e2:m.length=k:=by omega
  rw [eY (l:=l) (k:=k) (by omega),List.drop_eq_nil_of_le (show m.length ≤ k by omega),if_neg (by omega),if_pos (by omega)]; rfl
def bU (f:Nat→Int):Nat→Int
 | 0=>0
 | n + 1=>if bU f n ≠ 0 then bU f n else f n
theorem cI {f:Nat→Int}:∀ {n:Nat},(∀ i,i < n→f i=0)→bU f n=0
 | 0,_=>rfl
 | n + 1,h=>by
  have:=cI (f:=f) (n:=n) (fun i hi=>h i (by omega))
  rw [bU,this,if_neg (by simp)]; exact h n (by omega)
theorem bB {f:Nat→Int}:∀ {n k:Nat},k < n→(∀ i,i < k→f i=0)→f k ≠ 0→bU f n=f k
 | 0,k,h,_,_=>absurd h (by omega)
 | n + 1,k,h,h0,hk=>by
  rw [bU]
  by_cases e:k=n
  ·subst e
   rw [cI h0,if_neg (by simp)]
  ·rw [bB (n:=n) (by omega) h0 hk,if_pos hk]
theorem e5 {f:Nat→Int}:∀ {n:Nat},bU f n=0→∀ i,i < n→f i=0
 | 0,_,i,h=>absurd h (by omega)
 | n + 1,h,i,hi=>by
  rw [bU] at h
  by_cases e:bU f n=0
  ·rw [e,if_neg (by simp)] at h
   by_cases ei:i=n
   ·subst ei; exact h
   ·exact e5 e i (by omega)
  ·rw [if_pos e] at h; exact absurd h e
def bu (v:Vtx):Bool:=decide (0 ≤ v.color) && decide (v.color < 8) && (decide (0 ≤ v.label) && decide (v.label ≤ 1048576))
def mU (l:Spx) (k:Nat):Int:=if bu (l.getD k default)=false then 2 else if 0 < k∧0 ≤ aV (l.getD (k - 1) default) (l.getD k default) then 14 else 0
def bL (l:Spx):Int:=if l.length=0 then 16 else if 8 < l.length then 5 else bU (mU l) l.length
theorem c8 {l:Spx} (h:bL l=0):1 ≤ l.length∧l.length ≤ 8∧cP aV l∧∀ v ∈ l,bu v=true:=by
 unfold bL at h
 split at h
 ·exact absurd h (by decide)
 split at h
 ·exact absurd h (by decide)
 rename_i h1 h2
 have hz:=e5 h
 have h3:∀ k,k < l.length→bu (l.getD k default)=true∧(0 < k→aV (l.getD (k - 1) default) (l.getD k default) < 0):=fun k hk=>by
  have:=hz k hk
  unfold mU at this
  split at this
  ·exact absurd this (by decide)
  rename_i g1
  split at this
  ·exact absurd this (by decide)
  rename_i g2
  exact ⟨by simpa using g1,fun h0=>by omega⟩
 refine ⟨by omega,by omega,?_,fun v hv=>?_⟩
 ·have step:∀ j i,i < j→j < l.length→aV (l.getD i default) (l.getD j default) < 0:=by
    intro j
    induction j with
    | zero=>intro i h; omega
    | succ j ih =>
     intro i hi hj
     have hs:=(h3 (j + 1) hj).2 (by omega)
     rw [Nat.add_sub_cancel] at hs
     by_cases e:i=j
     ·subst e; exact hs
     ·exact nF.trans (ih i (by omega) (by omega)) hs
  unfold cP
  rw [List.pairwise_iff_getElem]
  intro i j hi hj hij
  have:=step j i hij hj
  simpa [List.getD,hi,hj] using this
 ·obtain ⟨i,hi,rfl⟩:=List.getElem_of_mem hv
  have:=(h3 i hi).1
  simpa [List.getD,hi] using this
theorem cS {α:Type} [Inhabited α] {K:α→α→Int} {l:List α} (h:cP K l) {i j:Nat} (hij:i < j) (hj:j < l.length):K (l.getD i default) (l.getD j default) < 0:=by
 have:=List.pairwise_iff_getElem.1 h i j (by omega) hj hij
 simpa [List.getD,hj,show i < l.length by omega] using this
end Go.Proofs.YtbgdcebmgjafjaaGreat
namespace Go.Proofs.YtbgdcebmgjafjaaGreat
open Go Go.Abs
open Nat (reduceEqDiff reduceAdd reduceLeDiff)
def c3i (a b:Int):Int:=if a < b then -1 else if a > b then 1 else 0
theorem sy (v w:Vtx):(if c3i v.color w.color ≠ 0 then c3i v.color w.color else c3i v.label w.label)=aV v w:=by
 unfold c3i aV
 by_cases h1:v.color < w.color
 ·rw [if_pos h1,if_pos h1,if_pos (by simp)]
 ·rw [if_neg h1,if_neg h1]
  by_cases h2:v.color > w.color
  ·rw [if_pos h2,if_pos h2,if_pos (by simp)]
  ·rw [if_neg h2,if_neg h2,if_neg (by simp)]
attribute [local irreducible] aG al bg bc aN aR aE aS bf br Go.Abs.Fn aY Go.Abs.Pure aA aL Yl
theorem qf (n:Int):Pure Tryz.prog 130 [.int .i64 n] (.bool false):=by
 refine Pure.of_c2 follows xR (Nat.le_of_ble_eq_true rfl) ?_
 simp only [yw,cO,cG,cN,cM,cD,cF,cB,au,aH]
 (have zz:=and_self; repeat' (first|refine zW ?_|apply a_n|refine zO ?_|refine vZ ?_|refine ah rfl ?_|refine r1Z ?_|fail)) <;> (try clear zz)
 exact bj (decide_eq_false (fun h=>h rfl))
theorem oQ (a b:Int):Pure Tryz.prog 111 [.int .i64 a,.int .i64 b] (.int .i64 (c3i a b)):=by
 refine Pure.of_c2 follows xY (Nat.le_of_ble_eq_true rfl) ?_
 simp only [x7,cO,cG,cN,cM,cD,cF,cB,au,aH]
 have h1:=qf a
 have h2:=qf b
 unfold c3i
 (have zz:=and_self; repeat' (first|refine zW ?_|apply a_n|apply a_r|refine zO ?_|refine vZ ?_|refine cZ ?_ (hp:=by first | exact h1 | exact h2)|refine cFZ ?_|(refine zGZ ?_ ?_ <;> (intro _hg; try (exfalso; omega)))|refine ah rfl ?_|refine r1Z ?_|fail)) <;> (try clear zz)
 all_goals (refine bC ?_)
 ·rw [if_pos (by omega)]
 ·rw [if_neg (by omega),if_pos (by omega)]
 ·rw [if_neg (by omega),if_neg (by omega)]
theorem xL (a b:Int):Pure Tryz.prog 110 [ce [a,b]] (.int .i64 (if a ≠ 0 then a else b)):=by
 refine Pure.of_c2 follows xI (Nat.le_of_ble_eq_true rfl) ?_
 simp only [yd,cO,cG,cN,cM,cD,cF,cB,au,aH]
 (have zz:=and_self; repeat' (first|refine zW ?_|apply a_n|refine zO ?_|refine vZ ?_|fail)) <;> (try clear zz)
 refine sT (fun k=>[(3,.int .i64 0),(6,ce [a,b]),(7,.int .i64 2),(8,.int .i64 k)]) 2 (fun k=>[a,b].getD k default=0) (by (iterate 4 refine And.intro rfl ?_); trivial) ?_
 intro k hk hz
 rcases (by omega:k=0 ∨ k=1 ∨ k=2) with rfl | rfl | rfl
 ·have e:[a,b].getD 0 default=a:=rfl
  have ix:d7 1 (ce [a,b]) (.int .i64 ((0:Nat):Int))=some (.iptr [.int .i64 a] 0):=rfl
  by_cases h0:a=0
  ·have z:decide (a ≠ 0)=false:=decide_eq_false (fun h=>h h0)
   (have zz:=aI @ix @z; repeat' (first|refine zW ?_|apply a_n|refine zO ?_|refine vZ ?_|refine cFZ ?_|(refine zGZ ?_ ?_ <;> (intro _hg; try (exfalso; omega)))|fail)) <;> (try clear zz)
   exact ⟨by omega,h0,by (iterate 4 refine And.intro rfl ?_); trivial,rfl,rfl⟩
  ·have z:decide (a ≠ 0)=true:=decide_eq_true h0
   (have zz:=aI @ix @z; repeat' (first|refine zW ?_|apply a_n|apply a_r|refine zO ?_|refine vZ ?_|refine cTZ ?_|(refine zGZ ?_ ?_ <;> (intro _hg; try (exfalso; omega)))|refine ah rfl ?_|refine r1Z ?_|fail)) <;> (try clear zz)
   rw [if_pos h0]; exact .int _ _
 ·have h0:a=0:=hz 0 (by omega)
  have ix:d7 1 (ce [a,b]) (.int .i64 ((1:Nat):Int))=some (.iptr [.int .i64 b] 0):=rfl
  rw [if_neg (fun h=>h h0)]
  by_cases h1:b=0
  ·have z:decide (b ≠ 0)=false:=decide_eq_false (fun h=>h h1)
   (have zz:=aI @ix @z; repeat' (first|refine zW ?_|apply a_n|refine zO ?_|refine vZ ?_|refine cFZ ?_|(refine zGZ ?_ ?_ <;> (intro _hg; try (exfalso; omega)))|fail)) <;> (try clear zz)
   exact ⟨by omega,h1,by (iterate 4 refine And.intro rfl ?_); trivial,rfl,rfl⟩
  ·have z:decide (b ≠ 0)=true:=decide_eq_true h1
   (have zz:=aI @ix @z; repeat' (first|refine zW ?_|apply a_n|apply a_r|refine zO ?_|refine vZ ?_|refine cTZ ?_|(refine zGZ ?_ ?_ <;> (intro _hg; try (exfalso; omega)))|refine ah rfl ?_|refine r1Z ?_|fail)) <;> (try clear zz)
   exact .int _ _
 ·have h0:a=0:=hz 0 (by omega)
  have h1:b=0:=hz 1 (by omega)
  rw [if_neg (fun h=>h h0),h1]
  (have zz:=and_self; repeat' (first|refine zW ?_|apply a_n|apply a_x|refine zO ?_|refine vZ ?_|(refine zGZ ?_ ?_ <;> (intro _hg; try (exfalso; omega)))|refine ah rfl ?_|refine r1Z ?_|fail)) <;> (try clear zz)
  exact .int _ _
theorem sj (v w:Vtx):Pure Tryz.prog 95 [bh v,bh w] (.int .i64 (aV v w)):=by
 refine Pure.of_c2 follows Be (Nat.le_of_ble_eq_true rfl) ?_
 simp only [b95,cO,cG,cN,cM,cD,cF,cB,au,aH]
 have h1:=oQ v.color w.color
 have h2:=oQ v.label w.label
 have h3:=xL (c3i v.color w.color) (c3i v.label w.label)
 rw [sy] at h3
 (have zz:=and_self; repeat' (first|refine zW ?_|refine zM ?_|apply a_n|refine zO ?_|refine vZ ?_|refine cZ ?_ (hp:=by first | exact h1 | exact h2)|refine bxZ ?_|refine blZ ?_|fail)) <;> (try clear zz)
 refine co ev0 (by ((try simp only [bP,ZA,reduceEqDiff,↓reduceIte,reduceAdd,reduceLeDiff]); (try with_reducible rfl)); rfl) h3 (aa (ax (rc aj rfl rfl) ab) rfl) ?_
 (have zz:=and_self; repeat' (first|apply a_n|refine zO ?_|refine vZ ?_|refine ah rfl ?_|refine r1Z ?_|fail)) <;> (try clear zz)
 exact .int _ _
theorem nD (v w:Vtx):Pure Tryz.prog 74 [bh v,bh w] (.int .i64 (aV v w)):=by
 refine Pure.of_c2 follows zl (Nat.le_of_ble_eq_true rfl) ?_
 simp only [b74,cO,cG,cN,cM,cD,cF,cB,au,aH]
 have h1:=oQ v.color w.color
 have h2:=oQ v.label w.label
 have h3:=xL (c3i v.color w.color) (c3i v.label w.label)
 rw [sy] at h3
 (have zz:=and_self; repeat' (first|refine zW ?_|refine zM ?_|apply a_n|refine zO ?_|refine vZ ?_|refine cZ ?_ (hp:=by first | exact h1 | exact h2)|refine bxZ ?_|refine blZ ?_|fail)) <;> (try clear zz)
 refine co ev0 (by ((try simp only [bP,ZA,reduceEqDiff,↓reduceIte,reduceAdd,reduceLeDiff]); (try with_reducible rfl)); rfl) h3 (aa (ax (rc aj rfl rfl) ab) rfl) ?_
 (have zz:=and_self; repeat' (first|apply a_n|refine zO ?_|refine vZ ?_|refine ah rfl ?_|refine r1Z ?_|fail)) <;> (try clear zz)
 exact .int _ _
theorem gu (v w:Vtx):Pure Tryz.prog 88 [bh v,bh w] (.int .i64 (aV v w)):=by
 refine Pure.of_c2 follows zH (Nat.le_of_ble_eq_true rfl) ?_
 simp only [b88,cO,cG,cN,cM,cD,cF,cB,au,aH]
 unfold aV
 (have zz:=and_self; repeat' (first|refine zW ?_|apply a_n|apply a_r|refine zO ?_|refine vZ ?_|refine bxZ ?_|(refine zGZ ?_ ?_ <;> (intro _hg; try (exfalso; omega)))|refine ah rfl ?_|refine r1Z ?_|fail)) <;> (try clear zz)
 all_goals (refine bC ?_; (repeat' split) <;> omega)
theorem rI (v:Vtx):Pure Tryz.prog 99 [bh v] (.bool (bu v)):=by
 refine Pure.of_c2 follows zN (Nat.le_of_ble_eq_true rfl) ?_
 simp only [b99,cO,cG,cN,cM,cD,cF,cB,au,aH]
 unfold bu
 (have zz:=and_self; repeat' (first|refine zW ?_|apply a_n|refine zO ?_|refine vZ ?_|refine bxZ ?_|refine gTZ ?_|refine gFZ ?_|(refine zGZ ?_ ?_ <;> (intro _hg; try (exfalso; omega)))|refine ah rfl ?_|refine r1Z ?_|fail)) <;> (try clear zz)
 all_goals (refine bj ?_; rw [Bool.eq_iff_iff]; simp only [Bool.and_eq_true,decide_eq_true_iff,Bool.false_eq_true,false_iff]; omega)
theorem qT (v:Vtx):Pure Tryz.prog 73 [bh v] (.bool (bu v)):=by
 refine Pure.of_c2 follows Ae (Nat.le_of_ble_eq_true rfl) ?_
 simp only [b73,cO,cG,cN,cM,cD,cF,cB,au,aH]
 unfold bu
 (have zz:=and_self; repeat' (first|refine zW ?_|apply a_n|refine zO ?_|refine vZ ?_|refine bxZ ?_|refine gTZ ?_|refine gFZ ?_|(refine zGZ ?_ ?_ <;> (intro _hg; try (exfalso; omega)))|refine ah rfl ?_|refine r1Z ?_|fail)) <;> (try clear zz)
 all_goals (refine bj ?_; rw [Bool.eq_iff_iff]; simp only [Bool.and_eq_true,decide_eq_true_iff,Bool.false_eq_true,false_iff]; omega)
theorem ky (v:Vtx):Pure Tryz.prog 87 [bh v] (.bool (bu v)):=by
 refine Pure.of_c2 follows BO (Nat.le_of_ble_eq_true rfl) ?_
 simp only [b87,cO,cG,cN,cM,cD,cF,cB,au,aH]
 unfold bu
 (have zz:=and_self; repeat' (first|refine zW ?_|apply a_n|refine zO ?_|refine vZ ?_|refine bxZ ?_|refine gTZ ?_|refine gFZ ?_|(refine zGZ ?_ ?_ <;> (intro _hg; try (exfalso; omega)))|refine ah rfl ?_|refine r1Z ?_|fail)) <;> (try clear zz)
 all_goals (refine bj ?_; rw [Bool.eq_iff_iff]; simp only [Bool.and_eq_true,decide_eq_true_iff,Bool.false_eq_true,false_iff]; omega)
end Go.Proofs.YtbgdcebmgjafjaaGreat
namespace Go.Proofs.YtbgdcebmgjafjaaGreat
open Go Go.Abs
attribute [local irreducible] aG al bg bc aN aR aE aS bf br Go.Abs.Fn aY Go.Abs.Pure aA aL Yl
theorem qL (l m:Spx) (hl:Shn l) (hm:Shn m):Pure Tryz.prog 94 [ao l,ao m,.func 95 []] (.int .i64 (bi l m)):=by
 refine Pure.of_c2 follows zK (Nat.le_of_ble_eq_true rfl) ?_
 simp only [b94,cO,cG,cN,cM,cD,cF,cB,au,aH]
 have hl':l.length ≤ 17592186044416:=hl
 have hm':m.length ≤ 17592186044416:=hm
 (have zz:=@ai; repeat' (first|refine zW ?_|apply a_n|refine zO ?_|refine vZ ?_|fail)) <;> (try clear zz)
 refine aM (X:=Nat) (fun k=>[(0,ao l),(1,ao m),(2,.func 95 []),(11,ao l),(12,.int .i64 l.length),(13,.int .i64 k)]) (fun k H nx=>k ≤ l.length∧k ≤ m.length∧bi l m=bi (l.drop k) (m.drop k)) (fun k=>l.length - k) 0 ⟨Nat.zero_le _,Nat.zero_le _,rfl⟩ ag0 ?_
 rintro k H nx ⟨h1,h2,h3⟩
 by_cases hk:k < l.length
 rotate_left
 ·rw [h3,nc (by omega) ⟨h1,h2⟩]
  (have zz:=@ai; repeat' (first|refine zW ?_|apply a_n|apply a_x|apply a_r|refine zO ?_|refine vY ?_|(refine zGY ?_ ?_ <;> (intro _hg; try (exfalso; omega)))|refine ah rfl ?_|refine r1Y ?_|fail)) <;> (try clear zz)
  all_goals (refine bC ?_)
  ·rw [if_pos (by omega)]
  ·rw [if_neg (by omega),if_neg (by omega)]
 have ix:=ix2 hk
 by_cases hk2:k < m.length
 rotate_left
 ·rw [h3,nc (by omega) ⟨h1,h2⟩,if_neg (by omega),if_pos (by omega)]
  (have zz:=aI @ai @ix; repeat' (first|refine zW ?_|apply a_n|apply a_r|refine zO ?_|refine vY ?_|refine alY ?_|refine stY ?_|(refine zGY ?_ ?_ <;> (intro _hg; try (exfalso; omega)))|refine ah rfl ?_|refine r1Y ?_|fail)) <;> (try clear zz)
  all_goals exact bC rfl
 have iy:=ix2 hk2
 have hc:=sj (l.getD k default) (m.getD k default)
 have hd:=oe hk hk2
 by_cases he:aV (l.getD k default) (m.getD k default)=0
 ·rw [if_neg (fun h=>h he)] at hd
  rw [he] at hc
  have z:decide ((0:Int) ≠ 0)=false:=rfl
  (have zz:=aI @ai (aI @ix (aI @iy @z)); repeat' (first|refine zW ?_|apply a_n|refine zO ?_|refine vY ?_|refine cY ?_ (hp:=hc) (hs:=by (first | refine aa ?_ rfl | apply ac); (repeat' (first | exact ab | apply ag | apply ae | exact aP _)); first | done | fail)|refine alY ?_|refine stY ?_|refine cFY ?_|(refine zGY ?_ ?_ <;> (intro _hg; try (exfalso; omega)))|fail)) <;> (try clear zz)
  exact ⟨k + 1,by omega,⟨by omega,by omega,h3.trans hd⟩,ag0⟩
 ·rw [if_pos he] at hd
  have z:decide (aV (l.getD k default) (m.getD k default) ≠ 0)=true:=decide_eq_true he
  rw [h3,hd]
  (have zz:=aI @ai (aI @ix (aI @iy @z)); repeat' (first|refine zW ?_|apply a_n|apply a_r|refine zO ?_|refine vY ?_|refine cY ?_ (hp:=hc) (hs:=by (first | refine aa ?_ rfl | apply ac); (repeat' (first | exact ab | apply ag | apply ae | exact aP _)); first | done | fail)|refine alY ?_|refine stY ?_|refine cTY ?_|(refine zGY ?_ ?_ <;> (intro _hg; try (exfalso; omega)))|refine ah rfl ?_|refine r1Y ?_|fail)) <;> (try clear zz)
  exact .int _ _
theorem fR (l m:Spx) (hl:Shn l) (hm:Shn m):Pure Tryz.prog 59 [ao l,ao m] (.int .i64 (bi l m)):=by
 refine Pure.of_c2 follows Bi (Nat.le_of_ble_eq_true rfl) ?_
 simp only [b59,cO,cG,cN,cM,cD,cF,cB,au,aH]
 have h:=qL l m hl hm
 (have zz:=and_self; repeat' (first|refine zW ?_|apply a_n|refine zO ?_|refine vZ ?_|refine cZ ?_ (hp:=h) (hs:=by (first | refine aa ?_ rfl | apply ac); (repeat' (first | exact ab | apply ag | apply ae | exact an _ | exact Dat.func (by simp))); first | done | fail)|refine ah rfl ?_|refine r1Z ?_|fail)) <;> (try clear zz)
 exact .int _ _
theorem ef (l m:Spx) (hl:Shn l) (hm:Shn m):Pure Tryz.prog 62 [ao l,ao m] (.int .i64 (bi l m)):=by
 refine Pure.of_c2 follows zv (Nat.le_of_ble_eq_true rfl) ?_
 simp only [b62,cO,cG,cN,cM,cD,cF,cB,au,aH]
 have hl':l.length ≤ 17592186044416:=hl
 have hm':m.length ≤ 17592186044416:=hm
 (have zz:=and_self; repeat' (first|refine zW ?_|apply a_n|refine zO ?_|refine vZ ?_|fail)) <;> (try clear zz)
 refine aM (X:=Nat) (fun k=>[(0,ao l),(1,ao m),(5,.int .i64 k)]) (fun k H nx=>k ≤ l.length∧k ≤ m.length∧bi l m=bi (l.drop k) (m.drop k)) (fun k=>l.length - k) 0 ⟨Nat.zero_le _,Nat.zero_le _,rfl⟩ ag0 ?_
 rintro k H nx ⟨h1,h2,h3⟩
 by_cases hk:k < l.length∧k < m.length
 rotate_left
 ·rw [h3,nc (by omega) ⟨h1,h2⟩]
  (have zz:=@ai; repeat' (first|refine zW ?_|apply a_n|apply a_x|apply a_r|refine zO ?_|refine vY ?_|refine gTY ?_|refine gFY ?_|refine cFY ?_|(refine zGY ?_ ?_ <;> (intro _hg; try (exfalso; omega)))|refine ah rfl ?_|refine r1Y ?_|fail)) <;> (try clear zz)
  all_goals (refine bC ?_; (repeat' split) <;> omega)
 have ix:=ix2 hk.1
 have iy:=ix2 hk.2
 have hc:=gu (l.getD k default) (m.getD k default)
 have hd:=oe hk.1 hk.2
 by_cases he:aV (l.getD k default) (m.getD k default)=0
 ·rw [if_neg (fun h=>h he)] at hd
  rw [he] at hc
  have z:decide ((0:Int) ≠ 0)=false:=rfl
  (have zz:=aI @ai (aI @ix (aI @iy @z)); repeat' (first|refine zW ?_|refine zM ?_|apply a_n|refine zO ?_|refine vY ?_|refine cY ?_ (hp:=hc) (hs:=by (first | refine aa ?_ rfl | apply ac); (repeat' (first | exact ab | apply ag | apply ae | exact aP _)); first | done | fail)|refine gTY ?_|refine cFY ?_|(refine zGY ?_ ?_ <;> (intro _hg; try (exfalso; omega)))|fail)) <;> (try clear zz)
  exact ⟨k + 1,by omega,⟨by omega,by omega,h3.trans hd⟩,ag0⟩
 ·rw [if_pos he] at hd
  have z:decide (aV (l.getD k default) (m.getD k default) ≠ 0)=true:=decide_eq_true he
  rw [h3,hd]
  (have zz:=aI @ai (aI @ix (aI @iy @z)); repeat' (first|refine zW ?_|refine zM ?_|apply a_n|apply a_r|refine zO ?_|refine vY ?_|refine cY ?_ (hp:=hc) (hs:=by (first | refine aa ?_ rfl | apply ac); (repeat' (first | exact ab | apply ag | apply ae | exact aP _)); first | done | fail)|refine gTY ?_|refine cTY ?_|(refine zGY ?_ ?_ <;> (intro _hg; try (exfalso; omega)))|refine ah rfl ?_|refine r1Y ?_|fail)) <;> (try clear zz)
  exact .int _ _
theorem wO (l m:Spx) (hl:Shn l) (hm:Shn m):Pure Tryz.prog 27 [ao l,ao m] (.bool (decide (l=m))):=by
 refine Pure.of_c2 follows ze (Nat.le_of_ble_eq_true rfl) ?_
 simp only [b27,cO,cG,cN,cM,cD,cF,cB,au,aH]
 have h:=ef l m hl hm
 (have zz:=and_self; repeat' (first|refine zW ?_|apply a_n|refine zO ?_|refine vZ ?_|refine cZ ?_ (hp:=h) (hs:=by (first | refine aa ?_ rfl | apply ac); (repeat' (first | exact ab | apply ag | apply ae | exact an _)); first | done | fail)|refine ah rfl ?_|refine r1Z ?_|fail)) <;> (try clear zz)
 exact bj (decide_eq_decide.2 n7)
theorem li {l:Spx} {k:Nat}:mU l k=if bu (l.getD k default)=false then 2 else if 0 < k∧0 ≤ aV (l.getD (k - 1) default) (l.getD k default) then 14 else 0:=rfl
theorem nw (l:Spx) (hl:Shn l):Pure Tryz.prog 64 [ao l] (.int .i64 (bL l)):=by
 refine Pure.of_c2 follows zf (Nat.le_of_ble_eq_true rfl) ?_
 simp only [b64,cO,cG,cN,cM,cD,cF,cB,au,aH]
 have hl':l.length ≤ 17592186044416:=hl
 by_cases h0:l.length=0
 ·rw [show bL l=16 by unfold bL; rw [if_pos h0]]
  (have zz:=@ai; repeat' (first|refine zW ?_|apply a_n|apply a_r|refine zO ?_|refine vZ ?_|(refine zGZ ?_ ?_ <;> (intro _hg; try (exfalso; omega)))|refine ah rfl ?_|refine r1Z ?_|fail)) <;> (try clear zz)
  all_goals exact bC rfl
 by_cases h8:8 < l.length
 ·rw [show bL l=5 by unfold bL; rw [if_neg h0,if_pos h8]]
  (have zz:=@ai; repeat' (first|refine zW ?_|apply a_n|apply a_r|refine zO ?_|refine vZ ?_|(refine zGZ ?_ ?_ <;> (intro _hg; try (exfalso; omega)))|refine ah rfl ?_|refine r1Z ?_|fail)) <;> (try clear zz)
  all_goals exact bC rfl
 rw [show bL l=bU (mU l) l.length by unfold bL; rw [if_neg h0,if_neg h8]]
 (have zz:=@ai; repeat' (first|refine zW ?_|apply a_n|refine zO ?_|refine vZ ?_|(refine zGZ ?_ ?_ <;> (intro _hg; try (exfalso; omega)))|fail)) <;> (try clear zz)
 refine aM (X:=Nat) (fun k=>[(0,ao l),(13,ao l),(14,.int .i64 l.length),(15,.int .i64 k)]) (fun k H nx=>k ≤ l.length∧∀ i,i < k→mU l i=0) (fun k=>l.length - k) 0 ⟨Nat.zero_le _,fun i h=>absurd h (by omega)⟩ ag0 ?_
 rintro k H nx ⟨h1,h2⟩
 by_cases hk:k < l.length
 rotate_left
 ·rw [cI fun i hi=>h2 i (by omega)]
  (have zz:=@ai; repeat' (first|refine zW ?_|apply a_n|apply a_x|refine zO ?_|refine vY ?_|(refine zGY ?_ ?_ <;> (intro _hg; try (exfalso; omega)))|refine ah rfl ?_|refine r1Y ?_|fail)) <;> (try clear zz)
  exact .int _ _
 have ix:=ix2 hk
 have hp:=rI (l.getD k default)
 have hs:=li (l:=l) (k:=k)
 cases hr:bu (l.getD k default)
 ·rw [hr] at hp
  rw [hr,if_pos rfl] at hs
  rw [bB hk h2 (by rw [hs]; decide),hs]
  (have zz:=aI @ai @ix; repeat' (first|refine zW ?_|apply a_n|apply a_r|refine zO ?_|refine vY ?_|refine cY ?_ (hp:=hp) (hs:=by (first | refine aa ?_ rfl | apply ac); (repeat' (first | exact ab | apply ag | apply ae | exact aP _)); first | done | fail)|refine alY ?_|refine stY ?_|refine cTY ?_|(refine zGY ?_ ?_ <;> (intro _hg; try (exfalso; omega)))|refine ah rfl ?_|refine r1Y ?_|fail)) <;> (try clear zz)
  exact .int _ _
 rw [hr] at hp
 rw [hr,if_neg (by decide)] at hs
 by_cases hk0:0 < k
 rotate_left
 ·rw [if_neg (fun h=>hk0 h.1)] at hs
  have zk:decide (0 < (k:Int))=false:=decide_eq_false (by omega)
  (have zz:=aI @ai (aI @ix @zk); repeat' (first|refine zW ?_|refine zM ?_|apply a_n|refine zO ?_|refine vY ?_|refine cY ?_ (hp:=hp) (hs:=by (first | refine aa ?_ rfl | apply ac); (repeat' (first | exact ab | apply ag | apply ae | exact aP _)); first | done | fail)|refine alY ?_|refine stY ?_|refine gFY ?_|refine cFY ?_|(refine zGY ?_ ?_ <;> (intro _hg; try (exfalso; omega)))|fail)) <;> (try clear zz)
  exact ⟨k + 1,by omega,⟨by omega,fun i hi=>by
   rcases Nat.lt_succ_iff_lt_or_eq.1 hi with h | rfl
   ·exact h2 i h
   ·exact hs⟩,ag0⟩
 have zk:decide (0 < (k:Int))=true:=decide_eq_true (by omega)
 have iy:d7 2 (ao l) (.int .i64 ((k:Int) - 1))=some (.iptr [.int .i64 (l.getD (k - 1) default).color,.int .i64 (l.getD (k - 1) default).label] 0):=by
  have:=ix2 (l:=l) (k:=k - 1) (by omega)
  rwa [show ((k - 1:Nat):Int)=(k:Int) - 1 by omega] at this
 have hc:=sj (l.getD (k - 1) default) (l.getD k default)
 by_cases hv:0 ≤ aV (l.getD (k - 1) default) (l.getD k default)
 ·have z:decide (0 ≤ aV (l.getD (k - 1) default) (l.getD k default))=true:=decide_eq_true hv
  rw [if_pos ⟨hk0,hv⟩] at hs
  rw [bB hk h2 (by rw [hs]; decide),hs]
  (have zz:=aI @ai (aI @ix (aI @iy (aI @zk @z))); repeat' (first|refine zW ?_|refine zM ?_|apply a_n|apply a_r|refine zO ?_|refine vY ?_|refine cY ?_ (hp:=by first | exact hp | exact hc) (hs:=by (first | refine aa ?_ rfl | apply ac); (repeat' (first | exact ab | apply ag | apply ae | exact aP _)); first | done | fail)|refine alY ?_|refine stY ?_|refine gTY ?_|refine cTY ?_|refine cFY ?_|(refine zGY ?_ ?_ <;> (intro _hg; try (exfalso; omega)))|refine ah rfl ?_|refine r1Y ?_|fail)) <;> (try clear zz)
  exact .int _ _
 ·have z:decide (0 ≤ aV (l.getD (k - 1) default) (l.getD k default))=false:=decide_eq_false hv
  rw [if_neg (fun h=>hv h.2)] at hs
  (have zz:=aI @ai (aI @ix (aI @iy (aI @zk @z))); repeat' (first|refine zW ?_|refine zM ?_|apply a_n|refine zO ?_|refine vY ?_|refine cY ?_ (hp:=by first | exact hp | exact hc) (hs:=by (first | refine aa ?_ rfl | apply ac); (repeat' (first | exact ab | apply ag | apply ae | exact aP _)); first | done | fail)|refine alY ?_|refine stY ?_|refine gTY ?_|refine cFY ?_|(refine zGY ?_ ?_ <;> (intro _hg; try (exfalso; omega)))|fail)) <;> (try clear zz)
  exact ⟨k + 1,by omega,⟨by omega,fun i hi=>by
   rcases Nat.lt_succ_iff_lt_or_eq.1 hi with h | rfl
   ·exact h2 i h
   ·exact hs⟩,ag0⟩
theorem sf (l:Spx) (hl:Shn l):Pure Tryz.prog 65 [ao l] (.int .i64 (bL l)):=by
 refine Pure.of_c2 follows BB (Nat.le_of_ble_eq_true rfl) ?_
 simp only [b65,cO,cG,cN,cM,cD,cF,cB,au,aH]
 have hl':l.length ≤ 17592186044416:=hl
 by_cases h0:l.length=0
 ·rw [show bL l=16 by unfold bL; rw [if_pos h0]]
  (have zz:=@ai; repeat' (first|refine zW ?_|apply a_n|apply a_r|refine zO ?_|refine vZ ?_|(refine zGZ ?_ ?_ <;> (intro _hg; try (exfalso; omega)))|refine ah rfl ?_|refine r1Z ?_|fail)) <;> (try clear zz)
  all_goals exact bC rfl
 by_cases h8:8 < l.length
 ·rw [show bL l=5 by unfold bL; rw [if_neg h0,if_pos h8]]
  (have zz:=@ai; repeat' (first|refine zW ?_|apply a_n|apply a_r|refine zO ?_|refine vZ ?_|(refine zGZ ?_ ?_ <;> (intro _hg; try (exfalso; omega)))|refine ah rfl ?_|refine r1Z ?_|fail)) <;> (try clear zz)
  all_goals exact bC rfl
 rw [show bL l=bU (mU l) l.length by unfold bL; rw [if_neg h0,if_neg h8]]
 (have zz:=@ai; repeat' (first|refine zW ?_|apply a_n|refine zO ?_|refine vZ ?_|(refine zGZ ?_ ?_ <;> (intro _hg; try (exfalso; omega)))|fail)) <;> (try clear zz)
 refine aM (X:=Nat) (fun k=>[(0,ao l),(3,.int .i64 k)]) (fun k H nx=>k ≤ l.length∧∀ i,i < k→mU l i=0) (fun k=>l.length - k) 0 ⟨Nat.zero_le _,fun i h=>absurd h (by omega)⟩ ag0 ?_
 rintro k H nx ⟨h1,h2⟩
 by_cases hk:k < l.length
 rotate_left
 ·rw [cI fun i hi=>h2 i (by omega)]
  (have zz:=@ai; repeat' (first|refine zW ?_|apply a_n|apply a_x|refine zO ?_|refine vY ?_|(refine zGY ?_ ?_ <;> (intro _hg; try (exfalso; omega)))|refine ah rfl ?_|refine r1Y ?_|fail)) <;> (try clear zz)
  exact .int _ _
 have ix:=ix2 hk
 have hp:=ky (l.getD k default)
 have hs:=li (l:=l) (k:=k)
 cases hr:bu (l.getD k default)
 ·rw [hr] at hp
  rw [hr,if_pos rfl] at hs
  rw [bB hk h2 (by rw [hs]; decide),hs]
  (have zz:=aI @ai @ix; repeat' (first|refine zW ?_|apply a_n|apply a_r|refine zO ?_|refine vY ?_|refine cY ?_ (hp:=hp) (hs:=by (first | refine aa ?_ rfl | apply ac); (repeat' (first | exact ab | apply ag | apply ae | exact aP _)); first | done | fail)|refine cTY ?_|(refine zGY ?_ ?_ <;> (intro _hg; try (exfalso; omega)))|refine ah rfl ?_|refine r1Y ?_|fail)) <;> (try clear zz)
  exact .int _ _
 rw [hr] at hp
 rw [hr,if_neg (by decide)] at hs
 by_cases hk0:0 < k
 rotate_left
 ·rw [if_neg (fun h=>hk0 h.1)] at hs
  have zk:decide (0 < (k:Int))=false:=decide_eq_false (by omega)
  (have zz:=aI @ai (aI @ix @zk); repeat' (first|refine zW ?_|refine zM ?_|apply a_n|refine zO ?_|refine vY ?_|refine cY ?_ (hp:=hp) (hs:=by (first | refine aa ?_ rfl | apply ac); (repeat' (first | exact ab | apply ag | apply ae | exact aP _)); first | done | fail)|refine gFY ?_|refine cFY ?_|(refine zGY ?_ ?_ <;> (intro _hg; try (exfalso; omega)))|fail)) <;> (try clear zz)
  exact ⟨k + 1,by omega,⟨by omega,fun i hi=>by
   rcases Nat.lt_succ_iff_lt_or_eq.1 hi with h | rfl
   ·exact h2 i h
   ·exact hs⟩,ag0⟩
 have zk:decide (0 < (k:Int))=true:=decide_eq_true (by omega)
 have iy:d7 2 (ao l) (.int .i64 ((k:Int) - 1))=some (.iptr [.int .i64 (l.getD (k - 1) default).color,.int .i64 (l.getD (k - 1) default).label] 0):=by
  have:=ix2 (l:=l) (k:=k - 1) (by omega)
  rwa [show ((k - 1:Nat):Int)=(k:Int) - 1 by omega] at this
 have hc:=gu (l.getD (k - 1) default) (l.getD k default)
 by_cases hv:0 ≤ aV (l.getD (k - 1) default) (l.getD k default)
 ·have z:decide (0 ≤ aV (l.getD (k - 1) default) (l.getD k default))=true:=decide_eq_true hv
  rw [if_pos ⟨hk0,hv⟩] at hs
  rw [bB hk h2 (by rw [hs]; decide),hs]
  (have zz:=aI @ai (aI @ix (aI @iy (aI @zk @z))); repeat' (first|refine zW ?_|refine zM ?_|apply a_n|apply a_r|refine zO ?_|refine vY ?_|refine cY ?_ (hp:=by first | exact hp | exact hc) (hs:=by (first | refine aa ?_ rfl | apply ac); (repeat' (first | exact ab | apply ag | apply ae | exact aP _)); first | done | fail)|refine gTY ?_|refine cTY ?_|refine cFY ?_|(refine zGY ?_ ?_ <;> (intro _hg; try (exfalso; omega)))|refine ah rfl ?_|refine r1Y ?_|fail)) <;> (try clear zz)
  exact .int _ _
 ·have z:decide (0 ≤ aV (l.getD (k - 1) default) (l.getD k default))=false:=decide_eq_false hv
  rw [if_neg (fun h=>hv h.2)] at hs
  (have zz:=aI @ai (aI @ix (aI @iy (aI @zk @z))); repeat' (first|refine zW ?_|refine zM ?_|apply a_n|refine zO ?_|refine vY ?_|refine cY ?_ (hp:=by first | exact hp | exact hc) (hs:=by (first | refine aa ?_ rfl | apply ac); (repeat' (first | exact ab | apply ag | apply ae | exact aP _)); first | done | fail)|refine gTY ?_|refine cFY ?_|(refine zGY ?_ ?_ <;> (intro _hg; try (exfalso; omega)))|fail)) <;> (try clear zz)
  exact ⟨k + 1,by omega,⟨by omega,fun i hi=>by
   rcases Nat.lt_succ_iff_lt_or_eq.1 hi with h | rfl
   ·exact h2 i h
   ·exact hs⟩,ag0⟩
end Go.Proofs.YtbgdcebmgjafjaaGreat
namespace Go.Proofs.YtbgdcebmgjafjaaGreat
open Go Go.Abs
open Nat (reduceEqDiff reduceAdd reduceLeDiff)
theorem r8 (a b c d:Int):bR [.int,.int] [.int .i64 a,.int .i64 b] [.int .i64 c,.int .i64 d]=some (decide (a=c∧b=d)):=by
 have e:∀ x y:Int,(x == y)=decide (x=y):=fun x y=>rfl
 by_cases h1:a=c
 ·by_cases h2:b=d
  ·subst h1 h2; simp [bR,e8]
  ·subst h1; simp only [bR,e8,if_true,e,decide_eq_false h2,decide_true,h2,and_false,decide_false]
 ·simp only [bR,e8,if_true,e,decide_eq_false h1,h1,false_and,decide_false]
theorem acq (a b c d:Int):jk .eql [.int,.int] [.int .i64 a,.int .i64 b] [.int .i64 c,.int .i64 d]=some (.bool (decide (a=c∧b=d))):=by
 unfold jk; rw [r8]
theorem acn (a b c d:Int):jk .neq [.int,.int] [.int .i64 a,.int .i64 b] [.int .i64 c,.int .i64 d]=some (.bool (!decide (a=c∧b=d))):=by
 unfold jk; rw [r8]
theorem gx (v w:Vtx):decide (v.color=w.color∧v.label=w.label)=decide (v=w):=decide_eq_decide.2 lB.symm
theorem cV {H:Hp} {d:Nat} {x y:AV}:dz 2 (am H d [x,y]) (.msl d 2 2 0 1)=some (1,[x,y]):=hU (n:=2) (len:=1) (off:=0) (cs:=[x,y]) aj rfl (by simp)
theorem bt {α:Type} [Inhabited α] {l:List α} {k:Nat} (h:k < l.length):l.take (k + 1)=l.take k ++ [l.getD k default]:=by
 rw [List.take_add_one]; simp [List.getD,h]
section
variable {α:Type} {K:α→α→Int} {v x:α} {l:List α}
theorem js (h:l.any (fun y=>decide (K v y < 0))=true):fT K (l ++ [x]) v=fT K l v ++ [x]:=by
 induction l with
 | nil=>cases h
 | cons a l ih =>
  rw [List.cons_append,fT,fT]
  split
  ·rfl
  ·rename_i ha
   rw [List.any_cons,decide_eq_false ha,Bool.false_or] at h
   rw [ih h]; rfl
theorem nZ (h:l.any (fun y=>decide (K v y < 0))=false):fT K l v=l ++ [v]:=by
 induction l with
 | nil=>rfl
 | cons a l ih =>
  rw [List.any_cons,Bool.or_eq_false_iff] at h
  rw [fT,if_neg (of_decide_eq_false h.1),ih h.2]; rfl
theorem n9 (h:l.any (fun y=>decide (K v y < 0))=false) (hx:K v x < 0):fT K (l ++ [x]) v=l ++ [v] ++ [x]:=by
 induction l with
 | nil=>rw [List.nil_append,fT,if_pos hx]; rfl
 | cons a l ih =>
  rw [List.any_cons,Bool.or_eq_false_iff] at h
  rw [List.cons_append,fT,if_neg (of_decide_eq_false h.1),ih h.2]; rfl
theorem qM {p:α→Bool}:(l ++ [x]).any p=(l.any p || p x):=by rw [List.any_append]; simp
end
def oN (l:Spx) (v:Vtx) (k:Nat):Spx:=if (l.take k).any (fun y=>decide (aV v y < 0))=true then fT aV (l.take k) v else l.take k
theorem uo {l:Spx} {v:Vtx} {k:Nat} (hk:k < l.length):oN l v (k + 1)=(if (l.take k).any (fun y=>decide (aV v y < 0))=false∧aV v (l.getD k default) < 0 then oN l v k ++ [v] else oN l v k) ++ [l.getD k default]∧(l.take (k + 1)).any (fun y=>decide (aV v y < 0))=((l.take k).any (fun y=>decide (aV v y < 0)) || decide (aV v (l.getD k default) < 0)):=by
 unfold oN
 rw [bt hk,qM]
 refine ⟨?_,rfl⟩
 by_cases hv:aV v (l.getD k default) < 0
 ·rw [decide_eq_true hv,Bool.or_true,if_pos rfl]
  cases ha:(l.take k).any fun y=>decide (aV v y < 0)
  ·rw [if_pos ⟨rfl,hv⟩,if_neg (by decide),n9 ha hv]
  ·rw [if_neg (fun h=>by cases h.1),if_pos rfl,js ha]
 ·rw [decide_eq_false hv,Bool.or_false]
  cases ha:(l.take k).any fun y=>decide (aV v y < 0)
  ·simp
   simpa using hv
  ·simp [hv,js ha]
theorem vt {l:Spx} {v:Vtx} {k:Nat}:(oN l v k).length ≤ l.length + 1:=by
 unfold oN
 split
 ·rw [mI,List.length_take]; omega
 ·rw [List.length_take]; omega
def bw (a b:Spx):Bool:=a.all fun v=>decide (v ∈ b)
attribute [local irreducible] aG al bg bc aN aR aE aS bf br Go.Abs.Fn aY Go.Abs.Pure aA aL Yl
theorem ww (l:Spx) (v:Vtx) (hl:Shn l):Pure Tryz.prog 97 [ao l,bh v] (.bool (decide (v ∈ l))):=by
 refine Pure.of_c2 follows BJ (Nat.le_of_ble_eq_true rfl) ?_
 simp only [b97,cO,cG,cN,cM,cD,cF,cB,au,aH]
 have hl':l.length ≤ 17592186044416:=hl
 (have zz:=@ai; repeat' (first|refine zW ?_|apply a_n|refine zO ?_|refine vZ ?_|refine bxZ ?_|fail)) <;> (try clear zz)
 refine sT (fun k=>[(0,ao l),(3,.ptr 0 2 0),(5,.int .i64 k)]) l.length (fun k=>l.getD k default ≠ v) (by simp (disch:=omega) only [agr,ZG,reduceEqDiff,↓reduceIte,List.length_cons,List.length_nil,Nat.zero_add,reduceAdd]) ?_
 intro k hk hz
 by_cases hk2:k < l.length
 rotate_left
 ·(have zz:=@ai; repeat' (first|refine zW ?_|apply a_n|apply a_x|refine zO ?_|refine vZ ?_|(refine zGZ ?_ ?_ <;> (intro _hg; try (exfalso; omega)))|refine ah rfl ?_|refine r1Z ?_|fail)) <;> (try clear zz)
  exact bj (tW fun i hi=>hz i (by omega)).symm
 have ix:=ix2 hk2
 have hd:=gx (l.getD k default) v
 by_cases he:l.getD k default=v
 ·rw [decide_eq_true he] at hd
  rw [vn hk2 he]
  (have zz:=aI @ai (aI @ix (aI @acq @hd)); repeat' (first|refine zW ?_|apply a_n|apply a_r|refine zO ?_|refine vZ ?_|refine cTZ ?_|(refine zGZ ?_ ?_ <;> (intro _hg; try (exfalso; omega)))|refine ah rfl ?_|refine r1Z ?_|fail)) <;> (try clear zz)
  exact .bool _
 ·rw [decide_eq_false he] at hd
  (have zz:=aI @ai (aI @ix (aI @acq @hd)); repeat' (first|refine zW ?_|apply a_n|refine zO ?_|refine vZ ?_|refine cFZ ?_|(refine zGZ ?_ ?_ <;> (intro _hg; try (exfalso; omega)))|fail)) <;> (try clear zz)
  exact ⟨hk2,he,ag0,rfl,rfl⟩
set_option maxHeartbeats 1000000 in
theorem xS (l:Spx) (v:Vtx) (hl:l.length ≤ 1000000):Pure Tryz.prog 98 [ao l,bh v] (ao (e7 aV l v)):=by
 refine Pure.of_c2 follows B1 (Nat.le_of_ble_eq_true rfl) ?_
 simp only [b98,cO,cG,cN,cM,cD,cF,cB,au,aH]
 have hh:=ww l v (show l.length ≤ _ by omega)
 unfold e7
 by_cases hv:v ∈ l
 ·rw [decide_eq_true hv] at hh
  rw [if_pos hv]
  (have zz:=@ai; repeat' (first|refine zW ?_|apply a_n|apply a_r|refine zO ?_|refine vZ ?_|refine cZ ?_ (hp:=hh) (hs:=by (first | refine aa ?_ rfl | apply ac); (repeat' (first | exact ab | apply ag | apply ae | exact an _ | exact aP _)); first | done | fail)|refine bxZ ?_|refine cTZ ?_|refine ah rfl ?_|refine r1Z ?_|fail)) <;> (try clear zz)
  exact an _ _
 rw [decide_eq_false hv] at hh
 rw [if_neg hv]
 (have zz:=@ai; repeat' (first|refine zW ?_|apply a_n|refine zO ?_|refine vZ ?_|refine cZ ?_ (hp:=hh) (hs:=by (first | refine aa ?_ rfl | apply ac); (repeat' (first | exact ab | apply ag | apply ae | exact an _ | exact aP _)); first | done | fail)|refine bxZ ?_|refine cFZ ?_|fail)) <;> (try clear zz)
 refine aM (X:=Nat × AV) (fun x=>[(0,ao l),(3,.ptr 0 2 0),(5,x.2),(6,.bool ((l.take x.1).any fun y=>decide (aV v y < 0))),(7,.int .i64 x.1)]) (fun x H nx=>x.1 ≤ l.length∧H 0=some [.int .i64 v.color,.int .i64 v.label]∧Row H 2 x.2 (cX (oN l v x.1))∧(∀ b,bE x.2=some b→1 ≤ b∧b < nx)∧1 ≤ nx) (fun x=>l.length - x.1) (0,.esl) ⟨Nat.zero_le _,rfl,Row.nil,fun b h=>(by cases h),by omega⟩ (by (iterate 5 refine And.intro rfl ?_); trivial) ?_
 rintro ⟨k,sv⟩ H nx ⟨hk,g0,hrow,hbd,hnx⟩
 dsimp only at hk hrow hbd ⊢
 by_cases hk2:k < l.length
 rotate_left
 ·obtain rfl:k=l.length:=by omega
  unfold oN at hrow
  rw [List.take_length] at hrow ⊢
  cases ha:l.any fun y=>decide (aV v y < 0)
  ·rw [ha,if_neg (by decide)] at hrow
   (have zz:=aI @ai @g0; repeat' (first|refine zW ?_|apply a_n|apply a_x|refine zO ?_|refine vY ?_|refine blY ?_|refine cTY ?_|(refine zGY ?_ ?_ <;> (intro _hg; try (exfalso; omega)))|fail)) <;> (try clear zz)
   refine cH rfl ev0 (hrow.same fun b hb=>?_) ev0 cV rfl rfl (by omega) (by rw [ci]; omega) (by rw [ci]; omega) ?_
   ·have:=hbd b hb; rw [af (by omega)]
   rintro s2 H2 nx2 hr2 _ _ _ _
   (have zz:=and_self; repeat' (first|refine zW ?_|apply a_n|refine zO ?_|refine vZ ?_|refine ah rfl ?_|refine r1Z ?_|fail)) <;> (try clear zz)
   rw [nZ ha]
   refine ik ?_
   rw [cq]; exact hr2
  ·rw [ha,if_pos rfl] at hrow
   (have zz:=aI @ai @g0; repeat' (first|refine zW ?_|apply a_n|apply a_x|refine zO ?_|refine vY ?_|refine cFY ?_|(refine zGY ?_ ?_ <;> (intro _hg; try (exfalso; omega)))|refine ah rfl ?_|refine r1Y ?_|fail)) <;> (try clear zz)
   exact ik hrow
 have ix:=ix2 hk2
 have hc:=gu v (l.getD k default)
 obtain ⟨e1,e2⟩:=uo (v:=v) hk2
 have hl1:(cX (oN l v k)).length ≤ 2000002:=by rw [ci]; have:=vt (l:=l) (v:=v) (k:=k); omega
 by_cases hd:(l.take k).any (fun y=>decide (aV v y < 0))=false∧aV v (l.getD k default) < 0
 ·rw [if_pos hd] at e1
  rw [hd.1,decide_eq_true hd.2,Bool.false_or] at e2
  obtain ⟨d1,d2⟩:=hd
  rw [d1]
  have z:decide (aV v (l.getD k default) < 0)=true:=decide_eq_true d2
  generalize aV v (l.getD k default)=cv at *
  generalize l.getD k default=w at *
  (have zz:=aI @ai (aI @ix (aI @g0 @z)); repeat' (first|refine zW ?_|refine zM ?_|apply a_n|refine zO ?_|refine vY ?_|refine cY ?_ (hp:=hc) (hs:=by (first | refine aa ?_ rfl | apply ac); (repeat' (first | exact ab | apply ag | apply ae | exact aP _)); first | done | fail)|refine blY ?_|refine gTY ?_|refine cTY ?_|(refine zGY ?_ ?_ <;> (intro _hg; try (exfalso; omega)))|fail)) <;> (try clear zz)
  refine cH rfl ev0 (hrow.same fun b hb=>?_) ev0 cV rfl rfl (by omega) (by omega) (by omega) ?_
  ·have:=hbd b hb; rw [af (by omega)]
  rintro s1 H1 nx1 hr1 j1 j2 j3 j4
  have hb1:∀ b,bE s1=some b→1 ≤ b∧b < nx1:=fun b hb=>by
   rcases j4 b hb with h | h
   ·have:=hbd b h; omega
   ·omega
  have g1:H1 0=some [.int .i64 v.color,.int .i64 v.label]:=by rw [j3 0 (by omega) (fun h=>by have:=hbd 0 h; omega),af (by omega)]; exact g0
  (have zz:=@ix; repeat' (first|apply a_n|refine zO ?_|refine vY ?_|refine blY ?_|fail)) <;> (try clear zz)
  refine cH rfl ev0 (hr1.same fun b hb=>?_) ev0 cV rfl rfl (by omega) (by simp; omega) (by simp; omega) ?_
  ·have:=hb1 b hb; rw [af (by omega)]
  rintro s2 H2 nx2 hr2 i1 i2 i3 i4
  (have zz:=@e2; repeat' (first|apply a_n|refine zO ?_|refine vY ?_|fail)) <;> (try clear zz)
  refine ⟨(k + 1,s2),by dsimp only; omega,⟨by dsimp only; omega,?_,?_,fun b hb=>?_,by omega⟩,(have zz:=@e2; agZ)⟩
  ·rw [i3 0 (by omega) (fun h=>by have:=hb1 0 h; omega),af (by omega)]; exact g1
  ·dsimp only
   rw [e1,cq,cq]; exact hr2
  ·rcases i4 b hb with h | h
   ·have:=hb1 b h; omega
   ·omega
 rw [if_neg hd] at e1
 have key:∀ {T:Tm} {H':Hp} {nx':Nat},True:=trivial
 cases ha:(l.take k).any fun y=>decide (aV v y < 0)
 ·have d2:¬ aV v (l.getD k default) < 0:=fun h=>hd ⟨ha,h⟩
  rw [ha,decide_eq_false d2,Bool.false_or] at e2
  have z:decide (aV v (l.getD k default) < 0)=false:=decide_eq_false d2
  generalize aV v (l.getD k default)=cv at *
  generalize l.getD k default=w at *
  (have zz:=aI @ai (aI @ix (aI @g0 @z)); repeat' (first|refine zW ?_|refine zM ?_|apply a_n|refine zO ?_|refine vY ?_|refine cY ?_ (hp:=hc) (hs:=by (first | refine aa ?_ rfl | apply ac); (repeat' (first | exact ab | apply ag | apply ae | exact aP _)); first | done | fail)|refine blY ?_|refine gTY ?_|refine cFY ?_|(refine zGY ?_ ?_ <;> (intro _hg; try (exfalso; omega)))|fail)) <;> (try clear zz)
  refine cH rfl ev0 (hrow.same fun b hb=>?_) ev0 cV rfl rfl (by omega) (by omega) (by omega) ?_
  ·have:=hbd b hb; rw [af (by omega)]
  rintro s2 H2 nx2 hr2 i1 i2 i3 i4
  (have zz:=@e2; repeat' (first|apply a_n|refine zO ?_|refine vY ?_|fail)) <;> (try clear zz)
  refine ⟨(k + 1,s2),by dsimp only; omega,⟨by dsimp only; omega,?_,?_,fun b hb=>?_,by omega⟩,(have zz:=@e2; agZ)⟩
  ·rw [i3 0 (by omega) (fun h=>by have:=hbd 0 h; omega),af (by omega)]; exact g0
  ·dsimp only
   rw [e1,cq]; exact hr2
  ·rcases i4 b hb with h | h
   ·have:=hbd b h; omega
   ·omega
 ·rw [ha,Bool.true_or] at e2
  generalize l.getD k default=w at *
  (have zz:=aI @ai (aI @ix @g0); repeat' (first|refine zW ?_|refine zM ?_|apply a_n|refine zO ?_|refine vY ?_|refine blY ?_|refine gFY ?_|refine cFY ?_|(refine zGY ?_ ?_ <;> (intro _hg; try (exfalso; omega)))|fail)) <;> (try clear zz)
  refine cH rfl ev0 (hrow.same fun b hb=>?_) ev0 cV rfl rfl (by omega) (by omega) (by omega) ?_
  ·have:=hbd b hb; rw [af (by omega)]
  rintro s2 H2 nx2 hr2 i1 i2 i3 i4
  (have zz:=@e2; repeat' (first|apply a_n|refine zO ?_|refine vY ?_|fail)) <;> (try clear zz)
  refine ⟨(k + 1,s2),by dsimp only; omega,⟨by dsimp only; omega,?_,?_,fun b hb=>?_,by omega⟩,(have zz:=@e2; agZ)⟩
  ·rw [i3 0 (by omega) (fun h=>by have:=hbd 0 h; omega),af (by omega)]; exact g0
  ·dsimp only
   rw [e1,cq]; exact hr2
  ·rcases i4 b hb with h | h
   ·have:=hbd b h; omega
   ·omega
theorem pJ (a b:Spx) (ha:Shn a) (hb:Shn b):Pure Tryz.prog 89 [ao a,ao b] (.bool (bw a b)):=by
 refine Pure.of_c2 follows BP (Nat.le_of_ble_eq_true rfl) ?_
 simp only [b89,cO,cG,cN,cM,cD,cF,cB,au,aH]
 have ha':a.length ≤ 17592186044416:=ha
 (have zz:=@ai; repeat' (first|refine zW ?_|apply a_n|refine zO ?_|refine vZ ?_|fail)) <;> (try clear zz)
 refine sT (fun k=>[(0,ao a),(1,ao b),(5,.int .i64 k)]) a.length (fun k=>decide (a.getD k default ∈ b)=true) ag0 ?_
 intro k hk hz
 by_cases hk2:k < a.length
 rotate_left
 ·(have zz:=@ai; repeat' (first|refine zW ?_|apply a_n|apply a_x|refine zO ?_|refine vZ ?_|(refine zGZ ?_ ?_ <;> (intro _hg; try (exfalso; omega)))|refine ah rfl ?_|refine r1Z ?_|fail)) <;> (try clear zz)
  exact bj (eA fun i hi=>hz i (by omega)).symm
 have ix:=ix2 hk2
 have hh:=ww b (a.getD k default) hb
 cases hm:decide (a.getD k default ∈ b)
 ·rw [hm] at hh
  rw [show bw a b=false from dM hk2 hm]
  (have zz:=aI @ai @ix; repeat' (first|refine zW ?_|apply a_n|apply a_r|refine zO ?_|refine vZ ?_|refine cZ ?_ (hp:=hh) (hs:=by (first | refine aa ?_ rfl | apply ac); (repeat' (first | exact ab | apply ag | apply ae | exact an _ | exact aP _)); first | done | fail)|refine cTZ ?_|(refine zGZ ?_ ?_ <;> (intro _hg; try (exfalso; omega)))|refine ah rfl ?_|refine r1Z ?_|fail)) <;> (try clear zz)
  exact .bool _
 ·rw [hm] at hh
  (have zz:=aI @ai @ix; repeat' (first|refine zW ?_|apply a_n|refine zO ?_|refine vZ ?_|refine cZ ?_ (hp:=hh) (hs:=by (first | refine aa ?_ rfl | apply ac); (repeat' (first | exact ab | apply ag | apply ae | exact an _ | exact aP _)); first | done | fail)|refine cFZ ?_|(refine zGZ ?_ ?_ <;> (intro _hg; try (exfalso; omega)))|fail)) <;> (try clear zz)
  exact ⟨hk2,rfl,ag0,rfl,rfl⟩
def dZ (c:List Spx):Bool:=decide (c.length ≤ 30) && c.all fun s=>decide (s.length ≤ 10)
theorem xg (l:Spx) (hl:Shn l):Pure Tryz.prog 22 [ao l] (.bool (decide (l.length ≤ 10))):=by
 refine Pure.of_c2 follows BQ (Nat.le_of_ble_eq_true rfl) ?_
 simp only [b22,cO,cG,cN,cM,cD,cF,cB,au,aH]
 (have zz:=@ai; repeat' (first|refine zW ?_|apply a_n|refine zO ?_|refine vZ ?_|refine ah rfl ?_|refine r1Z ?_|fail)) <;> (try clear zz)
 exact bj (decide_eq_decide.2 (by omega))
theorem vK (c:List Spx) (hc:Shn c) (hs:∀ s ∈ c,Shn s):Pure Tryz.prog 39 [aC c] (.bool (dZ c)):=by
 refine Pure.of_c2 follows B3 (Nat.le_of_ble_eq_true rfl) ?_
 simp only [b39,cO,cG,cN,cM,cD,cF,cB,au,aH]
 have hc':c.length ≤ 17592186044416:=hc
 unfold dZ
 by_cases h:c.length ≤ 30
 rotate_left
 ·have z:decide (30 < (c.length:Int))=true:=decide_eq_true (by omega)
  rw [decide_eq_false h,Bool.false_and]
  (have zz:=aI @ak @z; repeat' (first|refine zW ?_|apply a_n|apply a_r|refine zO ?_|refine vZ ?_|refine cTZ ?_|refine ah rfl ?_|refine r1Z ?_|fail)) <;> (try clear zz)
  exact .bool _
 have z:decide (30 < (c.length:Int))=false:=decide_eq_false (by omega)
 rw [decide_eq_true h,Bool.true_and]
 (have zz:=aI @ak @z; repeat' (first|refine zW ?_|apply a_n|refine zO ?_|refine vZ ?_|refine cFZ ?_|fail)) <;> (try clear zz)
 refine sT (fun k=>[(0,aC c),(3,.int .i64 k)]) c.length (fun k=>decide ((c.getD k default).length ≤ 10)=true) ag0 ?_
 intro k hk hz
 by_cases hk2:k < c.length
 rotate_left
 ·(have zz:=@ak; repeat' (first|refine zW ?_|apply a_n|apply a_x|refine zO ?_|refine vZ ?_|(refine zGZ ?_ ?_ <;> (intro _hg; try (exfalso; omega)))|refine ah rfl ?_|refine r1Z ?_|fail)) <;> (try clear zz)
  exact bj (eA fun i hi=>hz i (by omega)).symm
 have ix:=dI hk2
 have hf:=xg (c.getD k default) (hs _ (aB hk2))
 cases hm:decide ((c.getD k default).length ≤ 10)
 ·rw [hm] at hf
  rw [dM hk2 hm]
  (have zz:=aI @ak @ix; repeat' (first|refine zW ?_|apply a_n|apply a_r|refine zO ?_|refine vZ ?_|refine cZ ?_ (hp:=hf) (hs:=by (first | refine aa ?_ rfl | apply ac); (repeat' (first | exact ab | apply ag | apply ae | exact an _)); first | done | fail)|refine cTZ ?_|(refine zGZ ?_ ?_ <;> (intro _hg; try (exfalso; omega)))|refine ah rfl ?_|refine r1Z ?_|fail)) <;> (try clear zz)
  exact .bool _
 ·rw [hm] at hf
  (have zz:=aI @ak @ix; repeat' (first|refine zW ?_|apply a_n|refine zO ?_|refine vZ ?_|refine cZ ?_ (hp:=hf) (hs:=by (first | refine aa ?_ rfl | apply ac); (repeat' (first | exact ab | apply ag | apply ae | exact an _)); first | done | fail)|refine cFZ ?_|(refine zGZ ?_ ?_ <;> (intro _hg; try (exfalso; omega)))|fail)) <;> (try clear zz)
  exact ⟨hk2,rfl,ag0,rfl,rfl⟩
abbrev dD (c:List Spx):AV:=.agg [aC c]
theorem a7 (c:List Spx):Dat (dD c):=Dat.agg (DatL.cons (bl c) DatL.nil)
instance datI_encCx {c:List Spx}:DatI (dD c):=⟨a7 c⟩
theorem sd (c:List Spx) (hc:Shn c) (hs:∀ s ∈ c,Shn s):Pure Tryz.prog 10 [dD c] (.bool (dZ c)):=by
 refine Pure.of_c2 follows BU (Nat.le_of_ble_eq_true rfl) ?_
 simp only [b10,cO,cG,cN,cM,cD,cF,cB,au,aH]
 have h:=vK c hc hs
 (have zz:=aI @az @ar; repeat' (first|refine zW ?_|apply a_n|refine zO ?_|refine vZ ?_|refine cZ ?_ (hp:=h) (hs:=by (first | refine aa ?_ rfl | apply ac); (repeat' (first | exact ab | apply ag | apply ae | exact bl _)); first | done | fail)|refine bxZ ?_|refine ah rfl ?_|refine r1Z ?_|fail)) <;> (try clear zz)
 exact .bool _
end Go.Proofs.YtbgdcebmgjafjaaGreat
namespace Go.Proofs.YtbgdcebmgjafjaaGreat
open Go Go.Abs
theorem fk {α:Type} [Inhabited α] {l:List α} {p:α→Bool} {k:Nat} (hk:k < l.length) (h:∀ i,i < k→p (l.getD i default)=false) (hv:p (l.getD k default)=true):l.any p=true∧l.findIdx p=k:=by
 have e:l.getD k default=l[k]:=by simp [List.getD,hk]
 refine ⟨List.any_eq_true.2 ⟨l[k],List.getElem_mem hk,by rw [← e]; exact hv⟩,(List.findIdx_eq hk).2 ⟨by rw [← e]; exact hv,fun j hj=>by have:=h j hj; rwa [show l.getD j default=l[j] by simp [List.getD,show j < l.length by omega]] at this⟩⟩
section
attribute [local irreducible] aG al bg bc aN aR aE aS bf br Go.Abs.Fn aY Go.Abs.Pure aA aL Yl
theorem uq (l:Spx) (p:Vtx→Bool) (g:Nat) (caps:List AV) (hd:∀ x ∈ caps,Dat x) (hg:∀ x ∈ l,Pure Tryz.prog g (bh x :: caps) (.bool (p x))) (hl:Shn l):Pure Tryz.prog 84 [ao l,.func g caps] (.int .i64 (if l.any p then (l.findIdx p:Nat) else -1)):=by
 refine Pure.of_c2 follows z7 (Nat.le_of_ble_eq_true rfl) ?_
 simp only [b84,cO,cG,cN,cM,cD,cF,cB,au,aH]
 have hl':l.length ≤ 17592186044416:=hl
 (have zz:=@ai; repeat' (first|refine zW ?_|apply a_n|refine zO ?_|refine vZ ?_|fail)) <;> (try clear zz)
 refine aM (X:=Nat) (fun k=>[(0,ao l),(1,.func g caps),(6,ao l),(7,.int .i64 l.length),(8,.int .i64 k)]) (fun k H nx=>k ≤ l.length∧∀ i,i < k→p (l.getD i default)=false) (fun k=>l.length - k) 0 ⟨Nat.zero_le _,fun i h=>absurd h (by omega)⟩ ag0 ?_
 rintro k H nx ⟨hk,hz⟩
 by_cases hk2:k < l.length
 rotate_left
 ·rw [eh fun i hi=>hz i (by omega),if_neg (by decide)]
  (have zz:=and_self; repeat' (first|refine zW ?_|apply a_n|apply a_x|refine zO ?_|refine vY ?_|(refine zGY ?_ ?_ <;> (intro _hg; try (exfalso; omega)))|refine ah rfl ?_|refine r1Y ?_|fail)) <;> (try clear zz)
  exact bC rfl
 have ix:=ix2 hk2
 have hc:=hg _ (aB hk2)
 cases hp:p (l.getD k default)
 ·rw [hp] at hc
  (have zz:=@ix; repeat' (first|refine zW ?_|apply a_n|refine zO ?_|refine vY ?_|(refine zGY ?_ ?_ <;> (intro _hg; try (exfalso; omega)))|fail)) <;> (try clear zz)
  refine co ev0 ev0 hc (ac (ax (aP _ _) (aw hd))) ?_
  (have zz:=and_self; repeat' (first|apply a_n|refine zO ?_|refine vY ?_|refine cFY ?_|fail)) <;> (try clear zz)
  exact ⟨k + 1,by omega,⟨by omega,fun i hi=>by
   rcases Nat.lt_succ_iff_lt_or_eq.1 hi with h | rfl
   ·exact hz i h
   ·exact hp⟩,ag0⟩
 ·rw [hp] at hc
  obtain ⟨e1,e2⟩:=fk hk2 hz hp
  rw [e1,e2,if_pos rfl]
  (have zz:=@ix; repeat' (first|refine zW ?_|apply a_n|refine zO ?_|refine vY ?_|(refine zGY ?_ ?_ <;> (intro _hg; try (exfalso; omega)))|fail)) <;> (try clear zz)
  refine co ev0 ev0 hc (ac (ax (aP _ _) (aw hd))) ?_
  (have zz:=and_self; repeat' (first|refine zW ?_|apply a_n|apply a_r|refine zO ?_|refine vY ?_|refine cTY ?_|refine ah rfl ?_|refine r1Y ?_|fail)) <;> (try clear zz)
  exact .int _ _
theorem pt (l:Spx) (p:Vtx→Bool) (g:Nat) (caps:List AV) (hd:∀ x ∈ caps,Dat x) (hg:∀ x ∈ l,Pure Tryz.prog g (bh x :: caps) (.bool (p x))) (hl:Shn l):Pure Tryz.prog 44 [ao l,.func g caps] (.bool (l.any p)):=by
 refine Pure.of_c2 follows zI (Nat.le_of_ble_eq_true rfl) ?_
 simp only [b44,cO,cG,cN,cM,cD,cF,cB,au,aH]
 have h:=uq l p g caps hd hg hl
 (have zz:=and_self; repeat' (first|refine zW ?_|apply a_n|refine zO ?_|refine vZ ?_|refine cZ ?_ (hp:=h) (hs:=by (first | refine aa ?_ rfl | apply ac); (repeat' (first | exact ab | apply ag | apply ae | exact an _ | exact Dat.func hd)); first | done | fail)|refine ah rfl ?_|refine r1Z ?_|fail)) <;> (try clear zz)
 cases hA:l.any p
 ·exact bj (by simp)
 ·exact bj (by simp)
theorem tK (l:List Spx) (p:Spx→Bool) (g:Nat) (caps:List AV) (hd:∀ x ∈ caps,Dat x) (hg:∀ x ∈ l,Pure Tryz.prog g (ao x :: caps) (.bool (p x))) (hl:Shn l):Pure Tryz.prog 86 [aC l,.func g caps] (.int .i64 (if l.any p then (l.findIdx p:Nat) else -1)):=by
 refine Pure.of_c2 follows zU (Nat.le_of_ble_eq_true rfl) ?_
 simp only [b86,cO,cG,cN,cM,cD,cF,cB,au,aH]
 have hl':l.length ≤ 17592186044416:=hl
 (have zz:=@ak; repeat' (first|refine zW ?_|apply a_n|refine zO ?_|refine vZ ?_|fail)) <;> (try clear zz)
 refine aM (X:=Nat) (fun k=>[(0,aC l),(1,.func g caps),(6,aC l),(7,.int .i64 l.length),(8,.int .i64 k)]) (fun k H nx=>k ≤ l.length∧∀ i,i < k→p (l.getD i default)=false) (fun k=>l.length - k) 0 ⟨Nat.zero_le _,fun i h=>absurd h (by omega)⟩ ag0 ?_
 rintro k H nx ⟨hk,hz⟩
 by_cases hk2:k < l.length
 rotate_left
 ·rw [eh fun i hi=>hz i (by omega),if_neg (by decide)]
  (have zz:=and_self; repeat' (first|refine zW ?_|apply a_n|apply a_x|refine zO ?_|refine vY ?_|(refine zGY ?_ ?_ <;> (intro _hg; try (exfalso; omega)))|refine ah rfl ?_|refine r1Y ?_|fail)) <;> (try clear zz)
  exact bC rfl
 have ix:=dI hk2
 have hc:=hg _ (aB hk2)
 cases hp:p (l.getD k default)
 ·rw [hp] at hc
  (have zz:=@ix; repeat' (first|refine zW ?_|apply a_n|refine zO ?_|refine vY ?_|(refine zGY ?_ ?_ <;> (intro _hg; try (exfalso; omega)))|fail)) <;> (try clear zz)
  refine co ev0 ev0 hc (ac (ax (an _ _) (aw hd))) ?_
  (have zz:=and_self; repeat' (first|apply a_n|refine zO ?_|refine vY ?_|refine cFY ?_|fail)) <;> (try clear zz)
  exact ⟨k + 1,by omega,⟨by omega,fun i hi=>by
   rcases Nat.lt_succ_iff_lt_or_eq.1 hi with h | rfl
   ·exact hz i h
   ·exact hp⟩,ag0⟩
 ·rw [hp] at hc
  obtain ⟨e1,e2⟩:=fk hk2 hz hp
  rw [e1,e2,if_pos rfl]
  (have zz:=@ix; repeat' (first|refine zW ?_|apply a_n|refine zO ?_|refine vY ?_|(refine zGY ?_ ?_ <;> (intro _hg; try (exfalso; omega)))|fail)) <;> (try clear zz)
  refine co ev0 ev0 hc (ac (ax (an _ _) (aw hd))) ?_
  (have zz:=and_self; repeat' (first|refine zW ?_|apply a_n|apply a_r|refine zO ?_|refine vY ?_|refine cTY ?_|refine ah rfl ?_|refine r1Y ?_|fail)) <;> (try clear zz)
  exact .int _ _
theorem jI (l:List Spx) (p:Spx→Bool) (g:Nat) (caps:List AV) (hd:∀ x ∈ caps,Dat x) (hg:∀ x ∈ l,Pure Tryz.prog g (ao x :: caps) (.bool (p x))) (hl:Shn l):Pure Tryz.prog 47 [aC l,.func g caps] (.bool (l.any p)):=by
 refine Pure.of_c2 follows Bl (Nat.le_of_ble_eq_true rfl) ?_
 simp only [b47,cO,cG,cN,cM,cD,cF,cB,au,aH]
 have h:=tK l p g caps hd hg hl
 (have zz:=and_self; repeat' (first|refine zW ?_|apply a_n|refine zO ?_|refine vZ ?_|refine cZ ?_ (hp:=h) (hs:=by (first | refine aa ?_ rfl | apply ac); (repeat' (first | exact ab | apply ag | apply ae | exact bl _ | exact Dat.func hd)); first | done | fail)|refine ah rfl ?_|refine r1Z ?_|fail)) <;> (try clear zz)
 cases hA:l.any p
 ·exact bj (by simp)
 ·exact bj (by simp)
theorem uR (l:Spx) (v:Vtx) (hl:Shn l):∃ r:Int,Pure Tryz.prog 85 [ao l,bh v] (.int .i64 r)∧decide (0 ≤ r)=decide (v ∈ l):=by
 have hl':l.length ≤ 17592186044416:=hl
 have hn:l.findIdx (fun x=>decide (x=v))=l.findIdx (fun x=>decide (x=v)):=rfl
 refine ⟨if l.any (fun x=>decide (x=v)) then (l.findIdx (fun x=>decide (x=v)):Nat) else -1,?_,?_⟩
 rotate_left
 ·by_cases hm:v ∈ l
  ·rw [if_pos (List.any_eq_true.2 ⟨v,hm,by simp⟩),decide_eq_true hm]; simp
  ·rw [if_neg,decide_eq_false hm]
   ·rfl
   ·rw [List.any_eq_true]; rintro ⟨x,hx,e⟩
    exact hm ((of_decide_eq_true e) ▸ hx)
 refine Pure.of_c2 follows Bm (Nat.le_of_ble_eq_true rfl) ?_
 simp only [b85,cO,cG,cN,cM,cD,cF,cB,au,aH]
 (have zz:=@ai; repeat' (first|refine zW ?_|apply a_n|refine zO ?_|refine vZ ?_|refine bxZ ?_|fail)) <;> (try clear zz)
 refine aM (X:=Nat) (fun k=>[(0,ao l),(3,.ptr 0 2 0),(6,ao l),(7,.int .i64 l.length),(8,.int .i64 k)]) (fun k H nx=>k ≤ l.length∧H 0=some [.int .i64 v.color,.int .i64 v.label]∧∀ i,i < k→decide (l.getD i default=v)=false) (fun k=>l.length - k) 0 ⟨Nat.zero_le _,rfl,fun i h=>absurd h (by omega)⟩ (by (iterate 5 refine And.intro rfl ?_); trivial) ?_
 rintro k H nx ⟨hk,g0,hz⟩
 by_cases hk2:k < l.length
 rotate_left
 ·rw [eh fun i hi=>hz i (by omega),if_neg (by decide)]
  (have zz:=and_self; repeat' (first|refine zW ?_|apply a_n|apply a_x|refine zO ?_|refine vY ?_|(refine zGY ?_ ?_ <;> (intro _hg; try (exfalso; omega)))|refine ah rfl ?_|refine r1Y ?_|fail)) <;> (try clear zz)
  exact bC rfl
 have ix:=ix2 hk2
 have hd:=gx v (l.getD k default)
 cases hp:decide (l.getD k default=v)
 ·rw [decide_eq_false (p:=v=l.getD k default) (fun h=>of_decide_eq_false hp h.symm)] at hd
  (have zz:=aI @ix (aI @g0 (aI @acq @hd)); repeat' (first|refine zW ?_|apply a_n|refine zO ?_|refine vY ?_|refine cFY ?_|(refine zGY ?_ ?_ <;> (intro _hg; try (exfalso; omega)))|fail)) <;> (try clear zz)
  exact ⟨k + 1,by omega,⟨by omega,g0,fun i hi=>by
   rcases Nat.lt_succ_iff_lt_or_eq.1 hi with h | rfl
   ·exact hz i h
   ·exact hp⟩,ag0⟩
 ·rw [decide_eq_true (p:=v=l.getD k default) (of_decide_eq_true hp).symm] at hd
  obtain ⟨e1,e2⟩:=fk (p:=fun x=>decide (x=v)) hk2 hz hp
  rw [e1,e2,if_pos rfl]
  (have zz:=aI @ix (aI @g0 (aI @acq @hd)); repeat' (first|refine zW ?_|apply a_n|apply a_r|refine zO ?_|refine vY ?_|refine cTY ?_|(refine zGY ?_ ?_ <;> (intro _hg; try (exfalso; omega)))|refine ah rfl ?_|refine r1Y ?_|fail)) <;> (try clear zz)
  exact .int _ _
theorem qU (l:Spx) (v:Vtx) (hl:Shn l):Pure Tryz.prog 46 [ao l,bh v] (.bool (decide (v ∈ l))):=by
 refine Pure.of_c2 follows zh (Nat.le_of_ble_eq_true rfl) ?_
 simp only [b46,cO,cG,cN,cM,cD,cF,cB,au,aH]
 obtain ⟨r,h,e⟩:=uR l v hl
 (have zz:=and_self; repeat' (first|refine zW ?_|apply a_n|refine zO ?_|refine vZ ?_|refine cZ ?_ (hp:=h) (hs:=by (first | refine aa ?_ rfl | apply ac); (repeat' (first | exact ab | apply ag | apply ae | exact an _ | exact aP _)); first | done | fail)|refine bxZ ?_|refine ah rfl ?_|refine r1Z ?_|fail)) <;> (try clear zz)
 exact bj e
end
end Go.Proofs.YtbgdcebmgjafjaaGreat
namespace Go.Proofs.YtbgdcebmgjafjaaGreat
open Go Go.Abs
open Nat (reduceEqDiff reduceAdd reduceLeDiff)
theorem th {l:Spx} {j:Nat} (h:j < l.length):(l.drop j).getD 0 default=l.getD j default:=by simp [List.getD,List.getElem?_drop]
theorem rz {l:Spx} {v:Vtx} (h:∀ i,i < l.length→l.getD i default ≠ v):v ∉ l:=fun hm=>by
 obtain ⟨i,hi,e⟩:=List.getElem_of_mem hm
 exact h i hi (by simp [List.getD,hi,e])
theorem aO {α:Type} [Inhabited α] {l:List α} {i:Nat} (h:i < l.length):l.getD i default ∈ l:=aB h
attribute [local irreducible] aG al bg bc aN aR aE aS bf br Go.Abs.Fn aY Go.Abs.Pure aA aL Yl
set_option maxHeartbeats 1000000 in
theorem yS (a b:Spx) (ha:cP aV a) (hb:cP aV b) (la:a.length ≤ 1000000) (lb:b.length ≤ 1000000):Pure Tryz.prog 105 [ao a,ao b] (.bool (bw a b)):=by
 refine Pure.of_c2 follows Bb (Nat.le_of_ble_eq_true rfl) ?_
 simp only [AO,cO,cG,cN,cM,cD,cF,cB,au,aH]
 (have zz:=@ai; repeat' (first|refine zW ?_|apply a_n|refine zO ?_|refine vZ ?_|fail)) <;> (try clear zz)
 refine aM (X:=Nat × Nat) (fun x=>[(1,ao (b.drop x.2)),(7,ao a),(8,.int .i64 a.length),(9,.int .i64 x.1)]) (fun x H nx=>x.1 ≤ a.length∧x.2 ≤ b.length∧(∀ i,i < x.1→decide (a.getD i default ∈ b)=true)∧∀ i m,i < x.2→x.1 ≤ m→m < a.length→b.getD i default ≠ a.getD m default) (fun x=>a.length - x.1) (0,0) ⟨Nat.zero_le _,Nat.zero_le _,fun i h=>absurd h (by omega),fun i m h=>absurd h (by omega)⟩ (by simp (disch:=omega) only [agr,ZG,reduceEqDiff,↓reduceIte,List.drop_zero]) ?_
 rintro ⟨k,j⟩ H nx ⟨h1,h2,h3,h4⟩
 dsimp only at h1 h2 h3 h4 ⊢
 by_cases hk:k < a.length
 rotate_left
 ·(have zz:=and_self; repeat' (first|refine zW ?_|apply a_n|apply a_x|refine zO ?_|refine vY ?_|(refine zGY ?_ ?_ <;> (intro _hg; try (exfalso; omega)))|refine ah rfl ?_|refine r1Y ?_|fail)) <;> (try clear zz)
  exact bj (eA fun i hi=>h3 i (by omega)).symm
 have ix:=ix2 hk
 have hlt:∀ m,k < m→m < a.length→aV (a.getD k default) (a.getD m default) < 0:=fun m h5 h6=>cS ha h5 h6
 have hkm:∀ j',(∀ i,i < j'→b.getD i default ≠ a.getD k default)→b.length ≤ j'→decide (a.getD k default ∈ b)=false:=fun j' h5 h6=>decide_eq_false (rz fun i hi=>h5 i (by omega))
 have hall:decide (a.getD k default ∈ b)=false→bw a b=false:=fun h=>dM hk h
 have hdec:=fun i=>gx (b.getD i default) (a.getD k default)
 have h40:=fun i hi=>h4 i k hi (Nat.le_refl _) hk
 generalize hv:a.getD k default=v at *
 (have zz:=@ix; repeat' (first|refine zW ?_|apply a_n|refine zO ?_|refine vY ?_|refine alY ?_|refine stY ?_|(refine zGY ?_ ?_ <;> (intro _hg; try (exfalso; omega)))|fail)) <;> (try clear zz)
 refine aM (X:=Nat) (fun j'=>[(1,ao (b.drop j')),(6,.ptr nx 2 0),(7,ao a),(8,.int .i64 a.length),(9,.int .i64 k)]) (fun j' H' nx'=>j' ≤ b.length∧H' nx=some [.int .i64 v.color,.int .i64 v.label]∧nx < nx'∧∀ i,i < j'→b.getD i default ≠ v) (fun j'=>b.length - j') j ⟨h2,by rw [aj]; rfl,by omega,h40⟩ (by simp (disch:=omega) only [agr,ZG,reduceEqDiff,↓reduceIte,List.length_cons,List.length_nil,Nat.zero_add,reduceAdd]) ?_
 rintro j' H' nx' ⟨k1,g0,hnx,k2⟩
 have hlen:(b.drop j').length=b.length - j':=List.length_drop ..
 by_cases hj:j' < b.length
 rotate_left
 ·have z1:decide (0 < ((b.drop j').length:Int))=false:=decide_eq_false (by omega)
  have z2:decide (((b.drop j').length:Int)=0)=true:=decide_eq_true (by omega)
  rw [hall (hkm j' k2 (by omega))]
  (have zz:=aI @ai (aI @z1 @z2); repeat' (first|refine zW ?_|apply a_n|apply a_x|apply a_r|refine zO ?_|refine vY ?_|refine gFY ?_|refine cTY ?_|refine cFY ?_|refine ah rfl ?_|refine r1Y ?_|fail)) <;> (try clear zz)
  exact .bool _
 have z1:decide (0 < ((b.drop j').length:Int))=true:=decide_eq_true (by omega)
 have z2:decide (((b.drop j').length:Int)=0)=false:=decide_eq_false (by omega)
 have iy:=ix2 (l:=b.drop j') (k:=0) (by omega)
 rw [th hj,show ((0:Nat):Int)=0 from rfl] at iy
 have hd:=hdec j'
 by_cases he:b.getD j' default=v
 ·rw [decide_eq_true he] at hd
  (have zz:=aI @ai (aI @z1 (aI @z2 (aI @iy (aI @g0 (aI @acn @hd))))); repeat' (first|refine zW ?_|apply a_n|apply a_x|refine zO ?_|refine vY ?_|refine gTY ?_|refine cFY ?_|fail)) <;> (try clear zz)
  refine ⟨(k + 1,j'),by dsimp only; omega,⟨by dsimp only; omega,by dsimp only; omega,fun i hi=>?_,fun i m h5 h6 h7 e=>?_⟩,ag0⟩
  ·rcases Nat.lt_succ_iff_lt_or_eq.1 hi with h' | rfl
   ·exact h3 i h'
   ·rw [hv,← he]; exact decide_eq_true (aO hj)
  ·have q1:=cS hb h5 hj
   have q2:=hlt m (by dsimp only at h6; omega) h7
   rw [e,he] at q1
   exact nF.ord.asym _ _ q1 q2
 ·rw [decide_eq_false he] at hd
  have hs:lN 2 (ao (b.drop j')) (some (.int .i64 1)) none none=some (ao (b.drop (j' + 1))):=by
   have:=jl (sz:=2) (f:=bh) (l:=b.drop j') (k:=1) (by omega)
   rw [List.drop_drop] at this
   exact this
  (have zz:=aI @ai (aI @z1 (aI @z2 (aI @iy (aI @g0 (aI @acn (aI @hd @hs)))))); repeat' (first|refine zW ?_|apply a_n|refine zO ?_|refine vY ?_|refine gTY ?_|refine cTY ?_|fail)) <;> (try clear zz)
  exact ⟨j' + 1,by omega,⟨by omega,g0,hnx,fun i hi=>by
   rcases Nat.lt_succ_iff_lt_or_eq.1 hi with h' | rfl
   ·exact k2 i h'
   ·exact he⟩,ag0⟩
end Go.Proofs.YtbgdcebmgjafjaaGreat
namespace Go.Proofs.YtbgdcebmgjafjaaGreat
open Go Go.Abs
structure Cmp {α:Type} (P:Program) (f:α→AV) (K:α→α→Int) (G:α→Prop) (g:Nat) (caps:List AV):Prop where
 cells:∀ x,(f x).cells=[f x]
 one:∀ x,(f x).one=true
 dat:∀ x,Dat (f x)
 dcaps:∀ x ∈ caps,Dat x
 run:∀ x y,G x→G y→Go.Abs.Pure P g (f x :: f y :: caps) (.int .i64 (K x y))
 ord:Ord K
theorem im {α:Type} {f:α→AV} {l:List α} {k:Nat} {x:α} (h:k < l.length):bb (l.map f) k [f x]=(l.set k x).map f:=by
 simp only [bb,List.map_set,List.length_cons,List.length_nil,Nat.zero_add]
 rw [List.set_eq_take_append_cons_drop,if_pos (by simpa using h)]
 simp
theorem aq (H:Hp) (b:Nat) (x y:List AV):am (am H b x) b y=am H b y:=by
 funext i; unfold am; split <;> rfl
theorem dG {H:Hp} {b:Nat} {cs:List AV} (h:H b=some cs):H=am H b cs:=by
 funext i
 by_cases e:i=b
 ·subst e; rw [aj,h]
 ·rw [af e]
def dq {α:Type} [Inhabited α] (K:α→α→Int) (a i j:Nat) (M:List α):Prop:=∀ p q,a ≤ p→p < q→q ≤ i→q ≠ j→¬ K (M.getD q default) (M.getD p default) < 0
section
variable {α:Type} [Inhabited α] {f:α→AV} {K:α→α→Int} {G:α→Prop} {g:Nat} {caps:List AV}
theorem dq.start {a i:Nat} {M:List α} (h:aK K a i M):dq K a i i M:=fun p q h1 h2 h3 h4=>h p q h1 h2 (by omega)
theorem dq.done {a i j:Nat} {M:List α} (hK:Ord K) (h:dq K a i j M) (hj:j=a ∨ (a < j∧¬ K (M.getD j default) (M.getD (j - 1) default) < 0)):aK K a (i + 1) M:=by
 intro p q h1 h2 h3
 by_cases e:q=j
 ·subst e
  rcases hj with hj | ⟨hj,hk⟩
  ·omega
  ·by_cases e2:p=q - 1
   ·rw [e2]; exact hk
   ·exact hK.negtr _ _ _ (h p (q - 1) h1 (by omega) (by omega) (by omega)) hk
 ·exact h p q h1 h2 (by omega) e
theorem dq.step {a i j:Nat} {M:List α} (hK:Ord K) (h:dq K a i (j + 1) M) (haj:a ≤ j) (hji:j + 1 ≤ i) (hi:i < M.length) (hk:K (M.getD (j + 1) default) (M.getD j default) < 0):dq K a i j (swp M (j + 1) j):=by
 intro p q h1 h2 h3 h4
 rw [cp (by omega) (by omega),cp (by omega) (by omega)]
 rw [if_neg h4]
 by_cases e1:q=j + 1
 ·rw [if_pos e1]
  by_cases e2:p=j
  ·rw [if_pos e2]; exact hK.asym _ _ hk
  ·rw [if_neg e2,if_neg (by omega)]
   exact h p j h1 (by omega) (by omega) (by omega)
 ·rw [if_neg e1]
  by_cases e2:p=j
  ·rw [if_pos e2]; exact h (j + 1) q (by omega) (by omega) h3 e1
  ·rw [if_neg e2]
   by_cases e3:p=j + 1
   ·rw [if_pos e3]; exact h j q (by omega) (by omega) h3 e1
   ·rw [if_neg e3]; exact h p q h1 h2 h3 e1
theorem aK.mono {a b a' b':Nat} {M:List α} (h:aK K a b M) (h1:a ≤ a') (h2:b' ≤ b):aK K a' b' M:=fun p q k1 k2 k3=>h p q (by omega) k2 (by omega)
theorem PermR.mem {a b:Nat} {L M:List α} (h:PermR a b L M) (hG:∀ x ∈ L,G x):∀ x ∈ M,G x:=fun x hx=>hG x (h.perm.mem_iff.1 hx)
attribute [local irreducible] aG al bg bc aN aR aE aS bf br Go.Abs.Fn aY Go.Abs.Pure aA aL Yl
theorem Ap (hc:Cmp Tryz.prog f K G g caps) {L:List α} {H:Hp} {b nx n a e:Nat} (hH:H b=some (L.map f)) (hn:L.length=n) (hG:∀ x ∈ L,G x) (hae:a ≤ e) (hen:e ≤ n) (hn2:n ≤ 1000000000) :
    Abs.Fn Tryz.prog 142 [.msl b n 1 0 n,.int .i64 a,.int .i64 e,.func g caps] H nx fun r H' nx'=>nx'=nx∧∃ L',H'=am H b (L'.map f)∧PermR a e L L'∧aK K a e L':=by
 refine Abs.Fn.of_c2 follows uJ (Nat.le_of_ble_eq_true rfl) ?_
 simp only [wL,cO,cG,cN,cM,cD,cF,cB,au,aH]
 (have zz:=and_self; repeat' (first|refine zW ?_|apply a_n|refine zO ?_|refine vZ ?_|fail)) <;> (try clear zz)
 refine aM (X:=Nat × List α) (fun x=>[(0,.msl b n 1 0 n),(1,.int .i64 a),(2,.int .i64 e),(3,.func g caps),(8,.int .i64 (x.1:Nat))]) (fun x H' nx'=>a + 1 ≤ x.1∧(x.1 ≤ e ∨ x.1=a + 1)∧H'=am H b (x.2.map f)∧nx'=nx∧PermR a e L x.2∧aK K a x.1 x.2) (fun x=>e + 1 - x.1) (a + 1,L) ⟨Nat.le_refl _,.inr rfl,dG hH,rfl,.refl,aK.one (Nat.le_refl _)⟩ ag0 ?_
 rintro ⟨i,M0⟩ H' nx' ⟨h1,h2,rfl,rfl,hp0,hs0⟩
 dsimp only at *
 have hl0:M0.length=n:=by rw [hp0.len,hn]
 by_cases hi:i < e
 rotate_left
 ·(have zz:=and_self; repeat' (first|refine zW ?_|apply a_n|apply a_x|refine zO ?_|refine vZ ?_|(refine zGZ ?_ ?_ <;> (intro _hg; try (exfalso; omega)))|refine ah rfl ?_|fail)) <;> (try clear zz)
  exact ⟨rfl,M0,rfl,hp0,hs0.mono (Nat.le_refl _) (by omega)⟩
 (have zz:=and_self; repeat' (first|refine zW ?_|apply a_n|refine zO ?_|refine vZ ?_|(refine zGZ ?_ ?_ <;> (intro _hg; try (exfalso; omega)))|fail)) <;> (try clear zz)
 refine aM (X:=Nat × List α) (fun x=>[(0,.msl b n 1 0 n),(1,.int .i64 a),(2,.int .i64 e),(3,.func g caps),(8,.int .i64 (i:Nat)),(9,.int .i64 (x.1:Nat))]) (fun x H' nxx=>a ≤ x.1∧x.1 ≤ i∧H'=am H b (x.2.map f)∧nxx=nx'∧PermR a e L x.2∧dq K a i x.1 x.2) (fun x=>x.1) (i,M0) ⟨by omega,Nat.le_refl _,rfl,rfl,hp0,.start hs0⟩ ag0 ?_
 clear hp0 hs0 hl0
 rintro ⟨j,M⟩ H' nxx ⟨a1,a2,rfl,rfl,hp,hal⟩
 dsimp only at *
 have hl:M.length=n:=by rw [hp.len,hn]
 have hGM:=hp.mem hG
 by_cases hja:j=a
 ·subst hja
  (have zz:=and_self; repeat' (first|refine zW ?_|refine zM ?_|apply a_n|apply a_x|refine zO ?_|refine vZ ?_|refine gFZ ?_|(refine zGZ ?_ ?_ <;> (intro _hg; try (exfalso; omega)))|refine cFZ ?_|fail)) <;> (try clear zz)
  exact ⟨(i + 1,M),by dsimp only; omega,⟨by dsimp only; omega,.inl (by dsimp only; omega),rfl,rfl,hp,hal.done hc.ord (.inl rfl)⟩,ag0⟩
 ·obtain ⟨k,rfl⟩:∃ k,j=k + 1:=⟨j - 1,by omega⟩
  have tj:((k + 1:Nat):Int) - 1=(k:Int):=by omega
  have lc:=hc.run (M.getD (k + 1) default) (M.getD k default) (hGM _ (aB (by omega))) (hGM _ (aB (by omega)))
  have d1:=hc.dat (M.getD (k + 1) default)
  have d2:=hc.dat (M.getD k default)
  have dcap:=hc.dcaps
  generalize hKK:K (M.getD (k + 1) default) (M.getD k default)=kk at lc
  by_cases hlt:kk < 0
  ·obtain ⟨M1,hl1,lm1,lm2⟩:∃ M1:List α,M1.length=n∧bb (M.map f) (k + 1) [f (M.getD k default)]=M1.map f∧bb (M1.map f) k [f (M.getD (k + 1) default)]=(swp M (k + 1) k).map f :=
     ⟨M.set (k + 1) (M.getD k default),by simp [hl],im (by omega),by rw [im (by simp; omega)]; rfl⟩
   have lm3:=lm2
   simp only [bb,List.length_cons,List.length_nil,Nat.zero_add] at lm1 lm2
   (have zz:=aI @tj (aI @Int.toNat_natCast (aI @lm1 (aI @lm2 (aI hc.cells hc.one)))); repeat' (first|refine zW ?_|refine zM ?_|apply a_n|refine zO ?_|refine vZ ?_|refine cZ ?_ (hp:=lc) (hs:=by (first | refine aa ?_ rfl | apply ac); (repeat' (first | exact ab | apply ag | apply ae | exact d1 | exact d2 | exact aw dcap)); first | done | fail)|refine stZ ?_|refine gTZ ?_|(refine zGZ ?_ ?_ <;> (intro _hg; try (exfalso; omega)))|fail)) <;> (try clear zz)
   refine ⟨(k,swp M (k + 1) k),by dsimp only; omega,⟨by dsimp only; omega,by dsimp only; omega,?_,rfl,hp.trans (PermR.swap (by omega) (by omega) (by omega)),hal.step hc.ord (by omega) (by omega) (by omega) (by rw [hKK]; exact hlt)⟩,(have zz:=@tj; agZ)⟩
   dsimp only
   rw [aq,aq,lm3]
  ·(have zz:=aI @tj (aI @Int.toNat_natCast (aI hc.cells hc.one)); repeat' (first|refine zW ?_|refine zM ?_|apply a_n|apply a_x|refine zO ?_|refine vZ ?_|refine cZ ?_ (hp:=lc) (hs:=by (first | refine aa ?_ rfl | apply ac); (repeat' (first | exact ab | apply ag | apply ae | exact d1 | exact d2 | exact aw dcap)); first | done | fail)|refine gTZ ?_|(refine zGZ ?_ ?_ <;> (intro _hg; try (exfalso; omega)))|fail)) <;> (try clear zz)
   exact ⟨(i + 1,M),by dsimp only; omega,⟨by dsimp only; omega,.inl (by dsimp only; omega),rfl,rfl,hp,hal.done hc.ord (.inr ⟨by omega,by rw [Nat.add_sub_cancel,hKK]; exact hlt⟩)⟩,ag0⟩
end
end Go.Proofs.YtbgdcebmgjafjaaGreat
namespace Go.Proofs.YtbgdcebmgjafjaaGreat
open Go Go.Abs
def Kid (p c:Nat):Prop:=c=2 * p + 1 ∨ c=2 * p + 2
def dB {α:Type} [Inhabited α] (K:α→α→Int) (a hi r:Nat) (M:List α):Prop:=∀ p c,r ≤ p→Kid p c→c < hi→¬ K (M.getD (a + p) default) (M.getD (a + c) default) < 0
structure SiftR {α:Type} [Inhabited α] (K:α→α→Int) (a hi lo root:Nat) (M:List α):Prop where
 le:lo ≤ root
 heap:∀ p c,lo ≤ p→p ≠ root→Kid p c→c < hi→¬ K (M.getD (a + p) default) (M.getD (a + c) default) < 0
 up:∀ q c,lo ≤ q→Kid q root→Kid root c→c < hi→¬ K (M.getD (a + q) default) (M.getD (a + c) default) < 0
section
variable {α:Type} [Inhabited α] {f:α→AV} {K:α→α→Int} {G:α→Prop} {g:Nat} {caps:List AV}
theorem SiftR.start {a hi lo:Nat} {M:List α} (h:dB K a hi (lo + 1) M):SiftR K a hi lo lo M :=
 ⟨Nat.le_refl _,fun p c h1 h2=>h p c (by omega),fun q c h1 h2=>by unfold Kid at h2; omega⟩
theorem SiftR.leaf {a hi lo root:Nat} {M:List α} (h:SiftR K a hi lo root M) (hr:hi ≤ 2 * root + 1):dB K a hi lo M:=fun p c h1 h2 h3=>by
 by_cases e:p=root
 ·subst e; unfold Kid at h2; omega
 ·exact h.heap p c h1 e h2 h3
theorem SiftR.stop {a hi lo root c:Nat} {M:List α} (hK:Ord K) (h:SiftR K a hi lo root M) (hb:∀ d,Kid root d→d < hi→¬ K (M.getD (a + c) default) (M.getD (a + d) default) < 0) (hn:¬ K (M.getD (a + root) default) (M.getD (a + c) default) < 0):dB K a hi lo M:=fun p d h1 h2 h3=>by
 by_cases e:p=root
 ·subst e; exact hK.negtr _ _ _ (hb d h2 h3) hn
 ·exact h.heap p d h1 e h2 h3
theorem SiftR.step {a hi lo root c:Nat} {M:List α} (hK:Ord K) (h:SiftR K a hi lo root M) (hkid:Kid root c) (hc:c < hi) (hM:a + hi ≤ M.length) (hb:∀ d,Kid root d→d < hi→¬ K (M.getD (a + c) default) (M.getD (a + d) default) < 0) (hn:K (M.getD (a + root) default) (M.getD (a + c) default) < 0):SiftR K a hi lo c (swp M (a + root) (a + c)):=by
 have hrc:root < c:=by unfold Kid at hkid; omega
 have hg:∀ k,(swp M (a + root) (a + c)).getD (a + k) default=if k=c then M.getD (a + root) default else if k=root then M.getD (a + c) default else M.getD (a + k) default:=fun k=>by
  rw [cp (by omega) (by omega)]
  by_cases e:k=c
  ·rw [if_pos (by omega),if_pos e]
  ·rw [if_neg (by omega),if_neg e]
   by_cases e2:k=root
   ·rw [if_pos (by omega),if_pos e2]
   ·rw [if_neg (by omega),if_neg e2]
 refine ⟨by have:=h.le; omega,fun p d h1 h2 h3 h4=>?_,fun q d h1 h2 h3 h4=>?_⟩
 ·rw [hg,hg,if_neg h2]
  by_cases e1:p=root
  ·rw [if_pos e1]
   subst e1
   by_cases e2:d=c
   ·rw [if_pos e2]; exact hK.asym _ _ hn
   ·rw [if_neg e2,if_neg (by unfold Kid at h3; omega)]; exact hb d h3 h4
  ·rw [if_neg e1]
   have hdc:d ≠ c:=fun e=>by subst e; unfold Kid at h3 hkid; omega
   rw [if_neg hdc]
   by_cases e2:d=root
   ·rw [if_pos e2]; subst e2; exact h.up p c h1 h3 hkid hc
   ·rw [if_neg e2]; exact h.heap p d h1 e1 h3 h4
 ·have eq:q=root:=by unfold Kid at h2 hkid; omega
  subst eq
  rw [hg,hg,if_neg (by omega),if_pos rfl,if_neg (by unfold Kid at h3; omega),if_neg (by unfold Kid at h3; omega)]
  exact h.heap c d (by omega) (by omega) h3 h4
theorem cf {M:List α} {i j:Nat} (hi:i < M.length) (hj:j < M.length):∃ M1:List α,M1.length=M.length∧bb (M.map f) i [f (M.getD j default)]=M1.map f∧bb (M1.map f) j [f (M.getD i default)]=(swp M i j).map f :=
 ⟨M.set i (M.getD j default),by simp,im hi,by rw [im (by simpa using hj)]; rfl⟩
theorem bM {a c:Nat}:((a:Int) + (c:Int)).toNat=a + c:=by omega
theorem fj {a c:Nat}:((a:Int) + (c:Int) + 1).toNat=a + (c + 1):=by omega
attribute [local irreducible] aG al bg bc aN aR aE aS bf br Go.Abs.Fn aY Go.Abs.Pure aA aL Yl
theorem wy (hc:Cmp Tryz.prog f K G g caps) {L:List α} {H:Hp} {b nx n a lo hi:Nat} (hH:H b=some (L.map f)) (hn:L.length=n) (hG:∀ x ∈ L,G x) (hhi:a + hi ≤ n) (hn2:n ≤ 1000000000) (hlo:lo ≤ n) (hheap:dB K a hi (lo + 1) L) :
    Abs.Fn Tryz.prog 155 [.msl b n 1 0 n,.int .i64 lo,.int .i64 hi,.int .i64 a,.func g caps] H nx fun r H' nx'=>nx'=nx∧∃ L',H'=am H b (L'.map f)∧PermR a (a + hi) L L'∧dB K a hi lo L':=by
 refine Abs.Fn.of_c2 follows Bo (Nat.le_of_ble_eq_true rfl) ?_
 simp only [Ai,cO,cG,cN,cM,cD,cF,cB,au,aH]
 (have zz:=and_self; repeat' (first|refine zW ?_|apply a_n|refine zO ?_|refine vZ ?_|fail)) <;> (try clear zz)
 refine aM (X:=Nat × List α) (fun x=>[(0,.msl b n 1 0 n),(2,.int .i64 hi),(3,.int .i64 a),(4,.func g caps),(10,.int .i64 (x.1:Nat))]) (fun x H' nx'=>x.1 ≤ n∧H'=am H b (x.2.map f)∧nx'=nx∧PermR a (a + hi) L x.2∧SiftR K a hi lo x.1 x.2) (fun x=>n + 1 - x.1) (lo,L) ⟨hlo,dG hH,rfl,.refl,.start hheap⟩ ag0 ?_
 rintro ⟨root,M⟩ H' nx' ⟨h0,rfl,rfl,hp,hs⟩
 dsimp only at *
 have hl:M.length=n:=by rw [hp.len,hn]
 have hGM:=hp.mem hG
 by_cases hch:2 * root + 1 < hi
 rotate_left
 ·(have zz:=and_self; repeat' (first|refine zW ?_|apply a_n|apply a_x|refine zO ?_|refine vZ ?_|(refine zGZ ?_ ?_ <;> (intro _hg; try (exfalso; omega)))|refine ah rfl ?_|fail)) <;> (try clear zz)
  exact ⟨rfl,M,rfl,hp,hs.leaf (by omega)⟩
 have dcap:=hc.dcaps
 have tch:(2:Int) * (root:Int) + 1=((2 * root + 1:Nat):Int):=by omega
 have tch2:((2 * root + 1:Nat):Int) + 1=((2 * root + 1 + 1:Nat):Int):=by omega
 have w1:IntKind.wrap .i64 (2 * (root:Int))=2 * (root:Int):=mX (by omega) (by omega)
 obtain ⟨c,hkid,hchi,hbest,hsel⟩:∃ c,Kid root c∧c < hi∧(∀ d,Kid root d→d < hi→¬ K (M.getD (a + c) default) (M.getD (a + d) default) < 0)∧((c=2 * root + 1 + 1∧K (M.getD (a + (2 * root + 1)) default) (M.getD (a + (2 * root + 1 + 1)) default) < 0) ∨ (c=2 * root + 1∧(2 * root + 1 + 1 < hi→¬ K (M.getD (a + (2 * root + 1)) default) (M.getD (a + (2 * root + 1 + 1)) default) < 0))):=by
  by_cases h2:2 * root + 1 + 1 < hi∧K (M.getD (a + (2 * root + 1)) default) (M.getD (a + (2 * root + 1 + 1)) default) < 0
  ·refine ⟨2 * root + 1 + 1,.inr rfl,h2.1,fun d hd hd2=>?_,.inl ⟨rfl,h2.2⟩⟩
   rcases hd with rfl | rfl
   ·exact hc.ord.asym _ _ h2.2
   ·exact hc.ord.irr _
  ·refine ⟨2 * root + 1,.inl rfl,hch,fun d hd hd2=>?_,.inr ⟨rfl,fun h h3=>h2 ⟨h,h3⟩⟩⟩
   rcases hd with rfl | rfl
   ·exact hc.ord.irr _
   ·exact fun h3=>h2 ⟨hd2,h3⟩
 have lc2:=hc.run (M.getD (a + root) default) (M.getD (a + c) default) (hGM _ (aB (by omega))) (hGM _ (aB (by omega)))
 have e1:=hc.dat (M.getD (a + root) default)
 have e2:=hc.dat (M.getD (a + c) default)
 generalize hK2:K (M.getD (a + root) default) (M.getD (a + c) default)=k2 at lc2
 refine du ?_
 refine aQ (fun T H'' nx''=>T 0=.msl b n 1 0 n∧T 2=.int .i64 hi∧T 3=.int .i64 a∧T 4=.func g caps∧T 10=.int .i64 (root:Nat)∧T 11=.int .i64 ((2 * root + 1:Nat):Int)∧H''=am H b (M.map f)∧nx'=nx'') ?_ ?_
 ·(have zz:=aI @w1 @tch; repeat' (first|apply a_n|refine zO ?_|refine vZ ?_|fail)) <;> (try clear zz)
  exact ⟨rfl,rfl,rfl,rfl,rfl,rfl,rfl,rfl⟩
 rintro T _ _ ⟨t0,t2,t3,t4,t10,t11,rfl,rfl⟩
 refine aQ (fun T H'' nx''=>T 0=.msl b n 1 0 n∧T 2=.int .i64 hi∧T 3=.int .i64 a∧T 4=.func g caps∧T 10=.int .i64 (root:Nat)∧T 11=.int .i64 ((2 * root + 1:Nat):Int)∧H''=am H b (M.map f)∧nx'=nx'') ?_ ?_
 ·(have zz:=aI @t0 (aI @t2 (aI @t3 (aI @t4 (aI @t10 @t11)))); repeat' (first|refine zW ?_|apply a_n|refine zO ?_|refine vZ ?_|(refine zGZ ?_ ?_ <;> (intro _hg; try (exfalso; omega)))|fail)) <;> (try clear zz)
  all_goals exact ⟨(have zz:=@t0; evZ),(have zz:=@t2; evZ),(have zz:=@t3; evZ),(have zz:=@t4; evZ),(have zz:=@t10; evZ),(have zz:=@t11; evZ),rfl,rfl⟩
 clear t0 t2 t3 t4 t10 t11
 rintro T _ _ ⟨t0,t2,t3,t4,t10,t11,rfl,rfl⟩
 refine aQ (fun T H'' nx''=>T 0=.msl b n 1 0 n∧T 2=.int .i64 hi∧T 3=.int .i64 a∧T 4=.func g caps∧T 10=.int .i64 (root:Nat)∧T 11=.int .i64 (c:Nat)∧H''=am H b (M.map f)∧nx'=nx'') ?_ ?_
 ·by_cases h2:2 * root + 1 + 1 < hi
  ·have lc1:=hc.run (M.getD (a + (2 * root + 1)) default) (M.getD (a + (2 * root + 1 + 1)) default) (hGM _ (aB (by omega))) (hGM _ (aB (by omega)))
   have e3:=hc.dat (M.getD (a + (2 * root + 1)) default)
   have e4:=hc.dat (M.getD (a + (2 * root + 1 + 1)) default)
   generalize hK1:K (M.getD (a + (2 * root + 1)) default) (M.getD (a + (2 * root + 1 + 1)) default)=k1 at lc1 hsel
   have hlt:decide (((2 * root + 1 + 1:Nat):Int) < (hi:Int))=true:=decide_eq_true (by omega)
   generalize 2 * root + 1=ch at *
   rcases hsel with ⟨rfl,hk1⟩ | ⟨rfl,hk1⟩
   ·(have zz:=aI @t0 (aI @t2 (aI @t3 (aI @t4 (aI @t10 (aI @t11 (aI @tch2 (aI @hlt (aI @bM (aI @fj (aI hc.cells hc.one)))))))))); repeat' (first|refine zW ?_|refine zM ?_|apply a_n|refine zO ?_|refine vZ ?_|refine cZ ?_ (hp:=lc1) (hs:=by (first | refine aa ?_ rfl | apply ac); (repeat' (first | exact ab | apply ag | apply ae | exact e3 | exact e4 | exact aw dcap)); first | done | fail)|refine gTZ ?_|(refine zGZ ?_ ?_ <;> (intro _hg; try (exfalso; omega)))|fail)) <;> (try clear zz)
    all_goals exact ⟨(have zz:=@t0; evZ),(have zz:=@t2; evZ),(have zz:=@t3; evZ),(have zz:=@t4; evZ),(have zz:=@t10; evZ),(have zz:=@t11; evZ),rfl,rfl⟩
   ·have hk1:=hk1 h2
    (have zz:=aI @t0 (aI @t2 (aI @t3 (aI @t4 (aI @t10 (aI @t11 (aI @tch2 (aI @hlt (aI @bM (aI @fj (aI hc.cells hc.one)))))))))); repeat' (first|refine zW ?_|refine zM ?_|apply a_n|refine zO ?_|refine vZ ?_|refine cZ ?_ (hp:=lc1) (hs:=by (first | refine aa ?_ rfl | apply ac); (repeat' (first | exact ab | apply ag | apply ae | exact e3 | exact e4 | exact aw dcap)); first | done | fail)|refine gTZ ?_|(refine zGZ ?_ ?_ <;> (intro _hg; try (exfalso; omega)))|fail)) <;> (try clear zz)
    all_goals exact ⟨(have zz:=@t0; evZ),(have zz:=@t2; evZ),(have zz:=@t3; evZ),(have zz:=@t4; evZ),(have zz:=@t10; evZ),(have zz:=@t11; evZ),rfl,rfl⟩
  ·have hlt:decide (((2 * root + 1 + 1:Nat):Int) < (hi:Int))=false:=decide_eq_false (by omega)
   have hcc:c=2 * root + 1:=by
    rcases hsel with ⟨rfl,_⟩ | ⟨rfl,_⟩
    ·omega
    ·rfl
   subst hcc
   (have zz:=aI @t0 (aI @t2 (aI @t3 (aI @t4 (aI @t10 (aI @t11 (aI @tch2 @hlt)))))); repeat' (first|refine zW ?_|refine zM ?_|apply a_n|refine zO ?_|refine vZ ?_|refine gFZ ?_|refine cFZ ?_|fail)) <;> (try clear zz)
   all_goals exact ⟨(have zz:=@t0; evZ),(have zz:=@t2; evZ),(have zz:=@t3; evZ),(have zz:=@t4; evZ),(have zz:=@t10; evZ),(have zz:=@t11; evZ),rfl,rfl⟩
 clear t0 t2 t3 t4 t10 t11 hsel
 rintro T _ _ ⟨t0,t2,t3,t4,t10,t11,rfl,rfl⟩
 by_cases hk2:k2 < 0
 ·obtain ⟨M1,hl1,lm1,lm2⟩:=cf (f:=f) (M:=M) (i:=a + root) (j:=a + c) (by omega) (by omega)
  have lm3:=lm2
  simp only [bb,List.length_cons,List.length_nil,Nat.zero_add] at lm1 lm2
  (have zz:=aI @t0 (aI @t2 (aI @t3 (aI @t4 (aI @t10 (aI @t11 (aI @bM (aI @lm1 (aI @lm2 (aI hc.cells hc.one))))))))); repeat' (first|refine zW ?_|refine zM ?_|apply a_n|refine zO ?_|refine vZ ?_|refine cZ ?_ (hp:=lc2) (hs:=by (first | refine aa ?_ rfl | apply ac); (repeat' (first | exact ab | apply ag | apply ae | exact e1 | exact e2 | exact aw dcap)); first | done | fail)|refine stZ ?_|(refine zGZ ?_ ?_ <;> (intro _hg; try (exfalso; omega)))|fail)) <;> (try clear zz)
  have hrc:root < c:=by unfold Kid at hkid; omega
  have hcn:c < n:=by omega
  refine ⟨(c,swp M (a + root) (a + c)),by dsimp only; omega,⟨by dsimp only; omega,?_,rfl,hp.trans (PermR.swap (by omega) (by omega) (by omega)),hs.step hc.ord hkid hchi (by omega) hbest (by rw [hK2]; exact hk2)⟩,(have zz:=aI @t0 (aI @t2 (aI @t3 @t4)); agZ)⟩
  dsimp only
  rw [aq,aq,lm3]
 ·(have zz:=aI @t0 (aI @t2 (aI @t3 (aI @t4 (aI @t10 (aI @t11 (aI @bM (aI hc.cells hc.one))))))); repeat' (first|refine zW ?_|refine zM ?_|apply a_n|apply a_r|refine zO ?_|refine vZ ?_|refine cZ ?_ (hp:=lc2) (hs:=by (first | refine aa ?_ rfl | apply ac); (repeat' (first | exact ab | apply ag | apply ae | exact e1 | exact e2 | exact aw dcap)); first | done | fail)|(refine zGZ ?_ ?_ <;> (intro _hg; try (exfalso; omega)))|refine ah rfl ?_|fail)) <;> (try clear zz)
  exact ⟨rfl,M,rfl,hp,hs.stop hc.ord hbest (by rw [hK2]; exact hk2)⟩
end
end Go.Proofs.YtbgdcebmgjafjaaGreat
namespace Go.Proofs.YtbgdcebmgjafjaaGreat
open Go Go.Abs
open Nat (reduceEqDiff reduceAdd reduceLeDiff)
section
variable {α:Type} [Inhabited α] {f:α→AV} {K:α→α→Int} {G:α→Prop} {g:Nat} {caps:List AV}
theorem dB.top {a hi:Nat} {M:List α} (hK:Ord K) (h:dB K a hi 0 M):∀ p,p < hi→¬ K (M.getD a default) (M.getD (a + p) default) < 0:=by
 intro p
 induction p using Nat.strongRecOn with
 | ind p ih =>
  intro hp
  by_cases e:p=0
  ·subst e; exact hK.irr _
  ·have k:Kid ((p - 1) / 2) p:=by unfold Kid; omega
   exact hK.negtr _ _ _ (h _ p (Nat.zero_le _) k hp) (ih ((p - 1) / 2) (by omega) (by omega))
structure TailR {α:Type} [Inhabited α] (K:α→α→Int) (a e k:Nat) (M:List α):Prop where
 sort:aK K k e M
 ge:∀ p q,a ≤ p→p < k→k ≤ q→q < e→¬ K (M.getD q default) (M.getD p default) < 0
theorem TailR.step {a e k:Nat} {M N:List α} (hK:Ord K) (ht:TailR K a e (a + (k + 1)) M) (hh:dB K a (k + 1) 0 M) (he:a + (k + 1) ≤ e) (hM:e ≤ M.length) (hp:PermR a (a + k) (swp M a (a + k)) N):TailR K a e (a + k) N:=by
 have hg:∀ j,(swp M a (a + k)).getD j default=if j=a + k then M.getD a default else if j=a then M.getD (a + k) default else M.getD j default:=fun j=>cp (by omega) (by omega) j
 have hmax:=hh.top hK
 have lo:∀ q,a + k ≤ q→q < e→∀ p,a ≤ p→p < a + k→¬ K (N.getD q default) (N.getD p default) < 0:=by
  intro q h1 h2
  rw [hp.out q (.inr h1),hg]
  have hl:(swp M a (a + k)).length=M.length:=sJ _ _
  refine hp.all (p:=fun x=>¬ K (if q=a + k then M.getD a default else if q=a then M.getD (a + k) default else M.getD q default) x < 0) (by omega) (by omega) ?_
  intro p k1 k2
  rw [hg,if_neg (by omega:¬ p=a + k)]
  by_cases e1:q=a + k
  ·rw [if_pos e1]
   by_cases e2:p=a
   ·rw [if_pos e2]; exact hmax k (by omega)
   ·rw [if_neg e2]
    have:=hmax (p - a) (by omega)
    rw [show a + (p - a)=p by omega] at this
    exact this
  ·rw [if_neg e1,if_neg (by omega:¬ q=a)]
   by_cases e2:p=a
   ·rw [if_pos e2]; exact ht.ge (a + k) q (by omega) (by omega) (by omega) h2
   ·rw [if_neg e2]; exact ht.ge p q k1 (by omega) (by omega) h2
 refine ⟨fun p q h1 h2 h3=>?_,fun p q h1 h2 h3 h4=>lo q h3 h4 p h1 h2⟩
 rw [hp.out p (.inr h1),hp.out q (.inr (by omega)),hg,hg,if_neg (by omega:¬ q=a + k),if_neg (by omega:¬ q=a)]
 by_cases e1:p=a + k
 ·rw [if_pos e1]; exact ht.ge a q (Nat.le_refl _) (by omega) (by omega) h3
 ·rw [if_neg e1,if_neg (by omega:¬ p=a)]; exact ht.sort p q (by omega) h2 h3
theorem dB.swapTop {a k:Nat} {M:List α} (h:dB K a (k + 1) 0 M) (hM:a + (k + 1) ≤ M.length):dB K a k 1 (swp M a (a + k)):=by
 intro p c h1 h2 h3
 have hg:∀ j,(swp M a (a + k)).getD j default=if j=a + k then M.getD a default else if j=a then M.getD (a + k) default else M.getD j default:=fun j=>cp (by omega) (by omega) j
 have:p < c:=by unfold Kid at h2; omega
 rw [hg,hg,if_neg (by omega),if_neg (by omega),if_neg (by omega),if_neg (by omega)]
 exact h p c (Nat.zero_le _) h2 (by omega)
theorem TailR.start {a e:Nat} {M:List α}:TailR K a e e M:=⟨fun p q h1 h2 h3=>by omega,fun p q h1 h2 h3 h4=>by omega⟩
theorem TailR.done {a e:Nat} {M:List α} (h:TailR K a e a M):aK K a e M:=h.sort
theorem dB.start {a hi r:Nat} {M:List α} (hr:hi ≤ 2 * r + 1):dB K a hi r M:=fun p c h1 h2 h3=>by unfold Kid at h2; omega
attribute [local irreducible] aG al bg bc aN aR aE aS bf br Go.Abs.Fn aY Go.Abs.Pure aA aL Yl
theorem ym (hc:Cmp Tryz.prog f K G g caps) {L:List α} {H:Hp} {b nx n a e:Nat} (hH:H b=some (L.map f)) (hn:L.length=n) (hG:∀ x ∈ L,G x) (hae:a ≤ e) (hen:e ≤ n) (hn2:n ≤ 1000000000) :
    Abs.Fn Tryz.prog 143 [.msl b n 1 0 n,.int .i64 a,.int .i64 e,.func g caps] H nx fun r H' nx'=>nx'=nx∧∃ L',H'=am H b (L'.map f)∧PermR a e L L'∧aK K a e L':=by
 obtain ⟨h,rfl⟩:∃ h,e=a + h:=⟨e - a,by omega⟩
 refine Abs.Fn.of_c2 follows A3 (Nat.le_of_ble_eq_true rfl) ?_
 simp only [zt,cO,cG,cN,cM,cD,cF,cB,au,aH]
 have dcap:=hc.dcaps
 have te:((a + h:Nat):Int) - (a:Int)=(h:Int):=by omega
 obtain ⟨r,tr,hr,hrn⟩:∃ r:Nat,aU .quo false false (.int .i64 ((h:Int) - 1)) (.int .i64 2)=some (.int .i64 (r:Int))∧h ≤ 2 * (r + 1) + 1∧r ≤ h:=by
  rcases Nat.eq_zero_or_pos h with e | e
  ·subst e; exact ⟨0,rfl,by omega,by omega⟩
  ·refine ⟨(h - 1) / 2,?_,by omega,by omega⟩
   rw [fo (by omega) (by omega) (by omega)]
   congr 2
   omega
 (have zz:=aI @te @tr; repeat' (first|refine zW ?_|apply a_n|refine zO ?_|refine vZ ?_|fail)) <;> (try clear zz)
 refine aM (X:=Nat × List α) (fun x=>[(0,.msl b n 1 0 n),(1,.int .i64 a),(3,.func g caps),(8,.int .i64 a),(9,.int .i64 0),(10,.int .i64 h),(11,.int .i64 ((x.1:Nat) - 1))]) (fun x H' nxx=>x.1 ≤ n + 1∧H'=am H b (x.2.map f)∧nx=nxx∧PermR a (a + h) L x.2∧dB K a h x.1 x.2) (fun x=>x.1) (r + 1,L) ⟨by dsimp only; omega,dG hH,rfl,.refl,dB.start (by dsimp only; omega)⟩ (by simp (disch:=omega) only [agr,ZG,reduceEqDiff,↓reduceIte,Int.add_sub_cancel]) ?_
 rintro ⟨i,M⟩ H' nxx ⟨h1,rfl,rfl,hp,hh⟩
 dsimp only at *
 have hl:M.length=n:=by rw [hp.len,hn]
 have hGM:=hp.mem hG
 rcases Nat.eq_zero_or_pos i with e | e
 ·subst e
  (have zz:=and_self; repeat' (first|refine zW ?_|apply a_n|apply a_x|refine zO ?_|refine vZ ?_|(refine zGZ ?_ ?_ <;> (intro _hg; try (exfalso; omega)))|fail)) <;> (try clear zz)
  clear hGM
  refine aM (X:=Nat × List α) (fun x=>[(0,.msl b n 1 0 n),(3,.func g caps),(8,.int .i64 a),(9,.int .i64 0),(12,.int .i64 ((x.1:Nat) - 1))]) (fun x H' nxx'=>x.1 ≤ h∧H'=am H b (x.2.map f)∧nx=nxx'∧PermR a (a + h) L x.2∧dB K a x.1 0 x.2∧TailR K a (a + h) (a + x.1) x.2) (fun x=>x.1) (h,M) ⟨Nat.le_refl _,rfl,rfl,hp,hh,.start⟩ (by simp (disch:=omega) only [agr,ZG,reduceEqDiff,↓reduceIte,Int.add_sub_cancel]) ?_
  clear hp hh hl
  rintro ⟨i,M⟩ H' nxx ⟨h1,rfl,rfl,hp,hh,ht⟩
  dsimp only at *
  have hl:M.length=n:=by rw [hp.len,hn]
  have hGM:=hp.mem hG
  rcases Nat.eq_zero_or_pos i with e | e
  ·subst e
   (have zz:=and_self; repeat' (first|refine zW ?_|apply a_n|apply a_x|refine zO ?_|refine vZ ?_|(refine zGZ ?_ ?_ <;> (intro _hg; try (exfalso; omega)))|refine ah rfl ?_|fail)) <;> (try clear zz)
   exact ⟨rfl,M,rfl,hp,ht.done⟩
  ·obtain ⟨k,rfl⟩:∃ k,i=k + 1:=⟨i - 1,by omega⟩
   have tj:((k + 1:Nat):Int) - 1=(k:Int):=by omega
   obtain ⟨M1,hl1,lm1,lm2⟩:=cf (f:=f) (M:=M) (i:=a) (j:=a + k) (by omega) (by omega)
   have lm3:=lm2
   simp only [bb,List.length_cons,List.length_nil,Nat.zero_add] at lm1 lm2
   have hp1:PermR a (a + h) L (swp M a (a + k)):=hp.trans (PermR.swap (by omega) (by omega) (by omega))
   have hsl:(swp M a (a + k)).length=n:=by rw [hp1.len,hn]
   (have zz:=aI @tj (aI @bM (aI @lm1 (aI @lm2 (aI hc.cells hc.one)))); repeat' (first|refine zW ?_|apply a_n|refine zO ?_|refine vZ ?_|refine stZ ?_|(refine zGZ ?_ ?_ <;> (intro _hg; try (exfalso; omega)))|fail)) <;> (try clear zz)
   refine aD ev0 (have zz:=aI @tj @Int.natCast_zero; evZ) (wy hc (b:=b) (L:=swp M a (a + k)) (a:=a) (lo:=0) (hi:=k) (by rw [aq,aq,aj,← lm3]) hsl (hp1.mem hG) (by omega) (by omega) (by omega) (hh.swapTop (by omega))) ?_
   rintro _ _ _ ⟨rfl,N,rfl,hpN,hhN⟩
   (have zz:=@tj; repeat' (first|apply a_n|refine zO ?_|refine vZ ?_|fail)) <;> (try clear zz)
   exact ⟨(k,N),by dsimp only; omega,⟨by dsimp only; omega,by dsimp only; rw [aq,aq,aq],rfl,hp1.trans (hpN.mono (Nat.le_refl _) (by omega)),hhN,ht.step hc.ord hh (by omega) (by omega) hpN⟩,ag0⟩
 ·obtain ⟨k,rfl⟩:∃ k,i=k + 1:=⟨i - 1,by omega⟩
  have tj:((k + 1:Nat):Int) - 1=(k:Int):=by omega
  (have zz:=@tj; repeat' (first|refine zW ?_|apply a_n|refine zO ?_|refine vZ ?_|(refine zGZ ?_ ?_ <;> (intro _hg; try (exfalso; omega)))|fail)) <;> (try clear zz)
  refine aD ev0 ev0 (wy hc (L:=M) (a:=a) (lo:=k) (hi:=h) aj hl hGM (by omega) (by omega) (by omega) hh) ?_
  rintro _ _ _ ⟨rfl,N,rfl,hpN,hhN⟩
  (have zz:=@tj; repeat' (first|apply a_n|refine zO ?_|refine vZ ?_|fail)) <;> (try clear zz)
  exact ⟨(k,N),by dsimp only; omega,⟨by dsimp only; omega,by dsimp only; rw [aq],rfl,hp.trans hpN,hhN⟩,ag0⟩
end
end Go.Proofs.YtbgdcebmgjafjaaGreat