/- Texts of this claim, one after the other: Code, U1, T100, T101, T102, T103, T104, T105, T108, U2s, U3s, U4s, U5s, U6s, U7s, U8s, U9s, U10s, U11s, U12s, U13s, U2p, U3p, U4p, U5p. -/
import Derived.Test.YtbgdcebmgjafjaaGreatProg
import Derived.Test.YtbgdcebmgjafjaaGreatXG3
import Derived.KernelRfl

set_option linter.unusedSimpArgs false
set_option linter.unusedVariables false
namespace Go.Proofs.YtbgdcebmgjafjaaGreat
open Go Go.Abs Go.Abs.C2 Go.Abs.Ins Go.Abs.Opd Go.Abs.TK Go.Abs.MK
def cO (d:Nat) (i:Ins):Op2:=Op2.mk (some d) none i
def cG (d g:Nat) (b:Bool) (i:Ins):Op2:=Op2.mk (some d) (some (g,b)) i
def cN (k:Int):Opd:=Opd.c (AV.int IntKind.i64 k)
def cM (n:Nat):Ins:=Ins.mov (Opd.t n)
def cD (n:Nat):Ins:=Ins.ld1 (Opd.t n)
def cF (n:Nat):Opd:=Opd.c (AV.func n [])
def cB (o:BinOp) (x y:Opd):Ins:=Ins.bin o false false x y
def ap:Opd:=Opd.c (AV.bool false)
def aH:Opd:=Opd.c (AV.bool true)
theorem follows:Tryz.prog.follows .mixedOrders=true:=by rfl
def b3:F2:=(F2.mk 74 [RV.t 6] ((ops 0 [cO 3 (box (t 0)),cO 4 (box (t 1)),cO 5 (box (t 2)),cO 6 (mov ap)]).seq (((ops 0 [cO 15 (ldn 2 (t 3)),cO 16 (call (cF 9) [t 15]),cO 17 (un UnOp.not (t 16)),cO 18 (cM 17),cG 19 18 false (ldn 1 (t 4)),cG 20 18 false (call (cF 10) [t 19]),cG 21 18 false (un UnOp.not (t 20)),cO 22 (pick (t 18) aH (t 21)),cO 23 (cM 22),cG 24 23 false (ldn 1 (t 5)),cG 25 23 false (call (cF 10) [t 24]),cG 26 23 false (un UnOp.not (t 25)),cO 27 (pick (t 23) aH (t 26))]).seq (C2.cond (t 27) ((ops 0 [cO 28 (call (cF 11) []),cO 6 (cM 28)]).seq ret) skip)).seq ((ops 0 [cO 30 (ldn 2 (t 3)),cO 31 (ldn 1 (t 4)),cO 32 (ldn 1 (t 5)),cO 33 (call (cF 12) [t 30,t 31,t 32]),cO 29 (cM 33),cO 34 (ext (t 29) 0),cO 35 (ext (t 29) 1),cO 7 (cM 34),cO 8 (cM 35)]).seq ((ops 0 [cO 37 (ldn 2 (t 3)),cO 38 (ldn 1 (t 4)),cO 39 (ldn 1 (t 5)),cO 40 (call (cF 13) [t 37,t 38,t 39]),cO 36 (cM 40),cO 41 (ext (t 36) 0),cO 42 (ext (t 36) 1),cO 9 (cM 41),cO 10 (cM 42)]).seq ((ops 0 [cO 44 (ldn 2 (t 3)),cO 45 (call (cF 14) [t 44]),cO 43 (cM 45),cO 46 (ext (t 43) 0),cO 47 (ext (t 43) 1),cO 11 (cM 46),cO 12 (cM 47)]).seq ((ops 0 [cO 49 (ldn 2 (t 3)),cO 50 (call (cF 15) [t 49]),cO 48 (cM 50),cO 51 (ext (t 48) 0),cO 52 (ext (t 48) 1),cO 13 (cM 51),cO 14 (cM 52)]).seq ((ops 0 [cO 53 (cM 7),cO 54 (cM 9),cO 55 (bin BinOp.eql true false (t 53) (t 54)),cO 56 (cM 55),cG 57 56 true (cM 8),cG 58 56 true (cM 10),cG 59 56 true (cB .eql (t 57) (t 58)),cO 60 (pick (t 56) (t 59) ap),cO 61 (cM 60),cG 62 61 true (cM 11),cG 63 61 true (cM 13),cG 64 61 true (bin BinOp.eql true false (t 62) (t 63)),cO 65 (pick (t 61) (t 64) ap),cO 66 (cM 65),cG 67 66 true (cM 12),cG 68 66 true (cM 14),cG 69 66 true (cB .eql (t 67) (t 68)),cO 70 (pick (t 66) (t 69) ap),cO 71 (cM 70),cG 72 71 true (call (cF 11) []),cO 73 (pick (t 71) (t 72) ap),cO 6 (cM 73)]).seq ret))))))))
theorem is3:Is Tryz.prog 3 b3:=Is.mk' Tryz.func3 (by kernel_rfl)
def b9:F2:=(F2.mk 13 [RV.t 2] ((ops 0 [cO 1 (box (t 0)),cO 2 (mov ap)]).seq ((ops 0 [cO 3 (fa 0 (t 1)),cO 4 (cD 3),cO 5 (lenS (t 4)),cO 6 (cB .leq (t 5) (cN 40)),cO 7 (cM 6),cG 8 7 true (fa 1 (t 1)),cG 9 7 true (cD 8),cG 10 7 true (lenS (t 9)),cG 11 7 true (cB .leq (t 10) (cN 40)),cO 12 (pick (t 7) (t 11) ap),cO 2 (cM 12)]).seq ret)))
theorem is9:Is Tryz.prog 9 b9:=Is.mk' Tryz.func9 (by kernel_rfl)
def b10:F2:=(F2.mk 6 [RV.t 2] ((ops 0 [cO 1 (box (t 0)),cO 2 (mov ap)]).seq ((ops 0 [cO 3 (fa 0 (t 1)),cO 4 (cD 3),cO 5 (call (cF 39) [t 4]),cO 2 (cM 5)]).seq ret)))
theorem yu:Is Tryz.prog 10 b10:=Is.mk' Tryz.func10 (by kernel_rfl)
def b11:F2:=(F2.mk 161 [RV.t 0] ((ops 0 [cO 0 (mov ap)]).seq ((ops 0 [cO 18 (bld [AV.int IntKind.i64 (0),AV.int IntKind.i64 (0)] []),cO 19 (bld [AV.int IntKind.i64 (0),AV.int IntKind.i64 (0)] [(0,1,cN ((1)))]),cO 20 (bld [AV.int IntKind.i64 (0),AV.int IntKind.i64 (0)] [(0,1,cN ((2)))]),cO 1 (alloc (AV.agg [AV.int IntKind.i64 (0),AV.int IntKind.i64 (0)])),cO 2 (alloc (AV.agg [AV.int IntKind.i64 (0),AV.int IntKind.i64 (0)])),cO 3 (alloc (AV.agg [AV.int IntKind.i64 (0),AV.int IntKind.i64 (0)])),Op2.mk none none (Ins.st 2 (t 1) (t 18)),Op2.mk none none (Ins.st 2 (t 2) (t 19)),Op2.mk none none (Ins.st 2 (t 3) (t 20))]).seq ((ops 0 [cO 21 (ldn 2 (t 1)),cO 22 (ldn 2 (t 2)),cO 23 (ldn 2 (t 3)),cO 24 (bldS 2 3 [AV.int IntKind.i64 (0),AV.int IntKind.i64 (0)] [(0,2,t 21),(2,2,t 22),(4,2,t 23)]),cO 25 (ldn 2 (t 1)),cO 26 (ldn 2 (t 2)),cO 27 (ldn 2 (t 1)),cO 28 (bldS 2 3 [AV.int IntKind.i64 (0),AV.int IntKind.i64 (0)] [(0,2,t 25),(2,2,t 26),(4,2,t 27)]),cO 29 (bld [AV.esl,AV.esl] [(0,1,t 24),(1,1,t 28)]),cO 4 (alloc (AV.agg [AV.esl,AV.esl])),Op2.mk none none (Ins.st 2 (t 4) (t 29))]).seq ((ops 0 [cO 30 (ldn 2 (t 1)),cO 31 (ldn 2 (t 2)),cO 32 (bldS 2 2 [AV.int IntKind.i64 (0),AV.int IntKind.i64 (0)] [(0,2,t 30),(2,2,t 31)]),cO 33 (ldn 2 (t 1)),cO 34 (ldn 2 (t 3)),cO 35 (bldS 2 2 [AV.int IntKind.i64 (0),AV.int IntKind.i64 (0)] [(0,2,t 33),(2,2,t 34)]),cO 36 (ldn 2 (t 2)),cO 37 (ldn 2 (t 3)),cO 38 (bldS 2 2 [AV.int IntKind.i64 (0),AV.int IntKind.i64 (0)] [(0,2,t 36),(2,2,t 37)]),cO 39 (bldS 1 3 [AV.esl] [(0,1,t 32),(1,1,t 35),(2,1,t 38)]),cO 40 (bld [AV.esl] [(0,1,t 39)]),cO 5 (alloc (AV.agg [AV.esl])),Op2.mk none none (Ins.st 1 (t 5) (t 40))]).seq ((ops 0 [cO 41 (ldn 2 (t 1)),cO 42 (ldn 2 (t 2)),cO 43 (bldS 2 2 [AV.int IntKind.i64 (0),AV.int IntKind.i64 (0)] [(0,2,t 41),(2,2,t 42)]),cO 44 (bldS 1 1 [AV.esl] [(0,1,t 43)]),cO 45 (bld [AV.esl] [(0,1,t 44)]),cO 6 (alloc (AV.agg [AV.esl])),Op2.mk none none (Ins.st 1 (t 6) (t 45))]).seq ((ops 0 [cO 47 (ldn 2 (t 4)),cO 48 (ldn 2 (t 1)),cO 49 (ldn 2 (t 2)),cO 50 (ldn 2 (t 3)),cO 51 (bldS 2 3 [AV.int IntKind.i64 (0),AV.int IntKind.i64 (0)] [(0,2,t 48),(2,2,t 49),(4,2,t 50)]),cO 52 (call (cF 23) [t 47,t 51]),cO 46 (cM 52),cO 53 (ext (t 46) 0),cO 54 (ext (t 46) 1),cO 7 (cM 53),cO 8 (cM 54)]).seq ((ops 0 [cO 56 (ldn 2 (t 4)),cO 57 (ldn 2 (t 1)),cO 58 (ldn 2 (t 3)),cO 59 (bldS 2 2 [AV.int IntKind.i64 (0),AV.int IntKind.i64 (0)] [(0,2,t 57),(2,2,t 58)]),cO 60 (call (cF 23) [t 56,t 59]),cO 55 (cM 60),cO 61 (ext (t 55) 0),cO 62 (ext (t 55) 1),cO 9 (cM 61),cO 10 (cM 62)]).seq ((ops 0 [cO 64 (ldn 2 (t 4)),cO 65 (call (cF 14) [t 64]),cO 63 (cM 65),cO 66 (ext (t 63) 0),cO 67 (ext (t 63) 1),cO 11 (cM 66),cO 12 (cM 67)]).seq ((ops 0 [cO 69 (ldn 2 (t 4)),cO 70 (ldn 1 (t 5)),cO 71 (ldn 1 (t 6)),cO 72 (call (cF 12) [t 69,t 70,t 71]),cO 68 (cM 72),cO 73 (ext (t 68) 0),cO 74 (ext (t 68) 1),cO 13 (cM 73),cO 14 (cM 74)]).seq (((ops 0 [cO 75 (cM 8),cO 76 (cM 10),cO 77 (cB .add (t 75) (t 76)),cO 78 (cM 12),cO 79 (cB .add (t 77) (t 78)),cO 80 (cM 14),cO 81 (cB .add (t 79) (t 80)),cO 82 (cB .neq (t 81) (cN 0)),cO 83 (cM 82),cG 84 83 false (cM 7),cG 85 83 false (ldn 2 (t 1)),cG 86 83 false (ldn 2 (t 2)),cG 87 83 false (bldS 2 2 [AV.int IntKind.i64 (0),AV.int IntKind.i64 (0)] [(0,2,t 85),(2,2,t 86)]),cG 88 83 false (call (cF 27) [t 84,t 87]),cG 89 83 false (un UnOp.not (t 88)),cO 90 (pick (t 83) aH (t 89)),cO 91 (cM 90),cG 92 91 false (cM 9),cG 93 91 false (ldn 2 (t 1)),cG 94 91 false (bldS 2 1 [AV.int IntKind.i64 (0),AV.int IntKind.i64 (0)] [(0,2,t 93)]),cG 95 91 false (call (cF 27) [t 92,t 94]),cG 96 91 false (un UnOp.not (t 95)),cO 97 (pick (t 91) aH (t 96)),cO 98 (cM 97),cG 99 98 false (cM 11),cO 100 (pick (t 98) aH (t 99)),cO 101 (cM 100),cG 102 101 false (cM 13),cG 103 101 false (un UnOp.not (t 102)),cO 104 (pick (t 101) aH (t 103))]).seq (C2.cond (t 104) ((ops 0 [cO 0 (mov ap)]).seq ret) skip)).seq ((ops 0 [cO 106 (ldn 2 (t 4)),cO 107 (ldn 1 (t 5)),cO 108 (ldn 1 (t 6)),cO 109 (call (cF 18) [t 106,t 107,t 108,cN ((1))]),cO 105 (cM 109),cO 110 (ext (t 105) 0),cO 111 (ext (t 105) 1),cO 15 (alloc (AV.agg [AV.int IntKind.i64 (0),AV.esl])),Op2.mk none none (Ins.st 2 (t 15) (t 110)),cO 8 (cM 111)]).seq ((ops 0 [cO 113 (ldn 2 (t 4)),cO 114 (ldn 1 (t 5)),cO 115 (ldn 1 (t 6)),cO 116 (call (cF 18) [t 113,t 114,t 115,cN ((0))]),cO 112 (cM 116),cO 117 (ext (t 112) 0),cO 118 (ext (t 112) 1),cO 16 (alloc (AV.agg [AV.int IntKind.i64 (0),AV.esl])),Op2.mk none none (Ins.st 2 (t 16) (t 117)),cO 10 (cM 118)]).seq ((ops 0 [cO 120 (ldn 2 (t 4)),cO 121 (ldn 2 (t 1)),cO 122 (ldn 2 (t 2)),cO 123 (bldS 2 2 [AV.int IntKind.i64 (0),AV.int IntKind.i64 (0)] [(0,2,t 121),(2,2,t 122)]),cO 124 (ldn 2 (t 2)),cO 125 (ldn 2 (t 1)),cO 126 (bldS 2 2 [AV.int IntKind.i64 (0),AV.int IntKind.i64 (0)] [(0,2,t 124),(2,2,t 125)]),cO 127 (bld [AV.esl,AV.esl] [(0,1,t 123),(1,1,t 126)]),cO 128 (call (cF 16) [t 120,t 127]),cO 119 (cM 128),cO 129 (ext (t 119) 0),cO 130 (ext (t 119) 1),cO 17 (alloc (AV.agg [AV.esl,AV.esl])),Op2.mk none none (Ins.st 2 (t 17) (t 129)),cO 12 (cM 130)]).seq ((ops 0 [cO 131 (cM 8),cO 132 (cM 10),cO 133 (cB .add (t 131) (t 132)),cO 134 (cM 12),cO 135 (cB .add (t 133) (t 134)),cO 136 (cB .eql (t 135) (cN 0)),cO 137 (cM 136),cG 138 137 true (ldn 2 (t 15)),cG 139 137 true (bldS 1 2 [AV.int IntKind.i64 (0)] [(0,1,cN ((0))),(1,1,cN ((2)))]),cG 140 137 true (bldS 1 1 [AV.esl] [(0,1,t 139)]),cG 141 137 true (bld [AV.int IntKind.i64 (0),AV.esl] [(0,1,cN ((3))),(1,1,t 140)]),cG 142 137 true (call (cF 21) [t 138,t 141]),cO 143 (pick (t 137) (t 142) ap),cO 144 (cM 143),cG 145 144 true (ldn 2 (t 16)),cG 146 144 true (bldS 1 2 [AV.int IntKind.i64 (0)] [(0,1,cN ((0))),(1,1,cN ((2)))]),cG 147 144 true (bldS 1 1 [AV.int IntKind.i64 (0)] [(0,1,cN ((1)))]),cG 148 144 true (bldS 1 2 [AV.esl] [(0,1,t 146),(1,1,t 147)]),cG 149 144 true (bld [AV.int IntKind.i64 (0),AV.esl] [(0,1,cN ((3))),(1,1,t 148)]),cG 150 144 true (call (cF 21) [t 145,t 149]),cO 151 (pick (t 144) (t 150) ap),cO 152 (cM 151),cG 153 152 true (fa 1 (t 17)),cG 154 152 true (cD 153),cG 155 152 true (ldn 2 (t 2)),cG 156 152 true (ldn 2 (t 1)),cG 157 152 true (ldn 2 (t 2)),cG 158 152 true (bldS 2 3 [AV.int IntKind.i64 (0),AV.int IntKind.i64 (0)] [(0,2,t 155),(2,2,t 156),(4,2,t 157)]),cG 159 152 true (call (cF 40) [t 154,t 158]),cO 160 (pick (t 152) (t 159) ap),cO 0 (cM 160)]).seq ret)))))))))))))))
theorem x2:Is Tryz.prog 11 b11:=Is.mk' Tryz.func11 (by kernel_rfl)
def b12:F2:=(F2.mk 50 [RV.t 6,RV.t 7] ((ops 0 [cO 3 (box (t 0)),cO 4 (box (t 1)),cO 5 (box (t 2)),cO 6 (mov ap),cO 7 (mov (cN 0))]).seq ((ops 0 [cO 17 (ldn 2 (t 3)),cO 18 (call (cF 41) [t 17]),cO 16 (cM 18),cO 19 (ext (t 16) 0),cO 20 (ext (t 16) 1),cO 8 (cM 19),cO 9 (cM 20)]).seq (((ops 0 [cO 21 (cM 9),cO 22 (cB .neq (t 21) (cN 0))]).seq (C2.cond (t 22) ((ops 0 [cO 23 (cM 9),cO 6 (mov ap),cO 7 (cM 23)]).seq ret) skip)).seq (((ops 0 [cO 24 (ldn 1 (t 4)),cO 25 (ldn 1 (t 5)),cO 26 (bldS 1 2 [AV.esl] [(0,1,t 24),(1,1,t 25)]),cO 27 (lenS (t 26)),cO 28 (mov (cN 0))]).seq (block 0 ((ops 0 [cO 29 (cB .lss (t 28) (t 27))]).seq ((C2.cond (t 29) skip (exit 0)).seq ((block 1 ((ops 0 [cO 30 (ixaS 1 (t 26) (t 28)),cO 31 (ldn 1 (t 30)),cO 11 (alloc (AV.agg [AV.esl])),Op2.mk none none (Ins.st 1 (t 11) (t 31))]).seq ((ops 0 [cO 32 (ldn 1 (t 11)),cO 33 (call (cF 29) [t 32]),cO 12 (cM 33)]).seq ((ops 0 [cO 34 (cM 12),cO 35 (cB .neq (t 34) (cN 0))]).seq (C2.cond (t 35) ((ops 0 [cO 36 (cM 12),cO 6 (mov ap),cO 7 (cM 36)]).seq ret) skip))))).seq (ops 0 [cO 37 (cB .add (t 28) (cN 1)),cO 28 (cM 37)])))).loop)).seq ((ops 0 [cO 39 (cM 8),cO 40 (ldn 1 (t 4)),cO 41 (call (cF 42) [t 39,t 40]),cO 38 (cM 41),cO 42 (ext (t 38) 0),cO 43 (ext (t 38) 1),cO 13 (cM 42),cO 14 (cM 43)]).seq (((ops 0 [cO 44 (cM 14),cO 45 (un UnOp.not (t 44))]).seq (C2.cond (t 45) ((ops 0 [cO 6 (mov ap),cO 7 (mov (cN 6))]).seq ret) skip)).seq ((ops 0 [cO 15 (alloc AV.nilf),Op2.mk none none (Ins.st 1 (t 15) (cF 43))]).seq ((ops 0 [cO 46 (cM 13),cO 47 (mkfn 48 [t 5,t 15]),cO 48 (call (cF 47) [t 46,t 47]),cO 49 (un UnOp.not (t 48)),cO 6 (cM 49),cO 7 (mov (cN 0))]).seq ret)))))))))
theorem wK:Is Tryz.prog 12 b12:=Is.mk' Tryz.func12 (by kernel_rfl)
def b13:F2:=(F2.mk 49 [RV.t 6,RV.t 7] ((ops 0 [cO 3 (box (t 0)),cO 4 (box (t 1)),cO 5 (box (t 2)),cO 6 (mov ap),cO 7 (mov (cN 0))]).seq (((ops 0 [cO 13 (ldn 2 (t 3)),cO 14 (call (cF 50) [t 13]),cO 8 (cM 14)]).seq ((ops 0 [cO 15 (cM 8),cO 16 (cB .neq (t 15) (cN 0))]).seq (C2.cond (t 16) ((ops 0 [cO 17 (cM 8),cO 6 (mov ap),cO 7 (cM 17)]).seq ret) skip))).seq (((ops 0 [cO 18 (ldn 1 (t 4)),cO 19 (call (cF 51) [t 18]),cO 9 (cM 19)]).seq ((ops 0 [cO 20 (cM 9),cO 21 (cB .neq (t 20) (cN 0))]).seq (C2.cond (t 21) ((ops 0 [cO 22 (cM 9),cO 6 (mov ap),cO 7 (cM 22)]).seq ret) skip))).seq (((ops 0 [cO 23 (ldn 1 (t 5)),cO 24 (call (cF 51) [t 23]),cO 10 (cM 24)]).seq ((ops 0 [cO 25 (cM 10),cO 26 (cB .neq (t 25) (cN 0))]).seq (C2.cond (t 26) ((ops 0 [cO 27 (cM 10),cO 6 (mov ap),cO 7 (cM 27)]).seq ret) skip))).seq (((mixS 1 [cO 28 (ldn 2 (t 3)),cO 29 (ldn 1 (t 4)),cO 30 (call (cF 53) [t 29]),cO 31 (call (cF 52) [t 28,t 30]),cO 32 (un UnOp.not (t 31))] [(0,0),(1,0),(2,1),(3,2),(4,0)]).seq (C2.cond (t 32) ((ops 0 [cO 6 (mov ap),cO 7 (mov (cN 6))]).seq ret) skip)).seq ((ops 0 [cO 33 (ldn 2 (t 3)),cO 34 (ldn 1 (t 4)),cO 35 (call (cF 54) [t 33,t 34]),cO 11 (cM 35)]).seq (((ops 0 [cO 12 (mov (cN 0))]).seq (block 0 (((ops 0 [cO 36 (cM 12),cO 37 (cM 11),cO 38 (lenS (t 37)),cO 39 (cB .lss (t 36) (t 38))]).seq (C2.cond (t 39) skip (exit 0))).seq ((block 1 ((mixS 1 [cO 42 (ldn 1 (t 5)),cO 43 (cM 11),cO 44 (cM 12),cO 45 (ixaS 1 (t 43) (t 44)),cO 46 (cD 45),cO 47 (call (cF 55) [t 42,t 46]),cO 48 (un UnOp.not (t 47))] [(0,0),(1,0),(2,0),(3,0),(4,0),(5,2),(6,0)]).seq (C2.cond (t 48) ((ops 0 [cO 6 (mov ap),cO 7 (mov (cN 0))]).seq ret) skip))).seq (ops 0 [cO 40 (cM 12),cO 41 (cB .add (t 40) (cN 1)),cO 12 (cM 41)]))).loop)).seq ((ops 0 [cO 6 (mov aH),cO 7 (mov (cN 0))]).seq ret)))))))))
theorem xY:Is Tryz.prog 13 b13:=Is.mk' Tryz.func13 (by kernel_rfl)
def b14:F2:=(F2.mk 30 [RV.t 2,RV.t 3] ((ops 0 [cO 1 (box (t 0)),cO 2 (mov ap),cO 3 (mov (cN 0))]).seq (((ops 0 [cO 7 (ldn 2 (t 1)),cO 8 (call (cF 34) [t 7]),cO 4 (cM 8)]).seq ((ops 0 [cO 9 (cM 4),cO 10 (cB .neq (t 9) (cN 0))]).seq (C2.cond (t 10) ((ops 0 [cO 11 (cM 4),cO 2 (mov ap),cO 3 (cM 11)]).seq ret) skip))).seq (((ops 0 [cO 12 (fa 0 (t 1)),cO 13 (cD 12),cO 14 (lenS (t 13)),cO 15 (mov (cN 0))]).seq (block 0 ((ops 0 [cO 16 (cB .lss (t 15) (t 14))]).seq ((C2.cond (t 16) skip (exit 0)).seq ((block 1 ((ops 0 [cO 17 (cM 15),cO 18 (ixaS 2 (t 13) (t 15)),cO 19 (ldn 2 (t 18)),cO 6 (alloc (AV.agg [AV.int IntKind.i64 (0),AV.int IntKind.i64 (0)])),cO 5 (cM 17),Op2.mk none none (Ins.st 2 (t 6) (t 19))]).seq ((ops 1 [cO 20 (fa 1 (t 1)),cO 21 (cD 20),cO 22 (cM 5),cO 23 (ixaS 2 (t 21) (t 22)),cO 24 (fa 0 (t 23)),cO 25 (cD 24),cO 26 (fa 0 (t 6)),cO 27 (cD 26),cO 28 (cB .neq (t 25) (t 27))]).seq (C2.cond (t 28) ((ops 0 [cO 2 (mov ap),cO 3 (mov (cN 0))]).seq ret) skip)))).seq (ops 0 [cO 29 (cB .add (t 15) (cN 1)),cO 15 (cM 29)])))).loop)).seq ((ops 0 [cO 2 (mov aH),cO 3 (mov (cN 0))]).seq ret)))))
theorem wr:Is Tryz.prog 14 b14:=Is.mk' Tryz.func14 (by kernel_rfl)
def b15:F2:=(F2.mk 31 [RV.t 2,RV.t 3] ((ops 0 [cO 1 (box (t 0)),cO 2 (mov ap),cO 3 (mov (cN 0))]).seq (((ops 0 [cO 6 (ldn 2 (t 1)),cO 7 (call (cF 50) [t 6]),cO 4 (cM 7)]).seq ((ops 0 [cO 8 (cM 4),cO 9 (cB .neq (t 8) (cN 0))]).seq (C2.cond (t 9) ((ops 0 [cO 10 (cM 4),cO 2 (mov ap),cO 3 (cM 10)]).seq ret) skip))).seq (((ops 0 [cO 5 (mov (cN 0))]).seq (block 0 (((ops 0 [cO 11 (cM 5),cO 12 (fa 0 (t 1)),cO 13 (cD 12),cO 14 (lenS (t 13)),cO 15 (cB .lss (t 11) (t 14))]).seq (C2.cond (t 15) skip (exit 0))).seq ((block 1 ((ops 1 [cO 18 (fa 0 (t 1)),cO 19 (cD 18),cO 20 (cM 5),cO 21 (ixaS 2 (t 19) (t 20)),cO 22 (fa 0 (t 21)),cO 23 (cD 22),cO 24 (fa 1 (t 1)),cO 25 (cD 24),cO 26 (cM 5),cO 27 (ixaS 2 (t 25) (t 26)),cO 28 (fa 0 (t 27)),cO 29 (cD 28),cO 30 (cB .neq (t 23) (t 29))]).seq (C2.cond (t 30) ((ops 0 [cO 2 (mov ap),cO 3 (mov (cN 0))]).seq ret) skip))).seq (ops 0 [cO 16 (cM 5),cO 17 (cB .add (t 16) (cN 1)),cO 5 (cM 17)]))).loop)).seq ((ops 0 [cO 2 (mov aH),cO 3 (mov (cN 0))]).seq ret)))))
theorem ye:Is Tryz.prog 15 b15:=Is.mk' Tryz.func15 (by kernel_rfl)
def b16:F2:=(F2.mk 57 [RV.cn 4 2,RV.t 5] ((ops 0 [cO 2 (box (t 0)),cO 3 (box (t 1)),cO 4 (alloc (AV.agg [AV.esl,AV.esl])),cO 5 (mov (cN 0))]).seq (((ops 0 [cO 14 (ldn 2 (t 2)),cO 15 (call (cF 34) [t 14]),cO 6 (cM 15)]).seq ((ops 0 [cO 16 (cM 6),cO 17 (cB .neq (t 16) (cN 0))]).seq (C2.cond (t 17) ((ops 0 [cO 18 (bld [AV.esl,AV.esl] []),cO 19 (cM 6),Op2.mk none none (Ins.st 2 (t 4) (t 18)),cO 5 (cM 19)]).seq ret) skip))).seq ((ops 0 [cO 21 (ldn 2 (t 3)),cO 22 (call (cF 41) [t 21]),cO 20 (cM 22),cO 23 (ext (t 20) 0),cO 24 (ext (t 20) 1),cO 7 (cM 23),cO 8 (cM 24)]).seq (((ops 0 [cO 25 (cM 8),cO 26 (cB .neq (t 25) (cN 0))]).seq (C2.cond (t 26) ((ops 0 [cO 27 (bld [AV.esl,AV.esl] []),cO 28 (cM 8),Op2.mk none none (Ins.st 2 (t 4) (t 27)),cO 5 (cM 28)]).seq ret) skip)).seq ((ops 0 [cO 29 (fa 0 (t 2)),cO 30 (cD 29),cO 31 (call (cF 31) [t 30]),cO 32 (bld [AV.esl,AV.esl] [(0,1,t 31)]),cO 9 (alloc (AV.agg [AV.esl,AV.esl])),Op2.mk none none (Ins.st 2 (t 9) (t 32))]).seq (((ops 0 [cO 33 (fa 1 (t 2)),cO 34 (cD 33),cO 35 (lenS (t 34)),cO 36 (mov (cN 0))]).seq (block 0 ((ops 0 [cO 37 (cB .lss (t 36) (t 35))]).seq ((C2.cond (t 37) skip (exit 0)).seq ((block 1 ((ops 0 [cO 38 (ixaS 2 (t 34) (t 36)),cO 39 (ldn 2 (t 38)),cO 11 (alloc (AV.agg [AV.int IntKind.i64 (0),AV.int IntKind.i64 (0)])),Op2.mk none none (Ins.st 2 (t 11) (t 39))]).seq ((ops 0 [cO 41 (cM 7),cO 42 (ldn 2 (t 11)),cO 43 (Ins.mget (MK.st [int,int]) (AV.agg [AV.int IntKind.i64 (0),AV.int IntKind.i64 (0)]) true (t 41) (t 42)),cO 40 (cM 43),cO 44 (ext (t 40) 0),cO 45 (ext (t 40) 1),cO 12 (alloc (AV.agg [AV.int IntKind.i64 (0),AV.int IntKind.i64 (0)])),Op2.mk none none (Ins.st 2 (t 12) (t 44)),cO 13 (cM 45)]).seq (((ops 0 [cO 46 (cM 13),cO 47 (un UnOp.not (t 46))]).seq (C2.cond (t 47) ((ops 0 [cO 48 (bld [AV.esl,AV.esl] []),Op2.mk none none (Ins.st 2 (t 4) (t 48)),cO 5 (mov (cN 6))]).seq ret) skip)).seq (ops 0 [cO 49 (fa 1 (t 9)),cO 50 (cD 49),cO 51 (ldn 2 (t 12)),cO 52 (bldS 2 1 [AV.int IntKind.i64 (0),AV.int IntKind.i64 (0)] [(0,2,t 51)]),cO 53 (app 2 16 (t 50) (t 52)),cO 54 (fa 1 (t 9)),Op2.mk none none (Ins.st 1 (t 54) (t 53))]))))).seq (ops 0 [cO 55 (cB .add (t 36) (cN 1)),cO 36 (cM 55)])))).loop)).seq ((ops 0 [cO 56 (ldn 2 (t 9)),Op2.mk none none (Ins.st 2 (t 4) (t 56)),cO 5 (mov (cN 0))]).seq ret))))))))
theorem yx:Is Tryz.prog 16 b16:=Is.mk' Tryz.func16 (by kernel_rfl)
def b18:F2:=(F2.mk 114 [RV.cn 8 2,RV.t 9] ((ops 0 [cO 4 (box (t 0)),cO 5 (box (t 1)),cO 6 (box (t 2)),cO 8 (alloc (AV.agg [AV.int IntKind.i64 (0),AV.esl])),cO 9 (mov (cN 0))]).seq ((ops 0 [cO 24 (ldn 2 (t 4)),cO 25 (ldn 1 (t 5)),cO 26 (ldn 1 (t 6)),cO 27 (call (cF 12) [t 24,t 25,t 26]),cO 23 (cM 27),cO 28 (ext (t 23) 0),cO 29 (ext (t 23) 1),cO 10 (cM 28),cO 11 (cM 29)]).seq ((block 0 ((ops 0 [cO 31 (cM 11),cO 32 (cB .neq (t 31) (cN 0)),cO 30 (cM 32)]).seq (C2.cond (t 30) ((ops 0 [cO 33 (bld [AV.int IntKind.i64 (0),AV.esl] []),cO 34 (cM 11),Op2.mk none none (Ins.st 2 (t 8) (t 33)),cO 9 (cM 34)]).seq ret) ((ops 0 [cO 36 (cM 10),cO 37 (un UnOp.not (t 36)),cO 35 (cM 37)]).seq (C2.cond (t 35) ((ops 0 [cO 38 (bld [AV.int IntKind.i64 (0),AV.esl] []),Op2.mk none none (Ins.st 2 (t 8) (t 38)),cO 9 (mov (cN 22))]).seq ret) ((ops 0 [cO 40 (cM 3),cO 41 (cB .lss (t 40) (cN 0)),cO 42 (cM 41),cG 43 42 false (cM 3),cG 44 42 false (cB .geq (t 43) (cN 8)),cO 45 (pick (t 42) aH (t 44)),cO 39 (cM 45)]).seq (C2.cond (t 39) ((ops 0 [cO 46 (bld [AV.int IntKind.i64 (0),AV.esl] []),Op2.mk none none (Ins.st 2 (t 8) (t 46)),cO 9 (mov (cN 2))]).seq ret) skip))))))).seq ((ops 0 [cO 48 (ldn 1 (t 5)),cO 49 (cM 3),cO 50 (cB .add (t 49) (cN 1)),cO 51 (call (cF 32) [t 48,t 50]),cO 47 (cM 51),cO 52 (ext (t 47) 0),cO 53 (ext (t 47) 1),cO 12 (cM 52),cO 11 (cM 53)]).seq (((ops 0 [cO 54 (cM 11),cO 55 (cB .neq (t 54) (cN 0))]).seq (C2.cond (t 55) ((ops 0 [cO 56 (bld [AV.int IntKind.i64 (0),AV.esl] []),cO 57 (cM 11),Op2.mk none none (Ins.st 2 (t 8) (t 56)),cO 9 (cM 57)]).seq ret) skip)).seq ((ops 0 [cO 59 (ldn 1 (t 6)),cO 60 (cM 3),cO 61 (cB .add (t 60) (cN 1)),cO 62 (call (cF 32) [t 59,t 61]),cO 58 (cM 62),cO 63 (ext (t 58) 0),cO 64 (ext (t 58) 1),cO 13 (cM 63),cO 11 (cM 64)]).seq (((ops 0 [cO 65 (cM 11),cO 66 (cB .neq (t 65) (cN 0))]).seq (C2.cond (t 66) ((ops 0 [cO 67 (bld [AV.int IntKind.i64 (0),AV.esl] []),cO 68 (cM 11),Op2.mk none none (Ins.st 2 (t 8) (t 67)),cO 9 (cM 68)]).seq ret) skip)).seq ((ops 0 [cO 70 (ldn 2 (t 4)),cO 71 (call (cF 41) [t 70]),cO 69 (cM 71),cO 72 (ext (t 69) 0),cO 73 (ext (t 69) 1),cO 14 (cM 72),cO 15 (cM 73)]).seq ((ops 0 [cO 74 (cM 12),cO 75 (lenS (t 74)),cO 76 (cM 13),cO 77 (lenS (t 76)),cO 78 (mks 1 24 [AV.esl] (t 77) (t 77)),cO 79 (bld [AV.int IntKind.i64 (0),AV.esl] [(0,1,t 75),(1,1,t 78)]),cO 16 (alloc (AV.agg [AV.int IntKind.i64 (0),AV.esl])),Op2.mk none none (Ins.st 2 (t 16) (t 79))]).seq (((ops 0 [cO 80 (cM 12),cO 81 (lenS (t 80)),cO 82 (mov (cN 0))]).seq (block 1 ((ops 0 [cO 83 (cB .lss (t 82) (t 81))]).seq ((C2.cond (t 83) skip (exit 1)).seq ((block 2 ((ops 0 [cO 84 (cM 82),cO 85 (ixaS 1 (t 80) (t 82)),cO 86 (cD 85),cO 17 (cM 84),cO 18 (cM 86)]).seq ((ops 0 [cO 88 (cM 14),cO 89 (cM 18),cO 90 (call (cF 57) [t 88,t 89]),cO 87 (cM 90),cO 91 (ext (t 87) 0),cO 92 (ext (t 87) 1),cO 19 (cM 91),cO 20 (cM 92)]).seq ((ops 0 [cO 94 (cM 13),cO 95 (cM 19),cO 96 (call (cF 58) [t 94,t 95,c (AV.func 59 [])]),cO 93 (cM 96),cO 97 (ext (t 93) 0),cO 98 (ext (t 93) 1),cO 21 (cM 97),cO 22 (cM 98)]).seq ((ops 0 [cO 99 (cM 22)]).seq (C2.cond (t 99) (mixS 2 [cO 100 (fa 1 (t 16)),cO 101 (cD 100),cO 102 (cM 21),cO 103 (fa 1 (t 16)),cO 104 (cD 103),cO 105 (cM 21),cO 106 (ixaS 1 (t 104) (t 105)),cO 107 (cD 106),cO 108 (cM 17),cO 109 (bldS 1 1 [AV.int IntKind.i64 (0)] [(0,1,t 108)]),cO 110 (app 1 8 (t 107) (t 109)),cO 111 (ixaS 1 (t 101) (t 102)),Op2.mk none none (Ins.st 1 (t 111) (t 110))] [(0,0),(1,0),(2,0),(3,0),(4,0),(5,0),(6,0),(7,0),(8,0),(9,1),(10,1),(11,0),(12,2)]) skip)))))).seq (ops 0 [cO 112 (cB .add (t 82) (cN 1)),cO 82 (cM 112)])))).loop)).seq ((ops 0 [cO 113 (ldn 2 (t 16)),Op2.mk none none (Ins.st 2 (t 8) (t 113)),cO 9 (mov (cN 0))]).seq ret))))))))))))
theorem yt:Is Tryz.prog 18 b18:=Is.mk' Tryz.func18 (by kernel_rfl)
def b21:F2:=(F2.mk 39 [RV.t 4] ((ops 0 [cO 2 (box (t 0)),cO 3 (box (t 1)),cO 4 (mov ap)]).seq (((ops 0 [cO 6 (fa 0 (t 2)),cO 7 (cD 6),cO 8 (fa 0 (t 3)),cO 9 (cD 8),cO 10 (cB .neq (t 7) (t 9)),cO 11 (cM 10),cG 12 11 false (fa 1 (t 2)),cG 13 11 false (cD 12),cG 14 11 false (lenS (t 13)),cG 15 11 false (fa 1 (t 3)),cG 16 11 false (cD 15),cG 17 11 false (lenS (t 16)),cG 18 11 false (cB .neq (t 14) (t 17)),cO 19 (pick (t 11) aH (t 18))]).seq (C2.cond (t 19) ((ops 0 [cO 4 (mov ap)]).seq ret) skip)).seq (((ops 0 [cO 5 (mov (cN 0))]).seq (block 0 (((ops 0 [cO 20 (cM 5),cO 21 (fa 1 (t 2)),cO 22 (cD 21),cO 23 (lenS (t 22)),cO 24 (cB .lss (t 20) (t 23))]).seq (C2.cond (t 24) skip (exit 0))).seq ((block 1 ((mixS 1 [cO 27 (fa 1 (t 2)),cO 28 (cD 27),cO 29 (cM 5),cO 30 (ixaS 1 (t 28) (t 29)),cO 31 (cD 30),cO 32 (fa 1 (t 3)),cO 33 (cD 32),cO 34 (cM 5),cO 35 (ixaS 1 (t 33) (t 34)),cO 36 (cD 35),cO 37 (call (cF 63) [t 31,t 36]),cO 38 (un UnOp.not (t 37))] [(0,0),(1,0),(2,0),(3,0),(4,0),(5,0),(6,0),(7,0),(8,0),(9,0),(10,2),(11,0)]).seq (C2.cond (t 38) ((ops 0 [cO 4 (mov ap)]).seq ret) skip))).seq (ops 0 [cO 25 (cM 5),cO 26 (cB .add (t 25) (cN 1)),cO 5 (cM 26)]))).loop)).seq ((ops 0 [cO 4 (mov aH)]).seq ret)))))
theorem yc:Is Tryz.prog 21 b21:=Is.mk' Tryz.func21 (by kernel_rfl)
def b22:F2:=(F2.mk 6 [RV.t 2] ((ops 0 [cO 2 (mov ap)]).seq ((ops 0 [cO 3 (cM 0),cO 4 (lenS (t 3)),cO 5 (cB .leq (t 4) (cN 10)),cO 2 (cM 5)]).seq ret)))
theorem x9:Is Tryz.prog 22 b22:=Is.mk' Tryz.func22 (by kernel_rfl)
def b23:F2:=(F2.mk 33 [RV.t 4,RV.t 5] ((ops 0 [cO 2 (box (t 0)),cO 4 (mov (c AV.esl)),cO 5 (mov (cN 0))]).seq ((ops 0 [cO 12 (ldn 2 (t 2)),cO 13 (call (cF 41) [t 12]),cO 11 (cM 13),cO 14 (ext (t 11) 0),cO 15 (ext (t 11) 1),cO 6 (cM 14),cO 7 (cM 15)]).seq (((ops 0 [cO 16 (cM 7),cO 17 (cB .neq (t 16) (cN 0))]).seq (C2.cond (t 17) ((ops 0 [cO 18 (cM 7),cO 4 (mov (c AV.esl)),cO 5 (cM 18)]).seq ret) skip)).seq (((ops 0 [cO 19 (cM 1),cO 20 (call (cF 64) [t 19]),cO 8 (cM 20)]).seq ((ops 0 [cO 21 (cM 8),cO 22 (cB .neq (t 21) (cN 0))]).seq (C2.cond (t 22) ((ops 0 [cO 23 (cM 8),cO 4 (mov (c AV.esl)),cO 5 (cM 23)]).seq ret) skip))).seq ((ops 0 [cO 25 (cM 6),cO 26 (cM 1),cO 27 (call (cF 57) [t 25,t 26]),cO 24 (cM 27),cO 28 (ext (t 24) 0),cO 29 (ext (t 24) 1),cO 9 (cM 28),cO 10 (cM 29)]).seq (((ops 0 [cO 30 (cM 10),cO 31 (un UnOp.not (t 30))]).seq (C2.cond (t 31) ((ops 0 [cO 4 (mov (c AV.esl)),cO 5 (mov (cN 6))]).seq ret) skip)).seq ((ops 0 [cO 32 (cM 9),cO 4 (cM 32),cO 5 (mov (cN 0))]).seq ret))))))))
theorem yo:Is Tryz.prog 23 b23:=Is.mk' Tryz.func23 (by kernel_rfl)
def b27:F2:=(F2.mk 9 [RV.t 4] ((ops 0 [cO 4 (mov ap)]).seq ((ops 0 [cO 5 (cM 0),cO 6 (cM 1),cO 7 (call (cF 62) [t 5,t 6]),cO 8 (cB .eql (t 7) (cN 0)),cO 4 (cM 8)]).seq ret)))
theorem yj:Is Tryz.prog 27 b27:=Is.mk' Tryz.func27 (by kernel_rfl)
def b29:F2:=(F2.mk 60 [RV.t 2] ((ops 0 [cO 1 (box (t 0)),cO 2 (mov (cN 0))]).seq (((ops 0 [cO 9 (fa 0 (t 1)),cO 10 (cD 9),cO 11 (lenS (t 10)),cO 12 (cB .gtr (t 11) (cN 4096))]).seq (C2.cond (t 12) ((ops 0 [cO 2 (mov (cN 5))]).seq ret) skip)).seq (((ops 0 [cO 13 (fa 0 (t 1)),cO 14 (cD 13),cO 15 (lenS (t 14)),cO 16 (mov (cN 0))]).seq (block 0 ((ops 0 [cO 17 (cB .lss (t 16) (t 15))]).seq ((C2.cond (t 17) skip (exit 0)).seq ((block 1 ((ops 0 [cO 18 (cM 16),cO 19 (ixaS 1 (t 14) (t 16)),cO 20 (cD 19),cO 3 (cM 18),cO 4 (cM 20)]).seq (((ops 0 [cO 21 (cM 4),cO 22 (call (cF 64) [t 21]),cO 5 (cM 22)]).seq ((ops 0 [cO 23 (cM 5),cO 24 (cB .neq (t 23) (cN 0))]).seq (C2.cond (t 24) ((ops 0 [cO 25 (cM 5),cO 2 (cM 25)]).seq ret) skip))).seq ((ops 0 [cO 26 (cM 3),cO 27 (cB .gtr (t 26) (cN 0)),cO 28 (cM 27),cG 29 28 true (fa 0 (t 1)),cG 30 28 true (cD 29),cG 31 28 true (cM 3),cG 32 28 true (cB .sub (t 31) (cN 1)),cG 33 28 true (ixaS 1 (t 30) (t 32)),cG 34 28 true (cD 33),cG 35 28 true (cM 4),cG 36 28 true (call (cF 59) [t 34,t 35]),cG 37 28 true (cB .geq (t 36) (cN 0)),cO 38 (pick (t 28) (t 37) ap)]).seq (C2.cond (t 38) ((ops 0 [cO 2 (mov (cN 14))]).seq ret) skip))))).seq (ops 0 [cO 39 (cB .add (t 16) (cN 1)),cO 16 (cM 39)])))).loop)).seq ((ops 0 [cO 40 (fa 0 (t 1)),cO 41 (cD 40),cO 42 (call (cF 69) [t 41]),cO 6 (cM 42)]).seq (((ops 0 [cO 43 (fa 0 (t 1)),cO 44 (cD 43),cO 45 (lenS (t 44)),cO 46 (mov (cN 0))]).seq (block 2 ((ops 0 [cO 47 (cB .lss (t 46) (t 45))]).seq ((C2.cond (t 47) skip (exit 2)).seq ((block 3 ((ops 0 [cO 48 (ixaS 1 (t 44) (t 46)),cO 49 (cD 48),cO 8 (cM 49)]).seq ((mixS 9 [cO 50 (fa 0 (t 1)),cO 51 (cD 50),cO 52 (cM 6),cO 53 (cM 8),cO 54 (ixaS 2 (t 53) (cN 0)),cO 55 (ldn 2 (t 54)),cO 56 (Ins.mget (MK.st [int,int]) AV.esl false (t 52) (t 55)),cO 57 (cM 8),cO 58 (call (cF 70) [t 51,t 56,t 57])] [(0,0),(1,0),(2,0),(3,0),(4,0),(5,0),(7,0),(6,1),(8,2)]).seq (C2.cond (t 58) ((ops 0 [cO 2 (mov (cN 7))]).seq ret) skip)))).seq (ops 0 [cO 59 (cB .add (t 46) (cN 1)),cO 46 (cM 59)])))).loop)).seq ((ops 0 [cO 2 (mov (cN 0))]).seq ret)))))))
theorem xg:Is Tryz.prog 29 b29:=Is.mk' Tryz.func29 (by kernel_rfl)
def b31:F2:=(F2.mk 8 [RV.t 2] ((ops 0 [cO 2 (mov (c AV.esl))]).seq (((ops 0 [cO 3 (cM 0),cO 4 (snil false (t 3))]).seq (C2.cond (t 4) ((ops 0 [cO 2 (mov (c AV.esl))]).seq ret) skip)).seq ((ops 0 [cO 5 (bldS 2 0 [AV.int IntKind.i64 (0),AV.int IntKind.i64 (0)] []),cO 6 (cM 0),cO 7 (app 2 16 (t 5) (t 6)),cO 2 (cM 7)]).seq ret))))
theorem yf:Is Tryz.prog 31 b31:=Is.mk' Tryz.func31 (by kernel_rfl)
def b32:F2:=(F2.mk 24 [RV.t 4,RV.t 5] ((ops 0 [cO 2 (box (t 0)),cO 4 (mov (c AV.esl)),cO 5 (mov (cN 0))]).seq (((ops 0 [cO 7 (ldn 1 (t 2)),cO 8 (call (cF 29) [t 7]),cO 6 (cM 8)]).seq ((ops 0 [cO 9 (cM 6),cO 10 (cB .neq (t 9) (cN 0))]).seq (C2.cond (t 10) ((ops 0 [cO 11 (cM 6),cO 4 (mov (c AV.esl)),cO 5 (cM 11)]).seq ret) skip))).seq (((ops 0 [cO 12 (cM 1),cO 13 (cB .lss (t 12) (cN 1)),cO 14 (cM 13),cG 15 14 false (cM 1),cG 16 14 false (cB .gtr (t 15) (cN 8)),cO 17 (pick (t 14) aH (t 16))]).seq (C2.cond (t 17) ((ops 0 [cO 4 (mov (c AV.esl)),cO 5 (mov (cN 2))]).seq ret) skip)).seq ((ops 0 [cO 18 (fa 0 (t 2)),cO 19 (cD 18),cO 20 (cM 1),cO 21 (call (cF 72) [t 19,t 20]),cO 22 (ext (t 21) 0),cO 23 (ext (t 21) 1),cO 4 (cM 22),cO 5 (cM 23)]).seq ret)))))
theorem yd:Is Tryz.prog 32 b32:=Is.mk' Tryz.func32 (by kernel_rfl)
def b34:F2:=(F2.mk 54 [RV.t 2] ((ops 0 [cO 1 (box (t 0)),cO 2 (mov (cN 0))]).seq ((block 0 ((ops 0 [cO 6 (fa 0 (t 1)),cO 7 (cD 6),cO 8 (lenS (t 7)),cO 9 (cB .gtr (t 8) (cN 4096)),cO 5 (cM 9)]).seq (C2.cond (t 5) ((ops 0 [cO 2 (mov (cN 5))]).seq ret) ((ops 0 [cO 11 (fa 1 (t 1)),cO 12 (cD 11),cO 13 (lenS (t 12)),cO 14 (fa 0 (t 1)),cO 15 (cD 14),cO 16 (lenS (t 15)),cO 17 (cB .neq (t 13) (t 16)),cO 10 (cM 17)]).seq (C2.cond (t 10) ((ops 0 [cO 2 (mov (cN 15))]).seq ret) skip))))).seq (((ops 0 [cO 18 (fa 0 (t 1)),cO 19 (cD 18),cO 20 (lenS (t 19)),cO 21 (mov (cN 0))]).seq (block 1 ((ops 0 [cO 22 (cB .lss (t 21) (t 20))]).seq ((C2.cond (t 22) skip (exit 1)).seq ((block 2 ((ops 0 [cO 23 (cM 21),cO 24 (ixaS 2 (t 19) (t 21)),cO 25 (ldn 2 (t 24)),cO 4 (alloc (AV.agg [AV.int IntKind.i64 (0),AV.int IntKind.i64 (0)])),cO 3 (cM 23),Op2.mk none none (Ins.st 2 (t 4) (t 25))]).seq (block 3 ((ops 0 [cO 27 (ldn 2 (t 4)),cO 28 (call (cF 73) [t 27]),cO 29 (un UnOp.not (t 28)),cO 30 (cM 29),cG 31 30 false (fa 1 (t 1)),cG 32 30 false (cD 31),cG 33 30 false (cM 3),cG 34 30 false (ixaS 2 (t 32) (t 33)),cG 35 30 false (ldn 2 (t 34)),cG 36 30 false (call (cF 73) [t 35]),cG 37 30 false (un UnOp.not (t 36)),cO 38 (pick (t 30) aH (t 37)),cO 26 (cM 38)]).seq (C2.cond (t 26) ((ops 0 [cO 2 (mov (cN 2))]).seq ret) ((mixS 1 [cO 40 (cM 3),cO 41 (cB .gtr (t 40) (cN 0)),cO 42 (cM 41),cG 43 42 true (fa 0 (t 1)),cG 44 42 true (cD 43),cG 45 42 true (cM 3),cG 46 42 true (cB .sub (t 45) (cN 1)),cG 47 42 true (ixaS 2 (t 44) (t 46)),cG 48 42 true (ldn 2 (t 47)),cG 49 42 true (ldn 2 (t 4)),cG 50 42 true (call (cF 74) [t 48,t 49]),cG 51 42 true (cB .geq (t 50) (cN 0)),cO 52 (pick (t 42) (t 51) ap),cO 39 (cM 52)] [(0,0),(1,0),(2,0),(3,0),(4,0),(5,0),(6,0),(7,0),(8,0),(9,0),(10,2),(11,0),(12,0),(13,0)]).seq (C2.cond (t 39) ((ops 0 [cO 2 (mov (cN 14))]).seq ret) skip))))))).seq (ops 0 [cO 53 (cB .add (t 21) (cN 1)),cO 21 (cM 53)])))).loop)).seq ((ops 0 [cO 2 (mov (cN 0))]).seq ret)))))
theorem xu:Is Tryz.prog 34 b34:=Is.mk' Tryz.func34 (by kernel_rfl)
def b35:F2:=(F2.mk 24 [RV.t 4,RV.t 5] ((ops 0 [cO 4 (mov (c AV.esl)),cO 5 (mov (cN 0))]).seq (((ops 0 [cO 7 (cM 0),cO 8 (call (cF 64) [t 7]),cO 6 (cM 8)]).seq ((ops 0 [cO 9 (cM 6),cO 10 (cB .neq (t 9) (cN 0))]).seq (C2.cond (t 10) ((ops 0 [cO 11 (cM 6),cO 4 (mov (c AV.esl)),cO 5 (cM 11)]).seq ret) skip))).seq (((ops 0 [cO 12 (cM 1),cO 13 (cB .lss (t 12) (cN 1)),cO 14 (cM 13),cG 15 14 false (cM 1),cG 16 14 false (cM 0),cG 17 14 false (lenS (t 16)),cG 18 14 false (cB .gtr (t 15) (t 17)),cO 19 (pick (t 14) aH (t 18))]).seq (C2.cond (t 19) ((ops 0 [cO 4 (mov (c AV.esl)),cO 5 (mov (cN 2))]).seq ret) skip)).seq ((ops 0 [cO 20 (cM 0),cO 21 (cM 1),cO 22 (call (cF 76) [t 20,t 21]),cO 23 (call (cF 75) [t 22]),cO 4 (cM 23),cO 5 (mov (cN 0))]).seq ret)))))
theorem x1:Is Tryz.prog 35 b35:=Is.mk' Tryz.func35 (by kernel_rfl)
def b39:F2:=(F2.mk 19 [RV.t 2] ((ops 0 [cO 2 (mov ap)]).seq (((ops 0 [cO 4 (cM 0),cO 5 (lenS (t 4)),cO 6 (cB .gtr (t 5) (cN 30))]).seq (C2.cond (t 6) ((ops 0 [cO 2 (mov ap)]).seq ret) skip)).seq (((ops 0 [cO 3 (mov (cN 0))]).seq (block 0 (((ops 0 [cO 7 (cM 3),cO 8 (cM 0),cO 9 (lenS (t 8)),cO 10 (cB .lss (t 7) (t 9))]).seq (C2.cond (t 10) skip (exit 0))).seq ((block 1 ((ops 0 [cO 13 (cM 0),cO 14 (cM 3),cO 15 (ixaS 1 (t 13) (t 14)),cO 16 (cD 15),cO 17 (call (cF 22) [t 16]),cO 18 (un UnOp.not (t 17))]).seq (C2.cond (t 18) ((ops 0 [cO 2 (mov ap)]).seq ret) skip))).seq (ops 0 [cO 11 (cM 3),cO 12 (cB .add (t 11) (cN 1)),cO 3 (cM 12)]))).loop)).seq ((ops 0 [cO 2 (mov aH)]).seq ret)))))
theorem x6:Is Tryz.prog 39 b39:=Is.mk' Tryz.func39 (by kernel_rfl)
def b40:F2:=(F2.mk 26 [RV.t 4] ((ops 0 [cO 4 (mov ap)]).seq (((ops 0 [cO 6 (cM 0),cO 7 (lenS (t 6)),cO 8 (cM 1),cO 9 (lenS (t 8)),cO 10 (cB .neq (t 7) (t 9))]).seq (C2.cond (t 10) ((ops 0 [cO 4 (mov ap)]).seq ret) skip)).seq (((ops 0 [cO 11 (cM 0),cO 12 (lenS (t 11)),cO 13 (mov (cN 0))]).seq (block 0 ((ops 0 [cO 14 (cB .lss (t 13) (t 12))]).seq ((C2.cond (t 14) skip (exit 0)).seq ((block 1 ((ops 0 [cO 15 (cM 13),cO 5 (cM 15)]).seq ((ops 1 [cO 16 (cM 0),cO 17 (cM 5),cO 18 (ixaS 2 (t 16) (t 17)),cO 19 (ldn 2 (t 18)),cO 20 (cM 1),cO 21 (cM 5),cO 22 (ixaS 2 (t 20) (t 21)),cO 23 (ldn 2 (t 22)),cO 24 (binS BinOp.neq [int,int] (t 19) (t 23))]).seq (C2.cond (t 24) ((ops 0 [cO 4 (mov ap)]).seq ret) skip)))).seq (ops 0 [cO 25 (cB .add (t 13) (cN 1)),cO 13 (cM 25)])))).loop)).seq ((ops 0 [cO 4 (mov aH)]).seq ret)))))
theorem yg:Is Tryz.prog 40 b40:=Is.mk' Tryz.func40 (by kernel_rfl)
def b41:F2:=(F2.mk 31 [RV.t 2,RV.t 3] ((ops 0 [cO 1 (box (t 0)),cO 2 (mov (c AV.undef)),cO 3 (mov (cN 0))]).seq (((ops 0 [cO 8 (ldn 2 (t 1)),cO 9 (call (cF 34) [t 8]),cO 4 (cM 9)]).seq ((ops 0 [cO 10 (cM 4),cO 11 (cB .neq (t 10) (cN 0))]).seq (C2.cond (t 11) ((ops 0 [cO 12 (cM 4),cO 2 (mov (c AV.undef)),cO 3 (cM 12)]).seq ret) skip))).seq ((ops 0 [cO 13 (mkm none),cO 5 (cM 13)]).seq (((ops 0 [cO 14 (fa 0 (t 1)),cO 15 (cD 14),cO 16 (lenS (t 15)),cO 17 (mov (cN 0))]).seq (block 0 ((ops 0 [cO 18 (cB .lss (t 17) (t 16))]).seq ((C2.cond (t 18) skip (exit 0)).seq ((block 1 ((ops 0 [cO 19 (cM 17),cO 20 (ixaS 2 (t 15) (t 17)),cO 21 (ldn 2 (t 20)),cO 7 (alloc (AV.agg [AV.int IntKind.i64 (0),AV.int IntKind.i64 (0)])),cO 6 (cM 19),Op2.mk none none (Ins.st 2 (t 7) (t 21))]).seq (mixS 9 [cO 22 (cM 5),cO 23 (ldn 2 (t 7)),cO 24 (fa 1 (t 1)),cO 25 (cD 24),cO 26 (cM 6),cO 27 (ixaS 2 (t 25) (t 26)),cO 28 (ldn 2 (t 27)),Op2.mk none none (mput (MK.st [int,int]) (t 22) (t 23) (t 28))] [(0,0),(1,0),(2,0),(3,0),(4,0),(5,0),(6,0),(7,2)]))).seq (ops 0 [cO 29 (cB .add (t 17) (cN 1)),cO 17 (cM 29)])))).loop)).seq ((ops 0 [cO 30 (cM 5),cO 2 (cM 30),cO 3 (mov (cN 0))]).seq ret))))))
theorem w6:Is Tryz.prog 41 b41:=Is.mk' Tryz.func41 (by kernel_rfl)
def b42:F2:=(F2.mk 32 [RV.t 4,RV.t 5] ((ops 0 [cO 3 (box (t 1)),cO 4 (mov (c AV.esl)),cO 5 (mov ap)]).seq ((ops 0 [cO 6 (mov (c AV.esl))]).seq (((ops 0 [cO 11 (fa 0 (t 3)),cO 12 (cD 11),cO 13 (lenS (t 12)),cO 14 (mov (cN 0))]).seq (block 0 ((ops 0 [cO 15 (cB .lss (t 14) (t 13))]).seq ((C2.cond (t 15) skip (exit 0)).seq ((block 1 ((ops 0 [cO 16 (ixaS 1 (t 12) (t 14)),cO 17 (cD 16),cO 8 (cM 17)]).seq ((ops 0 [cO 19 (cM 0),cO 20 (cM 8),cO 21 (call (cF 57) [t 19,t 20]),cO 18 (cM 21),cO 22 (ext (t 18) 0),cO 23 (ext (t 18) 1),cO 9 (cM 22),cO 10 (cM 23)]).seq (((ops 0 [cO 24 (cM 10),cO 25 (un UnOp.not (t 24))]).seq (C2.cond (t 25) ((ops 0 [cO 4 (mov (c AV.esl)),cO 5 (mov ap)]).seq ret) skip)).seq (ops 0 [cO 26 (cM 6),cO 27 (cM 9),cO 28 (bldS 1 1 [AV.esl] [(0,1,t 27)]),cO 29 (app 1 24 (t 26) (t 28)),cO 6 (cM 29)]))))).seq (ops 0 [cO 30 (cB .add (t 14) (cN 1)),cO 14 (cM 30)])))).loop)).seq ((ops 0 [cO 31 (cM 6),cO 4 (cM 31),cO 5 (mov aH)]).seq ret)))))
theorem wU:Is Tryz.prog 42 b42:=Is.mk' Tryz.func42 (by kernel_rfl)
def b43:F2:=(F2.mk 9 [RV.t 4] ((ops 0 [cO 3 (box (t 1)),cO 4 (mov ap)]).seq ((ops 0 [cO 5 (cM 0),cO 6 (mkfn 45 [t 3]),cO 7 (call (cF 44) [t 5,t 6]),cO 8 (un UnOp.not (t 7)),cO 4 (cM 8)]).seq ret)))
theorem wn:Is Tryz.prog 43 b43:=Is.mk' Tryz.func43 (by kernel_rfl)
def b44:F2:=(F2.mk 9 [RV.t 4] ((ops 0 [cO 4 (mov ap)]).seq ((ops 0 [cO 5 (cM 0),cO 6 (cM 1),cO 7 (call (cF 84) [t 5,t 6]),cO 8 (cB .geq (t 7) (cN 0)),cO 4 (cM 8)]).seq ret)))
theorem xK:Is Tryz.prog 44 b44:=Is.mk' Tryz.func44 (by kernel_rfl)
def b45:F2:=(F2.mk 8 [RV.t 3] ((ops 0 [cO 2 (box (t 0)),cO 3 (mov ap)]).seq ((ops 0 [cO 4 (cD 1),cO 5 (ldn 2 (t 2)),cO 6 (call (cF 46) [t 4,t 5]),cO 7 (un UnOp.not (t 6)),cO 3 (cM 7)]).seq ret)))
theorem wq:Is Tryz.prog 45 b45:=Is.mk' Tryz.func45 (by kernel_rfl)
def b46:F2:=(F2.mk 9 [RV.t 4] ((ops 0 [cO 3 (box (t 1)),cO 4 (mov ap)]).seq ((ops 0 [cO 5 (cM 0),cO 6 (ldn 2 (t 3)),cO 7 (call (cF 85) [t 5,t 6]),cO 8 (cB .geq (t 7) (cN 0)),cO 4 (cM 8)]).seq ret)))
theorem wi:Is Tryz.prog 46 b46:=Is.mk' Tryz.func46 (by kernel_rfl)
def b47:F2:=(F2.mk 9 [RV.t 4] ((ops 0 [cO 4 (mov ap)]).seq ((ops 0 [cO 5 (cM 0),cO 6 (cM 1),cO 7 (call (cF 86) [t 5,t 6]),cO 8 (cB .geq (t 7) (cN 0)),cO 4 (cM 8)]).seq ret)))
theorem wh:Is Tryz.prog 47 b47:=Is.mk' Tryz.func47 (by kernel_rfl)
def b48:F2:=(F2.mk 10 [RV.t 4] ((ops 0 [cO 3 (box (t 0)),cO 4 (mov ap)]).seq ((ops 0 [cO 5 (fa 0 (t 1)),cO 6 (cD 5),cO 7 (mkfn 49 [t 2,t 3]),cO 8 (call (cF 47) [t 6,t 7]),cO 9 (un UnOp.not (t 8)),cO 4 (cM 9)]).seq ret)))
theorem wo:Is Tryz.prog 48 b48:=Is.mk' Tryz.func48 (by kernel_rfl)
def b49:F2:=(F2.mk 9 [RV.t 4] ((ops 0 [cO 4 (mov ap)]).seq ((ops 0 [cO 5 (cD 1),cO 6 (cD 2),cO 7 (cM 0),cO 8 (call (t 5) [t 6,t 7]),cO 4 (cM 8)]).seq ret)))
theorem xj:Is Tryz.prog 49 b49:=Is.mk' Tryz.func49 (by kernel_rfl)
def b50:F2:=(F2.mk 55 [RV.t 2] ((ops 0 [cO 1 (box (t 0)),cO 2 (mov (cN 0))]).seq (((ops 0 [cO 4 (fa 0 (t 1)),cO 5 (cD 4),cO 6 (lenS (t 5)),cO 7 (cB .gtr (t 6) (cN 4096))]).seq (C2.cond (t 7) ((ops 0 [cO 2 (mov (cN 5))]).seq ret) skip)).seq (((ops 0 [cO 8 (fa 1 (t 1)),cO 9 (cD 8),cO 10 (lenS (t 9)),cO 11 (fa 0 (t 1)),cO 12 (cD 11),cO 13 (lenS (t 12)),cO 14 (cB .neq (t 10) (t 13))]).seq (C2.cond (t 14) ((ops 0 [cO 2 (mov (cN 15))]).seq ret) skip)).seq (((ops 0 [cO 3 (mov (cN 0))]).seq (block 0 (((ops 0 [cO 15 (cM 3),cO 16 (fa 0 (t 1)),cO 17 (cD 16),cO 18 (lenS (t 17)),cO 19 (cB .lss (t 15) (t 18))]).seq (C2.cond (t 19) skip (exit 0))).seq ((block 1 (((ops 0 [cO 22 (fa 0 (t 1)),cO 23 (cD 22),cO 24 (cM 3),cO 25 (ixaS 2 (t 23) (t 24)),cO 26 (ldn 2 (t 25)),cO 27 (call (cF 87) [t 26]),cO 28 (un UnOp.not (t 27)),cO 29 (cM 28),cG 30 29 false (fa 1 (t 1)),cG 31 29 false (cD 30),cG 32 29 false (cM 3),cG 33 29 false (ixaS 2 (t 31) (t 32)),cG 34 29 false (ldn 2 (t 33)),cG 35 29 false (call (cF 87) [t 34]),cG 36 29 false (un UnOp.not (t 35)),cO 37 (pick (t 29) aH (t 36))]).seq (C2.cond (t 37) ((ops 0 [cO 2 (mov (cN 2))]).seq ret) skip)).seq ((mixS 1 [cO 38 (cM 3),cO 39 (cB .gtr (t 38) (cN 0)),cO 40 (cM 39),cG 41 40 true (fa 0 (t 1)),cG 42 40 true (cD 41),cG 43 40 true (cM 3),cG 44 40 true (cB .sub (t 43) (cN 1)),cG 45 40 true (ixaS 2 (t 42) (t 44)),cG 46 40 true (ldn 2 (t 45)),cG 47 40 true (fa 0 (t 1)),cG 48 40 true (cD 47),cG 49 40 true (cM 3),cG 50 40 true (ixaS 2 (t 48) (t 49)),cG 51 40 true (ldn 2 (t 50)),cG 52 40 true (call (cF 88) [t 46,t 51]),cG 53 40 true (cB .geq (t 52) (cN 0)),cO 54 (pick (t 40) (t 53) ap)] [(0,0),(1,0),(2,0),(3,0),(4,0),(5,0),(6,0),(7,0),(8,0),(9,0),(10,0),(11,0),(12,0),(13,0),(14,2),(15,0),(16,0)]).seq (C2.cond (t 54) ((ops 0 [cO 2 (mov (cN 14))]).seq ret) skip)))).seq (ops 0 [cO 20 (cM 3),cO 21 (cB .add (t 20) (cN 1)),cO 3 (cM 21)]))).loop)).seq ((ops 0 [cO 2 (mov (cN 0))]).seq ret))))))
theorem yy:Is Tryz.prog 50 b50:=Is.mk' Tryz.func50 (by kernel_rfl)
def b51:F2:=(F2.mk 68 [RV.t 2] ((ops 0 [cO 1 (box (t 0)),cO 2 (mov (cN 0))]).seq ((ops 0 [cO 8 (fa 0 (t 1)),cO 9 (cD 8),cO 3 (cM 9)]).seq (((ops 0 [cO 10 (cM 3),cO 11 (lenS (t 10)),cO 12 (cB .gtr (t 11) (cN 4096))]).seq (C2.cond (t 12) ((ops 0 [cO 2 (mov (cN 5))]).seq ret) skip)).seq (((ops 0 [cO 4 (mov (cN 0))]).seq (block 0 (((ops 0 [cO 13 (cM 4),cO 14 (cM 3),cO 15 (lenS (t 14)),cO 16 (cB .lss (t 13) (t 15))]).seq (C2.cond (t 16) skip (exit 0))).seq ((block 1 (((ops 0 [cO 19 (cM 3),cO 20 (cM 4),cO 21 (ixaS 1 (t 19) (t 20)),cO 22 (cD 21),cO 23 (call (cF 65) [t 22]),cO 5 (cM 23)]).seq ((ops 0 [cO 24 (cM 5),cO 25 (cB .neq (t 24) (cN 0))]).seq (C2.cond (t 25) ((ops 0 [cO 26 (cM 5),cO 2 (cM 26)]).seq ret) skip))).seq ((mixS 1 [cO 27 (cM 4),cO 28 (cB .gtr (t 27) (cN 0)),cO 29 (cM 28),cG 30 29 true (cM 3),cG 31 29 true (cM 4),cG 32 29 true (cB .sub (t 31) (cN 1)),cG 33 29 true (ixaS 1 (t 30) (t 32)),cG 34 29 true (cD 33),cG 35 29 true (cM 3),cG 36 29 true (cM 4),cG 37 29 true (ixaS 1 (t 35) (t 36)),cG 38 29 true (cD 37),cG 39 29 true (call (cF 62) [t 34,t 38]),cG 40 29 true (cB .geq (t 39) (cN 0)),cO 41 (pick (t 29) (t 40) ap)] [(0,0),(1,0),(2,0),(3,0),(4,0),(5,0),(6,0),(7,0),(8,0),(9,0),(10,0),(11,0),(12,2),(13,0),(14,0)]).seq (C2.cond (t 41) ((ops 0 [cO 2 (mov (cN 14))]).seq ret) skip)))).seq (ops 0 [cO 17 (cM 4),cO 18 (cB .add (t 17) (cN 1)),cO 4 (cM 18)]))).loop)).seq (((ops 0 [cO 6 (mov (cN 0))]).seq (block 2 (((ops 0 [cO 42 (cM 6),cO 43 (cM 3),cO 44 (lenS (t 43)),cO 45 (cB .lss (t 42) (t 44))]).seq (C2.cond (t 45) skip (exit 2))).seq ((block 3 ((ops 0 [cO 7 (mov (cN 0))]).seq (block 4 (((ops 0 [cO 48 (cM 7),cO 49 (cM 3),cO 50 (lenS (t 49)),cO 51 (cB .lss (t 48) (t 50))]).seq (C2.cond (t 51) skip (exit 4))).seq ((block 5 ((mixS 1 [cO 54 (cM 6),cO 55 (cM 7),cO 56 (cB .neq (t 54) (t 55)),cO 57 (cM 56),cG 58 57 true (cM 3),cG 59 57 true (cM 6),cG 60 57 true (ixaS 1 (t 58) (t 59)),cG 61 57 true (cD 60),cG 62 57 true (cM 3),cG 63 57 true (cM 7),cG 64 57 true (ixaS 1 (t 62) (t 63)),cG 65 57 true (cD 64),cG 66 57 true (call (cF 89) [t 61,t 65]),cO 67 (pick (t 57) (t 66) ap)] [(0,0),(1,0),(2,0),(3,0),(4,0),(5,0),(6,0),(7,0),(8,0),(9,0),(10,0),(11,0),(12,2),(13,0)]).seq (C2.cond (t 67) ((ops 0 [cO 2 (mov (cN 7))]).seq ret) skip))).seq (ops 0 [cO 52 (cM 7),cO 53 (cB .add (t 52) (cN 1)),cO 7 (cM 53)]))).loop))).seq (ops 0 [cO 46 (cM 6),cO 47 (cB .add (t 46) (cN 1)),cO 6 (cM 47)]))).loop)).seq ((ops 0 [cO 2 (mov (cN 0))]).seq ret)))))))
theorem yq:Is Tryz.prog 51 b51:=Is.mk' Tryz.func51 (by kernel_rfl)
def b52:F2:=(F2.mk 19 [RV.t 4] ((ops 0 [cO 2 (box (t 0)),cO 4 (mov ap)]).seq (((ops 0 [cO 5 (mov (cN 0))]).seq (block 0 (((ops 0 [cO 6 (cM 5),cO 7 (cM 1),cO 8 (lenS (t 7)),cO 9 (cB .lss (t 6) (t 8))]).seq (C2.cond (t 9) skip (exit 0))).seq ((block 1 ((mixS 1 [cO 12 (ldn 2 (t 2)),cO 13 (cM 1),cO 14 (cM 5),cO 15 (ixaS 2 (t 13) (t 14)),cO 16 (ldn 2 (t 15)),cO 17 (call (cF 56) [t 12,t 16]),cO 18 (cB .lss (t 17) (cN 0))] [(0,0),(1,0),(2,0),(3,0),(4,0),(5,2),(6,0)]).seq (C2.cond (t 18) ((ops 0 [cO 4 (mov ap)]).seq ret) skip))).seq (ops 0 [cO 10 (cM 5),cO 11 (cB .add (t 10) (cN 1)),cO 5 (cM 11)]))).loop)).seq ((ops 0 [cO 4 (mov aH)]).seq ret))))
theorem yh:Is Tryz.prog 52 b52:=Is.mk' Tryz.func52 (by kernel_rfl)
def b53:F2:=(F2.mk 20 [RV.t 2] ((ops 0 [cO 1 (box (t 0)),cO 2 (mov (c AV.esl))]).seq ((ops 0 [cO 3 (mov (c AV.esl))]).seq (((ops 0 [cO 4 (mov (cN 0))]).seq (block 0 (((ops 0 [cO 5 (cM 4),cO 6 (fa 0 (t 1)),cO 7 (cD 6),cO 8 (lenS (t 7)),cO 9 (cB .lss (t 5) (t 8))]).seq (C2.cond (t 9) skip (exit 0))).seq ((block 1 (ops 0 [cO 12 (cM 3),cO 13 (fa 0 (t 1)),cO 14 (cD 13),cO 15 (cM 4),cO 16 (ixaS 1 (t 14) (t 15)),cO 17 (cD 16),cO 18 (call (cF 90) [t 12,t 17]),cO 3 (cM 18)])).seq (ops 0 [cO 10 (cM 4),cO 11 (cB .add (t 10) (cN 1)),cO 4 (cM 11)]))).loop)).seq ((ops 0 [cO 19 (cM 3),cO 2 (cM 19)]).seq ret)))))
theorem xZ:Is Tryz.prog 53 b53:=Is.mk' Tryz.func53 (by kernel_rfl)
def b54:F2:=(F2.mk 25 [RV.t 4] ((ops 0 [cO 2 (box (t 0)),cO 3 (box (t 1)),cO 4 (mov (c AV.esl))]).seq ((ops 0 [cO 5 (mov (c AV.esl))]).seq (((ops 0 [cO 6 (mov (cN 0))]).seq (block 0 (((ops 0 [cO 7 (cM 6),cO 8 (fa 0 (t 3)),cO 9 (cD 8),cO 10 (lenS (t 9)),cO 11 (cB .lss (t 7) (t 10))]).seq (C2.cond (t 11) skip (exit 0))).seq ((block 1 (mixS 1 [cO 14 (cM 5),cO 15 (ldn 2 (t 2)),cO 16 (fa 0 (t 3)),cO 17 (cD 16),cO 18 (cM 6),cO 19 (ixaS 1 (t 17) (t 18)),cO 20 (cD 19),cO 21 (call (cF 61) [t 15,t 20]),cO 22 (bldS 1 1 [AV.esl] [(0,1,t 21)]),cO 23 (app 1 24 (t 14) (t 22)),cO 5 (cM 23)] [(0,0),(1,0),(2,0),(3,0),(4,0),(5,0),(6,0),(7,2),(8,2),(9,2),(10,0)])).seq (ops 0 [cO 12 (cM 6),cO 13 (cB .add (t 12) (cN 1)),cO 6 (cM 13)]))).loop)).seq ((ops 0 [cO 24 (cM 5),cO 4 (cM 24)]).seq ret)))))
theorem yk:Is Tryz.prog 54 b54:=Is.mk' Tryz.func54 (by kernel_rfl)
def b55:F2:=(F2.mk 20 [RV.t 4] ((ops 0 [cO 2 (box (t 0)),cO 4 (mov ap)]).seq (((ops 0 [cO 5 (mov (cN 0))]).seq (block 0 (((ops 0 [cO 6 (cM 5),cO 7 (fa 0 (t 2)),cO 8 (cD 7),cO 9 (lenS (t 8)),cO 10 (cB .lss (t 6) (t 9))]).seq (C2.cond (t 10) skip (exit 0))).seq ((block 1 ((ops 0 [cO 13 (cM 1),cO 14 (fa 0 (t 2)),cO 15 (cD 14),cO 16 (cM 5),cO 17 (ixaS 1 (t 15) (t 16)),cO 18 (cD 17),cO 19 (call (cF 89) [t 13,t 18])]).seq (C2.cond (t 19) ((ops 0 [cO 4 (mov aH)]).seq ret) skip))).seq (ops 0 [cO 11 (cM 5),cO 12 (cB .add (t 11) (cN 1)),cO 5 (cM 12)]))).loop)).seq ((ops 0 [cO 4 (mov ap)]).seq ret))))
theorem yz:Is Tryz.prog 55 b55:=Is.mk' Tryz.func55 (by kernel_rfl)
def b56:F2:=(F2.mk 21 [RV.t 4] ((ops 0 [cO 2 (box (t 0)),cO 3 (box (t 1)),cO 4 (mov (cN 0))]).seq (((ops 0 [cO 5 (mov (cN 0))]).seq (block 0 (((ops 0 [cO 6 (cM 5),cO 7 (fa 0 (t 2)),cO 8 (cD 7),cO 9 (lenS (t 8)),cO 10 (cB .lss (t 6) (t 9))]).seq (C2.cond (t 10) skip (exit 0))).seq ((block 1 ((ops 1 [cO 13 (fa 0 (t 2)),cO 14 (cD 13),cO 15 (cM 5),cO 16 (ixaS 2 (t 14) (t 15)),cO 17 (ldn 2 (t 16)),cO 18 (ldn 2 (t 3)),cO 19 (binS BinOp.eql [int,int] (t 17) (t 18))]).seq (C2.cond (t 19) ((ops 0 [cO 20 (cM 5),cO 4 (cM 20)]).seq ret) skip))).seq (ops 0 [cO 11 (cM 5),cO 12 (cB .add (t 11) (cN 1)),cO 5 (cM 12)]))).loop)).seq ((ops 0 [cO 4 (mov (cN ((-1))))]).seq ret))))
theorem yB:Is Tryz.prog 56 b56:=Is.mk' Tryz.func56 (by kernel_rfl)
def b57:F2:=(F2.mk 34 [RV.t 4,RV.t 5] ((ops 0 [cO 4 (mov (c AV.esl)),cO 5 (mov ap)]).seq ((ops 0 [cO 6 (mov (c AV.esl))]).seq (((ops 0 [cO 11 (cM 1),cO 12 (lenS (t 11)),cO 13 (mov (cN 0))]).seq (block 0 ((ops 0 [cO 14 (cB .lss (t 13) (t 12))]).seq ((C2.cond (t 14) skip (exit 0)).seq ((block 1 ((ops 0 [cO 15 (ixaS 2 (t 11) (t 13)),cO 16 (ldn 2 (t 15)),cO 8 (alloc (AV.agg [AV.int IntKind.i64 (0),AV.int IntKind.i64 (0)])),Op2.mk none none (Ins.st 2 (t 8) (t 16))]).seq ((ops 0 [cO 18 (cM 0),cO 19 (ldn 2 (t 8)),cO 20 (Ins.mget (MK.st [int,int]) (AV.agg [AV.int IntKind.i64 (0),AV.int IntKind.i64 (0)]) true (t 18) (t 19)),cO 17 (cM 20),cO 21 (ext (t 17) 0),cO 22 (ext (t 17) 1),cO 9 (alloc (AV.agg [AV.int IntKind.i64 (0),AV.int IntKind.i64 (0)])),Op2.mk none none (Ins.st 2 (t 9) (t 21)),cO 10 (cM 22)]).seq (((ops 0 [cO 23 (cM 10),cO 24 (un UnOp.not (t 23))]).seq (C2.cond (t 24) ((ops 0 [cO 4 (mov (c AV.esl)),cO 5 (mov ap)]).seq ret) skip)).seq (ops 0 [cO 25 (cM 6),cO 26 (ldn 2 (t 9)),cO 27 (bldS 2 1 [AV.int IntKind.i64 (0),AV.int IntKind.i64 (0)] [(0,2,t 26)]),cO 28 (app 2 16 (t 25) (t 27)),cO 6 (cM 28)]))))).seq (ops 0 [cO 29 (cB .add (t 13) (cN 1)),cO 13 (cM 29)])))).loop)).seq ((ops 0 [cO 30 (cM 6),cO 31 (call (cF 91) [t 30,c (AV.func 74 [])])]).seq ((ops 0 [cO 32 (cM 6),cO 33 (call (cF 92) [t 32]),cO 4 (cM 33),cO 5 (mov aH)]).seq ret))))))
theorem xA:Is Tryz.prog 57 b57:=Is.mk' Tryz.func57 (by kernel_rfl)
def b58:F2:=(F2.mk 14 [RV.t 6,RV.t 7] ((ops 0 [cO 6 (mov (cN 0)),cO 7 (mov ap)]).seq ((ops 0 [cO 8 (cM 0),cO 9 (cM 1),cO 10 (cM 2),cO 11 (call (cF 93) [t 8,t 9,t 10]),cO 12 (ext (t 11) 0),cO 13 (ext (t 11) 1),cO 6 (cM 12),cO 7 (cM 13)]).seq ret)))
theorem x5:Is Tryz.prog 58 b58:=Is.mk' Tryz.func58 (by kernel_rfl)
def b59:F2:=(F2.mk 8 [RV.t 4] ((ops 0 [cO 4 (mov (cN 0))]).seq ((ops 0 [cO 5 (cM 0),cO 6 (cM 1),cO 7 (call (cF 94) [t 5,t 6,c (AV.func 95 [])]),cO 4 (cM 7)]).seq ret)))
theorem wt:Is Tryz.prog 59 b59:=Is.mk' Tryz.func59 (by kernel_rfl)
def b61:F2:=(F2.mk 32 [RV.t 4] ((ops 0 [cO 2 (box (t 0)),cO 4 (mov (c AV.esl))]).seq ((ops 0 [cO 5 (mov (c AV.esl))]).seq (((ops 0 [cO 6 (mov (cN 0))]).seq (block 0 (((ops 0 [cO 8 (cM 6),cO 9 (cM 1),cO 10 (lenS (t 9)),cO 11 (cB .lss (t 8) (t 10))]).seq (C2.cond (t 11) skip (exit 0))).seq ((block 1 ((ops 1 [cO 14 (fa 1 (t 2)),cO 15 (cD 14),cO 16 (ldn 2 (t 2)),cO 17 (cM 1),cO 18 (cM 6),cO 19 (ixaS 2 (t 17) (t 18)),cO 20 (ldn 2 (t 19)),cO 21 (call (cF 56) [t 16,t 20]),cO 22 (ixaS 2 (t 15) (t 21)),cO 23 (ldn 2 (t 22)),cO 7 (alloc (AV.agg [AV.int IntKind.i64 (0),AV.int IntKind.i64 (0)])),Op2.mk none none (Ins.st 2 (t 7) (t 23))]).seq ((ops 0 [cO 24 (cM 5),cO 25 (ldn 2 (t 7)),cO 26 (call (cF 97) [t 24,t 25]),cO 27 (un UnOp.not (t 26))]).seq (C2.cond (t 27) (ops 0 [cO 28 (cM 5),cO 29 (ldn 2 (t 7)),cO 30 (call (cF 98) [t 28,t 29]),cO 5 (cM 30)]) skip)))).seq (ops 0 [cO 12 (cM 6),cO 13 (cB .add (t 12) (cN 1)),cO 6 (cM 13)]))).loop)).seq ((ops 0 [cO 31 (cM 5),cO 4 (cM 31)]).seq ret)))))
theorem yA:Is Tryz.prog 61 b61:=Is.mk' Tryz.func61 (by kernel_rfl)
def b62:F2:=(F2.mk 43 [RV.t 4] ((ops 0 [cO 4 (mov (cN 0))]).seq (((ops 0 [cO 5 (mov (cN 0))]).seq (block 0 (((ops 0 [cO 7 (cM 5),cO 8 (cM 0),cO 9 (lenS (t 8)),cO 10 (cB .lss (t 7) (t 9)),cO 11 (cM 10),cG 12 11 true (cM 5),cG 13 11 true (cM 1),cG 14 11 true (lenS (t 13)),cG 15 11 true (cB .lss (t 12) (t 14)),cO 16 (pick (t 11) (t 15) ap)]).seq (C2.cond (t 16) skip (exit 0))).seq ((block 1 ((mixS 1 [cO 19 (cM 0),cO 20 (cM 5),cO 21 (ixaS 2 (t 19) (t 20)),cO 22 (ldn 2 (t 21)),cO 23 (cM 1),cO 24 (cM 5),cO 25 (ixaS 2 (t 23) (t 24)),cO 26 (ldn 2 (t 25)),cO 27 (call (cF 88) [t 22,t 26]),cO 6 (cM 27)] [(0,0),(1,0),(2,0),(3,0),(4,0),(5,0),(6,0),(7,0),(8,2),(9,0)]).seq ((ops 0 [cO 28 (cM 6),cO 29 (cB .neq (t 28) (cN 0))]).seq (C2.cond (t 29) ((ops 0 [cO 30 (cM 6),cO 4 (cM 30)]).seq ret) skip)))).seq (ops 0 [cO 17 (cM 5),cO 18 (cB .add (t 17) (cN 1)),cO 5 (cM 18)]))).loop)).seq ((block 2 ((ops 0 [cO 32 (cM 0),cO 33 (lenS (t 32)),cO 34 (cM 1),cO 35 (lenS (t 34)),cO 36 (cB .lss (t 33) (t 35)),cO 31 (cM 36)]).seq (C2.cond (t 31) ((ops 0 [cO 4 (mov (cN ((-1))))]).seq ret) ((ops 0 [cO 38 (cM 0),cO 39 (lenS (t 38)),cO 40 (cM 1),cO 41 (lenS (t 40)),cO 42 (cB .gtr (t 39) (t 41)),cO 37 (cM 42)]).seq (C2.cond (t 37) ((ops 0 [cO 4 (mov (cN 1))]).seq ret) skip))))).seq ((ops 0 [cO 4 (mov (cN 0))]).seq ret)))))
theorem wv:Is Tryz.prog 62 b62:=Is.mk' Tryz.func62 (by kernel_rfl)
def b63:F2:=(F2.mk 26 [RV.t 4] ((ops 0 [cO 4 (mov ap)]).seq (((ops 0 [cO 6 (cM 0),cO 7 (lenS (t 6)),cO 8 (cM 1),cO 9 (lenS (t 8)),cO 10 (cB .neq (t 7) (t 9))]).seq (C2.cond (t 10) ((ops 0 [cO 4 (mov ap)]).seq ret) skip)).seq (((ops 0 [cO 5 (mov (cN 0))]).seq (block 0 (((ops 0 [cO 11 (cM 5),cO 12 (cM 0),cO 13 (lenS (t 12)),cO 14 (cB .lss (t 11) (t 13))]).seq (C2.cond (t 14) skip (exit 0))).seq ((block 1 ((ops 1 [cO 17 (cM 0),cO 18 (cM 5),cO 19 (ixaS 1 (t 17) (t 18)),cO 20 (cD 19),cO 21 (cM 1),cO 22 (cM 5),cO 23 (ixaS 1 (t 21) (t 22)),cO 24 (cD 23),cO 25 (cB .neq (t 20) (t 24))]).seq (C2.cond (t 25) ((ops 0 [cO 4 (mov ap)]).seq ret) skip))).seq (ops 0 [cO 15 (cM 5),cO 16 (cB .add (t 15) (cN 1)),cO 5 (cM 16)]))).loop)).seq ((ops 0 [cO 4 (mov aH)]).seq ret)))))
theorem x4:Is Tryz.prog 63 b63:=Is.mk' Tryz.func63 (by kernel_rfl)
def b64:F2:=(F2.mk 36 [RV.t 2] ((ops 0 [cO 2 (mov (cN 0))]).seq ((block 0 ((ops 0 [cO 6 (cM 0),cO 7 (lenS (t 6)),cO 8 (cB .eql (t 7) (cN 0)),cO 5 (cM 8)]).seq (C2.cond (t 5) ((ops 0 [cO 2 (mov (cN 16))]).seq ret) ((ops 0 [cO 10 (cM 0),cO 11 (lenS (t 10)),cO 12 (cB .gtr (t 11) (cN 8)),cO 9 (cM 12)]).seq (C2.cond (t 9) ((ops 0 [cO 2 (mov (cN 5))]).seq ret) skip))))).seq (((ops 0 [cO 13 (cM 0),cO 14 (lenS (t 13)),cO 15 (mov (cN 0))]).seq (block 1 ((ops 0 [cO 16 (cB .lss (t 15) (t 14))]).seq ((C2.cond (t 16) skip (exit 1)).seq ((block 2 ((ops 0 [cO 17 (cM 15),cO 18 (ixaS 2 (t 13) (t 15)),cO 19 (ldn 2 (t 18)),cO 4 (alloc (AV.agg [AV.int IntKind.i64 (0),AV.int IntKind.i64 (0)])),cO 3 (cM 17),Op2.mk none none (Ins.st 2 (t 4) (t 19))]).seq (((ops 0 [cO 20 (ldn 2 (t 4)),cO 21 (call (cF 99) [t 20]),cO 22 (un UnOp.not (t 21))]).seq (C2.cond (t 22) ((ops 0 [cO 2 (mov (cN 2))]).seq ret) skip)).seq ((mixS 1 [cO 23 (cM 3),cO 24 (cB .gtr (t 23) (cN 0)),cO 25 (cM 24),cG 26 25 true (cM 0),cG 27 25 true (cM 3),cG 28 25 true (cB .sub (t 27) (cN 1)),cG 29 25 true (ixaS 2 (t 26) (t 28)),cG 30 25 true (ldn 2 (t 29)),cG 31 25 true (ldn 2 (t 4)),cG 32 25 true (call (cF 95) [t 30,t 31]),cG 33 25 true (cB .geq (t 32) (cN 0)),cO 34 (pick (t 25) (t 33) ap)] [(0,0),(1,0),(2,0),(3,0),(4,0),(5,0),(6,0),(7,0),(8,0),(9,2),(10,0),(11,0)]).seq (C2.cond (t 34) ((ops 0 [cO 2 (mov (cN 14))]).seq ret) skip))))).seq (ops 0 [cO 35 (cB .add (t 15) (cN 1)),cO 15 (cM 35)])))).loop)).seq ((ops 0 [cO 2 (mov (cN 0))]).seq ret)))))
theorem xF:Is Tryz.prog 64 b64:=Is.mk' Tryz.func64 (by kernel_rfl)
def b65:F2:=(F2.mk 39 [RV.t 2] ((ops 0 [cO 2 (mov (cN 0))]).seq ((block 0 ((ops 0 [cO 5 (cM 0),cO 6 (lenS (t 5)),cO 7 (cB .eql (t 6) (cN 0)),cO 4 (cM 7)]).seq (C2.cond (t 4) ((ops 0 [cO 2 (mov (cN 16))]).seq ret) ((ops 0 [cO 9 (cM 0),cO 10 (lenS (t 9)),cO 11 (cB .gtr (t 10) (cN 8)),cO 8 (cM 11)]).seq (C2.cond (t 8) ((ops 0 [cO 2 (mov (cN 5))]).seq ret) skip))))).seq (((ops 0 [cO 3 (mov (cN 0))]).seq (block 1 (((ops 0 [cO 12 (cM 3),cO 13 (cM 0),cO 14 (lenS (t 13)),cO 15 (cB .lss (t 12) (t 14))]).seq (C2.cond (t 15) skip (exit 1))).seq ((block 2 (((ops 0 [cO 18 (cM 0),cO 19 (cM 3),cO 20 (ixaS 2 (t 18) (t 19)),cO 21 (ldn 2 (t 20)),cO 22 (call (cF 87) [t 21]),cO 23 (un UnOp.not (t 22))]).seq (C2.cond (t 23) ((ops 0 [cO 2 (mov (cN 2))]).seq ret) skip)).seq ((mixS 1 [cO 24 (cM 3),cO 25 (cB .gtr (t 24) (cN 0)),cO 26 (cM 25),cG 27 26 true (cM 0),cG 28 26 true (cM 3),cG 29 26 true (cB .sub (t 28) (cN 1)),cG 30 26 true (ixaS 2 (t 27) (t 29)),cG 31 26 true (ldn 2 (t 30)),cG 32 26 true (cM 0),cG 33 26 true (cM 3),cG 34 26 true (ixaS 2 (t 32) (t 33)),cG 35 26 true (ldn 2 (t 34)),cG 36 26 true (call (cF 88) [t 31,t 35]),cG 37 26 true (cB .geq (t 36) (cN 0)),cO 38 (pick (t 26) (t 37) ap)] [(0,0),(1,0),(2,0),(3,0),(4,0),(5,0),(6,0),(7,0),(8,0),(9,0),(10,0),(11,0),(12,2),(13,0),(14,0)]).seq (C2.cond (t 38) ((ops 0 [cO 2 (mov (cN 14))]).seq ret) skip)))).seq (ops 0 [cO 16 (cM 3),cO 17 (cB .add (t 16) (cN 1)),cO 3 (cM 17)]))).loop)).seq ((ops 0 [cO 2 (mov (cN 0))]).seq ret)))))
theorem yi:Is Tryz.prog 65 b65:=Is.mk' Tryz.func65 (by kernel_rfl)
def b69:F2:=(F2.mk 33 [RV.t 2] ((ops 0 [cO 2 (mov (c AV.undef))]).seq ((ops 0 [cO 8 (mkm none),cO 3 (cM 8)]).seq (((ops 0 [cO 9 (cM 0),cO 10 (lenS (t 9)),cO 11 (mov (cN 0))]).seq (block 0 ((ops 0 [cO 12 (cB .lss (t 11) (t 10))]).seq ((C2.cond (t 12) skip (exit 0)).seq ((block 1 ((ops 0 [cO 13 (cM 11),cO 14 (ixaS 1 (t 9) (t 11)),cO 15 (cD 14),cO 4 (cM 13),cO 5 (cM 15)]).seq ((ops 0 [cO 16 (cM 5),cO 17 (lenS (t 16)),cO 18 (mov (cN 0))]).seq (block 2 ((ops 0 [cO 19 (cB .lss (t 18) (t 17))]).seq ((C2.cond (t 19) skip (exit 2)).seq ((block 3 ((ops 0 [cO 20 (ixaS 2 (t 16) (t 18)),cO 21 (ldn 2 (t 20)),cO 7 (alloc (AV.agg [AV.int IntKind.i64 (0),AV.int IntKind.i64 (0)])),Op2.mk none none (Ins.st 2 (t 7) (t 21))]).seq (ops 0 [cO 22 (cM 3),cO 23 (ldn 2 (t 7)),cO 25 (cM 4),cO 26 (bldS 1 1 [AV.int IntKind.i64 (0)] [(0,1,t 25)]),cO 27 (mplc (MK.st [int,int]) AV.esl (t 22) (t 23)),cO 24 (ext (t 27) 0),cO 28 (app 1 8 (t 24) (t 26)),cO 29 (ext (t 27) 1),Op2.mk none none (mpst (t 22) (t 29) (t 28))]))).seq (ops 0 [cO 30 (cB .add (t 18) (cN 1)),cO 18 (cM 30)])))).loop)))).seq (ops 0 [cO 31 (cB .add (t 11) (cN 1)),cO 11 (cM 31)])))).loop)).seq ((ops 0 [cO 32 (cM 3),cO 2 (cM 32)]).seq ret)))))
theorem wk:Is Tryz.prog 69 b69:=Is.mk' Tryz.func69 (by kernel_rfl)
def b70:F2:=(F2.mk 10 [RV.t 6] ((ops 0 [cO 3 (box (t 0)),cO 5 (box (t 2)),cO 6 (mov ap)]).seq ((ops 0 [cO 7 (cM 1),cO 8 (mkfn 104 [t 3,t 5]),cO 9 (call (cF 103) [t 7,t 8]),cO 6 (cM 9)]).seq ret)))
theorem v7:Is Tryz.prog 70 b70:=Is.mk' Tryz.func70 (by kernel_rfl)
def b72:F2:=(F2.mk 60 [RV.t 4,RV.t 5] ((ops 0 [cO 4 (mov (c AV.esl)),cO 5 (mov (cN 0))]).seq ((ops 0 [cO 14 (mkm none),cO 6 (cM 14)]).seq ((ops 0 [cO 7 (mov (c AV.esl))]).seq (((ops 0 [cO 15 (cM 0),cO 16 (lenS (t 15)),cO 17 (mov (cN 0))]).seq (block 0 ((ops 0 [cO 18 (cB .lss (t 17) (t 16))]).seq ((C2.cond (t 18) skip (exit 0)).seq ((block 1 ((ops 0 [cO 19 (ixaS 1 (t 15) (t 17)),cO 20 (cD 19),cO 9 (cM 20)]).seq (((ops 0 [cO 21 (cM 9),cO 22 (lenS (t 21)),cO 23 (cM 1),cO 24 (cB .lss (t 22) (t 23))]).seq (C2.cond (t 24) (exit 1) skip)).seq ((ops 0 [cO 26 (cM 9),cO 27 (cM 1),cO 28 (call (cF 35) [t 26,t 27]),cO 25 (cM 28),cO 29 (ext (t 25) 0),cO 30 (ext (t 25) 1),cO 10 (cM 29),cO 11 (cM 30)]).seq (((ops 0 [cO 31 (cM 11),cO 32 (cB .neq (t 31) (cN 0))]).seq (C2.cond (t 32) ((ops 0 [cO 33 (cM 11),cO 4 (mov (c AV.esl)),cO 5 (cM 33)]).seq ret) skip)).seq (((ops 0 [cO 34 (cM 10),cO 35 (lenS (t 34)),cO 36 (mov (cN 0))]).seq (block 2 ((ops 0 [cO 37 (cB .lss (t 36) (t 35))]).seq ((C2.cond (t 37) skip (exit 2)).seq ((block 3 ((ops 0 [cO 38 (ixaS 1 (t 34) (t 36)),cO 39 (cD 38),cO 13 (cM 39)]).seq ((ops 0 [cO 40 (cM 6),cO 41 (cM 13),cO 42 (call (cF 108) [t 41]),cO 43 (Ins.mget (MK.st [int,int,int,int,int,int,int,int,int,int,int,int,int,int,int,int]) (AV.bool false) false (t 40) (t 42)),cO 44 (un UnOp.not (t 43))]).seq (C2.cond (t 44) ((ops 0 [cO 45 (cM 6),cO 46 (cM 13),cO 47 (call (cF 108) [t 46]),Op2.mk none none (mput (MK.st [int,int,int,int,int,int,int,int,int,int,int,int,int,int,int,int]) (t 45) (t 47) aH)]).seq (ops 0 [cO 48 (cM 7),cO 49 (cM 13),cO 50 (bldS 1 1 [AV.esl] [(0,1,t 49)]),cO 51 (app 1 24 (t 48) (t 50)),cO 7 (cM 51)])) skip)))).seq (ops 0 [cO 52 (cB .add (t 36) (cN 1)),cO 36 (cM 52)])))).loop)).seq ((ops 0 [cO 53 (cM 7),cO 54 (lenS (t 53)),cO 55 (cB .gtr (t 54) (cN 4096))]).seq (C2.cond (t 55) ((ops 0 [cO 4 (mov (c AV.esl)),cO 5 (mov (cN 17))]).seq ret) skip)))))))).seq (ops 0 [cO 56 (cB .add (t 17) (cN 1)),cO 17 (cM 56)])))).loop)).seq ((ops 0 [cO 57 (cM 7),cO 58 (call (cF 109) [t 57,c (AV.func 59 [])])]).seq ((ops 0 [cO 59 (cM 7),cO 4 (cM 59),cO 5 (mov (cN 0))]).seq ret)))))))
theorem yw:Is Tryz.prog 72 b72:=Is.mk' Tryz.func72 (by kernel_rfl)
def b73:F2:=(F2.mk 21 [RV.t 2] ((ops 0 [cO 1 (box (t 0)),cO 2 (mov ap)]).seq ((ops 0 [cO 3 (fa 0 (t 1)),cO 4 (cD 3),cO 5 (cB .geq (t 4) (cN 0)),cO 6 (cM 5),cG 7 6 true (fa 0 (t 1)),cG 8 6 true (cD 7),cG 9 6 true (cB .lss (t 8) (cN 8)),cO 10 (pick (t 6) (t 9) ap),cO 11 (cM 10),cG 12 11 true (fa 1 (t 1)),cG 13 11 true (cD 12),cG 14 11 true (cB .geq (t 13) (cN 0)),cO 15 (pick (t 11) (t 14) ap),cO 16 (cM 15),cG 17 16 true (fa 1 (t 1)),cG 18 16 true (cD 17),cG 19 16 true (cB .leq (t 18) (cN 1048576)),cO 20 (pick (t 16) (t 19) ap),cO 2 (cM 20)]).seq ret)))
theorem xf:Is Tryz.prog 73 b73:=Is.mk' Tryz.func73 (by kernel_rfl)
def b74:F2:=(F2.mk 17 [RV.t 4] ((ops 0 [cO 2 (box (t 0)),cO 3 (box (t 1)),cO 4 (mov (cN 0))]).seq ((mixS 1 [cO 5 (fa 0 (t 2)),cO 6 (cD 5),cO 7 (fa 0 (t 3)),cO 8 (cD 7),cO 9 (call (cF 111) [t 6,t 8]),cO 10 (fa 1 (t 2)),cO 11 (cD 10),cO 12 (fa 1 (t 3)),cO 13 (cD 12),cO 14 (call (cF 111) [t 11,t 13]),cO 15 (bldS 1 2 [AV.int IntKind.i64 (0)] [(0,1,t 9),(1,1,t 14)]),cO 16 (call (cF 110) [t 15]),cO 4 (cM 16)] [(0,0),(1,0),(2,0),(3,0),(5,0),(6,0),(7,0),(8,0),(4,1),(9,2),(10,2),(11,2),(12,0)]).seq ret)))
theorem wX:Is Tryz.prog 74 b74:=Is.mk' Tryz.func74 (by kernel_rfl)
def b75:F2:=(F2.mk 5 [RV.t 2] ((ops 0 [cO 2 (mov (c AV.esl))]).seq ((ops 0 [cO 3 (cM 0),cO 4 (call (cF 112) [c AV.esl,t 3]),cO 2 (cM 4)]).seq ret)))
theorem xW:Is Tryz.prog 75 b75:=Is.mk' Tryz.func75 (by kernel_rfl)
def b76:F2:=(F2.mk 6 [RV.t 4] ((ops 0 [cO 2 (box (t 0)),cO 3 (box (t 1)),cO 4 (mov (c AV.nilf))]).seq ((ops 0 [cO 5 (mkfn 113 [t 3,t 2]),cO 4 (cM 5)]).seq ret)))
theorem yv:Is Tryz.prog 76 b76:=Is.mk' Tryz.func76 (by kernel_rfl)
def b84:F2:=(F2.mk 19 [RV.t 4] ((ops 0 [cO 4 (mov (cN 0))]).seq (((ops 0 [cO 6 (cM 0),cO 7 (lenS (t 6)),cO 8 (mov (cN 0))]).seq (block 0 ((ops 0 [cO 9 (cB .lss (t 8) (t 7))]).seq ((C2.cond (t 9) skip (exit 0)).seq ((block 1 ((ops 0 [cO 10 (cM 8),cO 5 (cM 10)]).seq ((ops 0 [cO 11 (cM 1),cO 12 (cM 0),cO 13 (cM 5),cO 14 (ixaS 2 (t 12) (t 13)),cO 15 (ldn 2 (t 14)),cO 16 (call (t 11) [t 15])]).seq (C2.cond (t 16) ((ops 0 [cO 17 (cM 5),cO 4 (cM 17)]).seq ret) skip)))).seq (ops 0 [cO 18 (cB .add (t 8) (cN 1)),cO 8 (cM 18)])))).loop)).seq ((ops 0 [cO 4 (mov (cN ((-1))))]).seq ret))))
theorem wx:Is Tryz.prog 84 b84:=Is.mk' Tryz.func84 (by kernel_rfl)
def b85:F2:=(F2.mk 19 [RV.t 4] ((ops 0 [cO 3 (box (t 1)),cO 4 (mov (cN 0))]).seq (((ops 0 [cO 6 (cM 0),cO 7 (lenS (t 6)),cO 8 (mov (cN 0))]).seq (block 0 ((ops 0 [cO 9 (cB .lss (t 8) (t 7))]).seq ((C2.cond (t 9) skip (exit 0)).seq ((block 1 ((ops 0 [cO 10 (cM 8),cO 5 (cM 10)]).seq ((ops 1 [cO 11 (ldn 2 (t 3)),cO 12 (cM 0),cO 13 (cM 5),cO 14 (ixaS 2 (t 12) (t 13)),cO 15 (ldn 2 (t 14)),cO 16 (binS BinOp.eql [int,int] (t 11) (t 15))]).seq (C2.cond (t 16) ((ops 0 [cO 17 (cM 5),cO 4 (cM 17)]).seq ret) skip)))).seq (ops 0 [cO 18 (cB .add (t 8) (cN 1)),cO 8 (cM 18)])))).loop)).seq ((ops 0 [cO 4 (mov (cN ((-1))))]).seq ret))))
theorem wB:Is Tryz.prog 85 b85:=Is.mk' Tryz.func85 (by kernel_rfl)
def b86:F2:=(F2.mk 19 [RV.t 4] ((ops 0 [cO 4 (mov (cN 0))]).seq (((ops 0 [cO 6 (cM 0),cO 7 (lenS (t 6)),cO 8 (mov (cN 0))]).seq (block 0 ((ops 0 [cO 9 (cB .lss (t 8) (t 7))]).seq ((C2.cond (t 9) skip (exit 0)).seq ((block 1 ((ops 0 [cO 10 (cM 8),cO 5 (cM 10)]).seq ((ops 0 [cO 11 (cM 1),cO 12 (cM 0),cO 13 (cM 5),cO 14 (ixaS 1 (t 12) (t 13)),cO 15 (cD 14),cO 16 (call (t 11) [t 15])]).seq (C2.cond (t 16) ((ops 0 [cO 17 (cM 5),cO 4 (cM 17)]).seq ret) skip)))).seq (ops 0 [cO 18 (cB .add (t 8) (cN 1)),cO 8 (cM 18)])))).loop)).seq ((ops 0 [cO 4 (mov (cN ((-1))))]).seq ret))))
theorem xt:Is Tryz.prog 86 b86:=Is.mk' Tryz.func86 (by kernel_rfl)
def b87:F2:=(F2.mk 21 [RV.t 2] ((ops 0 [cO 1 (box (t 0)),cO 2 (mov ap)]).seq ((ops 0 [cO 3 (fa 0 (t 1)),cO 4 (cD 3),cO 5 (cB .geq (t 4) (cN 0)),cO 6 (cM 5),cG 7 6 true (fa 0 (t 1)),cG 8 6 true (cD 7),cG 9 6 true (cB .lss (t 8) (cN 8)),cO 10 (pick (t 6) (t 9) ap),cO 11 (cM 10),cG 12 11 true (fa 1 (t 1)),cG 13 11 true (cD 12),cG 14 11 true (cB .geq (t 13) (cN 0)),cO 15 (pick (t 11) (t 14) ap),cO 16 (cM 15),cG 17 16 true (fa 1 (t 1)),cG 18 16 true (cD 17),cG 19 16 true (cB .leq (t 18) (cN 1048576)),cO 20 (pick (t 16) (t 19) ap),cO 2 (cM 20)]).seq ret)))
theorem ya:Is Tryz.prog 87 b87:=Is.mk' Tryz.func87 (by kernel_rfl)
def b88:F2:=(F2.mk 29 [RV.t 4] ((ops 0 [cO 2 (box (t 0)),cO 3 (box (t 1)),cO 4 (mov (cN 0))]).seq ((block 0 ((ops 0 [cO 6 (fa 0 (t 2)),cO 7 (cD 6),cO 8 (fa 0 (t 3)),cO 9 (cD 8),cO 10 (cB .lss (t 7) (t 9)),cO 5 (cM 10)]).seq (C2.cond (t 5) ((ops 0 [cO 4 (mov (cN ((-1))))]).seq ret) ((ops 0 [cO 12 (fa 0 (t 2)),cO 13 (cD 12),cO 14 (fa 0 (t 3)),cO 15 (cD 14),cO 16 (cB .gtr (t 13) (t 15)),cO 11 (cM 16)]).seq (C2.cond (t 11) ((ops 0 [cO 4 (mov (cN 1))]).seq ret) ((ops 0 [cO 18 (fa 1 (t 2)),cO 19 (cD 18),cO 20 (fa 1 (t 3)),cO 21 (cD 20),cO 22 (cB .lss (t 19) (t 21)),cO 17 (cM 22)]).seq (C2.cond (t 17) ((ops 0 [cO 4 (mov (cN ((-1))))]).seq ret) ((ops 0 [cO 24 (fa 1 (t 2)),cO 25 (cD 24),cO 26 (fa 1 (t 3)),cO 27 (cD 26),cO 28 (cB .gtr (t 25) (t 27)),cO 23 (cM 28)]).seq (C2.cond (t 23) ((ops 0 [cO 4 (mov (cN 1))]).seq ret) skip))))))))).seq ((ops 0 [cO 4 (mov (cN 0))]).seq ret))))
theorem xc:Is Tryz.prog 88 b88:=Is.mk' Tryz.func88 (by kernel_rfl)
def b89:F2:=(F2.mk 19 [RV.t 4] ((ops 0 [cO 4 (mov ap)]).seq (((ops 0 [cO 5 (mov (cN 0))]).seq (block 0 (((ops 0 [cO 6 (cM 5),cO 7 (cM 0),cO 8 (lenS (t 7)),cO 9 (cB .lss (t 6) (t 8))]).seq (C2.cond (t 9) skip (exit 0))).seq ((block 1 ((ops 0 [cO 12 (cM 1),cO 13 (cM 0),cO 14 (cM 5),cO 15 (ixaS 2 (t 13) (t 14)),cO 16 (ldn 2 (t 15)),cO 17 (call (cF 97) [t 12,t 16]),cO 18 (un UnOp.not (t 17))]).seq (C2.cond (t 18) ((ops 0 [cO 4 (mov ap)]).seq ret) skip))).seq (ops 0 [cO 10 (cM 5),cO 11 (cB .add (t 10) (cN 1)),cO 5 (cM 11)]))).loop)).seq ((ops 0 [cO 4 (mov aH)]).seq ret))))
theorem x7:Is Tryz.prog 89 b89:=Is.mk' Tryz.func89 (by kernel_rfl)
def b90:F2:=(F2.mk 23 [RV.t 4] ((ops 0 [cO 4 (mov (c AV.esl))]).seq ((ops 0 [cO 7 (bldS 2 0 [AV.int IntKind.i64 (0),AV.int IntKind.i64 (0)] []),cO 8 (cM 0),cO 9 (app 2 16 (t 7) (t 8)),cO 5 (cM 9)]).seq (((ops 0 [cO 6 (mov (cN 0))]).seq (block 0 (((ops 0 [cO 10 (cM 6),cO 11 (cM 1),cO 12 (lenS (t 11)),cO 13 (cB .lss (t 10) (t 12))]).seq (C2.cond (t 13) skip (exit 0))).seq ((block 1 (ops 0 [cO 16 (cM 5),cO 17 (cM 1),cO 18 (cM 6),cO 19 (ixaS 2 (t 17) (t 18)),cO 20 (ldn 2 (t 19)),cO 21 (call (cF 98) [t 16,t 20]),cO 5 (cM 21)])).seq (ops 0 [cO 14 (cM 6),cO 15 (cB .add (t 14) (cN 1)),cO 6 (cM 15)]))).loop)).seq ((ops 0 [cO 22 (cM 5),cO 4 (cM 22)]).seq ret)))))
theorem yp:Is Tryz.prog 90 b90:=Is.mk' Tryz.func90 (by kernel_rfl)
def b91:F2:=(F2.mk 14 [] ((ops 0 [cO 5 (cM 0),cO 6 (lenS (t 5)),cO 4 (cM 6)]).seq (ops 0 [cO 7 (cM 0),cO 8 (cM 4),cO 9 (cM 4),cO 10 (conv IntKind.u64 (t 9)),cO 11 (call (cF 123) [t 10]),cO 12 (cM 1),cO 13 (call (cF 122) [t 7,cN ((0)),t 8,t 11,t 12])])))
theorem wA:Is Tryz.prog 91 b91:=Is.mk' Tryz.func91 (by kernel_rfl)
def b92:F2:=(F2.mk 61 [RV.t 2] ((ops 0 [cO 2 (mov (c AV.esl))]).seq (((ops 0 [cO 6 (cM 0),cO 7 (lenS (t 6)),cO 8 (cB .lss (t 7) (cN 2))]).seq (C2.cond (t 8) ((ops 0 [cO 9 (cM 0),cO 2 (cM 9)]).seq ret) skip)).seq (((ops 0 [cO 3 (mov (cN 1))]).seq (block 0 (((ops 0 [cO 10 (cM 3),cO 11 (cM 0),cO 12 (lenS (t 11)),cO 13 (cB .lss (t 10) (t 12))]).seq (C2.cond (t 13) skip (exit 0))).seq ((block 1 ((ops 1 [cO 16 (cM 0),cO 17 (cM 3),cO 18 (ixaS 2 (t 16) (t 17)),cO 19 (ldn 2 (t 18)),cO 20 (cM 0),cO 21 (cM 3),cO 22 (cB .sub (t 21) (cN 1)),cO 23 (ixaS 2 (t 20) (t 22)),cO 24 (ldn 2 (t 23)),cO 25 (binS BinOp.eql [int,int] (t 19) (t 24))]).seq (C2.cond (t 25) ((ops 0 [cO 26 (cM 0),cO 27 (cM 3),cO 28 (sls 2 (t 26) (some (t 27)) none none),cO 4 (cM 28)]).seq (((ops 0 [cO 5 (mov (cN 1))]).seq (block 2 (((ops 0 [cO 29 (cM 5),cO 30 (cM 4),cO 31 (lenS (t 30)),cO 32 (cB .lss (t 29) (t 31))]).seq (C2.cond (t 32) skip (exit 2))).seq ((block 3 ((ops 1 [cO 35 (cM 4),cO 36 (cM 5),cO 37 (ixaS 2 (t 35) (t 36)),cO 38 (ldn 2 (t 37)),cO 39 (cM 4),cO 40 (cM 5),cO 41 (cB .sub (t 40) (cN 1)),cO 42 (ixaS 2 (t 39) (t 41)),cO 43 (ldn 2 (t 42)),cO 44 (binS BinOp.neq [int,int] (t 38) (t 43))]).seq (C2.cond (t 44) ((ops 0 [cO 45 (cM 0),cO 46 (cM 3),cO 47 (cM 4),cO 48 (cM 5),cO 49 (ixaS 2 (t 47) (t 48)),cO 50 (ldn 2 (t 49)),cO 51 (ixaS 2 (t 45) (t 46)),Op2.mk none none (Ins.st 2 (t 51) (t 50))]).seq (ops 0 [cO 52 (cM 3),cO 53 (cB .add (t 52) (cN 1)),cO 3 (cM 53)])) skip))).seq (ops 0 [cO 33 (cM 5),cO 34 (cB .add (t 33) (cN 1)),cO 5 (cM 34)]))).loop)).seq ((ops 0 [cO 54 (cM 0),cO 55 (cM 3),cO 56 (sls 2 (t 54) (some (t 55)) none none),Op2.mk none none (clr 2 (AV.agg [AV.int IntKind.i64 (0),AV.int IntKind.i64 (0)]) (t 56))]).seq ((ops 0 [cO 57 (cM 0),cO 58 (cM 3),cO 59 (sls 2 (t 57) none (some (t 58)) none),cO 2 (cM 59)]).seq ret)))) skip))).seq (ops 0 [cO 14 (cM 3),cO 15 (cB .add (t 14) (cN 1)),cO 3 (cM 15)]))).loop)).seq ((ops 0 [cO 60 (cM 0),cO 2 (cM 60)]).seq ret)))))
theorem wN:Is Tryz.prog 92 b92:=Is.mk' Tryz.func92 (by kernel_rfl)
def b93:F2:=(F2.mk 49 [RV.t 6,RV.t 7] ((ops 0 [cO 6 (mov (cN 0)),cO 7 (mov ap)]).seq ((ops 0 [cO 12 (cM 0),cO 13 (lenS (t 12)),cO 8 (cM 13)]).seq ((ops 0 [cO 14 (cM 8),cO 9 (mov (cN 0)),cO 10 (cM 14)]).seq ((block 0 (((ops 0 [cO 15 (cM 9),cO 16 (cM 10),cO 17 (cB .lss (t 15) (t 16))]).seq (C2.cond (t 17) skip (exit 0))).seq (block 1 ((ops 0 [cO 18 (cM 9),cO 19 (cM 10),cO 20 (cB .add (t 18) (t 19)),cO 21 (conv IntKind.u64 (t 20)),cO 22 (cB .shr (t 21) (c (AV.int IntKind.u64 (1)))),cO 23 (conv IntKind.i64 (t 22)),cO 11 (cM 23)]).seq ((ops 0 [cO 24 (cM 2),cO 25 (cM 0),cO 26 (cM 11),cO 27 (ixaS 1 (t 25) (t 26)),cO 28 (cD 27),cO 29 (cM 1),cO 30 (call (t 24) [t 28,t 29]),cO 31 (cB .lss (t 30) (cN 0))]).seq (C2.cond (t 31) (ops 0 [cO 32 (cM 11),cO 33 (cB .add (t 32) (cN 1)),cO 9 (cM 33)]) (ops 0 [cO 34 (cM 11),cO 10 (cM 34)])))))).loop).seq ((ops 0 [cO 35 (cM 9),cO 36 (cM 9),cO 37 (cM 8),cO 38 (cB .lss (t 36) (t 37)),cO 39 (cM 38),cG 40 39 true (cM 2),cG 41 39 true (cM 0),cG 42 39 true (cM 9),cG 43 39 true (ixaS 1 (t 41) (t 42)),cG 44 39 true (cD 43),cG 45 39 true (cM 1),cG 46 39 true (call (t 40) [t 44,t 45]),cG 47 39 true (cB .eql (t 46) (cN 0)),cO 48 (pick (t 39) (t 47) ap),cO 6 (cM 35),cO 7 (cM 48)]).seq ret))))))
theorem ym:Is Tryz.prog 93 b93:=Is.mk' Tryz.func93 (by kernel_rfl)
def b94:F2:=(F2.mk 39 [RV.t 6] ((ops 0 [cO 6 (mov (cN 0))]).seq (((ops 0 [cO 11 (cM 0),cO 12 (lenS (t 11)),cO 13 (mov (cN 0))]).seq (block 0 ((ops 0 [cO 14 (cB .lss (t 13) (t 12))]).seq ((C2.cond (t 14) skip (exit 0)).seq ((block 1 ((ops 0 [cO 15 (cM 13),cO 16 (ixaS 2 (t 11) (t 13)),cO 17 (ldn 2 (t 16)),cO 8 (alloc (AV.agg [AV.int IntKind.i64 (0),AV.int IntKind.i64 (0)])),cO 7 (cM 15),Op2.mk none none (Ins.st 2 (t 8) (t 17))]).seq (((ops 0 [cO 18 (cM 7),cO 19 (cM 1),cO 20 (lenS (t 19)),cO 21 (cB .geq (t 18) (t 20))]).seq (C2.cond (t 21) ((ops 0 [cO 6 (mov (cN 1))]).seq ret) skip)).seq ((ops 0 [cO 22 (cM 1),cO 23 (cM 7),cO 24 (ixaS 2 (t 22) (t 23)),cO 25 (ldn 2 (t 24)),cO 9 (alloc (AV.agg [AV.int IntKind.i64 (0),AV.int IntKind.i64 (0)])),Op2.mk none none (Ins.st 2 (t 9) (t 25))]).seq ((ops 0 [cO 26 (cM 2),cO 27 (ldn 2 (t 8)),cO 28 (ldn 2 (t 9)),cO 29 (call (t 26) [t 27,t 28]),cO 10 (cM 29)]).seq ((ops 0 [cO 30 (cM 10),cO 31 (cB .neq (t 30) (cN 0))]).seq (C2.cond (t 31) ((ops 0 [cO 32 (cM 10),cO 6 (cM 32)]).seq ret) skip))))))).seq (ops 0 [cO 33 (cB .add (t 13) (cN 1)),cO 13 (cM 33)])))).loop)).seq (((ops 0 [cO 34 (cM 0),cO 35 (lenS (t 34)),cO 36 (cM 1),cO 37 (lenS (t 36)),cO 38 (cB .lss (t 35) (t 37))]).seq (C2.cond (t 38) ((ops 0 [cO 6 (mov (cN ((-1))))]).seq ret) skip)).seq ((ops 0 [cO 6 (mov (cN 0))]).seq ret)))))
theorem wT:Is Tryz.prog 94 b94:=Is.mk' Tryz.func94 (by kernel_rfl)
def b95:F2:=(F2.mk 17 [RV.t 4] ((ops 0 [cO 2 (box (t 0)),cO 3 (box (t 1)),cO 4 (mov (cN 0))]).seq ((mixS 1 [cO 5 (fa 0 (t 2)),cO 6 (cD 5),cO 7 (fa 0 (t 3)),cO 8 (cD 7),cO 9 (call (cF 111) [t 6,t 8]),cO 10 (fa 1 (t 2)),cO 11 (cD 10),cO 12 (fa 1 (t 3)),cO 13 (cD 12),cO 14 (call (cF 111) [t 11,t 13]),cO 15 (bldS 1 2 [AV.int IntKind.i64 (0)] [(0,1,t 9),(1,1,t 14)]),cO 16 (call (cF 110) [t 15]),cO 4 (cM 16)] [(0,0),(1,0),(2,0),(3,0),(5,0),(6,0),(7,0),(8,0),(4,1),(9,2),(10,2),(11,2),(12,0)]).seq ret)))
theorem xq:Is Tryz.prog 95 b95:=Is.mk' Tryz.func95 (by kernel_rfl)
def b97:F2:=(F2.mk 18 [RV.t 4] ((ops 0 [cO 3 (box (t 1)),cO 4 (mov ap)]).seq (((ops 0 [cO 5 (mov (cN 0))]).seq (block 0 (((ops 0 [cO 6 (cM 5),cO 7 (cM 0),cO 8 (lenS (t 7)),cO 9 (cB .lss (t 6) (t 8))]).seq (C2.cond (t 9) skip (exit 0))).seq ((block 1 ((ops 1 [cO 12 (cM 0),cO 13 (cM 5),cO 14 (ixaS 2 (t 12) (t 13)),cO 15 (ldn 2 (t 14)),cO 16 (ldn 2 (t 3)),cO 17 (binS BinOp.eql [int,int] (t 15) (t 16))]).seq (C2.cond (t 17) ((ops 0 [cO 4 (mov aH)]).seq ret) skip))).seq (ops 0 [cO 10 (cM 5),cO 11 (cB .add (t 10) (cN 1)),cO 5 (cM 11)]))).loop)).seq ((ops 0 [cO 4 (mov ap)]).seq ret))))
theorem yD:Is Tryz.prog 97 b97:=Is.mk' Tryz.func97 (by kernel_rfl)
def b98:F2:=(F2.mk 47 [RV.t 4] ((ops 0 [cO 3 (box (t 1)),cO 4 (mov (c AV.esl))]).seq (((ops 0 [cO 8 (cM 0),cO 9 (ldn 2 (t 3)),cO 10 (call (cF 97) [t 8,t 9])]).seq (C2.cond (t 10) ((ops 0 [cO 11 (cM 0),cO 4 (cM 11)]).seq ret) skip)).seq ((ops 0 [cO 5 (mov (c AV.esl))]).seq ((ops 0 [cO 6 (mov ap)]).seq (((ops 0 [cO 7 (mov (cN 0))]).seq (block 0 (((ops 0 [cO 12 (cM 7),cO 13 (cM 0),cO 14 (lenS (t 13)),cO 15 (cB .lss (t 12) (t 14))]).seq (C2.cond (t 15) skip (exit 0))).seq ((block 1 (((mixS 1 [cO 18 (cM 6),cO 19 (un UnOp.not (t 18)),cO 20 (cM 19),cG 21 20 true (ldn 2 (t 3)),cG 22 20 true (cM 0),cG 23 20 true (cM 7),cG 24 20 true (ixaS 2 (t 22) (t 23)),cG 25 20 true (ldn 2 (t 24)),cG 26 20 true (call (cF 88) [t 21,t 25]),cG 27 20 true (cB .lss (t 26) (cN 0)),cO 28 (pick (t 20) (t 27) ap)] [(0,0),(1,0),(2,0),(3,0),(4,0),(5,0),(6,0),(7,0),(8,2),(9,0),(10,0)]).seq (C2.cond (t 28) (ops 0 [cO 29 (cM 5),cO 30 (ldn 2 (t 3)),cO 31 (bldS 2 1 [AV.int IntKind.i64 (0),AV.int IntKind.i64 (0)] [(0,2,t 30)]),cO 32 (app 2 16 (t 29) (t 31)),cO 5 (cM 32),cO 6 (mov aH)]) skip)).seq (ops 0 [cO 33 (cM 5),cO 34 (cM 0),cO 35 (cM 7),cO 36 (ixaS 2 (t 34) (t 35)),cO 37 (ldn 2 (t 36)),cO 38 (bldS 2 1 [AV.int IntKind.i64 (0),AV.int IntKind.i64 (0)] [(0,2,t 37)]),cO 39 (app 2 16 (t 33) (t 38)),cO 5 (cM 39)]))).seq (ops 0 [cO 16 (cM 7),cO 17 (cB .add (t 16) (cN 1)),cO 7 (cM 17)]))).loop)).seq (((ops 0 [cO 40 (cM 6),cO 41 (un UnOp.not (t 40))]).seq (C2.cond (t 41) (ops 0 [cO 42 (cM 5),cO 43 (ldn 2 (t 3)),cO 44 (bldS 2 1 [AV.int IntKind.i64 (0),AV.int IntKind.i64 (0)] [(0,2,t 43)]),cO 45 (app 2 16 (t 42) (t 44)),cO 5 (cM 45)]) skip)).seq ((ops 0 [cO 46 (cM 5),cO 4 (cM 46)]).seq ret))))))))
theorem yr:Is Tryz.prog 98 b98:=Is.mk' Tryz.func98 (by kernel_rfl)
def b99:F2:=(F2.mk 21 [RV.t 2] ((ops 0 [cO 1 (box (t 0)),cO 2 (mov ap)]).seq ((ops 0 [cO 3 (fa 0 (t 1)),cO 4 (cD 3),cO 5 (cB .geq (t 4) (cN 0)),cO 6 (cM 5),cG 7 6 true (fa 0 (t 1)),cG 8 6 true (cD 7),cG 9 6 true (cB .lss (t 8) (cN 8)),cO 10 (pick (t 6) (t 9) ap),cO 11 (cM 10),cG 12 11 true (fa 1 (t 1)),cG 13 11 true (cD 12),cG 14 11 true (cB .geq (t 13) (cN 0)),cO 15 (pick (t 11) (t 14) ap),cO 16 (cM 15),cG 17 16 true (fa 1 (t 1)),cG 18 16 true (cD 17),cG 19 16 true (cB .leq (t 18) (cN 1048576)),cO 20 (pick (t 16) (t 19) ap),cO 2 (cM 20)]).seq ret)))
theorem xh:Is Tryz.prog 99 b99:=Is.mk' Tryz.func99 (by kernel_rfl)
def vM:F2:=(F2.mk 9 [RV.t 4] ((ops 0 [cO 4 (mov ap)]).seq ((ops 0 [cO 5 (cM 0),cO 6 (cM 1),cO 7 (call (cF 127) [t 5,t 6]),cO 8 (cB .geq (t 7) (cN 0)),cO 4 (cM 8)]).seq ret)))
theorem uG:Is Tryz.prog 103 vM:=Is.mk' Tryz.func103 (by kernel_rfl)
def vI:F2:=(F2.mk 21 [RV.t 4] ((ops 0 [cO 4 (mov ap)]).seq ((mixS 1 [cO 5 (cD 1),cO 6 (cM 0),cO 7 (ixaS 1 (t 5) (t 6)),cO 8 (cD 7),cO 9 (lenS (t 8)),cO 10 (cD 2),cO 11 (lenS (t 10)),cO 12 (cB .gtr (t 9) (t 11)),cO 13 (cM 12),cG 14 13 true (cD 2),cG 15 13 true (cD 1),cG 16 13 true (cM 0),cG 17 13 true (ixaS 1 (t 15) (t 16)),cG 18 13 true (cD 17),cG 19 13 true (call (cF 105) [t 14,t 18]),cO 20 (pick (t 13) (t 19) ap),cO 4 (cM 20)] [(0,0),(1,0),(2,0),(3,0),(4,0),(5,0),(6,0),(7,0),(8,0),(9,0),(10,0),(11,0),(12,0),(13,0),(14,2),(15,0),(16,0)]).seq ret)))
theorem uP:Is Tryz.prog 104 vI:=Is.mk' Tryz.func104 (by kernel_rfl)
def wZ:F2:=(F2.mk 29 [RV.t 4] ((ops 0 [cO 4 (mov ap)]).seq (((ops 0 [cO 7 (cM 0),cO 8 (lenS (t 7)),cO 9 (mov (cN 0))]).seq (block 0 ((ops 0 [cO 10 (cB .lss (t 9) (t 8))]).seq ((C2.cond (t 10) skip (exit 0)).seq ((block 1 ((ops 0 [cO 11 (ixaS 2 (t 7) (t 9)),cO 12 (ldn 2 (t 11)),cO 6 (alloc (AV.agg [AV.int IntKind.i64 (0),AV.int IntKind.i64 (0)])),Op2.mk none none (Ins.st 2 (t 6) (t 12))]).seq ((block 2 (((ops 1 [cO 13 (cM 1),cO 14 (lenS (t 13)),cO 15 (cB .gtr (t 14) (cN 0)),cO 16 (cM 15),cG 17 16 true (cM 1),cG 18 16 true (ixaS 2 (t 17) (cN 0)),cG 19 16 true (ldn 2 (t 18)),cG 20 16 true (ldn 2 (t 6)),cG 21 16 true (binS BinOp.neq [int,int] (t 19) (t 20)),cO 22 (pick (t 16) (t 21) ap)]).seq (C2.cond (t 22) skip (exit 2))).seq (block 3 (ops 0 [cO 23 (cM 1),cO 24 (sls 2 (t 23) (some (cN 1)) none none),cO 1 (cM 24)]))).loop).seq ((ops 0 [cO 25 (cM 1),cO 26 (lenS (t 25)),cO 27 (cB .eql (t 26) (cN 0))]).seq (C2.cond (t 27) ((ops 0 [cO 4 (mov ap)]).seq ret) skip))))).seq (ops 0 [cO 28 (cB .add (t 9) (cN 1)),cO 9 (cM 28)])))).loop)).seq ((ops 0 [cO 4 (mov aH)]).seq ret))))
theorem xC:Is Tryz.prog 105 wZ:=Is.mk' Tryz.func105 (by kernel_rfl)
def xz:F2:=(F2.mk 16 [RV.cn 2 16] ((ops 0 [cO 2 (alloc (AV.agg [AV.int IntKind.i64 (0),AV.int IntKind.i64 (0),AV.int IntKind.i64 (0),AV.int IntKind.i64 (0),AV.int IntKind.i64 (0),AV.int IntKind.i64 (0),AV.int IntKind.i64 (0),AV.int IntKind.i64 (0),AV.int IntKind.i64 (0),AV.int IntKind.i64 (0),AV.int IntKind.i64 (0),AV.int IntKind.i64 (0),AV.int IntKind.i64 (0),AV.int IntKind.i64 (0),AV.int IntKind.i64 (0),AV.int IntKind.i64 (0)]))]).seq ((ops 0 [cO 3 (alloc (AV.agg [AV.int IntKind.i64 (0),AV.int IntKind.i64 (0),AV.int IntKind.i64 (0),AV.int IntKind.i64 (0),AV.int IntKind.i64 (0),AV.int IntKind.i64 (0),AV.int IntKind.i64 (0),AV.int IntKind.i64 (0),AV.int IntKind.i64 (0),AV.int IntKind.i64 (0),AV.int IntKind.i64 (0),AV.int IntKind.i64 (0),AV.int IntKind.i64 (0),AV.int IntKind.i64 (0),AV.int IntKind.i64 (0),AV.int IntKind.i64 (0)]))]).seq (((ops 0 [cO 5 (mov (cN 0))]).seq (block 0 ((ops 0 [cO 6 (cB .lss (t 5) (cN 8))]).seq ((C2.cond (t 6) skip (exit 0)).seq ((block 1 ((ops 0 [cO 7 (cM 5),cO 4 (cM 7)]).seq (ops 0 [cO 8 (cM 4),cO 9 (ixaA 8 2 (t 3) (t 8)),cO 10 (fa 0 (t 9)),Op2.mk none none (Ins.st 1 (t 10) (cN ((-1))))]))).seq (ops 0 [cO 11 (cB .add (t 5) (cN 1)),cO 5 (cM 11)])))).loop)).seq ((ops 0 [cO 12 (slp 8 2 (t 3)),cO 13 (cM 0),cO 14 (cpy 2 (t 12) (t 13))]).seq ((ops 0 [cO 15 (ldn 16 (t 3)),Op2.mk none none (Ins.st 16 (t 2) (t 15))]).seq ret))))))
theorem wI:Is Tryz.prog 108 xz:=Is.mk' Tryz.func108 (by kernel_rfl)
def wz:F2:=(F2.mk 14 [] ((ops 0 [cO 5 (cM 0),cO 6 (lenS (t 5)),cO 4 (cM 6)]).seq (ops 0 [cO 7 (cM 0),cO 8 (cM 4),cO 9 (cM 4),cO 10 (conv IntKind.u64 (t 9)),cO 11 (call (cF 123) [t 10]),cO 12 (cM 1),cO 13 (call (cF 129) [t 7,cN ((0)),t 8,t 11,t 12])])))
theorem xP:Is Tryz.prog 109 wz:=Is.mk' Tryz.func109 (by kernel_rfl)
def u0:F2:=(F2.mk 18 [RV.t 2] ((ops 0 [cO 2 (mov (cN 0))]).seq ((ops 0 [cO 3 (mov (cN 0))]).seq (((ops 0 [cO 6 (cM 0),cO 7 (lenS (t 6)),cO 8 (mov (cN 0))]).seq (block 0 ((ops 0 [cO 9 (cB .lss (t 8) (t 7))]).seq ((C2.cond (t 9) skip (exit 0)).seq ((block 1 ((ops 0 [cO 10 (ixaS 1 (t 6) (t 8)),cO 11 (cD 10),cO 5 (cM 11)]).seq ((ops 0 [cO 12 (cM 5),cO 13 (cM 3),cO 14 (cB .neq (t 12) (t 13))]).seq (C2.cond (t 14) ((ops 0 [cO 15 (cM 5),cO 2 (cM 15)]).seq ret) skip)))).seq (ops 0 [cO 16 (cB .add (t 8) (cN 1)),cO 8 (cM 16)])))).loop)).seq ((ops 0 [cO 17 (cM 3),cO 2 (cM 17)]).seq ret)))))
theorem uy:Is Tryz.prog 110 u0:=Is.mk' Tryz.func110 (by kernel_rfl)
def ve:F2:=(F2.mk 20 [RV.t 4] ((ops 0 [cO 4 (mov (cN 0))]).seq ((ops 0 [cO 7 (cM 0),cO 8 (call (cF 130) [t 7]),cO 5 (cM 8)]).seq ((ops 0 [cO 9 (cM 1),cO 10 (call (cF 130) [t 9]),cO 6 (cM 10)]).seq (((ops 0 [cO 11 (cM 5)]).seq (C2.cond (t 11) (((ops 0 [cO 12 (cM 6)]).seq (C2.cond (t 12) ((ops 0 [cO 4 (mov (cN 0))]).seq ret) skip)).seq ((ops 0 [cO 4 (mov (cN ((-1))))]).seq ret)) skip)).seq (((ops 0 [cO 13 (cM 6)]).seq (C2.cond (t 13) ((ops 0 [cO 4 (mov (cN 1))]).seq ret) skip)).seq (((ops 0 [cO 14 (cM 0),cO 15 (cM 1),cO 16 (cB .lss (t 14) (t 15))]).seq (C2.cond (t 16) ((ops 0 [cO 4 (mov (cN ((-1))))]).seq ret) skip)).seq (((ops 0 [cO 17 (cM 0),cO 18 (cM 1),cO 19 (cB .gtr (t 17) (t 18))]).seq (C2.cond (t 19) ((ops 0 [cO 4 (mov (cN 1))]).seq ret) skip)).seq ((ops 0 [cO 4 (mov (cN 0))]).seq ret)))))))))
theorem uB:Is Tryz.prog 111 ve:=Is.mk' Tryz.func111 (by kernel_rfl)
def wS:F2:=(F2.mk 13 [RV.t 4] ((ops 0 [cO 2 (box (t 0)),cO 4 (mov (c AV.esl))]).seq (((ops 0 [cO 6 (cM 1)]).seq (block 0 (rangeF (t 6) [7] (ops 0 [cO 5 (cM 7)]) (block 1 (ops 0 [cO 8 (cD 2),cO 9 (cM 5),cO 10 (bldS 1 1 [AV.esl] [(0,1,t 9)]),cO 11 (app 1 24 (t 8) (t 10)),Op2.mk none none (Ins.st 1 (t 2) (t 11))]))))).seq ((ops 0 [cO 12 (cD 2),cO 4 (cM 12)]).seq ret))))
theorem xD:Is Tryz.prog 112 wS:=Is.mk' Tryz.func112 (by kernel_rfl)
def wO:F2:=(F2.mk 10 [] ((ops 0 [cO 3 (box (t 0))]).seq ((ops 0 [cO 4 (alloc AV.nilf)]).seq ((ops 0 [cO 5 (mkfn 114 [t 1,t 3,t 2,t 4]),Op2.mk none none (Ins.st 1 (t 4) (t 5))]).seq (mixS 1 [cO 6 (cD 4),cO 7 (cD 1),cO 8 (mks 2 16 [AV.int IntKind.i64 (0),AV.int IntKind.i64 (0)] (cN 0) (t 7)),cO 9 (call (t 6) [cN ((0)),t 8])] [(0,0),(1,0),(2,1),(3,2)])))))
theorem xm:Is Tryz.prog 113 wO:=Is.mk' Tryz.func113 (by kernel_rfl)
def xd:F2:=(F2.mk 37 [RV.t 8] ((ops 0 [cO 8 (mov ap)]).seq (((ops 0 [cO 10 (cM 1),cO 11 (lenS (t 10)),cO 12 (cD 2),cO 13 (cB .eql (t 11) (t 12))]).seq (C2.cond (t 13) ((mixS 1 [cO 14 (cD 3),cO 15 (cM 1),cO 16 (call (cF 31) [t 15]),cO 17 (call (t 14) [t 16]),cO 8 (cM 17)] [(0,0),(1,0),(2,1),(3,2),(4,0)]).seq ret) skip)).seq (((ops 0 [cO 18 (cM 0),cO 9 (cM 18)]).seq (block 0 (((ops 0 [cO 19 (cM 9),cO 20 (cD 4),cO 21 (lenS (t 20)),cO 22 (cB .lss (t 19) (t 21))]).seq (C2.cond (t 22) skip (exit 0))).seq ((block 1 ((mixS 2 [cO 25 (cD 5),cO 26 (cM 9),cO 27 (cB .add (t 26) (cN 1)),cO 28 (cM 1),cO 29 (cD 4),cO 30 (cM 9),cO 31 (ixaS 2 (t 29) (t 30)),cO 32 (ldn 2 (t 31)),cO 33 (bldS 2 1 [AV.int IntKind.i64 (0),AV.int IntKind.i64 (0)] [(0,2,t 32)]),cO 34 (app 2 16 (t 28) (t 33)),cO 35 (call (t 25) [t 27,t 34]),cO 36 (un UnOp.not (t 35))] [(0,0),(1,0),(2,0),(3,0),(4,0),(5,0),(6,0),(7,0),(8,1),(9,1),(10,2),(11,0)]).seq (C2.cond (t 36) ((ops 0 [cO 8 (mov ap)]).seq ret) skip))).seq (ops 0 [cO 23 (cM 9),cO 24 (cB .add (t 23) (cN 1)),cO 9 (cM 24)]))).loop)).seq ((ops 0 [cO 8 (mov aH)]).seq ret)))))
theorem wu:Is Tryz.prog 114 xd:=Is.mk' Tryz.func114 (by kernel_rfl)
def vq:F2:=(F2.mk 148 [] ((ops 0 [cO 10 (mov aH)]).seq ((ops 0 [cO 11 (mov aH)]).seq (block 0 (block 1 ((ops 0 [cO 21 (cM 2),cO 22 (cM 1),cO 23 (cB .sub (t 21) (t 22)),cO 12 (cM 23)]).seq (((ops 0 [cO 24 (cM 12),cO 25 (cB .leq (t 24) (cN 12))]).seq (C2.cond (t 25) ((ops 0 [cO 26 (cM 0),cO 27 (cM 1),cO 28 (cM 2),cO 29 (cM 4),cO 30 (call (cF 132) [t 26,t 27,t 28,t 29])]).seq ret) skip)).seq (((ops 0 [cO 31 (cM 3),cO 32 (cB .eql (t 31) (cN 0))]).seq (C2.cond (t 32) ((ops 0 [cO 33 (cM 0),cO 34 (cM 1),cO 35 (cM 2),cO 36 (cM 4),cO 37 (call (cF 133) [t 33,t 34,t 35,t 36])]).seq ret) skip)).seq (((ops 0 [cO 38 (cM 10),cO 39 (un UnOp.not (t 38))]).seq (C2.cond (t 39) ((ops 0 [cO 40 (cM 0),cO 41 (cM 1),cO 42 (cM 2),cO 43 (cM 4),cO 44 (call (cF 134) [t 40,t 41,t 42,t 43])]).seq (ops 0 [cO 45 (cM 3),cO 46 (cB .sub (t 45) (cN 1)),cO 3 (cM 46)])) skip)).seq ((ops 0 [cO 48 (cM 0),cO 49 (cM 1),cO 50 (cM 2),cO 51 (cM 4),cO 52 (call (cF 135) [t 48,t 49,t 50,t 51]),cO 47 (cM 52),cO 53 (ext (t 47) 0),cO 54 (ext (t 47) 1),cO 13 (cM 53),cO 14 (cM 54)]).seq (((ops 0 [cO 55 (cM 14),cO 56 (cB .eql (t 55) (cN 2))]).seq (C2.cond (t 56) ((ops 0 [cO 57 (cM 0),cO 58 (cM 1),cO 59 (cM 2),cO 60 (cM 4),cO 61 (call (cF 136) [t 57,t 58,t 59,t 60])]).seq ((ops 0 [cO 62 (cM 2),cO 63 (cB .sub (t 62) (cN 1)),cO 64 (cM 13),cO 65 (cM 1),cO 66 (cB .sub (t 64) (t 65)),cO 67 (cB .sub (t 63) (t 66)),cO 13 (cM 67)]).seq (ops 0 [cO 14 (mov (cN 1))]))) skip)).seq (((ops 0 [cO 68 (cM 10),cO 69 (cM 68),cG 70 69 true (cM 11),cO 71 (pick (t 69) (t 70) ap),cO 72 (cM 71),cG 73 72 true (cM 14),cG 74 72 true (cB .eql (t 73) (cN 1)),cO 75 (pick (t 72) (t 74) ap)]).seq (C2.cond (t 75) ((ops 0 [cO 76 (cM 0),cO 77 (cM 1),cO 78 (cM 2),cO 79 (cM 4),cO 80 (call (cF 137) [t 76,t 77,t 78,t 79])]).seq (C2.cond (t 80) ret skip)) skip)).seq (((mixS 1 [cO 81 (cM 1),cO 82 (cB .gtr (t 81) (cN 0)),cO 83 (cM 82),cG 84 83 true (cM 4),cG 85 83 true (cM 0),cG 86 83 true (cM 1),cG 87 83 true (cB .sub (t 86) (cN 1)),cG 88 83 true (ixaS 2 (t 85) (t 87)),cG 89 83 true (ldn 2 (t 88)),cG 90 83 true (cM 0),cG 91 83 true (cM 13),cG 92 83 true (ixaS 2 (t 90) (t 91)),cG 93 83 true (ldn 2 (t 92)),cG 94 83 true (call (t 84) [t 89,t 93]),cG 95 83 true (cB .lss (t 94) (cN 0)),cG 96 83 true (un UnOp.not (t 95)),cO 97 (pick (t 83) (t 96) ap)] [(0,0),(1,0),(2,0),(3,0),(4,0),(5,0),(6,0),(7,0),(8,0),(9,0),(10,0),(11,0),(12,0),(13,2),(14,0),(15,0),(16,0)]).seq (C2.cond (t 97) ((ops 0 [cO 98 (cM 0),cO 99 (cM 1),cO 100 (cM 2),cO 101 (cM 13),cO 102 (cM 4),cO 103 (call (cF 138) [t 98,t 99,t 100,t 101,t 102]),cO 15 (cM 103)]).seq ((ops 0 [cO 104 (cM 15),cO 1 (cM 104)]).seq (exit 1))) skip)).seq ((ops 0 [cO 106 (cM 0),cO 107 (cM 1),cO 108 (cM 2),cO 109 (cM 13),cO 110 (cM 4),cO 111 (call (cF 139) [t 106,t 107,t 108,t 109,t 110]),cO 105 (cM 111),cO 112 (ext (t 105) 0),cO 113 (ext (t 105) 1),cO 16 (cM 112),cO 17 (cM 113)]).seq ((ops 0 [cO 114 (cM 17),cO 11 (cM 114)]).seq ((ops 0 [cO 115 (cM 16),cO 116 (cM 1),cO 117 (cB .sub (t 115) (t 116)),cO 118 (cM 2),cO 119 (cM 16),cO 120 (cB .sub (t 118) (t 119)),cO 18 (cM 117),cO 19 (cM 120)]).seq ((ops 0 [cO 121 (cM 12),cO 122 (cB .quo (t 121) (cN 8)),cO 20 (cM 122)]).seq ((ops 0 [cO 123 (cM 18),cO 124 (cM 19),cO 125 (cB .lss (t 123) (t 124))]).seq (C2.cond (t 125) ((ops 0 [cO 126 (cM 18),cO 127 (cM 20),cO 128 (cB .geq (t 126) (t 127)),cO 10 (cM 128)]).seq ((ops 0 [cO 129 (cM 0),cO 130 (cM 1),cO 131 (cM 16),cO 132 (cM 3),cO 133 (cM 4),cO 134 (call (cF 122) [t 129,t 130,t 131,t 132,t 133])]).seq (ops 0 [cO 135 (cM 16),cO 136 (cB .add (t 135) (cN 1)),cO 1 (cM 136)]))) ((ops 0 [cO 137 (cM 19),cO 138 (cM 20),cO 139 (cB .geq (t 137) (t 138)),cO 10 (cM 139)]).seq ((ops 0 [cO 140 (cM 0),cO 141 (cM 16),cO 142 (cB .add (t 141) (cN 1)),cO 143 (cM 2),cO 144 (cM 3),cO 145 (cM 4),cO 146 (call (cF 122) [t 140,t 142,t 143,t 144,t 145])]).seq (ops 0 [cO 147 (cM 16),cO 2 (cM 147)])))))))))))))))))).loop))))
theorem uJ:Is Tryz.prog 122 vq:=Is.mk' Tryz.func122 (by kernel_rfl)
def uW:F2:=(F2.mk 8 [RV.t 2] ((ops 0 [cO 2 (mov (cN 0))]).seq ((C2.cond ap ((ops 0 [cO 3 (cM 0),cO 4 (conv IntKind.u32 (t 3)),cO 5 (call (cF 140) [t 4]),cO 2 (cM 5)]).seq ret) skip).seq ((ops 0 [cO 6 (cM 0),cO 7 (call (cF 141) [t 6]),cO 2 (cM 7)]).seq ret))))
theorem uI:Is Tryz.prog 123 uW:=Is.mk' Tryz.func123 (by kernel_rfl)
def vu:F2:=(F2.mk 19 [RV.t 4] ((ops 0 [cO 4 (mov (cN 0))]).seq (((ops 0 [cO 6 (cM 0),cO 7 (lenS (t 6)),cO 8 (mov (cN 0))]).seq (block 0 ((ops 0 [cO 9 (cB .lss (t 8) (t 7))]).seq ((C2.cond (t 9) skip (exit 0)).seq ((block 1 ((ops 0 [cO 10 (cM 8),cO 5 (cM 10)]).seq ((ops 0 [cO 11 (cM 1),cO 12 (cM 0),cO 13 (cM 5),cO 14 (ixaS 1 (t 12) (t 13)),cO 15 (cD 14),cO 16 (call (t 11) [t 15])]).seq (C2.cond (t 16) ((ops 0 [cO 17 (cM 5),cO 4 (cM 17)]).seq ret) skip)))).seq (ops 0 [cO 18 (cB .add (t 8) (cN 1)),cO 8 (cM 18)])))).loop)).seq ((ops 0 [cO 4 (mov (cN ((-1))))]).seq ret))))
theorem uz:Is Tryz.prog 127 vu:=Is.mk' Tryz.func127 (by kernel_rfl)
def wV:F2:=(F2.mk 148 [] ((ops 0 [cO 10 (mov aH)]).seq ((ops 0 [cO 11 (mov aH)]).seq (block 0 (block 1 ((ops 0 [cO 21 (cM 2),cO 22 (cM 1),cO 23 (cB .sub (t 21) (t 22)),cO 12 (cM 23)]).seq (((ops 0 [cO 24 (cM 12),cO 25 (cB .leq (t 24) (cN 12))]).seq (C2.cond (t 25) ((ops 0 [cO 26 (cM 0),cO 27 (cM 1),cO 28 (cM 2),cO 29 (cM 4),cO 30 (call (cF 142) [t 26,t 27,t 28,t 29])]).seq ret) skip)).seq (((ops 0 [cO 31 (cM 3),cO 32 (cB .eql (t 31) (cN 0))]).seq (C2.cond (t 32) ((ops 0 [cO 33 (cM 0),cO 34 (cM 1),cO 35 (cM 2),cO 36 (cM 4),cO 37 (call (cF 143) [t 33,t 34,t 35,t 36])]).seq ret) skip)).seq (((ops 0 [cO 38 (cM 10),cO 39 (un UnOp.not (t 38))]).seq (C2.cond (t 39) ((ops 0 [cO 40 (cM 0),cO 41 (cM 1),cO 42 (cM 2),cO 43 (cM 4),cO 44 (call (cF 144) [t 40,t 41,t 42,t 43])]).seq (ops 0 [cO 45 (cM 3),cO 46 (cB .sub (t 45) (cN 1)),cO 3 (cM 46)])) skip)).seq ((ops 0 [cO 48 (cM 0),cO 49 (cM 1),cO 50 (cM 2),cO 51 (cM 4),cO 52 (call (cF 145) [t 48,t 49,t 50,t 51]),cO 47 (cM 52),cO 53 (ext (t 47) 0),cO 54 (ext (t 47) 1),cO 13 (cM 53),cO 14 (cM 54)]).seq (((ops 0 [cO 55 (cM 14),cO 56 (cB .eql (t 55) (cN 2))]).seq (C2.cond (t 56) ((ops 0 [cO 57 (cM 0),cO 58 (cM 1),cO 59 (cM 2),cO 60 (cM 4),cO 61 (call (cF 146) [t 57,t 58,t 59,t 60])]).seq ((ops 0 [cO 62 (cM 2),cO 63 (cB .sub (t 62) (cN 1)),cO 64 (cM 13),cO 65 (cM 1),cO 66 (cB .sub (t 64) (t 65)),cO 67 (cB .sub (t 63) (t 66)),cO 13 (cM 67)]).seq (ops 0 [cO 14 (mov (cN 1))]))) skip)).seq (((ops 0 [cO 68 (cM 10),cO 69 (cM 68),cG 70 69 true (cM 11),cO 71 (pick (t 69) (t 70) ap),cO 72 (cM 71),cG 73 72 true (cM 14),cG 74 72 true (cB .eql (t 73) (cN 1)),cO 75 (pick (t 72) (t 74) ap)]).seq (C2.cond (t 75) ((ops 0 [cO 76 (cM 0),cO 77 (cM 1),cO 78 (cM 2),cO 79 (cM 4),cO 80 (call (cF 147) [t 76,t 77,t 78,t 79])]).seq (C2.cond (t 80) ret skip)) skip)).seq (((mixS 1 [cO 81 (cM 1),cO 82 (cB .gtr (t 81) (cN 0)),cO 83 (cM 82),cG 84 83 true (cM 4),cG 85 83 true (cM 0),cG 86 83 true (cM 1),cG 87 83 true (cB .sub (t 86) (cN 1)),cG 88 83 true (ixaS 1 (t 85) (t 87)),cG 89 83 true (cD 88),cG 90 83 true (cM 0),cG 91 83 true (cM 13),cG 92 83 true (ixaS 1 (t 90) (t 91)),cG 93 83 true (cD 92),cG 94 83 true (call (t 84) [t 89,t 93]),cG 95 83 true (cB .lss (t 94) (cN 0)),cG 96 83 true (un UnOp.not (t 95)),cO 97 (pick (t 83) (t 96) ap)] [(0,0),(1,0),(2,0),(3,0),(4,0),(5,0),(6,0),(7,0),(8,0),(9,0),(10,0),(11,0),(12,0),(13,2),(14,0),(15,0),(16,0)]).seq (C2.cond (t 97) ((ops 0 [cO 98 (cM 0),cO 99 (cM 1),cO 100 (cM 2),cO 101 (cM 13),cO 102 (cM 4),cO 103 (call (cF 148) [t 98,t 99,t 100,t 101,t 102]),cO 15 (cM 103)]).seq ((ops 0 [cO 104 (cM 15),cO 1 (cM 104)]).seq (exit 1))) skip)).seq ((ops 0 [cO 106 (cM 0),cO 107 (cM 1),cO 108 (cM 2),cO 109 (cM 13),cO 110 (cM 4),cO 111 (call (cF 149) [t 106,t 107,t 108,t 109,t 110]),cO 105 (cM 111),cO 112 (ext (t 105) 0),cO 113 (ext (t 105) 1),cO 16 (cM 112),cO 17 (cM 113)]).seq ((ops 0 [cO 114 (cM 17),cO 11 (cM 114)]).seq ((ops 0 [cO 115 (cM 16),cO 116 (cM 1),cO 117 (cB .sub (t 115) (t 116)),cO 118 (cM 2),cO 119 (cM 16),cO 120 (cB .sub (t 118) (t 119)),cO 18 (cM 117),cO 19 (cM 120)]).seq ((ops 0 [cO 121 (cM 12),cO 122 (cB .quo (t 121) (cN 8)),cO 20 (cM 122)]).seq ((ops 0 [cO 123 (cM 18),cO 124 (cM 19),cO 125 (cB .lss (t 123) (t 124))]).seq (C2.cond (t 125) ((ops 0 [cO 126 (cM 18),cO 127 (cM 20),cO 128 (cB .geq (t 126) (t 127)),cO 10 (cM 128)]).seq ((ops 0 [cO 129 (cM 0),cO 130 (cM 1),cO 131 (cM 16),cO 132 (cM 3),cO 133 (cM 4),cO 134 (call (cF 129) [t 129,t 130,t 131,t 132,t 133])]).seq (ops 0 [cO 135 (cM 16),cO 136 (cB .add (t 135) (cN 1)),cO 1 (cM 136)]))) ((ops 0 [cO 137 (cM 19),cO 138 (cM 20),cO 139 (cB .geq (t 137) (t 138)),cO 10 (cM 139)]).seq ((ops 0 [cO 140 (cM 0),cO 141 (cM 16),cO 142 (cB .add (t 141) (cN 1)),cO 143 (cM 2),cO 144 (cM 3),cO 145 (cM 4),cO 146 (call (cF 129) [t 140,t 142,t 143,t 144,t 145])]).seq (ops 0 [cO 147 (cM 16),cO 2 (cM 147)])))))))))))))))))).loop))))
theorem wH:Is Tryz.prog 129 wV:=Is.mk' Tryz.func129 (by kernel_rfl)
def vj:F2:=(F2.mk 6 [RV.t 2] ((ops 0 [cO 2 (mov ap)]).seq ((ops 0 [cO 3 (cM 0),cO 4 (cM 0),cO 5 (cB .neq (t 3) (t 4)),cO 2 (cM 5)]).seq ret)))
theorem uH:Is Tryz.prog 130 vj:=Is.mk' Tryz.func130 (by kernel_rfl)
def vE:F2:=(F2.mk 53 [] ((ops 0 [cO 10 (cM 1),cO 11 (cB .add (t 10) (cN 1)),cO 8 (cM 11)]).seq (block 0 (((ops 0 [cO 12 (cM 8),cO 13 (cM 2),cO 14 (cB .lss (t 12) (t 13))]).seq (C2.cond (t 14) skip (exit 0))).seq ((block 1 ((ops 0 [cO 17 (cM 8),cO 9 (cM 17)]).seq (block 2 (((mixS 1 [cO 18 (cM 9),cO 19 (cM 1),cO 20 (cB .gtr (t 18) (t 19)),cO 21 (cM 20),cG 22 21 true (cM 3),cG 23 21 true (cM 0),cG 24 21 true (cM 9),cG 25 21 true (ixaS 2 (t 23) (t 24)),cG 26 21 true (ldn 2 (t 25)),cG 27 21 true (cM 0),cG 28 21 true (cM 9),cG 29 21 true (cB .sub (t 28) (cN 1)),cG 30 21 true (ixaS 2 (t 27) (t 29)),cG 31 21 true (ldn 2 (t 30)),cG 32 21 true (call (t 22) [t 26,t 31]),cG 33 21 true (cB .lss (t 32) (cN 0)),cO 34 (pick (t 21) (t 33) ap)] [(0,0),(1,0),(2,0),(3,0),(4,0),(5,0),(6,0),(7,0),(8,0),(9,0),(10,0),(11,0),(12,0),(13,0),(14,2),(15,0),(16,0)]).seq (C2.cond (t 34) skip (exit 2))).seq ((block 3 (ops 1 [cO 37 (cM 0),cO 38 (cM 9),cO 39 (cM 0),cO 40 (cM 9),cO 41 (cB .sub (t 40) (cN 1)),cO 42 (cM 0),cO 43 (cM 9),cO 44 (cB .sub (t 43) (cN 1)),cO 45 (ixaS 2 (t 42) (t 44)),cO 46 (ldn 2 (t 45)),cO 47 (cM 0),cO 48 (cM 9),cO 49 (ixaS 2 (t 47) (t 48)),cO 50 (ldn 2 (t 49)),cO 51 (ixaS 2 (t 37) (t 38)),Op2.mk none none (Ins.st 2 (t 51) (t 46)),cO 52 (ixaS 2 (t 39) (t 41)),Op2.mk none none (Ins.st 2 (t 52) (t 50))])).seq (ops 0 [cO 35 (cM 9),cO 36 (cB .sub (t 35) (cN 1)),cO 9 (cM 36)]))).loop))).seq (ops 0 [cO 15 (cM 8),cO 16 (cB .add (t 15) (cN 1)),cO 8 (cM 16)]))).loop)))
theorem ul:Is Tryz.prog 132 vE:=Is.mk' Tryz.func132 (by kernel_rfl)
def v8:F2:=(F2.mk 60 [] ((ops 0 [cO 13 (cM 1),cO 8 (cM 13)]).seq ((ops 0 [cO 9 (mov (cN 0))]).seq ((ops 0 [cO 14 (cM 2),cO 15 (cM 1),cO 16 (cB .sub (t 14) (t 15)),cO 10 (cM 16)]).seq (((ops 0 [cO 17 (cM 10),cO 18 (cB .sub (t 17) (cN 1)),cO 19 (cB .quo (t 18) (cN 2)),cO 11 (cM 19)]).seq (block 0 (((ops 0 [cO 20 (cM 11),cO 21 (cB .geq (t 20) (cN 0))]).seq (C2.cond (t 21) skip (exit 0))).seq ((block 1 (ops 0 [cO 24 (cM 0),cO 25 (cM 11),cO 26 (cM 10),cO 27 (cM 8),cO 28 (cM 3),cO 29 (call (cF 150) [t 24,t 25,t 26,t 27,t 28])])).seq (ops 0 [cO 22 (cM 11),cO 23 (cB .sub (t 22) (cN 1)),cO 11 (cM 23)]))).loop)).seq ((ops 0 [cO 30 (cM 10),cO 31 (cB .sub (t 30) (cN 1)),cO 12 (cM 31)]).seq (block 2 (((ops 0 [cO 32 (cM 12),cO 33 (cB .geq (t 32) (cN 0))]).seq (C2.cond (t 33) skip (exit 2))).seq ((block 3 ((ops 1 [cO 36 (cM 0),cO 37 (cM 8),cO 38 (cM 0),cO 39 (cM 8),cO 40 (cM 12),cO 41 (cB .add (t 39) (t 40)),cO 42 (cM 0),cO 43 (cM 8),cO 44 (cM 12),cO 45 (cB .add (t 43) (t 44)),cO 46 (ixaS 2 (t 42) (t 45)),cO 47 (ldn 2 (t 46)),cO 48 (cM 0),cO 49 (cM 8),cO 50 (ixaS 2 (t 48) (t 49)),cO 51 (ldn 2 (t 50)),cO 52 (ixaS 2 (t 36) (t 37)),Op2.mk none none (Ins.st 2 (t 52) (t 47)),cO 53 (ixaS 2 (t 38) (t 41)),Op2.mk none none (Ins.st 2 (t 53) (t 51))]).seq (ops 0 [cO 54 (cM 0),cO 55 (cM 9),cO 56 (cM 12),cO 57 (cM 8),cO 58 (cM 3),cO 59 (call (cF 150) [t 54,t 55,t 56,t 57,t 58])]))).seq (ops 0 [cO 34 (cM 12),cO 35 (cB .sub (t 34) (cN 1)),cO 12 (cM 35)]))).loop)))))))
theorem xN:Is Tryz.prog 133 v8:=Is.mk' Tryz.func133 (by kernel_rfl)
def xl:F2:=(F2.mk 67 [] ((ops 0 [cO 13 (cM 2),cO 14 (cM 1),cO 15 (cB .sub (t 13) (t 14)),cO 8 (cM 15)]).seq ((ops 0 [cO 16 (cM 8),cO 17 (cB .geq (t 16) (cN 8))]).seq (C2.cond (t 17) ((ops 0 [cO 18 (cM 8),cO 19 (conv IntKind.u64 (t 18)),cO 9 (alloc (AV.int IntKind.u64 (0))),Op2.mk none none (Ins.st 1 (t 9) (t 19))]).seq ((ops 0 [cO 20 (cM 8),cO 21 (call (cF 151) [t 20]),cO 10 (cM 21)]).seq ((ops 0 [cO 22 (cM 1),cO 23 (cM 8),cO 24 (cB .quo (t 23) (cN 4)),cO 25 (cB .mul (t 24) (cN 2)),cO 26 (cB .add (t 22) (t 25)),cO 27 (cB .sub (t 26) (cN 1)),cO 11 (cM 27)]).seq (block 0 (((ops 0 [cO 28 (cM 11),cO 29 (cM 1),cO 30 (cM 8),cO 31 (cB .quo (t 30) (cN 4)),cO 32 (cB .mul (t 31) (cN 2)),cO 33 (cB .add (t 29) (t 32)),cO 34 (cB .add (t 33) (cN 1)),cO 35 (cB .leq (t 28) (t 34))]).seq (C2.cond (t 35) skip (exit 0))).seq ((block 1 ((ops 0 [cO 38 (call (cF 152) [t 9]),cO 39 (cM 10),cO 40 (cB .sub (t 39) (c (AV.int IntKind.u64 (1)))),cO 41 (cB .and (t 38) (t 40)),cO 42 (conv IntKind.i64 (t 41)),cO 12 (cM 42)]).seq (((ops 0 [cO 43 (cM 12),cO 44 (cM 8),cO 45 (cB .geq (t 43) (t 44))]).seq (C2.cond (t 45) (ops 0 [cO 46 (cM 12),cO 47 (cM 8),cO 48 (cB .sub (t 46) (t 47)),cO 12 (cM 48)]) skip)).seq (ops 1 [cO 49 (cM 0),cO 50 (cM 11),cO 51 (cM 0),cO 52 (cM 1),cO 53 (cM 12),cO 54 (cB .add (t 52) (t 53)),cO 55 (cM 0),cO 56 (cM 1),cO 57 (cM 12),cO 58 (cB .add (t 56) (t 57)),cO 59 (ixaS 2 (t 55) (t 58)),cO 60 (ldn 2 (t 59)),cO 61 (cM 0),cO 62 (cM 11),cO 63 (ixaS 2 (t 61) (t 62)),cO 64 (ldn 2 (t 63)),cO 65 (ixaS 2 (t 49) (t 50)),Op2.mk none none (Ins.st 2 (t 65) (t 60)),cO 66 (ixaS 2 (t 51) (t 54)),Op2.mk none none (Ins.st 2 (t 66) (t 64))])))).seq (ops 0 [cO 36 (cM 11),cO 37 (cB .add (t 36) (cN 1)),cO 11 (cM 37)]))).loop)))) skip))))
theorem wP:Is Tryz.prog 134 xl:=Is.mk' Tryz.func134 (by kernel_rfl)
def v5:F2:=(F2.mk 63 [RV.t 8,RV.t 9] ((ops 0 [cO 8 (mov (cN 0)),cO 9 (mov (cN 0))]).seq ((ops 0 [cO 15 (cM 2),cO 16 (cM 1),cO 17 (cB .sub (t 15) (t 16)),cO 10 (cM 17)]).seq ((ops 0 [cO 11 (alloc (AV.int IntKind.i64 (0)))]).seq ((ops 0 [cO 18 (cM 1),cO 19 (cM 10),cO 20 (cB .quo (t 19) (cN 4)),cO 21 (cB .mul (t 20) (cN 1)),cO 22 (cB .add (t 18) (t 21)),cO 12 (cM 22)]).seq ((ops 0 [cO 23 (cM 1),cO 24 (cM 10),cO 25 (cB .quo (t 24) (cN 4)),cO 26 (cB .mul (t 25) (cN 2)),cO 27 (cB .add (t 23) (t 26)),cO 13 (cM 27)]).seq ((ops 0 [cO 28 (cM 1),cO 29 (cM 10),cO 30 (cB .quo (t 29) (cN 4)),cO 31 (cB .mul (t 30) (cN 3)),cO 32 (cB .add (t 28) (t 31)),cO 14 (cM 32)]).seq (((ops 0 [cO 33 (cM 10),cO 34 (cB .geq (t 33) (cN 8))]).seq (C2.cond (t 34) (((ops 0 [cO 35 (cM 10),cO 36 (cB .geq (t 35) (cN 50))]).seq (C2.cond (t 36) ((ops 0 [cO 37 (cM 0),cO 38 (cM 12),cO 39 (cM 3),cO 40 (call (cF 153) [t 37,t 38,t 11,t 39]),cO 12 (cM 40)]).seq ((ops 0 [cO 41 (cM 0),cO 42 (cM 13),cO 43 (cM 3),cO 44 (call (cF 153) [t 41,t 42,t 11,t 43]),cO 13 (cM 44)]).seq (ops 0 [cO 45 (cM 0),cO 46 (cM 14),cO 47 (cM 3),cO 48 (call (cF 153) [t 45,t 46,t 11,t 47]),cO 14 (cM 48)]))) skip)).seq (ops 0 [cO 49 (cM 0),cO 50 (cM 12),cO 51 (cM 13),cO 52 (cM 14),cO 53 (cM 3),cO 54 (call (cF 154) [t 49,t 50,t 51,t 52,t 11,t 53]),cO 13 (cM 54)])) skip)).seq ((ops 0 [cO 55 (cD 11)]).seq (block 0 ((ops 0 [cO 58 (cB .eql (t 55) (cN 0)),cO 57 (cM 58)]).seq (C2.cond (t 57) ((ops 0 [cO 59 (cM 13),cO 8 (cM 59),cO 9 (mov (cN 1))]).seq ret) ((ops 0 [cO 61 (cB .eql (t 55) (cN 12)),cO 60 (cM 61)]).seq (C2.cond (t 60) ((ops 0 [cO 62 (cM 13),cO 8 (cM 62),cO 9 (mov (cN 2))]).seq ret) ((ops 0 [cO 56 (cM 13),cO 8 (cM 56),cO 9 (mov (cN 0))]).seq ret)))))))))))))))
theorem xL:Is Tryz.prog 135 v5:=Is.mk' Tryz.func135 (by kernel_rfl)
def ws:F2:=(F2.mk 34 [] ((ops 0 [cO 10 (cM 1),cO 8 (cM 10)]).seq ((ops 0 [cO 11 (cM 2),cO 12 (cB .sub (t 11) (cN 1)),cO 9 (cM 12)]).seq (block 0 (((ops 0 [cO 13 (cM 8),cO 14 (cM 9),cO 15 (cB .lss (t 13) (t 14))]).seq (C2.cond (t 15) skip (exit 0))).seq (block 1 ((ops 1 [cO 16 (cM 0),cO 17 (cM 8),cO 18 (cM 0),cO 19 (cM 9),cO 20 (cM 0),cO 21 (cM 9),cO 22 (ixaS 2 (t 20) (t 21)),cO 23 (ldn 2 (t 22)),cO 24 (cM 0),cO 25 (cM 8),cO 26 (ixaS 2 (t 24) (t 25)),cO 27 (ldn 2 (t 26)),cO 28 (ixaS 2 (t 16) (t 17)),Op2.mk none none (Ins.st 2 (t 28) (t 23)),cO 29 (ixaS 2 (t 18) (t 19)),Op2.mk none none (Ins.st 2 (t 29) (t 27))]).seq ((ops 0 [cO 30 (cM 8),cO 31 (cB .add (t 30) (cN 1)),cO 8 (cM 31)]).seq (ops 0 [cO 32 (cM 9),cO 33 (cB .sub (t 32) (cN 1)),cO 9 (cM 33)]))))).loop))))
theorem w9:Is Tryz.prog 136 ws:=Is.mk' Tryz.func136 (by kernel_rfl)
def wF:F2:=(F2.mk 141 [RV.t 8] ((ops 0 [cO 8 (mov ap)]).seq ((ops 0 [cO 13 (cM 1),cO 14 (cB .add (t 13) (cN 1)),cO 9 (cM 14)]).seq (((ops 0 [cO 10 (mov (cN 0))]).seq (block 0 (((ops 0 [cO 15 (cM 10),cO 16 (cB .lss (t 15) (cN 5))]).seq (C2.cond (t 16) skip (exit 0))).seq ((block 1 ((block 2 (((mixS 1 [cO 19 (cM 9),cO 20 (cM 2),cO 21 (cB .lss (t 19) (t 20)),cO 22 (cM 21),cG 23 22 true (cM 3),cG 24 22 true (cM 0),cG 25 22 true (cM 9),cG 26 22 true (ixaS 2 (t 24) (t 25)),cG 27 22 true (ldn 2 (t 26)),cG 28 22 true (cM 0),cG 29 22 true (cM 9),cG 30 22 true (cB .sub (t 29) (cN 1)),cG 31 22 true (ixaS 2 (t 28) (t 30)),cG 32 22 true (ldn 2 (t 31)),cG 33 22 true (call (t 23) [t 27,t 32]),cG 34 22 true (cB .lss (t 33) (cN 0)),cG 35 22 true (un UnOp.not (t 34)),cO 36 (pick (t 22) (t 35) ap)] [(0,0),(1,0),(2,0),(3,0),(4,0),(5,0),(6,0),(7,0),(8,0),(9,0),(10,0),(11,0),(12,0),(13,0),(14,2),(15,0),(16,0),(17,0)]).seq (C2.cond (t 36) skip (exit 2))).seq (block 3 (ops 0 [cO 37 (cM 9),cO 38 (cB .add (t 37) (cN 1)),cO 9 (cM 38)]))).loop).seq (((ops 0 [cO 39 (cM 9),cO 40 (cM 2),cO 41 (cB .eql (t 39) (t 40))]).seq (C2.cond (t 41) ((ops 0 [cO 8 (mov aH)]).seq ret) skip)).seq (((ops 0 [cO 42 (cM 2),cO 43 (cM 1),cO 44 (cB .sub (t 42) (t 43)),cO 45 (cB .lss (t 44) (cN 50))]).seq (C2.cond (t 45) ((ops 0 [cO 8 (mov ap)]).seq ret) skip)).seq ((ops 1 [cO 46 (cM 0),cO 47 (cM 9),cO 48 (cM 0),cO 49 (cM 9),cO 50 (cB .sub (t 49) (cN 1)),cO 51 (cM 0),cO 52 (cM 9),cO 53 (cB .sub (t 52) (cN 1)),cO 54 (ixaS 2 (t 51) (t 53)),cO 55 (ldn 2 (t 54)),cO 56 (cM 0),cO 57 (cM 9),cO 58 (ixaS 2 (t 56) (t 57)),cO 59 (ldn 2 (t 58)),cO 60 (ixaS 2 (t 46) (t 47)),Op2.mk none none (Ins.st 2 (t 60) (t 55)),cO 61 (ixaS 2 (t 48) (t 50)),Op2.mk none none (Ins.st 2 (t 61) (t 59))]).seq (((ops 0 [cO 62 (cM 9),cO 63 (cM 1),cO 64 (cB .sub (t 62) (t 63)),cO 65 (cB .geq (t 64) (cN 2))]).seq (C2.cond (t 65) ((ops 0 [cO 66 (cM 9),cO 67 (cB .sub (t 66) (cN 1)),cO 11 (cM 67)]).seq (block 4 (((ops 0 [cO 68 (cM 11),cO 69 (cB .geq (t 68) (cN 1))]).seq (C2.cond (t 69) skip (exit 4))).seq ((block 5 (((mixS 1 [cO 72 (cM 3),cO 73 (cM 0),cO 74 (cM 11),cO 75 (ixaS 2 (t 73) (t 74)),cO 76 (ldn 2 (t 75)),cO 77 (cM 0),cO 78 (cM 11),cO 79 (cB .sub (t 78) (cN 1)),cO 80 (ixaS 2 (t 77) (t 79)),cO 81 (ldn 2 (t 80)),cO 82 (call (t 72) [t 76,t 81]),cO 83 (cB .lss (t 82) (cN 0)),cO 84 (un UnOp.not (t 83))] [(0,0),(1,0),(2,0),(3,0),(4,0),(5,0),(6,0),(7,0),(8,0),(9,0),(10,2),(11,0),(12,0)]).seq (C2.cond (t 84) (exit 4) skip)).seq (ops 1 [cO 85 (cM 0),cO 86 (cM 11),cO 87 (cM 0),cO 88 (cM 11),cO 89 (cB .sub (t 88) (cN 1)),cO 90 (cM 0),cO 91 (cM 11),cO 92 (cB .sub (t 91) (cN 1)),cO 93 (ixaS 2 (t 90) (t 92)),cO 94 (ldn 2 (t 93)),cO 95 (cM 0),cO 96 (cM 11),cO 97 (ixaS 2 (t 95) (t 96)),cO 98 (ldn 2 (t 97)),cO 99 (ixaS 2 (t 85) (t 86)),Op2.mk none none (Ins.st 2 (t 99) (t 94)),cO 100 (ixaS 2 (t 87) (t 89)),Op2.mk none none (Ins.st 2 (t 100) (t 98))]))).seq (ops 0 [cO 70 (cM 11),cO 71 (cB .sub (t 70) (cN 1)),cO 11 (cM 71)]))).loop)) skip)).seq ((ops 0 [cO 101 (cM 2),cO 102 (cM 9),cO 103 (cB .sub (t 101) (t 102)),cO 104 (cB .geq (t 103) (cN 2))]).seq (C2.cond (t 104) ((ops 0 [cO 105 (cM 9),cO 106 (cB .add (t 105) (cN 1)),cO 12 (cM 106)]).seq (block 6 (((ops 0 [cO 107 (cM 12),cO 108 (cM 2),cO 109 (cB .lss (t 107) (t 108))]).seq (C2.cond (t 109) skip (exit 6))).seq ((block 7 (((mixS 1 [cO 112 (cM 3),cO 113 (cM 0),cO 114 (cM 12),cO 115 (ixaS 2 (t 113) (t 114)),cO 116 (ldn 2 (t 115)),cO 117 (cM 0),cO 118 (cM 12),cO 119 (cB .sub (t 118) (cN 1)),cO 120 (ixaS 2 (t 117) (t 119)),cO 121 (ldn 2 (t 120)),cO 122 (call (t 112) [t 116,t 121]),cO 123 (cB .lss (t 122) (cN 0)),cO 124 (un UnOp.not (t 123))] [(0,0),(1,0),(2,0),(3,0),(4,0),(5,0),(6,0),(7,0),(8,0),(9,0),(10,2),(11,0),(12,0)]).seq (C2.cond (t 124) (exit 6) skip)).seq (ops 1 [cO 125 (cM 0),cO 126 (cM 12),cO 127 (cM 0),cO 128 (cM 12),cO 129 (cB .sub (t 128) (cN 1)),cO 130 (cM 0),cO 131 (cM 12),cO 132 (cB .sub (t 131) (cN 1)),cO 133 (ixaS 2 (t 130) (t 132)),cO 134 (ldn 2 (t 133)),cO 135 (cM 0),cO 136 (cM 12),cO 137 (ixaS 2 (t 135) (t 136)),cO 138 (ldn 2 (t 137)),cO 139 (ixaS 2 (t 125) (t 126)),Op2.mk none none (Ins.st 2 (t 139) (t 134)),cO 140 (ixaS 2 (t 127) (t 129)),Op2.mk none none (Ins.st 2 (t 140) (t 138))]))).seq (ops 0 [cO 110 (cM 12),cO 111 (cB .add (t 110) (cN 1)),cO 12 (cM 111)]))).loop)) skip)))))))).seq (ops 0 [cO 17 (cM 10),cO 18 (cB .add (t 17) (cN 1)),cO 10 (cM 18)]))).loop)).seq ((ops 0 [cO 8 (mov ap)]).seq ret)))))
theorem xx:Is Tryz.prog 137 wF:=Is.mk' Tryz.func137 (by kernel_rfl)
def xn:F2:=(F2.mk 90 [RV.t 10] ((ops 0 [cO 10 (mov (cN 0))]).seq ((ops 1 [cO 13 (cM 0),cO 14 (cM 1),cO 15 (cM 0),cO 16 (cM 3),cO 17 (cM 0),cO 18 (cM 3),cO 19 (ixaS 2 (t 17) (t 18)),cO 20 (ldn 2 (t 19)),cO 21 (cM 0),cO 22 (cM 1),cO 23 (ixaS 2 (t 21) (t 22)),cO 24 (ldn 2 (t 23)),cO 25 (ixaS 2 (t 13) (t 14)),Op2.mk none none (Ins.st 2 (t 25) (t 20)),cO 26 (ixaS 2 (t 15) (t 16)),Op2.mk none none (Ins.st 2 (t 26) (t 24))]).seq ((ops 0 [cO 27 (cM 1),cO 28 (cB .add (t 27) (cN 1)),cO 29 (cM 2),cO 30 (cB .sub (t 29) (cN 1)),cO 11 (cM 28),cO 12 (cM 30)]).seq ((block 0 (block 1 ((block 2 (((mixS 1 [cO 31 (cM 11),cO 32 (cM 12),cO 33 (cB .leq (t 31) (t 32)),cO 34 (cM 33),cG 35 34 true (cM 4),cG 36 34 true (cM 0),cG 37 34 true (cM 1),cG 38 34 true (ixaS 2 (t 36) (t 37)),cG 39 34 true (ldn 2 (t 38)),cG 40 34 true (cM 0),cG 41 34 true (cM 11),cG 42 34 true (ixaS 2 (t 40) (t 41)),cG 43 34 true (ldn 2 (t 42)),cG 44 34 true (call (t 35) [t 39,t 43]),cG 45 34 true (cB .lss (t 44) (cN 0)),cG 46 34 true (un UnOp.not (t 45)),cO 47 (pick (t 34) (t 46) ap)] [(0,0),(1,0),(2,0),(3,0),(4,0),(5,0),(6,0),(7,0),(8,0),(9,0),(10,0),(11,0),(12,0),(13,2),(14,0),(15,0),(16,0)]).seq (C2.cond (t 47) skip (exit 2))).seq (block 3 (ops 0 [cO 48 (cM 11),cO 49 (cB .add (t 48) (cN 1)),cO 11 (cM 49)]))).loop).seq ((block 4 (((mixS 1 [cO 50 (cM 11),cO 51 (cM 12),cO 52 (cB .leq (t 50) (t 51)),cO 53 (cM 52),cG 54 53 true (cM 4),cG 55 53 true (cM 0),cG 56 53 true (cM 1),cG 57 53 true (ixaS 2 (t 55) (t 56)),cG 58 53 true (ldn 2 (t 57)),cG 59 53 true (cM 0),cG 60 53 true (cM 12),cG 61 53 true (ixaS 2 (t 59) (t 60)),cG 62 53 true (ldn 2 (t 61)),cG 63 53 true (call (t 54) [t 58,t 62]),cG 64 53 true (cB .lss (t 63) (cN 0)),cO 65 (pick (t 53) (t 64) ap)] [(0,0),(1,0),(2,0),(3,0),(4,0),(5,0),(6,0),(7,0),(8,0),(9,0),(10,0),(11,0),(12,0),(13,2),(14,0),(15,0)]).seq (C2.cond (t 65) skip (exit 4))).seq (block 5 (ops 0 [cO 66 (cM 12),cO 67 (cB .sub (t 66) (cN 1)),cO 12 (cM 67)]))).loop).seq (((ops 0 [cO 68 (cM 11),cO 69 (cM 12),cO 70 (cB .gtr (t 68) (t 69))]).seq (C2.cond (t 70) (exit 0) skip)).seq ((ops 1 [cO 71 (cM 0),cO 72 (cM 11),cO 73 (cM 0),cO 74 (cM 12),cO 75 (cM 0),cO 76 (cM 12),cO 77 (ixaS 2 (t 75) (t 76)),cO 78 (ldn 2 (t 77)),cO 79 (cM 0),cO 80 (cM 11),cO 81 (ixaS 2 (t 79) (t 80)),cO 82 (ldn 2 (t 81)),cO 83 (ixaS 2 (t 71) (t 72)),Op2.mk none none (Ins.st 2 (t 83) (t 78)),cO 84 (ixaS 2 (t 73) (t 74)),Op2.mk none none (Ins.st 2 (t 84) (t 82))]).seq ((ops 0 [cO 85 (cM 11),cO 86 (cB .add (t 85) (cN 1)),cO 11 (cM 86)]).seq (ops 0 [cO 87 (cM 12),cO 88 (cB .sub (t 87) (cN 1)),cO 12 (cM 88)]))))))).loop).seq ((ops 0 [cO 89 (cM 11),cO 10 (cM 89)]).seq ret))))))
theorem wa:Is Tryz.prog 138 xn:=Is.mk' Tryz.func138 (by kernel_rfl)
def v9:F2:=(F2.mk 178 [RV.t 10,RV.t 11] ((ops 0 [cO 10 (mov (cN 0)),cO 11 (mov ap)]).seq ((ops 1 [cO 14 (cM 0),cO 15 (cM 1),cO 16 (cM 0),cO 17 (cM 3),cO 18 (cM 0),cO 19 (cM 3),cO 20 (ixaS 2 (t 18) (t 19)),cO 21 (ldn 2 (t 20)),cO 22 (cM 0),cO 23 (cM 1),cO 24 (ixaS 2 (t 22) (t 23)),cO 25 (ldn 2 (t 24)),cO 26 (ixaS 2 (t 14) (t 15)),Op2.mk none none (Ins.st 2 (t 26) (t 21)),cO 27 (ixaS 2 (t 16) (t 17)),Op2.mk none none (Ins.st 2 (t 27) (t 25))]).seq ((ops 0 [cO 28 (cM 1),cO 29 (cB .add (t 28) (cN 1)),cO 30 (cM 2),cO 31 (cB .sub (t 30) (cN 1)),cO 12 (cM 29),cO 13 (cM 31)]).seq ((block 0 (((mixS 1 [cO 32 (cM 12),cO 33 (cM 13),cO 34 (cB .leq (t 32) (t 33)),cO 35 (cM 34),cG 36 35 true (cM 4),cG 37 35 true (cM 0),cG 38 35 true (cM 12),cG 39 35 true (ixaS 2 (t 37) (t 38)),cG 40 35 true (ldn 2 (t 39)),cG 41 35 true (cM 0),cG 42 35 true (cM 1),cG 43 35 true (ixaS 2 (t 41) (t 42)),cG 44 35 true (ldn 2 (t 43)),cG 45 35 true (call (t 36) [t 40,t 44]),cG 46 35 true (cB .lss (t 45) (cN 0)),cO 47 (pick (t 35) (t 46) ap)] [(0,0),(1,0),(2,0),(3,0),(4,0),(5,0),(6,0),(7,0),(8,0),(9,0),(10,0),(11,0),(12,0),(13,2),(14,0),(15,0)]).seq (C2.cond (t 47) skip (exit 0))).seq (block 1 (ops 0 [cO 48 (cM 12),cO 49 (cB .add (t 48) (cN 1)),cO 12 (cM 49)]))).loop).seq ((block 2 (((mixS 1 [cO 50 (cM 12),cO 51 (cM 13),cO 52 (cB .leq (t 50) (t 51)),cO 53 (cM 52),cG 54 53 true (cM 4),cG 55 53 true (cM 0),cG 56 53 true (cM 13),cG 57 53 true (ixaS 2 (t 55) (t 56)),cG 58 53 true (ldn 2 (t 57)),cG 59 53 true (cM 0),cG 60 53 true (cM 1),cG 61 53 true (ixaS 2 (t 59) (t 60)),cG 62 53 true (ldn 2 (t 61)),cG 63 53 true (call (t 54) [t 58,t 62]),cG 64 53 true (cB .lss (t 63) (cN 0)),cG 65 53 true (un UnOp.not (t 64)),cO 66 (pick (t 53) (t 65) ap)] [(0,0),(1,0),(2,0),(3,0),(4,0),(5,0),(6,0),(7,0),(8,0),(9,0),(10,0),(11,0),(12,0),(13,2),(14,0),(15,0),(16,0)]).seq (C2.cond (t 66) skip (exit 2))).seq (block 3 (ops 0 [cO 67 (cM 13),cO 68 (cB .sub (t 67) (cN 1)),cO 13 (cM 68)]))).loop).seq (((ops 0 [cO 69 (cM 12),cO 70 (cM 13),cO 71 (cB .gtr (t 69) (t 70))]).seq (C2.cond (t 71) ((ops 1 [cO 72 (cM 0),cO 73 (cM 13),cO 74 (cM 0),cO 75 (cM 1),cO 76 (cM 0),cO 77 (cM 1),cO 78 (ixaS 2 (t 76) (t 77)),cO 79 (ldn 2 (t 78)),cO 80 (cM 0),cO 81 (cM 13),cO 82 (ixaS 2 (t 80) (t 81)),cO 83 (ldn 2 (t 82)),cO 84 (ixaS 2 (t 72) (t 73)),Op2.mk none none (Ins.st 2 (t 84) (t 79)),cO 85 (ixaS 2 (t 74) (t 75)),Op2.mk none none (Ins.st 2 (t 85) (t 83))]).seq ((ops 0 [cO 86 (cM 13),cO 10 (cM 86),cO 11 (mov aH)]).seq ret)) skip)).seq ((ops 1 [cO 87 (cM 0),cO 88 (cM 12),cO 89 (cM 0),cO 90 (cM 13),cO 91 (cM 0),cO 92 (cM 13),cO 93 (ixaS 2 (t 91) (t 92)),cO 94 (ldn 2 (t 93)),cO 95 (cM 0),cO 96 (cM 12),cO 97 (ixaS 2 (t 95) (t 96)),cO 98 (ldn 2 (t 97)),cO 99 (ixaS 2 (t 87) (t 88)),Op2.mk none none (Ins.st 2 (t 99) (t 94)),cO 100 (ixaS 2 (t 89) (t 90)),Op2.mk none none (Ins.st 2 (t 100) (t 98))]).seq ((ops 0 [cO 101 (cM 12),cO 102 (cB .add (t 101) (cN 1)),cO 12 (cM 102)]).seq ((ops 0 [cO 103 (cM 13),cO 104 (cB .sub (t 103) (cN 1)),cO 13 (cM 104)]).seq ((block 4 (block 5 ((block 6 (((mixS 1 [cO 105 (cM 12),cO 106 (cM 13),cO 107 (cB .leq (t 105) (t 106)),cO 108 (cM 107),cG 109 108 true (cM 4),cG 110 108 true (cM 0),cG 111 108 true (cM 12),cG 112 108 true (ixaS 2 (t 110) (t 111)),cG 113 108 true (ldn 2 (t 112)),cG 114 108 true (cM 0),cG 115 108 true (cM 1),cG 116 108 true (ixaS 2 (t 114) (t 115)),cG 117 108 true (ldn 2 (t 116)),cG 118 108 true (call (t 109) [t 113,t 117]),cG 119 108 true (cB .lss (t 118) (cN 0)),cO 120 (pick (t 108) (t 119) ap)] [(0,0),(1,0),(2,0),(3,0),(4,0),(5,0),(6,0),(7,0),(8,0),(9,0),(10,0),(11,0),(12,0),(13,2),(14,0),(15,0)]).seq (C2.cond (t 120) skip (exit 6))).seq (block 7 (ops 0 [cO 121 (cM 12),cO 122 (cB .add (t 121) (cN 1)),cO 12 (cM 122)]))).loop).seq ((block 8 (((mixS 1 [cO 123 (cM 12),cO 124 (cM 13),cO 125 (cB .leq (t 123) (t 124)),cO 126 (cM 125),cG 127 126 true (cM 4),cG 128 126 true (cM 0),cG 129 126 true (cM 13),cG 130 126 true (ixaS 2 (t 128) (t 129)),cG 131 126 true (ldn 2 (t 130)),cG 132 126 true (cM 0),cG 133 126 true (cM 1),cG 134 126 true (ixaS 2 (t 132) (t 133)),cG 135 126 true (ldn 2 (t 134)),cG 136 126 true (call (t 127) [t 131,t 135]),cG 137 126 true (cB .lss (t 136) (cN 0)),cG 138 126 true (un UnOp.not (t 137)),cO 139 (pick (t 126) (t 138) ap)] [(0,0),(1,0),(2,0),(3,0),(4,0),(5,0),(6,0),(7,0),(8,0),(9,0),(10,0),(11,0),(12,0),(13,2),(14,0),(15,0),(16,0)]).seq (C2.cond (t 139) skip (exit 8))).seq (block 9 (ops 0 [cO 140 (cM 13),cO 141 (cB .sub (t 140) (cN 1)),cO 13 (cM 141)]))).loop).seq (((ops 0 [cO 142 (cM 12),cO 143 (cM 13),cO 144 (cB .gtr (t 142) (t 143))]).seq (C2.cond (t 144) (exit 4) skip)).seq ((ops 1 [cO 145 (cM 0),cO 146 (cM 12),cO 147 (cM 0),cO 148 (cM 13),cO 149 (cM 0),cO 150 (cM 13),cO 151 (ixaS 2 (t 149) (t 150)),cO 152 (ldn 2 (t 151)),cO 153 (cM 0),cO 154 (cM 12),cO 155 (ixaS 2 (t 153) (t 154)),cO 156 (ldn 2 (t 155)),cO 157 (ixaS 2 (t 145) (t 146)),Op2.mk none none (Ins.st 2 (t 157) (t 152)),cO 158 (ixaS 2 (t 147) (t 148)),Op2.mk none none (Ins.st 2 (t 158) (t 156))]).seq ((ops 0 [cO 159 (cM 12),cO 160 (cB .add (t 159) (cN 1)),cO 12 (cM 160)]).seq (ops 0 [cO 161 (cM 13),cO 162 (cB .sub (t 161) (cN 1)),cO 13 (cM 162)]))))))).loop).seq ((ops 1 [cO 163 (cM 0),cO 164 (cM 13),cO 165 (cM 0),cO 166 (cM 1),cO 167 (cM 0),cO 168 (cM 1),cO 169 (ixaS 2 (t 167) (t 168)),cO 170 (ldn 2 (t 169)),cO 171 (cM 0),cO 172 (cM 13),cO 173 (ixaS 2 (t 171) (t 172)),cO 174 (ldn 2 (t 173)),cO 175 (ixaS 2 (t 163) (t 164)),Op2.mk none none (Ins.st 2 (t 175) (t 170)),cO 176 (ixaS 2 (t 165) (t 166)),Op2.mk none none (Ins.st 2 (t 176) (t 174))]).seq ((ops 0 [cO 177 (cM 13),cO 10 (cM 177),cO 11 (mov ap)]).seq ret)))))))))))))
theorem wD:Is Tryz.prog 139 v9:=Is.mk' Tryz.func139 (by kernel_rfl)
def u4:F2:=(F2.mk 25 [RV.t 2] ((ops 0 [cO 2 (mov (cN 0))]).seq (((ops 0 [cO 3 (cM 0),cO 4 (cB .geq (t 3) (c (AV.int IntKind.u64 (4294967296))))]).seq (C2.cond (t 4) ((ops 0 [cO 5 (cM 0),cO 6 (cB .shr (t 5) (c (AV.int IntKind.u64 (32)))),cO 0 (cM 6)]).seq (ops 0 [cO 2 (mov (cN 32))])) skip)).seq (((ops 0 [cO 7 (cM 0),cO 8 (cB .geq (t 7) (c (AV.int IntKind.u64 (65536))))]).seq (C2.cond (t 8) ((ops 0 [cO 9 (cM 0),cO 10 (cB .shr (t 9) (c (AV.int IntKind.u64 (16)))),cO 0 (cM 10)]).seq (ops 0 [cO 11 (cM 2),cO 12 (cB .add (t 11) (cN 16)),cO 2 (cM 12)])) skip)).seq (((ops 0 [cO 13 (cM 0),cO 14 (cB .geq (t 13) (c (AV.int IntKind.u64 (256))))]).seq (C2.cond (t 14) ((ops 0 [cO 15 (cM 0),cO 16 (cB .shr (t 15) (c (AV.int IntKind.u64 (8)))),cO 0 (cM 16)]).seq (ops 0 [cO 17 (cM 2),cO 18 (cB .add (t 17) (cN 8)),cO 2 (cM 18)])) skip)).seq ((ops 0 [cO 19 (cM 2),cO 20 (cM 0),cO 21 (conv IntKind.u8 (t 20)),cO 22 (ixStr (c (AV.str (ByteArray.mk (Array.mk [0,1,2,2,3,3,3,3,4,4,4,4,4,4,4,4,5,5,5,5,5,5,5,5,5,5,5,5,5,5,5,5,6,6,6,6,6,6,6,6,6,6,6,6,6,6,6,6,6,6,6,6,6,6,6,6,6,6,6,6,6,6,6,6,7,7,7,7,7,7,7,7,7,7,7,7,7,7,7,7,7,7,7,7,7,7,7,7,7,7,7,7,7,7,7,7,7,7,7,7,7,7,7,7,7,7,7,7,7,7,7,7,7,7,7,7,7,7,7,7,7,7,7,7,7,7,7,7,8,8,8,8,8,8,8,8,8,8,8,8,8,8,8,8,8,8,8,8,8,8,8,8,8,8,8,8,8,8,8,8,8,8,8,8,8,8,8,8,8,8,8,8,8,8,8,8,8,8,8,8,8,8,8,8,8,8,8,8,8,8,8,8,8,8,8,8,8,8,8,8,8,8,8,8,8,8,8,8,8,8,8,8,8,8,8,8,8,8,8,8,8,8,8,8,8,8,8,8,8,8,8,8,8,8,8,8,8,8,8,8,8,8,8,8,8,8,8,8,8,8,8,8,8,8,8,8])))) (t 21)),cO 23 (conv IntKind.i64 (t 22)),cO 24 (cB .add (t 19) (t 23)),cO 2 (cM 24)]).seq ret))))))
theorem um:Is Tryz.prog 141 u4:=Is.mk' Tryz.func141 (by kernel_rfl)
def wj:F2:=(F2.mk 53 [] ((ops 0 [cO 10 (cM 1),cO 11 (cB .add (t 10) (cN 1)),cO 8 (cM 11)]).seq (block 0 (((ops 0 [cO 12 (cM 8),cO 13 (cM 2),cO 14 (cB .lss (t 12) (t 13))]).seq (C2.cond (t 14) skip (exit 0))).seq ((block 1 ((ops 0 [cO 17 (cM 8),cO 9 (cM 17)]).seq (block 2 (((mixS 1 [cO 18 (cM 9),cO 19 (cM 1),cO 20 (cB .gtr (t 18) (t 19)),cO 21 (cM 20),cG 22 21 true (cM 3),cG 23 21 true (cM 0),cG 24 21 true (cM 9),cG 25 21 true (ixaS 1 (t 23) (t 24)),cG 26 21 true (cD 25),cG 27 21 true (cM 0),cG 28 21 true (cM 9),cG 29 21 true (cB .sub (t 28) (cN 1)),cG 30 21 true (ixaS 1 (t 27) (t 29)),cG 31 21 true (cD 30),cG 32 21 true (call (t 22) [t 26,t 31]),cG 33 21 true (cB .lss (t 32) (cN 0)),cO 34 (pick (t 21) (t 33) ap)] [(0,0),(1,0),(2,0),(3,0),(4,0),(5,0),(6,0),(7,0),(8,0),(9,0),(10,0),(11,0),(12,0),(13,0),(14,2),(15,0),(16,0)]).seq (C2.cond (t 34) skip (exit 2))).seq ((block 3 (ops 1 [cO 37 (cM 0),cO 38 (cM 9),cO 39 (cM 0),cO 40 (cM 9),cO 41 (cB .sub (t 40) (cN 1)),cO 42 (cM 0),cO 43 (cM 9),cO 44 (cB .sub (t 43) (cN 1)),cO 45 (ixaS 1 (t 42) (t 44)),cO 46 (cD 45),cO 47 (cM 0),cO 48 (cM 9),cO 49 (ixaS 1 (t 47) (t 48)),cO 50 (cD 49),cO 51 (ixaS 1 (t 37) (t 38)),Op2.mk none none (Ins.st 1 (t 51) (t 46)),cO 52 (ixaS 1 (t 39) (t 41)),Op2.mk none none (Ins.st 1 (t 52) (t 50))])).seq (ops 0 [cO 35 (cM 9),cO 36 (cB .sub (t 35) (cN 1)),cO 9 (cM 36)]))).loop))).seq (ops 0 [cO 15 (cM 8),cO 16 (cB .add (t 15) (cN 1)),cO 8 (cM 16)]))).loop)))
theorem xM:Is Tryz.prog 142 wj:=Is.mk' Tryz.func142 (by kernel_rfl)
def wE:F2:=(F2.mk 82 [] ((ops 0 [cO 12 (cM 1),cO 10 (cM 12)]).seq (block 0 (block 1 ((ops 0 [cO 13 (cM 10),cO 14 (cB .mul (cN 2) (t 13)),cO 15 (cB .add (t 14) (cN 1)),cO 11 (cM 15)]).seq (((ops 0 [cO 16 (cM 11),cO 17 (cM 2),cO 18 (cB .geq (t 16) (t 17))]).seq (C2.cond (t 18) (exit 0) skip)).seq (((mixS 1 [cO 19 (cM 11),cO 20 (cB .add (t 19) (cN 1)),cO 21 (cM 2),cO 22 (cB .lss (t 20) (t 21)),cO 23 (cM 22),cG 24 23 true (cM 4),cG 25 23 true (cM 0),cG 26 23 true (cM 3),cG 27 23 true (cM 11),cG 28 23 true (cB .add (t 26) (t 27)),cG 29 23 true (ixaS 2 (t 25) (t 28)),cG 30 23 true (ldn 2 (t 29)),cG 31 23 true (cM 0),cG 32 23 true (cM 3),cG 33 23 true (cM 11),cG 34 23 true (cB .add (t 32) (t 33)),cG 35 23 true (cB .add (t 34) (cN 1)),cG 36 23 true (ixaS 2 (t 31) (t 35)),cG 37 23 true (ldn 2 (t 36)),cG 38 23 true (call (t 24) [t 30,t 37]),cG 39 23 true (cB .lss (t 38) (cN 0)),cO 40 (pick (t 23) (t 39) ap)] [(0,0),(1,0),(2,0),(3,0),(4,0),(5,0),(6,0),(7,0),(8,0),(9,0),(10,0),(11,0),(12,0),(13,0),(14,0),(15,0),(16,0),(17,0),(18,0),(19,2),(20,0),(21,0)]).seq (C2.cond (t 40) (ops 0 [cO 41 (cM 11),cO 42 (cB .add (t 41) (cN 1)),cO 11 (cM 42)]) skip)).seq (((mixS 1 [cO 43 (cM 4),cO 44 (cM 0),cO 45 (cM 3),cO 46 (cM 10),cO 47 (cB .add (t 45) (t 46)),cO 48 (ixaS 2 (t 44) (t 47)),cO 49 (ldn 2 (t 48)),cO 50 (cM 0),cO 51 (cM 3),cO 52 (cM 11),cO 53 (cB .add (t 51) (t 52)),cO 54 (ixaS 2 (t 50) (t 53)),cO 55 (ldn 2 (t 54)),cO 56 (call (t 43) [t 49,t 55]),cO 57 (cB .lss (t 56) (cN 0)),cO 58 (un UnOp.not (t 57))] [(0,0),(1,0),(2,0),(3,0),(4,0),(5,0),(6,0),(7,0),(8,0),(9,0),(10,0),(11,0),(12,0),(13,2),(14,0),(15,0)]).seq (C2.cond (t 58) ret skip)).seq ((ops 1 [cO 59 (cM 0),cO 60 (cM 3),cO 61 (cM 10),cO 62 (cB .add (t 60) (t 61)),cO 63 (cM 0),cO 64 (cM 3),cO 65 (cM 11),cO 66 (cB .add (t 64) (t 65)),cO 67 (cM 0),cO 68 (cM 3),cO 69 (cM 11),cO 70 (cB .add (t 68) (t 69)),cO 71 (ixaS 2 (t 67) (t 70)),cO 72 (ldn 2 (t 71)),cO 73 (cM 0),cO 74 (cM 3),cO 75 (cM 10),cO 76 (cB .add (t 74) (t 75)),cO 77 (ixaS 2 (t 73) (t 76)),cO 78 (ldn 2 (t 77)),cO 79 (ixaS 2 (t 59) (t 62)),Op2.mk none none (Ins.st 2 (t 79) (t 72)),cO 80 (ixaS 2 (t 63) (t 66)),Op2.mk none none (Ins.st 2 (t 80) (t 78))]).seq (ops 0 [cO 81 (cM 11),cO 10 (cM 81)]))))))).loop)))
theorem v4:Is Tryz.prog 150 wE:=Is.mk' Tryz.func150 (by kernel_rfl)
def wM:F2:=(F2.mk 7 [RV.t 2] ((ops 0 [cO 2 (mov (c (AV.int IntKind.u64 (0))))]).seq ((ops 0 [cO 3 (cM 0),cO 4 (conv IntKind.u64 (t 3)),cO 5 (call (cF 123) [t 4]),cO 6 (cB .shl (c (AV.int IntKind.u64 (1))) (t 5)),cO 2 (cM 6)]).seq ret)))
theorem w5:Is Tryz.prog 151 wM:=Is.mk' Tryz.func151 (by kernel_rfl)
def wR:F2:=(F2.mk 33 [RV.t 2] ((ops 0 [cO 2 (mov (c (AV.int IntKind.u64 (0))))]).seq ((ops 1 [cO 3 (cM 0),cO 4 (nilck (t 3)),cO 5 (cD 4),cO 6 (cM 0),cO 7 (nilck (t 6)),cO 8 (cD 7),cO 9 (cB .shl (t 8) (c (AV.int IntKind.u64 (13)))),cO 10 (cB .xor (t 5) (t 9)),cO 11 (nilck (t 3)),Op2.mk none none (Ins.st 1 (t 11) (t 10))]).seq ((ops 1 [cO 12 (cM 0),cO 13 (nilck (t 12)),cO 14 (cD 13),cO 15 (cM 0),cO 16 (nilck (t 15)),cO 17 (cD 16),cO 18 (cB .shr (t 17) (c (AV.int IntKind.u64 (7)))),cO 19 (cB .xor (t 14) (t 18)),cO 20 (nilck (t 12)),Op2.mk none none (Ins.st 1 (t 20) (t 19))]).seq ((ops 1 [cO 21 (cM 0),cO 22 (nilck (t 21)),cO 23 (cD 22),cO 24 (cM 0),cO 25 (nilck (t 24)),cO 26 (cD 25),cO 27 (cB .shl (t 26) (c (AV.int IntKind.u64 (17)))),cO 28 (cB .xor (t 23) (t 27)),cO 29 (nilck (t 21)),Op2.mk none none (Ins.st 1 (t 29) (t 28))]).seq ((ops 0 [cO 30 (cM 0),cO 31 (nilck (t 30)),cO 32 (cD 31),cO 2 (cM 32)]).seq ret))))))
theorem xI:Is Tryz.prog 152 wR:=Is.mk' Tryz.func152 (by kernel_rfl)
def xB:F2:=(F2.mk 18 [RV.t 8] ((ops 0 [cO 8 (mov (cN 0))]).seq ((ops 0 [cO 9 (cM 0),cO 10 (cM 1),cO 11 (cB .sub (t 10) (cN 1)),cO 12 (cM 1),cO 13 (cM 1),cO 14 (cB .add (t 13) (cN 1)),cO 15 (cM 2),cO 16 (cM 3),cO 17 (call (cF 154) [t 9,t 11,t 12,t 14,t 15,t 16]),cO 8 (cM 17)]).seq ret)))
theorem xy:Is Tryz.prog 153 xB:=Is.mk' Tryz.func153 (by kernel_rfl)
def wC:F2:=(F2.mk 41 [RV.t 12] ((ops 0 [cO 12 (mov (cN 0))]).seq ((ops 0 [cO 14 (cM 0),cO 15 (cM 1),cO 16 (cM 2),cO 17 (cM 4),cO 18 (cM 5),cO 19 (call (cF 158) [t 14,t 15,t 16,t 17,t 18]),cO 13 (cM 19),cO 20 (ext (t 13) 0),cO 21 (ext (t 13) 1),cO 1 (cM 20),cO 2 (cM 21)]).seq ((ops 0 [cO 23 (cM 0),cO 24 (cM 2),cO 25 (cM 3),cO 26 (cM 4),cO 27 (cM 5),cO 28 (call (cF 158) [t 23,t 24,t 25,t 26,t 27]),cO 22 (cM 28),cO 29 (ext (t 22) 0),cO 30 (ext (t 22) 1),cO 2 (cM 29),cO 3 (cM 30)]).seq ((ops 0 [cO 32 (cM 0),cO 33 (cM 1),cO 34 (cM 2),cO 35 (cM 4),cO 36 (cM 5),cO 37 (call (cF 158) [t 32,t 33,t 34,t 35,t 36]),cO 31 (cM 37),cO 38 (ext (t 31) 0),cO 39 (ext (t 31) 1),cO 1 (cM 38),cO 2 (cM 39)]).seq ((ops 0 [cO 40 (cM 2),cO 12 (cM 40)]).seq ret))))))
theorem xV:Is Tryz.prog 154 wC:=Is.mk' Tryz.func154 (by kernel_rfl)
def xk:F2:=(F2.mk 32 [RV.t 10,RV.t 11] ((ops 0 [cO 10 (mov (cN 0)),cO 11 (mov (cN 0))]).seq (((mixS 1 [cO 12 (cM 4),cO 13 (cM 0),cO 14 (cM 2),cO 15 (ixaS 2 (t 13) (t 14)),cO 16 (ldn 2 (t 15)),cO 17 (cM 0),cO 18 (cM 1),cO 19 (ixaS 2 (t 17) (t 18)),cO 20 (ldn 2 (t 19)),cO 21 (call (t 12) [t 16,t 20]),cO 22 (cB .lss (t 21) (cN 0))] [(0,0),(1,0),(2,0),(3,0),(4,0),(5,0),(6,0),(7,0),(8,0),(9,2),(10,0)]).seq (C2.cond (t 22) ((ops 0 [cO 23 (cM 3),cO 24 (nilck (t 23)),cO 25 (cD 24),cO 26 (cB .add (t 25) (cN 1)),cO 27 (nilck (t 23)),Op2.mk none none (Ins.st 1 (t 27) (t 26))]).seq ((ops 0 [cO 28 (cM 2),cO 29 (cM 1),cO 10 (cM 28),cO 11 (cM 29)]).seq ret)) skip)).seq ((ops 0 [cO 30 (cM 1),cO 31 (cM 2),cO 10 (cM 30),cO 11 (cM 31)]).seq ret))))
theorem wW:Is Tryz.prog 158 xk:=Is.mk' Tryz.func158 (by kernel_rfl)
end Go.Proofs.YtbgdcebmgjafjaaGreat
namespace Go.Proofs.YtbgdcebmgjafjaaGreat
open Go Go.Abs
def swp {α:Type} [Inhabited α] (L:List α) (i j:Nat):List α:=(L.set i (L.getD j default)).set j (L.getD i default)
structure PermR {α:Type} [Inhabited α] (a b:Nat) (L L':List α):Prop where
 len:L'.length=L.length
 out:∀ i,i < a ∨ b ≤ i→L'.getD i default=L.getD i default
 perm:L'.Perm L
section
variable {α:Type} [Inhabited α] {a b a' b':Nat} {L L' L'':List α}
theorem b0 {l:List α} {i j:Nat} {x:α} (h:i < l.length):(l.set i x).getD j default=if i=j then x else l.getD j default:=by
 simp only [List.getD,List.getElem?_set]
 split
 ·rename_i e; subst e; simp [h]
 ·rfl
theorem qn (i j:Nat):(swp L i j).length=L.length:=by simp [swp]
theorem cq {i j:Nat} (hi:i < L.length) (hj:j < L.length) (k:Nat):(swp L i j).getD k default=if k=j then L.getD i default else if k=i then L.getD j default else L.getD k default:=by
 unfold swp
 rw [b0 (by simpa using hj),b0 hi]
 by_cases e:k=j
 ·subst e; simp
 ·rw [if_neg (fun h=>e h.symm),if_neg e]
  by_cases e2:k=i
  ·subst e2; simp
  ·rw [if_neg (fun h=>e2 h.symm),if_neg e2]
theorem sX {i j:Nat} (hi:i < L.length) (hj:j < L.length):(swp L i j).Perm L:=by
 unfold swp
 have e1:L.getD i default=L[i]:=by simp [List.getD,hi]
 have e2:L.getD j default=L[j]:=by simp [List.getD,hj]
 rw [e1,e2]
 exact List.set_set_perm hi hj
theorem PermR.refl:PermR a b L L:=⟨rfl,fun _ _=>rfl,List.Perm.refl _⟩
theorem PermR.trans (h:PermR a b L L') (k:PermR a b L' L''):PermR a b L L'':=⟨k.len.trans h.len,fun i hi=>(k.out i hi).trans (h.out i hi),k.perm.trans h.perm⟩
theorem PermR.mono (h:PermR a' b' L L') (h1:a ≤ a') (h2:b' ≤ b):PermR a b L L':=⟨h.len,fun i hi=>h.out i (by omega),h.perm⟩
theorem PermR.swap {i j:Nat} (h1:a ≤ i∧i < b) (h2:a ≤ j∧j < b) (hb:b ≤ L.length):PermR a b L (swp L i j) :=
 ⟨qn i j,fun k hk=>by rw [cq (by omega) (by omega),if_neg (by omega),if_neg (by omega)],sX (by omega) (by omega)⟩
theorem n7 {l m:List α} (hl:l.length=m.length) (h:∀ i,i < l.length→l.getD i default=m.getD i default):l=m :=
 List.ext_getElem hl (fun i h1 h2=>by
  have:=h i h1
  simpa [List.getD,h1,h2] using this)
theorem PermR.mid (h:PermR a b L L') (hab:a ≤ b) (hb:b ≤ L.length):((L'.drop a).take (b - a)).Perm ((L.drop a).take (b - a)):=by
 have e1:∀ M:List α,b ≤ M.length→M=M.take a ++ ((M.drop a).take (b - a) ++ M.drop b):=fun M hM=>by
  have:M.drop b=(M.drop a).drop (b - a):=by rw [List.drop_drop]; congr 1; omega
  rw [this,List.take_append_drop,List.take_append_drop]
 have t:L'.take a=L.take a:=n7 (by simp [h.len]) (fun i hi=>by
  have hi':i < a:=by simp at hi; omega
  rw [l5 hi',l5 hi']; exact h.out i (.inl hi'))
 have d:L'.drop b=L.drop b:=n7 (by simp [h.len]) (fun i hi=>by
  have e:∀ M:List α,(M.drop b).getD i default=M.getD (b + i) default:=fun M=>by simp [List.getD,List.getElem?_drop]
  rw [e,e]; exact h.out (b + i) (.inr (by omega)))
 have p:=h.perm
 rw [e1 L' (by rw [h.len]; exact hb),e1 L hb,t,d] at p
 exact (List.perm_append_right_iff _).1 ((List.perm_append_left_iff _).1 p)
theorem qp {M:List α} {x:α} (hab:a ≤ b) (hb:b ≤ M.length):x ∈ (M.drop a).take (b - a) ↔ ∃ i,a ≤ i∧i < b∧M.getD i default=x:=by
 constructor
 ·intro h
  obtain ⟨j,hj,e⟩:=List.getElem_of_mem h
  have hj':j < b - a:=by simp at hj; omega
  refine ⟨a + j,by omega,by omega,?_⟩
  rw [← e]
  simp [List.getD,List.getElem_take,List.getElem_drop,show a + j < M.length by omega]
 ·rintro ⟨i,h1,h2,rfl⟩
  rw [List.mem_iff_getElem?]
  refine ⟨i - a,?_⟩
  rw [List.getElem?_take,if_pos (by omega),List.getElem?_drop,show a + (i - a)=i by omega]
  simp [List.getD,show i < M.length by omega]
theorem PermR.all {p:α→Prop} (h:PermR a b L L') (hab:a ≤ b) (hb:b ≤ L.length) (hp:∀ i,a ≤ i→i < b→p (L.getD i default)):∀ i,a ≤ i→i < b→p (L'.getD i default):=by
 intro i h1 h2
 have hm:L'.getD i default ∈ (L'.drop a).take (b - a):=(qp hab (by rw [h.len]; exact hb)).2 ⟨i,h1,h2,rfl⟩
 obtain ⟨j,k1,k2,e⟩:=(qp hab hb).1 ((h.mid hab hb).mem_iff.1 hm)
 rw [← e]; exact hp j k1 k2
end
structure Ord {α:Type} (K:α→α→Int):Prop where
 irr:∀ x,¬ K x x < 0
 asym:∀ x y,K x y < 0→¬ K y x < 0
 negtr:∀ x y z,¬ K y x < 0→¬ K z y < 0→¬ K z x < 0
def aM {α:Type} [Inhabited α] (K:α→α→Int) (a b:Nat) (L:List α):Prop:=∀ i j,a ≤ i→i < j→j < b→¬ K (L.getD j default) (L.getD i default) < 0
theorem aM.one {α:Type} [Inhabited α] {K:α→α→Int} {a b:Nat} {L:List α} (h:b ≤ a + 1):aM K a b L:=fun i j h1 h2 h3=>by omega
end Go.Proofs.YtbgdcebmgjafjaaGreat
namespace Go.Proofs.YtbgdcebmgjafjaaGreat
open Go Go.Abs
structure LinK {α:Type} (K:α→α→Int):Prop where
 ord:Ord K
 eq:∀ x y,¬ K x y < 0→¬ K y x < 0→x=y
def cw {α:Type} (K:α→α→Int) (l:List α):Prop:=l.Pairwise fun x y=>K x y < 0
def fu {α:Type} (K:α→α→Int):List α→α→List α
 | [],v=>[v]
 | a :: l,v=>if K v a < 0 then v :: a :: l else a :: fu K l v
section
variable {α:Type} [DecidableEq α] {K:α→α→Int}
def fF (K:α→α→Int) (acc:List α) (v:α):List α:=if v ∈ acc then acc else fu K acc v
def d8 (K:α→α→Int) (acc l:List α):List α:=l.foldl (fF K) acc
def j6 (K:α→α→Int) (l:List α):List α:=d8 K [] l
omit [DecidableEq α] in
theorem cw.nil:cw K ([]:List α):=List.Pairwise.nil
omit [DecidableEq α] in
theorem cw.nodup {l:List α} (hK:LinK K) (h:cw K l):l.Nodup:=List.Pairwise.imp (fun {a b} h e=>by subst e; exact hK.ord.irr a h) h
omit [DecidableEq α] in
theorem LinK.tri (hK:LinK K) (x y:α):K x y < 0 ∨ x=y ∨ K y x < 0:=by
 by_cases h1:K x y < 0
 ·exact .inl h1
 ·by_cases h2:K y x < 0
  ·exact .inr (.inr h2)
  ·exact .inr (.inl (hK.eq x y h1 h2))
omit [DecidableEq α] in
theorem LinK.trans (hK:LinK K) {x y z:α} (h1:K x y < 0) (h2:K y z < 0):K x z < 0:=by
 refine Decidable.byContradiction fun hn=>?_
 exact hK.ord.negtr z x y hn (hK.ord.asym _ _ h1) h2
omit [DecidableEq α] in
theorem mi {a b:List α} (hK:LinK K) (ha:cw K a) (hb:cw K b) (h:∀ x,x ∈ a ↔ x ∈ b):a=b:=by
 classical
 have hp:a.Perm b:=(List.perm_ext_iff_of_nodup (ha.nodup hK) (hb.nodup hK)).2 h
 exact List.Perm.eq_of_pairwise (fun x y _ _ h1 h2=>absurd h2 (hK.ord.asym _ _ h1)) ha hb hp
omit [DecidableEq α] in
theorem oh {l:List α} {v x:α}:x ∈ fu K l v ↔ x ∈ l ∨ x=v:=by
 induction l with
 | nil=>simp [fu]
 | cons a l ih =>
  unfold fu
  split
  ·simp only [List.mem_cons]
   exact ⟨fun h=>h.elim .inr .inl,fun h=>h.elim .inr .inl⟩
  ·rw [List.mem_cons,ih,List.mem_cons,or_assoc]
omit [DecidableEq α] in
theorem sK {l:List α} {v:α} (hK:LinK K) (h:cw K l) (hv:v ∉ l):cw K (fu K l v):=by
 induction l with
 | nil=>exact List.pairwise_singleton _ _
 | cons a l ih =>
  unfold cw at h
  rw [List.pairwise_cons] at h
  unfold fu
  split
  ·rename_i hlt
   exact List.pairwise_cons.2 ⟨fun y hy=>by
    rcases List.mem_cons.1 hy with rfl | hy
    ·exact hlt
    ·exact hK.trans hlt (h.1 y hy),List.pairwise_cons.2 h⟩
  ·rename_i hlt
   refine List.pairwise_cons.2 ⟨fun y hy=>?_,ih h.2 fun hm=>hv (List.mem_cons_of_mem _ hm)⟩
   rcases oh.1 hy with hy | rfl
   ·exact h.1 y hy
   ·rcases hK.tri y a with k | k | k
    ·exact absurd k hlt
    ·exact absurd (k ▸ List.mem_cons_self) hv
    ·exact k
omit [DecidableEq α] in
theorem o4 {l:List α} {v:α}:(fu K l v).length=l.length + 1:=by
 induction l with
 | nil=>rfl
 | cons a l ih=>unfold fu; split <;> simp [ih]
theorem se {acc:List α} {v x:α}:x ∈ fF K acc v ↔ x ∈ acc ∨ x=v:=by
 unfold fF
 split
 ·rename_i h
  exact ⟨.inl,fun h2=>h2.elim id (fun e=>e ▸ h)⟩
 ·exact oh
theorem rS {acc:List α} {v:α} (hK:LinK K) (h:cw K acc):cw K (fF K acc v):=by
 unfold fF
 split
 ·exact h
 ·rename_i hn
  exact sK hK h hn
theorem tw {acc:List α} {v:α}:(fF K acc v).length ≤ acc.length + 1:=by
 unfold fF
 split
 ·omega
 ·rw [o4]; exact Nat.le_refl _
theorem ln:∀ {l acc:List α} {x:α},x ∈ d8 K acc l ↔ x ∈ acc ∨ x ∈ l
 | [],acc,x=>by simp [d8]
 | v :: l,acc,x=>by
  rw [show d8 K acc (v :: l)=d8 K (fF K acc v) l from rfl,ln,se,List.mem_cons,or_assoc]
theorem oa (hK:LinK K):∀ {l acc:List α},cw K acc→cw K (d8 K acc l)
 | [],_,h=>h
 | v :: l,acc,h=>oa hK (l:=l) (rS hK (v:=v) h)
theorem ie:∀ {l acc:List α},(d8 K acc l).length ≤ acc.length + l.length
 | [],acc=>by simp [d8]
 | v :: l,acc=>by
  rw [show d8 K acc (v :: l)=d8 K (fF K acc v) l from rfl]
  have:=ie (l:=l) (acc:=fF K acc v)
  have:=tw (K:=K) (acc:=acc) (v:=v)
  rw [List.length_cons]; omega
theorem l8 {acc l:List α} {v:α}:d8 K acc (l ++ [v])=fF K (d8 K acc l) v:=by
 unfold d8; rw [List.foldl_append]; rfl
theorem sO (hK:LinK K) (l:List α):cw K (j6 K l):=oa hK List.Pairwise.nil
theorem sd {l:List α} {x:α}:x ∈ j6 K l ↔ x ∈ l:=by
 unfold j6; rw [ln]; simp
theorem kO {l:List α}:(j6 K l).length ≤ l.length:=by
 have:=ie (K:=K) (l:=l) (acc:=[])
 unfold j6
 rw [List.length_nil] at this
 omega
theorem qL {l:List α} {v:α}:j6 K (l ++ [v])=fF K (j6 K l) v:=l8
end
section
variable {α:Type} [Inhabited α] [DecidableEq α]
def bH (l:List α):Nat→Nat
 | 0=>0
 | k + 1=>bH l k + if k=0 ∨ l.getD k default ≠ l.getD (k - 1) default then 1 else 0
theorem tt (l:List α) (k:Nat):bH l k ≤ k:=by
 induction k with
 | zero=>exact Nat.le_refl _
 | succ k ih=>unfold bH; split <;> omega
theorem fp {l:List α} {k:Nat} (hk:k ≠ 0) (h:l.getD k default=l.getD (k - 1) default):bH l (k + 1)=bH l k:=by
 rw [bH,if_neg (by rintro (h' | h'); exact hk h'; exact h' h)]; rfl
theorem j8 {l:List α} {k:Nat} (h:l.getD k default ≠ l.getD (k - 1) default):bH l (k + 1)=bH l k + 1:=by
 rw [bH,if_pos (.inr h)]
def dh (l:List α):Nat→List α
 | 0=>[]
 | k + 1=>dh l k ++ if k=0 ∨ l.getD k default ≠ l.getD (k - 1) default then [l.getD k default] else []
theorem ro (l:List α) (k:Nat):(dh l k).length=bH l k:=by
 induction k with
 | zero=>rfl
 | succ k ih=>rw [dh,bH,List.length_append,ih]; split <;> rfl
theorem kM {l:List α} {k:Nat} (hk:k ≠ 0) (h:l.getD k default=l.getD (k - 1) default):dh l (k + 1)=dh l k:=by
 rw [dh,if_neg (by rintro (h' | h'); exact hk h'; exact h' h),List.append_nil]
theorem kI {l:List α} {k:Nat} (h:l.getD k default ≠ l.getD (k - 1) default):dh l (k + 1)=dh l k ++ [l.getD k default]:=by
 rw [dh,if_pos (.inr h)]
theorem ja {l:List α}:∀ {k:Nat},k ≤ l.length→∀ x,x ∈ dh l k ↔ ∃ j,j < k∧l.getD j default=x
 | 0,_,x=>by simp [dh]
 | k + 1,hk,x=>by
  have ih:=ja (l:=l) (k:=k) (by omega) x
  rw [dh,List.mem_append,ih]
  constructor
  ·rintro (⟨j,h1,h2⟩ | h)
   ·exact ⟨j,by omega,h2⟩
   ·split at h
    ·rw [List.mem_singleton] at h; exact ⟨k,by omega,h.symm⟩
    ·simp at h
  ·rintro ⟨j,h1,h2⟩
   by_cases e:j=k
   ·subst e
    by_cases c:j=0 ∨ l.getD j default ≠ l.getD (j - 1) default
    ·right; rw [if_pos c,List.mem_singleton]; exact h2.symm
    ·left
     have c1:j ≠ 0:=fun h=>c (.inl h)
     have c2:l.getD j default=l.getD (j - 1) default:=Decidable.of_not_not fun h=>c (.inr h)
     exact ⟨j - 1,by omega,by rw [← c2]; exact h2⟩
   ·left; exact ⟨j,by omega,h2⟩
theorem ma {K:α→α→Int} (hK:LinK K) {l:List α} (hs:∀ i j,i < j→j < l.length→¬ K (l.getD j default) (l.getD i default) < 0):∀ {k:Nat},k ≤ l.length→cw K (dh l k)
 | 0,_=>List.Pairwise.nil
 | k + 1,hk=>by
  have ih:=ma hK hs (k:=k) (by omega)
  unfold cw
  rw [dh,List.pairwise_append]
  refine ⟨ih,by split <;> simp,fun x hx y hy=>?_⟩
  split at hy
  ·rename_i c
   rw [List.mem_singleton] at hy
   subst hy
   obtain ⟨j,h1,rfl⟩:=(ja (by omega) x).1 hx
   rcases c with c | c
   ·omega
   ·refine Decidable.byContradiction fun hn=>?_
    have a2:=hs (k - 1) k (by omega) (by omega)
    have hne:K (l.getD (k - 1) default) (l.getD k default) < 0:=Decidable.byContradiction fun h3=>c (hK.eq _ _ a2 h3)
    by_cases e:j=k - 1
    ·rw [e] at hn; exact hn hne
    ·have a1:=hs j (k - 1) (by omega) (by omega)
     exact hK.ord.negtr _ _ _ hn a1 hne
  ·simp at hy
omit [DecidableEq α] in
theorem sq {M:List α} {x:α}:(∃ j,j < M.length∧M.getD j default=x) ↔ x ∈ M:=by
 constructor
 ·rintro ⟨j,h1,rfl⟩; simp [List.getD,h1]
 ·intro h
  obtain ⟨j,hj,rfl⟩:=List.getElem_of_mem h
  exact ⟨j,hj,by simp [List.getD,hj]⟩
theorem qC {K:α→α→Int} (hK:LinK K) {l M:List α} (hp:M.Perm l) (hs:aM K 0 M.length M):dh M M.length=j6 K l:=by
 refine mi hK (ma hK (fun i j h1 h2=>hs i j (Nat.zero_le _) h1 h2) (Nat.le_refl _)) (sO hK l) fun x=>?_
 rw [ja (Nat.le_refl _),sq,hp.mem_iff,sd]
end
end Go.Proofs.YtbgdcebmgjafjaaGreat
namespace Go.Proofs.YtbgdcebmgjafjaaGreat
open Go Go.Abs
abbrev Shn {α:Type} (l:List α):Prop:=l.length ≤ 17592186044416
structure Vtx where
 color:Int
 label:Int
 deriving Inhabited,DecidableEq
abbrev Spx:=List Vtx
def jo (v:Vtx):List AV:=[.int .i64 v.color,.int .i64 v.label]
abbrev a7 (v:Vtx):AV:=.agg [.int .i64 v.color,.int .i64 v.label]
def ao (l:Spx):AV:=jN 2 a7 l
def aE (l:List Spx):AV:=jN 1 ao l
def cX (l:Spx):List AV:=l.flatMap jo
theorem aG (v:Vtx):Dat (a7 v):=Dat.agg (DatL.cons .int (DatL.cons .int DatL.nil))
theorem an (l:Spx):Dat (ao l):=nT (fun x _ c hc=>by
 simp only [a7,AV.cells,List.mem_cons,List.not_mem_nil,or_false] at hc
 rcases hc with rfl | rfl <;> exact .int)
theorem bE (l:List Spx):Dat (aE l):=nT (fun x _ c hc=>by
 simp only [ao,jN,AV.cells,List.mem_singleton] at hc; subst hc; exact an x)
instance datI_encX {v:Vtx}:DatI (a7 v):=⟨aG v⟩
instance datI_encXs {l:Spx}:DatI (ao l):=⟨an l⟩
instance datI_encXss {l:List Spx}:DatI (aE l):=⟨bE l⟩
theorem ax {l:Spx}:(ao l).cells=[ao l]:=rfl
theorem aF {l:Spx}:(ao l).one=true:=rfl
theorem aq {l:List Spx}:(aE l).cells=[aE l]:=rfl
theorem ay {l:List Spx}:(aE l).one=true:=rfl
theorem pB {l:Spx} {k:IntKind} {n:Int}:dv 2 (ao l) (.int k n)=if 0 ≤ n∧n < l.length then some (.iptr [.int .i64 (l.getD n.toNat default).color,.int .i64 (l.getD n.toNat default).label] 0) else none:=my
theorem ac {l:Spx}:cU (ao l)=some (.int .i64 l.length):=lu
theorem n6 {l:List Spx} {k:IntKind} {n:Int}:dv 1 (aE l) (.int k n)=if 0 ≤ n∧n < l.length then some (.iptr [ao (l.getD n.toNat default)] 0) else none:=my
theorem aj {l:List Spx}:cU (aE l)=some (.int .i64 l.length):=lu
theorem ix2 {l:Spx} {k:Nat} (h:k < l.length):dv 2 (ao l) (.int .i64 (k:Int))=some (.iptr [.int .i64 (l.getD k default).color,.int .i64 (l.getD k default).label] 0):=by
 rw [pB,if_pos ⟨by omega,by omega⟩,Int.toNat_natCast]
theorem e6 {l:List Spx} {k:Nat} (h:k < l.length):dv 1 (aE l) (.int .i64 (k:Int))=some (.iptr [ao (l.getD k default)] 0):=by
 rw [n6,if_pos ⟨by omega,by omega⟩,Int.toNat_natCast]
theorem eL (l:Spx):(cX l).length=l.length * 2:=by
 induction l with
 | nil=>rfl
 | cons a l ih=>rw [cX,List.flatMap_cons,List.length_append,List.length_cons,show (l.flatMap jo).length=l.length * 2 from ih]; show 2 + _=_; omega
theorem ec (l m:Spx):cX (l ++ m)=cX l ++ cX m:=List.flatMap_append
theorem ss (l:Spx):(l.map a7).flatMap AV.cells=cX l:=by
 induction l with
 | nil=>rfl
 | cons a l ih=>rw [List.map_cons,List.flatMap_cons,ih]; rfl
theorem px {H:Hp} {s:AV} {l:Spx} (h:Row H 2 s (cX l)):Snap H s (ao l):=by
 refine Row.snap (elems:=l.map a7) (by rw [ss]; exact h) (fun y hy=>?_) (by omega) (fun y hy c hx=>?_)
 ·obtain ⟨n,_,rfl⟩:=List.mem_map.1 hy; rfl
 ·obtain ⟨n,_,rfl⟩:=List.mem_map.1 hy
  simp only [a7,AV.cells,List.mem_cons,List.not_mem_nil,or_false] at hx
  rcases hx with rfl | rfl <;> exact .int
theorem qB {H:Hp} {s:AV} {l:List Spx} (h:Row H 1 s (l.map ao)):Snap H s (aE l):=h.snapL' (fun _=>rfl) (fun x _=>an x)
theorem v6 {H:Hp} {l:Spx}:c8 2 H (ao l)=some (l.length,cX l):=by
 unfold ao jN; rw [tV,ss]; simp
theorem tO (l:Spx):AV.ones (cX l)=true:=by
 unfold AV.ones
 rw [List.all_eq_true]
 intro x hx
 obtain ⟨v,_,hv⟩:=List.mem_flatMap.1 hx
 simp only [jo,List.mem_cons,List.not_mem_nil,or_false] at hv
 rcases hv with rfl | rfl <;> rfl
def aN (v w:Vtx):Int:=if v.color < w.color then -1 else if v.color > w.color then 1 else if v.label < w.label then -1 else if v.label > w.label then 1 else 0
def bO:Spx→Spx→Int
 | [],[]=>0
 | [],_ :: _=>-1
 | _ :: _,[]=>1
 | a :: l,b :: m=>if aN a b ≠ 0 then aN a b else bO l m
theorem im {v w:Vtx}:aN v w < 0 ↔ v.color < w.color ∨ (v.color=w.color∧v.label < w.label):=by
 unfold aN; (repeat' split) <;> constructor <;> intro h <;> omega
theorem m8 {v w:Vtx}:v=w ↔ v.color=w.color∧v.label=w.label:=by
 obtain ⟨a,b⟩:=v
 obtain ⟨c,d⟩:=w
 simp
theorem eV {v w:Vtx}:aN v w=0 ↔ v=w:=by
 rw [m8]; unfold aN; (repeat' split) <;> constructor <;> intro h <;> omega
theorem mm (v w:Vtx):aN w v=- aN v w:=by
 unfold aN; (repeat' split) <;> omega
theorem kC:LinK aN where
 ord:={ irr:=fun x=>by rw [im]; omega,asym:=fun x y h=>by rw [im] at *; omega,negtr:=fun x y z h1 h2=>by rw [im] at *; omega }
 eq:=fun x y h1 h2=>by rw [im] at *; rw [m8]; omega
theorem mh:∀ l:Spx,bO l l=0
 | []=>rfl
 | a :: l=>by rw [bO,eV.2 rfl,if_neg (by simp)]; exact mh l
theorem qf:∀ {l m:Spx},bO l m=0→l=m
 | [],[],_=>rfl
 | [],_ :: _,h=>by simp [bO] at h
 | _ :: _,[],h=>by simp [bO] at h
 | a :: l,b :: m,h=>by
  rw [bO] at h
  by_cases e:aN a b=0
  ·rw [if_neg (fun h=>h e)] at h
   rw [eV.1 e,qf h]
  ·rw [if_pos e] at h; exact absurd h e
theorem iS:∀ l m:Spx,bO m l=- bO l m
 | [],[]=>rfl
 | [],_ :: _=>rfl
 | _ :: _,[]=>rfl
 | a :: l,b :: m=>by
  rw [bO,bO,mm a b]
  by_cases e:aN a b=0
  ·rw [e,if_neg (by simp),if_neg (by simp)]; exact iS l m
  ·rw [if_pos (by omega),if_pos e]
theorem ko:∀ (x y z:Spx),¬ bO y x < 0→¬ bO z y < 0→¬ bO z x < 0
 | [],_,[],_,_=>by simp [bO]
 | [],_,_ :: _,_,_=>by simp [bO]
 | _ :: _,[],_,h,_=>by simp [bO] at h
 | _ :: _,_ :: _,[],_,h=>by simp [bO] at h
 | a :: x,b :: y,c :: z,h1,h2=>by
  rw [bO] at h1 h2 ⊢
  have n:=kC.ord.negtr a b c
  by_cases e1:aN b a=0
  ·have e1':=eV.1 e1
   subst e1'
   rw [if_neg (fun h=>h e1)] at h1
   by_cases e2:aN c b=0
   ·rw [if_neg (fun h=>h e2)] at h2 ⊢
    exact ko x y z h1 h2
   ·rw [if_pos e2] at h2 ⊢; exact h2
  ·rw [if_pos e1] at h1
   by_cases e2:aN c b=0
   ·have e2':=eV.1 e2
    subst e2'
    rw [if_pos e1]; exact h1
   ·rw [if_pos e2] at h2
    have h3:=n h1 h2
    by_cases e3:aN c a=0
    ·exfalso
     have e3':=eV.1 e3
     subst e3'
     have:=mm b c
     omega
    ·rw [if_pos e3]; exact h3
theorem uR:LinK bO where
 ord:={ irr:=fun x=>by rw [mh]; omega,asym:=fun x y h=>by rw [iS]; omega,negtr:=ko }
 eq:=fun x y h1 h2=>by
  have:=iS x y
  exact qf (by omega)
theorem mo {l m:Spx} {k:Nat} (h1:k < l.length) (h2:k < m.length):bO (l.drop k) (m.drop k)=if aN (l.getD k default) (m.getD k default) ≠ 0 then aN (l.getD k default) (m.getD k default) else bO (l.drop (k + 1)) (m.drop (k + 1)):=by
 rw [ef h1,ef h2,bO]
theorem lL {l m:Spx} {k:Nat} (h:l.length ≤ k ∨ m.length ≤ k) (hk:k ≤ l.length∧k ≤ m.length):bO (l.drop k) (m.drop k)=if l.length < m.length then -1 else if m.length < l.length then 1 else 0:=by
 by_cases e1:l.length=k
 ·rw [List.drop_eq_nil_of_le (show l.length ≤ k by omega)]
  by_cases e2:m.length=k
  ·rw [List.drop_eq_nil_of_le (by omega),if_neg (by omega),if_neg (by omega)]; rfl
  ·rw [ef (l:=m) (k:=k) (by omega),if_pos (by omega)]; rfl
 ·have e2:m.length=k:=by omega
  rw [ef (l:=l) (k:=k) (by omega),List.drop_eq_nil_of_le (show m.length ≤ k by omega),if_neg (by omega),if_pos (by omega)]; rfl
def bJ (f:Nat→Int):Nat→Int
 | 0=>0
 | n + 1=>if bJ f n ≠ 0 then bJ f n else f n
theorem b5 {f:Nat→Int}:∀ {n:Nat},(∀ i,i < n→f i=0)→bJ f n=0
 | 0,_=>rfl
 | n + 1,h=>by
  have:=b5 (f:=f) (n:=n) (fun i hi=>h i (by omega))
  rw [bJ,this,if_neg (by simp)]; exact h n (by omega)
theorem br {f:Nat→Int}:∀ {n k:Nat},k < n→(∀ i,i < k→f i=0)→f k ≠ 0→bJ f n=f k
 | 0,k,h,_,_=>absurd h (by omega)
 | n + 1,k,h,h0,hk=>by
  rw [bJ]
  by_cases e:k=n
  ·subst e
   rw [b5 h0,if_neg (by simp)]
  ·rw [br (n:=n) (by omega) h0 hk,if_pos hk]
theorem eu {f:Nat→Int}:∀ {n:Nat},bJ f n=0→∀ i,i < n→f i=0
 | 0,_,i,h=>absurd h (by omega)
 | n + 1,h,i,hi=>by
  rw [bJ] at h
  by_cases e:bJ f n=0
  ·rw [e,if_neg (by simp)] at h
   by_cases ei:i=n
   ·subst ei; exact h
   ·exact eu e i (by omega)
  ·rw [if_pos e] at h; exact absurd h e
def bk (v:Vtx):Bool:=decide (0 ≤ v.color) && decide (v.color < 8) && (decide (0 ≤ v.label) && decide (v.label ≤ 1048576))
def lr (l:Spx) (k:Nat):Int:=if bk (l.getD k default)=false then 2 else if 0 < k∧0 ≤ aN (l.getD (k - 1) default) (l.getD k default) then 14 else 0
def bV (l:Spx):Int:=if l.length=0 then 16 else if 8 < l.length then 5 else bJ (lr l) l.length
theorem jT {l:Spx} (h:bV l=0):1 ≤ l.length∧l.length ≤ 8∧cw aN l∧∀ v ∈ l,bk v=true:=by
 unfold bV at h
 split at h
 ·exact absurd h (by decide)
 split at h
 ·exact absurd h (by decide)
 rename_i h1 h2
 have hz:=eu h
 have h3:∀ k,k < l.length→bk (l.getD k default)=true∧(0 < k→aN (l.getD (k - 1) default) (l.getD k default) < 0):=fun k hk=>by
  have:=hz k hk
  unfold lr at this
  split at this
  ·exact absurd this (by decide)
  rename_i g1
  split at this
  ·exact absurd this (by decide)
  rename_i g2
  exact ⟨by simpa using g1,fun h0=>by omega⟩
 refine ⟨by omega,by omega,?_,fun v hv=>?_⟩
 ·have step:∀ j i,i < j→j < l.length→aN (l.getD i default) (l.getD j default) < 0:=by
    intro j
    induction j with
    | zero=>intro i h; omega
    | succ j ih =>
     intro i hi hj
     have hs:=(h3 (j + 1) hj).2 (by omega)
     rw [Nat.add_sub_cancel] at hs
     by_cases e:i=j
     ·subst e; exact hs
     ·exact kC.trans (ih i (by omega) (by omega)) hs
  unfold cw
  rw [List.pairwise_iff_getElem]
  intro i j hi hj hij
  have:=step j i hij hj
  simpa [List.getD,hi,hj] using this
 ·obtain ⟨i,hi,rfl⟩:=List.getElem_of_mem hv
  have:=(h3 i hi).1
  simpa [List.getD,hi] using this
theorem dI {α:Type} [Inhabited α] {K:α→α→Int} {l:List α} (h:cw K l) {i j:Nat} (hij:i < j) (hj:j < l.length):K (l.getD i default) (l.getD j default) < 0:=by
 have:=List.pairwise_iff_getElem.1 h i j (by omega) hj hij
 simpa [List.getD,hj,show i < l.length by omega] using this
end Go.Proofs.YtbgdcebmgjafjaaGreat
namespace Go.Proofs.YtbgdcebmgjafjaaGreat
open Go Go.Abs
open Nat (reduceEqDiff reduceAdd reduceLeDiff)
def c3i (a b:Int):Int:=if a < b then -1 else if a > b then 1 else 0
theorem qc (v w:Vtx):(if c3i v.color w.color ≠ 0 then c3i v.color w.color else c3i v.label w.label)=aN v w:=by
 unfold c3i aN
 by_cases h1:v.color < w.color
 ·rw [if_pos h1,if_pos h1,if_pos (by simp)]
 ·rw [if_neg h1,if_neg h1]
  by_cases h2:v.color > w.color
  ·rw [if_pos h2,if_pos h2,if_pos (by simp)]
  ·rw [if_neg h2,if_neg h2,if_neg (by simp)]
attribute [local irreducible] aD ai bd bg aQ aV aA aU bj bD Go.Abs.Fn be Go.Abs.Pure aB aK Yl
theorem n4 (n:Int):Pure Tryz.prog 130 [.int .i64 n] (.bool false):=by
 refine Pure.of_c2 follows uH (Nat.le_of_ble_eq_true rfl) ?_
 simp only [vj,cO,cG,cN,cM,cD,cF,cB,ap,aH]
 (have zz:=and_self; repeat' (first | refine zW ?_ | apply a_n | refine zO ?_ | refine vZ ?_ | refine ag rfl ?_ | refine r1Z ?_ | fail)) <;> (try clear zz)
 exact bi (decide_eq_false (fun h=>h rfl))
theorem mS (a b:Int):Pure Tryz.prog 111 [.int .i64 a,.int .i64 b] (.int .i64 (c3i a b)):=by
 refine Pure.of_c2 follows uB (Nat.le_of_ble_eq_true rfl) ?_
 simp only [ve,cO,cG,cN,cM,cD,cF,cB,ap,aH]
 have h1:=n4 a
 have h2:=n4 b
 unfold c3i
 (have zz:=and_self; repeat' (first | refine zW ?_ | apply a_n | apply a_r | refine zO ?_ | refine vZ ?_ | refine cZ ?_ (hp:=by first | exact h1 | exact h2) | refine cFZ ?_ | (refine zGZ ?_ ?_ <;> (intro _hg; try (exfalso; omega))) | refine ag rfl ?_ | refine r1Z ?_ | fail)) <;> (try clear zz)
 all_goals (refine bt ?_)
 ·rw [if_pos (by omega)]
 ·rw [if_neg (by omega),if_pos (by omega)]
 ·rw [if_neg (by omega),if_neg (by omega)]
theorem uL (a b:Int):Pure Tryz.prog 110 [cW [a,b]] (.int .i64 (if a ≠ 0 then a else b)):=by
 refine Pure.of_c2 follows uy (Nat.le_of_ble_eq_true rfl) ?_
 simp only [u0,cO,cG,cN,cM,cD,cF,cB,ap,aH]
 (have zz:=and_self; repeat' (first | refine zW ?_ | apply a_n | refine zO ?_ | refine vZ ?_ | fail)) <;> (try clear zz)
 refine qa (fun k=>[(3,.int .i64 0),(6,cW [a,b]),(7,.int .i64 2),(8,.int .i64 k)]) 2 (fun k=>[a,b].getD k default=0) (by (iterate 4 refine And.intro rfl ?_); trivial) ?_
 intro k hk hz
 rcases (by omega:k=0 ∨ k=1 ∨ k=2) with rfl | rfl | rfl
 ·have e:[a,b].getD 0 default=a:=rfl
  have ix:dv 1 (cW [a,b]) (.int .i64 ((0:Nat):Int))=some (.iptr [.int .i64 a] 0):=rfl
  by_cases h0:a=0
  ·have z:decide (a ≠ 0)=false:=decide_eq_false (fun h=>h h0)
   (have zz:=aI @ix @z; repeat' (first | refine zW ?_ | apply a_n | refine zO ?_ | refine vZ ?_ | refine cFZ ?_ | (refine zGZ ?_ ?_ <;> (intro _hg; try (exfalso; omega))) | fail)) <;> (try clear zz)
   exact ⟨by omega,h0,by (iterate 4 refine And.intro rfl ?_); trivial,rfl,rfl⟩
  ·have z:decide (a ≠ 0)=true:=decide_eq_true h0
   (have zz:=aI @ix @z; repeat' (first | refine zW ?_ | apply a_n | apply a_r | refine zO ?_ | refine vZ ?_ | refine cTZ ?_ | (refine zGZ ?_ ?_ <;> (intro _hg; try (exfalso; omega))) | refine ag rfl ?_ | refine r1Z ?_ | fail)) <;> (try clear zz)
   rw [if_pos h0]; exact .int _ _
 ·have h0:a=0:=hz 0 (by omega)
  have ix:dv 1 (cW [a,b]) (.int .i64 ((1:Nat):Int))=some (.iptr [.int .i64 b] 0):=rfl
  rw [if_neg (fun h=>h h0)]
  by_cases h1:b=0
  ·have z:decide (b ≠ 0)=false:=decide_eq_false (fun h=>h h1)
   (have zz:=aI @ix @z; repeat' (first | refine zW ?_ | apply a_n | refine zO ?_ | refine vZ ?_ | refine cFZ ?_ | (refine zGZ ?_ ?_ <;> (intro _hg; try (exfalso; omega))) | fail)) <;> (try clear zz)
   exact ⟨by omega,h1,by (iterate 4 refine And.intro rfl ?_); trivial,rfl,rfl⟩
  ·have z:decide (b ≠ 0)=true:=decide_eq_true h1
   (have zz:=aI @ix @z; repeat' (first | refine zW ?_ | apply a_n | apply a_r | refine zO ?_ | refine vZ ?_ | refine cTZ ?_ | (refine zGZ ?_ ?_ <;> (intro _hg; try (exfalso; omega))) | refine ag rfl ?_ | refine r1Z ?_ | fail)) <;> (try clear zz)
   exact .int _ _
 ·have h0:a=0:=hz 0 (by omega)
  have h1:b=0:=hz 1 (by omega)
  rw [if_neg (fun h=>h h0),h1]
  (have zz:=and_self; repeat' (first | refine zW ?_ | apply a_n | apply a_x | refine zO ?_ | refine vZ ?_ | (refine zGZ ?_ ?_ <;> (intro _hg; try (exfalso; omega))) | refine ag rfl ?_ | refine r1Z ?_ | fail)) <;> (try clear zz)
  exact .int _ _
theorem pZ (v w:Vtx):Pure Tryz.prog 95 [a7 v,a7 w] (.int .i64 (aN v w)):=by
 refine Pure.of_c2 follows xq (Nat.le_of_ble_eq_true rfl) ?_
 simp only [b95,cO,cG,cN,cM,cD,cF,cB,ap,aH]
 have h1:=mS v.color w.color
 have h2:=mS v.label w.label
 have h3:=uL (c3i v.color w.color) (c3i v.label w.label)
 rw [qc] at h3
 (have zz:=and_self; repeat' (first | refine zW ?_ | refine zM ?_ | apply a_n | refine zO ?_ | refine vZ ?_ | refine cZ ?_ (hp:=by first | exact h1 | exact h2) | refine bxZ ?_ | refine blZ ?_ | fail)) <;> (try clear zz)
 refine ce ev0 (by ((try simp only [b8,ZA,reduceEqDiff,↓reduceIte,reduceAdd,reduceLeDiff]); (try with_reducible rfl)); rfl) h3 (aa (au (oL ar rfl rfl) ab) rfl) ?_
 (have zz:=and_self; repeat' (first | apply a_n | refine zO ?_ | refine vZ ?_ | refine ag rfl ?_ | refine r1Z ?_ | fail)) <;> (try clear zz)
 exact .int _ _
theorem lC (v w:Vtx):Pure Tryz.prog 74 [a7 v,a7 w] (.int .i64 (aN v w)):=by
 refine Pure.of_c2 follows wX (Nat.le_of_ble_eq_true rfl) ?_
 simp only [b74,cO,cG,cN,cM,cD,cF,cB,ap,aH]
 have h1:=mS v.color w.color
 have h2:=mS v.label w.label
 have h3:=uL (c3i v.color w.color) (c3i v.label w.label)
 rw [qc] at h3
 (have zz:=and_self; repeat' (first | refine zW ?_ | refine zM ?_ | apply a_n | refine zO ?_ | refine vZ ?_ | refine cZ ?_ (hp:=by first | exact h1 | exact h2) | refine bxZ ?_ | refine blZ ?_ | fail)) <;> (try clear zz)
 refine ce ev0 (by ((try simp only [b8,ZA,reduceEqDiff,↓reduceIte,reduceAdd,reduceLeDiff]); (try with_reducible rfl)); rfl) h3 (aa (au (oL ar rfl rfl) ab) rfl) ?_
 (have zz:=and_self; repeat' (first | apply a_n | refine zO ?_ | refine vZ ?_ | refine ag rfl ?_ | refine r1Z ?_ | fail)) <;> (try clear zz)
 exact .int _ _
theorem fv (v w:Vtx):Pure Tryz.prog 88 [a7 v,a7 w] (.int .i64 (aN v w)):=by
 refine Pure.of_c2 follows xc (Nat.le_of_ble_eq_true rfl) ?_
 simp only [b88,cO,cG,cN,cM,cD,cF,cB,ap,aH]
 unfold aN
 (have zz:=and_self; repeat' (first | refine zW ?_ | apply a_n | apply a_r | refine zO ?_ | refine vZ ?_ | refine bxZ ?_ | (refine zGZ ?_ ?_ <;> (intro _hg; try (exfalso; omega))) | refine ag rfl ?_ | refine r1Z ?_ | fail)) <;> (try clear zz)
 all_goals (refine bt ?_; (repeat' split) <;> omega)
theorem pC (v:Vtx):Pure Tryz.prog 99 [a7 v] (.bool (bk v)):=by
 refine Pure.of_c2 follows xh (Nat.le_of_ble_eq_true rfl) ?_
 simp only [b99,cO,cG,cN,cM,cD,cF,cB,ap,aH]
 unfold bk
 (have zz:=and_self; repeat' (first | refine zW ?_ | apply a_n | refine zO ?_ | refine vZ ?_ | refine bxZ ?_ | refine gTZ ?_ | refine gFZ ?_ | (refine zGZ ?_ ?_ <;> (intro _hg; try (exfalso; omega))) | refine ag rfl ?_ | refine r1Z ?_ | fail)) <;> (try clear zz)
 all_goals (refine bi ?_; rw [Bool.eq_iff_iff]; simp only [Bool.and_eq_true,decide_eq_true_iff,Bool.false_eq_true,false_iff]; omega)
theorem oX (v:Vtx):Pure Tryz.prog 73 [a7 v] (.bool (bk v)):=by
 refine Pure.of_c2 follows xf (Nat.le_of_ble_eq_true rfl) ?_
 simp only [b73,cO,cG,cN,cM,cD,cF,cB,ap,aH]
 unfold bk
 (have zz:=and_self; repeat' (first | refine zW ?_ | apply a_n | refine zO ?_ | refine vZ ?_ | refine bxZ ?_ | refine gTZ ?_ | refine gFZ ?_ | (refine zGZ ?_ ?_ <;> (intro _hg; try (exfalso; omega))) | refine ag rfl ?_ | refine r1Z ?_ | fail)) <;> (try clear zz)
 all_goals (refine bi ?_; rw [Bool.eq_iff_iff]; simp only [Bool.and_eq_true,decide_eq_true_iff,Bool.false_eq_true,false_iff]; omega)
theorem i7 (v:Vtx):Pure Tryz.prog 87 [a7 v] (.bool (bk v)):=by
 refine Pure.of_c2 follows ya (Nat.le_of_ble_eq_true rfl) ?_
 simp only [b87,cO,cG,cN,cM,cD,cF,cB,ap,aH]
 unfold bk
 (have zz:=and_self; repeat' (first | refine zW ?_ | apply a_n | refine zO ?_ | refine vZ ?_ | refine bxZ ?_ | refine gTZ ?_ | refine gFZ ?_ | (refine zGZ ?_ ?_ <;> (intro _hg; try (exfalso; omega))) | refine ag rfl ?_ | refine r1Z ?_ | fail)) <;> (try clear zz)
 all_goals (refine bi ?_; rw [Bool.eq_iff_iff]; simp only [Bool.and_eq_true,decide_eq_true_iff,Bool.false_eq_true,false_iff]; omega)
end Go.Proofs.YtbgdcebmgjafjaaGreat
namespace Go.Proofs.YtbgdcebmgjafjaaGreat
open Go Go.Abs
attribute [local irreducible] aD ai bd bg aQ aV aA aU bj bD Go.Abs.Fn be Go.Abs.Pure aB aK Yl
theorem nS (l m:Spx) (hl:Shn l) (hm:Shn m):Pure Tryz.prog 94 [ao l,ao m,.func 95 []] (.int .i64 (bO l m)):=by
 refine Pure.of_c2 follows wT (Nat.le_of_ble_eq_true rfl) ?_
 simp only [b94,cO,cG,cN,cM,cD,cF,cB,ap,aH]
 have hl':l.length ≤ 17592186044416:=hl
 have hm':m.length ≤ 17592186044416:=hm
 (have zz:=@ac; repeat' (first | refine zW ?_ | apply a_n | refine zO ?_ | refine vZ ?_ | fail)) <;> (try clear zz)
 refine aY (X:=Nat) (fun k=>[(0,ao l),(1,ao m),(2,.func 95 []),(11,ao l),(12,.int .i64 l.length),(13,.int .i64 k)]) (fun k H nx=>k ≤ l.length∧k ≤ m.length∧bO l m=bO (l.drop k) (m.drop k)) (fun k=>l.length - k) 0 ⟨Nat.zero_le _,Nat.zero_le _,rfl⟩ ag0 ?_
 rintro k H nx ⟨h1,h2,h3⟩
 by_cases hk:k < l.length
 rotate_left
 ·rw [h3,lL (by omega) ⟨h1,h2⟩]
  (have zz:=@ac; repeat' (first | refine zW ?_ | apply a_n | apply a_x | apply a_r | refine zO ?_ | refine vY ?_ | (refine zGY ?_ ?_ <;> (intro _hg; try (exfalso; omega))) | refine ag rfl ?_ | refine r1Y ?_ | fail)) <;> (try clear zz)
  all_goals (refine bt ?_)
  ·rw [if_pos (by omega)]
  ·rw [if_neg (by omega),if_neg (by omega)]
 have ix:=ix2 hk
 by_cases hk2:k < m.length
 rotate_left
 ·rw [h3,lL (by omega) ⟨h1,h2⟩,if_neg (by omega),if_pos (by omega)]
  (have zz:=aI @ac @ix; repeat' (first | refine zW ?_ | apply a_n | apply a_r | refine zO ?_ | refine vY ?_ | refine alY ?_ | refine stY ?_ | (refine zGY ?_ ?_ <;> (intro _hg; try (exfalso; omega))) | refine ag rfl ?_ | refine r1Y ?_ | fail)) <;> (try clear zz)
  all_goals exact bt rfl
 have iy:=ix2 hk2
 have hc:=pZ (l.getD k default) (m.getD k default)
 have hd:=mo hk hk2
 by_cases he:aN (l.getD k default) (m.getD k default)=0
 ·rw [if_neg (fun h=>h he)] at hd
  rw [he] at hc
  have z:decide ((0:Int) ≠ 0)=false:=rfl
  (have zz:=aI @ac (aI @ix (aI @iy @z)); repeat' (first | refine zW ?_ | apply a_n | refine zO ?_ | refine vY ?_ | refine cY ?_ (hp:=hc) (hs:=by (first | refine aa ?_ rfl | apply ae); (repeat' (first | exact ab | apply ah | apply af | exact aG _)); first | done | fail) | refine alY ?_ | refine stY ?_ | refine cFY ?_ | (refine zGY ?_ ?_ <;> (intro _hg; try (exfalso; omega))) | fail)) <;> (try clear zz)
  exact ⟨k + 1,by omega,⟨by omega,by omega,h3.trans hd⟩,ag0⟩
 ·rw [if_pos he] at hd
  have z:decide (aN (l.getD k default) (m.getD k default) ≠ 0)=true:=decide_eq_true he
  rw [h3,hd]
  (have zz:=aI @ac (aI @ix (aI @iy @z)); repeat' (first | refine zW ?_ | apply a_n | apply a_r | refine zO ?_ | refine vY ?_ | refine cY ?_ (hp:=hc) (hs:=by (first | refine aa ?_ rfl | apply ae); (repeat' (first | exact ab | apply ah | apply af | exact aG _)); first | done | fail) | refine alY ?_ | refine stY ?_ | refine cTY ?_ | (refine zGY ?_ ?_ <;> (intro _hg; try (exfalso; omega))) | refine ag rfl ?_ | refine r1Y ?_ | fail)) <;> (try clear zz)
  exact .int _ _
theorem l7 (l m:Spx) (hl:Shn l) (hm:Shn m):Pure Tryz.prog 59 [ao l,ao m] (.int .i64 (bO l m)):=by
 refine Pure.of_c2 follows wt (Nat.le_of_ble_eq_true rfl) ?_
 simp only [b59,cO,cG,cN,cM,cD,cF,cB,ap,aH]
 have h:=nS l m hl hm
 (have zz:=and_self; repeat' (first | refine zW ?_ | apply a_n | refine zO ?_ | refine vZ ?_ | refine cZ ?_ (hp:=h) (hs:=by (first | refine aa ?_ rfl | apply ae); (repeat' (first | exact ab | apply ah | apply af | exact an _ | exact Dat.func (by simp))); first | done | fail) | refine ag rfl ?_ | refine r1Z ?_ | fail)) <;> (try clear zz)
 exact .int _ _
theorem lR (l m:Spx) (hl:Shn l) (hm:Shn m):Pure Tryz.prog 62 [ao l,ao m] (.int .i64 (bO l m)):=by
 refine Pure.of_c2 follows wv (Nat.le_of_ble_eq_true rfl) ?_
 simp only [b62,cO,cG,cN,cM,cD,cF,cB,ap,aH]
 have hl':l.length ≤ 17592186044416:=hl
 have hm':m.length ≤ 17592186044416:=hm
 (have zz:=and_self; repeat' (first | refine zW ?_ | apply a_n | refine zO ?_ | refine vZ ?_ | fail)) <;> (try clear zz)
 refine aY (X:=Nat) (fun k=>[(0,ao l),(1,ao m),(5,.int .i64 k)]) (fun k H nx=>k ≤ l.length∧k ≤ m.length∧bO l m=bO (l.drop k) (m.drop k)) (fun k=>l.length - k) 0 ⟨Nat.zero_le _,Nat.zero_le _,rfl⟩ ag0 ?_
 rintro k H nx ⟨h1,h2,h3⟩
 by_cases hk:k < l.length∧k < m.length
 rotate_left
 ·rw [h3,lL (by omega) ⟨h1,h2⟩]
  (have zz:=@ac; repeat' (first | refine zW ?_ | apply a_n | apply a_x | apply a_r | refine zO ?_ | refine vY ?_ | refine gTY ?_ | refine gFY ?_ | refine cFY ?_ | (refine zGY ?_ ?_ <;> (intro _hg; try (exfalso; omega))) | refine ag rfl ?_ | refine r1Y ?_ | fail)) <;> (try clear zz)
  all_goals (refine bt ?_; (repeat' split) <;> omega)
 have ix:=ix2 hk.1
 have iy:=ix2 hk.2
 have hc:=fv (l.getD k default) (m.getD k default)
 have hd:=mo hk.1 hk.2
 by_cases he:aN (l.getD k default) (m.getD k default)=0
 ·rw [if_neg (fun h=>h he)] at hd
  rw [he] at hc
  have z:decide ((0:Int) ≠ 0)=false:=rfl
  (have zz:=aI @ac (aI @ix (aI @iy @z)); repeat' (first | refine zW ?_ | refine zM ?_ | apply a_n | refine zO ?_ | refine vY ?_ | refine cY ?_ (hp:=hc) (hs:=by (first | refine aa ?_ rfl | apply ae); (repeat' (first | exact ab | apply ah | apply af | exact aG _)); first | done | fail) | refine gTY ?_ | refine cFY ?_ | (refine zGY ?_ ?_ <;> (intro _hg; try (exfalso; omega))) | fail)) <;> (try clear zz)
  exact ⟨k + 1,by omega,⟨by omega,by omega,h3.trans hd⟩,ag0⟩
 ·rw [if_pos he] at hd
  have z:decide (aN (l.getD k default) (m.getD k default) ≠ 0)=true:=decide_eq_true he
  rw [h3,hd]
  (have zz:=aI @ac (aI @ix (aI @iy @z)); repeat' (first | refine zW ?_ | refine zM ?_ | apply a_n | apply a_r | refine zO ?_ | refine vY ?_ | refine cY ?_ (hp:=hc) (hs:=by (first | refine aa ?_ rfl | apply ae); (repeat' (first | exact ab | apply ah | apply af | exact aG _)); first | done | fail) | refine gTY ?_ | refine cTY ?_ | (refine zGY ?_ ?_ <;> (intro _hg; try (exfalso; omega))) | refine ag rfl ?_ | refine r1Y ?_ | fail)) <;> (try clear zz)
  exact .int _ _
theorem jB {l:Spx} {k:Nat}:lr l k=if bk (l.getD k default)=false then 2 else if 0 < k∧0 ≤ aN (l.getD (k - 1) default) (l.getD k default) then 14 else 0:=rfl
theorem nX (l:Spx) (hl:Shn l):Pure Tryz.prog 64 [ao l] (.int .i64 (bV l)):=by
 refine Pure.of_c2 follows xF (Nat.le_of_ble_eq_true rfl) ?_
 simp only [b64,cO,cG,cN,cM,cD,cF,cB,ap,aH]
 have hl':l.length ≤ 17592186044416:=hl
 by_cases h0:l.length=0
 ·rw [show bV l=16 by unfold bV; rw [if_pos h0]]
  (have zz:=@ac; repeat' (first | refine zW ?_ | apply a_n | apply a_r | refine zO ?_ | refine vZ ?_ | (refine zGZ ?_ ?_ <;> (intro _hg; try (exfalso; omega))) | refine ag rfl ?_ | refine r1Z ?_ | fail)) <;> (try clear zz)
  all_goals exact bt rfl
 by_cases h8:8 < l.length
 ·rw [show bV l=5 by unfold bV; rw [if_neg h0,if_pos h8]]
  (have zz:=@ac; repeat' (first | refine zW ?_ | apply a_n | apply a_r | refine zO ?_ | refine vZ ?_ | (refine zGZ ?_ ?_ <;> (intro _hg; try (exfalso; omega))) | refine ag rfl ?_ | refine r1Z ?_ | fail)) <;> (try clear zz)
  all_goals exact bt rfl
 rw [show bV l=bJ (lr l) l.length by unfold bV; rw [if_neg h0,if_neg h8]]
 (have zz:=@ac; repeat' (first | refine zW ?_ | apply a_n | refine zO ?_ | refine vZ ?_ | (refine zGZ ?_ ?_ <;> (intro _hg; try (exfalso; omega))) | fail)) <;> (try clear zz)
 refine aY (X:=Nat) (fun k=>[(0,ao l),(13,ao l),(14,.int .i64 l.length),(15,.int .i64 k)]) (fun k H nx=>k ≤ l.length∧∀ i,i < k→lr l i=0) (fun k=>l.length - k) 0 ⟨Nat.zero_le _,fun i h=>absurd h (by omega)⟩ ag0 ?_
 rintro k H nx ⟨h1,h2⟩
 by_cases hk:k < l.length
 rotate_left
 ·rw [b5 fun i hi=>h2 i (by omega)]
  (have zz:=@ac; repeat' (first | refine zW ?_ | apply a_n | apply a_x | refine zO ?_ | refine vY ?_ | (refine zGY ?_ ?_ <;> (intro _hg; try (exfalso; omega))) | refine ag rfl ?_ | refine r1Y ?_ | fail)) <;> (try clear zz)
  exact .int _ _
 have ix:=ix2 hk
 have hp:=pC (l.getD k default)
 have hs:=jB (l:=l) (k:=k)
 cases hr:bk (l.getD k default)
 ·rw [hr] at hp
  rw [hr,if_pos rfl] at hs
  rw [br hk h2 (by rw [hs]; decide),hs]
  (have zz:=aI @ac @ix; repeat' (first | refine zW ?_ | apply a_n | apply a_r | refine zO ?_ | refine vY ?_ | refine cY ?_ (hp:=hp) (hs:=by (first | refine aa ?_ rfl | apply ae); (repeat' (first | exact ab | apply ah | apply af | exact aG _)); first | done | fail) | refine alY ?_ | refine stY ?_ | refine cTY ?_ | (refine zGY ?_ ?_ <;> (intro _hg; try (exfalso; omega))) | refine ag rfl ?_ | refine r1Y ?_ | fail)) <;> (try clear zz)
  exact .int _ _
 rw [hr] at hp
 rw [hr,if_neg (by decide)] at hs
 by_cases hk0:0 < k
 rotate_left
 ·rw [if_neg (fun h=>hk0 h.1)] at hs
  have zk:decide (0 < (k:Int))=false:=decide_eq_false (by omega)
  (have zz:=aI @ac (aI @ix @zk); repeat' (first | refine zW ?_ | refine zM ?_ | apply a_n | refine zO ?_ | refine vY ?_ | refine cY ?_ (hp:=hp) (hs:=by (first | refine aa ?_ rfl | apply ae); (repeat' (first | exact ab | apply ah | apply af | exact aG _)); first | done | fail) | refine alY ?_ | refine stY ?_ | refine gFY ?_ | refine cFY ?_ | (refine zGY ?_ ?_ <;> (intro _hg; try (exfalso; omega))) | fail)) <;> (try clear zz)
  exact ⟨k + 1,by omega,⟨by omega,fun i hi=>by
   rcases Nat.lt_succ_iff_lt_or_eq.1 hi with h | rfl
   ·exact h2 i h
   ·exact hs⟩,ag0⟩
 have zk:decide (0 < (k:Int))=true:=decide_eq_true (by omega)
 have iy:dv 2 (ao l) (.int .i64 ((k:Int) - 1))=some (.iptr [.int .i64 (l.getD (k - 1) default).color,.int .i64 (l.getD (k - 1) default).label] 0):=by
  have:=ix2 (l:=l) (k:=k - 1) (by omega)
  rwa [show ((k - 1:Nat):Int)=(k:Int) - 1 by omega] at this
 have hc:=pZ (l.getD (k - 1) default) (l.getD k default)
 by_cases hv:0 ≤ aN (l.getD (k - 1) default) (l.getD k default)
 ·have z:decide (0 ≤ aN (l.getD (k - 1) default) (l.getD k default))=true:=decide_eq_true hv
  rw [if_pos ⟨hk0,hv⟩] at hs
  rw [br hk h2 (by rw [hs]; decide),hs]
  (have zz:=aI @ac (aI @ix (aI @iy (aI @zk @z))); repeat' (first | refine zW ?_ | refine zM ?_ | apply a_n | apply a_r | refine zO ?_ | refine vY ?_ | refine cY ?_ (hp:=by first | exact hp | exact hc) (hs:=by (first | refine aa ?_ rfl | apply ae); (repeat' (first | exact ab | apply ah | apply af | exact aG _)); first | done | fail) | refine alY ?_ | refine stY ?_ | refine gTY ?_ | refine cTY ?_ | refine cFY ?_ | (refine zGY ?_ ?_ <;> (intro _hg; try (exfalso; omega))) | refine ag rfl ?_ | refine r1Y ?_ | fail)) <;> (try clear zz)
  exact .int _ _
 ·have z:decide (0 ≤ aN (l.getD (k - 1) default) (l.getD k default))=false:=decide_eq_false hv
  rw [if_neg (fun h=>hv h.2)] at hs
  (have zz:=aI @ac (aI @ix (aI @iy (aI @zk @z))); repeat' (first | refine zW ?_ | refine zM ?_ | apply a_n | refine zO ?_ | refine vY ?_ | refine cY ?_ (hp:=by first | exact hp | exact hc) (hs:=by (first | refine aa ?_ rfl | apply ae); (repeat' (first | exact ab | apply ah | apply af | exact aG _)); first | done | fail) | refine alY ?_ | refine stY ?_ | refine gTY ?_ | refine cFY ?_ | (refine zGY ?_ ?_ <;> (intro _hg; try (exfalso; omega))) | fail)) <;> (try clear zz)
  exact ⟨k + 1,by omega,⟨by omega,fun i hi=>by
   rcases Nat.lt_succ_iff_lt_or_eq.1 hi with h | rfl
   ·exact h2 i h
   ·exact hs⟩,ag0⟩
theorem qh (l:Spx) (hl:Shn l):Pure Tryz.prog 65 [ao l] (.int .i64 (bV l)):=by
 refine Pure.of_c2 follows yi (Nat.le_of_ble_eq_true rfl) ?_
 simp only [b65,cO,cG,cN,cM,cD,cF,cB,ap,aH]
 have hl':l.length ≤ 17592186044416:=hl
 by_cases h0:l.length=0
 ·rw [show bV l=16 by unfold bV; rw [if_pos h0]]
  (have zz:=@ac; repeat' (first | refine zW ?_ | apply a_n | apply a_r | refine zO ?_ | refine vZ ?_ | (refine zGZ ?_ ?_ <;> (intro _hg; try (exfalso; omega))) | refine ag rfl ?_ | refine r1Z ?_ | fail)) <;> (try clear zz)
  all_goals exact bt rfl
 by_cases h8:8 < l.length
 ·rw [show bV l=5 by unfold bV; rw [if_neg h0,if_pos h8]]
  (have zz:=@ac; repeat' (first | refine zW ?_ | apply a_n | apply a_r | refine zO ?_ | refine vZ ?_ | (refine zGZ ?_ ?_ <;> (intro _hg; try (exfalso; omega))) | refine ag rfl ?_ | refine r1Z ?_ | fail)) <;> (try clear zz)
  all_goals exact bt rfl
 rw [show bV l=bJ (lr l) l.length by unfold bV; rw [if_neg h0,if_neg h8]]
 (have zz:=@ac; repeat' (first | refine zW ?_ | apply a_n | refine zO ?_ | refine vZ ?_ | (refine zGZ ?_ ?_ <;> (intro _hg; try (exfalso; omega))) | fail)) <;> (try clear zz)
 refine aY (X:=Nat) (fun k=>[(0,ao l),(3,.int .i64 k)]) (fun k H nx=>k ≤ l.length∧∀ i,i < k→lr l i=0) (fun k=>l.length - k) 0 ⟨Nat.zero_le _,fun i h=>absurd h (by omega)⟩ ag0 ?_
 rintro k H nx ⟨h1,h2⟩
 by_cases hk:k < l.length
 rotate_left
 ·rw [b5 fun i hi=>h2 i (by omega)]
  (have zz:=@ac; repeat' (first | refine zW ?_ | apply a_n | apply a_x | refine zO ?_ | refine vY ?_ | (refine zGY ?_ ?_ <;> (intro _hg; try (exfalso; omega))) | refine ag rfl ?_ | refine r1Y ?_ | fail)) <;> (try clear zz)
  exact .int _ _
 have ix:=ix2 hk
 have hp:=i7 (l.getD k default)
 have hs:=jB (l:=l) (k:=k)
 cases hr:bk (l.getD k default)
 ·rw [hr] at hp
  rw [hr,if_pos rfl] at hs
  rw [br hk h2 (by rw [hs]; decide),hs]
  (have zz:=aI @ac @ix; repeat' (first | refine zW ?_ | apply a_n | apply a_r | refine zO ?_ | refine vY ?_ | refine cY ?_ (hp:=hp) (hs:=by (first | refine aa ?_ rfl | apply ae); (repeat' (first | exact ab | apply ah | apply af | exact aG _)); first | done | fail) | refine cTY ?_ | (refine zGY ?_ ?_ <;> (intro _hg; try (exfalso; omega))) | refine ag rfl ?_ | refine r1Y ?_ | fail)) <;> (try clear zz)
  exact .int _ _
 rw [hr] at hp
 rw [hr,if_neg (by decide)] at hs
 by_cases hk0:0 < k
 rotate_left
 ·rw [if_neg (fun h=>hk0 h.1)] at hs
  have zk:decide (0 < (k:Int))=false:=decide_eq_false (by omega)
  (have zz:=aI @ac (aI @ix @zk); repeat' (first | refine zW ?_ | refine zM ?_ | apply a_n | refine zO ?_ | refine vY ?_ | refine cY ?_ (hp:=hp) (hs:=by (first | refine aa ?_ rfl | apply ae); (repeat' (first | exact ab | apply ah | apply af | exact aG _)); first | done | fail) | refine gFY ?_ | refine cFY ?_ | (refine zGY ?_ ?_ <;> (intro _hg; try (exfalso; omega))) | fail)) <;> (try clear zz)
  exact ⟨k + 1,by omega,⟨by omega,fun i hi=>by
   rcases Nat.lt_succ_iff_lt_or_eq.1 hi with h | rfl
   ·exact h2 i h
   ·exact hs⟩,ag0⟩
 have zk:decide (0 < (k:Int))=true:=decide_eq_true (by omega)
 have iy:dv 2 (ao l) (.int .i64 ((k:Int) - 1))=some (.iptr [.int .i64 (l.getD (k - 1) default).color,.int .i64 (l.getD (k - 1) default).label] 0):=by
  have:=ix2 (l:=l) (k:=k - 1) (by omega)
  rwa [show ((k - 1:Nat):Int)=(k:Int) - 1 by omega] at this
 have hc:=fv (l.getD (k - 1) default) (l.getD k default)
 by_cases hv:0 ≤ aN (l.getD (k - 1) default) (l.getD k default)
 ·have z:decide (0 ≤ aN (l.getD (k - 1) default) (l.getD k default))=true:=decide_eq_true hv
  rw [if_pos ⟨hk0,hv⟩] at hs
  rw [br hk h2 (by rw [hs]; decide),hs]
  (have zz:=aI @ac (aI @ix (aI @iy (aI @zk @z))); repeat' (first | refine zW ?_ | refine zM ?_ | apply a_n | apply a_r | refine zO ?_ | refine vY ?_ | refine cY ?_ (hp:=by first | exact hp | exact hc) (hs:=by (first | refine aa ?_ rfl | apply ae); (repeat' (first | exact ab | apply ah | apply af | exact aG _)); first | done | fail) | refine gTY ?_ | refine cTY ?_ | refine cFY ?_ | (refine zGY ?_ ?_ <;> (intro _hg; try (exfalso; omega))) | refine ag rfl ?_ | refine r1Y ?_ | fail)) <;> (try clear zz)
  exact .int _ _
 ·have z:decide (0 ≤ aN (l.getD (k - 1) default) (l.getD k default))=false:=decide_eq_false hv
  rw [if_neg (fun h=>hv h.2)] at hs
  (have zz:=aI @ac (aI @ix (aI @iy (aI @zk @z))); repeat' (first | refine zW ?_ | refine zM ?_ | apply a_n | refine zO ?_ | refine vY ?_ | refine cY ?_ (hp:=by first | exact hp | exact hc) (hs:=by (first | refine aa ?_ rfl | apply ae); (repeat' (first | exact ab | apply ah | apply af | exact aG _)); first | done | fail) | refine gTY ?_ | refine cFY ?_ | (refine zGY ?_ ?_ <;> (intro _hg; try (exfalso; omega))) | fail)) <;> (try clear zz)
  exact ⟨k + 1,by omega,⟨by omega,fun i hi=>by
   rcases Nat.lt_succ_iff_lt_or_eq.1 hi with h | rfl
   ·exact h2 i h
   ·exact hs⟩,ag0⟩
end Go.Proofs.YtbgdcebmgjafjaaGreat
namespace Go.Proofs.YtbgdcebmgjafjaaGreat
open Go Go.Abs
open Nat (reduceEqDiff reduceAdd reduceLeDiff)
theorem pL (a b c d:Int):bS [.int,.int] [.int .i64 a,.int .i64 b] [.int .i64 c,.int .i64 d]=some (decide (a=c∧b=d)):=by
 have e:∀ x y:Int,(x == y)=decide (x=y):=fun x y=>rfl
 by_cases h1:a=c
 ·by_cases h2:b=d
  ·subst h1 h2; simp [bS,eU]
  ·subst h1; simp only [bS,eU,if_true,e,decide_eq_false h2,decide_true,h2,and_false,decide_false]
 ·simp only [bS,eU,if_true,e,decide_eq_false h1,h1,false_and,decide_false]
theorem acq (a b c d:Int):hZ .eql [.int,.int] [.int .i64 a,.int .i64 b] [.int .i64 c,.int .i64 d]=some (.bool (decide (a=c∧b=d))):=by
 unfold hZ; rw [pL]
theorem acn (a b c d:Int):hZ .neq [.int,.int] [.int .i64 a,.int .i64 b] [.int .i64 c,.int .i64 d]=some (.bool (!decide (a=c∧b=d))):=by
 unfold hZ; rw [pL]
theorem ff (v w:Vtx):decide (v.color=w.color∧v.label=w.label)=decide (v=w):=decide_eq_decide.2 m8.symm
theorem ee {H:Hp} {d:Nat} {x y:AV}:c8 2 (al H d [x,y]) (.msl d 2 2 0 1)=some (1,[x,y]):=hU (n:=2) (len:=1) (off:=0) (cs:=[x,y]) ar rfl (by simp)
theorem bR {α:Type} [Inhabited α] {l:List α} {k:Nat} (h:k < l.length):l.take (k + 1)=l.take k ++ [l.getD k default]:=by
 rw [List.take_add_one]; simp [List.getD,h]
section
variable {α:Type} {K:α→α→Int} {v x:α} {l:List α}
theorem oC (h:l.any (fun y=>decide (K v y < 0))=true):fu K (l ++ [x]) v=fu K l v ++ [x]:=by
 induction l with
 | nil=>cases h
 | cons a l ih =>
  rw [List.cons_append,fu,fu]
  split
  ·rfl
  ·rename_i ha
   rw [List.any_cons,decide_eq_false ha,Bool.false_or] at h
   rw [ih h]; rfl
theorem q9 (h:l.any (fun y=>decide (K v y < 0))=false):fu K l v=l ++ [v]:=by
 induction l with
 | nil=>rfl
 | cons a l ih =>
  rw [List.any_cons,Bool.or_eq_false_iff] at h
  rw [fu,if_neg (of_decide_eq_false h.1),ih h.2]; rfl
theorem rf (h:l.any (fun y=>decide (K v y < 0))=false) (hx:K v x < 0):fu K (l ++ [x]) v=l ++ [v] ++ [x]:=by
 induction l with
 | nil=>rw [List.nil_append,fu,if_pos hx]; rfl
 | cons a l ih =>
  rw [List.any_cons,Bool.or_eq_false_iff] at h
  rw [List.cons_append,fu,if_neg (of_decide_eq_false h.1),ih h.2]; rfl
theorem rK {p:α→Bool}:(l ++ [x]).any p=(l.any p || p x):=by rw [List.any_append]; simp
end
def mW (l:Spx) (v:Vtx) (k:Nat):Spx:=if (l.take k).any (fun y=>decide (aN v y < 0))=true then fu aN (l.take k) v else l.take k
theorem qQ {l:Spx} {v:Vtx} {k:Nat} (hk:k < l.length):mW l v (k + 1)=(if (l.take k).any (fun y=>decide (aN v y < 0))=false∧aN v (l.getD k default) < 0 then mW l v k ++ [v] else mW l v k) ++ [l.getD k default]∧(l.take (k + 1)).any (fun y=>decide (aN v y < 0))=((l.take k).any (fun y=>decide (aN v y < 0)) || decide (aN v (l.getD k default) < 0)):=by
 unfold mW
 rw [bR hk,rK]
 refine ⟨?_,rfl⟩
 by_cases hv:aN v (l.getD k default) < 0
 ·rw [decide_eq_true hv,Bool.or_true,if_pos rfl]
  cases ha:(l.take k).any fun y=>decide (aN v y < 0)
  ·rw [if_pos ⟨rfl,hv⟩,if_neg (by decide),rf ha hv]
  ·rw [if_neg (fun h=>by cases h.1),if_pos rfl,oC ha]
 ·rw [decide_eq_false hv,Bool.or_false]
  cases ha:(l.take k).any fun y=>decide (aN v y < 0)
  ·simp
   simpa using hv
  ·simp [hv,oC ha]
theorem sV {l:Spx} {v:Vtx} {k:Nat}:(mW l v k).length ≤ l.length + 1:=by
 unfold mW
 split
 ·rw [o4,List.length_take]; omega
 ·rw [List.length_take]; omega
def bn (a b:Spx):Bool:=a.all fun v=>decide (v ∈ b)
attribute [local irreducible] aD ai bd bg aQ aV aA aU bj bD Go.Abs.Fn be Go.Abs.Pure aB aK Yl
theorem sr (l:Spx) (v:Vtx) (hl:Shn l):Pure Tryz.prog 97 [ao l,a7 v] (.bool (decide (v ∈ l))):=by
 refine Pure.of_c2 follows yD (Nat.le_of_ble_eq_true rfl) ?_
 simp only [b97,cO,cG,cN,cM,cD,cF,cB,ap,aH]
 have hl':l.length ≤ 17592186044416:=hl
 (have zz:=@ac; repeat' (first | refine zW ?_ | apply a_n | refine zO ?_ | refine vZ ?_ | refine bxZ ?_ | fail)) <;> (try clear zz)
 refine qa (fun k=>[(0,ao l),(3,.ptr 0 2 0),(5,.int .i64 k)]) l.length (fun k=>l.getD k default ≠ v) (by simp (disch:=omega) only [agr,ZG,reduceEqDiff,↓reduceIte,List.length_cons,List.length_nil,Nat.zero_add,reduceAdd]) ?_
 intro k hk hz
 by_cases hk2:k < l.length
 rotate_left
 ·(have zz:=@ac; repeat' (first | refine zW ?_ | apply a_n | apply a_x | refine zO ?_ | refine vZ ?_ | (refine zGZ ?_ ?_ <;> (intro _hg; try (exfalso; omega))) | refine ag rfl ?_ | refine r1Z ?_ | fail)) <;> (try clear zz)
  exact bi (rc fun i hi=>hz i (by omega)).symm
 have ix:=ix2 hk2
 have hd:=ff (l.getD k default) v
 by_cases he:l.getD k default=v
 ·rw [decide_eq_true he] at hd
  rw [sG hk2 he]
  (have zz:=aI @ac (aI @ix (aI @acq @hd)); repeat' (first | refine zW ?_ | apply a_n | apply a_r | refine zO ?_ | refine vZ ?_ | refine cTZ ?_ | (refine zGZ ?_ ?_ <;> (intro _hg; try (exfalso; omega))) | refine ag rfl ?_ | refine r1Z ?_ | fail)) <;> (try clear zz)
  exact .bool _
 ·rw [decide_eq_false he] at hd
  (have zz:=aI @ac (aI @ix (aI @acq @hd)); repeat' (first | refine zW ?_ | apply a_n | refine zO ?_ | refine vZ ?_ | refine cFZ ?_ | (refine zGZ ?_ ?_ <;> (intro _hg; try (exfalso; omega))) | fail)) <;> (try clear zz)
  exact ⟨hk2,he,ag0,rfl,rfl⟩
set_option maxHeartbeats 1000000 in
theorem uv (l:Spx) (v:Vtx) (hl:l.length ≤ 1000000):Pure Tryz.prog 98 [ao l,a7 v] (ao (fF aN l v)):=by
 refine Pure.of_c2 follows yr (Nat.le_of_ble_eq_true rfl) ?_
 simp only [b98,cO,cG,cN,cM,cD,cF,cB,ap,aH]
 have hh:=sr l v (show l.length ≤ _ by omega)
 unfold fF
 by_cases hv:v ∈ l
 ·rw [decide_eq_true hv] at hh
  rw [if_pos hv]
  (have zz:=@ac; repeat' (first | refine zW ?_ | apply a_n | apply a_r | refine zO ?_ | refine vZ ?_ | refine cZ ?_ (hp:=hh) (hs:=by (first | refine aa ?_ rfl | apply ae); (repeat' (first | exact ab | apply ah | apply af | exact an _ | exact aG _)); first | done | fail) | refine bxZ ?_ | refine cTZ ?_ | refine ag rfl ?_ | refine r1Z ?_ | fail)) <;> (try clear zz)
  exact an _ _
 rw [decide_eq_false hv] at hh
 rw [if_neg hv]
 (have zz:=@ac; repeat' (first | refine zW ?_ | apply a_n | refine zO ?_ | refine vZ ?_ | refine cZ ?_ (hp:=hh) (hs:=by (first | refine aa ?_ rfl | apply ae); (repeat' (first | exact ab | apply ah | apply af | exact an _ | exact aG _)); first | done | fail) | refine bxZ ?_ | refine cFZ ?_ | fail)) <;> (try clear zz)
 refine aY (X:=Nat × AV) (fun x=>[(0,ao l),(3,.ptr 0 2 0),(5,x.2),(6,.bool ((l.take x.1).any fun y=>decide (aN v y < 0))),(7,.int .i64 x.1)]) (fun x H nx=>x.1 ≤ l.length∧H 0=some [.int .i64 v.color,.int .i64 v.label]∧Row H 2 x.2 (cX (mW l v x.1))∧(∀ b,fG x.2=some b→1 ≤ b∧b < nx)∧1 ≤ nx) (fun x=>l.length - x.1) (0,.esl) ⟨Nat.zero_le _,rfl,Row.nil,fun b h=>(by cases h),by omega⟩ (by (iterate 5 refine And.intro rfl ?_); trivial) ?_
 rintro ⟨k,sv⟩ H nx ⟨hk,g0,hrow,hbd,hnx⟩
 dsimp only at hk hrow hbd ⊢
 by_cases hk2:k < l.length
 rotate_left
 ·obtain rfl:k=l.length:=by omega
  unfold mW at hrow
  rw [List.take_length] at hrow ⊢
  cases ha:l.any fun y=>decide (aN v y < 0)
  ·rw [ha,if_neg (by decide)] at hrow
   (have zz:=aI @ac @g0; repeat' (first | refine zW ?_ | apply a_n | apply a_x | refine zO ?_ | refine vY ?_ | refine blY ?_ | refine cTY ?_ | (refine zGY ?_ ?_ <;> (intro _hg; try (exfalso; omega))) | fail)) <;> (try clear zz)
   refine fM rfl ev0 (hrow.same fun b hb=>?_) ev0 ee rfl rfl (by omega) (by rw [eL]; omega) (by rw [eL]; omega) ?_
   ·have:=hbd b hb; rw [am (by omega)]
   rintro s2 H2 nx2 hr2 _ _ _ _
   (have zz:=and_self; repeat' (first | refine zW ?_ | apply a_n | refine zO ?_ | refine vZ ?_ | refine ag rfl ?_ | refine r1Z ?_ | fail)) <;> (try clear zz)
   rw [q9 ha]
   refine px ?_
   rw [ec]; exact hr2
  ·rw [ha,if_pos rfl] at hrow
   (have zz:=aI @ac @g0; repeat' (first | refine zW ?_ | apply a_n | apply a_x | refine zO ?_ | refine vY ?_ | refine cFY ?_ | (refine zGY ?_ ?_ <;> (intro _hg; try (exfalso; omega))) | refine ag rfl ?_ | refine r1Y ?_ | fail)) <;> (try clear zz)
   exact px hrow
 have ix:=ix2 hk2
 have hc:=fv v (l.getD k default)
 obtain ⟨e1,e2⟩:=qQ (v:=v) hk2
 have hl1:(cX (mW l v k)).length ≤ 2000002:=by rw [eL]; have:=sV (l:=l) (v:=v) (k:=k); omega
 by_cases hd:(l.take k).any (fun y=>decide (aN v y < 0))=false∧aN v (l.getD k default) < 0
 ·rw [if_pos hd] at e1
  rw [hd.1,decide_eq_true hd.2,Bool.false_or] at e2
  obtain ⟨d1,d2⟩:=hd
  rw [d1]
  have z:decide (aN v (l.getD k default) < 0)=true:=decide_eq_true d2
  generalize aN v (l.getD k default)=cv at *
  generalize l.getD k default=w at *
  (have zz:=aI @ac (aI @ix (aI @g0 @z)); repeat' (first | refine zW ?_ | refine zM ?_ | apply a_n | refine zO ?_ | refine vY ?_ | refine cY ?_ (hp:=hc) (hs:=by (first | refine aa ?_ rfl | apply ae); (repeat' (first | exact ab | apply ah | apply af | exact aG _)); first | done | fail) | refine blY ?_ | refine gTY ?_ | refine cTY ?_ | (refine zGY ?_ ?_ <;> (intro _hg; try (exfalso; omega))) | fail)) <;> (try clear zz)
  refine fM rfl ev0 (hrow.same fun b hb=>?_) ev0 ee rfl rfl (by omega) (by omega) (by omega) ?_
  ·have:=hbd b hb; rw [am (by omega)]
  rintro s1 H1 nx1 hr1 j1 j2 j3 j4
  have hb1:∀ b,fG s1=some b→1 ≤ b∧b < nx1:=fun b hb=>by
   rcases j4 b hb with h | h
   ·have:=hbd b h; omega
   ·omega
  have g1:H1 0=some [.int .i64 v.color,.int .i64 v.label]:=by rw [j3 0 (by omega) (fun h=>by have:=hbd 0 h; omega),am (by omega)]; exact g0
  (have zz:=@ix; repeat' (first | apply a_n | refine zO ?_ | refine vY ?_ | refine blY ?_ | fail)) <;> (try clear zz)
  refine fM rfl ev0 (hr1.same fun b hb=>?_) ev0 ee rfl rfl (by omega) (by simp; omega) (by simp; omega) ?_
  ·have:=hb1 b hb; rw [am (by omega)]
  rintro s2 H2 nx2 hr2 i1 i2 i3 i4
  (have zz:=@e2; repeat' (first | apply a_n | refine zO ?_ | refine vY ?_ | fail)) <;> (try clear zz)
  refine ⟨(k + 1,s2),by dsimp only; omega,⟨by dsimp only; omega,?_,?_,fun b hb=>?_,by omega⟩,(have zz:=@e2; agZ)⟩
  ·rw [i3 0 (by omega) (fun h=>by have:=hb1 0 h; omega),am (by omega)]; exact g1
  ·dsimp only
   rw [e1,ec,ec]; exact hr2
  ·rcases i4 b hb with h | h
   ·have:=hb1 b h; omega
   ·omega
 rw [if_neg hd] at e1
 have key:∀ {T:Tm} {H':Hp} {nx':Nat},True:=trivial
 cases ha:(l.take k).any fun y=>decide (aN v y < 0)
 ·have d2:¬ aN v (l.getD k default) < 0:=fun h=>hd ⟨ha,h⟩
  rw [ha,decide_eq_false d2,Bool.false_or] at e2
  have z:decide (aN v (l.getD k default) < 0)=false:=decide_eq_false d2
  generalize aN v (l.getD k default)=cv at *
  generalize l.getD k default=w at *
  (have zz:=aI @ac (aI @ix (aI @g0 @z)); repeat' (first | refine zW ?_ | refine zM ?_ | apply a_n | refine zO ?_ | refine vY ?_ | refine cY ?_ (hp:=hc) (hs:=by (first | refine aa ?_ rfl | apply ae); (repeat' (first | exact ab | apply ah | apply af | exact aG _)); first | done | fail) | refine blY ?_ | refine gTY ?_ | refine cFY ?_ | (refine zGY ?_ ?_ <;> (intro _hg; try (exfalso; omega))) | fail)) <;> (try clear zz)
  refine fM rfl ev0 (hrow.same fun b hb=>?_) ev0 ee rfl rfl (by omega) (by omega) (by omega) ?_
  ·have:=hbd b hb; rw [am (by omega)]
  rintro s2 H2 nx2 hr2 i1 i2 i3 i4
  (have zz:=@e2; repeat' (first | apply a_n | refine zO ?_ | refine vY ?_ | fail)) <;> (try clear zz)
  refine ⟨(k + 1,s2),by dsimp only; omega,⟨by dsimp only; omega,?_,?_,fun b hb=>?_,by omega⟩,(have zz:=@e2; agZ)⟩
  ·rw [i3 0 (by omega) (fun h=>by have:=hbd 0 h; omega),am (by omega)]; exact g0
  ·dsimp only
   rw [e1,ec]; exact hr2
  ·rcases i4 b hb with h | h
   ·have:=hbd b h; omega
   ·omega
 ·rw [ha,Bool.true_or] at e2
  generalize l.getD k default=w at *
  (have zz:=aI @ac (aI @ix @g0); repeat' (first | refine zW ?_ | refine zM ?_ | apply a_n | refine zO ?_ | refine vY ?_ | refine blY ?_ | refine gFY ?_ | refine cFY ?_ | (refine zGY ?_ ?_ <;> (intro _hg; try (exfalso; omega))) | fail)) <;> (try clear zz)
  refine fM rfl ev0 (hrow.same fun b hb=>?_) ev0 ee rfl rfl (by omega) (by omega) (by omega) ?_
  ·have:=hbd b hb; rw [am (by omega)]
  rintro s2 H2 nx2 hr2 i1 i2 i3 i4
  (have zz:=@e2; repeat' (first | apply a_n | refine zO ?_ | refine vY ?_ | fail)) <;> (try clear zz)
  refine ⟨(k + 1,s2),by dsimp only; omega,⟨by dsimp only; omega,?_,?_,fun b hb=>?_,by omega⟩,(have zz:=@e2; agZ)⟩
  ·rw [i3 0 (by omega) (fun h=>by have:=hbd 0 h; omega),am (by omega)]; exact g0
  ·dsimp only
   rw [e1,ec]; exact hr2
  ·rcases i4 b hb with h | h
   ·have:=hbd b h; omega
   ·omega
theorem o6 (a b:Spx) (ha:Shn a) (hb:Shn b):Pure Tryz.prog 89 [ao a,ao b] (.bool (bn a b)):=by
 refine Pure.of_c2 follows x7 (Nat.le_of_ble_eq_true rfl) ?_
 simp only [b89,cO,cG,cN,cM,cD,cF,cB,ap,aH]
 have ha':a.length ≤ 17592186044416:=ha
 (have zz:=@ac; repeat' (first | refine zW ?_ | apply a_n | refine zO ?_ | refine vZ ?_ | fail)) <;> (try clear zz)
 refine qa (fun k=>[(0,ao a),(1,ao b),(5,.int .i64 k)]) a.length (fun k=>decide (a.getD k default ∈ b)=true) ag0 ?_
 intro k hk hz
 by_cases hk2:k < a.length
 rotate_left
 ·(have zz:=@ac; repeat' (first | refine zW ?_ | apply a_n | apply a_x | refine zO ?_ | refine vZ ?_ | (refine zGZ ?_ ?_ <;> (intro _hg; try (exfalso; omega))) | refine ag rfl ?_ | refine r1Z ?_ | fail)) <;> (try clear zz)
  exact bi (eg fun i hi=>hz i (by omega)).symm
 have ix:=ix2 hk2
 have hh:=sr b (a.getD k default) hb
 cases hm:decide (a.getD k default ∈ b)
 ·rw [hm] at hh
  rw [show bn a b=false from dz hk2 hm]
  (have zz:=aI @ac @ix; repeat' (first | refine zW ?_ | apply a_n | apply a_r | refine zO ?_ | refine vZ ?_ | refine cZ ?_ (hp:=hh) (hs:=by (first | refine aa ?_ rfl | apply ae); (repeat' (first | exact ab | apply ah | apply af | exact an _ | exact aG _)); first | done | fail) | refine cTZ ?_ | (refine zGZ ?_ ?_ <;> (intro _hg; try (exfalso; omega))) | refine ag rfl ?_ | refine r1Z ?_ | fail)) <;> (try clear zz)
  exact .bool _
 ·rw [hm] at hh
  (have zz:=aI @ac @ix; repeat' (first | refine zW ?_ | apply a_n | refine zO ?_ | refine vZ ?_ | refine cZ ?_ (hp:=hh) (hs:=by (first | refine aa ?_ rfl | apply ae); (repeat' (first | exact ab | apply ah | apply af | exact an _ | exact aG _)); first | done | fail) | refine cFZ ?_ | (refine zGZ ?_ ?_ <;> (intro _hg; try (exfalso; omega))) | fail)) <;> (try clear zz)
  exact ⟨hk2,rfl,ag0,rfl,rfl⟩
def d9 (c:List Spx):Bool:=decide (c.length ≤ 30) && c.all fun s=>decide (s.length ≤ 10)
theorem tL (l:Spx) (hl:Shn l):Pure Tryz.prog 22 [ao l] (.bool (decide (l.length ≤ 10))):=by
 refine Pure.of_c2 follows x9 (Nat.le_of_ble_eq_true rfl) ?_
 simp only [b22,cO,cG,cN,cM,cD,cF,cB,ap,aH]
 (have zz:=@ac; repeat' (first | refine zW ?_ | apply a_n | refine zO ?_ | refine vZ ?_ | refine ag rfl ?_ | refine r1Z ?_ | fail)) <;> (try clear zz)
 exact bi (decide_eq_decide.2 (by omega))
theorem r7 (c:List Spx) (hc:Shn c) (hs:∀ s ∈ c,Shn s):Pure Tryz.prog 39 [aE c] (.bool (d9 c)):=by
 refine Pure.of_c2 follows x6 (Nat.le_of_ble_eq_true rfl) ?_
 simp only [b39,cO,cG,cN,cM,cD,cF,cB,ap,aH]
 have hc':c.length ≤ 17592186044416:=hc
 unfold d9
 by_cases h:c.length ≤ 30
 rotate_left
 ·have z:decide (30 < (c.length:Int))=true:=decide_eq_true (by omega)
  rw [decide_eq_false h,Bool.false_and]
  (have zz:=aI @aj @z; repeat' (first | refine zW ?_ | apply a_n | apply a_r | refine zO ?_ | refine vZ ?_ | refine cTZ ?_ | refine ag rfl ?_ | refine r1Z ?_ | fail)) <;> (try clear zz)
  exact .bool _
 have z:decide (30 < (c.length:Int))=false:=decide_eq_false (by omega)
 rw [decide_eq_true h,Bool.true_and]
 (have zz:=aI @aj @z; repeat' (first | refine zW ?_ | apply a_n | refine zO ?_ | refine vZ ?_ | refine cFZ ?_ | fail)) <;> (try clear zz)
 refine qa (fun k=>[(0,aE c),(3,.int .i64 k)]) c.length (fun k=>decide ((c.getD k default).length ≤ 10)=true) ag0 ?_
 intro k hk hz
 by_cases hk2:k < c.length
 rotate_left
 ·(have zz:=@aj; repeat' (first | refine zW ?_ | apply a_n | apply a_x | refine zO ?_ | refine vZ ?_ | (refine zGZ ?_ ?_ <;> (intro _hg; try (exfalso; omega))) | refine ag rfl ?_ | refine r1Z ?_ | fail)) <;> (try clear zz)
  exact bi (eg fun i hi=>hz i (by omega)).symm
 have ix:=e6 hk2
 have hf:=tL (c.getD k default) (hs _ (aJ hk2))
 cases hm:decide ((c.getD k default).length ≤ 10)
 ·rw [hm] at hf
  rw [dz hk2 hm]
  (have zz:=aI @aj @ix; repeat' (first | refine zW ?_ | apply a_n | apply a_r | refine zO ?_ | refine vZ ?_ | refine cZ ?_ (hp:=hf) (hs:=by (first | refine aa ?_ rfl | apply ae); (repeat' (first | exact ab | apply ah | apply af | exact an _)); first | done | fail) | refine cTZ ?_ | (refine zGZ ?_ ?_ <;> (intro _hg; try (exfalso; omega))) | refine ag rfl ?_ | refine r1Z ?_ | fail)) <;> (try clear zz)
  exact .bool _
 ·rw [hm] at hf
  (have zz:=aI @aj @ix; repeat' (first | refine zW ?_ | apply a_n | refine zO ?_ | refine vZ ?_ | refine cZ ?_ (hp:=hf) (hs:=by (first | refine aa ?_ rfl | apply ae); (repeat' (first | exact ab | apply ah | apply af | exact an _)); first | done | fail) | refine cFZ ?_ | (refine zGZ ?_ ?_ <;> (intro _hg; try (exfalso; omega))) | fail)) <;> (try clear zz)
  exact ⟨hk2,rfl,ag0,rfl,rfl⟩
abbrev dX (c:List Spx):AV:=.agg [aE c]
theorem bA (c:List Spx):Dat (dX c):=Dat.agg (DatL.cons (bE c) DatL.nil)
instance datI_encCx {c:List Spx}:DatI (dX c):=⟨bA c⟩
theorem qy (c:List Spx) (hc:Shn c) (hs:∀ s ∈ c,Shn s):Pure Tryz.prog 10 [dX c] (.bool (d9 c)):=by
 refine Pure.of_c2 follows yu (Nat.le_of_ble_eq_true rfl) ?_
 simp only [b10,cO,cG,cN,cM,cD,cF,cB,ap,aH]
 have h:=r7 c hc hs
 (have zz:=aI @ay @aq; repeat' (first | refine zW ?_ | apply a_n | refine zO ?_ | refine vZ ?_ | refine cZ ?_ (hp:=h) (hs:=by (first | refine aa ?_ rfl | apply ae); (repeat' (first | exact ab | apply ah | apply af | exact bE _)); first | done | fail) | refine bxZ ?_ | refine ag rfl ?_ | refine r1Z ?_ | fail)) <;> (try clear zz)
 exact .bool _
end Go.Proofs.YtbgdcebmgjafjaaGreat
namespace Go.Proofs.YtbgdcebmgjafjaaGreat
open Go Go.Abs
theorem eD {α:Type} [Inhabited α] {l:List α} {p:α→Bool} {k:Nat} (hk:k < l.length) (h:∀ i,i < k→p (l.getD i default)=false) (hv:p (l.getD k default)=true):l.any p=true∧l.findIdx p=k:=by
 have e:l.getD k default=l[k]:=by simp [List.getD,hk]
 refine ⟨List.any_eq_true.2 ⟨l[k],List.getElem_mem hk,by rw [← e]; exact hv⟩,(List.findIdx_eq hk).2 ⟨by rw [← e]; exact hv,fun j hj=>by have:=h j hj; rwa [show l.getD j default=l[j] by simp [List.getD,show j < l.length by omega]] at this⟩⟩
section
attribute [local irreducible] aD ai bd bg aQ aV aA aU bj bD Go.Abs.Fn be Go.Abs.Pure aB aK Yl
theorem qD (l:Spx) (p:Vtx→Bool) (g:Nat) (caps:List AV) (hd:∀ x ∈ caps,Dat x) (hg:∀ x ∈ l,Pure Tryz.prog g (a7 x :: caps) (.bool (p x))) (hl:Shn l):Pure Tryz.prog 84 [ao l,.func g caps] (.int .i64 (if l.any p then (l.findIdx p:Nat) else -1)):=by
 refine Pure.of_c2 follows wx (Nat.le_of_ble_eq_true rfl) ?_
 simp only [b84,cO,cG,cN,cM,cD,cF,cB,ap,aH]
 have hl':l.length ≤ 17592186044416:=hl
 (have zz:=@ac; repeat' (first | refine zW ?_ | apply a_n | refine zO ?_ | refine vZ ?_ | fail)) <;> (try clear zz)
 refine aY (X:=Nat) (fun k=>[(0,ao l),(1,.func g caps),(6,ao l),(7,.int .i64 l.length),(8,.int .i64 k)]) (fun k H nx=>k ≤ l.length∧∀ i,i < k→p (l.getD i default)=false) (fun k=>l.length - k) 0 ⟨Nat.zero_le _,fun i h=>absurd h (by omega)⟩ ag0 ?_
 rintro k H nx ⟨hk,hz⟩
 by_cases hk2:k < l.length
 rotate_left
 ·rw [dC fun i hi=>hz i (by omega),if_neg (by decide)]
  (have zz:=and_self; repeat' (first | refine zW ?_ | apply a_n | apply a_x | refine zO ?_ | refine vY ?_ | (refine zGY ?_ ?_ <;> (intro _hg; try (exfalso; omega))) | refine ag rfl ?_ | refine r1Y ?_ | fail)) <;> (try clear zz)
  exact bt rfl
 have ix:=ix2 hk2
 have hc:=hg _ (aJ hk2)
 cases hp:p (l.getD k default)
 ·rw [hp] at hc
  (have zz:=@ix; repeat' (first | refine zW ?_ | apply a_n | refine zO ?_ | refine vY ?_ | (refine zGY ?_ ?_ <;> (intro _hg; try (exfalso; omega))) | fail)) <;> (try clear zz)
  refine ce ev0 ev0 hc (ae (au (aG _ _) (aC hd))) ?_
  (have zz:=and_self; repeat' (first | apply a_n | refine zO ?_ | refine vY ?_ | refine cFY ?_ | fail)) <;> (try clear zz)
  exact ⟨k + 1,by omega,⟨by omega,fun i hi=>by
   rcases Nat.lt_succ_iff_lt_or_eq.1 hi with h | rfl
   ·exact hz i h
   ·exact hp⟩,ag0⟩
 ·rw [hp] at hc
  obtain ⟨e1,e2⟩:=eD hk2 hz hp
  rw [e1,e2,if_pos rfl]
  (have zz:=@ix; repeat' (first | refine zW ?_ | apply a_n | refine zO ?_ | refine vY ?_ | (refine zGY ?_ ?_ <;> (intro _hg; try (exfalso; omega))) | fail)) <;> (try clear zz)
  refine ce ev0 ev0 hc (ae (au (aG _ _) (aC hd))) ?_
  (have zz:=and_self; repeat' (first | refine zW ?_ | apply a_n | apply a_r | refine zO ?_ | refine vY ?_ | refine cTY ?_ | refine ag rfl ?_ | refine r1Y ?_ | fail)) <;> (try clear zz)
  exact .int _ _
theorem mV (l:Spx) (p:Vtx→Bool) (g:Nat) (caps:List AV) (hd:∀ x ∈ caps,Dat x) (hg:∀ x ∈ l,Pure Tryz.prog g (a7 x :: caps) (.bool (p x))) (hl:Shn l):Pure Tryz.prog 44 [ao l,.func g caps] (.bool (l.any p)):=by
 refine Pure.of_c2 follows xK (Nat.le_of_ble_eq_true rfl) ?_
 simp only [b44,cO,cG,cN,cM,cD,cF,cB,ap,aH]
 have h:=qD l p g caps hd hg hl
 (have zz:=and_self; repeat' (first | refine zW ?_ | apply a_n | refine zO ?_ | refine vZ ?_ | refine cZ ?_ (hp:=h) (hs:=by (first | refine aa ?_ rfl | apply ae); (repeat' (first | exact ab | apply ah | apply af | exact an _ | exact Dat.func hd)); first | done | fail) | refine ag rfl ?_ | refine r1Z ?_ | fail)) <;> (try clear zz)
 cases hA:l.any p
 ·exact bi (by simp)
 ·exact bi (by simp)
theorem rq (l:List Spx) (p:Spx→Bool) (g:Nat) (caps:List AV) (hd:∀ x ∈ caps,Dat x) (hg:∀ x ∈ l,Pure Tryz.prog g (ao x :: caps) (.bool (p x))) (hl:Shn l):Pure Tryz.prog 86 [aE l,.func g caps] (.int .i64 (if l.any p then (l.findIdx p:Nat) else -1)):=by
 refine Pure.of_c2 follows xt (Nat.le_of_ble_eq_true rfl) ?_
 simp only [b86,cO,cG,cN,cM,cD,cF,cB,ap,aH]
 have hl':l.length ≤ 17592186044416:=hl
 (have zz:=@aj; repeat' (first | refine zW ?_ | apply a_n | refine zO ?_ | refine vZ ?_ | fail)) <;> (try clear zz)
 refine aY (X:=Nat) (fun k=>[(0,aE l),(1,.func g caps),(6,aE l),(7,.int .i64 l.length),(8,.int .i64 k)]) (fun k H nx=>k ≤ l.length∧∀ i,i < k→p (l.getD i default)=false) (fun k=>l.length - k) 0 ⟨Nat.zero_le _,fun i h=>absurd h (by omega)⟩ ag0 ?_
 rintro k H nx ⟨hk,hz⟩
 by_cases hk2:k < l.length
 rotate_left
 ·rw [dC fun i hi=>hz i (by omega),if_neg (by decide)]
  (have zz:=and_self; repeat' (first | refine zW ?_ | apply a_n | apply a_x | refine zO ?_ | refine vY ?_ | (refine zGY ?_ ?_ <;> (intro _hg; try (exfalso; omega))) | refine ag rfl ?_ | refine r1Y ?_ | fail)) <;> (try clear zz)
  exact bt rfl
 have ix:=e6 hk2
 have hc:=hg _ (aJ hk2)
 cases hp:p (l.getD k default)
 ·rw [hp] at hc
  (have zz:=@ix; repeat' (first | refine zW ?_ | apply a_n | refine zO ?_ | refine vY ?_ | (refine zGY ?_ ?_ <;> (intro _hg; try (exfalso; omega))) | fail)) <;> (try clear zz)
  refine ce ev0 ev0 hc (ae (au (an _ _) (aC hd))) ?_
  (have zz:=and_self; repeat' (first | apply a_n | refine zO ?_ | refine vY ?_ | refine cFY ?_ | fail)) <;> (try clear zz)
  exact ⟨k + 1,by omega,⟨by omega,fun i hi=>by
   rcases Nat.lt_succ_iff_lt_or_eq.1 hi with h | rfl
   ·exact hz i h
   ·exact hp⟩,ag0⟩
 ·rw [hp] at hc
  obtain ⟨e1,e2⟩:=eD hk2 hz hp
  rw [e1,e2,if_pos rfl]
  (have zz:=@ix; repeat' (first | refine zW ?_ | apply a_n | refine zO ?_ | refine vY ?_ | (refine zGY ?_ ?_ <;> (intro _hg; try (exfalso; omega))) | fail)) <;> (try clear zz)
  refine ce ev0 ev0 hc (ae (au (an _ _) (aC hd))) ?_
  (have zz:=and_self; repeat' (first | refine zW ?_ | apply a_n | apply a_r | refine zO ?_ | refine vY ?_ | refine cTY ?_ | refine ag rfl ?_ | refine r1Y ?_ | fail)) <;> (try clear zz)
  exact .int _ _
theorem iw (l:List Spx) (p:Spx→Bool) (g:Nat) (caps:List AV) (hd:∀ x ∈ caps,Dat x) (hg:∀ x ∈ l,Pure Tryz.prog g (ao x :: caps) (.bool (p x))) (hl:Shn l):Pure Tryz.prog 47 [aE l,.func g caps] (.bool (l.any p)):=by
 refine Pure.of_c2 follows wh (Nat.le_of_ble_eq_true rfl) ?_
 simp only [b47,cO,cG,cN,cM,cD,cF,cB,ap,aH]
 have h:=rq l p g caps hd hg hl
 (have zz:=and_self; repeat' (first | refine zW ?_ | apply a_n | refine zO ?_ | refine vZ ?_ | refine cZ ?_ (hp:=h) (hs:=by (first | refine aa ?_ rfl | apply ae); (repeat' (first | exact ab | apply ah | apply af | exact bE _ | exact Dat.func hd)); first | done | fail) | refine ag rfl ?_ | refine r1Z ?_ | fail)) <;> (try clear zz)
 cases hA:l.any p
 ·exact bi (by simp)
 ·exact bi (by simp)
theorem sb (l:Spx) (v:Vtx) (hl:Shn l):∃ r:Int,Pure Tryz.prog 85 [ao l,a7 v] (.int .i64 r)∧decide (0 ≤ r)=decide (v ∈ l):=by
 have hl':l.length ≤ 17592186044416:=hl
 have hn:l.findIdx (fun x=>decide (x=v))=l.findIdx (fun x=>decide (x=v)):=rfl
 refine ⟨if l.any (fun x=>decide (x=v)) then (l.findIdx (fun x=>decide (x=v)):Nat) else -1,?_,?_⟩
 rotate_left
 ·by_cases hm:v ∈ l
  ·rw [if_pos (List.any_eq_true.2 ⟨v,hm,by simp⟩),decide_eq_true hm]; simp
  ·rw [if_neg,decide_eq_false hm]
   ·rfl
   ·rw [List.any_eq_true]; rintro ⟨x,hx,e⟩
    exact hm ((of_decide_eq_true e) ▸ hx)
 refine Pure.of_c2 follows wB (Nat.le_of_ble_eq_true rfl) ?_
 simp only [b85,cO,cG,cN,cM,cD,cF,cB,ap,aH]
 (have zz:=@ac; repeat' (first | refine zW ?_ | apply a_n | refine zO ?_ | refine vZ ?_ | refine bxZ ?_ | fail)) <;> (try clear zz)
 refine aY (X:=Nat) (fun k=>[(0,ao l),(3,.ptr 0 2 0),(6,ao l),(7,.int .i64 l.length),(8,.int .i64 k)]) (fun k H nx=>k ≤ l.length∧H 0=some [.int .i64 v.color,.int .i64 v.label]∧∀ i,i < k→decide (l.getD i default=v)=false) (fun k=>l.length - k) 0 ⟨Nat.zero_le _,rfl,fun i h=>absurd h (by omega)⟩ (by (iterate 5 refine And.intro rfl ?_); trivial) ?_
 rintro k H nx ⟨hk,g0,hz⟩
 by_cases hk2:k < l.length
 rotate_left
 ·rw [dC fun i hi=>hz i (by omega),if_neg (by decide)]
  (have zz:=and_self; repeat' (first | refine zW ?_ | apply a_n | apply a_x | refine zO ?_ | refine vY ?_ | (refine zGY ?_ ?_ <;> (intro _hg; try (exfalso; omega))) | refine ag rfl ?_ | refine r1Y ?_ | fail)) <;> (try clear zz)
  exact bt rfl
 have ix:=ix2 hk2
 have hd:=ff v (l.getD k default)
 cases hp:decide (l.getD k default=v)
 ·rw [decide_eq_false (p:=v=l.getD k default) (fun h=>of_decide_eq_false hp h.symm)] at hd
  (have zz:=aI @ix (aI @g0 (aI @acq @hd)); repeat' (first | refine zW ?_ | apply a_n | refine zO ?_ | refine vY ?_ | refine cFY ?_ | (refine zGY ?_ ?_ <;> (intro _hg; try (exfalso; omega))) | fail)) <;> (try clear zz)
  exact ⟨k + 1,by omega,⟨by omega,g0,fun i hi=>by
   rcases Nat.lt_succ_iff_lt_or_eq.1 hi with h | rfl
   ·exact hz i h
   ·exact hp⟩,ag0⟩
 ·rw [decide_eq_true (p:=v=l.getD k default) (of_decide_eq_true hp).symm] at hd
  obtain ⟨e1,e2⟩:=eD (p:=fun x=>decide (x=v)) hk2 hz hp
  rw [e1,e2,if_pos rfl]
  (have zz:=aI @ix (aI @g0 (aI @acq @hd)); repeat' (first | refine zW ?_ | apply a_n | apply a_r | refine zO ?_ | refine vY ?_ | refine cTY ?_ | (refine zGY ?_ ?_ <;> (intro _hg; try (exfalso; omega))) | refine ag rfl ?_ | refine r1Y ?_ | fail)) <;> (try clear zz)
  exact .int _ _
theorem oK (l:Spx) (v:Vtx) (hl:Shn l):Pure Tryz.prog 46 [ao l,a7 v] (.bool (decide (v ∈ l))):=by
 refine Pure.of_c2 follows wi (Nat.le_of_ble_eq_true rfl) ?_
 simp only [b46,cO,cG,cN,cM,cD,cF,cB,ap,aH]
 obtain ⟨r,h,e⟩:=sb l v hl
 (have zz:=and_self; repeat' (first | refine zW ?_ | apply a_n | refine zO ?_ | refine vZ ?_ | refine cZ ?_ (hp:=h) (hs:=by (first | refine aa ?_ rfl | apply ae); (repeat' (first | exact ab | apply ah | apply af | exact an _ | exact aG _)); first | done | fail) | refine bxZ ?_ | refine ag rfl ?_ | refine r1Z ?_ | fail)) <;> (try clear zz)
 exact bi e
end
end Go.Proofs.YtbgdcebmgjafjaaGreat
namespace Go.Proofs.YtbgdcebmgjafjaaGreat
open Go Go.Abs
open Nat (reduceEqDiff reduceAdd reduceLeDiff)
theorem rh {l:Spx} {j:Nat} (h:j < l.length):(l.drop j).getD 0 default=l.getD j default:=by simp [List.getD,List.getElem?_drop]
theorem pQ {l:Spx} {v:Vtx} (h:∀ i,i < l.length→l.getD i default ≠ v):v ∉ l:=fun hm=>by
 obtain ⟨i,hi,e⟩:=List.getElem_of_mem hm
 exact h i hi (by simp [List.getD,hi,e])
theorem a9 {α:Type} [Inhabited α] {l:List α} {i:Nat} (h:i < l.length):l.getD i default ∈ l:=aJ h
attribute [local irreducible] aD ai bd bg aQ aV aA aU bj bD Go.Abs.Fn be Go.Abs.Pure aB aK Yl
set_option maxHeartbeats 1000000 in
theorem vn (a b:Spx) (ha:cw aN a) (hb:cw aN b) (la:a.length ≤ 1000000) (lb:b.length ≤ 1000000):Pure Tryz.prog 105 [ao a,ao b] (.bool (bn a b)):=by
 refine Pure.of_c2 follows xC (Nat.le_of_ble_eq_true rfl) ?_
 simp only [wZ,cO,cG,cN,cM,cD,cF,cB,ap,aH]
 (have zz:=@ac; repeat' (first | refine zW ?_ | apply a_n | refine zO ?_ | refine vZ ?_ | fail)) <;> (try clear zz)
 refine aY (X:=Nat × Nat) (fun x=>[(1,ao (b.drop x.2)),(7,ao a),(8,.int .i64 a.length),(9,.int .i64 x.1)]) (fun x H nx=>x.1 ≤ a.length∧x.2 ≤ b.length∧(∀ i,i < x.1→decide (a.getD i default ∈ b)=true)∧∀ i m,i < x.2→x.1 ≤ m→m < a.length→b.getD i default ≠ a.getD m default) (fun x=>a.length - x.1) (0,0) ⟨Nat.zero_le _,Nat.zero_le _,fun i h=>absurd h (by omega),fun i m h=>absurd h (by omega)⟩ (by simp (disch:=omega) only [agr,ZG,reduceEqDiff,↓reduceIte,List.drop_zero]) ?_
 rintro ⟨k,j⟩ H nx ⟨h1,h2,h3,h4⟩
 dsimp only at h1 h2 h3 h4 ⊢
 by_cases hk:k < a.length
 rotate_left
 ·(have zz:=and_self; repeat' (first | refine zW ?_ | apply a_n | apply a_x | refine zO ?_ | refine vY ?_ | (refine zGY ?_ ?_ <;> (intro _hg; try (exfalso; omega))) | refine ag rfl ?_ | refine r1Y ?_ | fail)) <;> (try clear zz)
  exact bi (eg fun i hi=>h3 i (by omega)).symm
 have ix:=ix2 hk
 have hlt:∀ m,k < m→m < a.length→aN (a.getD k default) (a.getD m default) < 0:=fun m h5 h6=>dI ha h5 h6
 have hkm:∀ j',(∀ i,i < j'→b.getD i default ≠ a.getD k default)→b.length ≤ j'→decide (a.getD k default ∈ b)=false:=fun j' h5 h6=>decide_eq_false (pQ fun i hi=>h5 i (by omega))
 have hall:decide (a.getD k default ∈ b)=false→bn a b=false:=fun h=>dz hk h
 have hdec:=fun i=>ff (b.getD i default) (a.getD k default)
 have h40:=fun i hi=>h4 i k hi (Nat.le_refl _) hk
 generalize hv:a.getD k default=v at *
 (have zz:=@ix; repeat' (first | refine zW ?_ | apply a_n | refine zO ?_ | refine vY ?_ | refine alY ?_ | refine stY ?_ | (refine zGY ?_ ?_ <;> (intro _hg; try (exfalso; omega))) | fail)) <;> (try clear zz)
 refine aY (X:=Nat) (fun j'=>[(1,ao (b.drop j')),(6,.ptr nx 2 0),(7,ao a),(8,.int .i64 a.length),(9,.int .i64 k)]) (fun j' H' nx'=>j' ≤ b.length∧H' nx=some [.int .i64 v.color,.int .i64 v.label]∧nx < nx'∧∀ i,i < j'→b.getD i default ≠ v) (fun j'=>b.length - j') j ⟨h2,by rw [ar]; rfl,by omega,h40⟩ (by simp (disch:=omega) only [agr,ZG,reduceEqDiff,↓reduceIte,List.length_cons,List.length_nil,Nat.zero_add,reduceAdd]) ?_
 rintro j' H' nx' ⟨k1,g0,hnx,k2⟩
 have hlen:(b.drop j').length=b.length - j':=List.length_drop ..
 by_cases hj:j' < b.length
 rotate_left
 ·have z1:decide (0 < ((b.drop j').length:Int))=false:=decide_eq_false (by omega)
  have z2:decide (((b.drop j').length:Int)=0)=true:=decide_eq_true (by omega)
  rw [hall (hkm j' k2 (by omega))]
  (have zz:=aI @ac (aI @z1 @z2); repeat' (first | refine zW ?_ | apply a_n | apply a_x | apply a_r | refine zO ?_ | refine vY ?_ | refine gFY ?_ | refine cTY ?_ | refine cFY ?_ | refine ag rfl ?_ | refine r1Y ?_ | fail)) <;> (try clear zz)
  exact .bool _
 have z1:decide (0 < ((b.drop j').length:Int))=true:=decide_eq_true (by omega)
 have z2:decide (((b.drop j').length:Int)=0)=false:=decide_eq_false (by omega)
 have iy:=ix2 (l:=b.drop j') (k:=0) (by omega)
 rw [rh hj,show ((0:Nat):Int)=0 from rfl] at iy
 have hd:=hdec j'
 by_cases he:b.getD j' default=v
 ·rw [decide_eq_true he] at hd
  (have zz:=aI @ac (aI @z1 (aI @z2 (aI @iy (aI @g0 (aI @acn @hd))))); repeat' (first | refine zW ?_ | apply a_n | apply a_x | refine zO ?_ | refine vY ?_ | refine gTY ?_ | refine cFY ?_ | fail)) <;> (try clear zz)
  refine ⟨(k + 1,j'),by dsimp only; omega,⟨by dsimp only; omega,by dsimp only; omega,fun i hi=>?_,fun i m h5 h6 h7 e=>?_⟩,ag0⟩
  ·rcases Nat.lt_succ_iff_lt_or_eq.1 hi with h' | rfl
   ·exact h3 i h'
   ·rw [hv,← he]; exact decide_eq_true (a9 hj)
  ·have q1:=dI hb h5 hj
   have q2:=hlt m (by dsimp only at h6; omega) h7
   rw [e,he] at q1
   exact kC.ord.asym _ _ q1 q2
 ·rw [decide_eq_false he] at hd
  have hs:lY 2 (ao (b.drop j')) (some (.int .i64 1)) none none=some (ao (b.drop (j' + 1))):=by
   have:=mB (sz:=2) (f:=a7) (l:=b.drop j') (k:=1) (by omega)
   rw [List.drop_drop] at this
   exact this
  (have zz:=aI @ac (aI @z1 (aI @z2 (aI @iy (aI @g0 (aI @acn (aI @hd @hs)))))); repeat' (first | refine zW ?_ | apply a_n | refine zO ?_ | refine vY ?_ | refine gTY ?_ | refine cTY ?_ | fail)) <;> (try clear zz)
  exact ⟨j' + 1,by omega,⟨by omega,g0,hnx,fun i hi=>by
   rcases Nat.lt_succ_iff_lt_or_eq.1 hi with h' | rfl
   ·exact k2 i h'
   ·exact he⟩,ag0⟩
end Go.Proofs.YtbgdcebmgjafjaaGreat
namespace Go.Proofs.YtbgdcebmgjafjaaGreat
open Go Go.Abs
structure Cmp {α:Type} (P:Program) (f:α→AV) (K:α→α→Int) (G:α→Prop) (g:Nat) (caps:List AV):Prop where
 cells:∀ x,(f x).cells=[f x]
 one:∀ x,(f x).one=true
 dat:∀ x,Dat (f x)
 dcaps:∀ x ∈ caps,Dat x
 run:∀ x y,G x→G y→Go.Abs.Pure P g (f x :: f y :: caps) (.int .i64 (K x y))
 ord:Ord K
theorem az (H:Hp) (b:Nat) (x y:List AV):al (al H b x) b y=al H b y:=by
 funext i; unfold al; split <;> rfl
theorem gl {H:Hp} {b:Nat} {cs:List AV} (h:H b=some cs):H=al H b cs:=by
 funext i
 by_cases e:i=b
 ·subst e; rw [ar,h]
 ·rw [am e]
def dE {α:Type} [Inhabited α] (K:α→α→Int) (a i j:Nat) (M:List α):Prop:=∀ p q,a ≤ p→p < q→q ≤ i→q ≠ j→¬ K (M.getD q default) (M.getD p default) < 0
section
variable {α:Type} [Inhabited α] {f:α→AV} {K:α→α→Int} {G:α→Prop} {g:Nat} {caps:List AV}
theorem dE.start {a i:Nat} {M:List α} (h:aM K a i M):dE K a i i M:=fun p q h1 h2 h3 h4=>h p q h1 h2 (by omega)
theorem dE.done {a i j:Nat} {M:List α} (hK:Ord K) (h:dE K a i j M) (hj:j=a ∨ (a < j∧¬ K (M.getD j default) (M.getD (j - 1) default) < 0)):aM K a (i + 1) M:=by
 intro p q h1 h2 h3
 by_cases e:q=j
 ·subst e
  rcases hj with hj | ⟨hj,hk⟩
  ·omega
  ·by_cases e2:p=q - 1
   ·rw [e2]; exact hk
   ·exact hK.negtr _ _ _ (h p (q - 1) h1 (by omega) (by omega) (by omega)) hk
 ·exact h p q h1 h2 (by omega) e
theorem dE.step {a i j:Nat} {M:List α} (hK:Ord K) (h:dE K a i (j + 1) M) (haj:a ≤ j) (hji:j + 1 ≤ i) (hi:i < M.length) (hk:K (M.getD (j + 1) default) (M.getD j default) < 0):dE K a i j (swp M (j + 1) j):=by
 intro p q h1 h2 h3 h4
 rw [cq (by omega) (by omega),cq (by omega) (by omega)]
 rw [if_neg h4]
 by_cases e1:q=j + 1
 ·rw [if_pos e1]
  by_cases e2:p=j
  ·rw [if_pos e2]; exact hK.asym _ _ hk
  ·rw [if_neg e2,if_neg (by omega)]
   exact h p j h1 (by omega) (by omega) (by omega)
 ·rw [if_neg e1]
  by_cases e2:p=j
  ·rw [if_pos e2]; exact h (j + 1) q (by omega) (by omega) h3 e1
  ·rw [if_neg e2]
   by_cases e3:p=j + 1
   ·rw [if_pos e3]; exact h j q (by omega) (by omega) h3 e1
   ·rw [if_neg e3]; exact h p q h1 h2 h3 e1
theorem aM.mono {a b a' b':Nat} {M:List α} (h:aM K a b M) (h1:a ≤ a') (h2:b' ≤ b):aM K a' b' M:=fun p q k1 k2 k3=>h p q (by omega) k2 (by omega)
theorem PermR.mem {a b:Nat} {L M:List α} (h:PermR a b L M) (hG:∀ x ∈ L,G x):∀ x ∈ M,G x:=fun x hx=>hG x (h.perm.mem_iff.1 hx)
attribute [local irreducible] aD ai bd bg aQ aV aA aU bj bD Go.Abs.Fn be Go.Abs.Pure aB aK Yl
end
end Go.Proofs.YtbgdcebmgjafjaaGreat
namespace Go.Proofs.YtbgdcebmgjafjaaGreat
open Go Go.Abs
def Kid (p c:Nat):Prop:=c=2 * p + 1 ∨ c=2 * p + 2
def d3 {α:Type} [Inhabited α] (K:α→α→Int) (a hi r:Nat) (M:List α):Prop:=∀ p c,r ≤ p→Kid p c→c < hi→¬ K (M.getD (a + p) default) (M.getD (a + c) default) < 0
structure SiftR {α:Type} [Inhabited α] (K:α→α→Int) (a hi lo root:Nat) (M:List α):Prop where
 le:lo ≤ root
 heap:∀ p c,lo ≤ p→p ≠ root→Kid p c→c < hi→¬ K (M.getD (a + p) default) (M.getD (a + c) default) < 0
 up:∀ q c,lo ≤ q→Kid q root→Kid root c→c < hi→¬ K (M.getD (a + q) default) (M.getD (a + c) default) < 0
section
variable {α:Type} [Inhabited α] {f:α→AV} {K:α→α→Int} {G:α→Prop} {g:Nat} {caps:List AV}
theorem SiftR.start {a hi lo:Nat} {M:List α} (h:d3 K a hi (lo + 1) M):SiftR K a hi lo lo M :=
 ⟨Nat.le_refl _,fun p c h1 h2=>h p c (by omega),fun q c h1 h2=>by unfold Kid at h2; omega⟩
theorem SiftR.leaf {a hi lo root:Nat} {M:List α} (h:SiftR K a hi lo root M) (hr:hi ≤ 2 * root + 1):d3 K a hi lo M:=fun p c h1 h2 h3=>by
 by_cases e:p=root
 ·subst e; unfold Kid at h2; omega
 ·exact h.heap p c h1 e h2 h3
theorem SiftR.stop {a hi lo root c:Nat} {M:List α} (hK:Ord K) (h:SiftR K a hi lo root M) (hb:∀ d,Kid root d→d < hi→¬ K (M.getD (a + c) default) (M.getD (a + d) default) < 0) (hn:¬ K (M.getD (a + root) default) (M.getD (a + c) default) < 0):d3 K a hi lo M:=fun p d h1 h2 h3=>by
 by_cases e:p=root
 ·subst e; exact hK.negtr _ _ _ (hb d h2 h3) hn
 ·exact h.heap p d h1 e h2 h3
theorem SiftR.step {a hi lo root c:Nat} {M:List α} (hK:Ord K) (h:SiftR K a hi lo root M) (hkid:Kid root c) (hc:c < hi) (hM:a + hi ≤ M.length) (hb:∀ d,Kid root d→d < hi→¬ K (M.getD (a + c) default) (M.getD (a + d) default) < 0) (hn:K (M.getD (a + root) default) (M.getD (a + c) default) < 0):SiftR K a hi lo c (swp M (a + root) (a + c)):=by
 have hrc:root < c:=by unfold Kid at hkid; omega
 have hg:∀ k,(swp M (a + root) (a + c)).getD (a + k) default=if k=c then M.getD (a + root) default else if k=root then M.getD (a + c) default else M.getD (a + k) default:=fun k=>by
  rw [cq (by omega) (by omega)]
  by_cases e:k=c
  ·rw [if_pos (by omega),if_pos e]
  ·rw [if_neg (by omega),if_neg e]
   by_cases e2:k=root
   ·rw [if_pos (by omega),if_pos e2]
   ·rw [if_neg (by omega),if_neg e2]
 refine ⟨by have:=h.le; omega,fun p d h1 h2 h3 h4=>?_,fun q d h1 h2 h3 h4=>?_⟩
 ·rw [hg,hg,if_neg h2]
  by_cases e1:p=root
  ·rw [if_pos e1]
   subst e1
   by_cases e2:d=c
   ·rw [if_pos e2]; exact hK.asym _ _ hn
   ·rw [if_neg e2,if_neg (by unfold Kid at h3; omega)]; exact hb d h3 h4
  ·rw [if_neg e1]
   have hdc:d ≠ c:=fun e=>by subst e; unfold Kid at h3 hkid; omega
   rw [if_neg hdc]
   by_cases e2:d=root
   ·rw [if_pos e2]; subst e2; exact h.up p c h1 h3 hkid hc
   ·rw [if_neg e2]; exact h.heap p d h1 e1 h3 h4
 ·have eq:q=root:=by unfold Kid at h2 hkid; omega
  subst eq
  rw [hg,hg,if_neg (by omega),if_pos rfl,if_neg (by unfold Kid at h3; omega),if_neg (by unfold Kid at h3; omega)]
  exact h.heap c d (by omega) (by omega) h3 h4
theorem dB {a c:Nat}:((a:Int) + (c:Int)).toNat=a + c:=by omega
theorem jq {a c:Nat}:((a:Int) + (c:Int) + 1).toNat=a + (c + 1):=by omega
attribute [local irreducible] aD ai bd bg aQ aV aA aU bj bD Go.Abs.Fn be Go.Abs.Pure aB aK Yl
end
end Go.Proofs.YtbgdcebmgjafjaaGreat
namespace Go.Proofs.YtbgdcebmgjafjaaGreat
open Go Go.Abs
open Nat (reduceEqDiff reduceAdd reduceLeDiff)
section
variable {α:Type} [Inhabited α] {f:α→AV} {K:α→α→Int} {G:α→Prop} {g:Nat} {caps:List AV}
theorem d3.top {a hi:Nat} {M:List α} (hK:Ord K) (h:d3 K a hi 0 M):∀ p,p < hi→¬ K (M.getD a default) (M.getD (a + p) default) < 0:=by
 intro p
 induction p using Nat.strongRecOn with
 | ind p ih =>
  intro hp
  by_cases e:p=0
  ·subst e; exact hK.irr _
  ·have k:Kid ((p - 1) / 2) p:=by unfold Kid; omega
   exact hK.negtr _ _ _ (h _ p (Nat.zero_le _) k hp) (ih ((p - 1) / 2) (by omega) (by omega))
structure TailR {α:Type} [Inhabited α] (K:α→α→Int) (a e k:Nat) (M:List α):Prop where
 sort:aM K k e M
 ge:∀ p q,a ≤ p→p < k→k ≤ q→q < e→¬ K (M.getD q default) (M.getD p default) < 0
theorem TailR.step {a e k:Nat} {M N:List α} (hK:Ord K) (ht:TailR K a e (a + (k + 1)) M) (hh:d3 K a (k + 1) 0 M) (he:a + (k + 1) ≤ e) (hM:e ≤ M.length) (hp:PermR a (a + k) (swp M a (a + k)) N):TailR K a e (a + k) N:=by
 have hg:∀ j,(swp M a (a + k)).getD j default=if j=a + k then M.getD a default else if j=a then M.getD (a + k) default else M.getD j default:=fun j=>cq (by omega) (by omega) j
 have hmax:=hh.top hK
 have lo:∀ q,a + k ≤ q→q < e→∀ p,a ≤ p→p < a + k→¬ K (N.getD q default) (N.getD p default) < 0:=by
  intro q h1 h2
  rw [hp.out q (.inr h1),hg]
  have hl:(swp M a (a + k)).length=M.length:=qn _ _
  refine hp.all (p:=fun x=>¬ K (if q=a + k then M.getD a default else if q=a then M.getD (a + k) default else M.getD q default) x < 0) (by omega) (by omega) ?_
  intro p k1 k2
  rw [hg,if_neg (by omega:¬ p=a + k)]
  by_cases e1:q=a + k
  ·rw [if_pos e1]
   by_cases e2:p=a
   ·rw [if_pos e2]; exact hmax k (by omega)
   ·rw [if_neg e2]
    have:=hmax (p - a) (by omega)
    rw [show a + (p - a)=p by omega] at this
    exact this
  ·rw [if_neg e1,if_neg (by omega:¬ q=a)]
   by_cases e2:p=a
   ·rw [if_pos e2]; exact ht.ge (a + k) q (by omega) (by omega) (by omega) h2
   ·rw [if_neg e2]; exact ht.ge p q k1 (by omega) (by omega) h2
 refine ⟨fun p q h1 h2 h3=>?_,fun p q h1 h2 h3 h4=>lo q h3 h4 p h1 h2⟩
 rw [hp.out p (.inr h1),hp.out q (.inr (by omega)),hg,hg,if_neg (by omega:¬ q=a + k),if_neg (by omega:¬ q=a)]
 by_cases e1:p=a + k
 ·rw [if_pos e1]; exact ht.ge a q (Nat.le_refl _) (by omega) (by omega) h3
 ·rw [if_neg e1,if_neg (by omega:¬ p=a)]; exact ht.sort p q (by omega) h2 h3
theorem d3.swapTop {a k:Nat} {M:List α} (h:d3 K a (k + 1) 0 M) (hM:a + (k + 1) ≤ M.length):d3 K a k 1 (swp M a (a + k)):=by
 intro p c h1 h2 h3
 have hg:∀ j,(swp M a (a + k)).getD j default=if j=a + k then M.getD a default else if j=a then M.getD (a + k) default else M.getD j default:=fun j=>cq (by omega) (by omega) j
 have:p < c:=by unfold Kid at h2; omega
 rw [hg,hg,if_neg (by omega),if_neg (by omega),if_neg (by omega),if_neg (by omega)]
 exact h p c (Nat.zero_le _) h2 (by omega)
theorem TailR.start {a e:Nat} {M:List α}:TailR K a e e M:=⟨fun p q h1 h2 h3=>by omega,fun p q h1 h2 h3 h4=>by omega⟩
theorem TailR.done {a e:Nat} {M:List α} (h:TailR K a e a M):aM K a e M:=h.sort
theorem d3.start {a hi r:Nat} {M:List α} (hr:hi ≤ 2 * r + 1):d3 K a hi r M:=fun p c h1 h2 h3=>by unfold Kid at h2; omega
attribute [local irreducible] aD ai bd bg aQ aV aA aU bj bD Go.Abs.Fn be Go.Abs.Pure aB aK Yl
end
end Go.Proofs.YtbgdcebmgjafjaaGreat
namespace Go.Proofs.YtbgdcebmgjafjaaGreat
open Go Go.Abs
section
variable {α:Type} [Inhabited α] {f:α→AV} {K:α→α→Int} {G:α→Prop} {g:Nat} {caps:List AV}
def ww:AV→Option AV
 | .ptr b n o=>some (.ptr b n o)
 | .iptr c o=>some (.iptr c o)
 | .func f c=>some (.func f c)
 | _=>none
theorem SV3:(∀ (T:Tm) (H:Hp) (x:Opd),aL T H (.nilck x)=ww (ov T x))∧(∀ b n o:Nat,ww (.ptr b n o)=some (.ptr b n o)):=⟨fun T H x=>by
 simp only [aL]
 cases ov T x <;> rfl,fun _ _ _=>rfl⟩
attribute [local irreducible] aD ai bd bg aQ aV aA aU bj bD Go.Abs.Fn be Go.Abs.Pure aB aK Yl
end
end Go.Proofs.YtbgdcebmgjafjaaGreat
namespace Go.Proofs.YtbgdcebmgjafjaaGreat
open Go Go.Abs
section
variable {α:Type} [Inhabited α] {f:α→AV} {K:α→α→Int} {G:α→Prop} {g:Nat} {caps:List AV}
attribute [local irreducible] aD ai bd bg aQ aV aA aU bj bD Go.Abs.Fn be Go.Abs.Pure aB aK Yl
end
end Go.Proofs.YtbgdcebmgjafjaaGreat
namespace Go.Proofs.YtbgdcebmgjafjaaGreat
open Go Go.Abs
def lU {α:Type} [Inhabited α] (K:α→α→Int) (a e:Nat) (M:List α):Prop:=∀ q,0 < a→a ≤ q→q < e→¬ K (M.getD q default) (M.getD (a - 1) default) < 0
section
variable {α:Type} [Inhabited α] {f:α→AV} {K:α→α→Int} {G:α→Prop} {g:Nat} {caps:List AV}
theorem lU.perm {a e:Nat} {L M:List α} (h:lU K a e L) (hp:PermR a e L M) (hae:a ≤ e) (he:e ≤ L.length):lU K a e M:=fun q h0 h1 h2=>by
 rw [hp.out (a - 1) (.inl (by omega))]
 exact hp.all (p:=fun x=>¬ K x (L.getD (a - 1) default) < 0) hae he (fun i k1 k2=>h i h0 k1 k2) q h1 h2
theorem aM.out {a i e:Nat} {L M:List α} (h:aM K a i L) (hp:PermR i e L M):aM K a i M:=fun p q h1 h2 h3=>by
 rw [hp.out p (.inl (by omega)),hp.out q (.inl h3)]; exact h p q h1 h2 h3
theorem aM.snoc {a i:Nat} {M:List α} (hK:Ord K) (h:aM K a i M) (ha:a < i) (hn:¬ K (M.getD i default) (M.getD (i - 1) default) < 0):aM K a (i + 1) M:=fun p q h1 h2 h3=>by
 by_cases e:q=i
 ·subst e
  by_cases e2:p=q - 1
  ·rw [e2]; exact hn
  ·exact hK.negtr _ _ _ (h p (q - 1) h1 (by omega) (by omega)) hn
 ·exact h p q h1 h2 (by omega)
attribute [local irreducible] aD ai bd bg aQ aV aA aU bj bD Go.Abs.Fn be Go.Abs.Pure aB aK Yl
end
end Go.Proofs.YtbgdcebmgjafjaaGreat
namespace Go.Proofs.YtbgdcebmgjafjaaGreat
open Go Go.Abs
structure PartR {α:Type} [Inhabited α] (P:α→Prop) (a e mu i j:Nat) (M:List α):Prop where
 lo:a + 1 ≤ i
 mid:i ≤ j + 1
 hi:j < e
 mu:j + 1 - i ≤ mu
 up:∀ p,a + 1 ≤ p→p < i→P (M.getD p default)
 dn:∀ q,j < q→q < e→¬ P (M.getD q default)
section
variable {α:Type} [Inhabited α] {f:α→AV} {K:α→α→Int} {G:α→Prop} {g:Nat} {caps:List AV}
theorem PartR.start {P:α→Prop} {a m:Nat} {M:List α} (h:a ≤ m):PartR P a (m + 1) (m + 1 - (a + 1)) (a + 1) m M:=⟨Nat.le_refl _,by omega,by omega,Nat.le_refl _,fun p h1 h2=>by omega,fun q h1 h2=>by omega⟩
theorem PartR.stepUp {P:α→Prop} {a e mu i j:Nat} {M:List α} (h:PartR P a e mu i j M) (hij:i ≤ j) (hp:P (M.getD i default)):PartR P a e mu (i + 1) j M :=
 ⟨by have:=h.lo; omega,by omega,h.hi,by have:=h.mu; omega,fun p h1 h2=>by
  by_cases e:p=i
  ·rw [e]; exact hp
  ·exact h.up p h1 (by omega),h.dn⟩
theorem PartR.stepDn {P:α→Prop} {a e mu i k:Nat} {M:List α} (h:PartR P a e mu i (k + 1) M) (hij:i ≤ k + 1) (hp:¬ P (M.getD (k + 1) default)):PartR P a e mu i k M :=
 ⟨h.lo,hij,by have:=h.hi; omega,by have:=h.mu; omega,h.up,fun q h1 h2=>by
  by_cases e:q=k + 1
  ·rw [e]; exact hp
  ·exact h.dn q (by omega) h2⟩
theorem PartR.swap {P:α→Prop} {a e mu i k:Nat} {M:List α} (h:PartR P a e mu i (k + 1) M) (hM:e ≤ M.length) (hij:i ≤ k + 1) (hi:¬ P (M.getD i default)) (hj:P (M.getD (k + 1) default)):PartR P a e (k + 1 - (i + 1)) (i + 1) k (swp M i (k + 1))∧k + 1 - (i + 1) < mu:=by
 have hne:i ≠ k + 1:=fun e=>hi (by rw [e]; exact hj)
 have hh:=h.hi
 have hlo:=h.lo
 have hmu:=h.mu
 refine ⟨⟨by omega,by omega,by omega,Nat.le_refl _,fun p h1 h2=>?_,fun q h1 h2=>?_⟩,by omega⟩
 ·rw [cq (by omega) (by omega),if_neg (by omega)]
  by_cases e:p=i
  ·rw [if_pos e]; exact hj
  ·rw [if_neg e]; exact h.up p h1 (by omega)
 ·rw [cq (by omega) (by omega)]
  by_cases e:q=k + 1
  ·rw [if_pos e]; exact hi
  ·rw [if_neg e,if_neg (by omega)]; exact h.dn q (by omega) h2
theorem lv {M:List α} {i j k:Nat} (hi:i < M.length) (hj:j < M.length) (h1:k ≠ i) (h2:k ≠ j):(swp M i j).getD k default=M.getD k default:=by
 rw [cq hi hj,if_neg h2,if_neg h1]
attribute [local irreducible] aD ai bd bg aQ aV aA aU bj bD Go.Abs.Fn be Go.Abs.Pure aB aK Yl
theorem PartR.done {P:α→Prop} {a e mu i j:Nat} {M:List α} {v:α} (hK:Ord K) (h:PartR P a e mu i j M) (hM:e ≤ M.length) (hji:j < i) (hv:M.getD a default=v) (hP:∀ x,P x ↔ K x v < 0):a ≤ j∧j < e∧(∀ p,a ≤ p→p < j→K ((swp M j a).getD p default) ((swp M j a).getD j default) < 0)∧(∀ q,j < q→q < e→¬ K ((swp M j a).getD q default) ((swp M j a).getD j default) < 0):=by
 have hlo:=h.lo; have hmid:=h.mid; have hhi:=h.hi
 have ej:(swp M j a).getD j default=v:=by
  rw [cq (by omega) (by omega)]
  split
  ·rename_i e; rw [e,hv]
  ·rw [if_pos rfl,hv]
 rw [ej]
 refine ⟨by omega,by omega,fun p h1 h2=>?_,fun q h1 h2=>?_⟩
 ·rw [cq (by omega) (by omega)]
  by_cases e:p=a
  ·rw [if_pos e]; exact (hP _).1 (h.up j (by omega) hji)
  ·rw [if_neg e,if_neg (by omega)]; exact (hP _).1 (h.up p (by omega) (by omega))
 ·rw [cq (by omega) (by omega),if_neg (by omega),if_neg (by omega),← hP]; exact h.dn q h1 h2
end
end Go.Proofs.YtbgdcebmgjafjaaGreat
namespace Go.Proofs.YtbgdcebmgjafjaaGreat
open Go Go.Abs
def gV (x:Nat):Nat:=if x=0 then 0 else Nat.log2 x + 1
def jZ:ByteArray:=ByteArray.mk (Array.mk [0,1,2,2,3,3,3,3,4,4,4,4,4,4,4,4,5,5,5,5,5,5,5,5,5,5,5,5,5,5,5,5,6,6,6,6,6,6,6,6,6,6,6,6,6,6,6,6,6,6,6,6,6,6,6,6,6,6,6,6,6,6,6,6,7,7,7,7,7,7,7,7,7,7,7,7,7,7,7,7,7,7,7,7,7,7,7,7,7,7,7,7,7,7,7,7,7,7,7,7,7,7,7,7,7,7,7,7,7,7,7,7,7,7,7,7,7,7,7,7,7,7,7,7,7,7,7,7,8,8,8,8,8,8,8,8,8,8,8,8,8,8,8,8,8,8,8,8,8,8,8,8,8,8,8,8,8,8,8,8,8,8,8,8,8,8,8,8,8,8,8,8,8,8,8,8,8,8,8,8,8,8,8,8,8,8,8,8,8,8,8,8,8,8,8,8,8,8,8,8,8,8,8,8,8,8,8,8,8,8,8,8,8,8,8,8,8,8,8,8,8,8,8,8,8,8,8,8,8,8,8,8,8,8,8,8,8,8,8,8,8,8,8,8,8,8,8,8,8,8,8,8,8,8,8,8])
theorem tN (x:Nat):x < 2 ^ gV x:=by
 unfold gV
 split
 ·omega
 ·exact Nat.lt_log2_self
theorem p6 {x:Nat} (h:0 < x):2 ^ gV x ≤ 2 * x:=by
 unfold gV
 rw [if_neg (by omega),Nat.pow_succ]
 have:=Nat.log2_self_le (n:=x) (by omega)
 omega
theorem s9 {x:Nat} (hx:x < 256):iT (.str (ByteArray.mk (Array.mk [0,1,2,2,3,3,3,3,4,4,4,4,4,4,4,4,5,5,5,5,5,5,5,5,5,5,5,5,5,5,5,5,6,6,6,6,6,6,6,6,6,6,6,6,6,6,6,6,6,6,6,6,6,6,6,6,6,6,6,6,6,6,6,6,7,7,7,7,7,7,7,7,7,7,7,7,7,7,7,7,7,7,7,7,7,7,7,7,7,7,7,7,7,7,7,7,7,7,7,7,7,7,7,7,7,7,7,7,7,7,7,7,7,7,7,7,7,7,7,7,7,7,7,7,7,7,7,7,8,8,8,8,8,8,8,8,8,8,8,8,8,8,8,8,8,8,8,8,8,8,8,8,8,8,8,8,8,8,8,8,8,8,8,8,8,8,8,8,8,8,8,8,8,8,8,8,8,8,8,8,8,8,8,8,8,8,8,8,8,8,8,8,8,8,8,8,8,8,8,8,8,8,8,8,8,8,8,8,8,8,8,8,8,8,8,8,8,8,8,8,8,8,8,8,8,8,8,8,8,8,8,8,8,8,8,8,8,8,8,8,8,8,8,8,8,8,8,8,8,8,8,8,8,8,8,8]))) (.int .u8 (x:Nat))=some (.int .u8 (gV x:Nat)):=by
 have h1:jZ.size=256:=by decide +kernel
 have h2:∀ i:Fin 256,(jZ[i.val]?.getD 0).toNat=gV i.val:=by decide +kernel
 rw [SV2.2.2.2.2.2.2.2.2]
 have h3:=h2 ⟨x,hx⟩
 change (if 0 ≤ (x:Int)∧(x:Int) < jZ.size then some (AV.int .u8 (jZ[(x:Int).toNat]?.getD 0).toNat) else none)=_
 rw [if_pos ⟨by omega,by rw [h1]; omega⟩,Int.toNat_natCast]
 simp only at h3
 rw [h3]
theorem jY {x s k:Nat} (hk:k=gV (x / 2 ^ s)) (h:0 < x / 2 ^ s):x < 2 ^ (k + s)∧2 ^ (k + s) ≤ 2 * x:=by
 subst hk
 have h1:=tN (x / 2 ^ s)
 have h2:=p6 h
 have hp:0 < 2 ^ s:=Nat.pow_pos (by omega)
 rw [Nat.pow_add]
 constructor
 ·have:=(Nat.div_lt_iff_lt_mul hp).1 h1
  exact this
 ·calc 2 ^ gV (x / 2 ^ s) * 2 ^ s ≤ 2 * (x / 2 ^ s) * 2 ^ s:=Nat.mul_le_mul_right _ h2
    _=2 * (x / 2 ^ s * 2 ^ s):=by rw [Nat.mul_assoc]
    _ ≤ 2 * x:=Nat.mul_le_mul_left _ (Nat.div_mul_le_self x (2 ^ s))
theorem fx {x:Nat} (hx:x < 256):gV x ≤ 8:=by
 rcases Nat.eq_zero_or_pos x with e | e
 ·subst e; decide
 ·have h:=p6 e
  rcases Nat.lt_or_ge 8 (gV x) with h1 | h1
  ·have:=Nat.pow_le_pow_right (n:=2) (by omega) h1
   omega
  ·exact h1
theorem go {x:Int} (h:0 ≤ x) (h2:x < 18446744073709551616):IntKind.wrap .u64 x=x:=by
 simp only [IntKind.bits,IntKind.wrap,IntKind.signed]; simp; omega
theorem ka {x:Int} (h:0 ≤ x) (h2:x < 256):IntKind.wrap .u8 x=x:=by
 simp only [IntKind.bits,IntKind.wrap,IntKind.signed]; simp; omega
def xr (a b:Int):Int:=IntKind.wrap .u64 (BitVec.ofInt 64 a ^^^ BitVec.ofInt 64 b).toNat
def xU (a:Int):Int:=IntKind.wrap .u64 (a * 2 ^ 13)
def xw (a:Int):Int:=IntKind.wrap .u64 (a * 2 ^ 17)
def sr7 (a:Int):Int:=a.fdiv (2 ^ 7)
theorem SX:(∀ a b:Int,aO .xor false false (.int .u64 a) (.int .u64 b)=some (.int .u64 (xr a b)))∧(∀ a:Int,aO .shl false false (.int .u64 a) (.int .u64 13)=some (.int .u64 (xU a))) ∧
    (∀ a:Int,aO .shl false false (.int .u64 a) (.int .u64 17)=some (.int .u64 (xw a)))∧(∀ a:Int,aO .shr false false (.int .u64 a) (.int .u64 7)=some (.int .u64 (sr7 a))) :=
 ⟨fun _ _=>rfl,fun _=>rfl,fun _=>rfl,fun _=>rfl⟩
attribute [irreducible] xr xU xw sr7
attribute [local irreducible] aD ai bd bg aQ aV aA aU bj bD Go.Abs.Fn be Go.Abs.Pure aB aK Yl
theorem uV {H:Hp} {c nx:Nat} {s:Int} (hcc:H c=some [.int .u64 s]):Abs.Fn Tryz.prog 152 [.ptr c 1 0] H nx fun r H' nx'=>nx'=nx∧∃ s':Int,r=.int .u64 s'∧H'=al H c [.int .u64 s']:=by
 refine Abs.Fn.of_c2 follows xI (Nat.le_of_ble_eq_true rfl) ?_
 simp only [wR,cO,cG,cN,cM,cD,cF,cB,ap,aH]
 have ls:∀ x y:AV,bu [x] 0 [y]=[y]:=fun _ _=>rfl
 simp only [bu,List.length_cons,List.length_nil,Nat.zero_add] at ls
 (have zz:=aI @hcc (aI @SV3 (aI @SX @ls)); repeat' (first | refine zW ?_ | apply a_n | refine zO ?_ | refine vZ ?_ | refine stZ ?_ | refine ag rfl ?_ | refine r1Z ?_ | fail)) <;> (try clear zz)
 exact ⟨rfl,_,rfl,by rw [az,az]; rfl⟩
set_option maxRecDepth 100000 in
theorem ua {H:Hp} {nx x:Nat} (hx:0 < x) (h2:x < 4294967296):Abs.Fn Tryz.prog 141 [.int .u64 x] H nx fun r H' nx'=>nx'=nx∧H'=H∧∃ k:Nat,r=.int .i64 k∧x < 2 ^ k∧2 ^ k ≤ 2 * x:=by
 refine Abs.Fn.of_c2 follows um (Nat.le_of_ble_eq_true rfl) ?_
 delta u4 cO cG cN cM cD cF cB ap aH
 generalize hT:AV.str (ByteArray.mk (Array.mk [0,1,2,2,3,3,3,3,4,4,4,4,4,4,4,4,5,5,5,5,5,5,5,5,5,5,5,5,5,5,5,5,6,6,6,6,6,6,6,6,6,6,6,6,6,6,6,6,6,6,6,6,6,6,6,6,6,6,6,6,6,6,6,6,7,7,7,7,7,7,7,7,7,7,7,7,7,7,7,7,7,7,7,7,7,7,7,7,7,7,7,7,7,7,7,7,7,7,7,7,7,7,7,7,7,7,7,7,7,7,7,7,7,7,7,7,7,7,7,7,7,7,7,7,7,7,7,7,8,8,8,8,8,8,8,8,8,8,8,8,8,8,8,8,8,8,8,8,8,8,8,8,8,8,8,8,8,8,8,8,8,8,8,8,8,8,8,8,8,8,8,8,8,8,8,8,8,8,8,8,8,8,8,8,8,8,8,8,8,8,8,8,8,8,8,8,8,8,8,8,8,8,8,8,8,8,8,8,8,8,8,8,8,8,8,8,8,8,8,8,8,8,8,8,8,8,8,8,8,8,8,8,8,8,8,8,8,8,8,8,8,8,8,8,8,8,8,8,8,8,8,8,8,8,8,8]))=tb
 have htab:∀ x:Nat,x < 256→iT tb (.int .u8 (x:Nat))=some (.int .u8 (gV x:Nat)):=fun x hx=>by rw [← hT]; exact s9 hx
 clear hT
 have s16:∀ z:Nat,aO .shr false false (.int .u64 (z:Nat)) (.int .u64 16)=some (.int .u64 ((z / 2 ^ 16:Nat):Int)):=fun z=>pV (b:=16) (k:=.u64) (k':=.u64) (by decide)
 have s8:∀ z:Nat,aO .shr false false (.int .u64 (z:Nat)) (.int .u64 8)=some (.int .u64 ((z / 2 ^ 8:Nat):Int)):=fun z=>pV (b:=8) (k:=.u64) (k':=.u64) (by decide)
 by_cases h16:65536 ≤ x
 ·obtain ⟨y,hy⟩:∃ y,x / 2 ^ 16=y:=⟨_,rfl⟩
  have hy1:0 < y:=by omega
  have hy2:y < 65536:=by omega
  by_cases h8:256 ≤ y
  ·obtain ⟨z,hz⟩:∃ z,y / 2 ^ 8=z:=⟨_,rfl⟩
   have hz1:0 < z:=by omega
   have hz2:z < 256:=by omega
   have hl:=fx hz2
   have w8:IntKind.wrap .u8 (z:Int)=z:=ka (by omega) (by omega)
   have ht:=htab z hz2
   (have zz:=aI @s16 (aI @s8 (aI @hy (aI @hz (aI @w8 @ht)))); repeat' (first | refine zW ?_ | apply a_n | refine zO ?_ | refine vZ ?_ | (refine zGZ ?_ ?_ <;> (intro _hg; try (exfalso; omega))) | refine ag rfl ?_ | refine r1Z ?_ | fail)) <;> (try clear zz)
   have e:x / 2 ^ 24=z:=by rw [← hz,← hy,Nat.div_div_eq_div_mul]
   exact ⟨rfl,rfl,gV z + 24,by congr 1; omega,jY (by rw [e]) (by omega)⟩
  ·have hl:=fx (x:=y) (by omega)
   have w8:IntKind.wrap .u8 (y:Int)=y:=ka (by omega) (by omega)
   have ht:=htab y (by omega)
   (have zz:=aI @s16 (aI @s8 (aI @hy (aI @w8 @ht))); repeat' (first | refine zW ?_ | apply a_n | refine zO ?_ | refine vZ ?_ | (refine zGZ ?_ ?_ <;> (intro _hg; try (exfalso; omega))) | refine ag rfl ?_ | refine r1Z ?_ | fail)) <;> (try clear zz)
   exact ⟨rfl,rfl,gV y + 16,by congr 1; omega,jY (by rw [hy]) (by omega)⟩
 ·by_cases h8:256 ≤ x
  ·obtain ⟨z,hz⟩:∃ z,x / 2 ^ 8=z:=⟨_,rfl⟩
   have hz1:0 < z:=by omega
   have hz2:z < 256:=by omega
   have hl:=fx hz2
   have w8:IntKind.wrap .u8 (z:Int)=z:=ka (by omega) (by omega)
   have ht:=htab z hz2
   (have zz:=aI @s16 (aI @s8 (aI @hz (aI @w8 @ht))); repeat' (first | refine zW ?_ | apply a_n | refine zO ?_ | refine vZ ?_ | (refine zGZ ?_ ?_ <;> (intro _hg; try (exfalso; omega))) | refine ag rfl ?_ | refine r1Z ?_ | fail)) <;> (try clear zz)
   exact ⟨rfl,rfl,gV z + 8,by congr 1; omega,jY (by rw [hz]) (by omega)⟩
  ·have hl:=fx (x:=x) (by omega)
   have w8:IntKind.wrap .u8 (x:Int)=x:=ka (by omega) (by omega)
   have ht:=htab x (by omega)
   (have zz:=aI @w8 @ht; repeat' (first | refine zW ?_ | apply a_n | refine zO ?_ | refine vZ ?_ | (refine zGZ ?_ ?_ <;> (intro _hg; try (exfalso; omega))) | refine ag rfl ?_ | refine r1Z ?_ | fail)) <;> (try clear zz)
   exact ⟨rfl,rfl,gV x + 0,by congr 1; omega,jY (s:=0) (by simp) (by simpa using hx)⟩
theorem uO {H:Hp} {nx x:Nat} (hx:0 < x) (h2:x < 4294967296):Abs.Fn Tryz.prog 123 [.int .u64 x] H nx fun r H' nx'=>nx'=nx∧H'=H∧∃ k:Nat,r=.int .i64 k∧x < 2 ^ k∧2 ^ k ≤ 2 * x:=by
 refine Abs.Fn.of_c2 follows uI (Nat.le_of_ble_eq_true rfl) ?_
 simp only [uW,cO,cG,cN,cM,cD,cF,cB,ap,aH]
 (have zz:=and_self; repeat' (first | refine zW ?_ | apply a_n | refine zO ?_ | refine vZ ?_ | refine cFZ ?_ | fail)) <;> (try clear zz)
 refine a8 ev0 ev0 (ua hx h2) ?_
 rintro _ _ _ ⟨rfl,rfl,k,rfl,h3,h4⟩
 (have zz:=and_self; repeat' (first | apply a_n | refine zO ?_ | refine vZ ?_ | refine ag rfl ?_ | refine r1Z ?_ | fail)) <;> (try clear zz)
 exact ⟨rfl,rfl,k,rfl,h3,h4⟩
theorem uZ {H:Hp} {nx x:Nat} (hx:0 < x) (h2:x ≤ 1000000000):Abs.Fn Tryz.prog 151 [.int .i64 x] H nx fun r H' nx'=>nx'=nx∧H'=H∧∃ k:Nat,r=.int .u64 ((2 ^ k:Nat):Int)∧x < 2 ^ k∧2 ^ k ≤ 2 * x:=by
 have w:IntKind.wrap .u64 (x:Int)=x:=go (by omega) (by omega)
 refine Abs.Fn.of_c2 follows w5 (Nat.le_of_ble_eq_true rfl) ?_
 simp only [wM,cO,cG,cN,cM,cD,cF,cB,ap,aH]
 (have zz:=@w; repeat' (first | refine zW ?_ | apply a_n | refine zO ?_ | refine vZ ?_ | fail)) <;> (try clear zz)
 refine a8 ev0 (have zz:=@w; evZ) (uO hx (by omega)) ?_
 rintro _ _ _ ⟨rfl,rfl,k,rfl,h3,h4⟩
 have hk:k ≤ 62:=by
  rcases Nat.lt_or_ge 62 k with h | h
  ·have:=Nat.pow_le_pow_right (n:=2) (by omega) h
   omega
  ·exact h
 have sh:aO .shl false false (.int .u64 1) (.int .i64 (k:Int))=some (.int .u64 ((2 ^ k:Nat):Int)):=by
  have h:=tK (k:=.u64) (k':=.i64) (a:=1) (b:=k) (tb:=false) (tf:=false) (by show k ≤ 64; omega) (by show 1 * 2 ^ k < 2 ^ 63; omega)
  rw [Nat.one_mul] at h
  exact h
 (have zz:=@sh; repeat' (first | apply a_n | refine zO ?_ | refine vZ ?_ | refine ag rfl ?_ | refine r1Z ?_ | fail)) <;> (try clear zz)
 exact ⟨rfl,rfl,k,rfl,h3,h4⟩
end Go.Proofs.YtbgdcebmgjafjaaGreat
namespace Go.Proofs.YtbgdcebmgjafjaaGreat
open Go Go.Abs
open Nat (reduceEqDiff reduceAdd reduceLeDiff)
theorem sN {a:Int} {m:Nat} (hm:m < 18446744073709551616):∃ r:Nat,aO .and false false (.int .u64 a) (.int .u64 (m:Nat))=some (.int .u64 (r:Nat))∧r ≤ m:=by
 refine ⟨(BitVec.ofInt 64 a).toNat &&& m,?_,Nat.and_le_right⟩
 show (if (IntKind.u64=IntKind.u64) then cS .and .u64 a m else none)=_
 rw [if_pos rfl]
 have h:(BitVec.ofInt 64 a &&& BitVec.ofInt 64 (m:Int)).toNat=(BitVec.ofInt 64 a).toNat &&& m:=by
  rw [BitVec.toNat_and]
  congr 1
  simp [BitVec.toNat_ofInt]
  omega
 have h2:(BitVec.ofInt 64 a).toNat &&& m ≤ m:=Nat.and_le_right
 show some (AV.int .u64 (IntKind.wrap .u64 ((BitVec.ofInt 64 a &&& BitVec.ofInt 64 (m:Int)).toNat:Int)))=_
 rw [h,go (by omega) (by omega)]
section
variable {α:Type} [Inhabited α] {f:α→AV} {K:α→α→Int} {G:α→Prop} {g:Nat} {caps:List AV}
attribute [local irreducible] aD ai bd bg aQ aV aA aU bj bD Go.Abs.Fn be Go.Abs.Pure aB aK Yl
end
end Go.Proofs.YtbgdcebmgjafjaaGreat
namespace Go.Proofs.YtbgdcebmgjafjaaGreat
open Go Go.Abs
structure PS (H H1:Hp) (nx n1 b:Nat) (cs:List AV):Prop where
 at_:H1 b=some cs
 fr:∀ i,i < nx→i ≠ b→H1 i=H i
 le:nx ≤ n1
section
variable {H H1 H2:Hp} {nx n1 n2 b:Nat} {cs cs':List AV}
theorem PS.upd (h:PS H H1 nx n1 b cs):PS H (al H1 b cs') nx n1 b cs':=⟨ar,fun i k1 k2=>by rw [am k2]; exact h.fr i k1 k2,h.le⟩
theorem PS.new {v:List AV} (hb:b < nx) (h:PS H H1 nx n1 b cs):PS H (al H1 n1 v) nx (n1 + 1) b cs :=
 have h1:=h.le
 ⟨by rw [am (by omega)]; exact h.at_,fun i k1 k2=>by rw [am (by omega)]; exact h.fr i k1 k2,by omega⟩
theorem PS.rec_ (h:PS H H1 nx n1 b cs) (h1:H2 b=some cs') (h2:∀ i,i < n1→i ≠ b→H2 i=H1 i) (h3:n1 ≤ n2):PS H H2 nx n2 b cs' :=
 have h4:=h.le
 ⟨h1,fun i k1 k2=>by rw [h2 i (by omega) k2]; exact h.fr i k1 k2,by omega⟩
end
section
variable {α:Type} [Inhabited α] {f:α→AV} {K:α→α→Int} {G:α→Prop} {g:Nat} {caps:List AV}
structure PI {α:Type} [Inhabited α] (K:α→α→Int) (a e:Nat) (L:List α) (a1 e1:Nat) (M:List α):Prop where
 lo:a ≤ a1
 mid:a1 ≤ e1
 hi:e1 ≤ e
 len:e ≤ L.length
 perm:PermR a e L M
 low:lU K a1 e1 M
 close:∀ N,PermR a1 e1 M N→aM K a1 e1 N→aM K a e N
variable {a e a1 e1:Nat} {L M N:List α}
theorem PI.mlen (h:PI K a e L a1 e1 M):e1 ≤ M.length:=by rw [h.perm.len]; exact Nat.le_trans h.hi h.len
theorem PI.start (h1:a ≤ e) (h2:e ≤ L.length) (h3:lU K a e L):PI K a e L a e L:=⟨Nat.le_refl _,h1,Nat.le_refl _,h2,.refl,h3,fun _ _ h=>h⟩
theorem PI.swap (h:PI K a e L a1 e1 M) (hp:PermR a1 e1 M N):PI K a e L a1 e1 N :=
 ⟨h.lo,h.mid,h.hi,h.len,h.perm.trans (hp.mono h.lo h.hi),h.low.perm hp h.mid h.mlen,fun N' k1 k2=>h.close N' (hp.trans k1) k2⟩
theorem PI.done (h:PI K a e L a1 e1 M) (hp:PermR a1 e1 M N) (hs:aM K a1 e1 N):PermR a e L N∧aM K a e N:=⟨h.perm.trans (hp.mono h.lo h.hi),h.close N hp hs⟩
theorem PI.equal {v:α} {m:Nat} (hK:Ord K) (h:PI K a e L a1 e1 M) (hp:PermR a1 e1 M N) (hv:¬ K (M.getD (a1 - 1) default) v < 0) (ha:0 < a1) (hm:a1 < m∧m ≤ e1) (h1:∀ p,a1 ≤ p→p < m→¬ K v (N.getD p default) < 0) (h2:∀ q,m ≤ q→q < e1→K v (N.getD q default) < 0):PI K a e L m e1 N:=by
 have hN:=h.swap hp
 have hlow:=hN.low
 have ho:N.getD (a1 - 1) default=M.getD (a1 - 1) default:=hp.out _ (.inl (by omega))
 refine ⟨by have:=h.lo; omega,hm.2,h.hi,h.len,hN.perm,fun q k0 k1 k2=>hK.negtr _ _ _ (h1 (m - 1) (by omega) (by omega)) (hK.asym _ _ (h2 q k1 k2)),fun N' k1 k2=>hN.close N' (k1.mono (by omega) (Nat.le_refl _)) (fun p q c1 c2 c3=>?_)⟩
 by_cases e1':m ≤ p
 ·exact k2 p q e1' c2 c3
 ·rw [k1.out p (.inl (by omega))]
  refine hK.negtr _ _ _ (h1 p c1 (by omega)) ?_
  by_cases e2:m ≤ q
  ·exact hK.asym _ _ (k1.all (p:=fun x=>K v x < 0) hm.2 hN.mlen h2 q e2 c3)
  ·rw [k1.out q (.inl (by omega))]
   exact hK.negtr _ _ _ hv (by rw [← ho]; exact hlow q ha (by omega) c3)
theorem aM.glue {m:Nat} (hK:Ord K) (h1:aM K a1 m N) (h2:aM K (m + 1) e1 N) (h3:∀ p,a1 ≤ p→p < m→¬ K (N.getD m default) (N.getD p default) < 0) (h4:∀ q,m < q→q < e1→¬ K (N.getD q default) (N.getD m default) < 0):aM K a1 e1 N:=fun p q k1 k2 k3=>by
 by_cases c1:q < m
 ·exact h1 p q k1 k2 c1
 ·by_cases c2:m < p
  ·exact h2 p q c2 k2 k3
  ·by_cases c3:p=m
   ·subst c3; exact h4 q (by omega) k3
   ·by_cases c4:q=m
    ·subst c4; exact h3 p k1 k2
    ·exact hK.negtr _ _ _ (h3 p k1 (by omega)) (h4 q (by omega) k3)
structure TwoS {α:Type} [Inhabited α] (K:α→α→Int) (a1 e1 m:Nat) (N:List α):Prop where
 mid:a1 ≤ m∧m < e1
 lt:∀ p,a1 ≤ p→p < m→¬ K (N.getD m default) (N.getD p default) < 0
 ge:∀ q,m < q→q < e1→¬ K (N.getD q default) (N.getD m default) < 0
theorem TwoS.left {m:Nat} {N':List α} (h:TwoS K a1 e1 m N) (hp:PermR a1 m N N') (hl:e1 ≤ N.length):TwoS K a1 e1 m N' :=
 have hm:=h.mid
 ⟨hm,by
  rw [hp.out m (.inr (Nat.le_refl _))]
  exact hp.all (p:=fun x=>¬ K (N.getD m default) x < 0) hm.1 (by omega) h.lt,fun q k1 k2=>by rw [hp.out m (.inr (Nat.le_refl _)),hp.out q (.inr (by omega))]; exact h.ge q k1 k2⟩
theorem TwoS.right {m:Nat} {N':List α} (h:TwoS K a1 e1 m N) (hp:PermR (m + 1) e1 N N') (hl:e1 ≤ N.length):TwoS K a1 e1 m N' :=
 have hm:=h.mid
 ⟨hm,fun p k1 k2=>by rw [hp.out m (.inl (by omega)),hp.out p (.inl (by omega))]; exact h.lt p k1 k2,by
  rw [hp.out m (.inl (by omega))]
  exact fun q k1 k2=>hp.all (p:=fun x=>¬ K x (N.getD m default) < 0) (by omega) hl (fun i c1 c2=>h.ge i (by omega) c2) q (by omega) k2⟩
theorem PI.left {m:Nat} (hK:Ord K) (h:PI K a e L a1 e1 M) (ht:TwoS K a1 e1 m M) (hp:PermR a1 m M N) (hs:aM K a1 m N):PI K a e L (m + 1) e1 N:=by
 have hm:=ht.mid
 have hN:=h.swap (hp.mono (Nat.le_refl _) (by omega))
 have htN:=ht.left hp h.mlen
 refine ⟨by have:=h.lo; omega,by omega,h.hi,h.len,hN.perm,fun q k0 k1 k2=>by rw [Nat.add_sub_cancel]; exact htN.ge q k1 k2,fun N' k1 k2=>hN.close N' (k1.mono (by omega) (Nat.le_refl _)) ?_⟩
 have ht':=htN.right k1 hN.mlen
 exact aM.glue hK (fun p q c1 c2 c3=>by rw [k1.out p (.inl (by omega)),k1.out q (.inl (by omega))]; exact hs p q c1 c2 c3) k2 ht'.lt ht'.ge
theorem PI.right {m:Nat} (hK:Ord K) (h:PI K a e L a1 e1 M) (ht:TwoS K a1 e1 m M) (hp:PermR (m + 1) e1 M N) (hs:aM K (m + 1) e1 N):PI K a e L a1 m N:=by
 have hm:=ht.mid
 have hN:=h.swap (hp.mono (by omega) (Nat.le_refl _))
 have htN:=ht.right hp h.mlen
 refine ⟨h.lo,hm.1,by have:=h.hi; omega,h.len,hN.perm,fun q k0 k1 k2=>hN.low q k0 k1 (by omega),fun N' k1 k2=>hN.close N' (k1.mono (Nat.le_refl _) (by omega)) ?_⟩
 have ht':=htN.left k1 hN.mlen
 exact aM.glue hK k2 (fun p q c1 c2 c3=>by rw [k1.out p (.inr (by omega)),k1.out q (.inr (by omega))]; exact hs p q c1 c2 c3) ht'.lt ht'.ge
theorem lU.sub {a e a' e':Nat} {M:List α} (h:lU K a e M) (ha:a'=a) (he:e' ≤ e):lU K a' e' M:=fun q k0 k1 k2=>by subst ha; exact h q k0 k1 (by omega)
end
end Go.Proofs.YtbgdcebmgjafjaaGreat
namespace Go.Proofs.YtbgdcebmgjafjaaGreat
open Go Go.Abs
section
variable {α:Type} [Inhabited α] {f:α→AV} {K:α→α→Int} {G:α→Prop} {g:Nat} {caps:List AV}
attribute [local irreducible] aD ai bd bg aQ aV aA aU bj bD Go.Abs.Fn be Go.Abs.Pure aB aK Yl
end
end Go.Proofs.YtbgdcebmgjafjaaGreat
namespace Go.Proofs.YtbgdcebmgjafjaaGreat
open Go Go.Abs
open Nat (reduceEqDiff reduceAdd reduceLeDiff)
section
variable {α:Type} [Inhabited α] {f:α→AV} {K:α→α→Int} {G:α→Prop} {g:Nat} {caps:List AV}
attribute [local irreducible] aD ai bd bg aQ aV aA aU bj bD Go.Abs.Fn be Go.Abs.Pure aB aK Yl
end
end Go.Proofs.YtbgdcebmgjafjaaGreat
namespace Go.Proofs.YtbgdcebmgjafjaaGreat
open Go Go.Abs
def _root_.List.c2 {α:Type} (l:List α) (f:α→AV):List AV:=l.flatMap fun x=>(f x).cells
structure Cmp2 {α:Type} (P:Program) (f:α→AV) (K:α→α→Int) (G:α→Prop) (g:Nat) (caps:List AV):Prop where
 len:∀ x,(f x).cells.length=2
 agg:∀ x,AV.agg (f x).cells=f x
 ones:∀ x,AV.ones (f x).cells=true
 dat:∀ x,Dat (f x)
 dcaps:∀ x ∈ caps,Dat x
 run:∀ x y,G x→G y→Go.Abs.Pure P g (f x :: f y :: caps) (.int .i64 (K x y))
 ord:Ord K
section
variable {α:Type} {f:α→AV} (h:∀ x,(f x).cells.length=2)
include h
theorem aZ (M:List α):(M.c2 f).length=M.length * 2:=by
 unfold List.c2
 induction M with
 | nil=>rfl
 | cons a l ih=>rw [List.flatMap_cons,List.length_append,ih,h,List.length_cons]; omega
theorem mT:∀ (M:List α) (k:Nat),(M.c2 f).drop (k * 2)=(M.drop k).c2 f
 | [],k=>by simp [List.c2]
 | a :: l,0=>by simp
 | a :: l,k + 1=>by
  have e:((a :: l).c2 f).drop ((k + 1) * 2)=(l.c2 f).drop (k * 2):=by
   show ((f a).cells ++ l.c2 f).drop _=_
   rw [List.drop_append,List.drop_eq_nil_of_le (by rw [h]; omega),List.nil_append,h]
   congr 1; omega
  rw [e,mT l k]; rfl
theorem pY:∀ (M:List α) (k:Nat),(M.c2 f).take (k * 2)=(M.take k).c2 f
 | [],k=>by simp [List.c2]
 | a :: l,0=>by simp [List.c2]
 | a :: l,k + 1=>by
  show ((f a).cells ++ l.c2 f).take _=(f a).cells ++ (l.take k).c2 f
  rw [List.take_append,List.take_of_length_le (by rw [h]; omega),h,show (k + 1) * 2 - 2=k * 2 by omega,pY l k]
theorem b4 [Inhabited α] (M:List α) (k:Nat) (hk:k < M.length):((M.c2 f).drop (k * 2)).take 2=(f (M.getD k default)).cells:=by
 rw [mT h,ef hk]
 show ((f (M.getD k default)).cells ++ _).take 2=_
 rw [List.take_append_of_le_length (by rw [h]; omega),List.take_of_length_le (by rw [h]; omega)]
theorem ur {M:List α} {k:Nat} {x:α} (hk:k < M.length):bu (M.c2 f) (k * 2) (f x).cells=(M.set k x).c2 f:=by
 simp only [bu]
 rw [h,show k * 2 + 2=(k + 1) * 2 by omega,mT h,pY h,List.set_eq_take_append_cons_drop,if_pos hk]
 simp only [List.c2,List.flatMap_append,List.flatMap_cons,List.append_assoc]
theorem bB [Inhabited α] {M:List α} {i j:Nat} (hi:i < M.length) (hj:j < M.length):∃ M1:List α,M1.length=M.length∧bu (M.c2 f) (i * 2) (f (M.getD j default)).cells=M1.c2 f∧bu (M1.c2 f) (j * 2) (f (M.getD i default)).cells=(swp M i j).c2 f∧(M.c2 f).length=M.length * 2∧(M1.c2 f).length=M.length * 2∧(f (M.getD i default)).cells.length=2∧(f (M.getD j default)).cells.length=2 :=
 ⟨M.set i (M.getD j default),by simp,ur h hi,by rw [ur h (by simpa using hj)]; rfl,aZ h M,by rw [aZ h]; simp,h _,h _⟩
end
theorem aP {c:Prop} [Decidable c] {g:List AV→AV} {x:List AV}:Option.map g (if c then some x else none)=if c then some (g x) else none:=by
 split <;> rfl
section
variable {α:Type} [Inhabited α] {f:α→AV} {K:α→α→Int} {G:α→Prop} {g:Nat} {caps:List AV}
attribute [local irreducible] aD ai bd bg aQ aV aA aU bj bD Go.Abs.Fn be Go.Abs.Pure aB aK Yl
theorem xH (hc:Cmp2 Tryz.prog f K G g caps) {L:List α} {H:Hp} {b nx n a e:Nat} (hH:H b=some (L.c2 f)) (hn:L.length=n) (hG:∀ x ∈ L,G x) (hae:a ≤ e) (hen:e ≤ n) (hn2:n ≤ 1000000000) :
    Abs.Fn Tryz.prog 132 [.msl b (n * 2) 2 0 n,.int .i64 a,.int .i64 e,.func g caps] H nx fun r H' nx'=>nx'=nx∧∃ L',H'=al H b (L'.c2 f)∧PermR a e L L'∧aM K a e L':=by
 refine Abs.Fn.of_c2 follows ul (Nat.le_of_ble_eq_true rfl) ?_
 simp only [vE,cO,cG,cN,cM,cD,cF,cB,ap,aH]
 (have zz:=and_self; repeat' (first | refine zW ?_ | apply a_n | refine zO ?_ | refine vZ ?_ | fail)) <;> (try clear zz)
 refine aY (X:=Nat × List α) (fun x=>[(0,.msl b (n * 2) 2 0 n),(1,.int .i64 a),(2,.int .i64 e),(3,.func g caps),(8,.int .i64 (x.1:Nat))]) (fun x H' nx'=>a + 1 ≤ x.1∧(x.1 ≤ e ∨ x.1=a + 1)∧H'=al H b (x.2.c2 f)∧nx'=nx∧PermR a e L x.2∧aM K a x.1 x.2) (fun x=>e + 1 - x.1) (a + 1,L) ⟨Nat.le_refl _,.inr rfl,gl hH,rfl,.refl,aM.one (Nat.le_refl _)⟩ ag0 ?_
 rintro ⟨i,M0⟩ H' nx' ⟨h1,h2,rfl,rfl,hp0,hs0⟩
 dsimp only at *
 have hl0:M0.length=n:=by rw [hp0.len,hn]
 by_cases hi:i < e
 rotate_left
 ·(have zz:=and_self; repeat' (first | refine zW ?_ | apply a_n | apply a_x | refine zO ?_ | refine vZ ?_ | (refine zGZ ?_ ?_ <;> (intro _hg; try (exfalso; omega))) | refine ag rfl ?_ | fail)) <;> (try clear zz)
  exact ⟨rfl,M0,rfl,hp0,hs0.mono (Nat.le_refl _) (by omega)⟩
 (have zz:=and_self; repeat' (first | refine zW ?_ | apply a_n | refine zO ?_ | refine vZ ?_ | (refine zGZ ?_ ?_ <;> (intro _hg; try (exfalso; omega))) | fail)) <;> (try clear zz)
 refine aY (X:=Nat × List α) (fun x=>[(0,.msl b (n * 2) 2 0 n),(1,.int .i64 a),(2,.int .i64 e),(3,.func g caps),(8,.int .i64 (i:Nat)),(9,.int .i64 (x.1:Nat))]) (fun x H' nxx=>a ≤ x.1∧x.1 ≤ i∧H'=al H b (x.2.c2 f)∧nxx=nx'∧PermR a e L x.2∧dE K a i x.1 x.2) (fun x=>x.1) (i,M0) ⟨by omega,Nat.le_refl _,rfl,rfl,hp0,.start hs0⟩ ag0 ?_
 clear hp0 hs0 hl0
 rintro ⟨j,M⟩ H' nxx ⟨a1,a2,rfl,rfl,hp,hal⟩
 dsimp only at *
 have hl:M.length=n:=by rw [hp.len,hn]
 have hGM:=hp.mem hG
 by_cases hja:j=a
 ·subst hja
  (have zz:=and_self; repeat' (first | refine zW ?_ | refine zM ?_ | apply a_n | apply a_x | refine zO ?_ | refine vZ ?_ | refine gFZ ?_ | (refine zGZ ?_ ?_ <;> (intro _hg; try (exfalso; omega))) | refine cFZ ?_ | fail)) <;> (try clear zz)
  exact ⟨(i + 1,M),by dsimp only; omega,⟨by dsimp only; omega,.inl (by dsimp only; omega),rfl,rfl,hp,hal.done hc.ord (.inl rfl)⟩,ag0⟩
 ·obtain ⟨k,rfl⟩:∃ k,j=k + 1:=⟨j - 1,by omega⟩
  have tj:((k + 1:Nat):Int) - 1=(k:Int):=by omega
  have lc:=hc.run (M.getD (k + 1) default) (M.getD k default) (hGM _ (aJ (by omega))) (hGM _ (aJ (by omega)))
  have d1:=hc.dat (M.getD (k + 1) default)
  have d2:=hc.dat (M.getD k default)
  have dcap:=hc.dcaps
  generalize hKK:K (M.getD (k + 1) default) (M.getD k default)=kk at lc
  by_cases hlt:kk < 0
  ·obtain ⟨M1,hl1,lm1,lm2,c1,c2,c3,c4⟩:=bB (f:=f) hc.len (M:=M) (i:=k + 1) (j:=k) (by omega) (by omega)
   have lm3:=lm2
   simp only [bu] at lm1 lm2
   (have zz:=aI @tj (aI @Int.toNat_natCast (aI @lm1 (aI @lm2 (aI (b4 hc.len) (aI (aZ hc.len) (aI @aP (aI hc.agg hc.ones))))))); repeat' (first | refine zW ?_ | refine zM ?_ | apply a_n | refine zO ?_ | refine vZ ?_ | refine cZ ?_ (hp:=lc) (hs:=by (first | refine aa ?_ rfl | apply ae); (repeat' (first | exact ab | apply ah | apply af | exact d1 | exact d2 | exact aC dcap)); first | done | fail) | refine stZ ?_ | refine gTZ ?_ | (refine zGZ ?_ ?_ <;> (intro _hg; try (exfalso; omega))) | fail)) <;> (try clear zz)
   refine ⟨(k,swp M (k + 1) k),by dsimp only; omega,⟨by dsimp only; omega,by dsimp only; omega,?_,rfl,hp.trans (PermR.swap (by omega) (by omega) (by omega)),hal.step hc.ord (by omega) (by omega) (by omega) (by rw [hKK]; exact hlt)⟩,(have zz:=@tj; agZ)⟩
   dsimp only
   rw [az,az,lm3]
  ·(have zz:=aI @tj (aI @Int.toNat_natCast (aI (b4 hc.len) (aI (aZ hc.len) (aI @aP (aI hc.agg hc.ones))))); repeat' (first | refine zW ?_ | refine zM ?_ | apply a_n | apply a_x | refine zO ?_ | refine vZ ?_ | refine cZ ?_ (hp:=lc) (hs:=by (first | refine aa ?_ rfl | apply ae); (repeat' (first | exact ab | apply ah | apply af | exact d1 | exact d2 | exact aC dcap)); first | done | fail) | refine gTZ ?_ | (refine zGZ ?_ ?_ <;> (intro _hg; try (exfalso; omega))) | fail)) <;> (try clear zz)
   exact ⟨(i + 1,M),by dsimp only; omega,⟨by dsimp only; omega,.inl (by dsimp only; omega),rfl,rfl,hp,hal.done hc.ord (.inr ⟨by omega,by rw [Nat.add_sub_cancel,hKK]; exact hlt⟩)⟩,ag0⟩
end
end Go.Proofs.YtbgdcebmgjafjaaGreat
namespace Go.Proofs.YtbgdcebmgjafjaaGreat
open Go Go.Abs
section
variable {α:Type} [Inhabited α] {f:α→AV} {K:α→α→Int} {G:α→Prop} {g:Nat} {caps:List AV}
attribute [local irreducible] aD ai bd bg aQ aV aA aU bj bD Go.Abs.Fn be Go.Abs.Pure aB aK Yl
theorem sy (hc:Cmp2 Tryz.prog f K G g caps) {L:List α} {H:Hp} {b nx n a lo hi:Nat} (hH:H b=some (L.c2 f)) (hn:L.length=n) (hG:∀ x ∈ L,G x) (hhi:a + hi ≤ n) (hn2:n ≤ 1000000000) (hlo:lo ≤ n) (hheap:d3 K a hi (lo + 1) L) :
    Abs.Fn Tryz.prog 150 [.msl b (n * 2) 2 0 n,.int .i64 lo,.int .i64 hi,.int .i64 a,.func g caps] H nx fun r H' nx'=>nx'=nx∧∃ L',H'=al H b (L'.c2 f)∧PermR a (a + hi) L L'∧d3 K a hi lo L':=by
 refine Abs.Fn.of_c2 follows v4 (Nat.le_of_ble_eq_true rfl) ?_
 simp only [wE,cO,cG,cN,cM,cD,cF,cB,ap,aH]
 (have zz:=and_self; repeat' (first | refine zW ?_ | apply a_n | refine zO ?_ | refine vZ ?_ | fail)) <;> (try clear zz)
 refine aY (X:=Nat × List α) (fun x=>[(0,.msl b (n * 2) 2 0 n),(2,.int .i64 hi),(3,.int .i64 a),(4,.func g caps),(10,.int .i64 (x.1:Nat))]) (fun x H' nx'=>x.1 ≤ n∧H'=al H b (x.2.c2 f)∧nx'=nx∧PermR a (a + hi) L x.2∧SiftR K a hi lo x.1 x.2) (fun x=>n + 1 - x.1) (lo,L) ⟨hlo,gl hH,rfl,.refl,.start hheap⟩ ag0 ?_
 rintro ⟨root,M⟩ H' nx' ⟨h0,rfl,rfl,hp,hs⟩
 dsimp only at *
 have hl:M.length=n:=by rw [hp.len,hn]
 have hGM:=hp.mem hG
 by_cases hch:2 * root + 1 < hi
 rotate_left
 ·(have zz:=and_self; repeat' (first | refine zW ?_ | apply a_n | apply a_x | refine zO ?_ | refine vZ ?_ | (refine zGZ ?_ ?_ <;> (intro _hg; try (exfalso; omega))) | refine ag rfl ?_ | fail)) <;> (try clear zz)
  exact ⟨rfl,M,rfl,hp,hs.leaf (by omega)⟩
 have dcap:=hc.dcaps
 have tch:(2:Int) * (root:Int) + 1=((2 * root + 1:Nat):Int):=by omega
 have tch2:((2 * root + 1:Nat):Int) + 1=((2 * root + 1 + 1:Nat):Int):=by omega
 have w1:IntKind.wrap .i64 (2 * (root:Int))=2 * (root:Int):=mA (by omega) (by omega)
 obtain ⟨c,hkid,hchi,hbest,hsel⟩:∃ c,Kid root c∧c < hi∧(∀ d,Kid root d→d < hi→¬ K (M.getD (a + c) default) (M.getD (a + d) default) < 0)∧((c=2 * root + 1 + 1∧K (M.getD (a + (2 * root + 1)) default) (M.getD (a + (2 * root + 1 + 1)) default) < 0) ∨ (c=2 * root + 1∧(2 * root + 1 + 1 < hi→¬ K (M.getD (a + (2 * root + 1)) default) (M.getD (a + (2 * root + 1 + 1)) default) < 0))):=by
  by_cases h2:2 * root + 1 + 1 < hi∧K (M.getD (a + (2 * root + 1)) default) (M.getD (a + (2 * root + 1 + 1)) default) < 0
  ·refine ⟨2 * root + 1 + 1,.inr rfl,h2.1,fun d hd hd2=>?_,.inl ⟨rfl,h2.2⟩⟩
   rcases hd with rfl | rfl
   ·exact hc.ord.asym _ _ h2.2
   ·exact hc.ord.irr _
  ·refine ⟨2 * root + 1,.inl rfl,hch,fun d hd hd2=>?_,.inr ⟨rfl,fun h h3=>h2 ⟨h,h3⟩⟩⟩
   rcases hd with rfl | rfl
   ·exact hc.ord.irr _
   ·exact fun h3=>h2 ⟨hd2,h3⟩
 have lc2:=hc.run (M.getD (a + root) default) (M.getD (a + c) default) (hGM _ (aJ (by omega))) (hGM _ (aJ (by omega)))
 have e1:=hc.dat (M.getD (a + root) default)
 have e2:=hc.dat (M.getD (a + c) default)
 generalize hK2:K (M.getD (a + root) default) (M.getD (a + c) default)=k2 at lc2
 refine fj ?_
 refine bq (fun T H'' nx''=>T 0=.msl b (n * 2) 2 0 n∧T 2=.int .i64 hi∧T 3=.int .i64 a∧T 4=.func g caps∧T 10=.int .i64 (root:Nat)∧T 11=.int .i64 ((2 * root + 1:Nat):Int)∧H''=al H b (M.c2 f)∧nx'=nx'') ?_ ?_
 ·(have zz:=aI @w1 @tch; repeat' (first | apply a_n | refine zO ?_ | refine vZ ?_ | fail)) <;> (try clear zz)
  exact ⟨rfl,rfl,rfl,rfl,rfl,rfl,rfl,rfl⟩
 rintro T _ _ ⟨t0,t2,t3,t4,t10,t11,rfl,rfl⟩
 refine bq (fun T H'' nx''=>T 0=.msl b (n * 2) 2 0 n∧T 2=.int .i64 hi∧T 3=.int .i64 a∧T 4=.func g caps∧T 10=.int .i64 (root:Nat)∧T 11=.int .i64 ((2 * root + 1:Nat):Int)∧H''=al H b (M.c2 f)∧nx'=nx'') ?_ ?_
 ·(have zz:=aI @t0 (aI @t2 (aI @t3 (aI @t4 (aI @t10 @t11)))); repeat' (first | refine zW ?_ | apply a_n | refine zO ?_ | refine vZ ?_ | (refine zGZ ?_ ?_ <;> (intro _hg; try (exfalso; omega))) | fail)) <;> (try clear zz)
  all_goals exact ⟨(have zz:=@t0; evZ),(have zz:=@t2; evZ),(have zz:=@t3; evZ),(have zz:=@t4; evZ),(have zz:=@t10; evZ),(have zz:=@t11; evZ),rfl,rfl⟩
 clear t0 t2 t3 t4 t10 t11
 rintro T _ _ ⟨t0,t2,t3,t4,t10,t11,rfl,rfl⟩
 refine bq (fun T H'' nx''=>T 0=.msl b (n * 2) 2 0 n∧T 2=.int .i64 hi∧T 3=.int .i64 a∧T 4=.func g caps∧T 10=.int .i64 (root:Nat)∧T 11=.int .i64 (c:Nat)∧H''=al H b (M.c2 f)∧nx'=nx'') ?_ ?_
 ·by_cases h2:2 * root + 1 + 1 < hi
  ·have lc1:=hc.run (M.getD (a + (2 * root + 1)) default) (M.getD (a + (2 * root + 1 + 1)) default) (hGM _ (aJ (by omega))) (hGM _ (aJ (by omega)))
   have e3:=hc.dat (M.getD (a + (2 * root + 1)) default)
   have e4:=hc.dat (M.getD (a + (2 * root + 1 + 1)) default)
   generalize hK1:K (M.getD (a + (2 * root + 1)) default) (M.getD (a + (2 * root + 1 + 1)) default)=k1 at lc1 hsel
   have hlt:decide (((2 * root + 1 + 1:Nat):Int) < (hi:Int))=true:=decide_eq_true (by omega)
   generalize 2 * root + 1=ch at *
   rcases hsel with ⟨rfl,hk1⟩ | ⟨rfl,hk1⟩
   ·(have zz:=aI @t0 (aI @t2 (aI @t3 (aI @t4 (aI @t10 (aI @t11 (aI @tch2 (aI @hlt (aI @dB (aI @jq (aI (b4 hc.len) (aI (aZ hc.len) (aI @aP (aI hc.agg hc.ones))))))))))))); repeat' (first | refine zW ?_ | refine zM ?_ | apply a_n | refine zO ?_ | refine vZ ?_ | refine cZ ?_ (hp:=lc1) (hs:=by (first | refine aa ?_ rfl | apply ae); (repeat' (first | exact ab | apply ah | apply af | exact e3 | exact e4 | exact aC dcap)); first | done | fail) | refine gTZ ?_ | (refine zGZ ?_ ?_ <;> (intro _hg; try (exfalso; omega))) | fail)) <;> (try clear zz)
    all_goals exact ⟨(have zz:=@t0; evZ),(have zz:=@t2; evZ),(have zz:=@t3; evZ),(have zz:=@t4; evZ),(have zz:=@t10; evZ),(have zz:=@t11; evZ),rfl,rfl⟩
   ·have hk1:=hk1 h2
    (have zz:=aI @t0 (aI @t2 (aI @t3 (aI @t4 (aI @t10 (aI @t11 (aI @tch2 (aI @hlt (aI @dB (aI @jq (aI (b4 hc.len) (aI (aZ hc.len) (aI @aP (aI hc.agg hc.ones))))))))))))); repeat' (first | refine zW ?_ | refine zM ?_ | apply a_n | refine zO ?_ | refine vZ ?_ | refine cZ ?_ (hp:=lc1) (hs:=by (first | refine aa ?_ rfl | apply ae); (repeat' (first | exact ab | apply ah | apply af | exact e3 | exact e4 | exact aC dcap)); first | done | fail) | refine gTZ ?_ | (refine zGZ ?_ ?_ <;> (intro _hg; try (exfalso; omega))) | fail)) <;> (try clear zz)
    all_goals exact ⟨(have zz:=@t0; evZ),(have zz:=@t2; evZ),(have zz:=@t3; evZ),(have zz:=@t4; evZ),(have zz:=@t10; evZ),(have zz:=@t11; evZ),rfl,rfl⟩
  ·have hlt:decide (((2 * root + 1 + 1:Nat):Int) < (hi:Int))=false:=decide_eq_false (by omega)
   have hcc:c=2 * root + 1:=by
    rcases hsel with ⟨rfl,_⟩ | ⟨rfl,_⟩
    ·omega
    ·rfl
   subst hcc
   (have zz:=aI @t0 (aI @t2 (aI @t3 (aI @t4 (aI @t10 (aI @t11 (aI @tch2 @hlt)))))); repeat' (first | refine zW ?_ | refine zM ?_ | apply a_n | refine zO ?_ | refine vZ ?_ | refine gFZ ?_ | refine cFZ ?_ | fail)) <;> (try clear zz)
   all_goals exact ⟨(have zz:=@t0; evZ),(have zz:=@t2; evZ),(have zz:=@t3; evZ),(have zz:=@t4; evZ),(have zz:=@t10; evZ),(have zz:=@t11; evZ),rfl,rfl⟩
 clear t0 t2 t3 t4 t10 t11 hsel
 rintro T _ _ ⟨t0,t2,t3,t4,t10,t11,rfl,rfl⟩
 by_cases hk2:k2 < 0
 ·obtain ⟨M1,hl1,lm1,lm2,c1,c2,c3,c4⟩:=bB (f:=f) hc.len (M:=M) (i:=a + root) (j:=a + c) (by omega) (by omega)
  have lm3:=lm2
  simp only [bu] at lm1 lm2
  (have zz:=aI @t0 (aI @t2 (aI @t3 (aI @t4 (aI @t10 (aI @t11 (aI @dB (aI @lm1 (aI @lm2 (aI (b4 hc.len) (aI (aZ hc.len) (aI @aP (aI hc.agg hc.ones)))))))))))); repeat' (first | refine zW ?_ | refine zM ?_ | apply a_n | refine zO ?_ | refine vZ ?_ | refine cZ ?_ (hp:=lc2) (hs:=by (first | refine aa ?_ rfl | apply ae); (repeat' (first | exact ab | apply ah | apply af | exact e1 | exact e2 | exact aC dcap)); first | done | fail) | refine stZ ?_ | (refine zGZ ?_ ?_ <;> (intro _hg; try (exfalso; omega))) | fail)) <;> (try clear zz)
  have hrc:root < c:=by unfold Kid at hkid; omega
  have hcn:c < n:=by omega
  refine ⟨(c,swp M (a + root) (a + c)),by dsimp only; omega,⟨by dsimp only; omega,?_,rfl,hp.trans (PermR.swap (by omega) (by omega) (by omega)),hs.step hc.ord hkid hchi (by omega) hbest (by rw [hK2]; exact hk2)⟩,(have zz:=aI @t0 (aI @t2 (aI @t3 @t4)); agZ)⟩
  dsimp only
  rw [az,az,lm3]
 ·(have zz:=aI @t0 (aI @t2 (aI @t3 (aI @t4 (aI @t10 (aI @t11 (aI @dB (aI (b4 hc.len) (aI (aZ hc.len) (aI @aP (aI hc.agg hc.ones)))))))))); repeat' (first | refine zW ?_ | refine zM ?_ | apply a_n | apply a_r | refine zO ?_ | refine vZ ?_ | refine cZ ?_ (hp:=lc2) (hs:=by (first | refine aa ?_ rfl | apply ae); (repeat' (first | exact ab | apply ah | apply af | exact e1 | exact e2 | exact aC dcap)); first | done | fail) | (refine zGZ ?_ ?_ <;> (intro _hg; try (exfalso; omega))) | refine ag rfl ?_ | fail)) <;> (try clear zz)
  exact ⟨rfl,M,rfl,hp,hs.stop hc.ord hbest (by rw [hK2]; exact hk2)⟩
end
end Go.Proofs.YtbgdcebmgjafjaaGreat
namespace Go.Proofs.YtbgdcebmgjafjaaGreat
open Go Go.Abs
open Nat (reduceEqDiff reduceAdd reduceLeDiff)
section
variable {α:Type} [Inhabited α] {f:α→AV} {K:α→α→Int} {G:α→Prop} {g:Nat} {caps:List AV}
attribute [local irreducible] aD ai bd bg aQ aV aA aU bj bD Go.Abs.Fn be Go.Abs.Pure aB aK Yl
theorem vv (hc:Cmp2 Tryz.prog f K G g caps) {L:List α} {H:Hp} {b nx n a e:Nat} (hH:H b=some (L.c2 f)) (hn:L.length=n) (hG:∀ x ∈ L,G x) (hae:a ≤ e) (hen:e ≤ n) (hn2:n ≤ 1000000000) :
    Abs.Fn Tryz.prog 133 [.msl b (n * 2) 2 0 n,.int .i64 a,.int .i64 e,.func g caps] H nx fun r H' nx'=>nx'=nx∧∃ L',H'=al H b (L'.c2 f)∧PermR a e L L'∧aM K a e L':=by
 obtain ⟨h,rfl⟩:∃ h,e=a + h:=⟨e - a,by omega⟩
 refine Abs.Fn.of_c2 follows xN (Nat.le_of_ble_eq_true rfl) ?_
 simp only [v8,cO,cG,cN,cM,cD,cF,cB,ap,aH]
 have dcap:=hc.dcaps
 have te:((a + h:Nat):Int) - (a:Int)=(h:Int):=by omega
 obtain ⟨r,tr,hr,hrn⟩:∃ r:Nat,aO .quo false false (.int .i64 ((h:Int) - 1)) (.int .i64 2)=some (.int .i64 (r:Int))∧h ≤ 2 * (r + 1) + 1∧r ≤ h:=by
  rcases Nat.eq_zero_or_pos h with e | e
  ·subst e; exact ⟨0,rfl,by omega,by omega⟩
  ·refine ⟨(h - 1) / 2,?_,by omega,by omega⟩
   rw [jX (by omega) (by omega) (by omega)]
   congr 2
   omega
 (have zz:=aI @te @tr; repeat' (first | refine zW ?_ | apply a_n | refine zO ?_ | refine vZ ?_ | fail)) <;> (try clear zz)
 refine aY (X:=Nat × List α) (fun x=>[(0,.msl b (n * 2) 2 0 n),(1,.int .i64 a),(3,.func g caps),(8,.int .i64 a),(9,.int .i64 0),(10,.int .i64 h),(11,.int .i64 ((x.1:Nat) - 1))]) (fun x H' nxx=>x.1 ≤ n + 1∧H'=al H b (x.2.c2 f)∧nx=nxx∧PermR a (a + h) L x.2∧d3 K a h x.1 x.2) (fun x=>x.1) (r + 1,L) ⟨by dsimp only; omega,gl hH,rfl,.refl,d3.start (by dsimp only; omega)⟩ (by simp (disch:=omega) only [agr,ZG,reduceEqDiff,↓reduceIte,Int.add_sub_cancel]) ?_
 rintro ⟨i,M⟩ H' nxx ⟨h1,rfl,rfl,hp,hh⟩
 dsimp only at *
 have hl:M.length=n:=by rw [hp.len,hn]
 have hGM:=hp.mem hG
 rcases Nat.eq_zero_or_pos i with e | e
 ·subst e
  (have zz:=and_self; repeat' (first | refine zW ?_ | apply a_n | apply a_x | refine zO ?_ | refine vZ ?_ | (refine zGZ ?_ ?_ <;> (intro _hg; try (exfalso; omega))) | fail)) <;> (try clear zz)
  clear hGM
  refine aY (X:=Nat × List α) (fun x=>[(0,.msl b (n * 2) 2 0 n),(3,.func g caps),(8,.int .i64 a),(9,.int .i64 0),(12,.int .i64 ((x.1:Nat) - 1))]) (fun x H' nxx'=>x.1 ≤ h∧H'=al H b (x.2.c2 f)∧nx=nxx'∧PermR a (a + h) L x.2∧d3 K a x.1 0 x.2∧TailR K a (a + h) (a + x.1) x.2) (fun x=>x.1) (h,M) ⟨Nat.le_refl _,rfl,rfl,hp,hh,.start⟩ (by simp (disch:=omega) only [agr,ZG,reduceEqDiff,↓reduceIte,Int.add_sub_cancel]) ?_
  clear hp hh hl
  rintro ⟨i,M⟩ H' nxx ⟨h1,rfl,rfl,hp,hh,ht⟩
  dsimp only at *
  have hl:M.length=n:=by rw [hp.len,hn]
  have hGM:=hp.mem hG
  rcases Nat.eq_zero_or_pos i with e | e
  ·subst e
   (have zz:=and_self; repeat' (first | refine zW ?_ | apply a_n | apply a_x | refine zO ?_ | refine vZ ?_ | (refine zGZ ?_ ?_ <;> (intro _hg; try (exfalso; omega))) | refine ag rfl ?_ | fail)) <;> (try clear zz)
   exact ⟨rfl,M,rfl,hp,ht.done⟩
  ·obtain ⟨k,rfl⟩:∃ k,i=k + 1:=⟨i - 1,by omega⟩
   have tj:((k + 1:Nat):Int) - 1=(k:Int):=by omega
   obtain ⟨M1,hl1,lm1,lm2,c1,c2,c3,c4⟩:=bB (f:=f) hc.len (M:=M) (i:=a) (j:=a + k) (by omega) (by omega)
   have lm3:=lm2
   simp only [bu] at lm1 lm2
   have hp1:PermR a (a + h) L (swp M a (a + k)):=hp.trans (PermR.swap (by omega) (by omega) (by omega))
   have hsl:(swp M a (a + k)).length=n:=by rw [hp1.len,hn]
   (have zz:=aI @tj (aI @dB (aI @lm1 (aI @lm2 (aI (b4 hc.len) (aI (aZ hc.len) (aI @aP (aI hc.agg hc.ones))))))); repeat' (first | refine zW ?_ | apply a_n | refine zO ?_ | refine vZ ?_ | refine stZ ?_ | (refine zGZ ?_ ?_ <;> (intro _hg; try (exfalso; omega))) | fail)) <;> (try clear zz)
   refine a8 ev0 (have zz:=aI @tj @Int.natCast_zero; evZ) (sy hc (b:=b) (L:=swp M a (a + k)) (a:=a) (lo:=0) (hi:=k) (by rw [az,az,ar,← lm3]) hsl (hp1.mem hG) (by omega) (by omega) (by omega) (hh.swapTop (by omega))) ?_
   rintro _ _ _ ⟨rfl,N,rfl,hpN,hhN⟩
   (have zz:=@tj; repeat' (first | apply a_n | refine zO ?_ | refine vZ ?_ | fail)) <;> (try clear zz)
   exact ⟨(k,N),by dsimp only; omega,⟨by dsimp only; omega,by dsimp only; rw [az,az,az],rfl,hp1.trans (hpN.mono (Nat.le_refl _) (by omega)),hhN,ht.step hc.ord hh (by omega) (by omega) hpN⟩,ag0⟩
 ·obtain ⟨k,rfl⟩:∃ k,i=k + 1:=⟨i - 1,by omega⟩
  have tj:((k + 1:Nat):Int) - 1=(k:Int):=by omega
  (have zz:=@tj; repeat' (first | refine zW ?_ | apply a_n | refine zO ?_ | refine vZ ?_ | (refine zGZ ?_ ?_ <;> (intro _hg; try (exfalso; omega))) | fail)) <;> (try clear zz)
  refine a8 ev0 ev0 (sy hc (L:=M) (a:=a) (lo:=k) (hi:=h) ar hl hGM (by omega) (by omega) (by omega) hh) ?_
  rintro _ _ _ ⟨rfl,N,rfl,hpN,hhN⟩
  (have zz:=@tj; repeat' (first | apply a_n | refine zO ?_ | refine vZ ?_ | fail)) <;> (try clear zz)
  exact ⟨(k,N),by dsimp only; omega,⟨by dsimp only; omega,by dsimp only; rw [az],rfl,hp.trans hpN,hhN⟩,ag0⟩
end
end Go.Proofs.YtbgdcebmgjafjaaGreat
namespace Go.Proofs.YtbgdcebmgjafjaaGreat
open Go Go.Abs
section
variable {α:Type} [Inhabited α] {f:α→AV} {K:α→α→Int} {G:α→Prop} {g:Nat} {caps:List AV}
attribute [local irreducible] aD ai bd bg aQ aV aA aU bj bD Go.Abs.Fn be Go.Abs.Pure aB aK Yl
theorem wJ (hc:Cmp2 Tryz.prog f K G g caps) {L:List α} {H:Hp} {b nx n a e:Nat} (hH:H b=some (L.c2 f)) (hn:L.length=n) (hae:a < e) (hen:e ≤ n) (hn2:n ≤ 1000000000) :
    Abs.Fn Tryz.prog 136 [.msl b (n * 2) 2 0 n,.int .i64 a,.int .i64 e,.func g caps] H nx fun r H' nx'=>nx'=nx∧∃ L',H'=al H b (L'.c2 f)∧PermR a e L L':=by
 obtain ⟨m,rfl⟩:∃ m,e=m + 1:=⟨e - 1,by omega⟩
 have te:((m + 1:Nat):Int) - 1=(m:Int):=by omega
 refine Abs.Fn.of_c2 follows w9 (Nat.le_of_ble_eq_true rfl) ?_
 simp only [ws,cO,cG,cN,cM,cD,cF,cB,ap,aH]
 (have zz:=@te; repeat' (first | refine zW ?_ | apply a_n | refine zO ?_ | refine vZ ?_ | fail)) <;> (try clear zz)
 refine aY (X:=Nat × Nat × List α) (fun x=>[(0,.msl b (n * 2) 2 0 n),(8,.int .i64 (x.1:Nat)),(9,.int .i64 (x.2.1:Nat))]) (fun x H' nxx=>a ≤ x.1∧x.2.1 ≤ m∧H'=al H b (x.2.2.c2 f)∧nx=nxx∧PermR a (m + 1) L x.2.2) (fun x=>x.2.1) (a,m,L) ⟨Nat.le_refl _,Nat.le_refl _,gl hH,rfl,.refl⟩ ag0 ?_
 rintro ⟨i,j,M⟩ H' nxx ⟨h1,h2,rfl,rfl,hp⟩
 dsimp only at *
 have hl:M.length=n:=by rw [hp.len,hn]
 by_cases hij:i < j
 ·obtain ⟨k,rfl⟩:∃ k,j=k + 1:=⟨j - 1,by omega⟩
  have tj:((k + 1:Nat):Int) - 1=(k:Int):=by omega
  have ti:((i:Nat):Int) + 1=((i + 1:Nat):Int):=by omega
  obtain ⟨M1,hl1,lm1,lm2,c1,c2,c3,c4⟩:=bB (f:=f) hc.len (M:=M) (i:=i) (j:=k + 1) (by omega) (by omega)
  have lm3:=lm2
  simp only [bu] at lm1 lm2
  (have zz:=aI @tj (aI @ti (aI @lm1 (aI @lm2 (aI (b4 hc.len) (aI (aZ hc.len) (aI @aP (aI hc.agg hc.ones))))))); repeat' (first | refine zW ?_ | apply a_n | refine zO ?_ | refine vZ ?_ | refine stZ ?_ | (refine zGZ ?_ ?_ <;> (intro _hg; try (exfalso; omega))) | fail)) <;> (try clear zz)
  exact ⟨(i + 1,k,swp M i (k + 1)),by dsimp only; omega,⟨by dsimp only; omega,by dsimp only; omega,by dsimp only; rw [az,az,lm3],rfl,hp.trans (PermR.swap (by omega) (by omega) (by omega))⟩,ag0⟩
 ·(have zz:=and_self; repeat' (first | refine zW ?_ | apply a_n | apply a_x | refine zO ?_ | refine vZ ?_ | (refine zGZ ?_ ?_ <;> (intro _hg; try (exfalso; omega))) | refine ag rfl ?_ | fail)) <;> (try clear zz)
  exact ⟨rfl,M,rfl,hp⟩
theorem kA (hc:Cmp2 Tryz.prog f K G g caps) {L:List α} {H:Hp} {b c nx n i j s:Nat} (hH:H b=some (L.c2 f)) (hcc:H c=some [.int .i64 (s:Nat)]) (hn:L.length=n) (hG:∀ x ∈ L,G x) (hi:i < n) (hj:j < n) (hn2:n ≤ 1000000000) (hs:s ≤ 100) :
    Abs.Fn Tryz.prog 158 [.msl b (n * 2) 2 0 n,.int .i64 i,.int .i64 j,.ptr c 1 0,.func g caps] H nx fun r H' nx'=>nx'=nx∧∃ i' j' s':Nat,r=.tup [.int .i64 i',.int .i64 j']∧((i'=i∧j'=j) ∨ (i'=j∧j'=i))∧s' ≤ s + 1∧H'=al H c [.int .i64 s']:=by
 refine Abs.Fn.of_c2 follows wW (Nat.le_of_ble_eq_true rfl) ?_
 simp only [xk,cO,cG,cN,cM,cD,cF,cB,ap,aH]
 have dcap:=hc.dcaps
 have lc:=hc.run (L.getD j default) (L.getD i default) (hG _ (aJ (by omega))) (hG _ (aJ (by omega)))
 have e1:=hc.dat (L.getD j default)
 have e2:=hc.dat (L.getD i default)
 have ts:((s:Nat):Int) + 1=((s + 1:Nat):Int):=by omega
 have ls:∀ x y:AV,bu [x] 0 [y]=[y]:=fun _ _=>rfl
 simp only [bu,List.length_cons,List.length_nil,Nat.zero_add] at ls
 generalize hKK:K (L.getD j default) (L.getD i default)=kk at lc
 by_cases hlt:kk < 0
 ·(have zz:=aI @hH (aI @hcc (aI @Int.toNat_natCast (aI (b4 hc.len) (aI (aZ hc.len) (aI @aP (aI hc.agg (aI hc.ones (aI @ts (aI @ls @SV3))))))))); repeat' (first | refine zW ?_ | refine zM ?_ | apply a_n | apply a_r | refine zO ?_ | refine vZ ?_ | refine cZ ?_ (hp:=lc) (hs:=by (first | refine aa ?_ rfl | apply ae); (repeat' (first | exact ab | apply ah | apply af | exact e1 | exact e2 | exact aC dcap)); first | done | fail) | refine stZ ?_ | (refine zGZ ?_ ?_ <;> (intro _hg; try (exfalso; omega))) | refine ag rfl ?_ | refine r2Z ?_ | fail)) <;> (try clear zz)
  exact ⟨rfl,j,i,s + 1,rfl,.inr ⟨rfl,rfl⟩,Nat.le_refl _,rfl⟩
 ·(have zz:=aI @hH (aI @hcc (aI @Int.toNat_natCast (aI (b4 hc.len) (aI (aZ hc.len) (aI @aP (aI hc.agg hc.ones)))))); repeat' (first | refine zW ?_ | refine zM ?_ | apply a_n | refine zO ?_ | refine vZ ?_ | refine cZ ?_ (hp:=lc) (hs:=by (first | refine aa ?_ rfl | apply ae); (repeat' (first | exact ab | apply ah | apply af | exact e1 | exact e2 | exact aC dcap)); first | done | fail) | (refine zGZ ?_ ?_ <;> (intro _hg; try (exfalso; omega))) | refine ag rfl ?_ | refine r2Z ?_ | fail)) <;> (try clear zz)
  exact ⟨rfl,i,j,s,rfl,.inl ⟨rfl,rfl⟩,Nat.le_succ _,gl hcc⟩
end
end Go.Proofs.YtbgdcebmgjafjaaGreat