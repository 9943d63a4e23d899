/- Texts of this claim, one after the other: Code, U1, T100, T101, T102, T103, T104, T105, T108, U2s, U3s, U4s, U5s, U6s, U7s. -/
import Derived.Test.YtfcenbapjhecfaaProg
import Derived.Test.YtfcenbapjhecfaaXG3
import Derived.KernelRfl

set_option linter.unusedSimpArgs false
set_option linter.unusedVariables false
namespace Go.Proofs.Ytfcenbapjhecfaa
open Go Go.Abs Go.Abs.C2 Go.Abs.Ins Go.Abs.Opd Go.Abs.TK Go.Abs.MK
def cO (d:Nat) (i:Ins):Op2:=Op2.mk (some d) none i
def cG (d g:Nat) (b:Bool) (i:Ins):Op2:=Op2.mk (some d) (some (g,b)) i
def cN (k:Int):Opd:=Opd.c (AV.int IntKind.i64 k)
def cM (n:Nat):Ins:=Ins.mov (Opd.t n)
def cD (n:Nat):Ins:=Ins.ld1 (Opd.t n)
def cF (n:Nat):Opd:=Opd.c (AV.func n [])
def cB (o:BinOp) (x y:Opd):Ins:=Ins.bin o false false x y
def aB:Opd:=Opd.c (AV.bool false)
def aS:Opd:=Opd.c (AV.bool true)
theorem follows:Try.prog.follows .mixedOrders=true:=by rfl
def b3:F2:=(F2.mk 45 [RV.t 4] ((ops 0 [cO 4 (mov aB)]).seq (((ops 0 [cO 9 (cM 0),cO 10 (cM 1),cO 11 (bldS 1 2 [AV.esl] [(0,1,t 9),(1,1,t 10)]),cO 12 (call (cF 10) [t 11]),cO 13 (un UnOp.not (t 12))]).seq (C2.cond (t 13) ((ops 0 [cO 14 (call (cF 11) []),cO 4 (cM 14)]).seq ret) skip)).seq ((ops 0 [cO 16 (cM 0),cO 17 (cM 1),cO 18 (call (cF 12) [t 16,t 17]),cO 15 (cM 18),cO 19 (ext (t 15) 0),cO 20 (ext (t 15) 1),cO 5 (cM 19),cO 6 (cM 20)]).seq ((ops 0 [cO 22 (cM 0),cO 23 (cM 1),cO 24 (call (cF 13) [t 22,t 23]),cO 21 (cM 24),cO 25 (ext (t 21) 0),cO 26 (ext (t 21) 1),cO 7 (cM 25),cO 8 (cM 26)]).seq ((ops 0 [cO 27 (call (cF 11) []),cO 28 (cM 27),cG 29 28 true (cM 0),cG 30 28 true (call (cF 14) [t 29]),cG 31 28 true (cM 0),cG 32 28 true (call (cF 15) [t 31]),cG 33 28 true (cB .eql (t 30) (t 32)),cO 34 (pick (t 28) (t 33) aB),cO 35 (cM 34),cG 36 35 true (cM 5),cG 37 35 true (cM 7),cG 38 35 true (call (cF 16) [t 36,t 37]),cO 39 (pick (t 35) (t 38) aB),cO 40 (cM 39),cG 41 40 true (cM 6),cG 42 40 true (cM 8),cG 43 40 true (cB .eql (t 41) (t 42)),cO 44 (pick (t 40) (t 43) aB),cO 4 (cM 44)]).seq ret))))))
def b9:F2:=(F2.mk 109 [RV.t 4] ((ops 0 [cO 2 (box (t 0)),cO 4 (mov aB)]).seq ((ops 0 [cO 18 (cM 1),cO 19 (cB .rem (t 18) (c (AV.int IntKind.u8 (3)))),cO 20 (conv IntKind.i64 (t 19)),cO 21 (cB .add (t 20) (cN 1)),cO 5 (cM 21)]).seq (((ops 0 [cO 22 (ldn 1 (t 2)),cO 23 (call (cF 21) [t 22]),cO 24 (un UnOp.not (t 23)),cO 25 (cM 24),cG 26 25 false (ldn 1 (t 2)),cG 27 25 false (call (cF 30) [t 26]),cG 28 25 false (cB .neq (t 27) (cN 0)),cO 29 (pick (t 25) aS (t 28))]).seq (C2.cond (t 29) ((ops 0 [cO 30 (call (cF 11) []),cO 4 (cM 30)]).seq ret) skip)).seq ((ops 0 [cO 32 (ldn 1 (t 2)),cO 33 (cM 5),cO 34 (call (cF 22) [t 32,t 33]),cO 31 (cM 34),cO 35 (ext (t 31) 0),cO 36 (ext (t 31) 1),cO 6 (alloc (AV.agg [AV.int IntKind.i64 (0),AV.esl])),Op2.mk none none (Ins.st 2 (t 6) (t 35)),cO 7 (cM 36)]).seq ((ops 0 [cO 38 (ldn 1 (t 2)),cO 39 (cM 5),cO 40 (cB .add (t 39) (cN 1)),cO 41 (call (cF 22) [t 38,t 40]),cO 37 (cM 41),cO 42 (ext (t 37) 0),cO 43 (ext (t 37) 1),cO 8 (alloc (AV.agg [AV.int IntKind.i64 (0),AV.esl])),Op2.mk none none (Ins.st 2 (t 8) (t 42)),cO 9 (cM 43)]).seq ((ops 0 [cO 45 (ldn 2 (t 6)),cO 46 (ldn 2 (t 8)),cO 47 (call (cF 32) [t 45,t 46]),cO 44 (cM 47),cO 48 (ext (t 44) 0),cO 49 (ext (t 44) 1),cO 10 (alloc (AV.agg [AV.int IntKind.i64 (0),AV.esl])),Op2.mk none none (Ins.st 2 (t 10) (t 48)),cO 11 (cM 49)]).seq ((ops 0 [cO 51 (ldn 2 (t 6)),cO 52 (call (cF 33) [t 51]),cO 50 (cM 52),cO 53 (ext (t 50) 0),cO 54 (ext (t 50) 1),cO 12 (alloc (AV.agg [AV.int IntKind.i64 (0),AV.esl])),Op2.mk none none (Ins.st 2 (t 12) (t 53)),cO 13 (cM 54)]).seq (((mixS 1 [cO 55 (cM 7),cO 56 (cM 9),cO 57 (cB .add (t 55) (t 56)),cO 58 (cM 11),cO 59 (cB .add (t 57) (t 58)),cO 60 (cM 13),cO 61 (cB .add (t 59) (t 60)),cO 62 (cB .neq (t 61) (cN 0)),cO 63 (cM 62),cG 64 63 false (fa 1 (t 12)),cG 65 63 false (cD 64),cG 66 63 false (lenS (t 65)),cG 67 63 false (ldn 1 (t 2)),cG 68 63 false (cM 5),cG 69 63 false (cB .add (t 68) (cN 1)),cG 70 63 false (call (cF 34) [t 67,t 69]),cG 71 63 false (lenS (t 70)),cG 72 63 false (cB .neq (t 66) (t 71)),cO 73 (pick (t 63) aS (t 72)),cO 74 (cM 73),cG 75 74 false (fa 0 (t 8)),cG 76 74 false (cD 75),cG 77 74 false (ldn 1 (t 2)),cG 78 74 false (cM 5),cG 79 74 false (cB .add (t 78) (cN 2)),cG 80 74 false (call (cF 34) [t 77,t 79]),cG 81 74 false (lenS (t 80)),cG 82 74 false (cB .neq (t 76) (t 81)),cO 83 (pick (t 74) aS (t 82))] [(0,0),(1,0),(2,0),(3,0),(4,0),(5,0),(6,0),(7,0),(8,0),(9,0),(10,0),(11,0),(12,0),(13,0),(14,0),(15,1),(16,0),(17,0),(18,0),(19,0),(20,0),(21,0),(22,0),(23,0),(24,0),(25,1),(26,0),(27,0),(28,0)]).seq (C2.cond (t 83) ((ops 0 [cO 4 (mov aB)]).seq ret) skip)).seq (((ops 0 [cO 84 (fa 1 (t 10)),cO 85 (cD 84),cO 86 (lenS (t 85)),cO 87 (mov (cN 0))]).seq (block 0 ((ops 0 [cO 88 (cB .lss (t 87) (t 86))]).seq ((C2.cond (t 88) skip (exit 0)).seq ((block 1 ((ops 0 [cO 89 (ixaS 1 (t 85) (t 87)),cO 90 (cD 89),cO 15 (cM 90)]).seq ((ops 0 [cO 91 (cM 15),cO 92 (lenS (t 91)),cO 93 (cB .gtr (t 92) (cN 0))]).seq (C2.cond (t 93) ((ops 0 [cO 4 (mov aB)]).seq ret) skip)))).seq (ops 0 [cO 94 (cB .add (t 87) (cN 1)),cO 87 (cM 94)])))).loop)).seq (((ops 0 [cO 95 (fa 1 (t 12)),cO 96 (cD 95),cO 97 (lenS (t 96)),cO 98 (mov (cN 0))]).seq (block 2 ((ops 0 [cO 99 (cB .lss (t 98) (t 97))]).seq ((C2.cond (t 99) skip (exit 2)).seq ((block 3 ((ops 0 [cO 100 (ixaS 1 (t 96) (t 98)),cO 101 (cD 100),cO 17 (cM 101)]).seq ((ops 0 [cO 102 (cM 17),cO 103 (lenS (t 102)),cO 104 (cM 5),cO 105 (cB .add (t 104) (cN 1)),cO 106 (cB .neq (t 103) (t 105))]).seq (C2.cond (t 106) ((ops 0 [cO 4 (mov aB)]).seq ret) skip)))).seq (ops 0 [cO 107 (cB .add (t 98) (cN 1)),cO 98 (cM 107)])))).loop)).seq ((ops 0 [cO 108 (call (cF 11) []),cO 4 (cM 108)]).seq ret))))))))))))
theorem is9:Is Try.prog 9 b9:=Is.mk' Try.func9 (by kernel_rfl)
def b11:F2:=(F2.mk 144 [RV.t 0] ((ops 0 [cO 0 (mov aB)]).seq ((ops 0 [cO 13 (bldS 1 3 [AV.int IntKind.i64 (0)] [(0,1,cN ((0))),(1,1,cN ((1))),(2,1,cN ((2)))]),cO 14 (call (cF 36) [t 13]),cO 15 (bldS 1 2 [AV.int IntKind.i64 (0)] [(0,1,cN ((2))),(1,1,cN ((3)))]),cO 16 (call (cF 36) [t 15]),cO 17 (bldS 1 2 [AV.esl] [(0,1,t 14),(1,1,t 16)]),cO 18 (bld [AV.esl] [(0,1,t 17)]),cO 1 (alloc (AV.agg [AV.esl])),Op2.mk none none (Ins.st 1 (t 1) (t 18))]).seq ((ops 0 [cO 20 (bldS 1 3 [AV.int IntKind.i64 (0)] [(0,1,cN ((0))),(1,1,cN ((1))),(2,1,cN ((2)))]),cO 21 (call (cF 36) [t 20]),cO 22 (bldS 1 1 [AV.esl] [(0,1,t 21)]),cO 23 (call (cF 17) [t 22]),cO 19 (cM 23),cO 24 (ext (t 19) 0),cO 25 (ext (t 19) 1),cO 2 (cM 24),cO 3 (cM 25)]).seq ((ops 0 [cO 27 (cM 2),cO 28 (call (cF 19) [t 27]),cO 26 (cM 28),cO 29 (ext (t 26) 0),cO 30 (ext (t 26) 1),cO 4 (cM 29),cO 5 (cM 30)]).seq ((ops 0 [cO 32 (bldS 1 2 [AV.int IntKind.i64 (0)] [(0,1,cN ((0))),(1,1,cN ((1)))]),cO 33 (call (cF 36) [t 32]),cO 34 (bldS 1 2 [AV.int IntKind.i64 (0)] [(0,1,cN ((1))),(1,1,cN ((2)))]),cO 35 (call (cF 36) [t 34]),cO 36 (bldS 1 2 [AV.esl] [(0,1,t 33),(1,1,t 35)]),cO 37 (call (cF 17) [t 36]),cO 31 (cM 37),cO 38 (ext (t 31) 0),cO 39 (ext (t 31) 1),cO 6 (cM 38),cO 7 (cM 39)]).seq ((ops 0 [cO 41 (bldS 1 2 [AV.int IntKind.i64 (0)] [(0,1,cN ((0))),(1,1,cN ((1)))]),cO 42 (call (cF 36) [t 41]),cO 43 (bldS 1 2 [AV.int IntKind.i64 (0)] [(0,1,cN ((1))),(1,1,cN ((2)))]),cO 44 (call (cF 36) [t 43]),cO 45 (bldS 1 2 [AV.esl] [(0,1,t 42),(1,1,t 44)]),cO 46 (bldS 1 2 [AV.int IntKind.i64 (0)] [(0,1,cN ((1))),(1,1,cN ((2)))]),cO 47 (call (cF 36) [t 46]),cO 48 (bldS 1 2 [AV.int IntKind.i64 (0)] [(0,1,cN ((2))),(1,1,cN ((3)))]),cO 49 (call (cF 36) [t 48]),cO 50 (bldS 1 2 [AV.esl] [(0,1,t 47),(1,1,t 49)]),cO 51 (call (cF 12) [t 45,t 50]),cO 40 (cM 51),cO 52 (ext (t 40) 0),cO 53 (ext (t 40) 1),cO 8 (cM 52),cO 9 (cM 53)]).seq (((ops 0 [cO 54 (cM 3),cO 55 (cM 5),cO 56 (cB .add (t 54) (t 55)),cO 57 (cM 7),cO 58 (cB .add (t 56) (t 57)),cO 59 (cM 9),cO 60 (cB .add (t 58) (t 59)),cO 61 (cB .neq (t 60) (cN 0)),cO 62 (cM 61),cG 63 62 false (cM 4),cG 64 62 false (un UnOp.not (t 63)),cO 65 (pick (t 62) aS (t 64)),cO 66 (cM 65),cG 67 66 false (cM 2),cG 68 66 false (bldS 1 2 [AV.int IntKind.i64 (0)] [(0,1,cN ((0))),(1,1,cN ((1)))]),cG 69 66 false (call (cF 36) [t 68]),cG 70 66 false (bldS 1 2 [AV.int IntKind.i64 (0)] [(0,1,cN ((0))),(1,1,cN ((2)))]),cG 71 66 false (call (cF 36) [t 70]),cG 72 66 false (bldS 1 2 [AV.int IntKind.i64 (0)] [(0,1,cN ((1))),(1,1,cN ((2)))]),cG 73 66 false (call (cF 36) [t 72]),cG 74 66 false (bldS 1 3 [AV.esl] [(0,1,t 69),(1,1,t 71),(2,1,t 73)]),cG 75 66 false (call (cF 16) [t 67,t 74]),cG 76 66 false (un UnOp.not (t 75)),cO 77 (pick (t 66) aS (t 76)),cO 78 (cM 77),cG 79 78 false (cM 6),cG 80 78 false (bldS 1 1 [AV.int IntKind.i64 (0)] [(0,1,cN ((0)))]),cG 81 78 false (call (cF 36) [t 80]),cG 82 78 false (bldS 1 1 [AV.int IntKind.i64 (0)] [(0,1,cN ((2)))]),cG 83 78 false (call (cF 36) [t 82]),cG 84 78 false (bldS 1 2 [AV.esl] [(0,1,t 81),(1,1,t 83)]),cG 85 78 false (call (cF 16) [t 79,t 84]),cG 86 78 false (un UnOp.not (t 85)),cO 87 (pick (t 78) aS (t 86)),cO 88 (cM 87),cG 89 88 false (cM 8),cG 90 88 false (bldS 1 2 [AV.int IntKind.i64 (0)] [(0,1,cN ((0))),(1,1,cN ((1)))]),cG 91 88 false (call (cF 36) [t 90]),cG 92 88 false (bldS 1 2 [AV.int IntKind.i64 (0)] [(0,1,cN ((2))),(1,1,cN ((3)))]),cG 93 88 false (call (cF 36) [t 92]),cG 94 88 false (bldS 1 2 [AV.esl] [(0,1,t 91),(1,1,t 93)]),cG 95 88 false (call (cF 16) [t 89,t 94]),cG 96 88 false (un UnOp.not (t 95)),cO 97 (pick (t 88) aS (t 96))]).seq (C2.cond (t 97) ((ops 0 [cO 0 (mov aB)]).seq ret) skip)).seq ((ops 0 [cO 99 (ldn 1 (t 1)),cO 100 (call (cF 22) [t 99,cN ((1))]),cO 98 (cM 100),cO 101 (ext (t 98) 0),cO 102 (ext (t 98) 1),cO 10 (alloc (AV.agg [AV.int IntKind.i64 (0),AV.esl])),Op2.mk none none (Ins.st 2 (t 10) (t 101)),cO 3 (cM 102)]).seq ((ops 0 [cO 104 (ldn 1 (t 1)),cO 105 (call (cF 22) [t 104,cN ((2))]),cO 103 (cM 105),cO 106 (ext (t 103) 0),cO 107 (ext (t 103) 1),cO 11 (alloc (AV.agg [AV.int IntKind.i64 (0),AV.esl])),Op2.mk none none (Ins.st 2 (t 11) (t 106)),cO 5 (cM 107)]).seq ((ops 0 [cO 109 (ldn 1 (t 1)),cO 110 (cM 8),cO 111 (call (cF 25) [t 109,t 110]),cO 108 (cM 111),cO 112 (ext (t 108) 0),cO 113 (ext (t 108) 1),cO 12 (cM 112),cO 7 (cM 113)]).seq ((ops 0 [cO 114 (cM 3),cO 115 (cM 5),cO 116 (cB .add (t 114) (t 115)),cO 117 (cM 7),cO 118 (cB .add (t 116) (t 117)),cO 119 (cB .eql (t 118) (cN 0)),cO 120 (cM 119),cG 121 120 true (ldn 2 (t 10)),cG 122 120 true (bldS 1 2 [AV.int IntKind.i64 (0)] [(0,1,cN ((0))),(1,1,cN ((1)))]),cG 123 120 true (bldS 1 2 [AV.int IntKind.i64 (0)] [(0,1,cN ((0))),(1,1,cN ((2)))]),cG 124 120 true (bldS 1 3 [AV.int IntKind.i64 (0)] [(0,1,cN ((1))),(1,1,cN ((2))),(2,1,cN ((3)))]),cG 125 120 true (bldS 1 1 [AV.int IntKind.i64 (0)] [(0,1,cN ((3)))]),cG 126 120 true (bldS 1 4 [AV.esl] [(0,1,t 122),(1,1,t 123),(2,1,t 124),(3,1,t 125)]),cG 127 120 true (bld [AV.int IntKind.i64 (0),AV.esl] [(0,1,cN ((4))),(1,1,t 126)]),cG 128 120 true (call (cF 24) [t 121,t 127]),cO 129 (pick (t 120) (t 128) aB),cO 130 (cM 129),cG 131 130 true (ldn 2 (t 11)),cG 132 130 true (bldS 1 1 [AV.int IntKind.i64 (0)] [(0,1,cN ((0)))]),cG 133 130 true (bldS 1 1 [AV.int IntKind.i64 (0)] [(0,1,cN ((0)))]),cG 134 130 true (bldS 1 1 [AV.int IntKind.i64 (0)] [(0,1,cN ((0)))]),cG 135 130 true (bldS 1 4 [AV.esl] [(0,1,t 132),(1,1,t 133),(2,1,t 134),(3,1,c AV.esl)]),cG 136 130 true (bld [AV.int IntKind.i64 (0),AV.esl] [(0,1,cN ((1))),(1,1,t 135)]),cG 137 130 true (call (cF 24) [t 131,t 136]),cO 138 (pick (t 130) (t 137) aB),cO 139 (cM 138),cG 140 139 true (cM 12),cG 141 139 true (bldS 1 2 [AV.int IntKind.i64 (0)] [(0,1,cN ((0))),(1,1,cN ((3)))]),cG 142 139 true (call (cF 29) [t 140,t 141]),cO 143 (pick (t 139) (t 142) aB),cO 0 (cM 143)]).seq ret))))))))))))
theorem BB:Is Try.prog 11 b11:=Is.mk' Try.func11 (by kernel_rfl)
def b12:F2:=(F2.mk 39 [RV.t 4,RV.t 5] ((ops 0 [cO 4 (mov (c AV.esl)),cO 5 (mov (cN 0))]).seq (((ops 0 [cO 7 (cM 0),cO 8 (cM 1),cO 9 (bldS 1 2 [AV.esl] [(0,1,t 7),(1,1,t 8)]),cO 10 (call (cF 37) [t 9]),cO 6 (cM 10)]).seq ((ops 0 [cO 11 (cM 6),cO 12 (cB .neq (t 11) (cN 0))]).seq (C2.cond (t 12) ((ops 0 [cO 13 (cM 6),cO 4 (mov (c AV.esl)),cO 5 (cM 13)]).seq ret) skip))).seq (((ops 1 [cO 14 (cM 0),cO 15 (lenS (t 14)),cO 16 (cB .gtr (t 15) (cN 0)),cO 17 (cM 16),cG 18 17 true (cM 1),cG 19 17 true (lenS (t 18)),cG 20 17 true (cB .gtr (t 19) (cN 0)),cO 21 (pick (t 17) (t 20) aB),cO 22 (cM 21),cG 23 22 true (cM 0),cG 24 22 true (ixaS 1 (t 23) (cN 0)),cG 25 22 true (cD 24),cG 26 22 true (lenS (t 25)),cG 27 22 true (cM 1),cG 28 22 true (ixaS 1 (t 27) (cN 0)),cG 29 22 true (cD 28),cG 30 22 true (lenS (t 29)),cG 31 22 true (cB .neq (t 26) (t 30)),cO 32 (pick (t 22) (t 31) aB)]).seq (C2.cond (t 32) ((ops 0 [cO 4 (mov (c AV.esl)),cO 5 (mov (cN 15))]).seq ret) skip)).seq ((ops 0 [cO 33 (cM 0),cO 34 (cM 1),cO 35 (call (cF 39) [t 33,t 34,c (AV.func 40 [])]),cO 36 (call (cF 38) [t 35]),cO 37 (ext (t 36) 0),cO 38 (ext (t 36) 1),cO 4 (cM 37),cO 5 (cM 38)]).seq ret)))))
theorem BZ:Is Try.prog 12 b12:=Is.mk' Try.func12 (by kernel_rfl)
def b14:F2:=(F2.mk 43 [RV.t 2] ((ops 0 [cO 2 (mov (cN 0))]).seq (((ops 0 [cO 6 (cM 0),cO 7 (lenS (t 6)),cO 8 (cB .gtr (t 7) (cN 4096))]).seq (C2.cond (t 8) ((ops 0 [cO 2 (mov (cN 5))]).seq ret) skip)).seq (((ops 0 [cO 9 (cM 0),cO 10 (lenS (t 9)),cO 11 (mov (cN 0))]).seq (block 0 ((ops 0 [cO 12 (cB .lss (t 11) (t 10))]).seq ((C2.cond (t 12) skip (exit 0)).seq ((block 1 ((ops 0 [cO 13 (cM 11),cO 14 (ixaS 1 (t 9) (t 11)),cO 15 (cD 14),cO 3 (cM 13),cO 4 (cM 15)]).seq (((ops 0 [cO 16 (cM 4),cO 17 (call (cF 42) [t 16]),cO 5 (cM 17)]).seq ((ops 0 [cO 18 (cM 5),cO 19 (cB .neq (t 18) (cN 0))]).seq (C2.cond (t 19) ((ops 0 [cO 20 (cM 5),cO 2 (cM 20)]).seq ret) skip))).seq (block 2 ((ops 0 [cO 22 (cM 4),cO 23 (lenS (t 22)),cO 24 (cM 0),cO 25 (ixaS 1 (t 24) (cN 0)),cO 26 (cD 25),cO 27 (lenS (t 26)),cO 28 (cB .neq (t 23) (t 27)),cO 21 (cM 28)]).seq (C2.cond (t 21) ((ops 0 [cO 2 (mov (cN 15))]).seq ret) ((ops 0 [cO 30 (cM 3),cO 31 (cB .gtr (t 30) (cN 0)),cO 32 (cM 31),cG 33 32 true (cM 0),cG 34 32 true (cM 3),cG 35 32 true (cB .sub (t 34) (cN 1)),cG 36 32 true (ixaS 1 (t 33) (t 35)),cG 37 32 true (cD 36),cG 38 32 true (cM 4),cG 39 32 true (call (cF 40) [t 37,t 38]),cG 40 32 true (cB .geq (t 39) (cN 0)),cO 41 (pick (t 32) (t 40) aB),cO 29 (cM 41)]).seq (C2.cond (t 29) ((ops 0 [cO 2 (mov (cN 14))]).seq ret) skip)))))))).seq (ops 0 [cO 42 (cB .add (t 11) (cN 1)),cO 11 (cM 42)])))).loop)).seq ((ops 0 [cO 2 (mov (cN 0))]).seq ret)))))
theorem BF:Is Try.prog 14 b14:=Is.mk' Try.func14 (by kernel_rfl)
def b16:F2:=(F2.mk 27 [RV.t 4] ((ops 0 [cO 4 (mov aB)]).seq (((ops 0 [cO 6 (cM 0),cO 7 (lenS (t 6)),cO 8 (cM 1),cO 9 (lenS (t 8)),cO 10 (cB .neq (t 7) (t 9))]).seq (C2.cond (t 10) ((ops 0 [cO 4 (mov aB)]).seq ret) skip)).seq (((ops 0 [cO 5 (mov (cN 0))]).seq (block 0 (((ops 0 [cO 11 (cM 5),cO 12 (cM 0),cO 13 (lenS (t 12)),cO 14 (cB .lss (t 11) (t 13))]).seq (C2.cond (t 14) skip (exit 0))).seq ((block 1 ((mixS 1 [cO 17 (cM 0),cO 18 (cM 5),cO 19 (ixaS 1 (t 17) (t 18)),cO 20 (cD 19),cO 21 (cM 1),cO 22 (cM 5),cO 23 (ixaS 1 (t 21) (t 22)),cO 24 (cD 23),cO 25 (call (cF 45) [t 20,t 24]),cO 26 (un UnOp.not (t 25))] [(0,0),(1,0),(2,0),(3,0),(4,0),(5,0),(6,0),(7,0),(8,2),(9,0)]).seq (C2.cond (t 26) ((ops 0 [cO 4 (mov aB)]).seq ret) skip))).seq (ops 0 [cO 15 (cM 5),cO 16 (cB .add (t 15) (cN 1)),cO 5 (cM 16)]))).loop)).seq ((ops 0 [cO 4 (mov aS)]).seq ret)))))
theorem Bx:Is Try.prog 16 b16:=Is.mk' Try.func16 (by kernel_rfl)
def b17:F2:=(F2.mk 15 [RV.t 2,RV.t 3] ((ops 0 [cO 2 (mov (c AV.esl)),cO 3 (mov (cN 0))]).seq (((ops 0 [cO 5 (cM 0),cO 6 (call (cF 14) [t 5]),cO 4 (cM 6)]).seq ((ops 0 [cO 7 (cM 4),cO 8 (cB .neq (t 7) (cN 0))]).seq (C2.cond (t 8) ((ops 0 [cO 9 (cM 4),cO 2 (mov (c AV.esl)),cO 3 (cM 9)]).seq ret) skip))).seq ((ops 0 [cO 10 (cM 0),cO 11 (call (cF 46) [t 10]),cO 12 (call (cF 38) [t 11]),cO 13 (ext (t 12) 0),cO 14 (ext (t 12) 1),cO 2 (cM 13),cO 3 (cM 14)]).seq ret))))
theorem BH:Is Try.prog 17 b17:=Is.mk' Try.func17 (by kernel_rfl)
def b19:F2:=(F2.mk 14 [RV.t 2,RV.t 3] ((ops 0 [cO 2 (mov aB),cO 3 (mov (cN 0))]).seq (((ops 0 [cO 5 (cM 0),cO 6 (call (cF 14) [t 5]),cO 4 (cM 6)]).seq ((ops 0 [cO 7 (cM 4),cO 8 (cB .neq (t 7) (cN 0))]).seq (C2.cond (t 8) ((ops 0 [cO 9 (cM 4),cO 2 (mov aB),cO 3 (cM 9)]).seq ret) skip))).seq ((ops 0 [cO 10 (cM 0),cO 11 (call (cF 46) [t 10]),cO 12 (lenS (t 11)),cO 13 (cB .eql (t 12) (cN 0)),cO 2 (cM 13),cO 3 (mov (cN 0))]).seq ret))))
theorem Bz:Is Try.prog 19 b19:=Is.mk' Try.func19 (by kernel_rfl)
def b21:F2:=(F2.mk 6 [RV.t 2] ((ops 0 [cO 1 (box (t 0)),cO 2 (mov aB)]).seq ((ops 0 [cO 3 (fa 0 (t 1)),cO 4 (cD 3),cO 5 (call (cF 48) [t 4]),cO 2 (cM 5)]).seq ret)))
theorem A2:Is Try.prog 21 b21:=Is.mk' Try.func21 (by kernel_rfl)
def b22:F2:=(F2.mk 87 [RV.cn 4 2,RV.t 5] ((ops 0 [cO 2 (box (t 0)),cO 4 (alloc (AV.agg [AV.int IntKind.i64 (0),AV.esl])),cO 5 (mov (cN 0))]).seq (((ops 0 [cO 16 (ldn 1 (t 2)),cO 17 (call (cF 49) [t 16]),cO 6 (cM 17)]).seq ((ops 0 [cO 18 (cM 6),cO 19 (cB .neq (t 18) (cN 0))]).seq (C2.cond (t 19) ((ops 0 [cO 20 (bld [AV.int IntKind.i64 (0),AV.esl] []),cO 21 (cM 6),Op2.mk none none (Ins.st 2 (t 4) (t 20)),cO 5 (cM 21)]).seq ret) skip))).seq (((ops 0 [cO 22 (cM 1),cO 23 (cB .lss (t 22) (cN 0)),cO 24 (cM 23),cG 25 24 false (cM 1),cG 26 24 false (cB .geq (t 25) (cN 8)),cO 27 (pick (t 24) aS (t 26))]).seq (C2.cond (t 27) ((ops 0 [cO 28 (bld [AV.int IntKind.i64 (0),AV.esl] []),Op2.mk none none (Ins.st 2 (t 4) (t 28)),cO 5 (mov (cN 2))]).seq ret) skip)).seq ((ops 0 [cO 30 (ldn 1 (t 2)),cO 31 (cM 1),cO 32 (call (cF 50) [t 30,t 31]),cO 29 (cM 32),cO 33 (ext (t 29) 0),cO 34 (ext (t 29) 1),cO 7 (cM 33),cO 8 (cM 34)]).seq (((ops 0 [cO 35 (cM 8),cO 36 (cB .neq (t 35) (cN 0))]).seq (C2.cond (t 36) ((ops 0 [cO 37 (bld [AV.int IntKind.i64 (0),AV.esl] []),cO 38 (cM 8),Op2.mk none none (Ins.st 2 (t 4) (t 37)),cO 5 (cM 38)]).seq ret) skip)).seq ((ops 0 [cO 40 (ldn 1 (t 2)),cO 41 (cM 1),cO 42 (cB .sub (t 41) (cN 1)),cO 43 (call (cF 50) [t 40,t 42]),cO 39 (cM 43),cO 44 (ext (t 39) 0),cO 45 (ext (t 39) 1),cO 9 (alloc AV.esl),Op2.mk none none (Ins.st 1 (t 9) (t 44)),cO 8 (cM 45)]).seq (((ops 0 [cO 46 (cM 8),cO 47 (cB .neq (t 46) (cN 0))]).seq (C2.cond (t 47) ((ops 0 [cO 48 (bld [AV.int IntKind.i64 (0),AV.esl] []),cO 49 (cM 8),Op2.mk none none (Ins.st 2 (t 4) (t 48)),cO 5 (cM 49)]).seq ret) skip)).seq ((ops 0 [cO 50 (cM 7),cO 51 (lenS (t 50)),cO 52 (cD 9),cO 53 (lenS (t 52)),cO 54 (mks 1 24 [AV.esl] (t 53) (t 53)),cO 55 (bld [AV.int IntKind.i64 (0),AV.esl] [(0,1,t 51),(1,1,t 54)]),cO 10 (alloc (AV.agg [AV.int IntKind.i64 (0),AV.esl])),Op2.mk none none (Ins.st 2 (t 10) (t 55))]).seq (((ops 0 [cO 56 (cM 7),cO 57 (lenS (t 56)),cO 58 (mov (cN 0))]).seq (block 0 ((ops 0 [cO 59 (cB .lss (t 58) (t 57))]).seq ((C2.cond (t 59) skip (exit 0)).seq ((block 1 ((ops 0 [cO 60 (cM 58),cO 61 (ixaS 1 (t 56) (t 58)),cO 62 (cD 61),cO 11 (alloc (AV.int IntKind.i64 (0))),Op2.mk none none (Ins.st 1 (t 11) (t 60)),cO 12 (cM 62)]).seq ((ops 0 [cO 63 (cM 12),cO 64 (call (cF 51) [t 63])]).seq (block 2 (rangeF (t 64) [65] (ops 0 [cO 13 (cM 65)]) (block 3 ((ops 0 [cO 67 (cD 9),cO 68 (cM 13),cO 69 (call (cF 52) [t 67,t 68]),cO 66 (cM 69),cO 70 (ext (t 66) 0),cO 71 (ext (t 66) 1),cO 14 (cM 70),cO 15 (cM 71)]).seq ((ops 0 [cO 72 (cM 15)]).seq (C2.cond (t 72) (mixS 2 [cO 73 (fa 1 (t 10)),cO 74 (cD 73),cO 75 (cM 14),cO 76 (fa 1 (t 10)),cO 77 (cD 76),cO 78 (cM 14),cO 79 (ixaS 1 (t 77) (t 78)),cO 80 (cD 79),cO 81 (cD 11),cO 82 (bldS 1 1 [AV.int IntKind.i64 (0)] [(0,1,t 81)]),cO 83 (app 1 8 (t 80) (t 82)),cO 84 (ixaS 1 (t 74) (t 75)),Op2.mk none none (Ins.st 1 (t 84) (t 83))] [(0,0),(1,0),(2,0),(3,0),(4,0),(5,0),(6,0),(7,0),(8,0),(9,1),(10,1),(11,0),(12,2)]) skip))))))))).seq (ops 0 [cO 85 (cB .add (t 58) (cN 1)),cO 58 (cM 85)])))).loop)).seq ((ops 0 [cO 86 (ldn 2 (t 10)),Op2.mk none none (Ins.st 2 (t 4) (t 86)),cO 5 (mov (cN 0))]).seq ret)))))))))))
theorem BL:Is Try.prog 22 b22:=Is.mk' Try.func22 (by kernel_rfl)
def b24:F2:=(F2.mk 39 [RV.t 4] ((ops 0 [cO 2 (box (t 0)),cO 3 (box (t 1)),cO 4 (mov aB)]).seq (((ops 0 [cO 6 (fa 0 (t 2)),cO 7 (cD 6),cO 8 (fa 0 (t 3)),cO 9 (cD 8),cO 10 (cB .neq (t 7) (t 9)),cO 11 (cM 10),cG 12 11 false (fa 1 (t 2)),cG 13 11 false (cD 12),cG 14 11 false (lenS (t 13)),cG 15 11 false (fa 1 (t 3)),cG 16 11 false (cD 15),cG 17 11 false (lenS (t 16)),cG 18 11 false (cB .neq (t 14) (t 17)),cO 19 (pick (t 11) aS (t 18))]).seq (C2.cond (t 19) ((ops 0 [cO 4 (mov aB)]).seq ret) skip)).seq (((ops 0 [cO 5 (mov (cN 0))]).seq (block 0 (((ops 0 [cO 20 (cM 5),cO 21 (fa 1 (t 2)),cO 22 (cD 21),cO 23 (lenS (t 22)),cO 24 (cB .lss (t 20) (t 23))]).seq (C2.cond (t 24) skip (exit 0))).seq ((block 1 ((mixS 1 [cO 27 (fa 1 (t 2)),cO 28 (cD 27),cO 29 (cM 5),cO 30 (ixaS 1 (t 28) (t 29)),cO 31 (cD 30),cO 32 (fa 1 (t 3)),cO 33 (cD 32),cO 34 (cM 5),cO 35 (ixaS 1 (t 33) (t 34)),cO 36 (cD 35),cO 37 (call (cF 55) [t 31,t 36]),cO 38 (un UnOp.not (t 37))] [(0,0),(1,0),(2,0),(3,0),(4,0),(5,0),(6,0),(7,0),(8,0),(9,0),(10,2),(11,0)]).seq (C2.cond (t 38) ((ops 0 [cO 4 (mov aB)]).seq ret) skip))).seq (ops 0 [cO 25 (cM 5),cO 26 (cB .add (t 25) (cN 1)),cO 5 (cM 26)]))).loop)).seq ((ops 0 [cO 4 (mov aS)]).seq ret)))))
theorem Ca:Is Try.prog 24 b24:=Is.mk' Try.func24 (by kernel_rfl)
def b25:F2:=(F2.mk 60 [RV.t 4,RV.t 5] ((ops 0 [cO 2 (box (t 0)),cO 4 (mov (c AV.esl)),cO 5 (mov (cN 0))]).seq (((ops 0 [cO 15 (ldn 1 (t 2)),cO 16 (call (cF 49) [t 15]),cO 6 (cM 16)]).seq ((ops 0 [cO 17 (cM 6),cO 18 (cB .neq (t 17) (cN 0))]).seq (C2.cond (t 18) ((ops 0 [cO 19 (cM 6),cO 4 (mov (c AV.esl)),cO 5 (cM 19)]).seq ret) skip))).seq (((ops 0 [cO 20 (cM 1),cO 21 (call (cF 14) [t 20]),cO 7 (cM 21)]).seq ((ops 0 [cO 22 (cM 7),cO 23 (cB .neq (t 22) (cN 0))]).seq (C2.cond (t 23) ((ops 0 [cO 24 (cM 7),cO 4 (mov (c AV.esl)),cO 5 (cM 24)]).seq ret) skip))).seq (((ops 0 [cO 25 (cM 1),cO 26 (lenS (t 25)),cO 27 (cB .eql (t 26) (cN 0))]).seq (C2.cond (t 27) ((ops 0 [cO 4 (mov (c AV.esl)),cO 5 (mov (cN 0))]).seq ret) skip)).seq ((mixS 1 [cO 29 (ldn 1 (t 2)),cO 30 (cM 1),cO 31 (ixaS 1 (t 30) (cN 0)),cO 32 (cD 31),cO 33 (lenS (t 32)),cO 34 (call (cF 56) [t 29,t 33]),cO 28 (cM 34),cO 35 (ext (t 28) 0),cO 36 (ext (t 28) 1),cO 8 (cM 35),cO 9 (cM 36)] [(0,0),(1,0),(2,0),(3,0),(4,0),(5,2),(6,0),(7,0),(8,0),(9,0),(10,0)]).seq (((ops 0 [cO 37 (cM 9),cO 38 (cB .neq (t 37) (cN 0))]).seq (C2.cond (t 38) ((ops 0 [cO 39 (cM 9),cO 4 (mov (c AV.esl)),cO 5 (cM 39)]).seq ret) skip)).seq ((ops 0 [cO 10 (mov (c AV.esl))]).seq (((ops 0 [cO 40 (cM 1),cO 41 (lenS (t 40)),cO 42 (mov (cN 0))]).seq (block 0 ((ops 0 [cO 43 (cB .lss (t 42) (t 41))]).seq ((C2.cond (t 43) skip (exit 0)).seq ((block 1 ((ops 0 [cO 44 (ixaS 1 (t 40) (t 42)),cO 45 (cD 44),cO 12 (cM 45)]).seq ((ops 0 [cO 47 (cM 8),cO 48 (cM 12),cO 49 (call (cF 52) [t 47,t 48]),cO 46 (cM 49),cO 50 (ext (t 46) 0),cO 51 (ext (t 46) 1),cO 13 (cM 50),cO 14 (cM 51)]).seq (((ops 0 [cO 52 (cM 14),cO 53 (un UnOp.not (t 52))]).seq (C2.cond (t 53) ((ops 0 [cO 4 (mov (c AV.esl)),cO 5 (mov (cN 6))]).seq ret) skip)).seq (ops 0 [cO 54 (cM 10),cO 55 (cM 13),cO 56 (bldS 1 1 [AV.int IntKind.i64 (0)] [(0,1,t 55)]),cO 57 (app 1 8 (t 54) (t 56)),cO 10 (cM 57)]))))).seq (ops 0 [cO 58 (cB .add (t 42) (cN 1)),cO 42 (cM 58)])))).loop)).seq ((ops 0 [cO 59 (cM 10),cO 4 (cM 59),cO 5 (mov (cN 0))]).seq ret))))))))))
theorem BK:Is Try.prog 25 b25:=Is.mk' Try.func25 (by kernel_rfl)
def b29:F2:=(F2.mk 26 [RV.t 4] ((ops 0 [cO 4 (mov aB)]).seq (((ops 0 [cO 6 (cM 0),cO 7 (lenS (t 6)),cO 8 (cM 1),cO 9 (lenS (t 8)),cO 10 (cB .neq (t 7) (t 9))]).seq (C2.cond (t 10) ((ops 0 [cO 4 (mov aB)]).seq ret) skip)).seq (((ops 0 [cO 11 (cM 0),cO 12 (lenS (t 11)),cO 13 (mov (cN 0))]).seq (block 0 ((ops 0 [cO 14 (cB .lss (t 13) (t 12))]).seq ((C2.cond (t 14) skip (exit 0)).seq ((block 1 ((ops 0 [cO 15 (cM 13),cO 5 (cM 15)]).seq ((ops 1 [cO 16 (cM 0),cO 17 (cM 5),cO 18 (ixaS 1 (t 16) (t 17)),cO 19 (cD 18),cO 20 (cM 1),cO 21 (cM 5),cO 22 (ixaS 1 (t 20) (t 21)),cO 23 (cD 22),cO 24 (cB .neq (t 19) (t 23))]).seq (C2.cond (t 24) ((ops 0 [cO 4 (mov aB)]).seq ret) skip)))).seq (ops 0 [cO 25 (cB .add (t 13) (cN 1)),cO 13 (cM 25)])))).loop)).seq ((ops 0 [cO 4 (mov aS)]).seq ret)))))
theorem Bh:Is Try.prog 29 b29:=Is.mk' Try.func29 (by kernel_rfl)
def b30:F2:=(F2.mk 68 [RV.t 2] ((ops 0 [cO 1 (box (t 0)),cO 2 (mov (cN 0))]).seq ((ops 0 [cO 8 (fa 0 (t 1)),cO 9 (cD 8),cO 3 (cM 9)]).seq (((ops 0 [cO 10 (cM 3),cO 11 (lenS (t 10)),cO 12 (cB .gtr (t 11) (cN 4096))]).seq (C2.cond (t 12) ((ops 0 [cO 2 (mov (cN 5))]).seq ret) skip)).seq (((ops 0 [cO 4 (mov (cN 0))]).seq (block 0 (((ops 0 [cO 13 (cM 4),cO 14 (cM 3),cO 15 (lenS (t 14)),cO 16 (cB .lss (t 13) (t 15))]).seq (C2.cond (t 16) skip (exit 0))).seq ((block 1 (((ops 0 [cO 19 (cM 3),cO 20 (cM 4),cO 21 (ixaS 1 (t 19) (t 20)),cO 22 (cD 21),cO 23 (call (cF 43) [t 22]),cO 5 (cM 23)]).seq ((ops 0 [cO 24 (cM 5),cO 25 (cB .neq (t 24) (cN 0))]).seq (C2.cond (t 25) ((ops 0 [cO 26 (cM 5),cO 2 (cM 26)]).seq ret) skip))).seq ((mixS 1 [cO 27 (cM 4),cO 28 (cB .gtr (t 27) (cN 0)),cO 29 (cM 28),cG 30 29 true (cM 3),cG 31 29 true (cM 4),cG 32 29 true (cB .sub (t 31) (cN 1)),cG 33 29 true (ixaS 1 (t 30) (t 32)),cG 34 29 true (cD 33),cG 35 29 true (cM 3),cG 36 29 true (cM 4),cG 37 29 true (ixaS 1 (t 35) (t 36)),cG 38 29 true (cD 37),cG 39 29 true (call (cF 44) [t 34,t 38]),cG 40 29 true (cB .geq (t 39) (cN 0)),cO 41 (pick (t 29) (t 40) aB)] [(0,0),(1,0),(2,0),(3,0),(4,0),(5,0),(6,0),(7,0),(8,0),(9,0),(10,0),(11,0),(12,2),(13,0),(14,0)]).seq (C2.cond (t 41) ((ops 0 [cO 2 (mov (cN 14))]).seq ret) skip)))).seq (ops 0 [cO 17 (cM 4),cO 18 (cB .add (t 17) (cN 1)),cO 4 (cM 18)]))).loop)).seq (((ops 0 [cO 6 (mov (cN 0))]).seq (block 2 (((ops 0 [cO 42 (cM 6),cO 43 (cM 3),cO 44 (lenS (t 43)),cO 45 (cB .lss (t 42) (t 44))]).seq (C2.cond (t 45) skip (exit 2))).seq ((block 3 ((ops 0 [cO 7 (mov (cN 0))]).seq (block 4 (((ops 0 [cO 48 (cM 7),cO 49 (cM 3),cO 50 (lenS (t 49)),cO 51 (cB .lss (t 48) (t 50))]).seq (C2.cond (t 51) skip (exit 4))).seq ((block 5 ((mixS 1 [cO 54 (cM 6),cO 55 (cM 7),cO 56 (cB .neq (t 54) (t 55)),cO 57 (cM 56),cG 58 57 true (cM 3),cG 59 57 true (cM 6),cG 60 57 true (ixaS 1 (t 58) (t 59)),cG 61 57 true (cD 60),cG 62 57 true (cM 3),cG 63 57 true (cM 7),cG 64 57 true (ixaS 1 (t 62) (t 63)),cG 65 57 true (cD 64),cG 66 57 true (call (cF 60) [t 61,t 65]),cO 67 (pick (t 57) (t 66) aB)] [(0,0),(1,0),(2,0),(3,0),(4,0),(5,0),(6,0),(7,0),(8,0),(9,0),(10,0),(11,0),(12,2),(13,0)]).seq (C2.cond (t 67) ((ops 0 [cO 2 (mov (cN 7))]).seq ret) skip))).seq (ops 0 [cO 52 (cM 7),cO 53 (cB .add (t 52) (cN 1)),cO 7 (cM 53)]))).loop))).seq (ops 0 [cO 46 (cM 6),cO 47 (cB .add (t 46) (cN 1)),cO 6 (cM 47)]))).loop)).seq ((ops 0 [cO 2 (mov (cN 0))]).seq ret)))))))
theorem BP:Is Try.prog 30 b30:=Is.mk' Try.func30 (by kernel_rfl)
def b32:F2:=(F2.mk 37 [RV.cn 4 2,RV.t 5] ((ops 0 [cO 2 (box (t 0)),cO 3 (box (t 1)),cO 4 (alloc (AV.agg [AV.int IntKind.i64 (0),AV.esl])),cO 5 (mov (cN 0))]).seq (((ops 0 [cO 9 (ldn 2 (t 2)),cO 10 (ldn 2 (t 3)),cO 11 (call (cF 64) [t 9,t 10]),cO 6 (cM 11)]).seq ((ops 0 [cO 12 (cM 6),cO 13 (cB .neq (t 12) (cN 0))]).seq (C2.cond (t 13) ((ops 0 [cO 14 (bld [AV.int IntKind.i64 (0),AV.esl] []),cO 15 (cM 6),Op2.mk none none (Ins.st 2 (t 4) (t 14)),cO 5 (cM 15)]).seq ret) skip))).seq (((ops 0 [cO 16 (fa 0 (t 2)),cO 17 (cD 16),cO 18 (fa 1 (t 3)),cO 19 (cD 18),cO 20 (lenS (t 19)),cO 21 (cB .neq (t 17) (t 20))]).seq (C2.cond (t 21) ((ops 0 [cO 22 (bld [AV.int IntKind.i64 (0),AV.esl] []),Op2.mk none none (Ins.st 2 (t 4) (t 22)),cO 5 (mov (cN 15))]).seq ret) skip)).seq ((ops 0 [cO 23 (fa 0 (t 3)),cO 24 (cD 23),cO 25 (bld [AV.int IntKind.i64 (0),AV.esl] [(0,1,t 24)]),cO 7 (alloc (AV.agg [AV.int IntKind.i64 (0),AV.esl])),Op2.mk none none (Ins.st 2 (t 7) (t 25))]).seq (((ops 0 [cO 26 (ldn 2 (t 2)),cO 27 (ldn 2 (t 3)),cO 28 (call (cF 65) [t 26,t 27])]).seq (block 0 (rangeF (t 28) [29] (ops 0 [cO 8 (cM 29)]) (block 1 (ops 0 [cO 30 (fa 1 (t 7)),cO 31 (cD 30),cO 32 (cM 8),cO 33 (bldS 1 1 [AV.esl] [(0,1,t 32)]),cO 34 (app 1 24 (t 31) (t 33)),cO 35 (fa 1 (t 7)),Op2.mk none none (Ins.st 1 (t 35) (t 34))]))))).seq ((ops 0 [cO 36 (ldn 2 (t 7)),Op2.mk none none (Ins.st 2 (t 4) (t 36)),cO 5 (mov (cN 0))]).seq ret)))))))
theorem Ba:Is Try.prog 32 b32:=Is.mk' Try.func32 (by kernel_rfl)
def b33:F2:=(F2.mk 52 [RV.cn 2 2,RV.t 3] ((ops 0 [cO 1 (box (t 0)),cO 2 (alloc (AV.agg [AV.int IntKind.i64 (0),AV.esl])),cO 3 (mov (cN 0))]).seq (((ops 0 [cO 10 (ldn 2 (t 1)),cO 11 (call (cF 61) [t 10]),cO 4 (cM 11)]).seq ((ops 0 [cO 12 (cM 4),cO 13 (cB .neq (t 12) (cN 0))]).seq (C2.cond (t 13) ((ops 0 [cO 14 (bld [AV.int IntKind.i64 (0),AV.esl] []),cO 15 (cM 4),Op2.mk none none (Ins.st 2 (t 2) (t 14)),cO 3 (cM 15)]).seq ret) skip))).seq ((ops 1 [cO 16 (fa 1 (t 1)),cO 17 (cD 16),cO 18 (lenS (t 17)),cO 19 (fa 0 (t 1)),cO 20 (cD 19),cO 21 (mks 1 24 [AV.esl] (t 20) (t 20)),cO 22 (bld [AV.int IntKind.i64 (0),AV.esl] [(0,1,t 18),(1,1,t 21)]),cO 5 (alloc (AV.agg [AV.int IntKind.i64 (0),AV.esl])),Op2.mk none none (Ins.st 2 (t 5) (t 22))]).seq (((ops 0 [cO 23 (fa 1 (t 1)),cO 24 (cD 23),cO 25 (lenS (t 24)),cO 26 (mov (cN 0))]).seq (block 0 ((ops 0 [cO 27 (cB .lss (t 26) (t 25))]).seq ((C2.cond (t 27) skip (exit 0)).seq ((block 1 ((ops 0 [cO 28 (cM 26),cO 29 (ixaS 1 (t 24) (t 26)),cO 30 (cD 29),cO 6 (cM 28),cO 7 (cM 30)]).seq ((ops 0 [cO 31 (cM 7),cO 32 (lenS (t 31)),cO 33 (mov (cN 0))]).seq (block 2 ((ops 0 [cO 34 (cB .lss (t 33) (t 32))]).seq ((C2.cond (t 34) skip (exit 2)).seq ((block 3 ((ops 0 [cO 35 (ixaS 1 (t 31) (t 33)),cO 36 (cD 35),cO 9 (cM 36)]).seq (mixS 2 [cO 37 (fa 1 (t 5)),cO 38 (cD 37),cO 39 (cM 9),cO 40 (fa 1 (t 5)),cO 41 (cD 40),cO 42 (cM 9),cO 43 (ixaS 1 (t 41) (t 42)),cO 44 (cD 43),cO 45 (cM 6),cO 46 (bldS 1 1 [AV.int IntKind.i64 (0)] [(0,1,t 45)]),cO 47 (app 1 8 (t 44) (t 46)),cO 48 (ixaS 1 (t 38) (t 39)),Op2.mk none none (Ins.st 1 (t 48) (t 47))] [(0,0),(1,0),(2,0),(3,0),(4,0),(5,0),(6,0),(7,0),(8,0),(9,1),(10,1),(11,0),(12,2)]))).seq (ops 0 [cO 49 (cB .add (t 33) (cN 1)),cO 33 (cM 49)])))).loop)))).seq (ops 0 [cO 50 (cB .add (t 26) (cN 1)),cO 26 (cM 50)])))).loop)).seq ((ops 0 [cO 51 (ldn 2 (t 5)),Op2.mk none none (Ins.st 2 (t 2) (t 51)),cO 3 (mov (cN 0))]).seq ret))))))
theorem B6:Is Try.prog 33 b33:=Is.mk' Try.func33 (by kernel_rfl)
def b34:F2:=(F2.mk 44 [RV.t 4] ((ops 0 [cO 2 (box (t 0)),cO 4 (mov (c AV.esl))]).seq ((ops 0 [cO 5 (mov (c AV.esl))]).seq (((ops 0 [cO 6 (mov (cN 0))]).seq (block 0 (((ops 0 [cO 9 (cM 6),cO 10 (fa 0 (t 2)),cO 11 (cD 10),cO 12 (lenS (t 11)),cO 13 (cB .lss (t 9) (t 12))]).seq (C2.cond (t 13) skip (exit 0))).seq ((block 1 (((ops 0 [cO 16 (cM 1),cO 17 (fa 0 (t 2)),cO 18 (cD 17),cO 19 (cM 6),cO 20 (ixaS 1 (t 18) (t 19)),cO 21 (cD 20),cO 22 (lenS (t 21)),cO 23 (cB .gtr (t 16) (t 22))]).seq (C2.cond (t 23) (exit 1) skip)).seq ((ops 0 [cO 24 (fa 0 (t 2)),cO 25 (cD 24),cO 26 (cM 6),cO 27 (ixaS 1 (t 25) (t 26)),cO 28 (cD 27),cO 29 (cM 1),cO 30 (call (cF 66) [t 28,t 29]),cO 7 (cM 30)]).seq ((ops 0 [cO 8 (mov (cN 0))]).seq (block 2 (((ops 0 [cO 31 (cM 8),cO 32 (cM 7),cO 33 (lenS (t 32)),cO 34 (cB .lss (t 31) (t 33))]).seq (C2.cond (t 34) skip (exit 2))).seq ((block 3 (ops 0 [cO 37 (cM 5),cO 38 (cM 7),cO 39 (cM 8),cO 40 (ixaS 1 (t 38) (t 39)),cO 41 (cD 40),cO 42 (call (cF 67) [t 37,t 41]),cO 5 (cM 42)])).seq (ops 0 [cO 35 (cM 8),cO 36 (cB .add (t 35) (cN 1)),cO 8 (cM 36)]))).loop))))).seq (ops 0 [cO 14 (cM 6),cO 15 (cB .add (t 14) (cN 1)),cO 6 (cM 15)]))).loop)).seq ((ops 0 [cO 43 (cM 5),cO 4 (cM 43)]).seq ret)))))
theorem Bf:Is Try.prog 34 b34:=Is.mk' Try.func34 (by kernel_rfl)
def b36:F2:=(F2.mk 19 [RV.t 2] ((ops 0 [cO 2 (mov (c AV.esl))]).seq ((ops 0 [cO 3 (mov (c AV.esl))]).seq (((ops 0 [cO 6 (cM 0),cO 7 (lenS (t 6)),cO 8 (mov (cN 0))]).seq (block 0 ((ops 0 [cO 9 (cB .lss (t 8) (t 7))]).seq ((C2.cond (t 9) skip (exit 0)).seq ((block 1 ((ops 0 [cO 10 (ixaS 1 (t 6) (t 8)),cO 11 (cD 10),cO 5 (cM 11)]).seq (ops 0 [cO 12 (cM 3),cO 13 (cM 5),cO 14 (bld [AV.int IntKind.i64 (0),AV.int IntKind.i64 (0)] [(0,1,t 13)]),cO 15 (bldS 2 1 [AV.int IntKind.i64 (0),AV.int IntKind.i64 (0)] [(0,2,t 14)]),cO 16 (app 2 16 (t 12) (t 15)),cO 3 (cM 16)]))).seq (ops 0 [cO 17 (cB .add (t 8) (cN 1)),cO 8 (cM 17)])))).loop)).seq ((ops 0 [cO 18 (cM 3),cO 2 (cM 18)]).seq ret)))))
theorem A4:Is Try.prog 36 b36:=Is.mk' Try.func36 (by kernel_rfl)
def b37:F2:=(F2.mk 18 [RV.t 2] ((ops 0 [cO 2 (mov (cN 0))]).seq (((ops 0 [cO 6 (cM 0),cO 7 (lenS (t 6)),cO 8 (mov (cN 0))]).seq (block 0 ((ops 0 [cO 9 (cB .lss (t 8) (t 7))]).seq ((C2.cond (t 9) skip (exit 0)).seq ((block 1 ((ops 0 [cO 10 (ixaS 1 (t 6) (t 8)),cO 11 (cD 10),cO 4 (cM 11)]).seq ((ops 0 [cO 12 (cM 4),cO 13 (call (cF 14) [t 12]),cO 5 (cM 13)]).seq ((ops 0 [cO 14 (cM 5),cO 15 (cB .neq (t 14) (cN 0))]).seq (C2.cond (t 15) ((ops 0 [cO 16 (cM 5),cO 2 (cM 16)]).seq ret) skip))))).seq (ops 0 [cO 17 (cB .add (t 8) (cN 1)),cO 8 (cM 17)])))).loop)).seq ((ops 0 [cO 2 (mov (cN 0))]).seq ret))))
theorem Bu:Is Try.prog 37 b37:=Is.mk' Try.func37 (by kernel_rfl)
def b38:F2:=(F2.mk 9 [RV.t 2,RV.t 3] ((ops 0 [cO 2 (mov (c AV.esl)),cO 3 (mov (cN 0))]).seq (((ops 0 [cO 4 (cM 0),cO 5 (lenS (t 4)),cO 6 (cB .gtr (t 5) (cN 4096))]).seq (C2.cond (t 6) ((ops 0 [cO 2 (mov (c AV.esl)),cO 3 (mov (cN 5))]).seq ret) skip)).seq ((ops 0 [cO 7 (cM 0),cO 8 (call (cF 58) [t 7]),cO 2 (cM 8),cO 3 (mov (cN 0))]).seq ret))))
theorem A3:Is Try.prog 38 b38:=Is.mk' Try.func38 (by kernel_rfl)
def b39:F2:=(F2.mk 60 [RV.t 6] ((ops 0 [cO 6 (mov (c AV.esl))]).seq ((ops 0 [cO 7 (mov (c AV.esl))]).seq ((block 0 (((ops 0 [cO 9 (cM 0),cO 10 (lenS (t 9)),cO 11 (cB .gtr (t 10) (cN 0)),cO 12 (cM 11),cG 13 12 false (cM 1),cG 14 12 false (lenS (t 13)),cG 15 12 false (cB .gtr (t 14) (cN 0)),cO 16 (pick (t 12) aS (t 15))]).seq (C2.cond (t 16) skip (exit 0))).seq (block 1 ((ops 0 [cO 8 (mov (cN 1))]).seq ((block 2 ((ops 0 [cO 18 (cM 1),cO 19 (lenS (t 18)),cO 20 (cB .eql (t 19) (cN 0)),cO 17 (cM 20)]).seq (C2.cond (t 17) (ops 0 [cO 8 (mov (cN ((-1))))]) ((ops 0 [cO 22 (cM 0),cO 23 (lenS (t 22)),cO 24 (cB .gtr (t 23) (cN 0)),cO 21 (cM 24)]).seq (C2.cond (t 21) (mixS 1 [cO 25 (cM 2),cO 26 (cM 0),cO 27 (ixaS 1 (t 26) (cN 0)),cO 28 (cD 27),cO 29 (cM 1),cO 30 (ixaS 1 (t 29) (cN 0)),cO 31 (cD 30),cO 32 (call (t 25) [t 28,t 31]),cO 8 (cM 32)] [(0,0),(1,0),(2,0),(3,0),(4,0),(5,0),(6,0),(7,2),(8,0)]) skip))))).seq (block 3 ((ops 0 [cO 38 (cM 8),cO 39 (cB .lss (t 38) (cN 0)),cO 37 (cM 39)]).seq (C2.cond (t 37) (ops 1 [cO 40 (cM 7),cO 41 (cM 0),cO 42 (ixaS 1 (t 41) (cN 0)),cO 43 (cD 42),cO 44 (bldS 1 1 [AV.esl] [(0,1,t 43)]),cO 45 (app 1 24 (t 40) (t 44)),cO 46 (cM 0),cO 47 (sls 1 (t 46) (some (cN 1)) none none),cO 7 (cM 45),cO 0 (cM 47)]) ((ops 0 [cO 49 (cM 8),cO 50 (cB .gtr (t 49) (cN 0)),cO 48 (cM 50)]).seq (C2.cond (t 48) (ops 1 [cO 51 (cM 7),cO 52 (cM 1),cO 53 (ixaS 1 (t 52) (cN 0)),cO 54 (cD 53),cO 55 (bldS 1 1 [AV.esl] [(0,1,t 54)]),cO 56 (app 1 24 (t 51) (t 55)),cO 57 (cM 1),cO 58 (sls 1 (t 57) (some (cN 1)) none none),cO 7 (cM 56),cO 1 (cM 58)]) (ops 1 [cO 33 (cM 0),cO 34 (sls 1 (t 33) (some (cN 1)) none none),cO 35 (cM 1),cO 36 (sls 1 (t 35) (some (cN 1)) none none),cO 0 (cM 34),cO 1 (cM 36)])))))))))).loop).seq ((ops 0 [cO 59 (cM 7),cO 6 (cM 59)]).seq ret)))))
theorem Cd:Is Try.prog 39 b39:=Is.mk' Try.func39 (by kernel_rfl)
def b40:F2:=(F2.mk 8 [RV.t 4] ((ops 0 [cO 4 (mov (cN 0))]).seq ((ops 0 [cO 5 (cM 0),cO 6 (cM 1),cO 7 (call (cF 68) [t 5,t 6,c (AV.func 69 [])]),cO 4 (cM 7)]).seq ret)))
theorem BA:Is Try.prog 40 b40:=Is.mk' Try.func40 (by kernel_rfl)
def b42:F2:=(F2.mk 36 [RV.t 2] ((ops 0 [cO 2 (mov (cN 0))]).seq ((block 0 ((ops 0 [cO 6 (cM 0),cO 7 (lenS (t 6)),cO 8 (cB .eql (t 7) (cN 0)),cO 5 (cM 8)]).seq (C2.cond (t 5) ((ops 0 [cO 2 (mov (cN 16))]).seq ret) ((ops 0 [cO 10 (cM 0),cO 11 (lenS (t 10)),cO 12 (cB .gtr (t 11) (cN 8)),cO 9 (cM 12)]).seq (C2.cond (t 9) ((ops 0 [cO 2 (mov (cN 5))]).seq ret) skip))))).seq (((ops 0 [cO 13 (cM 0),cO 14 (lenS (t 13)),cO 15 (mov (cN 0))]).seq (block 1 ((ops 0 [cO 16 (cB .lss (t 15) (t 14))]).seq ((C2.cond (t 16) skip (exit 1)).seq ((block 2 ((ops 0 [cO 17 (cM 15),cO 18 (ixaS 2 (t 13) (t 15)),cO 19 (ldn 2 (t 18)),cO 4 (alloc (AV.agg [AV.int IntKind.i64 (0),AV.int IntKind.i64 (0)])),cO 3 (cM 17),Op2.mk none none (Ins.st 2 (t 4) (t 19))]).seq (((ops 0 [cO 20 (ldn 2 (t 4)),cO 21 (call (cF 70) [t 20]),cO 22 (un UnOp.not (t 21))]).seq (C2.cond (t 22) ((ops 0 [cO 2 (mov (cN 2))]).seq ret) skip)).seq ((mixS 1 [cO 23 (cM 3),cO 24 (cB .gtr (t 23) (cN 0)),cO 25 (cM 24),cG 26 25 true (cM 0),cG 27 25 true (cM 3),cG 28 25 true (cB .sub (t 27) (cN 1)),cG 29 25 true (ixaS 2 (t 26) (t 28)),cG 30 25 true (ldn 2 (t 29)),cG 31 25 true (ldn 2 (t 4)),cG 32 25 true (call (cF 69) [t 30,t 31]),cG 33 25 true (cB .geq (t 32) (cN 0)),cO 34 (pick (t 25) (t 33) aB)] [(0,0),(1,0),(2,0),(3,0),(4,0),(5,0),(6,0),(7,0),(8,0),(9,2),(10,0),(11,0)]).seq (C2.cond (t 34) ((ops 0 [cO 2 (mov (cN 14))]).seq ret) skip))))).seq (ops 0 [cO 35 (cB .add (t 15) (cN 1)),cO 15 (cM 35)])))).loop)).seq ((ops 0 [cO 2 (mov (cN 0))]).seq ret)))))
theorem B3:Is Try.prog 42 b42:=Is.mk' Try.func42 (by kernel_rfl)
def b43:F2:=(F2.mk 39 [RV.t 2] ((ops 0 [cO 2 (mov (cN 0))]).seq ((block 0 ((ops 0 [cO 5 (cM 0),cO 6 (lenS (t 5)),cO 7 (cB .eql (t 6) (cN 0)),cO 4 (cM 7)]).seq (C2.cond (t 4) ((ops 0 [cO 2 (mov (cN 16))]).seq ret) ((ops 0 [cO 9 (cM 0),cO 10 (lenS (t 9)),cO 11 (cB .gtr (t 10) (cN 8)),cO 8 (cM 11)]).seq (C2.cond (t 8) ((ops 0 [cO 2 (mov (cN 5))]).seq ret) skip))))).seq (((ops 0 [cO 3 (mov (cN 0))]).seq (block 1 (((ops 0 [cO 12 (cM 3),cO 13 (cM 0),cO 14 (lenS (t 13)),cO 15 (cB .lss (t 12) (t 14))]).seq (C2.cond (t 15) skip (exit 1))).seq ((block 2 (((ops 0 [cO 18 (cM 0),cO 19 (cM 3),cO 20 (ixaS 2 (t 18) (t 19)),cO 21 (ldn 2 (t 20)),cO 22 (call (cF 71) [t 21]),cO 23 (un UnOp.not (t 22))]).seq (C2.cond (t 23) ((ops 0 [cO 2 (mov (cN 2))]).seq ret) skip)).seq ((mixS 1 [cO 24 (cM 3),cO 25 (cB .gtr (t 24) (cN 0)),cO 26 (cM 25),cG 27 26 true (cM 0),cG 28 26 true (cM 3),cG 29 26 true (cB .sub (t 28) (cN 1)),cG 30 26 true (ixaS 2 (t 27) (t 29)),cG 31 26 true (ldn 2 (t 30)),cG 32 26 true (cM 0),cG 33 26 true (cM 3),cG 34 26 true (ixaS 2 (t 32) (t 33)),cG 35 26 true (ldn 2 (t 34)),cG 36 26 true (call (cF 72) [t 31,t 35]),cG 37 26 true (cB .geq (t 36) (cN 0)),cO 38 (pick (t 26) (t 37) aB)] [(0,0),(1,0),(2,0),(3,0),(4,0),(5,0),(6,0),(7,0),(8,0),(9,0),(10,0),(11,0),(12,2),(13,0),(14,0)]).seq (C2.cond (t 38) ((ops 0 [cO 2 (mov (cN 14))]).seq ret) skip)))).seq (ops 0 [cO 16 (cM 3),cO 17 (cB .add (t 16) (cN 1)),cO 3 (cM 17)]))).loop)).seq ((ops 0 [cO 2 (mov (cN 0))]).seq ret)))))
theorem Bg:Is Try.prog 43 b43:=Is.mk' Try.func43 (by kernel_rfl)
def b44:F2:=(F2.mk 43 [RV.t 4] ((ops 0 [cO 4 (mov (cN 0))]).seq (((ops 0 [cO 5 (mov (cN 0))]).seq (block 0 (((ops 0 [cO 7 (cM 5),cO 8 (cM 0),cO 9 (lenS (t 8)),cO 10 (cB .lss (t 7) (t 9)),cO 11 (cM 10),cG 12 11 true (cM 5),cG 13 11 true (cM 1),cG 14 11 true (lenS (t 13)),cG 15 11 true (cB .lss (t 12) (t 14)),cO 16 (pick (t 11) (t 15) aB)]).seq (C2.cond (t 16) skip (exit 0))).seq ((block 1 ((mixS 1 [cO 19 (cM 0),cO 20 (cM 5),cO 21 (ixaS 2 (t 19) (t 20)),cO 22 (ldn 2 (t 21)),cO 23 (cM 1),cO 24 (cM 5),cO 25 (ixaS 2 (t 23) (t 24)),cO 26 (ldn 2 (t 25)),cO 27 (call (cF 72) [t 22,t 26]),cO 6 (cM 27)] [(0,0),(1,0),(2,0),(3,0),(4,0),(5,0),(6,0),(7,0),(8,2),(9,0)]).seq ((ops 0 [cO 28 (cM 6),cO 29 (cB .neq (t 28) (cN 0))]).seq (C2.cond (t 29) ((ops 0 [cO 30 (cM 6),cO 4 (cM 30)]).seq ret) skip)))).seq (ops 0 [cO 17 (cM 5),cO 18 (cB .add (t 17) (cN 1)),cO 5 (cM 18)]))).loop)).seq ((block 2 ((ops 0 [cO 32 (cM 0),cO 33 (lenS (t 32)),cO 34 (cM 1),cO 35 (lenS (t 34)),cO 36 (cB .lss (t 33) (t 35)),cO 31 (cM 36)]).seq (C2.cond (t 31) ((ops 0 [cO 4 (mov (cN ((-1))))]).seq ret) ((ops 0 [cO 38 (cM 0),cO 39 (lenS (t 38)),cO 40 (cM 1),cO 41 (lenS (t 40)),cO 42 (cB .gtr (t 39) (t 41)),cO 37 (cM 42)]).seq (C2.cond (t 37) ((ops 0 [cO 4 (mov (cN 1))]).seq ret) skip))))).seq ((ops 0 [cO 4 (mov (cN 0))]).seq ret)))))
theorem Bm:Is Try.prog 44 b44:=Is.mk' Try.func44 (by kernel_rfl)
def b45:F2:=(F2.mk 9 [RV.t 4] ((ops 0 [cO 4 (mov aB)]).seq ((ops 0 [cO 5 (cM 0),cO 6 (cM 1),cO 7 (call (cF 44) [t 5,t 6]),cO 8 (cB .eql (t 7) (cN 0)),cO 4 (cM 8)]).seq ret)))
theorem A8:Is Try.prog 45 b45:=Is.mk' Try.func45 (by kernel_rfl)
def b46:F2:=(F2.mk 52 [RV.t 2] ((ops 0 [cO 2 (mov (c AV.esl))]).seq ((ops 0 [cO 13 (mkm none),cO 3 (alloc AV.nilm),Op2.mk none none (Ins.st 1 (t 3) (t 13))]).seq (((ops 0 [cO 14 (cM 0),cO 15 (lenS (t 14)),cO 16 (mov (cN 0))]).seq (block 0 ((ops 0 [cO 17 (cB .lss (t 16) (t 15))]).seq ((C2.cond (t 17) skip (exit 0)).seq ((block 1 ((ops 0 [cO 18 (ixaS 1 (t 14) (t 16)),cO 19 (cD 18),cO 5 (cM 19)]).seq ((ops 0 [cO 20 (cM 5),cO 21 (call (cF 51) [t 20])]).seq (block 2 (rangeF (t 21) [22] (ops 0 [cO 6 (cM 22)]) (block 3 ((ops 0 [cO 7 (alloc (AV.agg [AV.int IntKind.i64 (0),AV.int IntKind.i64 (0),AV.int IntKind.i64 (0),AV.int IntKind.i64 (0),AV.int IntKind.i64 (0),AV.int IntKind.i64 (0),AV.int IntKind.i64 (0),AV.int IntKind.i64 (0),AV.int IntKind.i64 (0),AV.int IntKind.i64 (0),AV.int IntKind.i64 (0),AV.int IntKind.i64 (0),AV.int IntKind.i64 (0),AV.int IntKind.i64 (0),AV.int IntKind.i64 (0),AV.int IntKind.i64 (0)]))]).seq ((ops 0 [cO 23 (slp 8 2 (t 7)),cO 24 (cM 6),cO 25 (cpy 2 (t 23) (t 24))]).seq ((ops 0 [cO 27 (cD 3),cO 28 (ldn 16 (t 7)),cO 29 (Ins.mget (MK.st [int,int,int,int,int,int,int,int,int,int,int,int,int,int,int,int]) AV.esl true (t 27) (t 28)),cO 26 (cM 29),cO 30 (ext (t 26) 0),cO 31 (ext (t 26) 1),cO 8 (cM 30),cO 9 (cM 31)]).seq ((ops 0 [cO 32 (cM 9)]).seq (C2.cond (t 32) (ops 0 [cO 33 (cD 3),cO 34 (ldn 16 (t 7)),Op2.mk none none (mdel (MK.st [int,int,int,int,int,int,int,int,int,int,int,int,int,int,int,int]) (t 33) (t 34))]) (ops 0 [cO 35 (cD 3),cO 36 (ldn 16 (t 7)),cO 37 (cM 6),Op2.mk none none (mput (MK.st [int,int,int,int,int,int,int,int,int,int,int,int,int,int,int,int]) (t 35) (t 36) (t 37))])))))))))))).seq (ops 0 [cO 38 (cB .add (t 16) (cN 1)),cO 16 (cM 38)])))).loop)).seq ((ops 0 [cO 10 (mov (c AV.esl))]).seq (((ops 0 [cO 39 (cD 3),cO 40 (mrng (t 39))]).seq (block 4 ((ops 0 [cO 41 (mnxt (t 40)),cO 42 (ext (t 41) 0)]).seq ((C2.cond (t 42) skip (exit 4)).seq (block 5 ((ops 0 [cO 43 (ment (t 40)),cO 44 (ext (t 43) 1),cO 12 (cM 44)]).seq (ops 0 [cO 45 (cM 10),cO 46 (cM 12),cO 47 (bldS 1 1 [AV.esl] [(0,1,t 46)]),cO 48 (app 1 24 (t 45) (t 47)),cO 10 (cM 48)]))))).loop)).seq ((ops 0 [cO 49 (cM 10),cO 50 (call (cF 73) [t 49,c (AV.func 40 [])])]).seq ((ops 0 [cO 51 (cM 10),cO 2 (cM 51)]).seq ret))))))))
theorem A9:Is Try.prog 46 b46:=Is.mk' Try.func46 (by kernel_rfl)
def b48:F2:=(F2.mk 19 [RV.t 2] ((ops 0 [cO 2 (mov aB)]).seq (((ops 0 [cO 4 (cM 0),cO 5 (lenS (t 4)),cO 6 (cB .gtr (t 5) (cN 30))]).seq (C2.cond (t 6) ((ops 0 [cO 2 (mov aB)]).seq ret) skip)).seq (((ops 0 [cO 3 (mov (cN 0))]).seq (block 0 (((ops 0 [cO 7 (cM 3),cO 8 (cM 0),cO 9 (lenS (t 8)),cO 10 (cB .lss (t 7) (t 9))]).seq (C2.cond (t 10) skip (exit 0))).seq ((block 1 ((ops 0 [cO 13 (cM 0),cO 14 (cM 3),cO 15 (ixaS 1 (t 13) (t 14)),cO 16 (cD 15),cO 17 (call (cF 75) [t 16]),cO 18 (un UnOp.not (t 17))]).seq (C2.cond (t 18) ((ops 0 [cO 2 (mov aB)]).seq ret) skip))).seq (ops 0 [cO 11 (cM 3),cO 12 (cB .add (t 11) (cN 1)),cO 3 (cM 12)]))).loop)).seq ((ops 0 [cO 2 (mov aS)]).seq ret)))))
theorem Cf:Is Try.prog 48 b48:=Is.mk' Try.func48 (by kernel_rfl)
def b49:F2:=(F2.mk 60 [RV.t 2] ((ops 0 [cO 1 (box (t 0)),cO 2 (mov (cN 0))]).seq (((ops 0 [cO 9 (fa 0 (t 1)),cO 10 (cD 9),cO 11 (lenS (t 10)),cO 12 (cB .gtr (t 11) (cN 4096))]).seq (C2.cond (t 12) ((ops 0 [cO 2 (mov (cN 5))]).seq ret) skip)).seq (((ops 0 [cO 13 (fa 0 (t 1)),cO 14 (cD 13),cO 15 (lenS (t 14)),cO 16 (mov (cN 0))]).seq (block 0 ((ops 0 [cO 17 (cB .lss (t 16) (t 15))]).seq ((C2.cond (t 17) skip (exit 0)).seq ((block 1 ((ops 0 [cO 18 (cM 16),cO 19 (ixaS 1 (t 14) (t 16)),cO 20 (cD 19),cO 3 (cM 18),cO 4 (cM 20)]).seq (((ops 0 [cO 21 (cM 4),cO 22 (call (cF 42) [t 21]),cO 5 (cM 22)]).seq ((ops 0 [cO 23 (cM 5),cO 24 (cB .neq (t 23) (cN 0))]).seq (C2.cond (t 24) ((ops 0 [cO 25 (cM 5),cO 2 (cM 25)]).seq ret) skip))).seq ((ops 0 [cO 26 (cM 3),cO 27 (cB .gtr (t 26) (cN 0)),cO 28 (cM 27),cG 29 28 true (fa 0 (t 1)),cG 30 28 true (cD 29),cG 31 28 true (cM 3),cG 32 28 true (cB .sub (t 31) (cN 1)),cG 33 28 true (ixaS 1 (t 30) (t 32)),cG 34 28 true (cD 33),cG 35 28 true (cM 4),cG 36 28 true (call (cF 40) [t 34,t 35]),cG 37 28 true (cB .geq (t 36) (cN 0)),cO 38 (pick (t 28) (t 37) aB)]).seq (C2.cond (t 38) ((ops 0 [cO 2 (mov (cN 14))]).seq ret) skip))))).seq (ops 0 [cO 39 (cB .add (t 16) (cN 1)),cO 16 (cM 39)])))).loop)).seq ((ops 0 [cO 40 (fa 0 (t 1)),cO 41 (cD 40),cO 42 (call (cF 76) [t 41]),cO 6 (cM 42)]).seq (((ops 0 [cO 43 (fa 0 (t 1)),cO 44 (cD 43),cO 45 (lenS (t 44)),cO 46 (mov (cN 0))]).seq (block 2 ((ops 0 [cO 47 (cB .lss (t 46) (t 45))]).seq ((C2.cond (t 47) skip (exit 2)).seq ((block 3 ((ops 0 [cO 48 (ixaS 1 (t 44) (t 46)),cO 49 (cD 48),cO 8 (cM 49)]).seq ((mixS 9 [cO 50 (fa 0 (t 1)),cO 51 (cD 50),cO 52 (cM 6),cO 53 (cM 8),cO 54 (ixaS 2 (t 53) (cN 0)),cO 55 (ldn 2 (t 54)),cO 56 (Ins.mget (MK.st [int,int]) AV.esl false (t 52) (t 55)),cO 57 (cM 8),cO 58 (call (cF 77) [t 51,t 56,t 57])] [(0,0),(1,0),(2,0),(3,0),(4,0),(5,0),(7,0),(6,1),(8,2)]).seq (C2.cond (t 58) ((ops 0 [cO 2 (mov (cN 7))]).seq ret) skip)))).seq (ops 0 [cO 59 (cB .add (t 46) (cN 1)),cO 46 (cM 59)])))).loop)).seq ((ops 0 [cO 2 (mov (cN 0))]).seq ret)))))))
theorem BV:Is Try.prog 49 b49:=Is.mk' Try.func49 (by kernel_rfl)
def b50:F2:=(F2.mk 14 [RV.t 4,RV.t 5] ((ops 0 [cO 2 (box (t 0)),cO 4 (mov (c AV.esl)),cO 5 (mov (cN 0))]).seq (((ops 0 [cO 6 (cM 1),cO 7 (cB .lss (t 6) (cN 0))]).seq (C2.cond (t 7) ((ops 0 [cO 4 (mov (c AV.esl)),cO 5 (mov (cN 0))]).seq ret) skip)).seq ((ops 0 [cO 8 (ldn 1 (t 2)),cO 9 (cM 1),cO 10 (cB .add (t 9) (cN 1)),cO 11 (call (cF 56) [t 8,t 10]),cO 12 (ext (t 11) 0),cO 13 (ext (t 11) 1),cO 4 (cM 12),cO 5 (cM 13)]).seq ret))))
theorem BG:Is Try.prog 50 b50:=Is.mk' Try.func50 (by kernel_rfl)
def b51:F2:=(F2.mk 4 [RV.t 2] ((ops 0 [cO 1 (box (t 0)),cO 2 (mov (c AV.nilf))]).seq ((ops 0 [cO 3 (mkfn 78 [t 1]),cO 2 (cM 3)]).seq ret)))
theorem A5:Is Try.prog 51 b51:=Is.mk' Try.func51 (by kernel_rfl)
def b52:F2:=(F2.mk 11 [RV.t 4,RV.t 5] ((ops 0 [cO 4 (mov (cN 0)),cO 5 (mov aB)]).seq ((ops 0 [cO 6 (cM 0),cO 7 (cM 1),cO 8 (call (cF 80) [t 6,t 7,c (AV.func 40 [])]),cO 9 (ext (t 8) 0),cO 10 (ext (t 8) 1),cO 4 (cM 9),cO 5 (cM 10)]).seq ret)))
theorem Cc:Is Try.prog 52 b52:=Is.mk' Try.func52 (by kernel_rfl)
def b55:F2:=(F2.mk 26 [RV.t 4] ((ops 0 [cO 4 (mov aB)]).seq (((ops 0 [cO 6 (cM 0),cO 7 (lenS (t 6)),cO 8 (cM 1),cO 9 (lenS (t 8)),cO 10 (cB .neq (t 7) (t 9))]).seq (C2.cond (t 10) ((ops 0 [cO 4 (mov aB)]).seq ret) skip)).seq (((ops 0 [cO 5 (mov (cN 0))]).seq (block 0 (((ops 0 [cO 11 (cM 5),cO 12 (cM 0),cO 13 (lenS (t 12)),cO 14 (cB .lss (t 11) (t 13))]).seq (C2.cond (t 14) skip (exit 0))).seq ((block 1 ((ops 1 [cO 17 (cM 0),cO 18 (cM 5),cO 19 (ixaS 1 (t 17) (t 18)),cO 20 (cD 19),cO 21 (cM 1),cO 22 (cM 5),cO 23 (ixaS 1 (t 21) (t 22)),cO 24 (cD 23),cO 25 (cB .neq (t 20) (t 24))]).seq (C2.cond (t 25) ((ops 0 [cO 4 (mov aB)]).seq ret) skip))).seq (ops 0 [cO 15 (cM 5),cO 16 (cB .add (t 15) (cN 1)),cO 5 (cM 16)]))).loop)).seq ((ops 0 [cO 4 (mov aS)]).seq ret)))))
theorem Br:Is Try.prog 55 b55:=Is.mk' Try.func55 (by kernel_rfl)
def b56:F2:=(F2.mk 24 [RV.t 4,RV.t 5] ((ops 0 [cO 2 (box (t 0)),cO 4 (mov (c AV.esl)),cO 5 (mov (cN 0))]).seq (((ops 0 [cO 7 (ldn 1 (t 2)),cO 8 (call (cF 49) [t 7]),cO 6 (cM 8)]).seq ((ops 0 [cO 9 (cM 6),cO 10 (cB .neq (t 9) (cN 0))]).seq (C2.cond (t 10) ((ops 0 [cO 11 (cM 6),cO 4 (mov (c AV.esl)),cO 5 (cM 11)]).seq ret) skip))).seq (((ops 0 [cO 12 (cM 1),cO 13 (cB .lss (t 12) (cN 1)),cO 14 (cM 13),cG 15 14 false (cM 1),cG 16 14 false (cB .gtr (t 15) (cN 8)),cO 17 (pick (t 14) aS (t 16))]).seq (C2.cond (t 17) ((ops 0 [cO 4 (mov (c AV.esl)),cO 5 (mov (cN 2))]).seq ret) skip)).seq ((ops 0 [cO 18 (fa 0 (t 2)),cO 19 (cD 18),cO 20 (cM 1),cO 21 (call (cF 81) [t 19,t 20]),cO 22 (ext (t 21) 0),cO 23 (ext (t 21) 1),cO 4 (cM 22),cO 5 (cM 23)]).seq ret)))))
theorem B1:Is Try.prog 56 b56:=Is.mk' Try.func56 (by kernel_rfl)
def b58:F2:=(F2.mk 19 [RV.t 2] ((ops 0 [cO 2 (mov (c AV.esl))]).seq ((ops 0 [cO 3 (mov (c AV.esl))]).seq (((ops 0 [cO 6 (cM 0),cO 7 (lenS (t 6)),cO 8 (mov (cN 0))]).seq (block 0 ((ops 0 [cO 9 (cB .lss (t 8) (t 7))]).seq ((C2.cond (t 9) skip (exit 0)).seq ((block 1 ((ops 0 [cO 10 (ixaS 1 (t 6) (t 8)),cO 11 (cD 10),cO 5 (cM 11)]).seq (ops 0 [cO 12 (cM 3),cO 13 (cM 5),cO 14 (call (cF 83) [t 13]),cO 15 (bldS 1 1 [AV.esl] [(0,1,t 14)]),cO 16 (app 1 24 (t 12) (t 15)),cO 3 (cM 16)]))).seq (ops 0 [cO 17 (cB .add (t 8) (cN 1)),cO 8 (cM 17)])))).loop)).seq ((ops 0 [cO 18 (cM 3),cO 2 (cM 18)]).seq ret)))))
theorem Bs:Is Try.prog 58 b58:=Is.mk' Try.func58 (by kernel_rfl)
def b60:F2:=(F2.mk 19 [RV.t 4] ((ops 0 [cO 4 (mov aB)]).seq (((ops 0 [cO 5 (mov (cN 0))]).seq (block 0 (((ops 0 [cO 6 (cM 5),cO 7 (cM 0),cO 8 (lenS (t 7)),cO 9 (cB .lss (t 6) (t 8))]).seq (C2.cond (t 9) skip (exit 0))).seq ((block 1 ((ops 0 [cO 12 (cM 1),cO 13 (cM 0),cO 14 (cM 5),cO 15 (ixaS 2 (t 13) (t 14)),cO 16 (ldn 2 (t 15)),cO 17 (call (cF 84) [t 12,t 16]),cO 18 (un UnOp.not (t 17))]).seq (C2.cond (t 18) ((ops 0 [cO 4 (mov aB)]).seq ret) skip))).seq (ops 0 [cO 10 (cM 5),cO 11 (cB .add (t 10) (cN 1)),cO 5 (cM 11)]))).loop)).seq ((ops 0 [cO 4 (mov aS)]).seq ret))))
theorem BE:Is Try.prog 60 b60:=Is.mk' Try.func60 (by kernel_rfl)
def b61:F2:=(F2.mk 35 [RV.t 2] ((ops 0 [cO 1 (box (t 0)),cO 2 (mov (cN 0))]).seq ((block 0 ((ops 0 [cO 7 (fa 0 (t 1)),cO 8 (cD 7),cO 9 (cB .lss (t 8) (cN 0)),cO 10 (cM 9),cG 11 10 false (fa 0 (t 1)),cG 12 10 false (cD 11),cG 13 10 false (cB .gtr (t 12) (cN 4096)),cO 14 (pick (t 10) aS (t 13)),cO 6 (cM 14)]).seq (C2.cond (t 6) ((ops 0 [cO 2 (mov (cN 2))]).seq ret) ((ops 0 [cO 16 (fa 1 (t 1)),cO 17 (cD 16),cO 18 (lenS (t 17)),cO 19 (cB .gtr (t 18) (cN 4096)),cO 15 (cM 19)]).seq (C2.cond (t 15) ((ops 0 [cO 2 (mov (cN 5))]).seq ret) skip))))).seq (((ops 0 [cO 20 (fa 1 (t 1)),cO 21 (cD 20),cO 22 (lenS (t 21)),cO 23 (mov (cN 0))]).seq (block 1 ((ops 0 [cO 24 (cB .lss (t 23) (t 22))]).seq ((C2.cond (t 24) skip (exit 1)).seq ((block 2 ((ops 0 [cO 25 (ixaS 1 (t 21) (t 23)),cO 26 (cD 25),cO 4 (cM 26)]).seq ((ops 0 [cO 27 (cM 4),cO 28 (fa 0 (t 1)),cO 29 (cD 28),cO 30 (call (cF 62) [t 27,t 29]),cO 5 (cM 30)]).seq ((ops 0 [cO 31 (cM 5),cO 32 (cB .neq (t 31) (cN 0))]).seq (C2.cond (t 32) ((ops 0 [cO 33 (cM 5),cO 2 (cM 33)]).seq ret) skip))))).seq (ops 0 [cO 34 (cB .add (t 23) (cN 1)),cO 23 (cM 34)])))).loop)).seq ((ops 0 [cO 2 (mov (cN 0))]).seq ret)))))
theorem Bp:Is Try.prog 61 b61:=Is.mk' Try.func61 (by kernel_rfl)
def b62:F2:=(F2.mk 35 [RV.t 4] ((ops 0 [cO 4 (mov (cN 0))]).seq (((ops 0 [cO 7 (cM 0),cO 8 (lenS (t 7)),cO 9 (mov (cN 0))]).seq (block 0 ((ops 0 [cO 10 (cB .lss (t 9) (t 8))]).seq ((C2.cond (t 10) skip (exit 0)).seq ((block 1 ((ops 0 [cO 11 (cM 9),cO 12 (ixaS 1 (t 7) (t 9)),cO 13 (cD 12),cO 5 (cM 11),cO 6 (cM 13)]).seq (block 2 ((ops 0 [cO 15 (cM 6),cO 16 (cB .lss (t 15) (cN 0)),cO 17 (cM 16),cG 18 17 false (cM 6),cG 19 17 false (cM 1),cG 20 17 false (cB .geq (t 18) (t 19)),cO 21 (pick (t 17) aS (t 20)),cO 14 (cM 21)]).seq (C2.cond (t 14) ((ops 0 [cO 4 (mov (cN 2))]).seq ret) ((ops 0 [cO 23 (cM 5),cO 24 (cB .gtr (t 23) (cN 0)),cO 25 (cM 24),cG 26 25 true (cM 0),cG 27 25 true (cM 5),cG 28 25 true (cB .sub (t 27) (cN 1)),cG 29 25 true (ixaS 1 (t 26) (t 28)),cG 30 25 true (cD 29),cG 31 25 true (cM 6),cG 32 25 true (cB .geq (t 30) (t 31)),cO 33 (pick (t 25) (t 32) aB),cO 22 (cM 33)]).seq (C2.cond (t 22) ((ops 0 [cO 4 (mov (cN 14))]).seq ret) skip))))))).seq (ops 0 [cO 34 (cB .add (t 9) (cN 1)),cO 9 (cM 34)])))).loop)).seq ((ops 0 [cO 4 (mov (cN 0))]).seq ret))))
theorem Be:Is Try.prog 62 b62:=Is.mk' Try.func62 (by kernel_rfl)
def b64:F2:=(F2.mk 13 [RV.t 4] ((ops 0 [cO 2 (box (t 0)),cO 3 (box (t 1)),cO 4 (mov (cN 0))]).seq (((ops 0 [cO 6 (ldn 2 (t 2)),cO 7 (call (cF 61) [t 6]),cO 5 (cM 7)]).seq ((ops 0 [cO 8 (cM 5),cO 9 (cB .neq (t 8) (cN 0))]).seq (C2.cond (t 9) ((ops 0 [cO 10 (cM 5),cO 4 (cM 10)]).seq ret) skip))).seq ((ops 0 [cO 11 (ldn 2 (t 3)),cO 12 (call (cF 61) [t 11]),cO 4 (cM 12)]).seq ret))))
theorem A7:Is Try.prog 64 b64:=Is.mk' Try.func64 (by kernel_rfl)
def b65:F2:=(F2.mk 6 [RV.t 4] ((ops 0 [cO 2 (box (t 0)),cO 3 (box (t 1)),cO 4 (mov (c AV.nilf))]).seq ((ops 0 [cO 5 (mkfn 86 [t 2,t 3]),cO 4 (cM 5)]).seq ret)))
theorem Bn:Is Try.prog 65 b65:=Is.mk' Try.func65 (by kernel_rfl)
def b66:F2:=(F2.mk 47 [RV.t 4] ((ops 0 [cO 4 (mov (c AV.esl))]).seq (((ops 0 [cO 9 (cM 1),cO 10 (cB .eql (t 9) (cN 0))]).seq (C2.cond (t 10) ((ops 0 [cO 11 (bldS 1 1 [AV.esl] [(0,1,c AV.esl)]),cO 4 (cM 11)]).seq ret) skip)).seq ((ops 0 [cO 5 (mov (c AV.esl))]).seq (((ops 0 [cO 6 (mov (cN 0))]).seq (block 0 (((ops 0 [cO 12 (cM 6),cO 13 (cM 1),cO 14 (cB .add (t 12) (t 13)),cO 15 (cM 0),cO 16 (lenS (t 15)),cO 17 (cB .leq (t 14) (t 16))]).seq (C2.cond (t 17) skip (exit 0))).seq ((block 1 ((ops 0 [cO 20 (cM 0),cO 21 (cM 6),cO 22 (cB .add (t 21) (cN 1)),cO 23 (sls 2 (t 20) (some (t 22)) none none),cO 24 (cM 1),cO 25 (cB .sub (t 24) (cN 1)),cO 26 (call (cF 66) [t 23,t 25]),cO 7 (cM 26)]).seq ((ops 0 [cO 8 (mov (cN 0))]).seq (block 2 (((ops 0 [cO 27 (cM 8),cO 28 (cM 7),cO 29 (lenS (t 28)),cO 30 (cB .lss (t 27) (t 29))]).seq (C2.cond (t 30) skip (exit 2))).seq ((block 3 (mixS 9 [cO 33 (cM 5),cO 34 (cM 0),cO 35 (cM 6),cO 36 (ixaS 2 (t 34) (t 35)),cO 37 (ldn 2 (t 36)),cO 38 (bldS 2 1 [AV.int IntKind.i64 (0),AV.int IntKind.i64 (0)] [(0,2,t 37)]),cO 39 (cM 7),cO 40 (cM 8),cO 41 (ixaS 1 (t 39) (t 40)),cO 42 (cD 41),cO 43 (app 2 16 (t 38) (t 42)),cO 44 (bldS 1 1 [AV.esl] [(0,1,t 43)]),cO 45 (app 1 24 (t 33) (t 44)),cO 5 (cM 45)] [(0,0),(1,0),(2,0),(3,0),(4,0),(6,0),(7,0),(8,0),(9,0),(5,1),(10,2),(11,3),(12,2),(13,0)])).seq (ops 0 [cO 31 (cM 8),cO 32 (cB .add (t 31) (cN 1)),cO 8 (cM 32)]))).loop)))).seq (ops 0 [cO 18 (cM 6),cO 19 (cB .add (t 18) (cN 1)),cO 6 (cM 19)]))).loop)).seq ((ops 0 [cO 46 (cM 5),cO 4 (cM 46)]).seq ret))))))
theorem AW:Is Try.prog 66 b66:=Is.mk' Try.func66 (by kernel_rfl)
def b67:F2:=(F2.mk 48 [RV.t 4] ((ops 0 [cO 4 (mov (c AV.esl))]).seq ((ops 0 [cO 5 (mov (c AV.esl))]).seq ((ops 0 [cO 6 (mov aB)]).seq (((ops 0 [cO 7 (mov (cN 0))]).seq (block 0 (((ops 0 [cO 9 (cM 7),cO 10 (cM 0),cO 11 (lenS (t 10)),cO 12 (cB .lss (t 9) (t 11))]).seq (C2.cond (t 12) skip (exit 0))).seq ((block 1 ((ops 0 [cO 15 (cM 1),cO 16 (cM 0),cO 17 (cM 7),cO 18 (ixaS 1 (t 16) (t 17)),cO 19 (cD 18),cO 20 (call (cF 44) [t 15,t 19]),cO 8 (cM 20)]).seq (((ops 0 [cO 21 (cM 8),cO 22 (cB .eql (t 21) (cN 0))]).seq (C2.cond (t 22) ((ops 0 [cO 23 (cM 0),cO 4 (cM 23)]).seq ret) skip)).seq (((ops 0 [cO 24 (cM 6),cO 25 (un UnOp.not (t 24)),cO 26 (cM 25),cG 27 26 true (cM 8),cG 28 26 true (cB .lss (t 27) (cN 0)),cO 29 (pick (t 26) (t 28) aB)]).seq (C2.cond (t 29) (ops 0 [cO 30 (cM 5),cO 31 (cM 1),cO 32 (bldS 1 1 [AV.esl] [(0,1,t 31)]),cO 33 (app 1 24 (t 30) (t 32)),cO 5 (cM 33),cO 6 (mov aS)]) skip)).seq (ops 0 [cO 34 (cM 5),cO 35 (cM 0),cO 36 (cM 7),cO 37 (ixaS 1 (t 35) (t 36)),cO 38 (cD 37),cO 39 (bldS 1 1 [AV.esl] [(0,1,t 38)]),cO 40 (app 1 24 (t 34) (t 39)),cO 5 (cM 40)]))))).seq (ops 0 [cO 13 (cM 7),cO 14 (cB .add (t 13) (cN 1)),cO 7 (cM 14)]))).loop)).seq (((ops 0 [cO 41 (cM 6),cO 42 (un UnOp.not (t 41))]).seq (C2.cond (t 42) (ops 0 [cO 43 (cM 5),cO 44 (cM 1),cO 45 (bldS 1 1 [AV.esl] [(0,1,t 44)]),cO 46 (app 1 24 (t 43) (t 45)),cO 5 (cM 46)]) skip)).seq ((ops 0 [cO 47 (cM 5),cO 4 (cM 47)]).seq ret)))))))
theorem B4:Is Try.prog 67 b67:=Is.mk' Try.func67 (by kernel_rfl)
def b68:F2:=(F2.mk 39 [RV.t 6] ((ops 0 [cO 6 (mov (cN 0))]).seq (((ops 0 [cO 11 (cM 0),cO 12 (lenS (t 11)),cO 13 (mov (cN 0))]).seq (block 0 ((ops 0 [cO 14 (cB .lss (t 13) (t 12))]).seq ((C2.cond (t 14) skip (exit 0)).seq ((block 1 ((ops 0 [cO 15 (cM 13),cO 16 (ixaS 2 (t 11) (t 13)),cO 17 (ldn 2 (t 16)),cO 8 (alloc (AV.agg [AV.int IntKind.i64 (0),AV.int IntKind.i64 (0)])),cO 7 (cM 15),Op2.mk none none (Ins.st 2 (t 8) (t 17))]).seq (((ops 0 [cO 18 (cM 7),cO 19 (cM 1),cO 20 (lenS (t 19)),cO 21 (cB .geq (t 18) (t 20))]).seq (C2.cond (t 21) ((ops 0 [cO 6 (mov (cN 1))]).seq ret) skip)).seq ((ops 0 [cO 22 (cM 1),cO 23 (cM 7),cO 24 (ixaS 2 (t 22) (t 23)),cO 25 (ldn 2 (t 24)),cO 9 (alloc (AV.agg [AV.int IntKind.i64 (0),AV.int IntKind.i64 (0)])),Op2.mk none none (Ins.st 2 (t 9) (t 25))]).seq ((ops 0 [cO 26 (cM 2),cO 27 (ldn 2 (t 8)),cO 28 (ldn 2 (t 9)),cO 29 (call (t 26) [t 27,t 28]),cO 10 (cM 29)]).seq ((ops 0 [cO 30 (cM 10),cO 31 (cB .neq (t 30) (cN 0))]).seq (C2.cond (t 31) ((ops 0 [cO 32 (cM 10),cO 6 (cM 32)]).seq ret) skip))))))).seq (ops 0 [cO 33 (cB .add (t 13) (cN 1)),cO 13 (cM 33)])))).loop)).seq (((ops 0 [cO 34 (cM 0),cO 35 (lenS (t 34)),cO 36 (cM 1),cO 37 (lenS (t 36)),cO 38 (cB .lss (t 35) (t 37))]).seq (C2.cond (t 38) ((ops 0 [cO 6 (mov (cN ((-1))))]).seq ret) skip)).seq ((ops 0 [cO 6 (mov (cN 0))]).seq ret)))))
theorem BR:Is Try.prog 68 b68:=Is.mk' Try.func68 (by kernel_rfl)
def b69:F2:=(F2.mk 17 [RV.t 4] ((ops 0 [cO 2 (box (t 0)),cO 3 (box (t 1)),cO 4 (mov (cN 0))]).seq ((mixS 1 [cO 5 (fa 0 (t 2)),cO 6 (cD 5),cO 7 (fa 0 (t 3)),cO 8 (cD 7),cO 9 (call (cF 88) [t 6,t 8]),cO 10 (fa 1 (t 2)),cO 11 (cD 10),cO 12 (fa 1 (t 3)),cO 13 (cD 12),cO 14 (call (cF 88) [t 11,t 13]),cO 15 (bldS 1 2 [AV.int IntKind.i64 (0)] [(0,1,t 9),(1,1,t 14)]),cO 16 (call (cF 87) [t 15]),cO 4 (cM 16)] [(0,0),(1,0),(2,0),(3,0),(5,0),(6,0),(7,0),(8,0),(4,1),(9,2),(10,2),(11,2),(12,0)]).seq ret)))
theorem B2:Is Try.prog 69 b69:=Is.mk' Try.func69 (by kernel_rfl)
def b70:F2:=(F2.mk 21 [RV.t 2] ((ops 0 [cO 1 (box (t 0)),cO 2 (mov aB)]).seq ((ops 0 [cO 3 (fa 0 (t 1)),cO 4 (cD 3),cO 5 (cB .geq (t 4) (cN 0)),cO 6 (cM 5),cG 7 6 true (fa 0 (t 1)),cG 8 6 true (cD 7),cG 9 6 true (cB .lss (t 8) (cN 8)),cO 10 (pick (t 6) (t 9) aB),cO 11 (cM 10),cG 12 11 true (fa 1 (t 1)),cG 13 11 true (cD 12),cG 14 11 true (cB .geq (t 13) (cN 0)),cO 15 (pick (t 11) (t 14) aB),cO 16 (cM 15),cG 17 16 true (fa 1 (t 1)),cG 18 16 true (cD 17),cG 19 16 true (cB .leq (t 18) (cN 1048576)),cO 20 (pick (t 16) (t 19) aB),cO 2 (cM 20)]).seq ret)))
theorem B9:Is Try.prog 70 b70:=Is.mk' Try.func70 (by kernel_rfl)
def b71:F2:=(F2.mk 21 [RV.t 2] ((ops 0 [cO 1 (box (t 0)),cO 2 (mov aB)]).seq ((ops 0 [cO 3 (fa 0 (t 1)),cO 4 (cD 3),cO 5 (cB .geq (t 4) (cN 0)),cO 6 (cM 5),cG 7 6 true (fa 0 (t 1)),cG 8 6 true (cD 7),cG 9 6 true (cB .lss (t 8) (cN 8)),cO 10 (pick (t 6) (t 9) aB),cO 11 (cM 10),cG 12 11 true (fa 1 (t 1)),cG 13 11 true (cD 12),cG 14 11 true (cB .geq (t 13) (cN 0)),cO 15 (pick (t 11) (t 14) aB),cO 16 (cM 15),cG 17 16 true (fa 1 (t 1)),cG 18 16 true (cD 17),cG 19 16 true (cB .leq (t 18) (cN 1048576)),cO 20 (pick (t 16) (t 19) aB),cO 2 (cM 20)]).seq ret)))
theorem Bi:Is Try.prog 71 b71:=Is.mk' Try.func71 (by kernel_rfl)
def b72:F2:=(F2.mk 29 [RV.t 4] ((ops 0 [cO 2 (box (t 0)),cO 3 (box (t 1)),cO 4 (mov (cN 0))]).seq ((block 0 ((ops 0 [cO 6 (fa 0 (t 2)),cO 7 (cD 6),cO 8 (fa 0 (t 3)),cO 9 (cD 8),cO 10 (cB .lss (t 7) (t 9)),cO 5 (cM 10)]).seq (C2.cond (t 5) ((ops 0 [cO 4 (mov (cN ((-1))))]).seq ret) ((ops 0 [cO 12 (fa 0 (t 2)),cO 13 (cD 12),cO 14 (fa 0 (t 3)),cO 15 (cD 14),cO 16 (cB .gtr (t 13) (t 15)),cO 11 (cM 16)]).seq (C2.cond (t 11) ((ops 0 [cO 4 (mov (cN 1))]).seq ret) ((ops 0 [cO 18 (fa 1 (t 2)),cO 19 (cD 18),cO 20 (fa 1 (t 3)),cO 21 (cD 20),cO 22 (cB .lss (t 19) (t 21)),cO 17 (cM 22)]).seq (C2.cond (t 17) ((ops 0 [cO 4 (mov (cN ((-1))))]).seq ret) ((ops 0 [cO 24 (fa 1 (t 2)),cO 25 (cD 24),cO 26 (fa 1 (t 3)),cO 27 (cD 26),cO 28 (cB .gtr (t 25) (t 27)),cO 23 (cM 28)]).seq (C2.cond (t 23) ((ops 0 [cO 4 (mov (cN 1))]).seq ret) skip))))))))).seq ((ops 0 [cO 4 (mov (cN 0))]).seq ret))))
theorem BN:Is Try.prog 72 b72:=Is.mk' Try.func72 (by kernel_rfl)
def b73:F2:=(F2.mk 14 [] ((ops 0 [cO 5 (cM 0),cO 6 (lenS (t 5)),cO 4 (cM 6)]).seq (ops 0 [cO 7 (cM 0),cO 8 (cM 4),cO 9 (cM 4),cO 10 (conv IntKind.u64 (t 9)),cO 11 (call (cF 90) [t 10]),cO 12 (cM 1),cO 13 (call (cF 89) [t 7,cN ((0)),t 8,t 11,t 12])])))
theorem Ab:Is Try.prog 73 b73:=Is.mk' Try.func73 (by kernel_rfl)
def b75:F2:=(F2.mk 6 [RV.t 2] ((ops 0 [cO 2 (mov aB)]).seq ((ops 0 [cO 3 (cM 0),cO 4 (lenS (t 3)),cO 5 (cB .leq (t 4) (cN 10)),cO 2 (cM 5)]).seq ret)))
theorem Bd:Is Try.prog 75 b75:=Is.mk' Try.func75 (by kernel_rfl)
def b76:F2:=(F2.mk 33 [RV.t 2] ((ops 0 [cO 2 (mov (c AV.nilm))]).seq ((ops 0 [cO 8 (mkm none),cO 3 (cM 8)]).seq (((ops 0 [cO 9 (cM 0),cO 10 (lenS (t 9)),cO 11 (mov (cN 0))]).seq (block 0 ((ops 0 [cO 12 (cB .lss (t 11) (t 10))]).seq ((C2.cond (t 12) skip (exit 0)).seq ((block 1 ((ops 0 [cO 13 (cM 11),cO 14 (ixaS 1 (t 9) (t 11)),cO 15 (cD 14),cO 4 (cM 13),cO 5 (cM 15)]).seq ((ops 0 [cO 16 (cM 5),cO 17 (lenS (t 16)),cO 18 (mov (cN 0))]).seq (block 2 ((ops 0 [cO 19 (cB .lss (t 18) (t 17))]).seq ((C2.cond (t 19) skip (exit 2)).seq ((block 3 ((ops 0 [cO 20 (ixaS 2 (t 16) (t 18)),cO 21 (ldn 2 (t 20)),cO 7 (alloc (AV.agg [AV.int IntKind.i64 (0),AV.int IntKind.i64 (0)])),Op2.mk none none (Ins.st 2 (t 7) (t 21))]).seq (ops 0 [cO 22 (cM 3),cO 23 (ldn 2 (t 7)),cO 25 (cM 4),cO 26 (bldS 1 1 [AV.int IntKind.i64 (0)] [(0,1,t 25)]),cO 27 (mplc (MK.st [int,int]) AV.esl (t 22) (t 23)),cO 24 (ext (t 27) 0),cO 28 (app 1 8 (t 24) (t 26)),cO 29 (ext (t 27) 1),Op2.mk none none (mpst (t 22) (t 29) (t 28))]))).seq (ops 0 [cO 30 (cB .add (t 18) (cN 1)),cO 18 (cM 30)])))).loop)))).seq (ops 0 [cO 31 (cB .add (t 11) (cN 1)),cO 11 (cM 31)])))).loop)).seq ((ops 0 [cO 32 (cM 3),cO 2 (cM 32)]).seq ret)))))
theorem BI:Is Try.prog 76 b76:=Is.mk' Try.func76 (by kernel_rfl)
def b77:F2:=(F2.mk 10 [RV.t 6] ((ops 0 [cO 3 (box (t 0)),cO 5 (box (t 2)),cO 6 (mov aB)]).seq ((ops 0 [cO 7 (cM 1),cO 8 (mkfn 92 [t 3,t 5]),cO 9 (call (cF 91) [t 7,t 8]),cO 6 (cM 9)]).seq ret)))
theorem BO:Is Try.prog 77 b77:=Is.mk' Try.func77 (by kernel_rfl)
def b78:F2:=(F2.mk 27 [] ((ops 0 [cO 4 (cD 1),cO 5 (lenS (t 4)),cO 6 (mov (cN 0))]).seq (block 0 ((ops 0 [cO 7 (cB .lss (t 6) (t 5))]).seq ((C2.cond (t 7) skip (exit 0)).seq ((block 1 ((ops 0 [cO 8 (cM 6),cO 3 (cM 8)]).seq ((mixS 1 [cO 9 (cD 1),cO 10 (lenS (t 9)),cO 11 (cB .gtr (t 10) (cN 1)),cO 12 (cM 11),cG 13 12 true (cM 0),cG 14 12 true (cD 1),cG 15 12 true (cM 3),cG 16 12 true (sls 2 (t 14) none (some (t 15)) none),cG 17 12 true (cD 1),cG 18 12 true (cM 3),cG 19 12 true (cB .add (t 18) (cN 1)),cG 20 12 true (sls 2 (t 17) (some (t 19)) none none),cG 21 12 true (bldS 1 2 [AV.esl] [(0,1,t 16),(1,1,t 20)]),cG 22 12 true (call (cF 79) [t 21]),cG 23 12 true (call (t 13) [t 22]),cG 24 12 true (un UnOp.not (t 23)),cO 25 (pick (t 12) (t 24) aB)] [(0,0),(1,0),(2,0),(3,0),(4,0),(5,0),(6,0),(7,0),(8,0),(9,0),(10,0),(11,0),(12,2),(13,2),(14,2),(15,0),(16,0)]).seq (C2.cond (t 25) ret skip)))).seq (ops 0 [cO 26 (cB .add (t 6) (cN 1)),cO 6 (cM 26)])))).loop)))
theorem B0:Is Try.prog 78 b78:=Is.mk' Try.func78 (by kernel_rfl)
def b79:F2:=(F2.mk 36 [RV.t 2] ((ops 0 [cO 2 (mov (c AV.esl))]).seq ((ops 0 [cO 3 (mov (cN 0))]).seq (((ops 0 [cO 9 (cM 0),cO 10 (lenS (t 9)),cO 11 (mov (cN 0))]).seq (block 0 ((ops 0 [cO 12 (cB .lss (t 11) (t 10))]).seq ((C2.cond (t 12) skip (exit 0)).seq ((block 1 ((ops 0 [cO 13 (ixaS 1 (t 9) (t 11)),cO 14 (cD 13),cO 5 (cM 14)]).seq ((ops 0 [cO 15 (cM 3),cO 16 (cM 5),cO 17 (lenS (t 16)),cO 18 (cB .add (t 15) (t 17)),cO 3 (cM 18)]).seq ((ops 0 [cO 19 (cM 3),cO 20 (cB .lss (t 19) (cN 0))]).seq (C2.cond (t 20) (ops 0 [cO 21 dead,Op2.mk none none dead]) skip))))).seq (ops 0 [cO 22 (cB .add (t 11) (cN 1)),cO 11 (cM 22)])))).loop)).seq ((ops 0 [cO 23 (cM 3),cO 24 (call (cF 94) [c AV.esl,t 23]),cO 6 (cM 24)]).seq (((ops 0 [cO 25 (cM 0),cO 26 (lenS (t 25)),cO 27 (mov (cN 0))]).seq (block 2 ((ops 0 [cO 28 (cB .lss (t 27) (t 26))]).seq ((C2.cond (t 28) skip (exit 2)).seq ((block 3 ((ops 0 [cO 29 (ixaS 1 (t 25) (t 27)),cO 30 (cD 29),cO 8 (cM 30)]).seq (ops 0 [cO 31 (cM 6),cO 32 (cM 8),cO 33 (app 2 16 (t 31) (t 32)),cO 6 (cM 33)]))).seq (ops 0 [cO 34 (cB .add (t 27) (cN 1)),cO 27 (cM 34)])))).loop)).seq ((ops 0 [cO 35 (cM 6),cO 2 (cM 35)]).seq ret)))))))
theorem Bk:Is Try.prog 79 b79:=Is.mk' Try.func79 (by kernel_rfl)
def b80:F2:=(F2.mk 49 [RV.t 6,RV.t 7] ((ops 0 [cO 6 (mov (cN 0)),cO 7 (mov aB)]).seq ((ops 0 [cO 12 (cM 0),cO 13 (lenS (t 12)),cO 8 (cM 13)]).seq ((ops 0 [cO 14 (cM 8),cO 9 (mov (cN 0)),cO 10 (cM 14)]).seq ((block 0 (((ops 0 [cO 15 (cM 9),cO 16 (cM 10),cO 17 (cB .lss (t 15) (t 16))]).seq (C2.cond (t 17) skip (exit 0))).seq (block 1 ((ops 0 [cO 18 (cM 9),cO 19 (cM 10),cO 20 (cB .add (t 18) (t 19)),cO 21 (conv IntKind.u64 (t 20)),cO 22 (cB .shr (t 21) (c (AV.int IntKind.u64 (1)))),cO 23 (conv IntKind.i64 (t 22)),cO 11 (cM 23)]).seq ((ops 0 [cO 24 (cM 2),cO 25 (cM 0),cO 26 (cM 11),cO 27 (ixaS 1 (t 25) (t 26)),cO 28 (cD 27),cO 29 (cM 1),cO 30 (call (t 24) [t 28,t 29]),cO 31 (cB .lss (t 30) (cN 0))]).seq (C2.cond (t 31) (ops 0 [cO 32 (cM 11),cO 33 (cB .add (t 32) (cN 1)),cO 9 (cM 33)]) (ops 0 [cO 34 (cM 11),cO 10 (cM 34)])))))).loop).seq ((ops 0 [cO 35 (cM 9),cO 36 (cM 9),cO 37 (cM 8),cO 38 (cB .lss (t 36) (t 37)),cO 39 (cM 38),cG 40 39 true (cM 2),cG 41 39 true (cM 0),cG 42 39 true (cM 9),cG 43 39 true (ixaS 1 (t 41) (t 42)),cG 44 39 true (cD 43),cG 45 39 true (cM 1),cG 46 39 true (call (t 40) [t 44,t 45]),cG 47 39 true (cB .eql (t 46) (cN 0)),cO 48 (pick (t 39) (t 47) aB),cO 6 (cM 35),cO 7 (cM 48)]).seq ret))))))
theorem BM:Is Try.prog 80 b80:=Is.mk' Try.func80 (by kernel_rfl)
def b81:F2:=(F2.mk 60 [RV.t 4,RV.t 5] ((ops 0 [cO 4 (mov (c AV.esl)),cO 5 (mov (cN 0))]).seq ((ops 0 [cO 14 (mkm none),cO 6 (cM 14)]).seq ((ops 0 [cO 7 (mov (c AV.esl))]).seq (((ops 0 [cO 15 (cM 0),cO 16 (lenS (t 15)),cO 17 (mov (cN 0))]).seq (block 0 ((ops 0 [cO 18 (cB .lss (t 17) (t 16))]).seq ((C2.cond (t 18) skip (exit 0)).seq ((block 1 ((ops 0 [cO 19 (ixaS 1 (t 15) (t 17)),cO 20 (cD 19),cO 9 (cM 20)]).seq (((ops 0 [cO 21 (cM 9),cO 22 (lenS (t 21)),cO 23 (cM 1),cO 24 (cB .lss (t 22) (t 23))]).seq (C2.cond (t 24) (exit 1) skip)).seq ((ops 0 [cO 26 (cM 9),cO 27 (cM 1),cO 28 (call (cF 95) [t 26,t 27]),cO 25 (cM 28),cO 29 (ext (t 25) 0),cO 30 (ext (t 25) 1),cO 10 (cM 29),cO 11 (cM 30)]).seq (((ops 0 [cO 31 (cM 11),cO 32 (cB .neq (t 31) (cN 0))]).seq (C2.cond (t 32) ((ops 0 [cO 33 (cM 11),cO 4 (mov (c AV.esl)),cO 5 (cM 33)]).seq ret) skip)).seq (((ops 0 [cO 34 (cM 10),cO 35 (lenS (t 34)),cO 36 (mov (cN 0))]).seq (block 2 ((ops 0 [cO 37 (cB .lss (t 36) (t 35))]).seq ((C2.cond (t 37) skip (exit 2)).seq ((block 3 ((ops 0 [cO 38 (ixaS 1 (t 34) (t 36)),cO 39 (cD 38),cO 13 (cM 39)]).seq ((ops 0 [cO 40 (cM 6),cO 41 (cM 13),cO 42 (call (cF 96) [t 41]),cO 43 (Ins.mget (MK.st [int,int,int,int,int,int,int,int,int,int,int,int,int,int,int,int]) (AV.bool false) false (t 40) (t 42)),cO 44 (un UnOp.not (t 43))]).seq (C2.cond (t 44) ((ops 0 [cO 45 (cM 6),cO 46 (cM 13),cO 47 (call (cF 96) [t 46]),Op2.mk none none (mput (MK.st [int,int,int,int,int,int,int,int,int,int,int,int,int,int,int,int]) (t 45) (t 47) aS)]).seq (ops 0 [cO 48 (cM 7),cO 49 (cM 13),cO 50 (bldS 1 1 [AV.esl] [(0,1,t 49)]),cO 51 (app 1 24 (t 48) (t 50)),cO 7 (cM 51)])) skip)))).seq (ops 0 [cO 52 (cB .add (t 36) (cN 1)),cO 36 (cM 52)])))).loop)).seq ((ops 0 [cO 53 (cM 7),cO 54 (lenS (t 53)),cO 55 (cB .gtr (t 54) (cN 4096))]).seq (C2.cond (t 55) ((ops 0 [cO 4 (mov (c AV.esl)),cO 5 (mov (cN 17))]).seq ret) skip)))))))).seq (ops 0 [cO 56 (cB .add (t 17) (cN 1)),cO 17 (cM 56)])))).loop)).seq ((ops 0 [cO 57 (cM 7),cO 58 (call (cF 73) [t 57,c (AV.func 40 [])])]).seq ((ops 0 [cO 59 (cM 7),cO 4 (cM 59),cO 5 (mov (cN 0))]).seq ret)))))))
theorem Bc:Is Try.prog 81 b81:=Is.mk' Try.func81 (by kernel_rfl)
def b83:F2:=(F2.mk 8 [RV.t 2] ((ops 0 [cO 2 (mov (c AV.esl))]).seq (((ops 0 [cO 3 (cM 0),cO 4 (snil false (t 3))]).seq (C2.cond (t 4) ((ops 0 [cO 2 (mov (c AV.esl))]).seq ret) skip)).seq ((ops 0 [cO 5 (bldS 2 0 [AV.int IntKind.i64 (0),AV.int IntKind.i64 (0)] []),cO 6 (cM 0),cO 7 (app 2 16 (t 5) (t 6)),cO 2 (cM 7)]).seq ret))))
theorem Av:Is Try.prog 83 b83:=Is.mk' Try.func83 (by kernel_rfl)
def b84:F2:=(F2.mk 18 [RV.t 4] ((ops 0 [cO 3 (box (t 1)),cO 4 (mov aB)]).seq (((ops 0 [cO 5 (mov (cN 0))]).seq (block 0 (((ops 0 [cO 6 (cM 5),cO 7 (cM 0),cO 8 (lenS (t 7)),cO 9 (cB .lss (t 6) (t 8))]).seq (C2.cond (t 9) skip (exit 0))).seq ((block 1 ((ops 1 [cO 12 (cM 0),cO 13 (cM 5),cO 14 (ixaS 2 (t 12) (t 13)),cO 15 (ldn 2 (t 14)),cO 16 (ldn 2 (t 3)),cO 17 (binS BinOp.eql [int,int] (t 15) (t 16))]).seq (C2.cond (t 17) ((ops 0 [cO 4 (mov aS)]).seq ret) skip))).seq (ops 0 [cO 10 (cM 5),cO 11 (cB .add (t 10) (cN 1)),cO 5 (cM 11)]))).loop)).seq ((ops 0 [cO 4 (mov aB)]).seq ret))))
theorem Bv:Is Try.prog 84 b84:=Is.mk' Try.func84 (by kernel_rfl)
def b85:F2:=(F2.mk 61 [RV.t 4] ((ops 0 [cO 4 (mov (c AV.esl))]).seq ((ops 0 [cO 6 (cM 0),cO 7 (lenS (t 6)),cO 8 (cM 1),cO 9 (lenS (t 8)),cO 10 (cB .add (t 7) (t 9)),cO 11 (mks 1 8 [AV.int IntKind.i64 (0)] (cN 0) (t 10)),cO 5 (cM 11)]).seq ((block 0 (((ops 0 [cO 12 (cM 0),cO 13 (lenS (t 12)),cO 14 (cB .gtr (t 13) (cN 0)),cO 15 (cM 14),cG 16 15 true (cM 1),cG 17 15 true (lenS (t 16)),cG 18 15 true (cB .gtr (t 17) (cN 0)),cO 19 (pick (t 15) (t 18) aB)]).seq (C2.cond (t 19) skip (exit 0))).seq (block 1 (block 2 ((ops 1 [cO 25 (cM 0),cO 26 (ixaS 1 (t 25) (cN 0)),cO 27 (cD 26),cO 28 (cM 1),cO 29 (ixaS 1 (t 28) (cN 0)),cO 30 (cD 29),cO 31 (cB .lss (t 27) (t 30)),cO 24 (cM 31)]).seq (C2.cond (t 24) (ops 1 [cO 32 (cM 5),cO 33 (cM 0),cO 34 (ixaS 1 (t 33) (cN 0)),cO 35 (cD 34),cO 36 (bldS 1 1 [AV.int IntKind.i64 (0)] [(0,1,t 35)]),cO 37 (app 1 8 (t 32) (t 36)),cO 38 (cM 0),cO 39 (sls 1 (t 38) (some (cN 1)) none none),cO 5 (cM 37),cO 0 (cM 39)]) ((ops 1 [cO 41 (cM 0),cO 42 (ixaS 1 (t 41) (cN 0)),cO 43 (cD 42),cO 44 (cM 1),cO 45 (ixaS 1 (t 44) (cN 0)),cO 46 (cD 45),cO 47 (cB .gtr (t 43) (t 46)),cO 40 (cM 47)]).seq (C2.cond (t 40) (ops 1 [cO 48 (cM 5),cO 49 (cM 1),cO 50 (ixaS 1 (t 49) (cN 0)),cO 51 (cD 50),cO 52 (bldS 1 1 [AV.int IntKind.i64 (0)] [(0,1,t 51)]),cO 53 (app 1 8 (t 48) (t 52)),cO 54 (cM 1),cO 55 (sls 1 (t 54) (some (cN 1)) none none),cO 5 (cM 53),cO 1 (cM 55)]) (ops 1 [cO 20 (cM 0),cO 21 (sls 1 (t 20) (some (cN 1)) none none),cO 22 (cM 1),cO 23 (sls 1 (t 22) (some (cN 1)) none none),cO 0 (cM 21),cO 1 (cM 23)])))))))).loop).seq ((ops 0 [cO 56 (cM 5),cO 57 (cM 0),cO 58 (app 1 8 (t 56) (t 57)),cO 59 (cM 1),cO 60 (app 1 8 (t 58) (t 59)),cO 4 (cM 60)]).seq ret)))))
theorem B7:Is Try.prog 85 b85:=Is.mk' Try.func85 (by kernel_rfl)
def b86:F2:=(F2.mk 35 [] ((ops 0 [cO 9 (fa 1 (t 1)),cO 10 (cD 9),cO 11 (lenS (t 10)),cO 12 (mov (cN 0))]).seq (block 0 ((ops 0 [cO 13 (cB .lss (t 12) (t 11))]).seq ((C2.cond (t 13) skip (exit 0)).seq ((block 1 ((ops 0 [cO 14 (ixaS 1 (t 10) (t 12)),cO 15 (cD 14),cO 5 (cM 15)]).seq ((ops 0 [cO 6 (mov (c AV.esl))]).seq (((ops 0 [cO 16 (cM 5),cO 17 (lenS (t 16)),cO 18 (mov (cN 0))]).seq (block 2 ((ops 0 [cO 19 (cB .lss (t 18) (t 17))]).seq ((C2.cond (t 19) skip (exit 2)).seq ((block 3 ((ops 0 [cO 20 (ixaS 1 (t 16) (t 18)),cO 21 (cD 20),cO 8 (cM 21)]).seq (ops 0 [cO 22 (cM 6),cO 23 (fa 1 (t 2)),cO 24 (cD 23),cO 25 (cM 8),cO 26 (ixaS 1 (t 24) (t 25)),cO 27 (cD 26),cO 28 (call (cF 85) [t 22,t 27]),cO 6 (cM 28)]))).seq (ops 0 [cO 29 (cB .add (t 18) (cN 1)),cO 18 (cM 29)])))).loop)).seq ((ops 0 [cO 30 (cM 0),cO 31 (cM 6),cO 32 (call (t 30) [t 31]),cO 33 (un UnOp.not (t 32))]).seq (C2.cond (t 33) ret skip)))))).seq (ops 0 [cO 34 (cB .add (t 12) (cN 1)),cO 12 (cM 34)])))).loop)))
theorem Bt:Is Try.prog 86 b86:=Is.mk' Try.func86 (by kernel_rfl)
def b87:F2:=(F2.mk 18 [RV.t 2] ((ops 0 [cO 2 (mov (cN 0))]).seq ((ops 0 [cO 3 (mov (cN 0))]).seq (((ops 0 [cO 6 (cM 0),cO 7 (lenS (t 6)),cO 8 (mov (cN 0))]).seq (block 0 ((ops 0 [cO 9 (cB .lss (t 8) (t 7))]).seq ((C2.cond (t 9) skip (exit 0)).seq ((block 1 ((ops 0 [cO 10 (ixaS 1 (t 6) (t 8)),cO 11 (cD 10),cO 5 (cM 11)]).seq ((ops 0 [cO 12 (cM 5),cO 13 (cM 3),cO 14 (cB .neq (t 12) (t 13))]).seq (C2.cond (t 14) ((ops 0 [cO 15 (cM 5),cO 2 (cM 15)]).seq ret) skip)))).seq (ops 0 [cO 16 (cB .add (t 8) (cN 1)),cO 8 (cM 16)])))).loop)).seq ((ops 0 [cO 17 (cM 3),cO 2 (cM 17)]).seq ret)))))
theorem BJ:Is Try.prog 87 b87:=Is.mk' Try.func87 (by kernel_rfl)
def b88:F2:=(F2.mk 20 [RV.t 4] ((ops 0 [cO 4 (mov (cN 0))]).seq ((ops 0 [cO 7 (cM 0),cO 8 (call (cF 97) [t 7]),cO 5 (cM 8)]).seq ((ops 0 [cO 9 (cM 1),cO 10 (call (cF 97) [t 9]),cO 6 (cM 10)]).seq (((ops 0 [cO 11 (cM 5)]).seq (C2.cond (t 11) (((ops 0 [cO 12 (cM 6)]).seq (C2.cond (t 12) ((ops 0 [cO 4 (mov (cN 0))]).seq ret) skip)).seq ((ops 0 [cO 4 (mov (cN ((-1))))]).seq ret)) skip)).seq (((ops 0 [cO 13 (cM 6)]).seq (C2.cond (t 13) ((ops 0 [cO 4 (mov (cN 1))]).seq ret) skip)).seq (((ops 0 [cO 14 (cM 0),cO 15 (cM 1),cO 16 (cB .lss (t 14) (t 15))]).seq (C2.cond (t 16) ((ops 0 [cO 4 (mov (cN ((-1))))]).seq ret) skip)).seq (((ops 0 [cO 17 (cM 0),cO 18 (cM 1),cO 19 (cB .gtr (t 17) (t 18))]).seq (C2.cond (t 19) ((ops 0 [cO 4 (mov (cN 1))]).seq ret) skip)).seq ((ops 0 [cO 4 (mov (cN 0))]).seq ret)))))))))
theorem Bj:Is Try.prog 88 b88:=Is.mk' Try.func88 (by kernel_rfl)
def b89:F2:=(F2.mk 148 [] ((ops 0 [cO 10 (mov aS)]).seq ((ops 0 [cO 11 (mov aS)]).seq (block 0 (block 1 ((ops 0 [cO 21 (cM 2),cO 22 (cM 1),cO 23 (cB .sub (t 21) (t 22)),cO 12 (cM 23)]).seq (((ops 0 [cO 24 (cM 12),cO 25 (cB .leq (t 24) (cN 12))]).seq (C2.cond (t 25) ((ops 0 [cO 26 (cM 0),cO 27 (cM 1),cO 28 (cM 2),cO 29 (cM 4),cO 30 (call (cF 98) [t 26,t 27,t 28,t 29])]).seq ret) skip)).seq (((ops 0 [cO 31 (cM 3),cO 32 (cB .eql (t 31) (cN 0))]).seq (C2.cond (t 32) ((ops 0 [cO 33 (cM 0),cO 34 (cM 1),cO 35 (cM 2),cO 36 (cM 4),cO 37 (call (cF 99) [t 33,t 34,t 35,t 36])]).seq ret) skip)).seq (((ops 0 [cO 38 (cM 10),cO 39 (un UnOp.not (t 38))]).seq (C2.cond (t 39) ((ops 0 [cO 40 (cM 0),cO 41 (cM 1),cO 42 (cM 2),cO 43 (cM 4),cO 44 (call (cF 100) [t 40,t 41,t 42,t 43])]).seq (ops 0 [cO 45 (cM 3),cO 46 (cB .sub (t 45) (cN 1)),cO 3 (cM 46)])) skip)).seq ((ops 0 [cO 48 (cM 0),cO 49 (cM 1),cO 50 (cM 2),cO 51 (cM 4),cO 52 (call (cF 101) [t 48,t 49,t 50,t 51]),cO 47 (cM 52),cO 53 (ext (t 47) 0),cO 54 (ext (t 47) 1),cO 13 (cM 53),cO 14 (cM 54)]).seq (((ops 0 [cO 55 (cM 14),cO 56 (cB .eql (t 55) (cN 2))]).seq (C2.cond (t 56) ((ops 0 [cO 57 (cM 0),cO 58 (cM 1),cO 59 (cM 2),cO 60 (cM 4),cO 61 (call (cF 102) [t 57,t 58,t 59,t 60])]).seq ((ops 0 [cO 62 (cM 2),cO 63 (cB .sub (t 62) (cN 1)),cO 64 (cM 13),cO 65 (cM 1),cO 66 (cB .sub (t 64) (t 65)),cO 67 (cB .sub (t 63) (t 66)),cO 13 (cM 67)]).seq (ops 0 [cO 14 (mov (cN 1))]))) skip)).seq (((ops 0 [cO 68 (cM 10),cO 69 (cM 68),cG 70 69 true (cM 11),cO 71 (pick (t 69) (t 70) aB),cO 72 (cM 71),cG 73 72 true (cM 14),cG 74 72 true (cB .eql (t 73) (cN 1)),cO 75 (pick (t 72) (t 74) aB)]).seq (C2.cond (t 75) ((ops 0 [cO 76 (cM 0),cO 77 (cM 1),cO 78 (cM 2),cO 79 (cM 4),cO 80 (call (cF 103) [t 76,t 77,t 78,t 79])]).seq (C2.cond (t 80) ret skip)) skip)).seq (((mixS 1 [cO 81 (cM 1),cO 82 (cB .gtr (t 81) (cN 0)),cO 83 (cM 82),cG 84 83 true (cM 4),cG 85 83 true (cM 0),cG 86 83 true (cM 1),cG 87 83 true (cB .sub (t 86) (cN 1)),cG 88 83 true (ixaS 1 (t 85) (t 87)),cG 89 83 true (cD 88),cG 90 83 true (cM 0),cG 91 83 true (cM 13),cG 92 83 true (ixaS 1 (t 90) (t 91)),cG 93 83 true (cD 92),cG 94 83 true (call (t 84) [t 89,t 93]),cG 95 83 true (cB .lss (t 94) (cN 0)),cG 96 83 true (un UnOp.not (t 95)),cO 97 (pick (t 83) (t 96) aB)] [(0,0),(1,0),(2,0),(3,0),(4,0),(5,0),(6,0),(7,0),(8,0),(9,0),(10,0),(11,0),(12,0),(13,2),(14,0),(15,0),(16,0)]).seq (C2.cond (t 97) ((ops 0 [cO 98 (cM 0),cO 99 (cM 1),cO 100 (cM 2),cO 101 (cM 13),cO 102 (cM 4),cO 103 (call (cF 104) [t 98,t 99,t 100,t 101,t 102]),cO 15 (cM 103)]).seq ((ops 0 [cO 104 (cM 15),cO 1 (cM 104)]).seq (exit 1))) skip)).seq ((ops 0 [cO 106 (cM 0),cO 107 (cM 1),cO 108 (cM 2),cO 109 (cM 13),cO 110 (cM 4),cO 111 (call (cF 105) [t 106,t 107,t 108,t 109,t 110]),cO 105 (cM 111),cO 112 (ext (t 105) 0),cO 113 (ext (t 105) 1),cO 16 (cM 112),cO 17 (cM 113)]).seq ((ops 0 [cO 114 (cM 17),cO 11 (cM 114)]).seq ((ops 0 [cO 115 (cM 16),cO 116 (cM 1),cO 117 (cB .sub (t 115) (t 116)),cO 118 (cM 2),cO 119 (cM 16),cO 120 (cB .sub (t 118) (t 119)),cO 18 (cM 117),cO 19 (cM 120)]).seq ((ops 0 [cO 121 (cM 12),cO 122 (cB .quo (t 121) (cN 8)),cO 20 (cM 122)]).seq ((ops 0 [cO 123 (cM 18),cO 124 (cM 19),cO 125 (cB .lss (t 123) (t 124))]).seq (C2.cond (t 125) ((ops 0 [cO 126 (cM 18),cO 127 (cM 20),cO 128 (cB .geq (t 126) (t 127)),cO 10 (cM 128)]).seq ((ops 0 [cO 129 (cM 0),cO 130 (cM 1),cO 131 (cM 16),cO 132 (cM 3),cO 133 (cM 4),cO 134 (call (cF 89) [t 129,t 130,t 131,t 132,t 133])]).seq (ops 0 [cO 135 (cM 16),cO 136 (cB .add (t 135) (cN 1)),cO 1 (cM 136)]))) ((ops 0 [cO 137 (cM 19),cO 138 (cM 20),cO 139 (cB .geq (t 137) (t 138)),cO 10 (cM 139)]).seq ((ops 0 [cO 140 (cM 0),cO 141 (cM 16),cO 142 (cB .add (t 141) (cN 1)),cO 143 (cM 2),cO 144 (cM 3),cO 145 (cM 4),cO 146 (call (cF 89) [t 140,t 142,t 143,t 144,t 145])]).seq (ops 0 [cO 147 (cM 16),cO 2 (cM 147)])))))))))))))))))).loop))))
theorem Al:Is Try.prog 89 b89:=Is.mk' Try.func89 (by kernel_rfl)
def b90:F2:=(F2.mk 8 [RV.t 2] ((ops 0 [cO 2 (mov (cN 0))]).seq ((C2.cond aB ((ops 0 [cO 3 (cM 0),cO 4 (conv IntKind.u32 (t 3)),cO 5 (call (cF 106) [t 4]),cO 2 (cM 5)]).seq ret) skip).seq ((ops 0 [cO 6 (cM 0),cO 7 (call (cF 107) [t 6]),cO 2 (cM 7)]).seq ret))))
theorem AB:Is Try.prog 90 b90:=Is.mk' Try.func90 (by kernel_rfl)
def b91:F2:=(F2.mk 9 [RV.t 4] ((ops 0 [cO 4 (mov aB)]).seq ((ops 0 [cO 5 (cM 0),cO 6 (cM 1),cO 7 (call (cF 108) [t 5,t 6]),cO 8 (cB .geq (t 7) (cN 0)),cO 4 (cM 8)]).seq ret)))
theorem BT:Is Try.prog 91 b91:=Is.mk' Try.func91 (by kernel_rfl)
def b92:F2:=(F2.mk 21 [RV.t 4] ((ops 0 [cO 4 (mov aB)]).seq ((mixS 1 [cO 5 (cD 1),cO 6 (cM 0),cO 7 (ixaS 1 (t 5) (t 6)),cO 8 (cD 7),cO 9 (lenS (t 8)),cO 10 (cD 2),cO 11 (lenS (t 10)),cO 12 (cB .gtr (t 9) (t 11)),cO 13 (cM 12),cG 14 13 true (cD 2),cG 15 13 true (cD 1),cG 16 13 true (cM 0),cG 17 13 true (ixaS 1 (t 15) (t 16)),cG 18 13 true (cD 17),cG 19 13 true (call (cF 93) [t 14,t 18]),cO 20 (pick (t 13) (t 19) aB),cO 4 (cM 20)] [(0,0),(1,0),(2,0),(3,0),(4,0),(5,0),(6,0),(7,0),(8,0),(9,0),(10,0),(11,0),(12,0),(13,0),(14,2),(15,0),(16,0)]).seq ret)))
theorem BW:Is Try.prog 92 b92:=Is.mk' Try.func92 (by kernel_rfl)
def b93:F2:=(F2.mk 29 [RV.t 4] ((ops 0 [cO 4 (mov aB)]).seq (((ops 0 [cO 7 (cM 0),cO 8 (lenS (t 7)),cO 9 (mov (cN 0))]).seq (block 0 ((ops 0 [cO 10 (cB .lss (t 9) (t 8))]).seq ((C2.cond (t 10) skip (exit 0)).seq ((block 1 ((ops 0 [cO 11 (ixaS 2 (t 7) (t 9)),cO 12 (ldn 2 (t 11)),cO 6 (alloc (AV.agg [AV.int IntKind.i64 (0),AV.int IntKind.i64 (0)])),Op2.mk none none (Ins.st 2 (t 6) (t 12))]).seq ((block 2 (((ops 1 [cO 13 (cM 1),cO 14 (lenS (t 13)),cO 15 (cB .gtr (t 14) (cN 0)),cO 16 (cM 15),cG 17 16 true (cM 1),cG 18 16 true (ixaS 2 (t 17) (cN 0)),cG 19 16 true (ldn 2 (t 18)),cG 20 16 true (ldn 2 (t 6)),cG 21 16 true (binS BinOp.neq [int,int] (t 19) (t 20)),cO 22 (pick (t 16) (t 21) aB)]).seq (C2.cond (t 22) skip (exit 2))).seq (block 3 (ops 0 [cO 23 (cM 1),cO 24 (sls 2 (t 23) (some (cN 1)) none none),cO 1 (cM 24)]))).loop).seq ((ops 0 [cO 25 (cM 1),cO 26 (lenS (t 25)),cO 27 (cB .eql (t 26) (cN 0))]).seq (C2.cond (t 27) ((ops 0 [cO 4 (mov aB)]).seq ret) skip))))).seq (ops 0 [cO 28 (cB .add (t 9) (cN 1)),cO 9 (cM 28)])))).loop)).seq ((ops 0 [cO 4 (mov aS)]).seq ret))))
theorem BX:Is Try.prog 93 b93:=Is.mk' Try.func93 (by kernel_rfl)
def b94:F2:=(F2.mk 27 [RV.t 4] ((ops 0 [cO 4 (mov (c AV.esl))]).seq (((ops 0 [cO 5 (cM 1),cO 6 (cB .lss (t 5) (cN 0))]).seq (C2.cond (t 6) (ops 0 [cO 7 dead,Op2.mk none none dead]) skip)).seq (((ops 0 [cO 8 (cM 1),cO 9 (cM 0),cO 10 (capE (t 9)),cO 11 (cM 0),cO 12 (lenS (t 11)),cO 13 (cB .sub (t 10) (t 12)),cO 14 (cB .sub (t 8) (t 13)),cO 1 (cM 14)]).seq ((ops 0 [cO 15 (cM 1),cO 16 (cB .gtr (t 15) (cN 0))]).seq (C2.cond (t 16) (ops 0 [cO 17 (cM 0),cO 18 (cM 0),cO 19 (capE (t 18)),cO 20 (sls 2 (t 17) none (some (t 19)) none),cO 21 (cM 1),cO 22 (apz 2 16 [AV.int IntKind.i64 (0),AV.int IntKind.i64 (0)] (t 20) (t 21)),cO 23 (cM 0),cO 24 (lenS (t 23)),cO 25 (sls 2 (t 22) none (some (t 24)) none),cO 0 (cM 25)]) skip))).seq ((ops 0 [cO 26 (cM 0),cO 4 (cM 26)]).seq ret)))))
theorem Bo:Is Try.prog 94 b94:=Is.mk' Try.func94 (by kernel_rfl)
def b95:F2:=(F2.mk 24 [RV.t 4,RV.t 5] ((ops 0 [cO 4 (mov (c AV.esl)),cO 5 (mov (cN 0))]).seq (((ops 0 [cO 7 (cM 0),cO 8 (call (cF 42) [t 7]),cO 6 (cM 8)]).seq ((ops 0 [cO 9 (cM 6),cO 10 (cB .neq (t 9) (cN 0))]).seq (C2.cond (t 10) ((ops 0 [cO 11 (cM 6),cO 4 (mov (c AV.esl)),cO 5 (cM 11)]).seq ret) skip))).seq (((ops 0 [cO 12 (cM 1),cO 13 (cB .lss (t 12) (cN 1)),cO 14 (cM 13),cG 15 14 false (cM 1),cG 16 14 false (cM 0),cG 17 14 false (lenS (t 16)),cG 18 14 false (cB .gtr (t 15) (t 17)),cO 19 (pick (t 14) aS (t 18))]).seq (C2.cond (t 19) ((ops 0 [cO 4 (mov (c AV.esl)),cO 5 (mov (cN 2))]).seq ret) skip)).seq ((ops 0 [cO 20 (cM 0),cO 21 (cM 1),cO 22 (call (cF 110) [t 20,t 21]),cO 23 (call (cF 109) [t 22]),cO 4 (cM 23),cO 5 (mov (cN 0))]).seq ret)))))
theorem B5:Is Try.prog 95 b95:=Is.mk' Try.func95 (by kernel_rfl)
def b96:F2:=(F2.mk 16 [RV.cn 2 16] ((ops 0 [cO 2 (alloc (AV.agg [AV.int IntKind.i64 (0),AV.int IntKind.i64 (0),AV.int IntKind.i64 (0),AV.int IntKind.i64 (0),AV.int IntKind.i64 (0),AV.int IntKind.i64 (0),AV.int IntKind.i64 (0),AV.int IntKind.i64 (0),AV.int IntKind.i64 (0),AV.int IntKind.i64 (0),AV.int IntKind.i64 (0),AV.int IntKind.i64 (0),AV.int IntKind.i64 (0),AV.int IntKind.i64 (0),AV.int IntKind.i64 (0),AV.int IntKind.i64 (0)]))]).seq ((ops 0 [cO 3 (alloc (AV.agg [AV.int IntKind.i64 (0),AV.int IntKind.i64 (0),AV.int IntKind.i64 (0),AV.int IntKind.i64 (0),AV.int IntKind.i64 (0),AV.int IntKind.i64 (0),AV.int IntKind.i64 (0),AV.int IntKind.i64 (0),AV.int IntKind.i64 (0),AV.int IntKind.i64 (0),AV.int IntKind.i64 (0),AV.int IntKind.i64 (0),AV.int IntKind.i64 (0),AV.int IntKind.i64 (0),AV.int IntKind.i64 (0),AV.int IntKind.i64 (0)]))]).seq (((ops 0 [cO 5 (mov (cN 0))]).seq (block 0 ((ops 0 [cO 6 (cB .lss (t 5) (cN 8))]).seq ((C2.cond (t 6) skip (exit 0)).seq ((block 1 ((ops 0 [cO 7 (cM 5),cO 4 (cM 7)]).seq (ops 0 [cO 8 (cM 4),cO 9 (ixaA 8 2 (t 3) (t 8)),cO 10 (fa 0 (t 9)),Op2.mk none none (Ins.st 1 (t 10) (cN ((-1))))]))).seq (ops 0 [cO 11 (cB .add (t 5) (cN 1)),cO 5 (cM 11)])))).loop)).seq ((ops 0 [cO 12 (slp 8 2 (t 3)),cO 13 (cM 0),cO 14 (cpy 2 (t 12) (t 13))]).seq ((ops 0 [cO 15 (ldn 16 (t 3)),Op2.mk none none (Ins.st 16 (t 2) (t 15))]).seq ret))))))
theorem BQ:Is Try.prog 96 b96:=Is.mk' Try.func96 (by kernel_rfl)
def b97:F2:=(F2.mk 6 [RV.t 2] ((ops 0 [cO 2 (mov aB)]).seq ((ops 0 [cO 3 (cM 0),cO 4 (cM 0),cO 5 (cB .neq (t 3) (t 4)),cO 2 (cM 5)]).seq ret)))
theorem BD:Is Try.prog 97 b97:=Is.mk' Try.func97 (by kernel_rfl)
def b98:F2:=(F2.mk 53 [] ((ops 0 [cO 10 (cM 1),cO 11 (cB .add (t 10) (cN 1)),cO 8 (cM 11)]).seq (block 0 (((ops 0 [cO 12 (cM 8),cO 13 (cM 2),cO 14 (cB .lss (t 12) (t 13))]).seq (C2.cond (t 14) skip (exit 0))).seq ((block 1 ((ops 0 [cO 17 (cM 8),cO 9 (cM 17)]).seq (block 2 (((mixS 1 [cO 18 (cM 9),cO 19 (cM 1),cO 20 (cB .gtr (t 18) (t 19)),cO 21 (cM 20),cG 22 21 true (cM 3),cG 23 21 true (cM 0),cG 24 21 true (cM 9),cG 25 21 true (ixaS 1 (t 23) (t 24)),cG 26 21 true (cD 25),cG 27 21 true (cM 0),cG 28 21 true (cM 9),cG 29 21 true (cB .sub (t 28) (cN 1)),cG 30 21 true (ixaS 1 (t 27) (t 29)),cG 31 21 true (cD 30),cG 32 21 true (call (t 22) [t 26,t 31]),cG 33 21 true (cB .lss (t 32) (cN 0)),cO 34 (pick (t 21) (t 33) aB)] [(0,0),(1,0),(2,0),(3,0),(4,0),(5,0),(6,0),(7,0),(8,0),(9,0),(10,0),(11,0),(12,0),(13,0),(14,2),(15,0),(16,0)]).seq (C2.cond (t 34) skip (exit 2))).seq ((block 3 (ops 1 [cO 37 (cM 0),cO 38 (cM 9),cO 39 (cM 0),cO 40 (cM 9),cO 41 (cB .sub (t 40) (cN 1)),cO 42 (cM 0),cO 43 (cM 9),cO 44 (cB .sub (t 43) (cN 1)),cO 45 (ixaS 1 (t 42) (t 44)),cO 46 (cD 45),cO 47 (cM 0),cO 48 (cM 9),cO 49 (ixaS 1 (t 47) (t 48)),cO 50 (cD 49),cO 51 (ixaS 1 (t 37) (t 38)),Op2.mk none none (Ins.st 1 (t 51) (t 46)),cO 52 (ixaS 1 (t 39) (t 41)),Op2.mk none none (Ins.st 1 (t 52) (t 50))])).seq (ops 0 [cO 35 (cM 9),cO 36 (cB .sub (t 35) (cN 1)),cO 9 (cM 36)]))).loop))).seq (ops 0 [cO 15 (cM 8),cO 16 (cB .add (t 15) (cN 1)),cO 8 (cM 16)]))).loop)))
theorem AO:Is Try.prog 98 b98:=Is.mk' Try.func98 (by kernel_rfl)
def b99:F2:=(F2.mk 60 [] ((ops 0 [cO 13 (cM 1),cO 8 (cM 13)]).seq ((ops 0 [cO 9 (mov (cN 0))]).seq ((ops 0 [cO 14 (cM 2),cO 15 (cM 1),cO 16 (cB .sub (t 14) (t 15)),cO 10 (cM 16)]).seq (((ops 0 [cO 17 (cM 10),cO 18 (cB .sub (t 17) (cN 1)),cO 19 (cB .quo (t 18) (cN 2)),cO 11 (cM 19)]).seq (block 0 (((ops 0 [cO 20 (cM 11),cO 21 (cB .geq (t 20) (cN 0))]).seq (C2.cond (t 21) skip (exit 0))).seq ((block 1 (ops 0 [cO 24 (cM 0),cO 25 (cM 11),cO 26 (cM 10),cO 27 (cM 8),cO 28 (cM 3),cO 29 (call (cF 111) [t 24,t 25,t 26,t 27,t 28])])).seq (ops 0 [cO 22 (cM 11),cO 23 (cB .sub (t 22) (cN 1)),cO 11 (cM 23)]))).loop)).seq ((ops 0 [cO 30 (cM 10),cO 31 (cB .sub (t 30) (cN 1)),cO 12 (cM 31)]).seq (block 2 (((ops 0 [cO 32 (cM 12),cO 33 (cB .geq (t 32) (cN 0))]).seq (C2.cond (t 33) skip (exit 2))).seq ((block 3 ((ops 1 [cO 36 (cM 0),cO 37 (cM 8),cO 38 (cM 0),cO 39 (cM 8),cO 40 (cM 12),cO 41 (cB .add (t 39) (t 40)),cO 42 (cM 0),cO 43 (cM 8),cO 44 (cM 12),cO 45 (cB .add (t 43) (t 44)),cO 46 (ixaS 1 (t 42) (t 45)),cO 47 (cD 46),cO 48 (cM 0),cO 49 (cM 8),cO 50 (ixaS 1 (t 48) (t 49)),cO 51 (cD 50),cO 52 (ixaS 1 (t 36) (t 37)),Op2.mk none none (Ins.st 1 (t 52) (t 47)),cO 53 (ixaS 1 (t 38) (t 41)),Op2.mk none none (Ins.st 1 (t 53) (t 51))]).seq (ops 0 [cO 54 (cM 0),cO 55 (cM 9),cO 56 (cM 12),cO 57 (cM 8),cO 58 (cM 3),cO 59 (call (cF 111) [t 54,t 55,t 56,t 57,t 58])]))).seq (ops 0 [cO 34 (cM 12),cO 35 (cB .sub (t 34) (cN 1)),cO 12 (cM 35)]))).loop)))))))
theorem Bq:Is Try.prog 99 b99:=Is.mk' Try.func99 (by kernel_rfl)
def Ag:F2:=(F2.mk 67 [] ((ops 0 [cO 13 (cM 2),cO 14 (cM 1),cO 15 (cB .sub (t 13) (t 14)),cO 8 (cM 15)]).seq ((ops 0 [cO 16 (cM 8),cO 17 (cB .geq (t 16) (cN 8))]).seq (C2.cond (t 17) ((ops 0 [cO 18 (cM 8),cO 19 (conv IntKind.u64 (t 18)),cO 9 (alloc (AV.int IntKind.u64 (0))),Op2.mk none none (Ins.st 1 (t 9) (t 19))]).seq ((ops 0 [cO 20 (cM 8),cO 21 (call (cF 112) [t 20]),cO 10 (cM 21)]).seq ((ops 0 [cO 22 (cM 1),cO 23 (cM 8),cO 24 (cB .quo (t 23) (cN 4)),cO 25 (cB .mul (t 24) (cN 2)),cO 26 (cB .add (t 22) (t 25)),cO 27 (cB .sub (t 26) (cN 1)),cO 11 (cM 27)]).seq (block 0 (((ops 0 [cO 28 (cM 11),cO 29 (cM 1),cO 30 (cM 8),cO 31 (cB .quo (t 30) (cN 4)),cO 32 (cB .mul (t 31) (cN 2)),cO 33 (cB .add (t 29) (t 32)),cO 34 (cB .add (t 33) (cN 1)),cO 35 (cB .leq (t 28) (t 34))]).seq (C2.cond (t 35) skip (exit 0))).seq ((block 1 ((ops 0 [cO 38 (call (cF 113) [t 9]),cO 39 (cM 10),cO 40 (cB .sub (t 39) (c (AV.int IntKind.u64 (1)))),cO 41 (cB .and (t 38) (t 40)),cO 42 (conv IntKind.i64 (t 41)),cO 12 (cM 42)]).seq (((ops 0 [cO 43 (cM 12),cO 44 (cM 8),cO 45 (cB .geq (t 43) (t 44))]).seq (C2.cond (t 45) (ops 0 [cO 46 (cM 12),cO 47 (cM 8),cO 48 (cB .sub (t 46) (t 47)),cO 12 (cM 48)]) skip)).seq (ops 1 [cO 49 (cM 0),cO 50 (cM 11),cO 51 (cM 0),cO 52 (cM 1),cO 53 (cM 12),cO 54 (cB .add (t 52) (t 53)),cO 55 (cM 0),cO 56 (cM 1),cO 57 (cM 12),cO 58 (cB .add (t 56) (t 57)),cO 59 (ixaS 1 (t 55) (t 58)),cO 60 (cD 59),cO 61 (cM 0),cO 62 (cM 11),cO 63 (ixaS 1 (t 61) (t 62)),cO 64 (cD 63),cO 65 (ixaS 1 (t 49) (t 50)),Op2.mk none none (Ins.st 1 (t 65) (t 60)),cO 66 (ixaS 1 (t 51) (t 54)),Op2.mk none none (Ins.st 1 (t 66) (t 64))])))).seq (ops 0 [cO 36 (cM 11),cO 37 (cB .add (t 36) (cN 1)),cO 11 (cM 37)]))).loop)))) skip))))
theorem Ae:Is Try.prog 100 Ag:=Is.mk' Try.func100 (by kernel_rfl)
def Am:F2:=(F2.mk 63 [RV.t 8,RV.t 9] ((ops 0 [cO 8 (mov (cN 0)),cO 9 (mov (cN 0))]).seq ((ops 0 [cO 15 (cM 2),cO 16 (cM 1),cO 17 (cB .sub (t 15) (t 16)),cO 10 (cM 17)]).seq ((ops 0 [cO 11 (alloc (AV.int IntKind.i64 (0)))]).seq ((ops 0 [cO 18 (cM 1),cO 19 (cM 10),cO 20 (cB .quo (t 19) (cN 4)),cO 21 (cB .mul (t 20) (cN 1)),cO 22 (cB .add (t 18) (t 21)),cO 12 (cM 22)]).seq ((ops 0 [cO 23 (cM 1),cO 24 (cM 10),cO 25 (cB .quo (t 24) (cN 4)),cO 26 (cB .mul (t 25) (cN 2)),cO 27 (cB .add (t 23) (t 26)),cO 13 (cM 27)]).seq ((ops 0 [cO 28 (cM 1),cO 29 (cM 10),cO 30 (cB .quo (t 29) (cN 4)),cO 31 (cB .mul (t 30) (cN 3)),cO 32 (cB .add (t 28) (t 31)),cO 14 (cM 32)]).seq (((ops 0 [cO 33 (cM 10),cO 34 (cB .geq (t 33) (cN 8))]).seq (C2.cond (t 34) (((ops 0 [cO 35 (cM 10),cO 36 (cB .geq (t 35) (cN 50))]).seq (C2.cond (t 36) ((ops 0 [cO 37 (cM 0),cO 38 (cM 12),cO 39 (cM 3),cO 40 (call (cF 114) [t 37,t 38,t 11,t 39]),cO 12 (cM 40)]).seq ((ops 0 [cO 41 (cM 0),cO 42 (cM 13),cO 43 (cM 3),cO 44 (call (cF 114) [t 41,t 42,t 11,t 43]),cO 13 (cM 44)]).seq (ops 0 [cO 45 (cM 0),cO 46 (cM 14),cO 47 (cM 3),cO 48 (call (cF 114) [t 45,t 46,t 11,t 47]),cO 14 (cM 48)]))) skip)).seq (ops 0 [cO 49 (cM 0),cO 50 (cM 12),cO 51 (cM 13),cO 52 (cM 14),cO 53 (cM 3),cO 54 (call (cF 115) [t 49,t 50,t 51,t 52,t 11,t 53]),cO 13 (cM 54)])) skip)).seq ((ops 0 [cO 55 (cD 11)]).seq (block 0 ((ops 0 [cO 58 (cB .eql (t 55) (cN 0)),cO 57 (cM 58)]).seq (C2.cond (t 57) ((ops 0 [cO 59 (cM 13),cO 8 (cM 59),cO 9 (mov (cN 1))]).seq ret) ((ops 0 [cO 61 (cB .eql (t 55) (cN 12)),cO 60 (cM 61)]).seq (C2.cond (t 60) ((ops 0 [cO 62 (cM 13),cO 8 (cM 62),cO 9 (mov (cN 2))]).seq ret) ((ops 0 [cO 56 (cM 13),cO 8 (cM 56),cO 9 (mov (cN 0))]).seq ret)))))))))))))))
theorem Ai:Is Try.prog 101 Am:=Is.mk' Try.func101 (by kernel_rfl)
def As:F2:=(F2.mk 34 [] ((ops 0 [cO 10 (cM 1),cO 8 (cM 10)]).seq ((ops 0 [cO 11 (cM 2),cO 12 (cB .sub (t 11) (cN 1)),cO 9 (cM 12)]).seq (block 0 (((ops 0 [cO 13 (cM 8),cO 14 (cM 9),cO 15 (cB .lss (t 13) (t 14))]).seq (C2.cond (t 15) skip (exit 0))).seq (block 1 ((ops 1 [cO 16 (cM 0),cO 17 (cM 8),cO 18 (cM 0),cO 19 (cM 9),cO 20 (cM 0),cO 21 (cM 9),cO 22 (ixaS 1 (t 20) (t 21)),cO 23 (cD 22),cO 24 (cM 0),cO 25 (cM 8),cO 26 (ixaS 1 (t 24) (t 25)),cO 27 (cD 26),cO 28 (ixaS 1 (t 16) (t 17)),Op2.mk none none (Ins.st 1 (t 28) (t 23)),cO 29 (ixaS 1 (t 18) (t 19)),Op2.mk none none (Ins.st 1 (t 29) (t 27))]).seq ((ops 0 [cO 30 (cM 8),cO 31 (cB .add (t 30) (cN 1)),cO 8 (cM 31)]).seq (ops 0 [cO 32 (cM 9),cO 33 (cB .sub (t 32) (cN 1)),cO 9 (cM 33)]))))).loop))))
theorem AD:Is Try.prog 102 As:=Is.mk' Try.func102 (by kernel_rfl)
def z8:F2:=(F2.mk 141 [RV.t 8] ((ops 0 [cO 8 (mov aB)]).seq ((ops 0 [cO 13 (cM 1),cO 14 (cB .add (t 13) (cN 1)),cO 9 (cM 14)]).seq (((ops 0 [cO 10 (mov (cN 0))]).seq (block 0 (((ops 0 [cO 15 (cM 10),cO 16 (cB .lss (t 15) (cN 5))]).seq (C2.cond (t 16) skip (exit 0))).seq ((block 1 ((block 2 (((mixS 1 [cO 19 (cM 9),cO 20 (cM 2),cO 21 (cB .lss (t 19) (t 20)),cO 22 (cM 21),cG 23 22 true (cM 3),cG 24 22 true (cM 0),cG 25 22 true (cM 9),cG 26 22 true (ixaS 1 (t 24) (t 25)),cG 27 22 true (cD 26),cG 28 22 true (cM 0),cG 29 22 true (cM 9),cG 30 22 true (cB .sub (t 29) (cN 1)),cG 31 22 true (ixaS 1 (t 28) (t 30)),cG 32 22 true (cD 31),cG 33 22 true (call (t 23) [t 27,t 32]),cG 34 22 true (cB .lss (t 33) (cN 0)),cG 35 22 true (un UnOp.not (t 34)),cO 36 (pick (t 22) (t 35) aB)] [(0,0),(1,0),(2,0),(3,0),(4,0),(5,0),(6,0),(7,0),(8,0),(9,0),(10,0),(11,0),(12,0),(13,0),(14,2),(15,0),(16,0),(17,0)]).seq (C2.cond (t 36) skip (exit 2))).seq (block 3 (ops 0 [cO 37 (cM 9),cO 38 (cB .add (t 37) (cN 1)),cO 9 (cM 38)]))).loop).seq (((ops 0 [cO 39 (cM 9),cO 40 (cM 2),cO 41 (cB .eql (t 39) (t 40))]).seq (C2.cond (t 41) ((ops 0 [cO 8 (mov aS)]).seq ret) skip)).seq (((ops 0 [cO 42 (cM 2),cO 43 (cM 1),cO 44 (cB .sub (t 42) (t 43)),cO 45 (cB .lss (t 44) (cN 50))]).seq (C2.cond (t 45) ((ops 0 [cO 8 (mov aB)]).seq ret) skip)).seq ((ops 1 [cO 46 (cM 0),cO 47 (cM 9),cO 48 (cM 0),cO 49 (cM 9),cO 50 (cB .sub (t 49) (cN 1)),cO 51 (cM 0),cO 52 (cM 9),cO 53 (cB .sub (t 52) (cN 1)),cO 54 (ixaS 1 (t 51) (t 53)),cO 55 (cD 54),cO 56 (cM 0),cO 57 (cM 9),cO 58 (ixaS 1 (t 56) (t 57)),cO 59 (cD 58),cO 60 (ixaS 1 (t 46) (t 47)),Op2.mk none none (Ins.st 1 (t 60) (t 55)),cO 61 (ixaS 1 (t 48) (t 50)),Op2.mk none none (Ins.st 1 (t 61) (t 59))]).seq (((ops 0 [cO 62 (cM 9),cO 63 (cM 1),cO 64 (cB .sub (t 62) (t 63)),cO 65 (cB .geq (t 64) (cN 2))]).seq (C2.cond (t 65) ((ops 0 [cO 66 (cM 9),cO 67 (cB .sub (t 66) (cN 1)),cO 11 (cM 67)]).seq (block 4 (((ops 0 [cO 68 (cM 11),cO 69 (cB .geq (t 68) (cN 1))]).seq (C2.cond (t 69) skip (exit 4))).seq ((block 5 (((mixS 1 [cO 72 (cM 3),cO 73 (cM 0),cO 74 (cM 11),cO 75 (ixaS 1 (t 73) (t 74)),cO 76 (cD 75),cO 77 (cM 0),cO 78 (cM 11),cO 79 (cB .sub (t 78) (cN 1)),cO 80 (ixaS 1 (t 77) (t 79)),cO 81 (cD 80),cO 82 (call (t 72) [t 76,t 81]),cO 83 (cB .lss (t 82) (cN 0)),cO 84 (un UnOp.not (t 83))] [(0,0),(1,0),(2,0),(3,0),(4,0),(5,0),(6,0),(7,0),(8,0),(9,0),(10,2),(11,0),(12,0)]).seq (C2.cond (t 84) (exit 4) skip)).seq (ops 1 [cO 85 (cM 0),cO 86 (cM 11),cO 87 (cM 0),cO 88 (cM 11),cO 89 (cB .sub (t 88) (cN 1)),cO 90 (cM 0),cO 91 (cM 11),cO 92 (cB .sub (t 91) (cN 1)),cO 93 (ixaS 1 (t 90) (t 92)),cO 94 (cD 93),cO 95 (cM 0),cO 96 (cM 11),cO 97 (ixaS 1 (t 95) (t 96)),cO 98 (cD 97),cO 99 (ixaS 1 (t 85) (t 86)),Op2.mk none none (Ins.st 1 (t 99) (t 94)),cO 100 (ixaS 1 (t 87) (t 89)),Op2.mk none none (Ins.st 1 (t 100) (t 98))]))).seq (ops 0 [cO 70 (cM 11),cO 71 (cB .sub (t 70) (cN 1)),cO 11 (cM 71)]))).loop)) skip)).seq ((ops 0 [cO 101 (cM 2),cO 102 (cM 9),cO 103 (cB .sub (t 101) (t 102)),cO 104 (cB .geq (t 103) (cN 2))]).seq (C2.cond (t 104) ((ops 0 [cO 105 (cM 9),cO 106 (cB .add (t 105) (cN 1)),cO 12 (cM 106)]).seq (block 6 (((ops 0 [cO 107 (cM 12),cO 108 (cM 2),cO 109 (cB .lss (t 107) (t 108))]).seq (C2.cond (t 109) skip (exit 6))).seq ((block 7 (((mixS 1 [cO 112 (cM 3),cO 113 (cM 0),cO 114 (cM 12),cO 115 (ixaS 1 (t 113) (t 114)),cO 116 (cD 115),cO 117 (cM 0),cO 118 (cM 12),cO 119 (cB .sub (t 118) (cN 1)),cO 120 (ixaS 1 (t 117) (t 119)),cO 121 (cD 120),cO 122 (call (t 112) [t 116,t 121]),cO 123 (cB .lss (t 122) (cN 0)),cO 124 (un UnOp.not (t 123))] [(0,0),(1,0),(2,0),(3,0),(4,0),(5,0),(6,0),(7,0),(8,0),(9,0),(10,2),(11,0),(12,0)]).seq (C2.cond (t 124) (exit 6) skip)).seq (ops 1 [cO 125 (cM 0),cO 126 (cM 12),cO 127 (cM 0),cO 128 (cM 12),cO 129 (cB .sub (t 128) (cN 1)),cO 130 (cM 0),cO 131 (cM 12),cO 132 (cB .sub (t 131) (cN 1)),cO 133 (ixaS 1 (t 130) (t 132)),cO 134 (cD 133),cO 135 (cM 0),cO 136 (cM 12),cO 137 (ixaS 1 (t 135) (t 136)),cO 138 (cD 137),cO 139 (ixaS 1 (t 125) (t 126)),Op2.mk none none (Ins.st 1 (t 139) (t 134)),cO 140 (ixaS 1 (t 127) (t 129)),Op2.mk none none (Ins.st 1 (t 140) (t 138))]))).seq (ops 0 [cO 110 (cM 12),cO 111 (cB .add (t 110) (cN 1)),cO 12 (cM 111)]))).loop)) skip)))))))).seq (ops 0 [cO 17 (cM 10),cO 18 (cB .add (t 17) (cN 1)),cO 10 (cM 18)]))).loop)).seq ((ops 0 [cO 8 (mov aB)]).seq ret)))))
theorem zN:Is Try.prog 103 z8:=Is.mk' Try.func103 (by kernel_rfl)
def AR:F2:=(F2.mk 90 [RV.t 10] ((ops 0 [cO 10 (mov (cN 0))]).seq ((ops 1 [cO 13 (cM 0),cO 14 (cM 1),cO 15 (cM 0),cO 16 (cM 3),cO 17 (cM 0),cO 18 (cM 3),cO 19 (ixaS 1 (t 17) (t 18)),cO 20 (cD 19),cO 21 (cM 0),cO 22 (cM 1),cO 23 (ixaS 1 (t 21) (t 22)),cO 24 (cD 23),cO 25 (ixaS 1 (t 13) (t 14)),Op2.mk none none (Ins.st 1 (t 25) (t 20)),cO 26 (ixaS 1 (t 15) (t 16)),Op2.mk none none (Ins.st 1 (t 26) (t 24))]).seq ((ops 0 [cO 27 (cM 1),cO 28 (cB .add (t 27) (cN 1)),cO 29 (cM 2),cO 30 (cB .sub (t 29) (cN 1)),cO 11 (cM 28),cO 12 (cM 30)]).seq ((block 0 (block 1 ((block 2 (((mixS 1 [cO 31 (cM 11),cO 32 (cM 12),cO 33 (cB .leq (t 31) (t 32)),cO 34 (cM 33),cG 35 34 true (cM 4),cG 36 34 true (cM 0),cG 37 34 true (cM 1),cG 38 34 true (ixaS 1 (t 36) (t 37)),cG 39 34 true (cD 38),cG 40 34 true (cM 0),cG 41 34 true (cM 11),cG 42 34 true (ixaS 1 (t 40) (t 41)),cG 43 34 true (cD 42),cG 44 34 true (call (t 35) [t 39,t 43]),cG 45 34 true (cB .lss (t 44) (cN 0)),cG 46 34 true (un UnOp.not (t 45)),cO 47 (pick (t 34) (t 46) aB)] [(0,0),(1,0),(2,0),(3,0),(4,0),(5,0),(6,0),(7,0),(8,0),(9,0),(10,0),(11,0),(12,0),(13,2),(14,0),(15,0),(16,0)]).seq (C2.cond (t 47) skip (exit 2))).seq (block 3 (ops 0 [cO 48 (cM 11),cO 49 (cB .add (t 48) (cN 1)),cO 11 (cM 49)]))).loop).seq ((block 4 (((mixS 1 [cO 50 (cM 11),cO 51 (cM 12),cO 52 (cB .leq (t 50) (t 51)),cO 53 (cM 52),cG 54 53 true (cM 4),cG 55 53 true (cM 0),cG 56 53 true (cM 1),cG 57 53 true (ixaS 1 (t 55) (t 56)),cG 58 53 true (cD 57),cG 59 53 true (cM 0),cG 60 53 true (cM 12),cG 61 53 true (ixaS 1 (t 59) (t 60)),cG 62 53 true (cD 61),cG 63 53 true (call (t 54) [t 58,t 62]),cG 64 53 true (cB .lss (t 63) (cN 0)),cO 65 (pick (t 53) (t 64) aB)] [(0,0),(1,0),(2,0),(3,0),(4,0),(5,0),(6,0),(7,0),(8,0),(9,0),(10,0),(11,0),(12,0),(13,2),(14,0),(15,0)]).seq (C2.cond (t 65) skip (exit 4))).seq (block 5 (ops 0 [cO 66 (cM 12),cO 67 (cB .sub (t 66) (cN 1)),cO 12 (cM 67)]))).loop).seq (((ops 0 [cO 68 (cM 11),cO 69 (cM 12),cO 70 (cB .gtr (t 68) (t 69))]).seq (C2.cond (t 70) (exit 0) skip)).seq ((ops 1 [cO 71 (cM 0),cO 72 (cM 11),cO 73 (cM 0),cO 74 (cM 12),cO 75 (cM 0),cO 76 (cM 12),cO 77 (ixaS 1 (t 75) (t 76)),cO 78 (cD 77),cO 79 (cM 0),cO 80 (cM 11),cO 81 (ixaS 1 (t 79) (t 80)),cO 82 (cD 81),cO 83 (ixaS 1 (t 71) (t 72)),Op2.mk none none (Ins.st 1 (t 83) (t 78)),cO 84 (ixaS 1 (t 73) (t 74)),Op2.mk none none (Ins.st 1 (t 84) (t 82))]).seq ((ops 0 [cO 85 (cM 11),cO 86 (cB .add (t 85) (cN 1)),cO 11 (cM 86)]).seq (ops 0 [cO 87 (cM 12),cO 88 (cB .sub (t 87) (cN 1)),cO 12 (cM 88)]))))))).loop).seq ((ops 0 [cO 89 (cM 11),cO 10 (cM 89)]).seq ret))))))
theorem z6:Is Try.prog 104 AR:=Is.mk' Try.func104 (by kernel_rfl)
def AF:F2:=(F2.mk 178 [RV.t 10,RV.t 11] ((ops 0 [cO 10 (mov (cN 0)),cO 11 (mov aB)]).seq ((ops 1 [cO 14 (cM 0),cO 15 (cM 1),cO 16 (cM 0),cO 17 (cM 3),cO 18 (cM 0),cO 19 (cM 3),cO 20 (ixaS 1 (t 18) (t 19)),cO 21 (cD 20),cO 22 (cM 0),cO 23 (cM 1),cO 24 (ixaS 1 (t 22) (t 23)),cO 25 (cD 24),cO 26 (ixaS 1 (t 14) (t 15)),Op2.mk none none (Ins.st 1 (t 26) (t 21)),cO 27 (ixaS 1 (t 16) (t 17)),Op2.mk none none (Ins.st 1 (t 27) (t 25))]).seq ((ops 0 [cO 28 (cM 1),cO 29 (cB .add (t 28) (cN 1)),cO 30 (cM 2),cO 31 (cB .sub (t 30) (cN 1)),cO 12 (cM 29),cO 13 (cM 31)]).seq ((block 0 (((mixS 1 [cO 32 (cM 12),cO 33 (cM 13),cO 34 (cB .leq (t 32) (t 33)),cO 35 (cM 34),cG 36 35 true (cM 4),cG 37 35 true (cM 0),cG 38 35 true (cM 12),cG 39 35 true (ixaS 1 (t 37) (t 38)),cG 40 35 true (cD 39),cG 41 35 true (cM 0),cG 42 35 true (cM 1),cG 43 35 true (ixaS 1 (t 41) (t 42)),cG 44 35 true (cD 43),cG 45 35 true (call (t 36) [t 40,t 44]),cG 46 35 true (cB .lss (t 45) (cN 0)),cO 47 (pick (t 35) (t 46) aB)] [(0,0),(1,0),(2,0),(3,0),(4,0),(5,0),(6,0),(7,0),(8,0),(9,0),(10,0),(11,0),(12,0),(13,2),(14,0),(15,0)]).seq (C2.cond (t 47) skip (exit 0))).seq (block 1 (ops 0 [cO 48 (cM 12),cO 49 (cB .add (t 48) (cN 1)),cO 12 (cM 49)]))).loop).seq ((block 2 (((mixS 1 [cO 50 (cM 12),cO 51 (cM 13),cO 52 (cB .leq (t 50) (t 51)),cO 53 (cM 52),cG 54 53 true (cM 4),cG 55 53 true (cM 0),cG 56 53 true (cM 13),cG 57 53 true (ixaS 1 (t 55) (t 56)),cG 58 53 true (cD 57),cG 59 53 true (cM 0),cG 60 53 true (cM 1),cG 61 53 true (ixaS 1 (t 59) (t 60)),cG 62 53 true (cD 61),cG 63 53 true (call (t 54) [t 58,t 62]),cG 64 53 true (cB .lss (t 63) (cN 0)),cG 65 53 true (un UnOp.not (t 64)),cO 66 (pick (t 53) (t 65) aB)] [(0,0),(1,0),(2,0),(3,0),(4,0),(5,0),(6,0),(7,0),(8,0),(9,0),(10,0),(11,0),(12,0),(13,2),(14,0),(15,0),(16,0)]).seq (C2.cond (t 66) skip (exit 2))).seq (block 3 (ops 0 [cO 67 (cM 13),cO 68 (cB .sub (t 67) (cN 1)),cO 13 (cM 68)]))).loop).seq (((ops 0 [cO 69 (cM 12),cO 70 (cM 13),cO 71 (cB .gtr (t 69) (t 70))]).seq (C2.cond (t 71) ((ops 1 [cO 72 (cM 0),cO 73 (cM 13),cO 74 (cM 0),cO 75 (cM 1),cO 76 (cM 0),cO 77 (cM 1),cO 78 (ixaS 1 (t 76) (t 77)),cO 79 (cD 78),cO 80 (cM 0),cO 81 (cM 13),cO 82 (ixaS 1 (t 80) (t 81)),cO 83 (cD 82),cO 84 (ixaS 1 (t 72) (t 73)),Op2.mk none none (Ins.st 1 (t 84) (t 79)),cO 85 (ixaS 1 (t 74) (t 75)),Op2.mk none none (Ins.st 1 (t 85) (t 83))]).seq ((ops 0 [cO 86 (cM 13),cO 10 (cM 86),cO 11 (mov aS)]).seq ret)) skip)).seq ((ops 1 [cO 87 (cM 0),cO 88 (cM 12),cO 89 (cM 0),cO 90 (cM 13),cO 91 (cM 0),cO 92 (cM 13),cO 93 (ixaS 1 (t 91) (t 92)),cO 94 (cD 93),cO 95 (cM 0),cO 96 (cM 12),cO 97 (ixaS 1 (t 95) (t 96)),cO 98 (cD 97),cO 99 (ixaS 1 (t 87) (t 88)),Op2.mk none none (Ins.st 1 (t 99) (t 94)),cO 100 (ixaS 1 (t 89) (t 90)),Op2.mk none none (Ins.st 1 (t 100) (t 98))]).seq ((ops 0 [cO 101 (cM 12),cO 102 (cB .add (t 101) (cN 1)),cO 12 (cM 102)]).seq ((ops 0 [cO 103 (cM 13),cO 104 (cB .sub (t 103) (cN 1)),cO 13 (cM 104)]).seq ((block 4 (block 5 ((block 6 (((mixS 1 [cO 105 (cM 12),cO 106 (cM 13),cO 107 (cB .leq (t 105) (t 106)),cO 108 (cM 107),cG 109 108 true (cM 4),cG 110 108 true (cM 0),cG 111 108 true (cM 12),cG 112 108 true (ixaS 1 (t 110) (t 111)),cG 113 108 true (cD 112),cG 114 108 true (cM 0),cG 115 108 true (cM 1),cG 116 108 true (ixaS 1 (t 114) (t 115)),cG 117 108 true (cD 116),cG 118 108 true (call (t 109) [t 113,t 117]),cG 119 108 true (cB .lss (t 118) (cN 0)),cO 120 (pick (t 108) (t 119) aB)] [(0,0),(1,0),(2,0),(3,0),(4,0),(5,0),(6,0),(7,0),(8,0),(9,0),(10,0),(11,0),(12,0),(13,2),(14,0),(15,0)]).seq (C2.cond (t 120) skip (exit 6))).seq (block 7 (ops 0 [cO 121 (cM 12),cO 122 (cB .add (t 121) (cN 1)),cO 12 (cM 122)]))).loop).seq ((block 8 (((mixS 1 [cO 123 (cM 12),cO 124 (cM 13),cO 125 (cB .leq (t 123) (t 124)),cO 126 (cM 125),cG 127 126 true (cM 4),cG 128 126 true (cM 0),cG 129 126 true (cM 13),cG 130 126 true (ixaS 1 (t 128) (t 129)),cG 131 126 true (cD 130),cG 132 126 true (cM 0),cG 133 126 true (cM 1),cG 134 126 true (ixaS 1 (t 132) (t 133)),cG 135 126 true (cD 134),cG 136 126 true (call (t 127) [t 131,t 135]),cG 137 126 true (cB .lss (t 136) (cN 0)),cG 138 126 true (un UnOp.not (t 137)),cO 139 (pick (t 126) (t 138) aB)] [(0,0),(1,0),(2,0),(3,0),(4,0),(5,0),(6,0),(7,0),(8,0),(9,0),(10,0),(11,0),(12,0),(13,2),(14,0),(15,0),(16,0)]).seq (C2.cond (t 139) skip (exit 8))).seq (block 9 (ops 0 [cO 140 (cM 13),cO 141 (cB .sub (t 140) (cN 1)),cO 13 (cM 141)]))).loop).seq (((ops 0 [cO 142 (cM 12),cO 143 (cM 13),cO 144 (cB .gtr (t 142) (t 143))]).seq (C2.cond (t 144) (exit 4) skip)).seq ((ops 1 [cO 145 (cM 0),cO 146 (cM 12),cO 147 (cM 0),cO 148 (cM 13),cO 149 (cM 0),cO 150 (cM 13),cO 151 (ixaS 1 (t 149) (t 150)),cO 152 (cD 151),cO 153 (cM 0),cO 154 (cM 12),cO 155 (ixaS 1 (t 153) (t 154)),cO 156 (cD 155),cO 157 (ixaS 1 (t 145) (t 146)),Op2.mk none none (Ins.st 1 (t 157) (t 152)),cO 158 (ixaS 1 (t 147) (t 148)),Op2.mk none none (Ins.st 1 (t 158) (t 156))]).seq ((ops 0 [cO 159 (cM 12),cO 160 (cB .add (t 159) (cN 1)),cO 12 (cM 160)]).seq (ops 0 [cO 161 (cM 13),cO 162 (cB .sub (t 161) (cN 1)),cO 13 (cM 162)]))))))).loop).seq ((ops 1 [cO 163 (cM 0),cO 164 (cM 13),cO 165 (cM 0),cO 166 (cM 1),cO 167 (cM 0),cO 168 (cM 1),cO 169 (ixaS 1 (t 167) (t 168)),cO 170 (cD 169),cO 171 (cM 0),cO 172 (cM 13),cO 173 (ixaS 1 (t 171) (t 172)),cO 174 (cD 173),cO 175 (ixaS 1 (t 163) (t 164)),Op2.mk none none (Ins.st 1 (t 175) (t 170)),cO 176 (ixaS 1 (t 165) (t 166)),Op2.mk none none (Ins.st 1 (t 176) (t 174))]).seq ((ops 0 [cO 177 (cM 13),cO 10 (cM 177),cO 11 (mov aB)]).seq ret)))))))))))))
theorem AP:Is Try.prog 105 AF:=Is.mk' Try.func105 (by kernel_rfl)
def zb:F2:=(F2.mk 25 [RV.t 2] ((ops 0 [cO 2 (mov (cN 0))]).seq (((ops 0 [cO 3 (cM 0),cO 4 (cB .geq (t 3) (c (AV.int IntKind.u64 (4294967296))))]).seq (C2.cond (t 4) ((ops 0 [cO 5 (cM 0),cO 6 (cB .shr (t 5) (c (AV.int IntKind.u64 (32)))),cO 0 (cM 6)]).seq (ops 0 [cO 2 (mov (cN 32))])) skip)).seq (((ops 0 [cO 7 (cM 0),cO 8 (cB .geq (t 7) (c (AV.int IntKind.u64 (65536))))]).seq (C2.cond (t 8) ((ops 0 [cO 9 (cM 0),cO 10 (cB .shr (t 9) (c (AV.int IntKind.u64 (16)))),cO 0 (cM 10)]).seq (ops 0 [cO 11 (cM 2),cO 12 (cB .add (t 11) (cN 16)),cO 2 (cM 12)])) skip)).seq (((ops 0 [cO 13 (cM 0),cO 14 (cB .geq (t 13) (c (AV.int IntKind.u64 (256))))]).seq (C2.cond (t 14) ((ops 0 [cO 15 (cM 0),cO 16 (cB .shr (t 15) (c (AV.int IntKind.u64 (8)))),cO 0 (cM 16)]).seq (ops 0 [cO 17 (cM 2),cO 18 (cB .add (t 17) (cN 8)),cO 2 (cM 18)])) skip)).seq ((ops 0 [cO 19 (cM 2),cO 20 (cM 0),cO 21 (conv IntKind.u8 (t 20)),cO 22 (ixStr (c (AV.str (ByteArray.mk (Array.mk [0,1,2,2,3,3,3,3,4,4,4,4,4,4,4,4,5,5,5,5,5,5,5,5,5,5,5,5,5,5,5,5,6,6,6,6,6,6,6,6,6,6,6,6,6,6,6,6,6,6,6,6,6,6,6,6,6,6,6,6,6,6,6,6,7,7,7,7,7,7,7,7,7,7,7,7,7,7,7,7,7,7,7,7,7,7,7,7,7,7,7,7,7,7,7,7,7,7,7,7,7,7,7,7,7,7,7,7,7,7,7,7,7,7,7,7,7,7,7,7,7,7,7,7,7,7,7,7,8,8,8,8,8,8,8,8,8,8,8,8,8,8,8,8,8,8,8,8,8,8,8,8,8,8,8,8,8,8,8,8,8,8,8,8,8,8,8,8,8,8,8,8,8,8,8,8,8,8,8,8,8,8,8,8,8,8,8,8,8,8,8,8,8,8,8,8,8,8,8,8,8,8,8,8,8,8,8,8,8,8,8,8,8,8,8,8,8,8,8,8,8,8,8,8,8,8,8,8,8,8,8,8,8,8,8,8,8,8,8,8,8,8,8,8,8,8,8,8,8,8,8,8,8,8,8,8])))) (t 21)),cO 23 (conv IntKind.i64 (t 22)),cO 24 (cB .add (t 19) (t 23)),cO 2 (cM 24)]).seq ret))))))
theorem yr:Is Try.prog 107 zb:=Is.mk' Try.func107 (by kernel_rfl)
def zK:F2:=(F2.mk 19 [RV.t 4] ((ops 0 [cO 4 (mov (cN 0))]).seq (((ops 0 [cO 6 (cM 0),cO 7 (lenS (t 6)),cO 8 (mov (cN 0))]).seq (block 0 ((ops 0 [cO 9 (cB .lss (t 8) (t 7))]).seq ((C2.cond (t 9) skip (exit 0)).seq ((block 1 ((ops 0 [cO 10 (cM 8),cO 5 (cM 10)]).seq ((ops 0 [cO 11 (cM 1),cO 12 (cM 0),cO 13 (cM 5),cO 14 (ixaS 1 (t 12) (t 13)),cO 15 (cD 14),cO 16 (call (t 11) [t 15])]).seq (C2.cond (t 16) ((ops 0 [cO 17 (cM 5),cO 4 (cM 17)]).seq ret) skip)))).seq (ops 0 [cO 18 (cB .add (t 8) (cN 1)),cO 8 (cM 18)])))).loop)).seq ((ops 0 [cO 4 (mov (cN ((-1))))]).seq ret))))
theorem A0:Is Try.prog 108 zK:=Is.mk' Try.func108 (by kernel_rfl)
def Aw:F2:=(F2.mk 5 [RV.t 2] ((ops 0 [cO 2 (mov (c AV.esl))]).seq ((ops 0 [cO 3 (cM 0),cO 4 (call (cF 116) [c AV.esl,t 3]),cO 2 (cM 4)]).seq ret)))
theorem zT:Is Try.prog 109 Aw:=Is.mk' Try.func109 (by kernel_rfl)
def zG:F2:=(F2.mk 6 [RV.t 4] ((ops 0 [cO 2 (box (t 0)),cO 3 (box (t 1)),cO 4 (mov (c AV.nilf))]).seq ((ops 0 [cO 5 (mkfn 117 [t 3,t 2]),cO 4 (cM 5)]).seq ret)))
theorem Ad:Is Try.prog 110 zG:=Is.mk' Try.func110 (by kernel_rfl)
def zA:F2:=(F2.mk 82 [] ((ops 0 [cO 12 (cM 1),cO 10 (cM 12)]).seq (block 0 (block 1 ((ops 0 [cO 13 (cM 10),cO 14 (cB .mul (cN 2) (t 13)),cO 15 (cB .add (t 14) (cN 1)),cO 11 (cM 15)]).seq (((ops 0 [cO 16 (cM 11),cO 17 (cM 2),cO 18 (cB .geq (t 16) (t 17))]).seq (C2.cond (t 18) (exit 0) skip)).seq (((mixS 1 [cO 19 (cM 11),cO 20 (cB .add (t 19) (cN 1)),cO 21 (cM 2),cO 22 (cB .lss (t 20) (t 21)),cO 23 (cM 22),cG 24 23 true (cM 4),cG 25 23 true (cM 0),cG 26 23 true (cM 3),cG 27 23 true (cM 11),cG 28 23 true (cB .add (t 26) (t 27)),cG 29 23 true (ixaS 1 (t 25) (t 28)),cG 30 23 true (cD 29),cG 31 23 true (cM 0),cG 32 23 true (cM 3),cG 33 23 true (cM 11),cG 34 23 true (cB .add (t 32) (t 33)),cG 35 23 true (cB .add (t 34) (cN 1)),cG 36 23 true (ixaS 1 (t 31) (t 35)),cG 37 23 true (cD 36),cG 38 23 true (call (t 24) [t 30,t 37]),cG 39 23 true (cB .lss (t 38) (cN 0)),cO 40 (pick (t 23) (t 39) aB)] [(0,0),(1,0),(2,0),(3,0),(4,0),(5,0),(6,0),(7,0),(8,0),(9,0),(10,0),(11,0),(12,0),(13,0),(14,0),(15,0),(16,0),(17,0),(18,0),(19,2),(20,0),(21,0)]).seq (C2.cond (t 40) (ops 0 [cO 41 (cM 11),cO 42 (cB .add (t 41) (cN 1)),cO 11 (cM 42)]) skip)).seq (((mixS 1 [cO 43 (cM 4),cO 44 (cM 0),cO 45 (cM 3),cO 46 (cM 10),cO 47 (cB .add (t 45) (t 46)),cO 48 (ixaS 1 (t 44) (t 47)),cO 49 (cD 48),cO 50 (cM 0),cO 51 (cM 3),cO 52 (cM 11),cO 53 (cB .add (t 51) (t 52)),cO 54 (ixaS 1 (t 50) (t 53)),cO 55 (cD 54),cO 56 (call (t 43) [t 49,t 55]),cO 57 (cB .lss (t 56) (cN 0)),cO 58 (un UnOp.not (t 57))] [(0,0),(1,0),(2,0),(3,0),(4,0),(5,0),(6,0),(7,0),(8,0),(9,0),(10,0),(11,0),(12,0),(13,2),(14,0),(15,0)]).seq (C2.cond (t 58) ret skip)).seq ((ops 1 [cO 59 (cM 0),cO 60 (cM 3),cO 61 (cM 10),cO 62 (cB .add (t 60) (t 61)),cO 63 (cM 0),cO 64 (cM 3),cO 65 (cM 11),cO 66 (cB .add (t 64) (t 65)),cO 67 (cM 0),cO 68 (cM 3),cO 69 (cM 11),cO 70 (cB .add (t 68) (t 69)),cO 71 (ixaS 1 (t 67) (t 70)),cO 72 (cD 71),cO 73 (cM 0),cO 74 (cM 3),cO 75 (cM 10),cO 76 (cB .add (t 74) (t 75)),cO 77 (ixaS 1 (t 73) (t 76)),cO 78 (cD 77),cO 79 (ixaS 1 (t 59) (t 62)),Op2.mk none none (Ins.st 1 (t 79) (t 72)),cO 80 (ixaS 1 (t 63) (t 66)),Op2.mk none none (Ins.st 1 (t 80) (t 78))]).seq (ops 0 [cO 81 (cM 11),cO 10 (cM 81)]))))))).loop)))
theorem AS:Is Try.prog 111 zA:=Is.mk' Try.func111 (by kernel_rfl)
def Ac:F2:=(F2.mk 7 [RV.t 2] ((ops 0 [cO 2 (mov (c (AV.int IntKind.u64 (0))))]).seq ((ops 0 [cO 3 (cM 0),cO 4 (conv IntKind.u64 (t 3)),cO 5 (call (cF 90) [t 4]),cO 6 (cB .shl (c (AV.int IntKind.u64 (1))) (t 5)),cO 2 (cM 6)]).seq ret)))
theorem Ah:Is Try.prog 112 Ac:=Is.mk' Try.func112 (by kernel_rfl)
def zR:F2:=(F2.mk 33 [RV.t 2] ((ops 0 [cO 2 (mov (c (AV.int IntKind.u64 (0))))]).seq ((ops 1 [cO 3 (cM 0),cO 4 (nilck (t 3)),cO 5 (cD 4),cO 6 (cM 0),cO 7 (nilck (t 6)),cO 8 (cD 7),cO 9 (cB .shl (t 8) (c (AV.int IntKind.u64 (13)))),cO 10 (cB .xor (t 5) (t 9)),cO 11 (nilck (t 3)),Op2.mk none none (Ins.st 1 (t 11) (t 10))]).seq ((ops 1 [cO 12 (cM 0),cO 13 (nilck (t 12)),cO 14 (cD 13),cO 15 (cM 0),cO 16 (nilck (t 15)),cO 17 (cD 16),cO 18 (cB .shr (t 17) (c (AV.int IntKind.u64 (7)))),cO 19 (cB .xor (t 14) (t 18)),cO 20 (nilck (t 12)),Op2.mk none none (Ins.st 1 (t 20) (t 19))]).seq ((ops 1 [cO 21 (cM 0),cO 22 (nilck (t 21)),cO 23 (cD 22),cO 24 (cM 0),cO 25 (nilck (t 24)),cO 26 (cD 25),cO 27 (cB .shl (t 26) (c (AV.int IntKind.u64 (17)))),cO 28 (cB .xor (t 23) (t 27)),cO 29 (nilck (t 21)),Op2.mk none none (Ins.st 1 (t 29) (t 28))]).seq ((ops 0 [cO 30 (cM 0),cO 31 (nilck (t 30)),cO 32 (cD 31),cO 2 (cM 32)]).seq ret))))))
theorem AY:Is Try.prog 113 zR:=Is.mk' Try.func113 (by kernel_rfl)
def Ax:F2:=(F2.mk 18 [RV.t 8] ((ops 0 [cO 8 (mov (cN 0))]).seq ((ops 0 [cO 9 (cM 0),cO 10 (cM 1),cO 11 (cB .sub (t 10) (cN 1)),cO 12 (cM 1),cO 13 (cM 1),cO 14 (cB .add (t 13) (cN 1)),cO 15 (cM 2),cO 16 (cM 3),cO 17 (call (cF 115) [t 9,t 11,t 12,t 14,t 15,t 16]),cO 8 (cM 17)]).seq ret)))
theorem AN:Is Try.prog 114 Ax:=Is.mk' Try.func114 (by kernel_rfl)
def An:F2:=(F2.mk 41 [RV.t 12] ((ops 0 [cO 12 (mov (cN 0))]).seq ((ops 0 [cO 14 (cM 0),cO 15 (cM 1),cO 16 (cM 2),cO 17 (cM 4),cO 18 (cM 5),cO 19 (call (cF 119) [t 14,t 15,t 16,t 17,t 18]),cO 13 (cM 19),cO 20 (ext (t 13) 0),cO 21 (ext (t 13) 1),cO 1 (cM 20),cO 2 (cM 21)]).seq ((ops 0 [cO 23 (cM 0),cO 24 (cM 2),cO 25 (cM 3),cO 26 (cM 4),cO 27 (cM 5),cO 28 (call (cF 119) [t 23,t 24,t 25,t 26,t 27]),cO 22 (cM 28),cO 29 (ext (t 22) 0),cO 30 (ext (t 22) 1),cO 2 (cM 29),cO 3 (cM 30)]).seq ((ops 0 [cO 32 (cM 0),cO 33 (cM 1),cO 34 (cM 2),cO 35 (cM 4),cO 36 (cM 5),cO 37 (call (cF 119) [t 32,t 33,t 34,t 35,t 36]),cO 31 (cM 37),cO 38 (ext (t 31) 0),cO 39 (ext (t 31) 1),cO 1 (cM 38),cO 2 (cM 39)]).seq ((ops 0 [cO 40 (cM 2),cO 12 (cM 40)]).seq ret))))))
theorem Af:Is Try.prog 115 An:=Is.mk' Try.func115 (by kernel_rfl)
def Aa:F2:=(F2.mk 13 [RV.t 4] ((ops 0 [cO 2 (box (t 0)),cO 4 (mov (c AV.esl))]).seq (((ops 0 [cO 6 (cM 1)]).seq (block 0 (rangeF (t 6) [7] (ops 0 [cO 5 (cM 7)]) (block 1 (ops 0 [cO 8 (cD 2),cO 9 (cM 5),cO 10 (bldS 1 1 [AV.esl] [(0,1,t 9)]),cO 11 (app 1 24 (t 8) (t 10)),Op2.mk none none (Ins.st 1 (t 2) (t 11))]))))).seq ((ops 0 [cO 12 (cD 2),cO 4 (cM 12)]).seq ret))))
theorem AA:Is Try.prog 116 Aa:=Is.mk' Try.func116 (by kernel_rfl)
def AX:F2:=(F2.mk 10 [] ((ops 0 [cO 3 (box (t 0))]).seq ((ops 0 [cO 4 (alloc AV.nilf)]).seq ((ops 0 [cO 5 (mkfn 118 [t 1,t 3,t 2,t 4]),Op2.mk none none (Ins.st 1 (t 4) (t 5))]).seq (mixS 1 [cO 6 (cD 4),cO 7 (cD 1),cO 8 (mks 2 16 [AV.int IntKind.i64 (0),AV.int IntKind.i64 (0)] (cN 0) (t 7)),cO 9 (call (t 6) [cN ((0)),t 8])] [(0,0),(1,0),(2,1),(3,2)])))))
theorem Ar:Is Try.prog 117 AX:=Is.mk' Try.func117 (by kernel_rfl)
def yL:F2:=(F2.mk 37 [RV.t 8] ((ops 0 [cO 8 (mov aB)]).seq (((ops 0 [cO 10 (cM 1),cO 11 (lenS (t 10)),cO 12 (cD 2),cO 13 (cB .eql (t 11) (t 12))]).seq (C2.cond (t 13) ((mixS 1 [cO 14 (cD 3),cO 15 (cM 1),cO 16 (call (cF 83) [t 15]),cO 17 (call (t 14) [t 16]),cO 8 (cM 17)] [(0,0),(1,0),(2,1),(3,2),(4,0)]).seq ret) skip)).seq (((ops 0 [cO 18 (cM 0),cO 9 (cM 18)]).seq (block 0 (((ops 0 [cO 19 (cM 9),cO 20 (cD 4),cO 21 (lenS (t 20)),cO 22 (cB .lss (t 19) (t 21))]).seq (C2.cond (t 22) skip (exit 0))).seq ((block 1 ((mixS 2 [cO 25 (cD 5),cO 26 (cM 9),cO 27 (cB .add (t 26) (cN 1)),cO 28 (cM 1),cO 29 (cD 4),cO 30 (cM 9),cO 31 (ixaS 2 (t 29) (t 30)),cO 32 (ldn 2 (t 31)),cO 33 (bldS 2 1 [AV.int IntKind.i64 (0),AV.int IntKind.i64 (0)] [(0,2,t 32)]),cO 34 (app 2 16 (t 28) (t 33)),cO 35 (call (t 25) [t 27,t 34]),cO 36 (un UnOp.not (t 35))] [(0,0),(1,0),(2,0),(3,0),(4,0),(5,0),(6,0),(7,0),(8,1),(9,1),(10,2),(11,0)]).seq (C2.cond (t 36) ((ops 0 [cO 8 (mov aB)]).seq ret) skip))).seq (ops 0 [cO 23 (cM 9),cO 24 (cB .add (t 23) (cN 1)),cO 9 (cM 24)]))).loop)).seq ((ops 0 [cO 8 (mov aS)]).seq ret)))))
theorem yA:Is Try.prog 118 yL:=Is.mk' Try.func118 (by kernel_rfl)
def zY:F2:=(F2.mk 32 [RV.t 10,RV.t 11] ((ops 0 [cO 10 (mov (cN 0)),cO 11 (mov (cN 0))]).seq (((mixS 1 [cO 12 (cM 4),cO 13 (cM 0),cO 14 (cM 2),cO 15 (ixaS 1 (t 13) (t 14)),cO 16 (cD 15),cO 17 (cM 0),cO 18 (cM 1),cO 19 (ixaS 1 (t 17) (t 18)),cO 20 (cD 19),cO 21 (call (t 12) [t 16,t 20]),cO 22 (cB .lss (t 21) (cN 0))] [(0,0),(1,0),(2,0),(3,0),(4,0),(5,0),(6,0),(7,0),(8,0),(9,2),(10,0)]).seq (C2.cond (t 22) ((ops 0 [cO 23 (cM 3),cO 24 (nilck (t 23)),cO 25 (cD 24),cO 26 (cB .add (t 25) (cN 1)),cO 27 (nilck (t 23)),Op2.mk none none (Ins.st 1 (t 27) (t 26))]).seq ((ops 0 [cO 28 (cM 2),cO 29 (cM 1),cO 10 (cM 28),cO 11 (cM 29)]).seq ret)) skip)).seq ((ops 0 [cO 30 (cM 1),cO 31 (cM 2),cO 10 (cM 30),cO 11 (cM 31)]).seq ret))))
theorem AJ:Is Try.prog 119 zY:=Is.mk' Try.func119 (by kernel_rfl)
end Go.Proofs.Ytfcenbapjhecfaa
namespace Go.Proofs.Ytfcenbapjhecfaa
open Go Go.Abs
def swp {α:Type} [Inhabited α] (L:List α) (i j:Nat):List α:=(L.set i (L.getD j default)).set j (L.getD i default)
structure PermR {α:Type} [Inhabited α] (a b:Nat) (L L':List α):Prop where
 len:L'.length=L.length
 out:∀ i,i < a ∨ b ≤ i→L'.getD i default=L.getD i default
 perm:L'.Perm L
section
variable {α:Type} [Inhabited α] {a b a' b':Nat} {L L' L'':List α}
theorem cq {l:List α} {i j:Nat} {x:α} (h:i < l.length):(l.set i x).getD j default=if i=j then x else l.getD j default:=by
 simp only [List.getD,List.getElem?_set]
 split
 ·rename_i e; subst e; simp [h]
 ·rfl
theorem tG (i j:Nat):(swp L i j).length=L.length:=by simp [swp]
theorem cV {i j:Nat} (hi:i < L.length) (hj:j < L.length) (k:Nat):(swp L i j).getD k default=if k=j then L.getD i default else if k=i then L.getD j default else L.getD k default:=by
 unfold swp
 rw [cq (by simpa using hj),cq hi]
 by_cases e:k=j
 ·subst e; simp
 ·rw [if_neg (fun h=>e h.symm),if_neg e]
  by_cases e2:k=i
  ·subst e2; simp
  ·rw [if_neg (fun h=>e2 h.symm),if_neg e2]
theorem wk {i j:Nat} (hi:i < L.length) (hj:j < L.length):(swp L i j).Perm L:=by
 unfold swp
 have e1:L.getD i default=L[i]:=by simp [List.getD,hi]
 have e2:L.getD j default=L[j]:=by simp [List.getD,hj]
 rw [e1,e2]
 exact List.set_set_perm hi hj
theorem PermR.refl:PermR a b L L:=⟨rfl,fun _ _=>rfl,List.Perm.refl _⟩
theorem PermR.trans (h:PermR a b L L') (k:PermR a b L' L''):PermR a b L L'':=⟨k.len.trans h.len,fun i hi=>(k.out i hi).trans (h.out i hi),k.perm.trans h.perm⟩
theorem PermR.mono (h:PermR a' b' L L') (h1:a ≤ a') (h2:b' ≤ b):PermR a b L L':=⟨h.len,fun i hi=>h.out i (by omega),h.perm⟩
theorem PermR.swap {i j:Nat} (h1:a ≤ i∧i < b) (h2:a ≤ j∧j < b) (hb:b ≤ L.length):PermR a b L (swp L i j) :=
 ⟨tG i j,fun k hk=>by rw [cV (by omega) (by omega),if_neg (by omega),if_neg (by omega)],wk (by omega) (by omega)⟩
theorem qD {l m:List α} (hl:l.length=m.length) (h:∀ i,i < l.length→l.getD i default=m.getD i default):l=m :=
 List.ext_getElem hl (fun i h1 h2=>by
  have:=h i h1
  simpa [List.getD,h1,h2] using this)
theorem PermR.mid (h:PermR a b L L') (hab:a ≤ b) (hb:b ≤ L.length):((L'.drop a).take (b - a)).Perm ((L.drop a).take (b - a)):=by
 have e1:∀ M:List α,b ≤ M.length→M=M.take a ++ ((M.drop a).take (b - a) ++ M.drop b):=fun M hM=>by
  have:M.drop b=(M.drop a).drop (b - a):=by rw [List.drop_drop]; congr 1; omega
  rw [this,List.take_append_drop,List.take_append_drop]
 have t:L'.take a=L.take a:=qD (by simp [h.len]) (fun i hi=>by
  have hi':i < a:=by simp at hi; omega
  rw [oG hi',oG hi']; exact h.out i (.inl hi'))
 have d:L'.drop b=L.drop b:=qD (by simp [h.len]) (fun i hi=>by
  have e:∀ M:List α,(M.drop b).getD i default=M.getD (b + i) default:=fun M=>by simp [List.getD,List.getElem?_drop]
  rw [e,e]; exact h.out (b + i) (.inr (by omega)))
 have p:=h.perm
 rw [e1 L' (by rw [h.len]; exact hb),e1 L hb,t,d] at p
 exact (List.perm_append_right_iff _).1 ((List.perm_append_left_iff _).1 p)
theorem sW {M:List α} {x:α} (hab:a ≤ b) (hb:b ≤ M.length):x ∈ (M.drop a).take (b - a) ↔ ∃ i,a ≤ i∧i < b∧M.getD i default=x:=by
 constructor
 ·intro h
  obtain ⟨j,hj,e⟩:=List.getElem_of_mem h
  have hj':j < b - a:=by simp at hj; omega
  refine ⟨a + j,by omega,by omega,?_⟩
  rw [← e]
  simp [List.getD,List.getElem_take,List.getElem_drop,show a + j < M.length by omega]
 ·rintro ⟨i,h1,h2,rfl⟩
  rw [List.mem_iff_getElem?]
  refine ⟨i - a,?_⟩
  rw [List.getElem?_take,if_pos (by omega),List.getElem?_drop,show a + (i - a)=i by omega]
  simp [List.getD,show i < M.length by omega]
theorem PermR.all {p:α→Prop} (h:PermR a b L L') (hab:a ≤ b) (hb:b ≤ L.length) (hp:∀ i,a ≤ i→i < b→p (L.getD i default)):∀ i,a ≤ i→i < b→p (L'.getD i default):=by
 intro i h1 h2
 have hm:L'.getD i default ∈ (L'.drop a).take (b - a):=(sW hab (by rw [h.len]; exact hb)).2 ⟨i,h1,h2,rfl⟩
 obtain ⟨j,k1,k2,e⟩:=(sW hab hb).1 ((h.mid hab hb).mem_iff.1 hm)
 rw [← e]; exact hp j k1 k2
end
structure Ord {α:Type} (K:α→α→Int):Prop where
 irr:∀ x,¬ K x x < 0
 asym:∀ x y,K x y < 0→¬ K y x < 0
 negtr:∀ x y z,¬ K y x < 0→¬ K z y < 0→¬ K z x < 0
def a5 {α:Type} [Inhabited α] (K:α→α→Int) (a b:Nat) (L:List α):Prop:=∀ i j,a ≤ i→i < j→j < b→¬ K (L.getD j default) (L.getD i default) < 0
theorem a5.one {α:Type} [Inhabited α] {K:α→α→Int} {a b:Nat} {L:List α} (h:b ≤ a + 1):a5 K a b L:=fun i j h1 h2 h3=>by omega
end Go.Proofs.Ytfcenbapjhecfaa
namespace Go.Proofs.Ytfcenbapjhecfaa
open Go Go.Abs
structure LinK {α:Type} (K:α→α→Int):Prop where
 ord:Ord K
 eq:∀ x y,¬ K x y < 0→¬ K y x < 0→x=y
def bo {α:Type} (K:α→α→Int) (l:List α):Prop:=l.Pairwise fun x y=>K x y < 0
def f0 {α:Type} (K:α→α→Int):List α→α→List α
 | [],v=>[v]
 | a :: l,v=>if K v a < 0 then v :: a :: l else a :: f0 K l v
section
variable {α:Type} [DecidableEq α] {K:α→α→Int}
def gy (K:α→α→Int) (acc:List α) (v:α):List α:=if v ∈ acc then acc else f0 K acc v
def kp (K:α→α→Int) (acc l:List α):List α:=l.foldl (gy K) acc
def gD (K:α→α→Int) (l:List α):List α:=kp K [] l
omit [DecidableEq α] in
theorem bo.nil:bo K ([]:List α):=List.Pairwise.nil
omit [DecidableEq α] in
theorem bo.nodup {l:List α} (hK:LinK K) (h:bo K l):l.Nodup:=List.Pairwise.imp (fun {a b} h e=>by subst e; exact hK.ord.irr a h) h
omit [DecidableEq α] in
theorem LinK.tri (hK:LinK K) (x y:α):K x y < 0 ∨ x=y ∨ K y x < 0:=by
 by_cases h1:K x y < 0
 ·exact .inl h1
 ·by_cases h2:K y x < 0
  ·exact .inr (.inr h2)
  ·exact .inr (.inl (hK.eq x y h1 h2))
omit [DecidableEq α] in
theorem LinK.trans (hK:LinK K) {x y z:α} (h1:K x y < 0) (h2:K y z < 0):K x z < 0:=by
 refine Decidable.byContradiction fun hn=>?_
 exact hK.ord.negtr z x y hn (hK.ord.asym _ _ h1) h2
omit [DecidableEq α] in
theorem kJ {a b:List α} (hK:LinK K) (ha:bo K a) (hb:bo K b) (h:∀ x,x ∈ a ↔ x ∈ b):a=b:=by
 classical
 have hp:a.Perm b:=(List.perm_ext_iff_of_nodup (ha.nodup hK) (hb.nodup hK)).2 h
 exact List.Perm.eq_of_pairwise (fun x y _ _ h1 h2=>absurd h2 (hK.ord.asym _ _ h1)) ha hb hp
omit [DecidableEq α] in
theorem rF {l:List α} {v x:α}:x ∈ f0 K l v ↔ x ∈ l ∨ x=v:=by
 induction l with
 | nil=>simp [f0]
 | cons a l ih =>
  unfold f0
  split
  ·simp only [List.mem_cons]
   exact ⟨fun h=>h.elim .inr .inl,fun h=>h.elim .inr .inl⟩
  ·rw [List.mem_cons,ih,List.mem_cons,or_assoc]
omit [DecidableEq α] in
theorem vI {l:List α} {v:α} (hK:LinK K) (h:bo K l) (hv:v ∉ l):bo K (f0 K l v):=by
 induction l with
 | nil=>exact List.pairwise_singleton _ _
 | cons a l ih =>
  unfold bo at h
  rw [List.pairwise_cons] at h
  unfold f0
  split
  ·rename_i hlt
   exact List.pairwise_cons.2 ⟨fun y hy=>by
    rcases List.mem_cons.1 hy with rfl | hy
    ·exact hlt
    ·exact hK.trans hlt (h.1 y hy),List.pairwise_cons.2 h⟩
  ·rename_i hlt
   refine List.pairwise_cons.2 ⟨fun y hy=>?_,ih h.2 fun hm=>hv (List.mem_cons_of_mem _ hm)⟩
   rcases rF.1 hy with hy | rfl
   ·exact h.1 y hy
   ·rcases hK.tri y a with k | k | k
    ·exact absurd k hlt
    ·exact absurd (k ▸ List.mem_cons_self) hv
    ·exact k
omit [DecidableEq α] in
theorem qX {l:List α} {v:α}:(f0 K l v).length=l.length + 1:=by
 induction l with
 | nil=>rfl
 | cons a l ih=>unfold f0; split <;> simp [ih]
theorem wG {acc:List α} {v x:α}:x ∈ gy K acc v ↔ x ∈ acc ∨ x=v:=by
 unfold gy
 split
 ·rename_i h
  exact ⟨.inl,fun h2=>h2.elim id (fun e=>e ▸ h)⟩
 ·exact rF
theorem wU {acc:List α} {v:α} (hK:LinK K) (h:bo K acc):bo K (gy K acc v):=by
 unfold gy
 split
 ·exact h
 ·rename_i hn
  exact vI hK h hn
theorem vB {acc:List α} {v:α}:(gy K acc v).length ≤ acc.length + 1:=by
 unfold gy
 split
 ·omega
 ·rw [qX]; exact Nat.le_refl _
theorem ri:∀ {l acc:List α} {x:α},x ∈ kp K acc l ↔ x ∈ acc ∨ x ∈ l
 | [],acc,x=>by simp [kp]
 | v :: l,acc,x=>by
  rw [show kp K acc (v :: l)=kp K (gy K acc v) l from rfl,ri,wG,List.mem_cons,or_assoc]
theorem rq (hK:LinK K):∀ {l acc:List α},bo K acc→bo K (kp K acc l)
 | [],_,h=>h
 | v :: l,acc,h=>rq hK (l:=l) (wU hK (v:=v) h)
theorem qZ:∀ {l acc:List α},(kp K acc l).length ≤ acc.length + l.length
 | [],acc=>by simp [kp]
 | v :: l,acc=>by
  rw [show kp K acc (v :: l)=kp K (gy K acc v) l from rfl]
  have:=qZ (l:=l) (acc:=gy K acc v)
  have:=vB (K:=K) (acc:=acc) (v:=v)
  rw [List.length_cons]; omega
theorem vn {acc l:List α} {v:α}:kp K acc (l ++ [v])=gy K (kp K acc l) v:=by
 unfold kp; rw [List.foldl_append]; rfl
theorem mh (hK:LinK K) (l:List α):bo K (gD K l):=rq hK List.Pairwise.nil
theorem gO {l:List α} {x:α}:x ∈ gD K l ↔ x ∈ l:=by
 unfold gD; rw [ri]; simp
theorem qS {l:List α}:(gD K l).length ≤ l.length:=by
 have:=qZ (K:=K) (l:=l) (acc:=[])
 unfold gD
 rw [List.length_nil] at this
 omega
theorem xm (hK:LinK K) {l:List α} (h:bo K l):gD K l=l:=kJ hK (mh hK l) h fun _=>gO
theorem ul {l:List α} {v:α}:gD K (l ++ [v])=gy K (gD K l) v:=vn
theorem qJ {l:List α}:gD K l=[] ↔ l=[]:=by
 constructor
 ·intro h
  cases l with
  | nil=>rfl
  | cons a l =>
   have:a ∈ gD K (a :: l):=gO.2 (List.mem_cons_self ..)
   rw [h] at this
   exact absurd this (by simp)
 ·rintro rfl; rfl
end
section
variable {α:Type} [Inhabited α] [DecidableEq α]
end
end Go.Proofs.Ytfcenbapjhecfaa
namespace Go.Proofs.Ytfcenbapjhecfaa
open Go Go.Abs
abbrev Shn {α:Type} (l:List α):Prop:=l.length ≤ 17592186044416
structure Vtx where
 color:Int
 label:Int
 deriving Inhabited,DecidableEq
abbrev Spx:=List Vtx
def vu (v:Vtx):List AV:=[.int .i64 v.color,.int .i64 v.label]
abbrev bQ (v:Vtx):AV:=.agg [.int .i64 v.color,.int .i64 v.label]
def aw (l:Spx):AV:=fg 2 bQ l
def ar (l:List Spx):AV:=fg 1 aw l
def cX (l:Spx):List AV:=l.flatMap vu
theorem bV (v:Vtx):Dat (bQ v):=Dat.agg (DatL.cons .int (DatL.cons .int DatL.nil))
theorem ay (l:Spx):Dat (aw l):=lY (fun x _ c hc=>by
 simp only [bQ,AV.cells,List.mem_cons,List.not_mem_nil,or_false] at hc
 rcases hc with rfl | rfl <;> exact .int)
theorem aC (l:List Spx):Dat (ar l):=lY (fun x _ c hc=>by
 simp only [aw,fg,AV.cells,List.mem_singleton] at hc; subst hc; exact ay x)
instance datI_encX {v:Vtx}:DatI (bQ v):=⟨bV v⟩
instance datI_encXs {l:Spx}:DatI (aw l):=⟨ay l⟩
instance datI_encXss {l:List Spx}:DatI (ar l):=⟨aC l⟩
theorem ax {l:Spx}:(aw l).cells=[aw l]:=rfl
theorem aA {l:Spx}:(aw l).one=true:=rfl
theorem am {l:List Spx}:(ar l).cells=[ar l]:=rfl
theorem au {l:List Spx}:(ar l).one=true:=rfl
theorem sD {l:Spx} {k:IntKind} {n:Int}:cR 2 (aw l) (.int k n)=if 0 ≤ n∧n < l.length then some (.iptr [.int .i64 (l.getD n.toNat default).color,.int .i64 (l.getD n.toNat default).label] 0) else none:=jS
theorem ap {l:Spx}:bE (aw l)=some (.int .i64 l.length):=iR
theorem rM {l:List Spx} {k:IntKind} {n:Int}:cR 1 (ar l) (.int k n)=if 0 ≤ n∧n < l.length then some (.iptr [aw (l.getD n.toNat default)] 0) else none:=jS
theorem ae {l:List Spx}:bE (ar l)=some (.int .i64 l.length):=iR
theorem ix2 {l:Spx} {k:Nat} (h:k < l.length):cR 2 (aw l) (.int .i64 (k:Int))=some (.iptr [.int .i64 (l.getD k default).color,.int .i64 (l.getD k default).label] 0):=by
 rw [sD,if_pos ⟨by omega,by omega⟩,Int.toNat_natCast]
theorem dp {l:List Spx} {k:Nat} (h:k < l.length):cR 1 (ar l) (.int .i64 (k:Int))=some (.iptr [aw (l.getD k default)] 0):=by
 rw [rM,if_pos ⟨by omega,by omega⟩,Int.toNat_natCast]
theorem dT (l:Spx):(cX l).length=l.length * 2:=by
 induction l with
 | nil=>rfl
 | cons a l ih=>rw [cX,List.flatMap_cons,List.length_append,List.length_cons,show (l.flatMap vu).length=l.length * 2 from ih]; show 2 + _=_; omega
theorem g9 (l m:Spx):cX (l ++ m)=cX l ++ cX m:=List.flatMap_append
theorem yN (v:Vtx):cX [v]=[.int .i64 v.color,.int .i64 v.label]:=rfl
theorem sH (l:Spx):(l.map bQ).flatMap AV.cells=cX l:=by
 induction l with
 | nil=>rfl
 | cons a l ih=>rw [List.map_cons,List.flatMap_cons,ih]; rfl
theorem w9 {H:Hp} {s:AV} {l:Spx} (h:Row H 2 s (cX l)):Snap H s (aw l):=by
 refine Row.snap (elems:=l.map bQ) (by rw [sH]; exact h) (fun y hy=>?_) (by omega) (fun y hy c hx=>?_)
 ·obtain ⟨n,_,rfl⟩:=List.mem_map.1 hy; rfl
 ·obtain ⟨n,_,rfl⟩:=List.mem_map.1 hy
  simp only [bQ,AV.cells,List.mem_cons,List.not_mem_nil,or_false] at hx
  rcases hx with rfl | rfl <;> exact .int
theorem eD {H:Hp} {s:AV} {l:List Spx} (h:Row H 1 s (l.map aw)):Snap H s (ar l):=h.snapL' (fun _=>rfl) (fun x _=>ay x)
theorem ou {H:Hp} {l:Spx}:dl 2 H (aw l)=some (l.length,cX l):=by
 unfold aw fg; rw [o6,sH]; simp
theorem fU (l:Spx):AV.ones (cX l)=true:=by
 unfold AV.ones
 rw [List.all_eq_true]
 intro x hx
 obtain ⟨v,_,hv⟩:=List.mem_flatMap.1 hx
 simp only [vu,List.mem_cons,List.not_mem_nil,or_false] at hv
 rcases hv with rfl | rfl <;> rfl
def bv (v w:Vtx):Int:=if v.color < w.color then -1 else if v.color > w.color then 1 else if v.label < w.label then -1 else if v.label > w.label then 1 else 0
def aM:Spx→Spx→Int
 | [],[]=>0
 | [],_ :: _=>-1
 | _ :: _,[]=>1
 | a :: l,b :: m=>if bv a b ≠ 0 then bv a b else aM l m
theorem jg {v w:Vtx}:bv v w < 0 ↔ v.color < w.color ∨ (v.color=w.color∧v.label < w.label):=by
 unfold bv; (repeat' split) <;> constructor <;> intro h <;> omega
theorem i8 {v w:Vtx}:v=w ↔ v.color=w.color∧v.label=w.label:=by
 obtain ⟨a,b⟩:=v
 obtain ⟨c,d⟩:=w
 simp
theorem eR {v w:Vtx}:bv v w=0 ↔ v=w:=by
 rw [i8]; unfold bv; (repeat' split) <;> constructor <;> intro h <;> omega
theorem oo (v w:Vtx):bv w v=- bv v w:=by
 unfold bv; (repeat' split) <;> omega
theorem sL:LinK bv where
 ord:={ irr:=fun x=>by rw [jg]; omega,asym:=fun x y h=>by rw [jg] at *; omega,negtr:=fun x y z h1 h2=>by rw [jg] at *; omega }
 eq:=fun x y h1 h2=>by rw [jg] at *; rw [i8]; omega
theorem de:∀ l:Spx,aM l l=0
 | []=>rfl
 | a :: l=>by rw [aM,eR.2 rfl,if_neg (by simp)]; exact de l
theorem lP:∀ {l m:Spx},aM l m=0→l=m
 | [],[],_=>rfl
 | [],_ :: _,h=>by simp [aM] at h
 | _ :: _,[],h=>by simp [aM] at h
 | a :: l,b :: m,h=>by
  rw [aM] at h
  by_cases e:bv a b=0
  ·rw [if_neg (fun h=>h e)] at h
   rw [eR.1 e,lP h]
  ·rw [if_pos e] at h; exact absurd h e
theorem oI {l m:Spx}:aM l m=0 ↔ l=m:=⟨lP,fun h=>by rw [h]; exact de _⟩
theorem ie:∀ l m:Spx,aM m l=- aM l m
 | [],[]=>rfl
 | [],_ :: _=>rfl
 | _ :: _,[]=>rfl
 | a :: l,b :: m=>by
  rw [aM,aM,oo a b]
  by_cases e:bv a b=0
  ·rw [e,if_neg (by simp),if_neg (by simp)]; exact ie l m
  ·rw [if_pos (by omega),if_pos e]
theorem l6:∀ (x y z:Spx),¬ aM y x < 0→¬ aM z y < 0→¬ aM z x < 0
 | [],_,[],_,_=>by simp [aM]
 | [],_,_ :: _,_,_=>by simp [aM]
 | _ :: _,[],_,h,_=>by simp [aM] at h
 | _ :: _,_ :: _,[],_,h=>by simp [aM] at h
 | a :: x,b :: y,c :: z,h1,h2=>by
  rw [aM] at h1 h2 ⊢
  have n:=sL.ord.negtr a b c
  by_cases e1:bv b a=0
  ·have e1':=eR.1 e1
   subst e1'
   rw [if_neg (fun h=>h e1)] at h1
   by_cases e2:bv c b=0
   ·rw [if_neg (fun h=>h e2)] at h2 ⊢
    exact l6 x y z h1 h2
   ·rw [if_pos e2] at h2 ⊢; exact h2
  ·rw [if_pos e1] at h1
   by_cases e2:bv c b=0
   ·have e2':=eR.1 e2
    subst e2'
    rw [if_pos e1]; exact h1
   ·rw [if_pos e2] at h2
    have h3:=n h1 h2
    by_cases e3:bv c a=0
    ·exfalso
     have e3':=eR.1 e3
     subst e3'
     have:=oo b c
     omega
    ·rw [if_pos e3]; exact h3
theorem gS:LinK aM where
 ord:={ irr:=fun x=>by rw [de]; omega,asym:=fun x y h=>by rw [ie]; omega,negtr:=l6 }
 eq:=fun x y h1 h2=>by
  have:=ie x y
  exact lP (by omega)
theorem oN {l m:Spx} {k:Nat} (h1:k < l.length) (h2:k < m.length):aM (l.drop k) (m.drop k)=if bv (l.getD k default) (m.getD k default) ≠ 0 then bv (l.getD k default) (m.getD k default) else aM (l.drop (k + 1)) (m.drop (k + 1)):=by
 rw [fJ h1,fJ h2,aM]
theorem ng {l m:Spx} {k:Nat} (h:l.length ≤ k ∨ m.length ≤ k) (hk:k ≤ l.length∧k ≤ m.length):aM (l.drop k) (m.drop k)=if l.length < m.length then -1 else if m.length < l.length then 1 else 0:=by
 by_cases e1:l.length=k
 ·rw [List.drop_eq_nil_of_le (show l.length ≤ k by omega)]
  by_cases e2:m.length=k
  ·rw [List.drop_eq_nil_of_le (by omega),if_neg (by omega),if_neg (by omega)]; rfl
  ·rw [fJ (l:=m) (k:=k) (by omega),if_pos (by omega)]; rfl
 ·have e2:m.length=k:=by omega
  rw [fJ (l:=l) (k:=k) (by omega),List.drop_eq_nil_of_le (show m.length ≤ k by omega),if_neg (by omega),if_pos (by omega)]; rfl
def b4 (f:Nat→Int):Nat→Int
 | 0=>0
 | n + 1=>if b4 f n ≠ 0 then b4 f n else f n
theorem cu {f:Nat→Int}:∀ {n:Nat},(∀ i,i < n→f i=0)→b4 f n=0
 | 0,_=>rfl
 | n + 1,h=>by
  have:=cu (f:=f) (n:=n) (fun i hi=>h i (by omega))
  rw [b4,this,if_neg (by simp)]; exact h n (by omega)
theorem bL {f:Nat→Int}:∀ {n k:Nat},k < n→(∀ i,i < k→f i=0)→f k ≠ 0→b4 f n=f k
 | 0,k,h,_,_=>absurd h (by omega)
 | n + 1,k,h,h0,hk=>by
  rw [b4]
  by_cases e:k=n
  ·subst e
   rw [cu h0,if_neg (by simp)]
  ·rw [bL (n:=n) (by omega) h0 hk,if_pos hk]
theorem eU {f:Nat→Int}:∀ {n:Nat},b4 f n=0→∀ i,i < n→f i=0
 | 0,_,i,h=>absurd h (by omega)
 | n + 1,h,i,hi=>by
  rw [b4] at h
  by_cases e:b4 f n=0
  ·rw [e,if_neg (by simp)] at h
   by_cases ei:i=n
   ·subst ei; exact h
   ·exact eU e i (by omega)
  ·rw [if_pos e] at h; exact absurd h e
def dw (v:Vtx):Bool:=decide (0 ≤ v.color) && decide (v.color < 8) && (decide (0 ≤ v.label) && decide (v.label ≤ 1048576))
def lj (l:Spx) (k:Nat):Int:=if dw (l.getD k default)=false then 2 else if 0 < k∧0 ≤ bv (l.getD (k - 1) default) (l.getD k default) then 14 else 0
def bj (l:Spx):Int:=if l.length=0 then 16 else if 8 < l.length then 5 else b4 (lj l) l.length
theorem cz {l:Spx} (h:bj l=0):1 ≤ l.length∧l.length ≤ 8∧bo bv l∧∀ v ∈ l,dw v=true:=by
 unfold bj at h
 split at h
 ·exact absurd h (by decide)
 split at h
 ·exact absurd h (by decide)
 rename_i h1 h2
 have hz:=eU h
 have h3:∀ k,k < l.length→dw (l.getD k default)=true∧(0 < k→bv (l.getD (k - 1) default) (l.getD k default) < 0):=fun k hk=>by
  have:=hz k hk
  unfold lj at this
  split at this
  ·exact absurd this (by decide)
  rename_i g1
  split at this
  ·exact absurd this (by decide)
  rename_i g2
  exact ⟨by simpa using g1,fun h0=>by omega⟩
 refine ⟨by omega,by omega,?_,fun v hv=>?_⟩
 ·have step:∀ j i,i < j→j < l.length→bv (l.getD i default) (l.getD j default) < 0:=by
    intro j
    induction j with
    | zero=>intro i h; omega
    | succ j ih =>
     intro i hi hj
     have hs:=(h3 (j + 1) hj).2 (by omega)
     rw [Nat.add_sub_cancel] at hs
     by_cases e:i=j
     ·subst e; exact hs
     ·exact sL.trans (ih i (by omega) (by omega)) hs
  unfold bo
  rw [List.pairwise_iff_getElem]
  intro i j hi hj hij
  have:=step j i hij hj
  simpa [List.getD,hi,hj] using this
 ·obtain ⟨i,hi,rfl⟩:=List.getElem_of_mem hv
  have:=(h3 i hi).1
  simpa [List.getD,hi] using this
theorem ce {α:Type} [Inhabited α] {K:α→α→Int} {l:List α} (h:bo K l) {i j:Nat} (hij:i < j) (hj:j < l.length):K (l.getD i default) (l.getD j default) < 0:=by
 have:=List.pairwise_iff_getElem.1 h i j (by omega) hj hij
 simpa [List.getD,hj,show i < l.length by omega] using this
theorem qH {l:Spx} (h1:1 ≤ l.length∧l.length ≤ 8) (h2:bo bv l) (h3:∀ v ∈ l,dw v=true):bj l=0:=by
 unfold bj
 rw [if_neg (by omega),if_neg (by omega)]
 refine cu fun k hk=>?_
 unfold lj
 rw [h3 _ (aJ hk),if_neg (by simp),if_neg]
 rintro ⟨h0,h4⟩
 have:=ce h2 (i:=k - 1) (j:=k) (by omega) hk
 omega
end Go.Proofs.Ytfcenbapjhecfaa
namespace Go.Proofs.Ytfcenbapjhecfaa
open Go Go.Abs
open Nat (reduceEqDiff reduceAdd reduceLeDiff)
def c3i (a b:Int):Int:=if a < b then -1 else if a > b then 1 else 0
theorem xu (v w:Vtx):(if c3i v.color w.color ≠ 0 then c3i v.color w.color else c3i v.label w.label)=bv v w:=by
 unfold c3i bv
 by_cases h1:v.color < w.color
 ·rw [if_pos h1,if_pos h1,if_pos (by simp)]
 ·rw [if_neg h1,if_neg h1]
  by_cases h2:v.color > w.color
  ·rw [if_pos h2,if_pos h2,if_pos (by simp)]
  ·rw [if_neg h2,if_neg h2,if_neg (by simp)]
attribute [local irreducible] aD aj aX aP aH aK az aL aR bd Go.Abs.Fn aO Go.Abs.Pure av aF Yl
theorem qI (n:Int):Pure Try.prog 97 [.int .i64 n] (.bool false):=by
 refine Pure.of_c2 follows BD (Nat.le_of_ble_eq_true rfl) ?_
 simp only [b97,cO,cG,cN,cM,cD,cF,cB,aB,aS]
 (have zz:=and_self; repeat' (first|refine zW ?_|apply a_n|refine zO ?_|refine vZ ?_|refine ak rfl ?_|refine r1Z ?_|fail)) <;> (try clear zz)
 exact bt (decide_eq_false (fun h=>h rfl))
theorem vT (a b:Int):Pure Try.prog 88 [.int .i64 a,.int .i64 b] (.int .i64 (c3i a b)):=by
 refine Pure.of_c2 follows Bj (Nat.le_of_ble_eq_true rfl) ?_
 simp only [b88,cO,cG,cN,cM,cD,cF,cB,aB,aS]
 have h1:=qI a
 have h2:=qI b
 unfold c3i
 (have zz:=and_self; repeat' (first|refine zW ?_|apply a_n|apply a_r|refine zO ?_|refine vZ ?_|refine cZ ?_ (hp:=by first | exact h1 | exact h2)|refine cFZ ?_|(refine zGZ ?_ ?_ <;> (intro _hg; try (exfalso; omega)))|refine ak rfl ?_|refine r1Z ?_|fail)) <;> (try clear zz)
 all_goals (refine co ?_)
 ·rw [if_pos (by omega)]
 ·rw [if_neg (by omega),if_pos (by omega)]
 ·rw [if_neg (by omega),if_neg (by omega)]
theorem Ao (a b:Int):Pure Try.prog 87 [bg [a,b]] (.int .i64 (if a ≠ 0 then a else b)):=by
 refine Pure.of_c2 follows BJ (Nat.le_of_ble_eq_true rfl) ?_
 simp only [b87,cO,cG,cN,cM,cD,cF,cB,aB,aS]
 (have zz:=and_self; repeat' (first|refine zW ?_|apply a_n|refine zO ?_|refine vZ ?_|fail)) <;> (try clear zz)
 refine tQ (fun k=>[(3,.int .i64 0),(6,bg [a,b]),(7,.int .i64 2),(8,.int .i64 k)]) 2 (fun k=>[a,b].getD k default=0) (by (iterate 4 refine And.intro rfl ?_); trivial) ?_
 intro k hk hz
 rcases (by omega:k=0 ∨ k=1 ∨ k=2) with rfl | rfl | rfl
 ·have e:[a,b].getD 0 default=a:=rfl
  have ix:cR 1 (bg [a,b]) (.int .i64 ((0:Nat):Int))=some (.iptr [.int .i64 a] 0):=rfl
  by_cases h0:a=0
  ·have z:decide (a ≠ 0)=false:=decide_eq_false (fun h=>h h0)
   (have zz:=aI @ix @z; repeat' (first|refine zW ?_|apply a_n|refine zO ?_|refine vZ ?_|refine cFZ ?_|(refine zGZ ?_ ?_ <;> (intro _hg; try (exfalso; omega)))|fail)) <;> (try clear zz)
   exact ⟨by omega,h0,by (iterate 4 refine And.intro rfl ?_); trivial,rfl,rfl⟩
  ·have z:decide (a ≠ 0)=true:=decide_eq_true h0
   (have zz:=aI @ix @z; repeat' (first|refine zW ?_|apply a_n|apply a_r|refine zO ?_|refine vZ ?_|refine cTZ ?_|(refine zGZ ?_ ?_ <;> (intro _hg; try (exfalso; omega)))|refine ak rfl ?_|refine r1Z ?_|fail)) <;> (try clear zz)
   rw [if_pos h0]; exact .int _ _
 ·have h0:a=0:=hz 0 (by omega)
  have ix:cR 1 (bg [a,b]) (.int .i64 ((1:Nat):Int))=some (.iptr [.int .i64 b] 0):=rfl
  rw [if_neg (fun h=>h h0)]
  by_cases h1:b=0
  ·have z:decide (b ≠ 0)=false:=decide_eq_false (fun h=>h h1)
   (have zz:=aI @ix @z; repeat' (first|refine zW ?_|apply a_n|refine zO ?_|refine vZ ?_|refine cFZ ?_|(refine zGZ ?_ ?_ <;> (intro _hg; try (exfalso; omega)))|fail)) <;> (try clear zz)
   exact ⟨by omega,h1,by (iterate 4 refine And.intro rfl ?_); trivial,rfl,rfl⟩
  ·have z:decide (b ≠ 0)=true:=decide_eq_true h1
   (have zz:=aI @ix @z; repeat' (first|refine zW ?_|apply a_n|apply a_r|refine zO ?_|refine vZ ?_|refine cTZ ?_|(refine zGZ ?_ ?_ <;> (intro _hg; try (exfalso; omega)))|refine ak rfl ?_|refine r1Z ?_|fail)) <;> (try clear zz)
   exact .int _ _
 ·have h0:a=0:=hz 0 (by omega)
  have h1:b=0:=hz 1 (by omega)
  rw [if_neg (fun h=>h h0),h1]
  (have zz:=and_self; repeat' (first|refine zW ?_|apply a_n|apply a_x|refine zO ?_|refine vZ ?_|(refine zGZ ?_ ?_ <;> (intro _hg; try (exfalso; omega)))|refine ak rfl ?_|refine r1Z ?_|fail)) <;> (try clear zz)
  exact .int _ _
theorem sV (v w:Vtx):Pure Try.prog 69 [bQ v,bQ w] (.int .i64 (bv v w)):=by
 refine Pure.of_c2 follows B2 (Nat.le_of_ble_eq_true rfl) ?_
 simp only [b69,cO,cG,cN,cM,cD,cF,cB,aB,aS]
 have h1:=vT v.color w.color
 have h2:=vT v.label w.label
 have h3:=Ao (c3i v.color w.color) (c3i v.label w.label)
 rw [xu] at h3
 (have zz:=and_self; repeat' (first|refine zW ?_|refine zM ?_|apply a_n|refine zO ?_|refine vZ ?_|refine cZ ?_ (hp:=by first | exact h1 | exact h2)|refine bxZ ?_|refine blZ ?_|fail)) <;> (try clear zz)
 refine bP ev0 (by ((try simp only [bR,ZA,reduceEqDiff,↓reduceIte,reduceAdd,reduceLeDiff]); (try with_reducible rfl)); rfl) h3 (ac (ao (bl ah rfl rfl) aa) rfl) ?_
 (have zz:=and_self; repeat' (first|apply a_n|refine zO ?_|refine vZ ?_|refine ak rfl ?_|refine r1Z ?_|fail)) <;> (try clear zz)
 exact .int _ _
theorem nC (v w:Vtx):Pure Try.prog 72 [bQ v,bQ w] (.int .i64 (bv v w)):=by
 refine Pure.of_c2 follows BN (Nat.le_of_ble_eq_true rfl) ?_
 simp only [b72,cO,cG,cN,cM,cD,cF,cB,aB,aS]
 unfold bv
 (have zz:=and_self; repeat' (first|refine zW ?_|apply a_n|apply a_r|refine zO ?_|refine vZ ?_|refine bxZ ?_|(refine zGZ ?_ ?_ <;> (intro _hg; try (exfalso; omega)))|refine ak rfl ?_|refine r1Z ?_|fail)) <;> (try clear zz)
 all_goals (refine co ?_; (repeat' split) <;> omega)
theorem sn (v:Vtx):Pure Try.prog 70 [bQ v] (.bool (dw v)):=by
 refine Pure.of_c2 follows B9 (Nat.le_of_ble_eq_true rfl) ?_
 simp only [b70,cO,cG,cN,cM,cD,cF,cB,aB,aS]
 unfold dw
 (have zz:=and_self; repeat' (first|refine zW ?_|apply a_n|refine zO ?_|refine vZ ?_|refine bxZ ?_|refine gTZ ?_|refine gFZ ?_|(refine zGZ ?_ ?_ <;> (intro _hg; try (exfalso; omega)))|refine ak rfl ?_|refine r1Z ?_|fail)) <;> (try clear zz)
 all_goals (refine bt ?_; rw [Bool.eq_iff_iff]; simp only [Bool.and_eq_true,decide_eq_true_iff,Bool.false_eq_true,false_iff]; omega)
theorem uY (v:Vtx):Pure Try.prog 71 [bQ v] (.bool (dw v)):=by
 refine Pure.of_c2 follows Bi (Nat.le_of_ble_eq_true rfl) ?_
 simp only [b71,cO,cG,cN,cM,cD,cF,cB,aB,aS]
 unfold dw
 (have zz:=and_self; repeat' (first|refine zW ?_|apply a_n|refine zO ?_|refine vZ ?_|refine bxZ ?_|refine gTZ ?_|refine gFZ ?_|(refine zGZ ?_ ?_ <;> (intro _hg; try (exfalso; omega)))|refine ak rfl ?_|refine r1Z ?_|fail)) <;> (try clear zz)
 all_goals (refine bt ?_; rw [Bool.eq_iff_iff]; simp only [Bool.and_eq_true,decide_eq_true_iff,Bool.false_eq_true,false_iff]; omega)
end Go.Proofs.Ytfcenbapjhecfaa
namespace Go.Proofs.Ytfcenbapjhecfaa
open Go Go.Abs
attribute [local irreducible] aD aj aX aP aH aK az aL aR bd Go.Abs.Fn aO Go.Abs.Pure av aF Yl
theorem ry (l m:Spx) (hl:Shn l) (hm:Shn m):Pure Try.prog 68 [aw l,aw m,.func 69 []] (.int .i64 (aM l m)):=by
 refine Pure.of_c2 follows BR (Nat.le_of_ble_eq_true rfl) ?_
 simp only [b68,cO,cG,cN,cM,cD,cF,cB,aB,aS]
 have hl':l.length ≤ 17592186044416:=hl
 have hm':m.length ≤ 17592186044416:=hm
 (have zz:=@ap; repeat' (first|refine zW ?_|apply a_n|refine zO ?_|refine vZ ?_|fail)) <;> (try clear zz)
 refine ba (X:=Nat) (fun k=>[(0,aw l),(1,aw m),(2,.func 69 []),(11,aw l),(12,.int .i64 l.length),(13,.int .i64 k)]) (fun k H nx=>k ≤ l.length∧k ≤ m.length∧aM l m=aM (l.drop k) (m.drop k)) (fun k=>l.length - k) 0 ⟨Nat.zero_le _,Nat.zero_le _,rfl⟩ ag0 ?_
 rintro k H nx ⟨h1,h2,h3⟩
 by_cases hk:k < l.length
 rotate_left
 ·rw [h3,ng (by omega) ⟨h1,h2⟩]
  (have zz:=@ap; repeat' (first|refine zW ?_|apply a_n|apply a_x|apply a_r|refine zO ?_|refine vY ?_|(refine zGY ?_ ?_ <;> (intro _hg; try (exfalso; omega)))|refine ak rfl ?_|refine r1Y ?_|fail)) <;> (try clear zz)
  all_goals (refine co ?_)
  ·rw [if_pos (by omega)]
  ·rw [if_neg (by omega),if_neg (by omega)]
 have ix:=ix2 hk
 by_cases hk2:k < m.length
 rotate_left
 ·rw [h3,ng (by omega) ⟨h1,h2⟩,if_neg (by omega),if_pos (by omega)]
  (have zz:=aI @ap @ix; repeat' (first|refine zW ?_|apply a_n|apply a_r|refine zO ?_|refine vY ?_|refine alY ?_|refine stY ?_|(refine zGY ?_ ?_ <;> (intro _hg; try (exfalso; omega)))|refine ak rfl ?_|refine r1Y ?_|fail)) <;> (try clear zz)
  all_goals exact co rfl
 have iy:=ix2 hk2
 have hc:=sV (l.getD k default) (m.getD k default)
 have hd:=oN hk hk2
 by_cases he:bv (l.getD k default) (m.getD k default)=0
 ·rw [if_neg (fun h=>h he)] at hd
  rw [he] at hc
  have z:decide ((0:Int) ≠ 0)=false:=rfl
  (have zz:=aI @ap (aI @ix (aI @iy @z)); repeat' (first|refine zW ?_|apply a_n|refine zO ?_|refine vY ?_|refine cY ?_ (hp:=hc) (hs:=by (first | refine ac ?_ rfl | apply ag); (repeat' (first | exact aa | apply an | apply ai | exact bV _)); first | done | fail)|refine alY ?_|refine stY ?_|refine cFY ?_|(refine zGY ?_ ?_ <;> (intro _hg; try (exfalso; omega)))|fail)) <;> (try clear zz)
  exact ⟨k + 1,by omega,⟨by omega,by omega,h3.trans hd⟩,ag0⟩
 ·rw [if_pos he] at hd
  have z:decide (bv (l.getD k default) (m.getD k default) ≠ 0)=true:=decide_eq_true he
  rw [h3,hd]
  (have zz:=aI @ap (aI @ix (aI @iy @z)); repeat' (first|refine zW ?_|apply a_n|apply a_r|refine zO ?_|refine vY ?_|refine cY ?_ (hp:=hc) (hs:=by (first | refine ac ?_ rfl | apply ag); (repeat' (first | exact aa | apply an | apply ai | exact bV _)); first | done | fail)|refine alY ?_|refine stY ?_|refine cTY ?_|(refine zGY ?_ ?_ <;> (intro _hg; try (exfalso; omega)))|refine ak rfl ?_|refine r1Y ?_|fail)) <;> (try clear zz)
  exact .int _ _
theorem dR (l m:Spx) (hl:Shn l) (hm:Shn m):Pure Try.prog 40 [aw l,aw m] (.int .i64 (aM l m)):=by
 refine Pure.of_c2 follows BA (Nat.le_of_ble_eq_true rfl) ?_
 simp only [b40,cO,cG,cN,cM,cD,cF,cB,aB,aS]
 have h:=ry l m hl hm
 (have zz:=and_self; repeat' (first|refine zW ?_|apply a_n|refine zO ?_|refine vZ ?_|refine cZ ?_ (hp:=h) (hs:=by (first | refine ac ?_ rfl | apply ag); (repeat' (first | exact aa | apply an | apply ai | exact ay _ | exact Dat.func (by simp))); first | done | fail)|refine ak rfl ?_|refine r1Z ?_|fail)) <;> (try clear zz)
 exact .int _ _
theorem gg (l m:Spx) (hl:Shn l) (hm:Shn m):Pure Try.prog 44 [aw l,aw m] (.int .i64 (aM l m)):=by
 refine Pure.of_c2 follows Bm (Nat.le_of_ble_eq_true rfl) ?_
 simp only [b44,cO,cG,cN,cM,cD,cF,cB,aB,aS]
 have hl':l.length ≤ 17592186044416:=hl
 have hm':m.length ≤ 17592186044416:=hm
 (have zz:=and_self; repeat' (first|refine zW ?_|apply a_n|refine zO ?_|refine vZ ?_|fail)) <;> (try clear zz)
 refine ba (X:=Nat) (fun k=>[(0,aw l),(1,aw m),(5,.int .i64 k)]) (fun k H nx=>k ≤ l.length∧k ≤ m.length∧aM l m=aM (l.drop k) (m.drop k)) (fun k=>l.length - k) 0 ⟨Nat.zero_le _,Nat.zero_le _,rfl⟩ ag0 ?_
 rintro k H nx ⟨h1,h2,h3⟩
 by_cases hk:k < l.length∧k < m.length
 rotate_left
 ·rw [h3,ng (by omega) ⟨h1,h2⟩]
  (have zz:=@ap; repeat' (first|refine zW ?_|apply a_n|apply a_x|apply a_r|refine zO ?_|refine vY ?_|refine gTY ?_|refine gFY ?_|refine cFY ?_|(refine zGY ?_ ?_ <;> (intro _hg; try (exfalso; omega)))|refine ak rfl ?_|refine r1Y ?_|fail)) <;> (try clear zz)
  all_goals (refine co ?_; (repeat' split) <;> omega)
 have ix:=ix2 hk.1
 have iy:=ix2 hk.2
 have hc:=nC (l.getD k default) (m.getD k default)
 have hd:=oN hk.1 hk.2
 by_cases he:bv (l.getD k default) (m.getD k default)=0
 ·rw [if_neg (fun h=>h he)] at hd
  rw [he] at hc
  have z:decide ((0:Int) ≠ 0)=false:=rfl
  (have zz:=aI @ap (aI @ix (aI @iy @z)); repeat' (first|refine zW ?_|refine zM ?_|apply a_n|refine zO ?_|refine vY ?_|refine cY ?_ (hp:=hc) (hs:=by (first | refine ac ?_ rfl | apply ag); (repeat' (first | exact aa | apply an | apply ai | exact bV _)); first | done | fail)|refine gTY ?_|refine cFY ?_|(refine zGY ?_ ?_ <;> (intro _hg; try (exfalso; omega)))|fail)) <;> (try clear zz)
  exact ⟨k + 1,by omega,⟨by omega,by omega,h3.trans hd⟩,ag0⟩
 ·rw [if_pos he] at hd
  have z:decide (bv (l.getD k default) (m.getD k default) ≠ 0)=true:=decide_eq_true he
  rw [h3,hd]
  (have zz:=aI @ap (aI @ix (aI @iy @z)); repeat' (first|refine zW ?_|refine zM ?_|apply a_n|apply a_r|refine zO ?_|refine vY ?_|refine cY ?_ (hp:=hc) (hs:=by (first | refine ac ?_ rfl | apply ag); (repeat' (first | exact aa | apply an | apply ai | exact bV _)); first | done | fail)|refine gTY ?_|refine cTY ?_|(refine zGY ?_ ?_ <;> (intro _hg; try (exfalso; omega)))|refine ak rfl ?_|refine r1Y ?_|fail)) <;> (try clear zz)
  exact .int _ _
theorem xp (l m:Spx) (hl:Shn l) (hm:Shn m):Pure Try.prog 45 [aw l,aw m] (.bool (decide (l=m))):=by
 refine Pure.of_c2 follows A8 (Nat.le_of_ble_eq_true rfl) ?_
 simp only [b45,cO,cG,cN,cM,cD,cF,cB,aB,aS]
 have h:=gg l m hl hm
 (have zz:=and_self; repeat' (first|refine zW ?_|apply a_n|refine zO ?_|refine vZ ?_|refine cZ ?_ (hp:=h) (hs:=by (first | refine ac ?_ rfl | apply ag); (repeat' (first | exact aa | apply an | apply ai | exact ay _)); first | done | fail)|refine ak rfl ?_|refine r1Z ?_|fail)) <;> (try clear zz)
 exact bt (decide_eq_decide.2 oI)
theorem lv {l:Spx} {k:Nat}:lj l k=if dw (l.getD k default)=false then 2 else if 0 < k∧0 ≤ bv (l.getD (k - 1) default) (l.getD k default) then 14 else 0:=rfl
theorem jN (l:Spx) (hl:Shn l):Pure Try.prog 42 [aw l] (.int .i64 (bj l)):=by
 refine Pure.of_c2 follows B3 (Nat.le_of_ble_eq_true rfl) ?_
 simp only [b42,cO,cG,cN,cM,cD,cF,cB,aB,aS]
 have hl':l.length ≤ 17592186044416:=hl
 by_cases h0:l.length=0
 ·rw [show bj l=16 by unfold bj; rw [if_pos h0]]
  (have zz:=@ap; repeat' (first|refine zW ?_|apply a_n|apply a_r|refine zO ?_|refine vZ ?_|(refine zGZ ?_ ?_ <;> (intro _hg; try (exfalso; omega)))|refine ak rfl ?_|refine r1Z ?_|fail)) <;> (try clear zz)
  all_goals exact co rfl
 by_cases h8:8 < l.length
 ·rw [show bj l=5 by unfold bj; rw [if_neg h0,if_pos h8]]
  (have zz:=@ap; repeat' (first|refine zW ?_|apply a_n|apply a_r|refine zO ?_|refine vZ ?_|(refine zGZ ?_ ?_ <;> (intro _hg; try (exfalso; omega)))|refine ak rfl ?_|refine r1Z ?_|fail)) <;> (try clear zz)
  all_goals exact co rfl
 rw [show bj l=b4 (lj l) l.length by unfold bj; rw [if_neg h0,if_neg h8]]
 (have zz:=@ap; repeat' (first|refine zW ?_|apply a_n|refine zO ?_|refine vZ ?_|(refine zGZ ?_ ?_ <;> (intro _hg; try (exfalso; omega)))|fail)) <;> (try clear zz)
 refine ba (X:=Nat) (fun k=>[(0,aw l),(13,aw l),(14,.int .i64 l.length),(15,.int .i64 k)]) (fun k H nx=>k ≤ l.length∧∀ i,i < k→lj l i=0) (fun k=>l.length - k) 0 ⟨Nat.zero_le _,fun i h=>absurd h (by omega)⟩ ag0 ?_
 rintro k H nx ⟨h1,h2⟩
 by_cases hk:k < l.length
 rotate_left
 ·rw [cu fun i hi=>h2 i (by omega)]
  (have zz:=@ap; repeat' (first|refine zW ?_|apply a_n|apply a_x|refine zO ?_|refine vY ?_|(refine zGY ?_ ?_ <;> (intro _hg; try (exfalso; omega)))|refine ak rfl ?_|refine r1Y ?_|fail)) <;> (try clear zz)
  exact .int _ _
 have ix:=ix2 hk
 have hp:=sn (l.getD k default)
 have hs:=lv (l:=l) (k:=k)
 cases hr:dw (l.getD k default)
 ·rw [hr] at hp
  rw [hr,if_pos rfl] at hs
  rw [bL hk h2 (by rw [hs]; decide),hs]
  (have zz:=aI @ap @ix; repeat' (first|refine zW ?_|apply a_n|apply a_r|refine zO ?_|refine vY ?_|refine cY ?_ (hp:=hp) (hs:=by (first | refine ac ?_ rfl | apply ag); (repeat' (first | exact aa | apply an | apply ai | exact bV _)); first | done | fail)|refine alY ?_|refine stY ?_|refine cTY ?_|(refine zGY ?_ ?_ <;> (intro _hg; try (exfalso; omega)))|refine ak rfl ?_|refine r1Y ?_|fail)) <;> (try clear zz)
  exact .int _ _
 rw [hr] at hp
 rw [hr,if_neg (by decide)] at hs
 by_cases hk0:0 < k
 rotate_left
 ·rw [if_neg (fun h=>hk0 h.1)] at hs
  have zk:decide (0 < (k:Int))=false:=decide_eq_false (by omega)
  (have zz:=aI @ap (aI @ix @zk); repeat' (first|refine zW ?_|refine zM ?_|apply a_n|refine zO ?_|refine vY ?_|refine cY ?_ (hp:=hp) (hs:=by (first | refine ac ?_ rfl | apply ag); (repeat' (first | exact aa | apply an | apply ai | exact bV _)); first | done | fail)|refine alY ?_|refine stY ?_|refine gFY ?_|refine cFY ?_|(refine zGY ?_ ?_ <;> (intro _hg; try (exfalso; omega)))|fail)) <;> (try clear zz)
  exact ⟨k + 1,by omega,⟨by omega,fun i hi=>by
   rcases Nat.lt_succ_iff_lt_or_eq.1 hi with h | rfl
   ·exact h2 i h
   ·exact hs⟩,ag0⟩
 have zk:decide (0 < (k:Int))=true:=decide_eq_true (by omega)
 have iy:cR 2 (aw l) (.int .i64 ((k:Int) - 1))=some (.iptr [.int .i64 (l.getD (k - 1) default).color,.int .i64 (l.getD (k - 1) default).label] 0):=by
  have:=ix2 (l:=l) (k:=k - 1) (by omega)
  rwa [show ((k - 1:Nat):Int)=(k:Int) - 1 by omega] at this
 have hc:=sV (l.getD (k - 1) default) (l.getD k default)
 by_cases hv:0 ≤ bv (l.getD (k - 1) default) (l.getD k default)
 ·have z:decide (0 ≤ bv (l.getD (k - 1) default) (l.getD k default))=true:=decide_eq_true hv
  rw [if_pos ⟨hk0,hv⟩] at hs
  rw [bL hk h2 (by rw [hs]; decide),hs]
  (have zz:=aI @ap (aI @ix (aI @iy (aI @zk @z))); repeat' (first|refine zW ?_|refine zM ?_|apply a_n|apply a_r|refine zO ?_|refine vY ?_|refine cY ?_ (hp:=by first | exact hp | exact hc) (hs:=by (first | refine ac ?_ rfl | apply ag); (repeat' (first | exact aa | apply an | apply ai | exact bV _)); first | done | fail)|refine alY ?_|refine stY ?_|refine gTY ?_|refine cTY ?_|refine cFY ?_|(refine zGY ?_ ?_ <;> (intro _hg; try (exfalso; omega)))|refine ak rfl ?_|refine r1Y ?_|fail)) <;> (try clear zz)
  exact .int _ _
 ·have z:decide (0 ≤ bv (l.getD (k - 1) default) (l.getD k default))=false:=decide_eq_false hv
  rw [if_neg (fun h=>hv h.2)] at hs
  (have zz:=aI @ap (aI @ix (aI @iy (aI @zk @z))); repeat' (first|refine zW ?_|refine zM ?_|apply a_n|refine zO ?_|refine vY ?_|refine cY ?_ (hp:=by first | exact hp | exact hc) (hs:=by (first | refine ac ?_ rfl | apply ag); (repeat' (first | exact aa | apply an | apply ai | exact bV _)); first | done | fail)|refine alY ?_|refine stY ?_|refine gTY ?_|refine cFY ?_|(refine zGY ?_ ?_ <;> (intro _hg; try (exfalso; omega)))|fail)) <;> (try clear zz)
  exact ⟨k + 1,by omega,⟨by omega,fun i hi=>by
   rcases Nat.lt_succ_iff_lt_or_eq.1 hi with h | rfl
   ·exact h2 i h
   ·exact hs⟩,ag0⟩
theorem sS (l:Spx) (hl:Shn l):Pure Try.prog 43 [aw l] (.int .i64 (bj l)):=by
 refine Pure.of_c2 follows Bg (Nat.le_of_ble_eq_true rfl) ?_
 simp only [b43,cO,cG,cN,cM,cD,cF,cB,aB,aS]
 have hl':l.length ≤ 17592186044416:=hl
 by_cases h0:l.length=0
 ·rw [show bj l=16 by unfold bj; rw [if_pos h0]]
  (have zz:=@ap; repeat' (first|refine zW ?_|apply a_n|apply a_r|refine zO ?_|refine vZ ?_|(refine zGZ ?_ ?_ <;> (intro _hg; try (exfalso; omega)))|refine ak rfl ?_|refine r1Z ?_|fail)) <;> (try clear zz)
  all_goals exact co rfl
 by_cases h8:8 < l.length
 ·rw [show bj l=5 by unfold bj; rw [if_neg h0,if_pos h8]]
  (have zz:=@ap; repeat' (first|refine zW ?_|apply a_n|apply a_r|refine zO ?_|refine vZ ?_|(refine zGZ ?_ ?_ <;> (intro _hg; try (exfalso; omega)))|refine ak rfl ?_|refine r1Z ?_|fail)) <;> (try clear zz)
  all_goals exact co rfl
 rw [show bj l=b4 (lj l) l.length by unfold bj; rw [if_neg h0,if_neg h8]]
 (have zz:=@ap; repeat' (first|refine zW ?_|apply a_n|refine zO ?_|refine vZ ?_|(refine zGZ ?_ ?_ <;> (intro _hg; try (exfalso; omega)))|fail)) <;> (try clear zz)
 refine ba (X:=Nat) (fun k=>[(0,aw l),(3,.int .i64 k)]) (fun k H nx=>k ≤ l.length∧∀ i,i < k→lj l i=0) (fun k=>l.length - k) 0 ⟨Nat.zero_le _,fun i h=>absurd h (by omega)⟩ ag0 ?_
 rintro k H nx ⟨h1,h2⟩
 by_cases hk:k < l.length
 rotate_left
 ·rw [cu fun i hi=>h2 i (by omega)]
  (have zz:=@ap; repeat' (first|refine zW ?_|apply a_n|apply a_x|refine zO ?_|refine vY ?_|(refine zGY ?_ ?_ <;> (intro _hg; try (exfalso; omega)))|refine ak rfl ?_|refine r1Y ?_|fail)) <;> (try clear zz)
  exact .int _ _
 have ix:=ix2 hk
 have hp:=uY (l.getD k default)
 have hs:=lv (l:=l) (k:=k)
 cases hr:dw (l.getD k default)
 ·rw [hr] at hp
  rw [hr,if_pos rfl] at hs
  rw [bL hk h2 (by rw [hs]; decide),hs]
  (have zz:=aI @ap @ix; repeat' (first|refine zW ?_|apply a_n|apply a_r|refine zO ?_|refine vY ?_|refine cY ?_ (hp:=hp) (hs:=by (first | refine ac ?_ rfl | apply ag); (repeat' (first | exact aa | apply an | apply ai | exact bV _)); first | done | fail)|refine cTY ?_|(refine zGY ?_ ?_ <;> (intro _hg; try (exfalso; omega)))|refine ak rfl ?_|refine r1Y ?_|fail)) <;> (try clear zz)
  exact .int _ _
 rw [hr] at hp
 rw [hr,if_neg (by decide)] at hs
 by_cases hk0:0 < k
 rotate_left
 ·rw [if_neg (fun h=>hk0 h.1)] at hs
  have zk:decide (0 < (k:Int))=false:=decide_eq_false (by omega)
  (have zz:=aI @ap (aI @ix @zk); repeat' (first|refine zW ?_|refine zM ?_|apply a_n|refine zO ?_|refine vY ?_|refine cY ?_ (hp:=hp) (hs:=by (first | refine ac ?_ rfl | apply ag); (repeat' (first | exact aa | apply an | apply ai | exact bV _)); first | done | fail)|refine gFY ?_|refine cFY ?_|(refine zGY ?_ ?_ <;> (intro _hg; try (exfalso; omega)))|fail)) <;> (try clear zz)
  exact ⟨k + 1,by omega,⟨by omega,fun i hi=>by
   rcases Nat.lt_succ_iff_lt_or_eq.1 hi with h | rfl
   ·exact h2 i h
   ·exact hs⟩,ag0⟩
 have zk:decide (0 < (k:Int))=true:=decide_eq_true (by omega)
 have iy:cR 2 (aw l) (.int .i64 ((k:Int) - 1))=some (.iptr [.int .i64 (l.getD (k - 1) default).color,.int .i64 (l.getD (k - 1) default).label] 0):=by
  have:=ix2 (l:=l) (k:=k - 1) (by omega)
  rwa [show ((k - 1:Nat):Int)=(k:Int) - 1 by omega] at this
 have hc:=nC (l.getD (k - 1) default) (l.getD k default)
 by_cases hv:0 ≤ bv (l.getD (k - 1) default) (l.getD k default)
 ·have z:decide (0 ≤ bv (l.getD (k - 1) default) (l.getD k default))=true:=decide_eq_true hv
  rw [if_pos ⟨hk0,hv⟩] at hs
  rw [bL hk h2 (by rw [hs]; decide),hs]
  (have zz:=aI @ap (aI @ix (aI @iy (aI @zk @z))); repeat' (first|refine zW ?_|refine zM ?_|apply a_n|apply a_r|refine zO ?_|refine vY ?_|refine cY ?_ (hp:=by first | exact hp | exact hc) (hs:=by (first | refine ac ?_ rfl | apply ag); (repeat' (first | exact aa | apply an | apply ai | exact bV _)); first | done | fail)|refine gTY ?_|refine cTY ?_|refine cFY ?_|(refine zGY ?_ ?_ <;> (intro _hg; try (exfalso; omega)))|refine ak rfl ?_|refine r1Y ?_|fail)) <;> (try clear zz)
  exact .int _ _
 ·have z:decide (0 ≤ bv (l.getD (k - 1) default) (l.getD k default))=false:=decide_eq_false hv
  rw [if_neg (fun h=>hv h.2)] at hs
  (have zz:=aI @ap (aI @ix (aI @iy (aI @zk @z))); repeat' (first|refine zW ?_|refine zM ?_|apply a_n|refine zO ?_|refine vY ?_|refine cY ?_ (hp:=by first | exact hp | exact hc) (hs:=by (first | refine ac ?_ rfl | apply ag); (repeat' (first | exact aa | apply an | apply ai | exact bV _)); first | done | fail)|refine gTY ?_|refine cFY ?_|(refine zGY ?_ ?_ <;> (intro _hg; try (exfalso; omega)))|fail)) <;> (try clear zz)
  exact ⟨k + 1,by omega,⟨by omega,fun i hi=>by
   rcases Nat.lt_succ_iff_lt_or_eq.1 hi with h | rfl
   ·exact h2 i h
   ·exact hs⟩,ag0⟩
end Go.Proofs.Ytfcenbapjhecfaa
namespace Go.Proofs.Ytfcenbapjhecfaa
open Go Go.Abs
open Nat (reduceEqDiff reduceAdd reduceLeDiff)
theorem sK (a b c d:Int):bN [.int,.int] [.int .i64 a,.int .i64 b] [.int .i64 c,.int .i64 d]=some (decide (a=c∧b=d)):=by
 have e:∀ x y:Int,(x == y)=decide (x=y):=fun x y=>rfl
 by_cases h1:a=c
 ·by_cases h2:b=d
  ·subst h1 h2; simp [bN,eW]
  ·subst h1; simp only [bN,eW,if_true,e,decide_eq_false h2,decide_true,h2,and_false,decide_false]
 ·simp only [bN,eW,if_true,e,decide_eq_false h1,h1,false_and,decide_false]
theorem acq (a b c d:Int):ja .eql [.int,.int] [.int .i64 a,.int .i64 b] [.int .i64 c,.int .i64 d]=some (.bool (decide (a=c∧b=d))):=by
 unfold ja; rw [sK]
theorem acn (a b c d:Int):ja .neq [.int,.int] [.int .i64 a,.int .i64 b] [.int .i64 c,.int .i64 d]=some (.bool (!decide (a=c∧b=d))):=by
 unfold ja; rw [sK]
theorem p9 (v w:Vtx):decide (v.color=w.color∧v.label=w.label)=decide (v=w):=decide_eq_decide.2 i8.symm
theorem oK {H:Hp} {d:Nat} {x y:AV}:dl 2 (aq H d [x,y]) (.msl d 2 2 0 1)=some (1,[x,y]):=gR (n:=2) (len:=1) (off:=0) (cs:=[x,y]) ah rfl (by simp)
theorem bB {α:Type} [Inhabited α] {l:List α} {k:Nat} (h:k < l.length):l.take (k + 1)=l.take k ++ [l.getD k default]:=by
 rw [List.take_add_one]; simp [List.getD,h]
section
variable {α:Type} {K:α→α→Int} {v x:α} {l:List α}
theorem qO (h:l.any (fun y=>decide (K v y < 0))=true):f0 K (l ++ [x]) v=f0 K l v ++ [x]:=by
 induction l with
 | nil=>cases h
 | cons a l ih =>
  rw [List.cons_append,f0,f0]
  split
  ·rfl
  ·rename_i ha
   rw [List.any_cons,decide_eq_false ha,Bool.false_or] at h
   rw [ih h]; rfl
theorem ur (h:l.any (fun y=>decide (K v y < 0))=false):f0 K l v=l ++ [v]:=by
 induction l with
 | nil=>rfl
 | cons a l ih =>
  rw [List.any_cons,Bool.or_eq_false_iff] at h
  rw [f0,if_neg (of_decide_eq_false h.1),ih h.2]; rfl
theorem uJ (h:l.any (fun y=>decide (K v y < 0))=false) (hx:K v x < 0):f0 K (l ++ [x]) v=l ++ [v] ++ [x]:=by
 induction l with
 | nil=>rw [List.nil_append,f0,if_pos hx]; rfl
 | cons a l ih =>
  rw [List.any_cons,Bool.or_eq_false_iff] at h
  rw [List.cons_append,f0,if_neg (of_decide_eq_false h.1),ih h.2]; rfl
theorem wB {p:α→Bool}:(l ++ [x]).any p=(l.any p || p x):=by rw [List.any_append]; simp
end
def cU (a b:Spx):Bool:=a.all fun v=>decide (v ∈ b)
attribute [local irreducible] aD aj aX aP aH aK az aL aR bd Go.Abs.Fn aO Go.Abs.Pure av aF Yl
theorem AU (l:Spx) (v:Vtx) (hl:Shn l):Pure Try.prog 84 [aw l,bQ v] (.bool (decide (v ∈ l))):=by
 refine Pure.of_c2 follows Bv (Nat.le_of_ble_eq_true rfl) ?_
 simp only [b84,cO,cG,cN,cM,cD,cF,cB,aB,aS]
 have hl':l.length ≤ 17592186044416:=hl
 (have zz:=@ap; repeat' (first|refine zW ?_|apply a_n|refine zO ?_|refine vZ ?_|refine bxZ ?_|fail)) <;> (try clear zz)
 refine tQ (fun k=>[(0,aw l),(3,.ptr 0 2 0),(5,.int .i64 k)]) l.length (fun k=>l.getD k default ≠ v) (by simp (disch:=omega) only [agr,ZG,reduceEqDiff,↓reduceIte,List.length_cons,List.length_nil,Nat.zero_add,reduceAdd]) ?_
 intro k hk hz
 by_cases hk2:k < l.length
 rotate_left
 ·(have zz:=@ap; repeat' (first|refine zW ?_|apply a_n|apply a_x|refine zO ?_|refine vZ ?_|(refine zGZ ?_ ?_ <;> (intro _hg; try (exfalso; omega)))|refine ak rfl ?_|refine r1Z ?_|fail)) <;> (try clear zz)
  exact bt (uz fun i hi=>hz i (by omega)).symm
 have ix:=ix2 hk2
 have hd:=p9 (l.getD k default) v
 by_cases he:l.getD k default=v
 ·rw [decide_eq_true he] at hd
  rw [v6 hk2 he]
  (have zz:=aI @ap (aI @ix (aI @acq @hd)); repeat' (first|refine zW ?_|apply a_n|apply a_r|refine zO ?_|refine vZ ?_|refine cTZ ?_|(refine zGZ ?_ ?_ <;> (intro _hg; try (exfalso; omega)))|refine ak rfl ?_|refine r1Z ?_|fail)) <;> (try clear zz)
  exact .bool _
 ·rw [decide_eq_false he] at hd
  (have zz:=aI @ap (aI @ix (aI @acq @hd)); repeat' (first|refine zW ?_|apply a_n|refine zO ?_|refine vZ ?_|refine cFZ ?_|(refine zGZ ?_ ?_ <;> (intro _hg; try (exfalso; omega)))|fail)) <;> (try clear zz)
  exact ⟨hk2,he,ag0,rfl,rfl⟩
theorem vt (a b:Spx) (ha:Shn a) (hb:Shn b):Pure Try.prog 60 [aw a,aw b] (.bool (cU a b)):=by
 refine Pure.of_c2 follows BE (Nat.le_of_ble_eq_true rfl) ?_
 simp only [b60,cO,cG,cN,cM,cD,cF,cB,aB,aS]
 have ha':a.length ≤ 17592186044416:=ha
 (have zz:=@ap; repeat' (first|refine zW ?_|apply a_n|refine zO ?_|refine vZ ?_|fail)) <;> (try clear zz)
 refine tQ (fun k=>[(0,aw a),(1,aw b),(5,.int .i64 k)]) a.length (fun k=>decide (a.getD k default ∈ b)=true) ag0 ?_
 intro k hk hz
 by_cases hk2:k < a.length
 rotate_left
 ·(have zz:=@ap; repeat' (first|refine zW ?_|apply a_n|apply a_x|refine zO ?_|refine vZ ?_|(refine zGZ ?_ ?_ <;> (intro _hg; try (exfalso; omega)))|refine ak rfl ?_|refine r1Z ?_|fail)) <;> (try clear zz)
  exact bt (jo fun i hi=>hz i (by omega)).symm
 have ix:=ix2 hk2
 have hh:=AU b (a.getD k default) hb
 cases hm:decide (a.getD k default ∈ b)
 ·rw [hm] at hh
  rw [show cU a b=false from ib hk2 hm]
  (have zz:=aI @ap @ix; repeat' (first|refine zW ?_|apply a_n|apply a_r|refine zO ?_|refine vZ ?_|refine cZ ?_ (hp:=hh) (hs:=by (first | refine ac ?_ rfl | apply ag); (repeat' (first | exact aa | apply an | apply ai | exact ay _ | exact bV _)); first | done | fail)|refine cTZ ?_|(refine zGZ ?_ ?_ <;> (intro _hg; try (exfalso; omega)))|refine ak rfl ?_|refine r1Z ?_|fail)) <;> (try clear zz)
  exact .bool _
 ·rw [hm] at hh
  (have zz:=aI @ap @ix; repeat' (first|refine zW ?_|apply a_n|refine zO ?_|refine vZ ?_|refine cZ ?_ (hp:=hh) (hs:=by (first | refine ac ?_ rfl | apply ag); (repeat' (first | exact aa | apply an | apply ai | exact ay _ | exact bV _)); first | done | fail)|refine cFZ ?_|(refine zGZ ?_ ?_ <;> (intro _hg; try (exfalso; omega)))|fail)) <;> (try clear zz)
  exact ⟨hk2,rfl,ag0,rfl,rfl⟩
theorem ud (x y:List Spx) (hx:Shn x) (hy:Shn y) (hxs:∀ v ∈ x,Shn v) (hys:∀ v ∈ y,Shn v):Pure Try.prog 16 [ar x,ar y] (.bool (decide (x=y))):=by
 refine Pure.of_c2 follows Bx (Nat.le_of_ble_eq_true rfl) ?_
 simp only [b16,cO,cG,cN,cM,cD,cF,cB,aB,aS]
 have hx':x.length ≤ 17592186044416:=hx
 have hy':y.length ≤ 17592186044416:=hy
 by_cases hlen:x.length=y.length
 rotate_left
 ·have z:decide ((x.length:Int) ≠ y.length)=true:=decide_eq_true (by omega)
  rw [decide_eq_false (fun e=>hlen (by rw [e]))]
  (have zz:=aI @ae @z; repeat' (first|refine zW ?_|apply a_n|apply a_r|refine zO ?_|refine vZ ?_|refine cTZ ?_|refine ak rfl ?_|refine r1Z ?_|fail)) <;> (try clear zz)
  exact .bool _
 have z:decide ((x.length:Int) ≠ y.length)=false:=decide_eq_false (by omega)
 (have zz:=aI @ae @z; repeat' (first|refine zW ?_|apply a_n|refine zO ?_|refine vZ ?_|refine cFZ ?_|fail)) <;> (try clear zz)
 refine ba (X:=Nat) (fun k=>[(0,ar x),(1,ar y),(5,.int .i64 k)]) (fun k H nx=>k ≤ x.length∧∀ i,i < k→x.getD i default=y.getD i default) (fun k=>x.length - k) 0 ⟨Nat.zero_le _,fun i h=>absurd h (by omega)⟩ ag0 ?_
 rintro k H nx ⟨hk,hz⟩
 by_cases hk2:k < x.length
 rotate_left
 ·(have zz:=@ae; repeat' (first|refine zW ?_|apply a_n|apply a_x|refine zO ?_|refine vY ?_|(refine zGY ?_ ?_ <;> (intro _hg; try (exfalso; omega)))|refine ak rfl ?_|refine r1Y ?_|fail)) <;> (try clear zz)
  refine bt ?_
  symm; rw [decide_eq_true_iff]
  refine List.ext_getElem hlen fun i h3 h4=>?_
  have:=hz i (by omega)
  simpa [List.getD,h3,h4] using this
 have ix:=dp hk2
 have iy:=dp (l:=y) (k:=k) (by omega)
 have hc:=xp (x.getD k default) (y.getD k default) (hxs _ (aJ hk2)) (hys _ (aJ (by omega)))
 by_cases he:x.getD k default=y.getD k default
 ·rw [decide_eq_true he] at hc
  (have zz:=aI @ae (aI @ix @iy); repeat' (first|refine zW ?_|refine zM ?_|apply a_n|refine zO ?_|refine vY ?_|refine cY ?_ (hp:=hc) (hs:=by (first | refine ac ?_ rfl | apply ag); (repeat' (first | exact aa | apply an | apply ai | exact ay _)); first | done | fail)|refine cFY ?_|(refine zGY ?_ ?_ <;> (intro _hg; try (exfalso; omega)))|fail)) <;> (try clear zz)
  exact ⟨k + 1,by omega,⟨by omega,fun i hi=>by
   rcases Nat.lt_succ_iff_lt_or_eq.1 hi with h | rfl
   ·exact hz i h
   ·exact he⟩,ag0⟩
 ·rw [decide_eq_false he] at hc
  rw [decide_eq_false (p:=x=y) (fun e=>he (by rw [e]))]
  (have zz:=aI @ae (aI @ix @iy); repeat' (first|refine zW ?_|refine zM ?_|apply a_n|apply a_r|refine zO ?_|refine vY ?_|refine cY ?_ (hp:=hc) (hs:=by (first | refine ac ?_ rfl | apply ag); (repeat' (first | exact aa | apply an | apply ai | exact ay _)); first | done | fail)|refine cTY ?_|(refine zGY ?_ ?_ <;> (intro _hg; try (exfalso; omega)))|refine ak rfl ?_|refine r1Y ?_|fail)) <;> (try clear zz)
  exact .bool _
def ia (c:List Spx):Bool:=decide (c.length ≤ 30) && c.all fun s=>decide (s.length ≤ 10)
theorem xS (l:Spx) (hl:Shn l):Pure Try.prog 75 [aw l] (.bool (decide (l.length ≤ 10))):=by
 refine Pure.of_c2 follows Bd (Nat.le_of_ble_eq_true rfl) ?_
 simp only [b75,cO,cG,cN,cM,cD,cF,cB,aB,aS]
 (have zz:=@ap; repeat' (first|refine zW ?_|apply a_n|refine zO ?_|refine vZ ?_|refine ak rfl ?_|refine r1Z ?_|fail)) <;> (try clear zz)
 exact bt (decide_eq_decide.2 (by omega))
theorem wr (c:List Spx) (hc:Shn c) (hs:∀ s ∈ c,Shn s):Pure Try.prog 48 [ar c] (.bool (ia c)):=by
 refine Pure.of_c2 follows Cf (Nat.le_of_ble_eq_true rfl) ?_
 simp only [b48,cO,cG,cN,cM,cD,cF,cB,aB,aS]
 have hc':c.length ≤ 17592186044416:=hc
 unfold ia
 by_cases h:c.length ≤ 30
 rotate_left
 ·have z:decide (30 < (c.length:Int))=true:=decide_eq_true (by omega)
  rw [decide_eq_false h,Bool.false_and]
  (have zz:=aI @ae @z; repeat' (first|refine zW ?_|apply a_n|apply a_r|refine zO ?_|refine vZ ?_|refine cTZ ?_|refine ak rfl ?_|refine r1Z ?_|fail)) <;> (try clear zz)
  exact .bool _
 have z:decide (30 < (c.length:Int))=false:=decide_eq_false (by omega)
 rw [decide_eq_true h,Bool.true_and]
 (have zz:=aI @ae @z; repeat' (first|refine zW ?_|apply a_n|refine zO ?_|refine vZ ?_|refine cFZ ?_|fail)) <;> (try clear zz)
 refine tQ (fun k=>[(0,ar c),(3,.int .i64 k)]) c.length (fun k=>decide ((c.getD k default).length ≤ 10)=true) ag0 ?_
 intro k hk hz
 by_cases hk2:k < c.length
 rotate_left
 ·(have zz:=@ae; repeat' (first|refine zW ?_|apply a_n|apply a_x|refine zO ?_|refine vZ ?_|(refine zGZ ?_ ?_ <;> (intro _hg; try (exfalso; omega)))|refine ak rfl ?_|refine r1Z ?_|fail)) <;> (try clear zz)
  exact bt (jo fun i hi=>hz i (by omega)).symm
 have ix:=dp hk2
 have hf:=xS (c.getD k default) (hs _ (aJ hk2))
 cases hm:decide ((c.getD k default).length ≤ 10)
 ·rw [hm] at hf
  rw [ib hk2 hm]
  (have zz:=aI @ae @ix; repeat' (first|refine zW ?_|apply a_n|apply a_r|refine zO ?_|refine vZ ?_|refine cZ ?_ (hp:=hf) (hs:=by (first | refine ac ?_ rfl | apply ag); (repeat' (first | exact aa | apply an | apply ai | exact ay _)); first | done | fail)|refine cTZ ?_|(refine zGZ ?_ ?_ <;> (intro _hg; try (exfalso; omega)))|refine ak rfl ?_|refine r1Z ?_|fail)) <;> (try clear zz)
  exact .bool _
 ·rw [hm] at hf
  (have zz:=aI @ae @ix; repeat' (first|refine zW ?_|apply a_n|refine zO ?_|refine vZ ?_|refine cZ ?_ (hp:=hf) (hs:=by (first | refine ac ?_ rfl | apply ag); (repeat' (first | exact aa | apply an | apply ai | exact ay _)); first | done | fail)|refine cFZ ?_|(refine zGZ ?_ ?_ <;> (intro _hg; try (exfalso; omega)))|fail)) <;> (try clear zz)
  exact ⟨hk2,rfl,ag0,rfl,rfl⟩
abbrev fc (c:List Spx):AV:=.agg [ar c]
theorem bA (c:List Spx):Dat (fc c):=Dat.agg (DatL.cons (aC c) DatL.nil)
instance datI_encCx {c:List Spx}:DatI (fc c):=⟨bA c⟩
theorem xd (c:List Spx) (hc:Shn c) (hs:∀ s ∈ c,Shn s):Pure Try.prog 21 [fc c] (.bool (ia c)):=by
 refine Pure.of_c2 follows A2 (Nat.le_of_ble_eq_true rfl) ?_
 simp only [b21,cO,cG,cN,cM,cD,cF,cB,aB,aS]
 have h:=wr c hc hs
 (have zz:=aI @au @am; repeat' (first|refine zW ?_|apply a_n|refine zO ?_|refine vZ ?_|refine cZ ?_ (hp:=h) (hs:=by (first | refine ac ?_ rfl | apply ag); (repeat' (first | exact aa | apply an | apply ai | exact aC _)); first | done | fail)|refine bxZ ?_|refine ak rfl ?_|refine r1Z ?_|fail)) <;> (try clear zz)
 exact .bool _
end Go.Proofs.Ytfcenbapjhecfaa
namespace Go.Proofs.Ytfcenbapjhecfaa
open Go Go.Abs
theorem qm {α:Type} [Inhabited α] {l:List α} {p:α→Bool} {k:Nat} (hk:k < l.length) (h:∀ i,i < k→p (l.getD i default)=false) (hv:p (l.getD k default)=true):l.any p=true∧l.findIdx p=k:=by
 have e:l.getD k default=l[k]:=by simp [List.getD,hk]
 refine ⟨List.any_eq_true.2 ⟨l[k],List.getElem_mem hk,by rw [← e]; exact hv⟩,(List.findIdx_eq hk).2 ⟨by rw [← e]; exact hv,fun j hj=>by have:=h j hj; rwa [show l.getD j default=l[j] by simp [List.getD,show j < l.length by omega]] at this⟩⟩
section
attribute [local irreducible] aD aj aX aP aH aK az aL aR bd Go.Abs.Fn aO Go.Abs.Pure av aF Yl
end
end Go.Proofs.Ytfcenbapjhecfaa
namespace Go.Proofs.Ytfcenbapjhecfaa
open Go Go.Abs
open Nat (reduceEqDiff reduceAdd reduceLeDiff)
theorem ub {l:Spx} {j:Nat} (h:j < l.length):(l.drop j).getD 0 default=l.getD j default:=by simp [List.getD,List.getElem?_drop]
theorem se {l:Spx} {v:Vtx} (h:∀ i,i < l.length→l.getD i default ≠ v):v ∉ l:=fun hm=>by
 obtain ⟨i,hi,e⟩:=List.getElem_of_mem hm
 exact h i hi (by simp [List.getD,hi,e])
theorem aQ {α:Type} [Inhabited α] {l:List α} {i:Nat} (h:i < l.length):l.getD i default ∈ l:=aJ h
attribute [local irreducible] aD aj aX aP aH aK az aL aR bd Go.Abs.Fn aO Go.Abs.Pure av aF Yl
set_option maxHeartbeats 1000000 in
theorem zm (a b:Spx) (ha:bo bv a) (hb:bo bv b) (la:a.length ≤ 1000000) (lb:b.length ≤ 1000000):Pure Try.prog 93 [aw a,aw b] (.bool (cU a b)):=by
 refine Pure.of_c2 follows BX (Nat.le_of_ble_eq_true rfl) ?_
 simp only [b93,cO,cG,cN,cM,cD,cF,cB,aB,aS]
 (have zz:=@ap; repeat' (first|refine zW ?_|apply a_n|refine zO ?_|refine vZ ?_|fail)) <;> (try clear zz)
 refine ba (X:=Nat × Nat) (fun x=>[(1,aw (b.drop x.2)),(7,aw a),(8,.int .i64 a.length),(9,.int .i64 x.1)]) (fun x H nx=>x.1 ≤ a.length∧x.2 ≤ b.length∧(∀ i,i < x.1→decide (a.getD i default ∈ b)=true)∧∀ i m,i < x.2→x.1 ≤ m→m < a.length→b.getD i default ≠ a.getD m default) (fun x=>a.length - x.1) (0,0) ⟨Nat.zero_le _,Nat.zero_le _,fun i h=>absurd h (by omega),fun i m h=>absurd h (by omega)⟩ (by simp (disch:=omega) only [agr,ZG,reduceEqDiff,↓reduceIte,List.drop_zero]) ?_
 rintro ⟨k,j⟩ H nx ⟨h1,h2,h3,h4⟩
 dsimp only at h1 h2 h3 h4 ⊢
 by_cases hk:k < a.length
 rotate_left
 ·(have zz:=and_self; repeat' (first|refine zW ?_|apply a_n|apply a_x|refine zO ?_|refine vY ?_|(refine zGY ?_ ?_ <;> (intro _hg; try (exfalso; omega)))|refine ak rfl ?_|refine r1Y ?_|fail)) <;> (try clear zz)
  exact bt (jo fun i hi=>h3 i (by omega)).symm
 have ix:=ix2 hk
 have hlt:∀ m,k < m→m < a.length→bv (a.getD k default) (a.getD m default) < 0:=fun m h5 h6=>ce ha h5 h6
 have hkm:∀ j',(∀ i,i < j'→b.getD i default ≠ a.getD k default)→b.length ≤ j'→decide (a.getD k default ∈ b)=false:=fun j' h5 h6=>decide_eq_false (se fun i hi=>h5 i (by omega))
 have hall:decide (a.getD k default ∈ b)=false→cU a b=false:=fun h=>ib hk h
 have hdec:=fun i=>p9 (b.getD i default) (a.getD k default)
 have h40:=fun i hi=>h4 i k hi (Nat.le_refl _) hk
 generalize hv:a.getD k default=v at *
 (have zz:=@ix; repeat' (first|refine zW ?_|apply a_n|refine zO ?_|refine vY ?_|refine alY ?_|refine stY ?_|(refine zGY ?_ ?_ <;> (intro _hg; try (exfalso; omega)))|fail)) <;> (try clear zz)
 refine ba (X:=Nat) (fun j'=>[(1,aw (b.drop j')),(6,.ptr nx 2 0),(7,aw a),(8,.int .i64 a.length),(9,.int .i64 k)]) (fun j' H' nx'=>j' ≤ b.length∧H' nx=some [.int .i64 v.color,.int .i64 v.label]∧nx < nx'∧∀ i,i < j'→b.getD i default ≠ v) (fun j'=>b.length - j') j ⟨h2,by rw [ah]; rfl,by omega,h40⟩ (by simp (disch:=omega) only [agr,ZG,reduceEqDiff,↓reduceIte,List.length_cons,List.length_nil,Nat.zero_add,reduceAdd]) ?_
 rintro j' H' nx' ⟨k1,g0,hnx,k2⟩
 have hlen:(b.drop j').length=b.length - j':=List.length_drop ..
 by_cases hj:j' < b.length
 rotate_left
 ·have z1:decide (0 < ((b.drop j').length:Int))=false:=decide_eq_false (by omega)
  have z2:decide (((b.drop j').length:Int)=0)=true:=decide_eq_true (by omega)
  rw [hall (hkm j' k2 (by omega))]
  (have zz:=aI @ap (aI @z1 @z2); repeat' (first|refine zW ?_|apply a_n|apply a_x|apply a_r|refine zO ?_|refine vY ?_|refine gFY ?_|refine cTY ?_|refine cFY ?_|refine ak rfl ?_|refine r1Y ?_|fail)) <;> (try clear zz)
  exact .bool _
 have z1:decide (0 < ((b.drop j').length:Int))=true:=decide_eq_true (by omega)
 have z2:decide (((b.drop j').length:Int)=0)=false:=decide_eq_false (by omega)
 have iy:=ix2 (l:=b.drop j') (k:=0) (by omega)
 rw [ub hj,show ((0:Nat):Int)=0 from rfl] at iy
 have hd:=hdec j'
 by_cases he:b.getD j' default=v
 ·rw [decide_eq_true he] at hd
  (have zz:=aI @ap (aI @z1 (aI @z2 (aI @iy (aI @g0 (aI @acn @hd))))); repeat' (first|refine zW ?_|apply a_n|apply a_x|refine zO ?_|refine vY ?_|refine gTY ?_|refine cFY ?_|fail)) <;> (try clear zz)
  refine ⟨(k + 1,j'),by dsimp only; omega,⟨by dsimp only; omega,by dsimp only; omega,fun i hi=>?_,fun i m h5 h6 h7 e=>?_⟩,ag0⟩
  ·rcases Nat.lt_succ_iff_lt_or_eq.1 hi with h' | rfl
   ·exact h3 i h'
   ·rw [hv,← he]; exact decide_eq_true (aQ hj)
  ·have q1:=ce hb h5 hj
   have q2:=hlt m (by dsimp only at h6; omega) h7
   rw [e,he] at q1
   exact sL.ord.asym _ _ q1 q2
 ·rw [decide_eq_false he] at hd
  have hs:ip 2 (aw (b.drop j')) (some (.int .i64 1)) none none=some (aw (b.drop (j' + 1))):=by
   have:=eF (sz:=2) (f:=bQ) (l:=b.drop j') (k:=1) (by omega)
   rw [List.drop_drop] at this
   exact this
  (have zz:=aI @ap (aI @z1 (aI @z2 (aI @iy (aI @g0 (aI @acn (aI @hd @hs)))))); repeat' (first|refine zW ?_|apply a_n|refine zO ?_|refine vY ?_|refine gTY ?_|refine cTY ?_|fail)) <;> (try clear zz)
  exact ⟨j' + 1,by omega,⟨by omega,g0,hnx,fun i hi=>by
   rcases Nat.lt_succ_iff_lt_or_eq.1 hi with h' | rfl
   ·exact k2 i h'
   ·exact he⟩,ag0⟩
end Go.Proofs.Ytfcenbapjhecfaa
namespace Go.Proofs.Ytfcenbapjhecfaa
open Go Go.Abs
structure Cmp {α:Type} (P:Program) (f:α→AV) (K:α→α→Int) (G:α→Prop) (g:Nat) (caps:List AV):Prop where
 cells:∀ x,(f x).cells=[f x]
 one:∀ x,(f x).one=true
 dat:∀ x,Dat (f x)
 dcaps:∀ x ∈ caps,Dat x
 run:∀ x y,G x→G y→Go.Abs.Pure P g (f x :: f y :: caps) (.int .i64 (K x y))
 ord:Ord K
theorem g8 {α:Type} {f:α→AV} {l:List α} {k:Nat} {x:α} (h:k < l.length):br (l.map f) k [f x]=(l.set k x).map f:=by
 simp only [br,List.map_set,List.length_cons,List.length_nil,Nat.zero_add]
 rw [List.set_eq_take_append_cons_drop,if_pos (by simpa using h)]
 simp
theorem aN (H:Hp) (b:Nat) (x y:List AV):aq (aq H b x) b y=aq H b y:=by
 funext i; unfold aq; split <;> rfl
theorem io {H:Hp} {b:Nat} {cs:List AV} (h:H b=some cs):H=aq H b cs:=by
 funext i
 by_cases e:i=b
 ·subst e; rw [ah,h]
 ·rw [af e]
def d3 {α:Type} [Inhabited α] (K:α→α→Int) (a i j:Nat) (M:List α):Prop:=∀ p q,a ≤ p→p < q→q ≤ i→q ≠ j→¬ K (M.getD q default) (M.getD p default) < 0
section
variable {α:Type} [Inhabited α] {f:α→AV} {K:α→α→Int} {G:α→Prop} {g:Nat} {caps:List AV}
theorem d3.start {a i:Nat} {M:List α} (h:a5 K a i M):d3 K a i i M:=fun p q h1 h2 h3 h4=>h p q h1 h2 (by omega)
theorem d3.done {a i j:Nat} {M:List α} (hK:Ord K) (h:d3 K a i j M) (hj:j=a ∨ (a < j∧¬ K (M.getD j default) (M.getD (j - 1) default) < 0)):a5 K a (i + 1) M:=by
 intro p q h1 h2 h3
 by_cases e:q=j
 ·subst e
  rcases hj with hj | ⟨hj,hk⟩
  ·omega
  ·by_cases e2:p=q - 1
   ·rw [e2]; exact hk
   ·exact hK.negtr _ _ _ (h p (q - 1) h1 (by omega) (by omega) (by omega)) hk
 ·exact h p q h1 h2 (by omega) e
theorem d3.step {a i j:Nat} {M:List α} (hK:Ord K) (h:d3 K a i (j + 1) M) (haj:a ≤ j) (hji:j + 1 ≤ i) (hi:i < M.length) (hk:K (M.getD (j + 1) default) (M.getD j default) < 0):d3 K a i j (swp M (j + 1) j):=by
 intro p q h1 h2 h3 h4
 rw [cV (by omega) (by omega),cV (by omega) (by omega)]
 rw [if_neg h4]
 by_cases e1:q=j + 1
 ·rw [if_pos e1]
  by_cases e2:p=j
  ·rw [if_pos e2]; exact hK.asym _ _ hk
  ·rw [if_neg e2,if_neg (by omega)]
   exact h p j h1 (by omega) (by omega) (by omega)
 ·rw [if_neg e1]
  by_cases e2:p=j
  ·rw [if_pos e2]; exact h (j + 1) q (by omega) (by omega) h3 e1
  ·rw [if_neg e2]
   by_cases e3:p=j + 1
   ·rw [if_pos e3]; exact h j q (by omega) (by omega) h3 e1
   ·rw [if_neg e3]; exact h p q h1 h2 h3 e1
theorem a5.mono {a b a' b':Nat} {M:List α} (h:a5 K a b M) (h1:a ≤ a') (h2:b' ≤ b):a5 K a' b' M:=fun p q k1 k2 k3=>h p q (by omega) k2 (by omega)
theorem PermR.mem {a b:Nat} {L M:List α} (h:PermR a b L M) (hG:∀ x ∈ L,G x):∀ x ∈ M,G x:=fun x hx=>hG x (h.perm.mem_iff.1 hx)
attribute [local irreducible] aD aj aX aP aH aK az aL aR bd Go.Abs.Fn aO Go.Abs.Pure av aF Yl
theorem Ak (hc:Cmp Try.prog f K G g caps) {L:List α} {H:Hp} {b nx n a e:Nat} (hH:H b=some (L.map f)) (hn:L.length=n) (hG:∀ x ∈ L,G x) (hae:a ≤ e) (hen:e ≤ n) (hn2:n ≤ 1000000000) :
    Abs.Fn Try.prog 98 [.msl b n 1 0 n,.int .i64 a,.int .i64 e,.func g caps] H nx fun r H' nx'=>nx'=nx∧∃ L',H'=aq H b (L'.map f)∧PermR a e L L'∧a5 K a e L':=by
 refine Abs.Fn.of_c2 follows AO (Nat.le_of_ble_eq_true rfl) ?_
 simp only [b98,cO,cG,cN,cM,cD,cF,cB,aB,aS]
 (have zz:=and_self; repeat' (first|refine zW ?_|apply a_n|refine zO ?_|refine vZ ?_|fail)) <;> (try clear zz)
 refine ba (X:=Nat × List α) (fun x=>[(0,.msl b n 1 0 n),(1,.int .i64 a),(2,.int .i64 e),(3,.func g caps),(8,.int .i64 (x.1:Nat))]) (fun x H' nx'=>a + 1 ≤ x.1∧(x.1 ≤ e ∨ x.1=a + 1)∧H'=aq H b (x.2.map f)∧nx'=nx∧PermR a e L x.2∧a5 K a x.1 x.2) (fun x=>e + 1 - x.1) (a + 1,L) ⟨Nat.le_refl _,.inr rfl,io hH,rfl,.refl,a5.one (Nat.le_refl _)⟩ ag0 ?_
 rintro ⟨i,M0⟩ H' nx' ⟨h1,h2,rfl,rfl,hp0,hs0⟩
 dsimp only at *
 have hl0:M0.length=n:=by rw [hp0.len,hn]
 by_cases hi:i < e
 rotate_left
 ·(have zz:=and_self; repeat' (first|refine zW ?_|apply a_n|apply a_x|refine zO ?_|refine vZ ?_|(refine zGZ ?_ ?_ <;> (intro _hg; try (exfalso; omega)))|refine ak rfl ?_|fail)) <;> (try clear zz)
  exact ⟨rfl,M0,rfl,hp0,hs0.mono (Nat.le_refl _) (by omega)⟩
 (have zz:=and_self; repeat' (first|refine zW ?_|apply a_n|refine zO ?_|refine vZ ?_|(refine zGZ ?_ ?_ <;> (intro _hg; try (exfalso; omega)))|fail)) <;> (try clear zz)
 refine ba (X:=Nat × List α) (fun x=>[(0,.msl b n 1 0 n),(1,.int .i64 a),(2,.int .i64 e),(3,.func g caps),(8,.int .i64 (i:Nat)),(9,.int .i64 (x.1:Nat))]) (fun x H' nxx=>a ≤ x.1∧x.1 ≤ i∧H'=aq H b (x.2.map f)∧nxx=nx'∧PermR a e L x.2∧d3 K a i x.1 x.2) (fun x=>x.1) (i,M0) ⟨by omega,Nat.le_refl _,rfl,rfl,hp0,.start hs0⟩ ag0 ?_
 clear hp0 hs0 hl0
 rintro ⟨j,M⟩ H' nxx ⟨a1,a2,rfl,rfl,hp,hal⟩
 dsimp only at *
 have hl:M.length=n:=by rw [hp.len,hn]
 have hGM:=hp.mem hG
 by_cases hja:j=a
 ·subst hja
  (have zz:=and_self; repeat' (first|refine zW ?_|refine zM ?_|apply a_n|apply a_x|refine zO ?_|refine vZ ?_|refine gFZ ?_|(refine zGZ ?_ ?_ <;> (intro _hg; try (exfalso; omega)))|refine cFZ ?_|fail)) <;> (try clear zz)
  exact ⟨(i + 1,M),by dsimp only; omega,⟨by dsimp only; omega,.inl (by dsimp only; omega),rfl,rfl,hp,hal.done hc.ord (.inl rfl)⟩,ag0⟩
 ·obtain ⟨k,rfl⟩:∃ k,j=k + 1:=⟨j - 1,by omega⟩
  have tj:((k + 1:Nat):Int) - 1=(k:Int):=by omega
  have lc:=hc.run (M.getD (k + 1) default) (M.getD k default) (hGM _ (aJ (by omega))) (hGM _ (aJ (by omega)))
  have d1:=hc.dat (M.getD (k + 1) default)
  have d2:=hc.dat (M.getD k default)
  have dcap:=hc.dcaps
  generalize hKK:K (M.getD (k + 1) default) (M.getD k default)=kk at lc
  by_cases hlt:kk < 0
  ·obtain ⟨M1,hl1,lm1,lm2⟩:∃ M1:List α,M1.length=n∧br (M.map f) (k + 1) [f (M.getD k default)]=M1.map f∧br (M1.map f) k [f (M.getD (k + 1) default)]=(swp M (k + 1) k).map f :=
     ⟨M.set (k + 1) (M.getD k default),by simp [hl],g8 (by omega),by rw [g8 (by simp; omega)]; rfl⟩
   have lm3:=lm2
   simp only [br,List.length_cons,List.length_nil,Nat.zero_add] at lm1 lm2
   (have zz:=aI @tj (aI @Int.toNat_natCast (aI @lm1 (aI @lm2 (aI hc.cells hc.one)))); repeat' (first|refine zW ?_|refine zM ?_|apply a_n|refine zO ?_|refine vZ ?_|refine cZ ?_ (hp:=lc) (hs:=by (first | refine ac ?_ rfl | apply ag); (repeat' (first | exact aa | apply an | apply ai | exact d1 | exact d2 | exact aU dcap)); first | done | fail)|refine stZ ?_|refine gTZ ?_|(refine zGZ ?_ ?_ <;> (intro _hg; try (exfalso; omega)))|fail)) <;> (try clear zz)
   refine ⟨(k,swp M (k + 1) k),by dsimp only; omega,⟨by dsimp only; omega,by dsimp only; omega,?_,rfl,hp.trans (PermR.swap (by omega) (by omega) (by omega)),hal.step hc.ord (by omega) (by omega) (by omega) (by rw [hKK]; exact hlt)⟩,(have zz:=@tj; agZ)⟩
   dsimp only
   rw [aN,aN,lm3]
  ·(have zz:=aI @tj (aI @Int.toNat_natCast (aI hc.cells hc.one)); repeat' (first|refine zW ?_|refine zM ?_|apply a_n|apply a_x|refine zO ?_|refine vZ ?_|refine cZ ?_ (hp:=lc) (hs:=by (first | refine ac ?_ rfl | apply ag); (repeat' (first | exact aa | apply an | apply ai | exact d1 | exact d2 | exact aU dcap)); first | done | fail)|refine gTZ ?_|(refine zGZ ?_ ?_ <;> (intro _hg; try (exfalso; omega)))|fail)) <;> (try clear zz)
   exact ⟨(i + 1,M),by dsimp only; omega,⟨by dsimp only; omega,.inl (by dsimp only; omega),rfl,rfl,hp,hal.done hc.ord (.inr ⟨by omega,by rw [Nat.add_sub_cancel,hKK]; exact hlt⟩)⟩,ag0⟩
end
end Go.Proofs.Ytfcenbapjhecfaa
namespace Go.Proofs.Ytfcenbapjhecfaa
open Go Go.Abs
def Kid (p c:Nat):Prop:=c=2 * p + 1 ∨ c=2 * p + 2
def ew {α:Type} [Inhabited α] (K:α→α→Int) (a hi r:Nat) (M:List α):Prop:=∀ p c,r ≤ p→Kid p c→c < hi→¬ K (M.getD (a + p) default) (M.getD (a + c) default) < 0
structure SiftR {α:Type} [Inhabited α] (K:α→α→Int) (a hi lo root:Nat) (M:List α):Prop where
 le:lo ≤ root
 heap:∀ p c,lo ≤ p→p ≠ root→Kid p c→c < hi→¬ K (M.getD (a + p) default) (M.getD (a + c) default) < 0
 up:∀ q c,lo ≤ q→Kid q root→Kid root c→c < hi→¬ K (M.getD (a + q) default) (M.getD (a + c) default) < 0
section
variable {α:Type} [Inhabited α] {f:α→AV} {K:α→α→Int} {G:α→Prop} {g:Nat} {caps:List AV}
theorem SiftR.start {a hi lo:Nat} {M:List α} (h:ew K a hi (lo + 1) M):SiftR K a hi lo lo M :=
 ⟨Nat.le_refl _,fun p c h1 h2=>h p c (by omega),fun q c h1 h2=>by unfold Kid at h2; omega⟩
theorem SiftR.leaf {a hi lo root:Nat} {M:List α} (h:SiftR K a hi lo root M) (hr:hi ≤ 2 * root + 1):ew K a hi lo M:=fun p c h1 h2 h3=>by
 by_cases e:p=root
 ·subst e; unfold Kid at h2; omega
 ·exact h.heap p c h1 e h2 h3
theorem SiftR.stop {a hi lo root c:Nat} {M:List α} (hK:Ord K) (h:SiftR K a hi lo root M) (hb:∀ d,Kid root d→d < hi→¬ K (M.getD (a + c) default) (M.getD (a + d) default) < 0) (hn:¬ K (M.getD (a + root) default) (M.getD (a + c) default) < 0):ew K a hi lo M:=fun p d h1 h2 h3=>by
 by_cases e:p=root
 ·subst e; exact hK.negtr _ _ _ (hb d h2 h3) hn
 ·exact h.heap p d h1 e h2 h3
theorem SiftR.step {a hi lo root c:Nat} {M:List α} (hK:Ord K) (h:SiftR K a hi lo root M) (hkid:Kid root c) (hc:c < hi) (hM:a + hi ≤ M.length) (hb:∀ d,Kid root d→d < hi→¬ K (M.getD (a + c) default) (M.getD (a + d) default) < 0) (hn:K (M.getD (a + root) default) (M.getD (a + c) default) < 0):SiftR K a hi lo c (swp M (a + root) (a + c)):=by
 have hrc:root < c:=by unfold Kid at hkid; omega
 have hg:∀ k,(swp M (a + root) (a + c)).getD (a + k) default=if k=c then M.getD (a + root) default else if k=root then M.getD (a + c) default else M.getD (a + k) default:=fun k=>by
  rw [cV (by omega) (by omega)]
  by_cases e:k=c
  ·rw [if_pos (by omega),if_pos e]
  ·rw [if_neg (by omega),if_neg e]
   by_cases e2:k=root
   ·rw [if_pos (by omega),if_pos e2]
   ·rw [if_neg (by omega),if_neg e2]
 refine ⟨by have:=h.le; omega,fun p d h1 h2 h3 h4=>?_,fun q d h1 h2 h3 h4=>?_⟩
 ·rw [hg,hg,if_neg h2]
  by_cases e1:p=root
  ·rw [if_pos e1]
   subst e1
   by_cases e2:d=c
   ·rw [if_pos e2]; exact hK.asym _ _ hn
   ·rw [if_neg e2,if_neg (by unfold Kid at h3; omega)]; exact hb d h3 h4
  ·rw [if_neg e1]
   have hdc:d ≠ c:=fun e=>by subst e; unfold Kid at h3 hkid; omega
   rw [if_neg hdc]
   by_cases e2:d=root
   ·rw [if_pos e2]; subst e2; exact h.up p c h1 h3 hkid hc
   ·rw [if_neg e2]; exact h.heap p d h1 e1 h3 h4
 ·have eq:q=root:=by unfold Kid at h2 hkid; omega
  subst eq
  rw [hg,hg,if_neg (by omega),if_pos rfl,if_neg (by unfold Kid at h3; omega),if_neg (by unfold Kid at h3; omega)]
  exact h.heap c d (by omega) (by omega) h3 h4
theorem ca {M:List α} {i j:Nat} (hi:i < M.length) (hj:j < M.length):∃ M1:List α,M1.length=M.length∧br (M.map f) i [f (M.getD j default)]=M1.map f∧br (M1.map f) j [f (M.getD i default)]=(swp M i j).map f :=
 ⟨M.set i (M.getD j default),by simp,g8 hi,by rw [g8 (by simpa using hj)]; rfl⟩
theorem dU {a c:Nat}:((a:Int) + (c:Int)).toNat=a + c:=by omega
theorem kM {a c:Nat}:((a:Int) + (c:Int) + 1).toNat=a + (c + 1):=by omega
attribute [local irreducible] aD aj aX aP aH aK az aL aR bd Go.Abs.Fn aO Go.Abs.Pure av aF Yl
theorem wV (hc:Cmp Try.prog f K G g caps) {L:List α} {H:Hp} {b nx n a lo hi:Nat} (hH:H b=some (L.map f)) (hn:L.length=n) (hG:∀ x ∈ L,G x) (hhi:a + hi ≤ n) (hn2:n ≤ 1000000000) (hlo:lo ≤ n) (hheap:ew K a hi (lo + 1) L) :
    Abs.Fn Try.prog 111 [.msl b n 1 0 n,.int .i64 lo,.int .i64 hi,.int .i64 a,.func g caps] H nx fun r H' nx'=>nx'=nx∧∃ L',H'=aq H b (L'.map f)∧PermR a (a + hi) L L'∧ew K a hi lo L':=by
 refine Abs.Fn.of_c2 follows AS (Nat.le_of_ble_eq_true rfl) ?_
 simp only [zA,cO,cG,cN,cM,cD,cF,cB,aB,aS]
 (have zz:=and_self; repeat' (first|refine zW ?_|apply a_n|refine zO ?_|refine vZ ?_|fail)) <;> (try clear zz)
 refine ba (X:=Nat × List α) (fun x=>[(0,.msl b n 1 0 n),(2,.int .i64 hi),(3,.int .i64 a),(4,.func g caps),(10,.int .i64 (x.1:Nat))]) (fun x H' nx'=>x.1 ≤ n∧H'=aq H b (x.2.map f)∧nx'=nx∧PermR a (a + hi) L x.2∧SiftR K a hi lo x.1 x.2) (fun x=>n + 1 - x.1) (lo,L) ⟨hlo,io hH,rfl,.refl,.start hheap⟩ ag0 ?_
 rintro ⟨root,M⟩ H' nx' ⟨h0,rfl,rfl,hp,hs⟩
 dsimp only at *
 have hl:M.length=n:=by rw [hp.len,hn]
 have hGM:=hp.mem hG
 by_cases hch:2 * root + 1 < hi
 rotate_left
 ·(have zz:=and_self; repeat' (first|refine zW ?_|apply a_n|apply a_x|refine zO ?_|refine vZ ?_|(refine zGZ ?_ ?_ <;> (intro _hg; try (exfalso; omega)))|refine ak rfl ?_|fail)) <;> (try clear zz)
  exact ⟨rfl,M,rfl,hp,hs.leaf (by omega)⟩
 have dcap:=hc.dcaps
 have tch:(2:Int) * (root:Int) + 1=((2 * root + 1:Nat):Int):=by omega
 have tch2:((2 * root + 1:Nat):Int) + 1=((2 * root + 1 + 1:Nat):Int):=by omega
 have w1:IntKind.wrap .i64 (2 * (root:Int))=2 * (root:Int):=pP (by omega) (by omega)
 obtain ⟨c,hkid,hchi,hbest,hsel⟩:∃ c,Kid root c∧c < hi∧(∀ d,Kid root d→d < hi→¬ K (M.getD (a + c) default) (M.getD (a + d) default) < 0)∧((c=2 * root + 1 + 1∧K (M.getD (a + (2 * root + 1)) default) (M.getD (a + (2 * root + 1 + 1)) default) < 0) ∨ (c=2 * root + 1∧(2 * root + 1 + 1 < hi→¬ K (M.getD (a + (2 * root + 1)) default) (M.getD (a + (2 * root + 1 + 1)) default) < 0))):=by
  by_cases h2:2 * root + 1 + 1 < hi∧K (M.getD (a + (2 * root + 1)) default) (M.getD (a + (2 * root + 1 + 1)) default) < 0
  ·refine ⟨2 * root + 1 + 1,.inr rfl,h2.1,fun d hd hd2=>?_,.inl ⟨rfl,h2.2⟩⟩
   rcases hd with rfl | rfl
   ·exact hc.ord.asym _ _ h2.2
   ·exact hc.ord.irr _
  ·refine ⟨2 * root + 1,.inl rfl,hch,fun d hd hd2=>?_,.inr ⟨rfl,fun h h3=>h2 ⟨h,h3⟩⟩⟩
   rcases hd with rfl | rfl
   ·exact hc.ord.irr _
   ·exact fun h3=>h2 ⟨hd2,h3⟩
 have lc2:=hc.run (M.getD (a + root) default) (M.getD (a + c) default) (hGM _ (aJ (by omega))) (hGM _ (aJ (by omega)))
 have e1:=hc.dat (M.getD (a + root) default)
 have e2:=hc.dat (M.getD (a + c) default)
 generalize hK2:K (M.getD (a + root) default) (M.getD (a + c) default)=k2 at lc2
 refine f8 ?_
 refine bw (fun T H'' nx''=>T 0=.msl b n 1 0 n∧T 2=.int .i64 hi∧T 3=.int .i64 a∧T 4=.func g caps∧T 10=.int .i64 (root:Nat)∧T 11=.int .i64 ((2 * root + 1:Nat):Int)∧H''=aq H b (M.map f)∧nx'=nx'') ?_ ?_
 ·(have zz:=aI @w1 @tch; repeat' (first|apply a_n|refine zO ?_|refine vZ ?_|fail)) <;> (try clear zz)
  exact ⟨rfl,rfl,rfl,rfl,rfl,rfl,rfl,rfl⟩
 rintro T _ _ ⟨t0,t2,t3,t4,t10,t11,rfl,rfl⟩
 refine bw (fun T H'' nx''=>T 0=.msl b n 1 0 n∧T 2=.int .i64 hi∧T 3=.int .i64 a∧T 4=.func g caps∧T 10=.int .i64 (root:Nat)∧T 11=.int .i64 ((2 * root + 1:Nat):Int)∧H''=aq H b (M.map f)∧nx'=nx'') ?_ ?_
 ·(have zz:=aI @t0 (aI @t2 (aI @t3 (aI @t4 (aI @t10 @t11)))); repeat' (first|refine zW ?_|apply a_n|refine zO ?_|refine vZ ?_|(refine zGZ ?_ ?_ <;> (intro _hg; try (exfalso; omega)))|fail)) <;> (try clear zz)
  all_goals exact ⟨(have zz:=@t0; evZ),(have zz:=@t2; evZ),(have zz:=@t3; evZ),(have zz:=@t4; evZ),(have zz:=@t10; evZ),(have zz:=@t11; evZ),rfl,rfl⟩
 clear t0 t2 t3 t4 t10 t11
 rintro T _ _ ⟨t0,t2,t3,t4,t10,t11,rfl,rfl⟩
 refine bw (fun T H'' nx''=>T 0=.msl b n 1 0 n∧T 2=.int .i64 hi∧T 3=.int .i64 a∧T 4=.func g caps∧T 10=.int .i64 (root:Nat)∧T 11=.int .i64 (c:Nat)∧H''=aq H b (M.map f)∧nx'=nx'') ?_ ?_
 ·by_cases h2:2 * root + 1 + 1 < hi
  ·have lc1:=hc.run (M.getD (a + (2 * root + 1)) default) (M.getD (a + (2 * root + 1 + 1)) default) (hGM _ (aJ (by omega))) (hGM _ (aJ (by omega)))
   have e3:=hc.dat (M.getD (a + (2 * root + 1)) default)
   have e4:=hc.dat (M.getD (a + (2 * root + 1 + 1)) default)
   generalize hK1:K (M.getD (a + (2 * root + 1)) default) (M.getD (a + (2 * root + 1 + 1)) default)=k1 at lc1 hsel
   have hlt:decide (((2 * root + 1 + 1:Nat):Int) < (hi:Int))=true:=decide_eq_true (by omega)
   generalize 2 * root + 1=ch at *
   rcases hsel with ⟨rfl,hk1⟩ | ⟨rfl,hk1⟩
   ·(have zz:=aI @t0 (aI @t2 (aI @t3 (aI @t4 (aI @t10 (aI @t11 (aI @tch2 (aI @hlt (aI @dU (aI @kM (aI hc.cells hc.one)))))))))); repeat' (first|refine zW ?_|refine zM ?_|apply a_n|refine zO ?_|refine vZ ?_|refine cZ ?_ (hp:=lc1) (hs:=by (first | refine ac ?_ rfl | apply ag); (repeat' (first | exact aa | apply an | apply ai | exact e3 | exact e4 | exact aU dcap)); first | done | fail)|refine gTZ ?_|(refine zGZ ?_ ?_ <;> (intro _hg; try (exfalso; omega)))|fail)) <;> (try clear zz)
    all_goals exact ⟨(have zz:=@t0; evZ),(have zz:=@t2; evZ),(have zz:=@t3; evZ),(have zz:=@t4; evZ),(have zz:=@t10; evZ),(have zz:=@t11; evZ),rfl,rfl⟩
   ·have hk1:=hk1 h2
    (have zz:=aI @t0 (aI @t2 (aI @t3 (aI @t4 (aI @t10 (aI @t11 (aI @tch2 (aI @hlt (aI @dU (aI @kM (aI hc.cells hc.one)))))))))); repeat' (first|refine zW ?_|refine zM ?_|apply a_n|refine zO ?_|refine vZ ?_|refine cZ ?_ (hp:=lc1) (hs:=by (first | refine ac ?_ rfl | apply ag); (repeat' (first | exact aa | apply an | apply ai | exact e3 | exact e4 | exact aU dcap)); first | done | fail)|refine gTZ ?_|(refine zGZ ?_ ?_ <;> (intro _hg; try (exfalso; omega)))|fail)) <;> (try clear zz)
    all_goals exact ⟨(have zz:=@t0; evZ),(have zz:=@t2; evZ),(have zz:=@t3; evZ),(have zz:=@t4; evZ),(have zz:=@t10; evZ),(have zz:=@t11; evZ),rfl,rfl⟩
  ·have hlt:decide (((2 * root + 1 + 1:Nat):Int) < (hi:Int))=false:=decide_eq_false (by omega)
   have hcc:c=2 * root + 1:=by
    rcases hsel with ⟨rfl,_⟩ | ⟨rfl,_⟩
    ·omega
    ·rfl
   subst hcc
   (have zz:=aI @t0 (aI @t2 (aI @t3 (aI @t4 (aI @t10 (aI @t11 (aI @tch2 @hlt)))))); repeat' (first|refine zW ?_|refine zM ?_|apply a_n|refine zO ?_|refine vZ ?_|refine gFZ ?_|refine cFZ ?_|fail)) <;> (try clear zz)
   all_goals exact ⟨(have zz:=@t0; evZ),(have zz:=@t2; evZ),(have zz:=@t3; evZ),(have zz:=@t4; evZ),(have zz:=@t10; evZ),(have zz:=@t11; evZ),rfl,rfl⟩
 clear t0 t2 t3 t4 t10 t11 hsel
 rintro T _ _ ⟨t0,t2,t3,t4,t10,t11,rfl,rfl⟩
 by_cases hk2:k2 < 0
 ·obtain ⟨M1,hl1,lm1,lm2⟩:=ca (f:=f) (M:=M) (i:=a + root) (j:=a + c) (by omega) (by omega)
  have lm3:=lm2
  simp only [br,List.length_cons,List.length_nil,Nat.zero_add] at lm1 lm2
  (have zz:=aI @t0 (aI @t2 (aI @t3 (aI @t4 (aI @t10 (aI @t11 (aI @dU (aI @lm1 (aI @lm2 (aI hc.cells hc.one))))))))); repeat' (first|refine zW ?_|refine zM ?_|apply a_n|refine zO ?_|refine vZ ?_|refine cZ ?_ (hp:=lc2) (hs:=by (first | refine ac ?_ rfl | apply ag); (repeat' (first | exact aa | apply an | apply ai | exact e1 | exact e2 | exact aU dcap)); first | done | fail)|refine stZ ?_|(refine zGZ ?_ ?_ <;> (intro _hg; try (exfalso; omega)))|fail)) <;> (try clear zz)
  have hrc:root < c:=by unfold Kid at hkid; omega
  have hcn:c < n:=by omega
  refine ⟨(c,swp M (a + root) (a + c)),by dsimp only; omega,⟨by dsimp only; omega,?_,rfl,hp.trans (PermR.swap (by omega) (by omega) (by omega)),hs.step hc.ord hkid hchi (by omega) hbest (by rw [hK2]; exact hk2)⟩,(have zz:=aI @t0 (aI @t2 (aI @t3 @t4)); agZ)⟩
  dsimp only
  rw [aN,aN,lm3]
 ·(have zz:=aI @t0 (aI @t2 (aI @t3 (aI @t4 (aI @t10 (aI @t11 (aI @dU (aI hc.cells hc.one))))))); repeat' (first|refine zW ?_|refine zM ?_|apply a_n|apply a_r|refine zO ?_|refine vZ ?_|refine cZ ?_ (hp:=lc2) (hs:=by (first | refine ac ?_ rfl | apply ag); (repeat' (first | exact aa | apply an | apply ai | exact e1 | exact e2 | exact aU dcap)); first | done | fail)|(refine zGZ ?_ ?_ <;> (intro _hg; try (exfalso; omega)))|refine ak rfl ?_|fail)) <;> (try clear zz)
  exact ⟨rfl,M,rfl,hp,hs.stop hc.ord hbest (by rw [hK2]; exact hk2)⟩
end
end Go.Proofs.Ytfcenbapjhecfaa
namespace Go.Proofs.Ytfcenbapjhecfaa
open Go Go.Abs
open Nat (reduceEqDiff reduceAdd reduceLeDiff)
section
variable {α:Type} [Inhabited α] {f:α→AV} {K:α→α→Int} {G:α→Prop} {g:Nat} {caps:List AV}
theorem ew.top {a hi:Nat} {M:List α} (hK:Ord K) (h:ew K a hi 0 M):∀ p,p < hi→¬ K (M.getD a default) (M.getD (a + p) default) < 0:=by
 intro p
 induction p using Nat.strongRecOn with
 | ind p ih =>
  intro hp
  by_cases e:p=0
  ·subst e; exact hK.irr _
  ·have k:Kid ((p - 1) / 2) p:=by unfold Kid; omega
   exact hK.negtr _ _ _ (h _ p (Nat.zero_le _) k hp) (ih ((p - 1) / 2) (by omega) (by omega))
structure TailR {α:Type} [Inhabited α] (K:α→α→Int) (a e k:Nat) (M:List α):Prop where
 sort:a5 K k e M
 ge:∀ p q,a ≤ p→p < k→k ≤ q→q < e→¬ K (M.getD q default) (M.getD p default) < 0
theorem TailR.step {a e k:Nat} {M N:List α} (hK:Ord K) (ht:TailR K a e (a + (k + 1)) M) (hh:ew K a (k + 1) 0 M) (he:a + (k + 1) ≤ e) (hM:e ≤ M.length) (hp:PermR a (a + k) (swp M a (a + k)) N):TailR K a e (a + k) N:=by
 have hg:∀ j,(swp M a (a + k)).getD j default=if j=a + k then M.getD a default else if j=a then M.getD (a + k) default else M.getD j default:=fun j=>cV (by omega) (by omega) j
 have hmax:=hh.top hK
 have lo:∀ q,a + k ≤ q→q < e→∀ p,a ≤ p→p < a + k→¬ K (N.getD q default) (N.getD p default) < 0:=by
  intro q h1 h2
  rw [hp.out q (.inr h1),hg]
  have hl:(swp M a (a + k)).length=M.length:=tG _ _
  refine hp.all (p:=fun x=>¬ K (if q=a + k then M.getD a default else if q=a then M.getD (a + k) default else M.getD q default) x < 0) (by omega) (by omega) ?_
  intro p k1 k2
  rw [hg,if_neg (by omega:¬ p=a + k)]
  by_cases e1:q=a + k
  ·rw [if_pos e1]
   by_cases e2:p=a
   ·rw [if_pos e2]; exact hmax k (by omega)
   ·rw [if_neg e2]
    have:=hmax (p - a) (by omega)
    rw [show a + (p - a)=p by omega] at this
    exact this
  ·rw [if_neg e1,if_neg (by omega:¬ q=a)]
   by_cases e2:p=a
   ·rw [if_pos e2]; exact ht.ge (a + k) q (by omega) (by omega) (by omega) h2
   ·rw [if_neg e2]; exact ht.ge p q k1 (by omega) (by omega) h2
 refine ⟨fun p q h1 h2 h3=>?_,fun p q h1 h2 h3 h4=>lo q h3 h4 p h1 h2⟩
 rw [hp.out p (.inr h1),hp.out q (.inr (by omega)),hg,hg,if_neg (by omega:¬ q=a + k),if_neg (by omega:¬ q=a)]
 by_cases e1:p=a + k
 ·rw [if_pos e1]; exact ht.ge a q (Nat.le_refl _) (by omega) (by omega) h3
 ·rw [if_neg e1,if_neg (by omega:¬ p=a)]; exact ht.sort p q (by omega) h2 h3
theorem ew.swapTop {a k:Nat} {M:List α} (h:ew K a (k + 1) 0 M) (hM:a + (k + 1) ≤ M.length):ew K a k 1 (swp M a (a + k)):=by
 intro p c h1 h2 h3
 have hg:∀ j,(swp M a (a + k)).getD j default=if j=a + k then M.getD a default else if j=a then M.getD (a + k) default else M.getD j default:=fun j=>cV (by omega) (by omega) j
 have:p < c:=by unfold Kid at h2; omega
 rw [hg,hg,if_neg (by omega),if_neg (by omega),if_neg (by omega),if_neg (by omega)]
 exact h p c (Nat.zero_le _) h2 (by omega)
theorem TailR.start {a e:Nat} {M:List α}:TailR K a e e M:=⟨fun p q h1 h2 h3=>by omega,fun p q h1 h2 h3 h4=>by omega⟩
theorem TailR.done {a e:Nat} {M:List α} (h:TailR K a e a M):a5 K a e M:=h.sort
theorem ew.start {a hi r:Nat} {M:List α} (hr:hi ≤ 2 * r + 1):ew K a hi r M:=fun p c h1 h2 h3=>by unfold Kid at h2; omega
attribute [local irreducible] aD aj aX aP aH aK az aL aR bd Go.Abs.Fn aO Go.Abs.Pure av aF Yl
theorem yQ (hc:Cmp Try.prog f K G g caps) {L:List α} {H:Hp} {b nx n a e:Nat} (hH:H b=some (L.map f)) (hn:L.length=n) (hG:∀ x ∈ L,G x) (hae:a ≤ e) (hen:e ≤ n) (hn2:n ≤ 1000000000) :
    Abs.Fn Try.prog 99 [.msl b n 1 0 n,.int .i64 a,.int .i64 e,.func g caps] H nx fun r H' nx'=>nx'=nx∧∃ L',H'=aq H b (L'.map f)∧PermR a e L L'∧a5 K a e L':=by
 obtain ⟨h,rfl⟩:∃ h,e=a + h:=⟨e - a,by omega⟩
 refine Abs.Fn.of_c2 follows Bq (Nat.le_of_ble_eq_true rfl) ?_
 simp only [b99,cO,cG,cN,cM,cD,cF,cB,aB,aS]
 have dcap:=hc.dcaps
 have te:((a + h:Nat):Int) - (a:Int)=(h:Int):=by omega
 obtain ⟨r,tr,hr,hrn⟩:∃ r:Nat,aZ .quo false false (.int .i64 ((h:Int) - 1)) (.int .i64 2)=some (.int .i64 (r:Int))∧h ≤ 2 * (r + 1) + 1∧r ≤ h:=by
  rcases Nat.eq_zero_or_pos h with e | e
  ·subst e; exact ⟨0,rfl,by omega,by omega⟩
  ·refine ⟨(h - 1) / 2,?_,by omega,by omega⟩
   rw [lN (by omega) (by omega) (by omega)]
   congr 2
   omega
 (have zz:=aI @te @tr; repeat' (first|refine zW ?_|apply a_n|refine zO ?_|refine vZ ?_|fail)) <;> (try clear zz)
 refine ba (X:=Nat × List α) (fun x=>[(0,.msl b n 1 0 n),(1,.int .i64 a),(3,.func g caps),(8,.int .i64 a),(9,.int .i64 0),(10,.int .i64 h),(11,.int .i64 ((x.1:Nat) - 1))]) (fun x H' nxx=>x.1 ≤ n + 1∧H'=aq H b (x.2.map f)∧nx=nxx∧PermR a (a + h) L x.2∧ew K a h x.1 x.2) (fun x=>x.1) (r + 1,L) ⟨by dsimp only; omega,io hH,rfl,.refl,ew.start (by dsimp only; omega)⟩ (by simp (disch:=omega) only [agr,ZG,reduceEqDiff,↓reduceIte,Int.add_sub_cancel]) ?_
 rintro ⟨i,M⟩ H' nxx ⟨h1,rfl,rfl,hp,hh⟩
 dsimp only at *
 have hl:M.length=n:=by rw [hp.len,hn]
 have hGM:=hp.mem hG
 rcases Nat.eq_zero_or_pos i with e | e
 ·subst e
  (have zz:=and_self; repeat' (first|refine zW ?_|apply a_n|apply a_x|refine zO ?_|refine vZ ?_|(refine zGZ ?_ ?_ <;> (intro _hg; try (exfalso; omega)))|fail)) <;> (try clear zz)
  clear hGM
  refine ba (X:=Nat × List α) (fun x=>[(0,.msl b n 1 0 n),(3,.func g caps),(8,.int .i64 a),(9,.int .i64 0),(12,.int .i64 ((x.1:Nat) - 1))]) (fun x H' nxx'=>x.1 ≤ h∧H'=aq H b (x.2.map f)∧nx=nxx'∧PermR a (a + h) L x.2∧ew K a x.1 0 x.2∧TailR K a (a + h) (a + x.1) x.2) (fun x=>x.1) (h,M) ⟨Nat.le_refl _,rfl,rfl,hp,hh,.start⟩ (by simp (disch:=omega) only [agr,ZG,reduceEqDiff,↓reduceIte,Int.add_sub_cancel]) ?_
  clear hp hh hl
  rintro ⟨i,M⟩ H' nxx ⟨h1,rfl,rfl,hp,hh,ht⟩
  dsimp only at *
  have hl:M.length=n:=by rw [hp.len,hn]
  have hGM:=hp.mem hG
  rcases Nat.eq_zero_or_pos i with e | e
  ·subst e
   (have zz:=and_self; repeat' (first|refine zW ?_|apply a_n|apply a_x|refine zO ?_|refine vZ ?_|(refine zGZ ?_ ?_ <;> (intro _hg; try (exfalso; omega)))|refine ak rfl ?_|fail)) <;> (try clear zz)
   exact ⟨rfl,M,rfl,hp,ht.done⟩
  ·obtain ⟨k,rfl⟩:∃ k,i=k + 1:=⟨i - 1,by omega⟩
   have tj:((k + 1:Nat):Int) - 1=(k:Int):=by omega
   obtain ⟨M1,hl1,lm1,lm2⟩:=ca (f:=f) (M:=M) (i:=a) (j:=a + k) (by omega) (by omega)
   have lm3:=lm2
   simp only [br,List.length_cons,List.length_nil,Nat.zero_add] at lm1 lm2
   have hp1:PermR a (a + h) L (swp M a (a + k)):=hp.trans (PermR.swap (by omega) (by omega) (by omega))
   have hsl:(swp M a (a + k)).length=n:=by rw [hp1.len,hn]
   (have zz:=aI @tj (aI @dU (aI @lm1 (aI @lm2 (aI hc.cells hc.one)))); repeat' (first|refine zW ?_|apply a_n|refine zO ?_|refine vZ ?_|refine stZ ?_|(refine zGZ ?_ ?_ <;> (intro _hg; try (exfalso; omega)))|fail)) <;> (try clear zz)
   refine aV ev0 (have zz:=aI @tj @Int.natCast_zero; evZ) (wV hc (b:=b) (L:=swp M a (a + k)) (a:=a) (lo:=0) (hi:=k) (by rw [aN,aN,ah,← lm3]) hsl (hp1.mem hG) (by omega) (by omega) (by omega) (hh.swapTop (by omega))) ?_
   rintro _ _ _ ⟨rfl,N,rfl,hpN,hhN⟩
   (have zz:=@tj; repeat' (first|apply a_n|refine zO ?_|refine vZ ?_|fail)) <;> (try clear zz)
   exact ⟨(k,N),by dsimp only; omega,⟨by dsimp only; omega,by dsimp only; rw [aN,aN,aN],rfl,hp1.trans (hpN.mono (Nat.le_refl _) (by omega)),hhN,ht.step hc.ord hh (by omega) (by omega) hpN⟩,ag0⟩
 ·obtain ⟨k,rfl⟩:∃ k,i=k + 1:=⟨i - 1,by omega⟩
  have tj:((k + 1:Nat):Int) - 1=(k:Int):=by omega
  (have zz:=@tj; repeat' (first|refine zW ?_|apply a_n|refine zO ?_|refine vZ ?_|(refine zGZ ?_ ?_ <;> (intro _hg; try (exfalso; omega)))|fail)) <;> (try clear zz)
  refine aV ev0 ev0 (wV hc (L:=M) (a:=a) (lo:=k) (hi:=h) ah hl hGM (by omega) (by omega) (by omega) hh) ?_
  rintro _ _ _ ⟨rfl,N,rfl,hpN,hhN⟩
  (have zz:=@tj; repeat' (first|apply a_n|refine zO ?_|refine vZ ?_|fail)) <;> (try clear zz)
  exact ⟨(k,N),by dsimp only; omega,⟨by dsimp only; omega,by dsimp only; rw [aN],rfl,hp.trans hpN,hhN⟩,ag0⟩
end
end Go.Proofs.Ytfcenbapjhecfaa
namespace Go.Proofs.Ytfcenbapjhecfaa
open Go Go.Abs
section
variable {α:Type} [Inhabited α] {f:α→AV} {K:α→α→Int} {G:α→Prop} {g:Nat} {caps:List AV}
def zF:AV→Option AV
 | .ptr b n o=>some (.ptr b n o)
 | .iptr c o=>some (.iptr c o)
 | .func f c=>some (.func f c)
 | _=>none
theorem SV3:(∀ (T:Tm) (H:Hp) (x:Opd),a8 T H (.nilck x)=zF (ov T x))∧(∀ b n o:Nat,zF (.ptr b n o)=some (.ptr b n o)):=⟨fun T H x=>by
 simp only [a8]
 cases ov T x <;> rfl,fun _ _ _=>rfl⟩
attribute [local irreducible] aD aj aX aP aH aK az aL aR bd Go.Abs.Fn aO Go.Abs.Pure av aF Yl
theorem z5 (hc:Cmp Try.prog f K G g caps) {L:List α} {H:Hp} {b nx n a e:Nat} (hH:H b=some (L.map f)) (hn:L.length=n) (hae:a < e) (hen:e ≤ n) (hn2:n ≤ 1000000000) :
    Abs.Fn Try.prog 102 [.msl b n 1 0 n,.int .i64 a,.int .i64 e,.func g caps] H nx fun r H' nx'=>nx'=nx∧∃ L',H'=aq H b (L'.map f)∧PermR a e L L':=by
 obtain ⟨m,rfl⟩:∃ m,e=m + 1:=⟨e - 1,by omega⟩
 have te:((m + 1:Nat):Int) - 1=(m:Int):=by omega
 refine Abs.Fn.of_c2 follows AD (Nat.le_of_ble_eq_true rfl) ?_
 simp only [As,cO,cG,cN,cM,cD,cF,cB,aB,aS]
 (have zz:=@te; repeat' (first|refine zW ?_|apply a_n|refine zO ?_|refine vZ ?_|fail)) <;> (try clear zz)
 refine ba (X:=Nat × Nat × List α) (fun x=>[(0,.msl b n 1 0 n),(8,.int .i64 (x.1:Nat)),(9,.int .i64 (x.2.1:Nat))]) (fun x H' nxx=>a ≤ x.1∧x.2.1 ≤ m∧H'=aq H b (x.2.2.map f)∧nx=nxx∧PermR a (m + 1) L x.2.2) (fun x=>x.2.1) (a,m,L) ⟨Nat.le_refl _,Nat.le_refl _,io hH,rfl,.refl⟩ ag0 ?_
 rintro ⟨i,j,M⟩ H' nxx ⟨h1,h2,rfl,rfl,hp⟩
 dsimp only at *
 have hl:M.length=n:=by rw [hp.len,hn]
 by_cases hij:i < j
 ·obtain ⟨k,rfl⟩:∃ k,j=k + 1:=⟨j - 1,by omega⟩
  have tj:((k + 1:Nat):Int) - 1=(k:Int):=by omega
  have ti:((i:Nat):Int) + 1=((i + 1:Nat):Int):=by omega
  obtain ⟨M1,hl1,lm1,lm2⟩:=ca (f:=f) (M:=M) (i:=i) (j:=k + 1) (by omega) (by omega)
  have lm3:=lm2
  simp only [br,List.length_cons,List.length_nil,Nat.zero_add] at lm1 lm2
  (have zz:=aI @tj (aI @ti (aI @lm1 (aI @lm2 (aI hc.cells hc.one)))); repeat' (first|refine zW ?_|apply a_n|refine zO ?_|refine vZ ?_|refine stZ ?_|(refine zGZ ?_ ?_ <;> (intro _hg; try (exfalso; omega)))|fail)) <;> (try clear zz)
  exact ⟨(i + 1,k,swp M i (k + 1)),by dsimp only; omega,⟨by dsimp only; omega,by dsimp only; omega,by dsimp only; rw [aN,aN,lm3],rfl,hp.trans (PermR.swap (by omega) (by omega) (by omega))⟩,ag0⟩
 ·(have zz:=and_self; repeat' (first|refine zW ?_|apply a_n|apply a_x|refine zO ?_|refine vZ ?_|(refine zGZ ?_ ?_ <;> (intro _hg; try (exfalso; omega)))|refine ak rfl ?_|fail)) <;> (try clear zz)
  exact ⟨rfl,M,rfl,hp⟩
theorem mZ (hc:Cmp Try.prog f K G g caps) {L:List α} {H:Hp} {b c nx n i j s:Nat} (hH:H b=some (L.map f)) (hcc:H c=some [.int .i64 (s:Nat)]) (hn:L.length=n) (hG:∀ x ∈ L,G x) (hi:i < n) (hj:j < n) (hn2:n ≤ 1000000000) (hs:s ≤ 100) :
    Abs.Fn Try.prog 119 [.msl b n 1 0 n,.int .i64 i,.int .i64 j,.ptr c 1 0,.func g caps] H nx fun r H' nx'=>nx'=nx∧∃ i' j' s':Nat,r=.tup [.int .i64 i',.int .i64 j']∧((i'=i∧j'=j) ∨ (i'=j∧j'=i))∧s' ≤ s + 1∧H'=aq H c [.int .i64 s']:=by
 refine Abs.Fn.of_c2 follows AJ (Nat.le_of_ble_eq_true rfl) ?_
 simp only [zY,cO,cG,cN,cM,cD,cF,cB,aB,aS]
 have dcap:=hc.dcaps
 have lc:=hc.run (L.getD j default) (L.getD i default) (hG _ (aJ (by omega))) (hG _ (aJ (by omega)))
 have e1:=hc.dat (L.getD j default)
 have e2:=hc.dat (L.getD i default)
 have ts:((s:Nat):Int) + 1=((s + 1:Nat):Int):=by omega
 have ls:∀ x y:AV,br [x] 0 [y]=[y]:=fun _ _=>rfl
 simp only [br,List.length_cons,List.length_nil,Nat.zero_add] at ls
 generalize hKK:K (L.getD j default) (L.getD i default)=kk at lc
 by_cases hlt:kk < 0
 ·(have zz:=aI @hH (aI @hcc (aI @Int.toNat_natCast (aI hc.cells (aI hc.one (aI @ts (aI @ls @SV3)))))); repeat' (first|refine zW ?_|refine zM ?_|apply a_n|apply a_r|refine zO ?_|refine vZ ?_|refine cZ ?_ (hp:=lc) (hs:=by (first | refine ac ?_ rfl | apply ag); (repeat' (first | exact aa | apply an | apply ai | exact e1 | exact e2 | exact aU dcap)); first | done | fail)|refine stZ ?_|(refine zGZ ?_ ?_ <;> (intro _hg; try (exfalso; omega)))|refine ak rfl ?_|refine r2Z ?_|fail)) <;> (try clear zz)
  exact ⟨rfl,j,i,s + 1,rfl,.inr ⟨rfl,rfl⟩,Nat.le_refl _,rfl⟩
 ·(have zz:=aI @hH (aI @hcc (aI @Int.toNat_natCast (aI hc.cells hc.one))); repeat' (first|refine zW ?_|refine zM ?_|apply a_n|refine zO ?_|refine vZ ?_|refine cZ ?_ (hp:=lc) (hs:=by (first | refine ac ?_ rfl | apply ag); (repeat' (first | exact aa | apply an | apply ai | exact e1 | exact e2 | exact aU dcap)); first | done | fail)|(refine zGZ ?_ ?_ <;> (intro _hg; try (exfalso; omega)))|refine ak rfl ?_|refine r2Z ?_|fail)) <;> (try clear zz)
  exact ⟨rfl,i,j,s,rfl,.inl ⟨rfl,rfl⟩,Nat.le_succ _,io hcc⟩
end
end Go.Proofs.Ytfcenbapjhecfaa
namespace Go.Proofs.Ytfcenbapjhecfaa
open Go Go.Abs
section
variable {α:Type} [Inhabited α] {f:α→AV} {K:α→α→Int} {G:α→Prop} {g:Nat} {caps:List AV}
attribute [local irreducible] aD aj aX aP aH aK az aL aR bd Go.Abs.Fn aO Go.Abs.Pure av aF Yl
theorem mP (hc:Cmp Try.prog f K G g caps) {L:List α} {H:Hp} {b c nx n i j k s lo hi:Nat} (hH:H b=some (L.map f)) (hbc:b ≠ c) (hcc:H c=some [.int .i64 (s:Nat)]) (hn:L.length=n) (hG:∀ x ∈ L,G x) (hi1:lo ≤ i∧i < hi) (hj1:lo ≤ j∧j < hi) (hk1:lo ≤ k∧k < hi) (hhi:hi ≤ n) (hn2:n ≤ 1000000000) (hs:s ≤ 50) :
    Abs.Fn Try.prog 115 [.msl b n 1 0 n,.int .i64 i,.int .i64 j,.int .i64 k,.ptr c 1 0,.func g caps] H nx fun r H' nx'=>nx'=nx∧∃ p s':Nat,r=.int .i64 p∧lo ≤ p∧p < hi∧s' ≤ s + 3∧H'=aq H c [.int .i64 s']:=by
 refine Abs.Fn.of_c2 follows Af (Nat.le_of_ble_eq_true rfl) ?_
 simp only [An,cO,cG,cN,cM,cD,cF,cB,aB,aS]
 (have zz:=and_self; repeat' (first|refine zW ?_|apply a_n|refine zO ?_|refine vZ ?_|fail)) <;> (try clear zz)
 refine aV ev0 ev0 (mZ hc (b:=b) hH hcc hn hG (i:=i) (j:=j) (by omega) (by omega) hn2 (by omega)) ?_
 rintro _ _ _ ⟨rfl,i1,j1,s1,rfl,h1,hs1,rfl⟩
 (have zz:=and_self; repeat' (first|refine zW ?_|apply a_n|refine zO ?_|refine vZ ?_|fail)) <;> (try clear zz)
 refine aV ev0 ev0 (mZ hc (b:=b) (by rw [af hbc]; exact hH) ah hn hG (i:=j1) (j:=k) (by omega) (by omega) hn2 (by omega)) ?_
 rintro _ _ _ ⟨rfl,j2,k2,s2,rfl,h2,hs2,rfl⟩
 (have zz:=and_self; repeat' (first|refine zW ?_|apply a_n|refine zO ?_|refine vZ ?_|fail)) <;> (try clear zz)
 refine aV ev0 ev0 (mZ hc (b:=b) (by rw [aN,af hbc]; exact hH) ah hn hG (i:=i1) (j:=j2) (by omega) (by omega) hn2 (by omega)) ?_
 rintro _ _ _ ⟨rfl,i3,j3,s3,rfl,h3,hs3,rfl⟩
 (have zz:=and_self; repeat' (first|refine zW ?_|apply a_n|refine zO ?_|refine vZ ?_|refine ak rfl ?_|refine r1Z ?_|fail)) <;> (try clear zz)
 exact ⟨rfl,j3,s3,rfl,by omega,by omega,by omega,by rw [aN,aN]⟩
theorem mE (hc:Cmp Try.prog f K G g caps) {L:List α} {H:Hp} {b c nx n i s lo hi:Nat} (hH:H b=some (L.map f)) (hbc:b ≠ c) (hcc:H c=some [.int .i64 (s:Nat)]) (hn:L.length=n) (hG:∀ x ∈ L,G x) (hi1:lo + 1 ≤ i∧i + 1 < hi) (hhi:hi ≤ n) (hn2:n ≤ 1000000000) (hs:s ≤ 50) :
    Abs.Fn Try.prog 114 [.msl b n 1 0 n,.int .i64 i,.ptr c 1 0,.func g caps] H nx fun r H' nx'=>nx'=nx∧∃ p s':Nat,r=.int .i64 p∧lo ≤ p∧p < hi∧s' ≤ s + 3∧H'=aq H c [.int .i64 s']:=by
 obtain ⟨m,rfl⟩:∃ m,i=m + 1:=⟨i - 1,by omega⟩
 have t1:((m + 1:Nat):Int) - 1=(m:Int):=by omega
 have t2:((m + 1:Nat):Int) + 1=((m + 1 + 1:Nat):Int):=by omega
 refine Abs.Fn.of_c2 follows AN (Nat.le_of_ble_eq_true rfl) ?_
 simp only [Ax,cO,cG,cN,cM,cD,cF,cB,aB,aS]
 (have zz:=aI @t1 @t2; repeat' (first|refine zW ?_|apply a_n|refine zO ?_|refine vZ ?_|fail)) <;> (try clear zz)
 refine aV ev0 ev0 (mP hc (b:=b) hH hbc hcc hn hG (i:=m) (j:=m + 1) (k:=m + 1 + 1) (lo:=lo) (hi:=hi) (by omega) (by omega) (by omega) hhi hn2 hs) ?_
 rintro _ _ _ ⟨rfl,p,s1,rfl,h1,h2,hs1,rfl⟩
 (have zz:=and_self; repeat' (first|apply a_n|refine zO ?_|refine vZ ?_|refine ak rfl ?_|refine r1Z ?_|fail)) <;> (try clear zz)
 exact ⟨rfl,p,s1,rfl,h1,h2,hs1,rfl⟩
theorem v4 (hc:Cmp Try.prog f K G g caps) {L:List α} {H:Hp} {b nx n a e:Nat} (hH:H b=some (L.map f)) (hbx:b < nx) (hn:L.length=n) (hG:∀ x ∈ L,G x) (hae:a + 8 ≤ e) (hen:e ≤ n) (hn2:n ≤ 1000000000) :
    Abs.Fn Try.prog 101 [.msl b n 1 0 n,.int .i64 a,.int .i64 e,.func g caps] H nx fun r H' nx'=>nx'=nx + 1∧∃ (p:Nat) (hint:Int) (v:List AV),r=.tup [.int .i64 p,.int .i64 hint]∧a ≤ p∧p < e∧H'=aq H nx v:=by
 obtain ⟨l,rfl⟩:∃ l,e=a + l:=⟨e - a,by omega⟩
 have te:((a + l:Nat):Int) - (a:Int)=(l:Int):=by omega
 obtain ⟨q,hq⟩:∃ q,l / 4=q:=⟨_,rfl⟩
 have tq:aZ .quo false false (.int .i64 (l:Int)) (.int .i64 4)=some (.int .i64 (q:Int)):=by
  rw [lN (by omega) (by omega) (by omega)]
  congr 2
  omega
 have w1:(a:Int) + (q:Int) * 1=((a + q:Nat):Int):=by omega
 have w2:(a:Int) + (q:Int) * 2=((a + q * 2:Nat):Int):=by omega
 have w3:(a:Int) + (q:Int) * 3=((a + q * 3:Nat):Int):=by omega
 have hbn:b ≠ nx:=by omega
 refine Abs.Fn.of_c2 follows Ai (Nat.le_of_ble_eq_true rfl) ?_
 simp only [Am,cO,cG,cN,cM,cD,cF,cB,aB,aS]
 have last:∀ (s:Nat) (H1:Hp),H1=aq (aq H nx [.int .i64 0]) nx [.int .i64 s]→H1 nx=some [.int .i64 (s:Nat)]:=fun s H1 h=>by rw [h]; exact ah
 have hHn:∀ v,aq H nx v b=some (L.map f):=fun v=>by rw [af hbn]; exact hH
 by_cases h50:50 ≤ l
 ·(have zz:=aI @te (aI @tq (aI @w1 (aI @w2 @w3))); repeat' (first|refine zW ?_|apply a_n|refine zO ?_|refine vZ ?_|refine alZ ?_|(refine zGZ ?_ ?_ <;> (intro _hg; try (exfalso; omega)))|fail)) <;> (try clear zz)
  refine aV ev0 ev0 (mE hc (b:=b) (c:=nx) (s:=0) (i:=a + q) (lo:=a) (hi:=a + l) (hHn _) hbn ah hn hG (by omega) (by omega) hn2 (by omega)) ?_
  rintro _ _ _ ⟨rfl,p1,s1,rfl,k1,k2,hs1,rfl⟩
  rw [aN]
  (have zz:=and_self; repeat' (first|refine zW ?_|apply a_n|refine zO ?_|refine vZ ?_|fail)) <;> (try clear zz)
  refine aV ev0 ev0 (mE hc (b:=b) (c:=nx) (s:=s1) (i:=a + q * 2) (lo:=a) (hi:=a + l) (hHn _) hbn ah hn hG (by omega) (by omega) hn2 (by omega)) ?_
  rintro _ _ _ ⟨rfl,p2,s2,rfl,k3,k4,hs2,rfl⟩
  rw [aN]
  (have zz:=and_self; repeat' (first|apply a_n|refine zO ?_|refine vZ ?_|fail)) <;> (try clear zz)
  refine aV ev0 ev0 (mE hc (b:=b) (c:=nx) (s:=s2) (i:=a + q * 3) (lo:=a) (hi:=a + l) (hHn _) hbn ah hn hG (by omega) (by omega) hn2 (by omega)) ?_
  rintro _ _ _ ⟨rfl,p3,s3,rfl,k5,k6,hs3,rfl⟩
  rw [aN]
  (have zz:=and_self; repeat' (first|apply a_n|refine zO ?_|refine vZ ?_|fail)) <;> (try clear zz)
  refine aV ev0 ev0 (mP hc (b:=b) (c:=nx) (s:=s3) (i:=p1) (j:=p2) (k:=p3) (lo:=a) (hi:=a + l) (hHn _) hbn ah hn hG (by omega) (by omega) (by omega) (by omega) hn2 (by omega)) ?_
  rintro _ _ _ ⟨rfl,p4,s4,rfl,k7,k8,hs4,rfl⟩
  rw [aN]
  (have zz:=and_self; repeat' (first|refine zW ?_|apply a_n|refine zO ?_|refine vZ ?_|(refine zGZ ?_ ?_ <;> (intro _hg; try (exfalso; omega)))|refine ak rfl ?_|refine r2Z ?_|fail)) <;> (try clear zz)
  all_goals exact ⟨rfl,p4,_,_,rfl,by omega,by omega,rfl⟩
 ·(have zz:=aI @te (aI @tq (aI @w1 (aI @w2 @w3))); repeat' (first|refine zW ?_|apply a_n|refine zO ?_|refine vZ ?_|refine alZ ?_|(refine zGZ ?_ ?_ <;> (intro _hg; try (exfalso; omega)))|fail)) <;> (try clear zz)
  refine aV ev0 ev0 (mP hc (b:=b) (c:=nx) (s:=0) (i:=a + q) (j:=a + q * 2) (k:=a + q * 3) (lo:=a) (hi:=a + l) (hHn _) hbn ah hn hG (by omega) (by omega) (by omega) (by omega) hn2 (by omega)) ?_
  rintro _ _ _ ⟨rfl,p4,s4,rfl,k7,k8,hs4,rfl⟩
  rw [aN]
  (have zz:=and_self; repeat' (first|refine zW ?_|apply a_n|refine zO ?_|refine vZ ?_|(refine zGZ ?_ ?_ <;> (intro _hg; try (exfalso; omega)))|refine ak rfl ?_|refine r2Z ?_|fail)) <;> (try clear zz)
  all_goals exact ⟨rfl,p4,_,_,rfl,by omega,by omega,rfl⟩
end
end Go.Proofs.Ytfcenbapjhecfaa
namespace Go.Proofs.Ytfcenbapjhecfaa
open Go Go.Abs
def nY {α:Type} [Inhabited α] (K:α→α→Int) (a e:Nat) (M:List α):Prop:=∀ q,0 < a→a ≤ q→q < e→¬ K (M.getD q default) (M.getD (a - 1) default) < 0
section
variable {α:Type} [Inhabited α] {f:α→AV} {K:α→α→Int} {G:α→Prop} {g:Nat} {caps:List AV}
theorem nY.perm {a e:Nat} {L M:List α} (h:nY K a e L) (hp:PermR a e L M) (hae:a ≤ e) (he:e ≤ L.length):nY K a e M:=fun q h0 h1 h2=>by
 rw [hp.out (a - 1) (.inl (by omega))]
 exact hp.all (p:=fun x=>¬ K x (L.getD (a - 1) default) < 0) hae he (fun i k1 k2=>h i h0 k1 k2) q h1 h2
theorem a5.out {a i e:Nat} {L M:List α} (h:a5 K a i L) (hp:PermR i e L M):a5 K a i M:=fun p q h1 h2 h3=>by
 rw [hp.out p (.inl (by omega)),hp.out q (.inl h3)]; exact h p q h1 h2 h3
theorem a5.snoc {a i:Nat} {M:List α} (hK:Ord K) (h:a5 K a i M) (ha:a < i) (hn:¬ K (M.getD i default) (M.getD (i - 1) default) < 0):a5 K a (i + 1) M:=fun p q h1 h2 h3=>by
 by_cases e:q=i
 ·subst e
  by_cases e2:p=q - 1
  ·rw [e2]; exact hn
  ·exact hK.negtr _ _ _ (h p (q - 1) h1 (by omega) (by omega)) hn
 ·exact h p q h1 h2 (by omega)
attribute [local irreducible] aD aj aX aP aH aK az aL aR bd Go.Abs.Fn aO Go.Abs.Pure av aF Yl
theorem u6 (hc:Cmp Try.prog f K G g caps) {L:List α} {H:Hp} {b nx n a e:Nat} (hH:H b=some (L.map f)) (hn:L.length=n) (hG:∀ x ∈ L,G x) (hae:a < e) (hen:e ≤ n) (hn2:n ≤ 1000000000) (hlow:nY K a e L) :
    Abs.Fn Try.prog 103 [.msl b n 1 0 n,.int .i64 a,.int .i64 e,.func g caps] H nx fun r H' nx'=>nx'=nx∧∃ L' t,r=.bool t∧H'=aq H b (L'.map f)∧PermR a e L L'∧(t=true→a5 K a e L'):=by
 have dcap:=hc.dcaps
 refine Abs.Fn.of_c2 follows zN (Nat.le_of_ble_eq_true rfl) ?_
 simp only [z8,cO,cG,cN,cM,cD,cF,cB,aB,aS]
 (have zz:=and_self; repeat' (first|refine zW ?_|apply a_n|refine zO ?_|refine vZ ?_|fail)) <;> (try clear zz)
 refine ba (X:=Nat × Nat × List α) (fun x=>[(0,.msl b n 1 0 n),(1,.int .i64 a),(2,.int .i64 e),(3,.func g caps),(9,.int .i64 (x.2.1:Nat)),(10,.int .i64 (x.1:Nat))]) (fun x H' nxx=>x.1 ≤ 5∧a + 1 ≤ x.2.1∧x.2.1 ≤ e∧H'=aq H b (x.2.2.map f)∧nx=nxx∧PermR a e L x.2.2∧a5 K a x.2.1 x.2.2) (fun x=>5 - x.1) (0,a + 1,L) ⟨by dsimp only; omega,Nat.le_refl _,hae,io hH,rfl,.refl,a5.one (Nat.le_refl _)⟩ ag0 ?_
 rintro ⟨jj,i0,M0⟩ H' nxx ⟨h1,h2,h3,rfl,rfl,hp0,hs0⟩
 dsimp only at *
 by_cases h5:jj=5
 ·subst h5
  (have zz:=and_self; repeat' (first|refine zW ?_|apply a_n|apply a_x|refine zO ?_|refine vZ ?_|(refine zGZ ?_ ?_ <;> (intro _hg; try (exfalso; omega)))|refine ak rfl ?_|refine r1Z ?_|fail)) <;> (try clear zz)
  exact ⟨rfl,M0,false,rfl,rfl,hp0,fun h=>absurd h (by decide)⟩
 have hl:M0.length=n:=by rw [hp0.len,hn]
 have hGM:=hp0.mem hG
 refine bw (fun T H'' nx''=>T 0=.msl b n 1 0 n∧T 1=.int .i64 a∧T 2=.int .i64 e∧T 3=.func g caps∧T 9=.int .i64 (i0:Nat)∧T 10=.int .i64 (jj:Nat)∧H''=aq H b ((M0).map f)∧nx=nx'') ?_ ?_
 ·(have zz:=and_self; repeat' (first|refine zW ?_|apply a_n|refine zO ?_|refine vZ ?_|(refine zGZ ?_ ?_ <;> (intro _hg; try (exfalso; omega)))|fail)) <;> (try clear zz)
  exact ⟨rfl,rfl,rfl,rfl,rfl,rfl,rfl,rfl⟩
 rintro T _ _ ⟨t0,t1,t2,t3,t9,t10,rfl,rfl⟩
 refine bw (fun T H'' nx''=>∃ (i:Nat) (M:List α),a + 1 ≤ i∧i ≤ e∧PermR a e L M∧a5 K a i M∧T 0=.msl b n 1 0 n∧T 1=.int .i64 a∧T 2=.int .i64 e∧T 3=.func g caps∧T 9=.int .i64 (i:Nat)∧T 10=.int .i64 (jj:Nat)∧H''=aq H b ((M).map f)∧nx=nx'') ?_ ?_
 rotate_left
 ·clear t0 t1 t2 t3 t9 t10
  rintro T _ _ ⟨i,M,k1,k2,hp,hs,t0,t1,t2,t3,t9,t10,rfl,rfl⟩
  (have zz:=aI @t0 (aI @t1 (aI @t2 (aI @t3 (aI @t9 @t10)))); repeat' (first|apply a_n|refine zO ?_|refine vZ ?_|fail)) <;> (try clear zz)
  exact ⟨(jj + 1,i,M),by dsimp only; omega,⟨by dsimp only; omega,k1,k2,rfl,rfl,hp,hs⟩,(have zz:=aI @t0 (aI @t1 (aI @t2 (aI @t3 (aI @t9 @t10)))); agZ)⟩
 refine f8 ?_
 refine bw (fun T H'' nx''=>∃ (i:Nat),a + 1 ≤ i∧i ≤ e∧a5 K a i M0∧(i < e→K (M0.getD i default) (M0.getD (i - 1) default) < 0)∧T 0=.msl b n 1 0 n∧T 1=.int .i64 a∧T 2=.int .i64 e∧T 3=.func g caps∧T 9=.int .i64 (i:Nat)∧T 10=.int .i64 (jj:Nat)∧H''=aq H b ((M0).map f)∧nx=nx'') ?_ ?_
 ·(have zz:=aI @t0 (aI @t1 (aI @t2 (aI @t3 (aI @t9 @t10)))); repeat' (first|refine zW ?_|apply a_n|refine zO ?_|fail)) <;> (try clear zz)
  refine ba (X:=Nat) (fun i=>[(0,.msl b n 1 0 n),(1,.int .i64 a),(2,.int .i64 e),(3,.func g caps),(9,.int .i64 (i:Nat)),(10,.int .i64 (jj:Nat))]) (fun i H' nxx=>a + 1 ≤ i∧i ≤ e∧H'=aq H b (M0.map f)∧nx=nxx∧a5 K a i M0) (fun i=>e - i) i0 ⟨h2,h3,rfl,rfl,hs0⟩ (have zz:=aI @t0 (aI @t1 (aI @t2 (aI @t3 (aI @t9 @t10)))); agZ) ?_
  clear hs0 h2 h3
  rintro i H' nxx ⟨h2,h3,rfl,rfl,hs⟩
  by_cases hie:i=e
  ·subst hie
   (have zz:=and_self; repeat' (first|refine zW ?_|refine zM ?_|apply a_n|apply a_x|refine zO ?_|refine vZ ?_|refine gFZ ?_|(refine zGZ ?_ ?_ <;> (intro _hg; try (exfalso; omega)))|refine cFZ ?_|fail)) <;> (try clear zz)
   exact ⟨i,h2,h3,hs,fun h=>absurd h (Nat.lt_irrefl _),rfl,rfl,rfl,rfl,rfl,rfl,rfl,rfl⟩
  obtain ⟨m,rfl⟩:∃ m,i=m + 1:=⟨i - 1,by omega⟩
  have tj:((m + 1:Nat):Int) - 1=(m:Int):=by omega
  have lc:=hc.run (M0.getD (m + 1) default) (M0.getD m default) (hGM _ (aJ (by omega))) (hGM _ (aJ (by omega)))
  have e1:=hc.dat (M0.getD (m + 1) default)
  have e2:=hc.dat (M0.getD m default)
  generalize hKK:K (M0.getD (m + 1) default) (M0.getD m default)=kk at lc
  by_cases hlt:kk < 0
  ·(have zz:=aI @tj (aI @Int.toNat_natCast (aI hc.cells hc.one)); repeat' (first|refine zW ?_|refine zM ?_|apply a_n|apply a_x|refine zO ?_|refine vZ ?_|refine cZ ?_ (hp:=lc) (hs:=by (first | refine ac ?_ rfl | apply ag); (repeat' (first | exact aa | apply an | apply ai | exact e1 | exact e2 | exact aU dcap)); first | done | fail)|refine gTZ ?_|(refine zGZ ?_ ?_ <;> (intro _hg; try (exfalso; omega)))|fail)) <;> (try clear zz)
   exact ⟨m + 1,h2,h3,hs,fun _=>by rw [Nat.add_sub_cancel,hKK]; exact hlt,rfl,rfl,rfl,rfl,rfl,rfl,rfl,rfl⟩
  ·(have zz:=aI @tj (aI @Int.toNat_natCast (aI hc.cells hc.one)); repeat' (first|refine zW ?_|refine zM ?_|apply a_n|refine zO ?_|refine vZ ?_|refine cZ ?_ (hp:=lc) (hs:=by (first | refine ac ?_ rfl | apply ag); (repeat' (first | exact aa | apply an | apply ai | exact e1 | exact e2 | exact aU dcap)); first | done | fail)|refine gTZ ?_|(refine zGZ ?_ ?_ <;> (intro _hg; try (exfalso; omega)))|fail)) <;> (try clear zz)
   exact ⟨m + 1 + 1,by omega,⟨by omega,by omega,rfl,rfl,hs.snoc hc.ord (by omega) (by rw [Nat.add_sub_cancel,hKK]; exact hlt)⟩,ag0⟩
 clear t0 t1 t2 t3 t9 t10 hs0 h2 h3
 rintro T _ _ ⟨i,h2,h3,hs,hless,t0,t1,t2,t3,t9,t10,rfl,rfl⟩
 by_cases hie:i=e
 ·subst hie
  have ten:decide ((i:Int)=(i:Int))=true:=decide_eq_true rfl
  (have zz:=aI @t0 (aI @t1 (aI @t2 (aI @t3 (aI @t9 (aI @t10 @ten))))); repeat' (first|refine zW ?_|apply a_n|apply a_r|refine zO ?_|refine vZ ?_|(refine zGZ ?_ ?_ <;> (intro _hg; try (exfalso; omega)))|refine ak rfl ?_|refine r1Z ?_|fail)) <;> (try clear zz)
  exact ⟨rfl,M0,true,rfl,rfl,hp0,fun _=>hs⟩
 replace hless:=hless (by omega)
 have ten:decide ((i:Int)=(e:Int))=false:=decide_eq_false (by omega)
 refine bw (fun T H'' nx''=>T 0=.msl b n 1 0 n∧T 1=.int .i64 a∧T 2=.int .i64 e∧T 3=.func g caps∧T 9=.int .i64 (i:Nat)∧T 10=.int .i64 (jj:Nat)∧H''=aq H b ((M0).map f)∧nx=nx'') ?_ ?_
 ·(have zz:=aI @t0 (aI @t1 (aI @t2 (aI @t3 (aI @t9 (aI @t10 @ten))))); repeat' (first|refine zW ?_|apply a_n|refine zO ?_|refine vZ ?_|refine cFZ ?_|fail)) <;> (try clear zz)
  exact ⟨(have zz:=@t0; evZ),(have zz:=@t1; evZ),(have zz:=@t2; evZ),(have zz:=@t3; evZ),(have zz:=@t9; evZ),(have zz:=@t10; evZ),rfl,rfl⟩
 clear t0 t1 t2 t3 t9 t10 ten
 rintro T _ _ ⟨t0,t1,t2,t3,t9,t10,rfl,rfl⟩
 refine bw (fun T H'' nx''=>T 0=.msl b n 1 0 n∧T 1=.int .i64 a∧T 2=.int .i64 e∧T 3=.func g caps∧T 9=.int .i64 (i:Nat)∧T 10=.int .i64 (jj:Nat)∧H''=aq H b ((M0).map f)∧nx=nx'') ?_ ?_
 ·(have zz:=aI @t0 (aI @t1 (aI @t2 (aI @t3 (aI @t9 @t10)))); repeat' (first|refine zW ?_|apply a_n|apply a_r|refine zO ?_|refine vZ ?_|(refine zGZ ?_ ?_ <;> (intro _hg; try (exfalso; omega)))|refine ak rfl ?_|refine r1Z ?_|fail)) <;> (try clear zz)
  ·exact ⟨rfl,M0,false,rfl,rfl,hp0,fun h=>absurd h (by decide)⟩
  ·exact ⟨(have zz:=@t0; evZ),(have zz:=@t1; evZ),(have zz:=@t2; evZ),(have zz:=@t3; evZ),(have zz:=@t9; evZ),(have zz:=@t10; evZ),rfl,rfl⟩
 clear t0 t1 t2 t3 t9 t10
 rintro T _ _ ⟨t0,t1,t2,t3,t9,t10,rfl,rfl⟩
 obtain ⟨m,rfl⟩:∃ m,i=m + 1:=⟨i - 1,by omega⟩
 have tj:((m + 1:Nat):Int) - 1=(m:Int):=by omega
 rw [Nat.add_sub_cancel] at hless
 obtain ⟨M1,hl1,lm1,lm2⟩:=ca (f:=f) (M:=M0) (i:=m + 1) (j:=m) (by omega) (by omega)
 have lm3:=lm2
 simp only [br,List.length_cons,List.length_nil,Nat.zero_add] at lm1 lm2
 refine bw (fun T H'' nx''=>T 0=.msl b n 1 0 n∧T 1=.int .i64 a∧T 2=.int .i64 e∧T 3=.func g caps∧T 9=.int .i64 (m + 1:Nat)∧T 10=.int .i64 (jj:Nat)∧H''=aq H b ((swp M0 (m + 1) m).map f)∧nx=nx'') ?_ ?_
 ·(have zz:=aI @t0 (aI @t1 (aI @t2 (aI @t3 (aI @t9 (aI @t10 (aI @Int.toNat_natCast (aI hc.cells (aI hc.one (aI @tj (aI @lm1 @lm2)))))))))); repeat' (first|apply a_n|refine zO ?_|refine vZ ?_|refine stZ ?_|fail)) <;> (try clear zz)
  exact ⟨(have zz:=@t0; evZ),(have zz:=@t1; evZ),(have zz:=@t2; evZ),(have zz:=@t3; evZ),(have zz:=@t9; evZ),(have zz:=@t10; evZ),by rw [aN,aN,lm3],rfl⟩
 clear t0 t1 t2 t3 t9 t10
 have hp1:PermR a e L (swp M0 (m + 1) m):=hp0.trans (PermR.swap (by omega) (by omega) (by omega))
 have hal:=(d3.start hs).step hc.ord (by omega) (Nat.le_refl _) (by omega) hless
 clear hs hless lm1 lm2 lm3 hl1 M1
 generalize swp M0 (m + 1) m=M2 at hp1 hal
 clear hp0 hGM hl
 rintro T _ _ ⟨t0,t1,t2,t3,t9,t10,rfl,rfl⟩
 refine bw (fun T H'' nx''=>∃ M:List α,PermR a e L M∧a5 K a (m + 1) M∧T 0=.msl b n 1 0 n∧T 1=.int .i64 a∧T 2=.int .i64 e∧T 3=.func g caps∧T 9=.int .i64 (m + 1:Nat)∧T 10=.int .i64 (jj:Nat)∧H''=aq H b ((M).map f)∧nx=nx'') ?_ ?_
 ·by_cases h2a:m=a
  ·subst h2a
   have td:decide ((2:Int) ≤ ((m + 1:Nat):Int) - (m:Int))=false:=decide_eq_false (by omega)
   (have zz:=aI @t0 (aI @t1 (aI @t2 (aI @t3 (aI @t9 (aI @t10 @td))))); repeat' (first|refine zW ?_|apply a_n|refine zO ?_|refine vZ ?_|refine cFZ ?_|fail)) <;> (try clear zz)
   exact ⟨M2,hp1,(hal.done hc.ord (.inl rfl)).mono (Nat.le_refl _) (by omega),(have zz:=@t0; evZ),(have zz:=@t1; evZ),(have zz:=@t2; evZ),(have zz:=@t3; evZ),(have zz:=@t9; evZ),(have zz:=@t10; evZ),rfl,rfl⟩
  have td:decide ((2:Int) ≤ ((m + 1:Nat):Int) - (a:Int))=true:=decide_eq_true (by omega)
  (have zz:=aI @t0 (aI @t1 (aI @t2 (aI @t3 (aI @t9 (aI @t10 (aI @td @tj)))))); repeat' (first|refine zW ?_|apply a_n|refine zO ?_|refine vZ ?_|refine cTZ ?_|fail)) <;> (try clear zz)
  refine ba (X:=Nat × List α) (fun x=>[(0,.msl b n 1 0 n),(1,.int .i64 a),(2,.int .i64 e),(3,.func g caps),(9,.int .i64 (m + 1:Nat)),(10,.int .i64 (jj:Nat)),(11,.int .i64 (x.1:Nat))]) (fun x H' nxx=>a ≤ x.1∧x.1 ≤ m∧H'=aq H b (x.2.map f)∧nx=nxx∧PermR a e L x.2∧d3 K a (m + 1) x.1 x.2) (fun x=>x.1) (m,M2) ⟨by dsimp only; omega,Nat.le_refl _,rfl,rfl,hp1,hal⟩ (have zz:=aI @t0 (aI @t1 (aI @t2 (aI @t3 (aI @t9 @t10)))); agZ) ?_
  clear t0 t1 t2 t3 t9 t10 hp1 hal M2
  rintro ⟨j,M⟩ H' nxx ⟨a1,a2,rfl,rfl,hp,hal⟩
  dsimp only at *
  have hl:M.length=n:=by rw [hp.len,hn]
  have hGM:=hp.mem hG
  rcases Nat.eq_zero_or_pos j with ej | ej
  ·subst ej
   (have zz:=and_self; repeat' (first|refine zW ?_|apply a_n|apply a_x|refine zO ?_|refine vZ ?_|(refine zGZ ?_ ?_ <;> (intro _hg; try (exfalso; omega)))|fail)) <;> (try clear zz)
   exact ⟨M,hp,(hal.done hc.ord (.inl (by omega))).mono (Nat.le_refl _) (by omega),rfl,rfl,rfl,rfl,rfl,rfl,rfl,rfl⟩
  obtain ⟨k,rfl⟩:∃ k,j=k + 1:=⟨j - 1,by omega⟩
  have tk:((k + 1:Nat):Int) - 1=(k:Int):=by omega
  have lc:=hc.run (M.getD (k + 1) default) (M.getD k default) (hGM _ (aJ (by omega))) (hGM _ (aJ (by omega)))
  have e1:=hc.dat (M.getD (k + 1) default)
  have e2:=hc.dat (M.getD k default)
  have hlw:=hlow.perm hp (by omega) (by omega)
  generalize hKK:K (M.getD (k + 1) default) (M.getD k default)=kk at lc
  by_cases hlt:kk < 0
  ·have hak:k + 1 ≠ a:=fun h=>by
     subst h
     have:=hlw (k + 1) (by omega) (Nat.le_refl _) (by omega)
     rw [Nat.add_sub_cancel,hKK] at this
     exact this hlt
   obtain ⟨M1,hl1,lm1,lm2⟩:=ca (f:=f) (M:=M) (i:=k + 1) (j:=k) (by omega) (by omega)
   have lm3:=lm2
   simp only [br,List.length_cons,List.length_nil,Nat.zero_add] at lm1 lm2
   (have zz:=aI @tk (aI @Int.toNat_natCast (aI hc.cells (aI hc.one (aI @lm1 @lm2)))); repeat' (first|refine zW ?_|refine zM ?_|apply a_n|refine zO ?_|refine vZ ?_|refine cZ ?_ (hp:=lc) (hs:=by (first | refine ac ?_ rfl | apply ag); (repeat' (first | exact aa | apply an | apply ai | exact e1 | exact e2 | exact aU dcap)); first | done | fail)|refine stZ ?_|(refine zGZ ?_ ?_ <;> (intro _hg; try (exfalso; omega)))|fail)) <;> (try clear zz)
   exact ⟨(k,swp M (k + 1) k),by dsimp only; omega,⟨by dsimp only; omega,by dsimp only; omega,by dsimp only; rw [aN,aN,lm3],rfl,hp.trans (PermR.swap (by omega) (by omega) (by omega)),hal.step hc.ord (by omega) (by omega) (by omega) (by rw [hKK]; exact hlt)⟩,(have zz:=@tk; agZ)⟩
  ·have hd:k + 1=a ∨ (a < k + 1∧¬ K (M.getD (k + 1) default) (M.getD (k + 1 - 1) default) < 0):=by
     by_cases h:k + 1=a
     ·exact .inl h
     ·exact .inr ⟨by omega,by rw [Nat.add_sub_cancel,hKK]; exact hlt⟩
   (have zz:=aI @tk (aI @Int.toNat_natCast (aI hc.cells hc.one)); repeat' (first|refine zW ?_|refine zM ?_|apply a_n|apply a_x|refine zO ?_|refine vZ ?_|refine cZ ?_ (hp:=lc) (hs:=by (first | refine ac ?_ rfl | apply ag); (repeat' (first | exact aa | apply an | apply ai | exact e1 | exact e2 | exact aU dcap)); first | done | fail)|(refine zGZ ?_ ?_ <;> (intro _hg; try (exfalso; omega)))|fail)) <;> (try clear zz)
   exact ⟨M,hp,(hal.done hc.ord hd).mono (Nat.le_refl _) (by omega),rfl,rfl,rfl,rfl,rfl,rfl,rfl,rfl⟩
 clear t0 t1 t2 t3 t9 t10 hp1 hal M2
 rintro T _ _ ⟨M2,hp1,hs,t0,t1,t2,t3,t9,t10,rfl,rfl⟩
 by_cases h2a:m + 1 + 2 ≤ e
 rotate_left
 ·have td:decide ((2:Int) ≤ (e:Int) - ((m + 1:Nat):Int))=false:=decide_eq_false (by omega)
  (have zz:=aI @t0 (aI @t1 (aI @t2 (aI @t3 (aI @t9 (aI @t10 @td))))); repeat' (first|refine zW ?_|apply a_n|refine zO ?_|refine vZ ?_|refine cFZ ?_|fail)) <;> (try clear zz)
  exact ⟨m + 1,M2,h2,h3,hp1,hs,(have zz:=@t0; evZ),(have zz:=@t1; evZ),(have zz:=@t2; evZ),(have zz:=@t3; evZ),(have zz:=@t9; evZ),(have zz:=@t10; evZ),rfl,rfl⟩
 have td:decide ((2:Int) ≤ (e:Int) - ((m + 1:Nat):Int))=true:=decide_eq_true (by omega)
 have tj2:((m + 1:Nat):Int) + 1=((m + 1 + 1:Nat):Int):=by omega
 (have zz:=aI @t0 (aI @t1 (aI @t2 (aI @t3 (aI @t9 (aI @t10 (aI @td @tj2)))))); repeat' (first|refine zW ?_|apply a_n|refine zO ?_|refine vZ ?_|refine cTZ ?_|fail)) <;> (try clear zz)
 refine ba (X:=Nat × List α) (fun x=>[(0,.msl b n 1 0 n),(1,.int .i64 a),(2,.int .i64 e),(3,.func g caps),(9,.int .i64 (m + 1:Nat)),(10,.int .i64 (jj:Nat)),(12,.int .i64 (x.1:Nat))]) (fun x H' nxx=>m + 1 + 1 ≤ x.1∧x.1 ≤ e∧H'=aq H b (x.2.map f)∧nx=nxx∧PermR a e L x.2∧a5 K a (m + 1) x.2) (fun x=>e - x.1) (m + 1 + 1,M2) ⟨Nat.le_refl _,by dsimp only; omega,rfl,rfl,hp1,hs⟩ (have zz:=aI @t0 (aI @t1 (aI @t2 (aI @t3 (aI @t9 @t10)))); agZ) ?_
 clear t0 t1 t2 t3 t9 t10 hp1 hs M2
 rintro ⟨j,M⟩ H' nxx ⟨a1,a2,rfl,rfl,hp,hs⟩
 dsimp only at *
 have hl:M.length=n:=by rw [hp.len,hn]
 have hGM:=hp.mem hG
 by_cases hje:j=e
 ·subst hje
  (have zz:=and_self; repeat' (first|refine zW ?_|apply a_n|apply a_x|refine zO ?_|refine vZ ?_|(refine zGZ ?_ ?_ <;> (intro _hg; try (exfalso; omega)))|fail)) <;> (try clear zz)
  exact ⟨m + 1,M,h2,h3,hp,hs,rfl,rfl,rfl,rfl,rfl,rfl,rfl,rfl⟩
 obtain ⟨k,rfl⟩:∃ k,j=k + 1:=⟨j - 1,by omega⟩
 have tk:((k + 1:Nat):Int) - 1=(k:Int):=by omega
 have lc:=hc.run (M.getD (k + 1) default) (M.getD k default) (hGM _ (aJ (by omega))) (hGM _ (aJ (by omega)))
 have e1:=hc.dat (M.getD (k + 1) default)
 have e2:=hc.dat (M.getD k default)
 generalize hKK:K (M.getD (k + 1) default) (M.getD k default)=kk at lc
 by_cases hlt:kk < 0
 ·obtain ⟨M1,hl1,lm1,lm2⟩:=ca (f:=f) (M:=M) (i:=k + 1) (j:=k) (by omega) (by omega)
  have lm3:=lm2
  simp only [br,List.length_cons,List.length_nil,Nat.zero_add] at lm1 lm2
  (have zz:=aI @tk (aI @Int.toNat_natCast (aI hc.cells (aI hc.one (aI @lm1 @lm2)))); repeat' (first|refine zW ?_|refine zM ?_|apply a_n|refine zO ?_|refine vZ ?_|refine cZ ?_ (hp:=lc) (hs:=by (first | refine ac ?_ rfl | apply ag); (repeat' (first | exact aa | apply an | apply ai | exact e1 | exact e2 | exact aU dcap)); first | done | fail)|refine stZ ?_|(refine zGZ ?_ ?_ <;> (intro _hg; try (exfalso; omega)))|fail)) <;> (try clear zz)
  exact ⟨(k + 1 + 1,swp M (k + 1) k),by dsimp only; omega,⟨by dsimp only; omega,by dsimp only; omega,by dsimp only; rw [aN,aN,lm3],rfl,hp.trans (PermR.swap (by omega) (by omega) (by omega)),hs.out (e:=e) (PermR.swap (by omega) (by omega) (by omega))⟩,ag0⟩
 ·(have zz:=aI @tk (aI @Int.toNat_natCast (aI hc.cells hc.one)); repeat' (first|refine zW ?_|refine zM ?_|apply a_n|apply a_x|refine zO ?_|refine vZ ?_|refine cZ ?_ (hp:=lc) (hs:=by (first | refine ac ?_ rfl | apply ag); (repeat' (first | exact aa | apply an | apply ai | exact e1 | exact e2 | exact aU dcap)); first | done | fail)|(refine zGZ ?_ ?_ <;> (intro _hg; try (exfalso; omega)))|fail)) <;> (try clear zz)
  exact ⟨m + 1,M,h2,h3,hp,hs,rfl,rfl,rfl,rfl,rfl,rfl,rfl,rfl⟩
end
end Go.Proofs.Ytfcenbapjhecfaa