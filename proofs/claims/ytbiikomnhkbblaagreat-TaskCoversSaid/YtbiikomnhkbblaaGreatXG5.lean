/- Texts of this claim, one after the other: Code, U1, U2v, U3v, U4v, U5v, U6v, U7v, U8v, U9v, U10v, U11v, U12v, U13v, U2o, U3o, U4o, U5o, U6o. -/
import Derived.Test.YtbiikomnhkbblaaGreatProg
import Derived.Test.YtbiikomnhkbblaaGreatXG3
import Derived.KernelRfl
import Derived.Test.YtbiikomnhkbblaaGreatXG4

set_option linter.unusedSimpArgs false
set_option linter.unusedVariables false

/- Printed by a program: the functions' code without types. -/
namespace Go.Proofs.YtbiikomnhkbblaaGreat
open Go Go.Abs Go.Abs.C2 Go.Abs.Ins Go.Abs.Opd Go.Abs.TK Go.Abs.MK

def cO (d : Nat) (i : Ins) : Op2 := Op2.mk (some d) none i
def cG (d g : Nat) (b : Bool) (i : Ins) : Op2 := Op2.mk (some d) (some (g, b)) i
def cN (k : Int) : Opd := Opd.c (AV.int IntKind.i64 k)
def cM (n : Nat) : Ins := Ins.mov (Opd.t n)
def cD (n : Nat) : Ins := Ins.ld1 (Opd.t n)
def cF (n : Nat) : Opd := Opd.c (AV.func n [])
def cB (o : BinOp) (x y : Opd) : Ins := Ins.bin o false false x y
def cFal : Opd := Opd.c (AV.bool false)
def cTru : Opd := Opd.c (AV.bool true)
theorem follows : Tryz.prog.follows .mixedOrders = true := by rfl

def b7 : F2 := (F2.mk 90 [RV.t 4] ((ops 0 [cO 2 (box (t 0)), cO 3 (box (t 1)), cO 4 (mov cFal)]).seq (((ops 0 [cO 12 (ldn 4 (t 2)), cO 13 (ldn 4 (t 3)), cO 14 (call (cF 33) [t 12, t 13]), cO 15 (un UnOp.not (t 14))]).seq (C2.cond (t 15) ((ops 0 [cO 16 (call (cF 11) []), cO 4 (cM 16)]).seq ret) skip)).seq ((ops 0 [cO 18 (ldn 4 (t 2)), cO 19 (fa 0 (t 3)), cO 20 (cD 19), cO 21 (fa 1 (t 3)), cO 22 (cD 21), cO 23 (fa 3 (t 3)), cO 24 (cD 23), cO 25 (call (cF 18) [t 18, t 20, t 22, t 24]), cO 17 (cM 25), cO 26 (ext (t 17) 0), cO 27 (ext (t 17) 1), cO 5 (cM 26), cO 6 (cM 27)]).seq (((ops 0 [cO 28 (cM 6), cO 29 (cB .neq (t 28) (cN ((0))))]).seq (C2.cond (t 29) ((ops 0 [cO 4 (mov cFal)]).seq ret) skip)).seq (((ops 0 [cO 30 (cM 5), cO 31 (un UnOp.not (t 30))]).seq (C2.cond (t 31) ((ops 0 [cO 32 (call (cF 11) []), cO 4 (cM 32)]).seq ret) skip)).seq (((ops 0 [cO 33 (fa 0 (t 2)), cO 34 (cD 33), cO 35 (mov (cN ((0))))]).seq (block 0 ((ops 0 [cO 36 (cB .lss (t 35) (t 34))]).seq ((C2.cond (t 36) skip (exit 0)).seq ((block 1 ((ops 0 [cO 37 (cM 35), cO 7 (cM 37)]).seq ((ops 0 [cO 39 (ldn 4 (t 2)), cO 40 (fa 0 (t 3)), cO 41 (cD 40), cO 42 (fa 1 (t 3)), cO 43 (cD 42), cO 44 (cM 7), cO 45 (call (cF 21) [t 39, t 41, t 43, t 44]), cO 38 (cM 45), cO 46 (ext (t 38) 0), cO 47 (ext (t 38) 1), cO 8 (cM 46), cO 9 (cM 47)]).seq (((ops 0 [cO 48 (cM 9), cO 49 (cB .neq (t 48) (cN ((0)))), cO 50 (cM 49), cG 51 50 false (fa 1 (t 3)), cG 52 50 false (cD 51), cG 53 50 false (cM 7), cG 54 50 false (cB .shr (t 52) (t 53)), cG 55 50 false (cB .and (t 54) (cN ((1)))), cG 56 50 false (cB .eql (t 55) (cN ((0)))), cG 57 50 false (cM 56), cG 58 57 true (cM 8), cG 59 57 true (fa 3 (t 3)), cG 60 57 true (cD 59), cG 61 57 true (cM 7), cG 62 57 true (ixaS 1 (t 60) (t 61)), cG 63 57 true (cD 62), cG 64 57 true (call (cF 36) [t 58, t 63]), cG 65 57 true (un UnOp.not (t 64)), cG 66 50 false (pick (t 57) (t 65) cFal), cO 67 (pick (t 50) cTru (t 66))]).seq (C2.cond (t 67) ((ops 0 [cO 4 (mov cFal)]).seq ret) skip)).seq ((mixS 1 [cO 69 (ldn 4 (t 2)), cO 70 (fa 0 (t 3)), cO 71 (cD 70), cO 72 (fa 1 (t 3)), cO 73 (cD 72), cO 74 (cM 7), cO 75 (cB .shl (cN ((1))) (t 74)), cO 76 (cB .or (t 73) (t 75)), cO 77 (fa 3 (t 3)), cO 78 (cD 77), cO 79 (call (cF 18) [t 69, t 71, t 76, t 78]), cO 68 (cM 79), cO 80 (ext (t 68) 0), cO 81 (ext (t 68) 1), cO 10 (cM 80), cO 11 (cM 81)] [(0, 0), (1, 0), (2, 0), (3, 0), (4, 0), (5, 0), (6, 0), (7, 0), (8, 0), (9, 0), (10, 2), (11, 0), (12, 0), (13, 0), (14, 0), (15, 0)]).seq ((ops 0 [cO 82 (cM 11), cO 83 (cB .neq (t 82) (cN ((0)))), cO 84 (cM 83), cG 85 84 false (cM 10), cG 86 84 false (un UnOp.not (t 85)), cO 87 (pick (t 84) cTru (t 86))]).seq (C2.cond (t 87) ((ops 0 [cO 4 (mov cFal)]).seq ret) skip))))))).seq (ops 0 [cO 88 (cB .add (t 35) (cN ((1)))), cO 35 (cM 88)])))).loop)).seq ((ops 0 [cO 89 (call (cF 11) []), cO 4 (cM 89)]).seq ret))))))))
theorem is7 : Is Tryz.prog 7 b7 := Is.mk' Tryz.func7 (by kernel_rfl)

def b9 : F2 := (F2.mk 139 [RV.t 4] ((ops 0 [cO 2 (box (t 0)), cO 3 (box (t 1)), cO 4 (mov cFal)]).seq (((ops 0 [cO 17 (ldn 4 (t 2)), cO 18 (ldn 4 (t 3)), cO 19 (call (cF 33) [t 17, t 18]), cO 20 (un UnOp.not (t 19))]).seq (C2.cond (t 20) ((ops 0 [cO 21 (call (cF 11) []), cO 4 (cM 21)]).seq ret) skip)).seq ((ops 0 [cO 23 (ldn 4 (t 2)), cO 24 (fa 0 (t 3)), cO 25 (cD 24), cO 26 (fa 1 (t 3)), cO 27 (cD 26), cO 28 (call (cF 16) [t 23, t 25, t 27]), cO 22 (cM 28), cO 29 (ext (t 22) 0), cO 30 (ext (t 22) 1), cO 5 (cM 29), cO 6 (cM 30)]).seq (((ops 0 [cO 31 (cM 6), cO 32 (cB .neq (t 31) (cN ((0)))), cO 33 (cM 32), cG 34 33 false (cM 5), cG 35 33 false (lenS (t 34)), cG 36 33 false (cB .eql (t 35) (cN ((0)))), cO 37 (pick (t 33) cTru (t 36))]).seq (C2.cond (t 37) ((ops 0 [cO 4 (mov cFal)]).seq ret) skip)).seq (((ops 0 [cO 38 (cM 5), cO 39 (lenS (t 38)), cO 40 (mov (cN ((0))))]).seq (block 0 ((ops 0 [cO 41 (cB .lss (t 40) (t 39))]).seq ((C2.cond (t 41) skip (exit 0)).seq ((block 1 ((ops 0 [cO 42 (ixaS 1 (t 38) (t 40)), cO 43 (cD 42), cO 8 (cM 43)]).seq (((ops 0 [cO 44 (cM 8), cO 45 (lenS (t 44)), cO 46 (fa 0 (t 2)), cO 47 (cD 46), cO 48 (cB .neq (t 45) (t 47))]).seq (C2.cond (t 48) ((ops 0 [cO 4 (mov cFal)]).seq ret) skip)).seq ((ops 0 [cO 49 (cM 8), cO 50 (call (cF 37) [t 49]), cO 9 (cM 50)]).seq (((ops 0 [cO 51 (cM 9), cO 52 (lenS (t 51)), cO 53 (mov (cN ((0))))]).seq (block 2 ((ops 0 [cO 54 (cB .lss (t 53) (t 52))]).seq ((C2.cond (t 54) skip (exit 2)).seq ((block 3 ((ops 0 [cO 55 (cM 53), cO 10 (cM 55)]).seq ((ops 0 [cO 56 (fa 1 (t 3)), cO 57 (cD 56), cO 58 (cM 10), cO 59 (cB .shr (t 57) (t 58)), cO 60 (cB .and (t 59) (cN ((1)))), cO 61 (cB .eql (t 60) (cN ((1))))]).seq (C2.cond (t 61) (ops 0 [cO 62 (cM 9), cO 63 (cM 10), cO 64 (fa 3 (t 3)), cO 65 (cD 64), cO 66 (cM 10), cO 67 (ixaS 1 (t 65) (t 66)), cO 68 (cD 67), cO 69 (ixaS 1 (t 62) (t 63)), Op2.mk none none (Ins.st 1 (t 69) (t 68))]) skip)))).seq (ops 0 [cO 70 (cB .add (t 53) (cN ((1)))), cO 53 (cM 70)])))).loop)).seq ((ops 0 [cO 72 (ldn 4 (t 2)), cO 73 (fa 0 (t 3)), cO 74 (cD 73), cO 75 (fa 1 (t 3)), cO 76 (cD 75), cO 77 (cM 9), cO 78 (call (cF 18) [t 72, t 74, t 76, t 77]), cO 71 (cM 78), cO 79 (ext (t 71) 0), cO 80 (ext (t 71) 1), cO 11 (cM 79), cO 12 (cM 80)]).seq ((ops 0 [cO 81 (cM 12), cO 82 (cB .neq (t 81) (cN ((0)))), cO 83 (cM 82), cG 84 83 false (cM 11), cG 85 83 false (un UnOp.not (t 84)), cO 86 (pick (t 83) cTru (t 85))]).seq (C2.cond (t 86) ((ops 0 [cO 4 (mov cFal)]).seq ret) skip)))))))).seq (ops 0 [cO 87 (cB .add (t 40) (cN ((1)))), cO 40 (cM 87)])))).loop)).seq (((ops 0 [cO 88 (fa 0 (t 2)), cO 89 (cD 88), cO 90 (mov (cN ((0))))]).seq (block 4 ((ops 0 [cO 91 (cB .lss (t 90) (t 89))]).seq ((C2.cond (t 91) skip (exit 4)).seq ((block 5 ((ops 0 [cO 92 (cM 90), cO 13 (alloc (AV.int IntKind.i64 (0))), Op2.mk none none (Ins.st 1 (t 13) (t 92))]).seq ((ops 0 [cO 94 (ldn 4 (t 2)), cO 95 (fa 0 (t 3)), cO 96 (cD 95), cO 97 (fa 1 (t 3)), cO 98 (cD 97), cO 99 (cD 13), cO 100 (call (cF 21) [t 94, t 96, t 98, t 99]), cO 93 (cM 100), cO 101 (ext (t 93) 0), cO 102 (ext (t 93) 1), cO 14 (cM 101), cO 15 (cM 102)]).seq (((ops 0 [cO 103 (cM 15), cO 104 (cB .neq (t 103) (cN ((0)))), cO 105 (cM 104), cG 106 105 false (cM 14), cG 107 105 false (lenS (t 106)), cG 108 105 false (cB .eql (t 107) (cN ((0)))), cO 109 (pick (t 105) cTru (t 108)), cO 110 (cM 109), cG 111 110 false (cM 14), cG 112 110 false (call (cF 38) [t 111]), cG 113 110 false (un UnOp.not (t 112)), cO 114 (pick (t 110) cTru (t 113)), cO 115 (cM 114), cG 116 115 false (cM 14), cG 117 115 false (call (cF 37) [t 116]), cG 118 115 false (call (cF 39) [t 117]), cG 119 115 false (lenS (t 118)), cG 120 115 false (cM 14), cG 121 115 false (lenS (t 120)), cG 122 115 false (cB .neq (t 119) (t 121)), cO 123 (pick (t 115) cTru (t 122))]).seq (C2.cond (t 123) ((ops 0 [cO 4 (mov cFal)]).seq ret) skip)).seq ((ops 0 [cO 124 (fa 2 (t 2)), cO 125 (cD 124), cO 126 (mov (cN ((0))))]).seq (block 6 ((ops 0 [cO 127 (cB .lss (t 126) (t 125))]).seq ((C2.cond (t 127) skip (exit 6)).seq ((block 7 ((ops 0 [cO 128 (cM 126), cO 16 (alloc (AV.int IntKind.i64 (0))), Op2.mk none none (Ins.st 1 (t 16) (t 128))]).seq ((ops 0 [cO 129 (cM 14), cO 130 (cD 16), cO 131 (call (cF 36) [t 129, t 130]), cO 132 (cM 5), cO 133 (mkfn 41 [t 13, t 16]), cO 134 (call (cF 40) [t 132, t 133]), cO 135 (bin BinOp.neq true false (t 131) (t 134))]).seq (C2.cond (t 135) ((ops 0 [cO 4 (mov cFal)]).seq ret) skip)))).seq (ops 0 [cO 136 (cB .add (t 126) (cN ((1)))), cO 126 (cM 136)])))).loop)))))).seq (ops 0 [cO 137 (cB .add (t 90) (cN ((1)))), cO 90 (cM 137)])))).loop)).seq ((ops 0 [cO 138 (call (cF 11) []), cO 4 (cM 138)]).seq ret))))))))
theorem is9 : Is Tryz.prog 9 b9 := Is.mk' Tryz.func9 (by kernel_rfl)

def b10 : F2 := (F2.mk 37 [RV.t 2] ((ops 0 [cO 1 (box (t 0)), cO 2 (mov cFal)]).seq (((ops 0 [cO 5 (fa 3 (t 1)), cO 6 (cD 5), cO 7 (lenS (t 6)), cO 8 (cB .gtr (t 7) (cN ((30))))]).seq (C2.cond (t 8) ((ops 0 [cO 2 (mov cFal)]).seq ret) skip)).seq (((ops 0 [cO 3 (mov (cN ((0))))]).seq (block 0 (((ops 0 [cO 9 (cM 3), cO 10 (fa 3 (t 1)), cO 11 (cD 10), cO 12 (lenS (t 11)), cO 13 (cB .lss (t 9) (t 12))]).seq (C2.cond (t 13) skip (exit 0))).seq ((block 1 ((ops 0 [cO 16 (fa 3 (t 1)), cO 17 (cD 16), cO 18 (cM 3), cO 19 (ixaS 3 (t 17) (t 18)), cO 20 (ldn 3 (t 19)), cO 4 (alloc (AV.agg [AV.esl, AV.esl, AV.esl])), Op2.mk none none (Ins.st 3 (t 4) (t 20))]).seq ((ops 0 [cO 21 (fa 0 (t 4)), cO 22 (cD 21), cO 23 (lenS (t 22)), cO 24 (cB .gtr (t 23) (cN ((10)))), cO 25 (cM 24), cG 26 25 false (fa 1 (t 4)), cG 27 25 false (cD 26), cG 28 25 false (call (cF 42) [t 27, c (AV.int IntKind.i64 (30))]), cG 29 25 false (un UnOp.not (t 28)), cO 30 (pick (t 25) cTru (t 29)), cO 31 (cM 30), cG 32 31 false (fa 2 (t 4)), cG 33 31 false (cD 32), cG 34 31 false (call (cF 42) [t 33, c (AV.int IntKind.i64 (30))]), cG 35 31 false (un UnOp.not (t 34)), cO 36 (pick (t 31) cTru (t 35))]).seq (C2.cond (t 36) ((ops 0 [cO 2 (mov cFal)]).seq ret) skip)))).seq (ops 0 [cO 14 (cM 3), cO 15 (cB .add (t 14) (cN ((1)))), cO 3 (cM 15)]))).loop)).seq ((ops 0 [cO 2 (mov cTru)]).seq ret)))))
theorem is10 : Is Tryz.prog 10 b10 := Is.mk' Tryz.func10 (by kernel_rfl)

def b11 : F2 := (F2.mk 146 [RV.t 0] ((ops 0 [cO 0 (mov cFal)]).seq ((ops 0 [cO 19 (call (cF 43) []), cO 1 (alloc (AV.agg [AV.int IntKind.i64 (0), AV.int IntKind.i64 (0), AV.int IntKind.i64 (0), AV.esl])), Op2.mk none none (Ins.st 4 (t 1) (t 19))]).seq ((ops 0 [cO 21 (ldn 4 (t 1)), cO 22 (call (cF 16) [t 21, c (AV.int IntKind.i64 (1)), c (AV.int IntKind.i64 (0))]), cO 20 (cM 22), cO 23 (ext (t 20) 0), cO 24 (ext (t 20) 1), cO 2 (cM 23), cO 3 (cM 24)]).seq ((ops 0 [cO 26 (ldn 4 (t 1)), cO 27 (call (cF 21) [t 26, c (AV.int IntKind.i64 (1)), c (AV.int IntKind.i64 (0)), c (AV.int IntKind.i64 (0))]), cO 25 (cM 27), cO 28 (ext (t 25) 0), cO 29 (ext (t 25) 1), cO 4 (cM 28), cO 5 (cM 29)]).seq ((ops 0 [cO 31 (ldn 4 (t 1)), cO 32 (call (cF 21) [t 31, c (AV.int IntKind.i64 (1)), c (AV.int IntKind.i64 (2)), c (AV.int IntKind.i64 (0))]), cO 30 (cM 32), cO 33 (ext (t 30) 0), cO 34 (ext (t 30) 1), cO 6 (cM 33), cO 7 (cM 34)]).seq ((ops 0 [cO 36 (ldn 4 (t 1)), cO 37 (bldS 1 2 [AV.int IntKind.i64 (0)] [(0, 1, c (AV.int IntKind.i64 (0))), (1, 1, c (AV.int IntKind.i64 (-1)))]), cO 38 (call (cF 18) [t 36, c (AV.int IntKind.i64 (1)), c (AV.int IntKind.i64 (2)), t 37]), cO 35 (cM 38), cO 39 (ext (t 35) 0), cO 40 (ext (t 35) 1), cO 8 (cM 39), cO 9 (cM 40)]).seq ((ops 0 [cO 42 (ldn 4 (t 1)), cO 43 (call (cF 29) [t 42]), cO 41 (cM 43), cO 44 (ext (t 41) 0), cO 45 (ext (t 41) 1), cO 10 (cM 44), cO 11 (cM 45)]).seq ((ops 0 [cO 47 (ldn 4 (t 1)), cO 48 (call (cF 31) [t 47]), cO 46 (cM 48), cO 49 (ext (t 46) 0), cO 50 (ext (t 46) 1), cO 51 (ext (t 46) 2), cO 12 (cM 49), cO 13 (cM 50), cO 14 (cM 51)]).seq (((ops 0 [cO 52 (cM 3), cO 53 (cM 5), cO 54 (cB .add (t 52) (t 53)), cO 55 (cM 7), cO 56 (cB .add (t 54) (t 55)), cO 57 (cM 9), cO 58 (cB .add (t 56) (t 57)), cO 59 (cM 11), cO 60 (cB .add (t 58) (t 59)), cO 61 (cM 14), cO 62 (cB .add (t 60) (t 61)), cO 63 (cB .neq (t 62) (cN ((0)))), cO 64 (cM 63), cG 65 64 false (cM 2), cG 66 64 false (bldS 1 2 [AV.int IntKind.i64 (0)] [(0, 1, c (AV.int IntKind.i64 (1))), (1, 1, c (AV.int IntKind.i64 (1)))]), cG 67 64 false (bldS 1 1 [AV.esl] [(0, 1, t 66)]), cG 68 64 false (call (cF 20) [t 65, t 67]), cG 69 64 false (un UnOp.not (t 68)), cO 70 (pick (t 64) cTru (t 69)), cO 71 (cM 70), cG 72 71 false (cM 4), cG 73 71 false (bldS 1 1 [AV.int IntKind.i64 (0)] [(0, 1, c (AV.int IntKind.i64 (1)))]), cG 74 71 false (call (cF 23) [t 72, t 73]), cG 75 71 false (un UnOp.not (t 74)), cO 76 (pick (t 71) cTru (t 75)), cO 77 (cM 76), cG 78 77 false (cM 6), cG 79 77 false (bldS 1 2 [AV.int IntKind.i64 (0)] [(0, 1, c (AV.int IntKind.i64 (0))), (1, 1, c (AV.int IntKind.i64 (1)))]), cG 80 77 false (call (cF 23) [t 78, t 79]), cG 81 77 false (un UnOp.not (t 80)), cO 82 (pick (t 77) cTru (t 81)), cO 83 (cM 82), cG 84 83 false (cM 8), cG 85 83 false (un UnOp.not (t 84)), cO 86 (pick (t 83) cTru (t 85)), cO 87 (cM 86), cG 88 87 false (cM 10), cG 89 87 false (un UnOp.not (t 88)), cO 90 (pick (t 87) cTru (t 89)), cO 91 (cM 90), cG 92 91 false (cM 12), cG 93 91 false (cB .neq (t 92) (cN ((3)))), cO 94 (pick (t 91) cTru (t 93)), cO 95 (cM 94), cG 96 95 false (cM 13), cG 97 95 false (cB .neq (t 96) (cN ((4)))), cO 98 (pick (t 95) cTru (t 97))]).seq (C2.cond (t 98) ((ops 0 [cO 0 (mov cFal)]).seq ret) skip)).seq ((ops 0 [cO 100 (ldn 4 (t 1)), cO 101 (bldS 1 2 [AV.int IntKind.i64 (0)] [(0, 1, c (AV.int IntKind.i64 (1))), (1, 1, c (AV.int IntKind.i64 (0)))]), cO 102 (call (cF 26) [t 100, t 101]), cO 99 (cM 102), cO 103 (ext (t 99) 0), cO 104 (ext (t 99) 1), cO 15 (alloc (AV.agg [AV.int IntKind.i64 (0), AV.int IntKind.i64 (0), AV.int IntKind.i64 (0), AV.esl])), Op2.mk none none (Ins.st 4 (t 15) (t 103)), cO 3 (cM 104)]).seq ((ops 0 [cO 106 (ldn 4 (t 1)), cO 107 (bldS 1 2 [AV.int IntKind.i64 (0)] [(0, 1, c (AV.int IntKind.i64 (0))), (1, 1, c (AV.int IntKind.i64 (2)))]), cO 108 (call (cF 24) [t 106, t 107]), cO 105 (cM 108), cO 109 (ext (t 105) 0), cO 110 (ext (t 105) 1), cO 16 (alloc (AV.agg [AV.int IntKind.i64 (0), AV.int IntKind.i64 (0), AV.int IntKind.i64 (0), AV.esl])), Op2.mk none none (Ins.st 4 (t 16) (t 109)), cO 5 (cM 110)]).seq ((ops 0 [cO 112 (ldn 4 (t 16)), cO 113 (bldS 1 2 [AV.int IntKind.i64 (0)] [(0, 1, c (AV.int IntKind.i64 (0))), (1, 1, c (AV.int IntKind.i64 (1)))]), cO 114 (call (cF 12) [t 112, t 113]), cO 111 (cM 114), cO 115 (ext (t 111) 0), cO 116 (ext (t 111) 1), cO 17 (cM 115), cO 18 (cM 116)]).seq ((ops 0 [cO 117 (cM 3), cO 118 (cM 5), cO 119 (cB .add (t 117) (t 118)), cO 120 (cB .eql (t 119) (cN ((0)))), cO 121 (cM 120), cG 122 121 true (fa 3 (t 15)), cG 123 121 true (cD 122), cG 124 121 true (lenS (t 123)), cG 125 121 true (cB .eql (t 124) (cN ((3)))), cO 126 (pick (t 121) (t 125) cFal), cO 127 (cM 126), cG 128 127 true (fa 3 (t 15)), cG 129 127 true (cD 128), cG 130 127 true (ixaS 3 (t 129) (cN ((1)))), cG 131 127 true (fa 0 (t 130)), cG 132 127 true (cD 131), cG 133 127 true (bldS 1 2 [AV.int IntKind.i64 (0)] [(0, 1, c (AV.int IntKind.i64 (1))), (1, 1, c (AV.int IntKind.i64 (0)))]), cG 134 127 true (call (cF 23) [t 132, t 133]), cO 135 (pick (t 127) (t 134) cFal), cO 136 (cM 135), cG 137 136 true (fa 3 (t 16)), cG 138 136 true (cD 137), cG 139 136 true (lenS (t 138)), cG 140 136 true (cB .eql (t 139) (cN ((2)))), cO 141 (pick (t 136) (t 140) cFal), cO 142 (cM 141), cG 143 142 true (cM 18), cG 144 142 true (cB .eql (t 143) (cN ((6)))), cO 145 (pick (t 142) (t 144) cFal), cO 0 (cM 145)]).seq ret))))))))))))))
theorem is11 : Is Tryz.prog 11 b11 := Is.mk' Tryz.func11 (by kernel_rfl)

def b12 : F2 := (F2.mk 24 [RV.t 4, RV.t 5] ((ops 0 [cO 2 (box (t 0)), cO 4 (mov (cN ((0)))), cO 5 (mov (cN ((0))))]).seq (((ops 0 [cO 9 (ldn 4 (t 2)), cO 10 (call (cF 14) [t 9]), cO 6 (cM 10)]).seq ((ops 0 [cO 11 (cM 6), cO 12 (cB .neq (t 11) (cN ((0))))]).seq (C2.cond (t 12) ((ops 0 [cO 13 (cM 6), cO 4 (mov (cN ((0)))), cO 5 (cM 13)]).seq ret) skip))).seq ((ops 0 [cO 15 (fa 3 (t 2)), cO 16 (cD 15), cO 17 (cM 1), cO 18 (call (cF 44) [t 16, t 17, c (AV.func 45 [])]), cO 14 (cM 18), cO 19 (ext (t 14) 0), cO 20 (ext (t 14) 1), cO 7 (cM 19), cO 8 (cM 20)]).seq (((ops 0 [cO 21 (cM 8), cO 22 (un UnOp.not (t 21))]).seq (C2.cond (t 22) ((ops 0 [cO 4 (mov (cN ((0)))), cO 5 (mov (cN ((6))))]).seq ret) skip)).seq ((ops 0 [cO 23 (cM 7), cO 4 (cM 23), cO 5 (mov (cN ((0))))]).seq ret))))))
theorem is12 : Is Tryz.prog 12 b12 := Is.mk' Tryz.func12 (by kernel_rfl)

def b14 : F2 := (F2.mk 83 [RV.t 2] ((ops 0 [cO 1 (box (t 0)), cO 2 (mov (cN ((0))))]).seq ((block 0 (((ops 0 [cO 8 (fa 0 (t 1)), cO 9 (cD 8), cO 10 (cB .lss (t 9) (cN ((1)))), cO 11 (cM 10), cG 12 11 false (fa 0 (t 1)), cG 13 11 false (cD 12), cG 14 11 false (cB .gtr (t 13) (cN ((5)))), cO 15 (pick (t 11) cTru (t 14)), cO 7 (cM 15)]).seq (C2.cond (t 7) skip ((ops 0 [cO 16 (fa 1 (t 1)), cO 17 (cD 16), cO 18 (cB .lss (t 17) (cN ((1)))), cO 19 (cM 18), cG 20 19 false (fa 1 (t 1)), cG 21 19 false (cD 20), cG 22 19 false (cB .gtr (t 21) (cN ((8)))), cO 23 (pick (t 19) cTru (t 22)), cO 7 (cM 23)]).seq (C2.cond (t 7) skip (ops 0 [cO 24 (fa 2 (t 1)), cO 25 (cD 24), cO 26 (cB .lss (t 25) (cN ((1)))), cO 27 (cM 26), cG 28 27 false (fa 2 (t 1)), cG 29 27 false (cD 28), cG 30 27 false (cB .gtr (t 29) (cN ((8)))), cO 31 (pick (t 27) cTru (t 30)), cO 7 (cM 31)]))))).seq (C2.cond (t 7) ((ops 0 [cO 2 (mov (cN ((2))))]).seq ret) ((ops 0 [cO 33 (fa 3 (t 1)), cO 34 (cD 33), cO 35 (lenS (t 34)), cO 36 (cB .lss (t 35) (cN ((1)))), cO 37 (cM 36), cG 38 37 false (fa 3 (t 1)), cG 39 37 false (cD 38), cG 40 37 false (lenS (t 39)), cG 41 37 false (cB .gtr (t 40) (cN ((1024)))), cO 42 (pick (t 37) cTru (t 41)), cO 32 (cM 42)]).seq (C2.cond (t 32) ((ops 0 [cO 2 (mov (cN ((5))))]).seq ret) skip))))).seq (((ops 0 [cO 43 (fa 3 (t 1)), cO 44 (cD 43), cO 45 (lenS (t 44)), cO 46 (mov (cN ((0))))]).seq (block 1 ((ops 0 [cO 47 (cB .lss (t 46) (t 45))]).seq ((C2.cond (t 47) skip (exit 1)).seq ((block 2 ((ops 0 [cO 48 (cM 46), cO 49 (ixaS 3 (t 44) (t 46)), cO 50 (ldn 3 (t 49)), cO 4 (alloc (AV.agg [AV.esl, AV.esl, AV.esl])), cO 3 (cM 48), Op2.mk none none (Ins.st 3 (t 4) (t 50))]).seq (((ops 0 [cO 51 (fa 0 (t 4)), cO 52 (cD 51), cO 53 (fa 0 (t 1)), cO 54 (cD 53), cO 55 (fa 1 (t 1)), cO 56 (cD 55), cO 57 (call (cF 48) [t 52, t 54, t 56]), cO 5 (cM 57)]).seq ((ops 0 [cO 58 (cM 5), cO 59 (cB .neq (t 58) (cN ((0))))]).seq (C2.cond (t 59) ((ops 0 [cO 60 (cM 5), cO 2 (cM 60)]).seq ret) skip))).seq (((mixS 1 [cO 61 (cM 3), cO 62 (cB .gtr (t 61) (cN ((0)))), cO 63 (cM 62), cG 64 63 true (fa 3 (t 1)), cG 65 63 true (cD 64), cG 66 63 true (cM 3), cG 67 63 true (cB .sub (t 66) (cN ((1)))), cG 68 63 true (ixaS 3 (t 65) (t 67)), cG 69 63 true (fa 0 (t 68)), cG 70 63 true (cD 69), cG 71 63 true (fa 0 (t 4)), cG 72 63 true (cD 71), cG 73 63 true (call (cF 46) [t 70, t 72]), cG 74 63 true (cB .geq (t 73) (cN ((0)))), cO 75 (pick (t 63) (t 74) cFal)] [(0, 0), (1, 0), (2, 0), (3, 0), (4, 0), (5, 0), (6, 0), (7, 0), (8, 0), (9, 0), (10, 0), (11, 0), (12, 2), (13, 0), (14, 0)]).seq (C2.cond (t 75) ((ops 0 [cO 2 (mov (cN ((14))))]).seq ret) skip)).seq ((ops 0 [cO 76 (ldn 4 (t 1)), cO 77 (ldn 3 (t 4)), cO 78 (call (cF 49) [t 76, t 77]), cO 6 (cM 78)]).seq ((ops 0 [cO 79 (cM 6), cO 80 (cB .neq (t 79) (cN ((0))))]).seq (C2.cond (t 80) ((ops 0 [cO 81 (cM 6), cO 2 (cM 81)]).seq ret) skip))))))).seq (ops 0 [cO 82 (cB .add (t 46) (cN ((1)))), cO 46 (cM 82)])))).loop)).seq ((ops 0 [cO 2 (mov (cN ((0))))]).seq ret)))))
theorem is14 : Is Tryz.prog 14 b14 := Is.mk' Tryz.func14 (by kernel_rfl)

def b15 : F2 := (F2.mk 56 [RV.t 2] ((ops 0 [cO 1 (box (t 0)), cO 2 (mov (cN ((0))))]).seq (((ops 0 [cO 5 (fa 0 (t 1)), cO 6 (cD 5), cO 7 (cB .lss (t 6) (cN ((1)))), cO 8 (cM 7), cG 9 8 false (fa 0 (t 1)), cG 10 8 false (cD 9), cG 11 8 false (cB .gtr (t 10) (cN ((5)))), cO 12 (pick (t 8) cTru (t 11)), cO 13 (cM 12), cG 14 13 false (fa 1 (t 1)), cG 15 13 false (cD 14), cG 16 13 false (cB .lss (t 15) (cN ((1)))), cO 17 (pick (t 13) cTru (t 16)), cO 18 (cM 17), cG 19 18 false (fa 1 (t 1)), cG 20 18 false (cD 19), cG 21 18 false (cB .gtr (t 20) (cN ((8)))), cO 22 (pick (t 18) cTru (t 21)), cO 23 (cM 22), cG 24 23 false (fa 2 (t 1)), cG 25 23 false (cD 24), cG 26 23 false (cB .lss (t 25) (cN ((1)))), cO 27 (pick (t 23) cTru (t 26)), cO 28 (cM 27), cG 29 28 false (fa 2 (t 1)), cG 30 28 false (cD 29), cG 31 28 false (cB .gtr (t 30) (cN ((8)))), cO 32 (pick (t 28) cTru (t 31))]).seq (C2.cond (t 32) ((ops 0 [cO 2 (mov (cN ((2))))]).seq ret) skip)).seq (((ops 0 [cO 33 (fa 3 (t 1)), cO 34 (cD 33), cO 35 (lenS (t 34)), cO 36 (cB .lss (t 35) (cN ((1)))), cO 37 (cM 36), cG 38 37 false (fa 3 (t 1)), cG 39 37 false (cD 38), cG 40 37 false (lenS (t 39)), cG 41 37 false (cB .gtr (t 40) (cN ((1024)))), cO 42 (pick (t 37) cTru (t 41))]).seq (C2.cond (t 42) ((ops 0 [cO 2 (mov (cN ((5))))]).seq ret) skip)).seq (((ops 0 [cO 3 (mov (cN ((0))))]).seq (block 0 (((ops 0 [cO 43 (cM 3), cO 44 (fa 3 (t 1)), cO 45 (cD 44), cO 46 (lenS (t 45)), cO 47 (cB .lss (t 43) (t 46))]).seq (C2.cond (t 47) skip (exit 0))).seq ((block 1 ((ops 0 [cO 50 (ldn 4 (t 1)), cO 51 (cM 3), cO 52 (call (cF 50) [t 50, t 51]), cO 4 (cM 52)]).seq ((ops 0 [cO 53 (cM 4), cO 54 (cB .neq (t 53) (cN ((0))))]).seq (C2.cond (t 54) ((ops 0 [cO 55 (cM 4), cO 2 (cM 55)]).seq ret) skip)))).seq (ops 0 [cO 48 (cM 3), cO 49 (cB .add (t 48) (cN ((1)))), cO 3 (cM 49)]))).loop)).seq ((ops 0 [cO 2 (mov (cN ((0))))]).seq ret))))))
theorem is15 : Is Tryz.prog 15 b15 := Is.mk' Tryz.func15 (by kernel_rfl)

def b16 : F2 := (F2.mk 24 [RV.t 6, RV.t 7] ((ops 0 [cO 3 (box (t 0)), cO 6 (mov (c AV.esl)), cO 7 (mov (cN ((0))))]).seq (((ops 0 [cO 9 (ldn 4 (t 3)), cO 10 (cM 1), cO 11 (cM 2), cO 12 (call (cF 51) [t 9, t 10, t 11]), cO 8 (cM 12)]).seq ((ops 0 [cO 13 (cM 8), cO 14 (cB .neq (t 13) (cN ((0))))]).seq (C2.cond (t 14) ((ops 0 [cO 15 (cM 8), cO 6 (mov (c AV.esl)), cO 7 (cM 15)]).seq ret) skip))).seq ((ops 0 [cO 16 (fa 3 (t 3)), cO 17 (cD 16), cO 18 (cM 1), cO 19 (ixaS 3 (t 17) (t 18)), cO 20 (ldn 3 (t 19)), cO 21 (cM 2), cO 22 (call (cF 53) [t 20, t 21]), cO 23 (call (cF 52) [t 22]), cO 6 (cM 23), cO 7 (mov (cN ((0))))]).seq ret))))
theorem is16 : Is Tryz.prog 16 b16 := Is.mk' Tryz.func16 (by kernel_rfl)

def b18 : F2 := (F2.mk 35 [RV.t 8, RV.t 9] ((ops 0 [cO 4 (box (t 0)), cO 6 (box (t 2)), cO 7 (box (t 3)), cO 8 (mov cFal), cO 9 (mov (cN ((0))))]).seq (((ops 0 [cO 11 (ldn 4 (t 4)), cO 12 (cM 1), cO 13 (cD 6), cO 14 (call (cF 51) [t 11, t 12, t 13]), cO 10 (cM 14)]).seq ((ops 0 [cO 15 (cM 10), cO 16 (cB .neq (t 15) (cN ((0))))]).seq (C2.cond (t 16) ((ops 0 [cO 17 (cM 10), cO 8 (mov cFal), cO 9 (cM 17)]).seq ret) skip))).seq (((ops 0 [cO 18 (cD 7), cO 19 (lenS (t 18)), cO 20 (fa 0 (t 4)), cO 21 (cD 20), cO 22 (cB .neq (t 19) (t 21))]).seq (C2.cond (t 22) ((ops 0 [cO 8 (mov cFal), cO 9 (mov (cN ((15))))]).seq ret) skip)).seq (((ops 0 [cO 23 (cD 7), cO 24 (mkfn 57 [t 4]), cO 25 (call (cF 56) [t 23, t 24])]).seq (C2.cond (t 25) ((ops 0 [cO 8 (mov cFal), cO 9 (mov (cN ((2))))]).seq ret) skip)).seq ((mixS 1 [cO 26 (fa 3 (t 4)), cO 27 (cD 26), cO 28 (cM 1), cO 29 (ixaS 3 (t 27) (t 28)), cO 30 (ldn 3 (t 29)), cO 31 (cD 6), cO 32 (call (cF 53) [t 30, t 31]), cO 33 (mkfn 58 [t 7, t 6]), cO 34 (call (cF 40) [t 32, t 33]), cO 8 (cM 34), cO 9 (mov (cN ((0))))] [(0, 0), (1, 0), (2, 0), (3, 0), (4, 0), (5, 0), (7, 0), (6, 2), (8, 2), (9, 0), (10, 0)]).seq ret))))))
theorem is18 : Is Tryz.prog 18 b18 := Is.mk' Tryz.func18 (by kernel_rfl)

def b20 : F2 := (F2.mk 27 [RV.t 4] ((ops 0 [cO 4 (mov cFal)]).seq (((ops 0 [cO 6 (cM 0), cO 7 (lenS (t 6)), cO 8 (cM 1), cO 9 (lenS (t 8)), cO 10 (cB .neq (t 7) (t 9))]).seq (C2.cond (t 10) ((ops 0 [cO 4 (mov cFal)]).seq ret) skip)).seq (((ops 0 [cO 5 (mov (cN ((0))))]).seq (block 0 (((ops 0 [cO 11 (cM 5), cO 12 (cM 0), cO 13 (lenS (t 12)), cO 14 (cB .lss (t 11) (t 13))]).seq (C2.cond (t 14) skip (exit 0))).seq ((block 1 ((mixS 1 [cO 17 (cM 0), cO 18 (cM 5), cO 19 (ixaS 1 (t 17) (t 18)), cO 20 (cD 19), cO 21 (cM 1), cO 22 (cM 5), cO 23 (ixaS 1 (t 21) (t 22)), cO 24 (cD 23), cO 25 (call (cF 61) [t 20, t 24]), cO 26 (cB .neq (t 25) (cN ((0))))] [(0, 0), (1, 0), (2, 0), (3, 0), (4, 0), (5, 0), (6, 0), (7, 0), (8, 2), (9, 0)]).seq (C2.cond (t 26) ((ops 0 [cO 4 (mov cFal)]).seq ret) skip))).seq (ops 0 [cO 15 (cM 5), cO 16 (cB .add (t 15) (cN ((1)))), cO 5 (cM 16)]))).loop)).seq ((ops 0 [cO 4 (mov cTru)]).seq ret)))))
theorem is20 : Is Tryz.prog 20 b20 := Is.mk' Tryz.func20 (by kernel_rfl)

def b21 : F2 := (F2.mk 53 [RV.t 8, RV.t 9] ((ops 0 [cO 4 (box (t 0)), cO 8 (mov (c AV.esl)), cO 9 (mov (cN ((0))))]).seq (((ops 0 [cO 14 (ldn 4 (t 4)), cO 15 (cM 1), cO 16 (cM 2), cO 17 (call (cF 51) [t 14, t 15, t 16]), cO 10 (cM 17)]).seq ((ops 0 [cO 18 (cM 10), cO 19 (cB .neq (t 18) (cN ((0))))]).seq (C2.cond (t 19) ((ops 0 [cO 20 (cM 10), cO 8 (mov (c AV.esl)), cO 9 (cM 20)]).seq ret) skip))).seq (((ops 0 [cO 21 (cM 3), cO 22 (cB .lss (t 21) (cN ((0)))), cO 23 (cM 22), cG 24 23 false (cM 3), cG 25 23 false (fa 0 (t 4)), cG 26 23 false (cD 25), cG 27 23 false (cB .geq (t 24) (t 26)), cO 28 (pick (t 23) cTru (t 27))]).seq (C2.cond (t 28) ((ops 0 [cO 8 (mov (c AV.esl)), cO 9 (mov (cN ((2))))]).seq ret) skip)).seq ((ops 0 [cO 11 (mov (c AV.esl))]).seq (((ops 0 [cO 29 (fa 3 (t 4)), cO 30 (cD 29), cO 31 (cM 1), cO 32 (ixaS 3 (t 30) (t 31)), cO 33 (ldn 3 (t 32)), cO 34 (cM 2), cO 35 (call (cF 53) [t 33, t 34]), cO 36 (lenS (t 35)), cO 37 (mov (cN ((0))))]).seq (block 0 ((ops 0 [cO 38 (cB .lss (t 37) (t 36))]).seq ((C2.cond (t 38) skip (exit 0)).seq ((block 1 ((ops 0 [cO 39 (ixaS 1 (t 35) (t 37)), cO 40 (cD 39), cO 13 (cM 40)]).seq (ops 0 [cO 41 (cM 11), cO 42 (cM 13), cO 43 (cM 3), cO 44 (ixaS 1 (t 42) (t 43)), cO 45 (cD 44), cO 46 (bldS 1 1 [AV.int IntKind.i64 (0)] [(0, 1, t 45)]), cO 47 (app 1 8 (t 41) (t 46)), cO 11 (cM 47)]))).seq (ops 0 [cO 48 (cB .add (t 37) (cN ((1)))), cO 37 (cM 48)])))).loop)).seq ((ops 0 [cO 49 (cM 11), cO 50 (call (cF 62) [t 49])]).seq ((ops 0 [cO 51 (cM 11), cO 52 (call (cF 39) [t 51]), cO 8 (cM 52), cO 9 (mov (cN ((0))))]).seq ret))))))))
theorem is21 : Is Tryz.prog 21 b21 := Is.mk' Tryz.func21 (by kernel_rfl)

def b23 : F2 := (F2.mk 26 [RV.t 4] ((ops 0 [cO 4 (mov cFal)]).seq (((ops 0 [cO 6 (cM 0), cO 7 (lenS (t 6)), cO 8 (cM 1), cO 9 (lenS (t 8)), cO 10 (cB .neq (t 7) (t 9))]).seq (C2.cond (t 10) ((ops 0 [cO 4 (mov cFal)]).seq ret) skip)).seq (((ops 0 [cO 11 (cM 0), cO 12 (lenS (t 11)), cO 13 (mov (cN ((0))))]).seq (block 0 ((ops 0 [cO 14 (cB .lss (t 13) (t 12))]).seq ((C2.cond (t 14) skip (exit 0)).seq ((block 1 ((ops 0 [cO 15 (cM 13), cO 5 (cM 15)]).seq ((ops 1 [cO 16 (cM 0), cO 17 (cM 5), cO 18 (ixaS 1 (t 16) (t 17)), cO 19 (cD 18), cO 20 (cM 1), cO 21 (cM 5), cO 22 (ixaS 1 (t 20) (t 21)), cO 23 (cD 22), cO 24 (cB .neq (t 19) (t 23))]).seq (C2.cond (t 24) ((ops 0 [cO 4 (mov cFal)]).seq ret) skip)))).seq (ops 0 [cO 25 (cB .add (t 13) (cN ((1)))), cO 13 (cM 25)])))).loop)).seq ((ops 0 [cO 4 (mov cTru)]).seq ret)))))
theorem is23 : Is Tryz.prog 23 b23 := Is.mk' Tryz.func23 (by kernel_rfl)

def b24 : F2 := (F2.mk 74 [RV.cn 4 4, RV.t 5] ((ops 0 [cO 2 (box (t 0)), cO 4 (alloc (AV.agg [AV.int IntKind.i64 (0), AV.int IntKind.i64 (0), AV.int IntKind.i64 (0), AV.esl])), cO 5 (mov (cN ((0))))]).seq (((ops 0 [cO 11 (ldn 4 (t 2)), cO 12 (call (cF 14) [t 11]), cO 6 (cM 12)]).seq ((ops 0 [cO 13 (cM 6), cO 14 (cB .neq (t 13) (cN ((0))))]).seq (C2.cond (t 14) ((ops 0 [cO 15 (bld [AV.int IntKind.i64 (0), AV.int IntKind.i64 (0), AV.int IntKind.i64 (0), AV.esl] []), cO 16 (cM 6), Op2.mk none none (Ins.st 4 (t 4) (t 15)), cO 5 (cM 16)]).seq ret) skip))).seq (((ops 0 [cO 17 (cM 1), cO 18 (lenS (t 17)), cO 19 (cB .lss (t 18) (cN ((1)))), cO 20 (cM 19), cG 21 20 false (cM 1), cG 22 20 false (lenS (t 21)), cG 23 20 false (cB .gtr (t 22) (cN ((1024)))), cO 24 (pick (t 20) cTru (t 23))]).seq (C2.cond (t 24) ((ops 0 [cO 25 (bld [AV.int IntKind.i64 (0), AV.int IntKind.i64 (0), AV.int IntKind.i64 (0), AV.esl] []), Op2.mk none none (Ins.st 4 (t 4) (t 25)), cO 5 (mov (cN ((5))))]).seq ret) skip)).seq (((ops 0 [cO 26 (cM 1), cO 27 (lenS (t 26)), cO 28 (mov (cN ((0))))]).seq (block 0 ((ops 0 [cO 29 (cB .lss (t 28) (t 27))]).seq ((C2.cond (t 29) skip (exit 0)).seq ((block 1 ((ops 0 [cO 30 (cM 28), cO 31 (ixaS 1 (t 26) (t 28)), cO 32 (cD 31), cO 7 (cM 30), cO 8 (cM 32)]).seq (((ops 0 [cO 33 (cM 8), cO 34 (cB .lss (t 33) (cN ((0)))), cO 35 (cM 34), cG 36 35 false (cM 8), cG 37 35 false (fa 3 (t 2)), cG 38 35 false (cD 37), cG 39 35 false (lenS (t 38)), cG 40 35 false (cB .geq (t 36) (t 39)), cO 41 (pick (t 35) cTru (t 40))]).seq (C2.cond (t 41) ((ops 0 [cO 42 (bld [AV.int IntKind.i64 (0), AV.int IntKind.i64 (0), AV.int IntKind.i64 (0), AV.esl] []), Op2.mk none none (Ins.st 4 (t 4) (t 42)), cO 5 (mov (cN ((6))))]).seq ret) skip)).seq ((ops 0 [cO 43 (cM 7), cO 44 (cB .gtr (t 43) (cN ((0)))), cO 45 (cM 44), cG 46 45 true (cM 1), cG 47 45 true (cM 7), cG 48 45 true (cB .sub (t 47) (cN ((1)))), cG 49 45 true (ixaS 1 (t 46) (t 48)), cG 50 45 true (cD 49), cG 51 45 true (cM 8), cG 52 45 true (cB .geq (t 50) (t 51)), cO 53 (pick (t 45) (t 52) cFal)]).seq (C2.cond (t 53) ((ops 0 [cO 54 (bld [AV.int IntKind.i64 (0), AV.int IntKind.i64 (0), AV.int IntKind.i64 (0), AV.esl] []), Op2.mk none none (Ins.st 4 (t 4) (t 54)), cO 5 (mov (cN ((14))))]).seq ret) skip))))).seq (ops 0 [cO 55 (cB .add (t 28) (cN ((1)))), cO 28 (cM 55)])))).loop)).seq ((ops 0 [cO 56 (fa 0 (t 2)), cO 57 (cD 56), cO 58 (fa 1 (t 2)), cO 59 (cD 58), cO 60 (fa 2 (t 2)), cO 61 (cD 60), cO 62 (bld [AV.int IntKind.i64 (0), AV.int IntKind.i64 (0), AV.int IntKind.i64 (0), AV.esl] [(0, 1, t 57), (1, 1, t 59), (2, 1, t 61)]), cO 9 (alloc (AV.agg [AV.int IntKind.i64 (0), AV.int IntKind.i64 (0), AV.int IntKind.i64 (0), AV.esl])), Op2.mk none none (Ins.st 4 (t 9) (t 62))]).seq (((ops 0 [cO 63 (ldn 4 (t 2)), cO 64 (cM 1), cO 65 (call (cF 64) [t 63, t 64])]).seq (block 2 (rangeF (t 65) [66] (ops 0 [cO 10 (alloc (AV.agg [AV.esl, AV.esl, AV.esl])), Op2.mk none none (Ins.st 3 (t 10) (t 66))]) (block 3 (ops 0 [cO 67 (fa 3 (t 9)), cO 68 (cD 67), cO 69 (ldn 3 (t 10)), cO 70 (bldS 3 1 [AV.esl, AV.esl, AV.esl] [(0, 3, t 69)]), cO 71 (app 3 72 (t 68) (t 70)), cO 72 (fa 3 (t 9)), Op2.mk none none (Ins.st 1 (t 72) (t 71))]))))).seq ((ops 0 [cO 73 (ldn 4 (t 9)), Op2.mk none none (Ins.st 4 (t 4) (t 73)), cO 5 (mov (cN ((0))))]).seq ret))))))))
theorem is24 : Is Tryz.prog 24 b24 := Is.mk' Tryz.func24 (by kernel_rfl)

def b26 : F2 := (F2.mk 69 [RV.cn 4 4, RV.t 5] ((ops 0 [cO 2 (box (t 0)), cO 4 (alloc (AV.agg [AV.int IntKind.i64 (0), AV.int IntKind.i64 (0), AV.int IntKind.i64 (0), AV.esl])), cO 5 (mov (cN ((0))))]).seq (((ops 0 [cO 11 (ldn 4 (t 2)), cO 12 (call (cF 14) [t 11]), cO 6 (cM 12)]).seq ((ops 0 [cO 13 (cM 6), cO 14 (cB .neq (t 13) (cN ((0))))]).seq (C2.cond (t 14) ((ops 0 [cO 15 (bld [AV.int IntKind.i64 (0), AV.int IntKind.i64 (0), AV.int IntKind.i64 (0), AV.esl] []), cO 16 (cM 6), Op2.mk none none (Ins.st 4 (t 4) (t 15)), cO 5 (cM 16)]).seq ret) skip))).seq (((ops 0 [cO 17 (cM 1), cO 18 (call (cF 65) [t 17]), cO 7 (cM 18)]).seq ((ops 0 [cO 19 (cM 7), cO 20 (cB .neq (t 19) (cN ((0))))]).seq (C2.cond (t 20) ((ops 0 [cO 21 (bld [AV.int IntKind.i64 (0), AV.int IntKind.i64 (0), AV.int IntKind.i64 (0), AV.esl] []), cO 22 (cM 7), Op2.mk none none (Ins.st 4 (t 4) (t 21)), cO 5 (cM 22)]).seq ret) skip))).seq (((ops 0 [cO 23 (cM 1), cO 24 (lenS (t 23)), cO 25 (fa 0 (t 2)), cO 26 (cD 25), cO 27 (cB .neq (t 24) (t 26))]).seq (C2.cond (t 27) ((ops 0 [cO 28 (bld [AV.int IntKind.i64 (0), AV.int IntKind.i64 (0), AV.int IntKind.i64 (0), AV.esl] []), Op2.mk none none (Ins.st 4 (t 4) (t 28)), cO 5 (mov (cN ((22))))]).seq ret) skip)).seq ((ops 0 [cO 29 (fa 0 (t 2)), cO 30 (cD 29), cO 31 (fa 1 (t 2)), cO 32 (cD 31), cO 33 (fa 2 (t 2)), cO 34 (cD 33), cO 35 (bld [AV.int IntKind.i64 (0), AV.int IntKind.i64 (0), AV.int IntKind.i64 (0), AV.esl] [(0, 1, t 30), (1, 1, t 32), (2, 1, t 34)]), cO 8 (alloc (AV.agg [AV.int IntKind.i64 (0), AV.int IntKind.i64 (0), AV.int IntKind.i64 (0), AV.esl])), Op2.mk none none (Ins.st 4 (t 8) (t 35))]).seq (((ops 0 [cO 36 (fa 3 (t 2)), cO 37 (cD 36), cO 38 (lenS (t 37)), cO 39 (mov (cN ((0))))]).seq (block 0 ((ops 0 [cO 40 (cB .lss (t 39) (t 38))]).seq ((C2.cond (t 40) skip (exit 0)).seq ((block 1 ((ops 0 [cO 41 (ixaS 3 (t 37) (t 39)), cO 42 (ldn 3 (t 41)), cO 10 (alloc (AV.agg [AV.esl, AV.esl, AV.esl])), Op2.mk none none (Ins.st 3 (t 10) (t 42))]).seq (mixS 1 [cO 43 (fa 3 (t 8)), cO 44 (cD 43), cO 45 (fa 0 (t 10)), cO 46 (cD 45), cO 47 (bldS 1 1 [AV.esl] [(0, 1, t 46)]), cO 48 (cM 1), cO 49 (call (cF 66) [t 47, t 48]), cO 50 (ixaS 1 (t 49) (cN ((0)))), cO 51 (cD 50), cO 52 (fa 1 (t 10)), cO 53 (cD 52), cO 54 (cM 1), cO 55 (call (cF 66) [t 53, t 54]), cO 56 (fa 2 (t 10)), cO 57 (cD 56), cO 58 (cM 1), cO 59 (call (cF 66) [t 57, t 58]), cO 60 (bld [AV.esl, AV.esl, AV.esl] [(0, 1, t 51), (1, 1, t 55), (2, 1, t 59)]), cO 61 (bldS 3 1 [AV.esl, AV.esl, AV.esl] [(0, 3, t 60)]), cO 62 (app 3 72 (t 44) (t 61)), cO 63 (fa 3 (t 8)), Op2.mk none none (Ins.st 1 (t 63) (t 62))] [(0, 0), (1, 0), (2, 0), (3, 0), (5, 0), (9, 0), (10, 0), (11, 0), (13, 0), (14, 0), (15, 0), (4, 1), (6, 1), (7, 0), (8, 0), (12, 1), (16, 1), (17, 0), (18, 1), (19, 2), (20, 0), (21, 2)]))).seq (ops 0 [cO 64 (cB .add (t 39) (cN ((1)))), cO 39 (cM 64)])))).loop)).seq ((ops 0 [cO 65 (fa 3 (t 8)), cO 66 (cD 65), cO 67 (call (cF 67) [t 66, c (AV.func 68 [])])]).seq ((ops 0 [cO 68 (ldn 4 (t 8)), Op2.mk none none (Ins.st 4 (t 4) (t 68)), cO 5 (mov (cN ((0))))]).seq ret)))))))))
theorem is26 : Is Tryz.prog 26 b26 := Is.mk' Tryz.func26 (by kernel_rfl)

def b29 : F2 := (F2.mk 33 [RV.t 2, RV.t 3] ((ops 0 [cO 1 (box (t 0)), cO 2 (mov cFal), cO 3 (mov (cN ((0))))]).seq (((ops 0 [cO 9 (ldn 4 (t 1)), cO 10 (call (cF 14) [t 9]), cO 4 (cM 10)]).seq ((ops 0 [cO 11 (cM 4), cO 12 (cB .neq (t 11) (cN ((0))))]).seq (C2.cond (t 12) ((ops 0 [cO 13 (cM 4), cO 2 (mov cFal), cO 3 (cM 13)]).seq ret) skip))).seq (((ops 0 [cO 14 (fa 3 (t 1)), cO 15 (cD 14), cO 16 (lenS (t 15)), cO 17 (mov (cN ((0))))]).seq (block 0 ((ops 0 [cO 18 (cB .lss (t 17) (t 16))]).seq ((C2.cond (t 18) skip (exit 0)).seq ((block 1 ((ops 0 [cO 19 (ixaS 3 (t 15) (t 17)), cO 20 (ldn 3 (t 19)), cO 6 (alloc (AV.agg [AV.esl, AV.esl, AV.esl])), Op2.mk none none (Ins.st 3 (t 6) (t 20))]).seq ((ops 0 [cO 21 (fa 1 (t 6)), cO 22 (cD 21), cO 23 (lenS (t 22)), cO 24 (mov (cN ((0))))]).seq (block 2 ((ops 0 [cO 25 (cB .lss (t 24) (t 23))]).seq ((C2.cond (t 25) skip (exit 2)).seq ((block 3 ((ops 0 [cO 26 (ixaS 1 (t 22) (t 24)), cO 27 (cD 26), cO 8 (cM 27)]).seq ((ops 0 [cO 28 (cM 8), cO 29 (call (cF 70) [t 28]), cO 30 (un UnOp.not (t 29))]).seq (C2.cond (t 30) ((ops 0 [cO 2 (mov cFal), cO 3 (mov (cN ((0))))]).seq ret) skip)))).seq (ops 0 [cO 31 (cB .add (t 24) (cN ((1)))), cO 24 (cM 31)])))).loop)))).seq (ops 0 [cO 32 (cB .add (t 17) (cN ((1)))), cO 17 (cM 32)])))).loop)).seq ((ops 0 [cO 2 (mov cTru), cO 3 (mov (cN ((0))))]).seq ret)))))
theorem is29 : Is Tryz.prog 29 b29 := Is.mk' Tryz.func29 (by kernel_rfl)

def b31 : F2 := (F2.mk 31 [RV.t 2, RV.t 3, RV.t 4] ((ops 0 [cO 1 (box (t 0)), cO 2 (mov (cN ((0)))), cO 3 (mov (cN ((0)))), cO 4 (mov (cN ((0))))]).seq (((ops 0 [cO 9 (ldn 4 (t 1)), cO 10 (call (cF 14) [t 9]), cO 5 (cM 10)]).seq ((ops 0 [cO 11 (cM 5), cO 12 (cB .neq (t 11) (cN ((0))))]).seq (C2.cond (t 12) ((ops 0 [cO 13 (cM 5), cO 2 (mov (cN ((0)))), cO 3 (mov (cN ((0)))), cO 4 (cM 13)]).seq ret) skip))).seq ((ops 0 [cO 6 (mov (cN ((0))))]).seq (((ops 0 [cO 14 (fa 3 (t 1)), cO 15 (cD 14), cO 16 (lenS (t 15)), cO 17 (mov (cN ((0))))]).seq (block 0 ((ops 0 [cO 18 (cB .lss (t 17) (t 16))]).seq ((C2.cond (t 18) skip (exit 0)).seq ((block 1 ((ops 0 [cO 19 (ixaS 3 (t 15) (t 17)), cO 20 (ldn 3 (t 19)), cO 8 (alloc (AV.agg [AV.esl, AV.esl, AV.esl])), Op2.mk none none (Ins.st 3 (t 8) (t 20))]).seq (ops 0 [cO 21 (cM 6), cO 22 (fa 1 (t 8)), cO 23 (cD 22), cO 24 (lenS (t 23)), cO 25 (cB .add (t 21) (t 24)), cO 6 (cM 25)]))).seq (ops 0 [cO 26 (cB .add (t 17) (cN ((1)))), cO 17 (cM 26)])))).loop)).seq ((ops 0 [cO 27 (fa 3 (t 1)), cO 28 (cD 27), cO 29 (lenS (t 28)), cO 30 (cM 6), cO 2 (cM 29), cO 3 (cM 30), cO 4 (mov (cN ((0))))]).seq ret))))))
theorem is31 : Is Tryz.prog 31 b31 := Is.mk' Tryz.func31 (by kernel_rfl)

def b33 : F2 := (F2.mk 53 [RV.t 4] ((ops 0 [cO 2 (box (t 0)), cO 3 (box (t 1)), cO 4 (mov cFal)]).seq ((mixS 1 [cO 5 (ldn 4 (t 2)), cO 6 (call (cF 10) [t 5]), cO 7 (cM 6), cG 8 7 true (ldn 4 (t 2)), cG 9 7 true (call (cF 15) [t 8]), cG 10 7 true (cB .eql (t 9) (cN ((0)))), cO 11 (pick (t 7) (t 10) cFal), cO 12 (cM 11), cG 13 12 true (fa 0 (t 3)), cG 14 12 true (cD 13), cG 15 12 true (cB .geq (t 14) (cN ((0)))), cO 16 (pick (t 12) (t 15) cFal), cO 17 (cM 16), cG 18 17 true (fa 0 (t 3)), cG 19 17 true (cD 18), cG 20 17 true (fa 3 (t 2)), cG 21 17 true (cD 20), cG 22 17 true (lenS (t 21)), cG 23 17 true (cB .lss (t 19) (t 22)), cO 24 (pick (t 17) (t 23) cFal), cO 25 (cM 24), cG 26 25 true (fa 1 (t 3)), cG 27 25 true (cD 26), cG 28 25 true (cB .geq (t 27) (cN ((0)))), cO 29 (pick (t 25) (t 28) cFal), cO 30 (cM 29), cG 31 30 true (fa 1 (t 3)), cG 32 30 true (cD 31), cG 33 30 true (fa 0 (t 2)), cG 34 30 true (cD 33), cG 35 30 true (cB .shl (cN ((1))) (t 34)), cG 36 30 true (cB .lss (t 32) (t 35)), cO 37 (pick (t 30) (t 36) cFal), cO 38 (cM 37), cG 39 38 true (fa 3 (t 3)), cG 40 38 true (cD 39), cG 41 38 true (lenS (t 40)), cG 42 38 true (fa 0 (t 2)), cG 43 38 true (cD 42), cG 44 38 true (cB .eql (t 41) (t 43)), cO 45 (pick (t 38) (t 44) cFal), cO 46 (cM 45), cG 47 46 true (fa 3 (t 3)), cG 48 46 true (cD 47), cG 49 46 true (mkfn 72 [t 2]), cG 50 46 true (call (cF 56) [t 48, t 49]), cG 51 46 true (un UnOp.not (t 50)), cO 52 (pick (t 46) (t 51) cFal), cO 4 (cM 52)] [(0, 0), (1, 1), (2, 0), (3, 0), (4, 1), (5, 0), (6, 0), (7, 0), (8, 0), (9, 0), (10, 0), (11, 0), (12, 0), (13, 0), (14, 0), (15, 0), (16, 0), (17, 0), (18, 0), (19, 0), (20, 0), (21, 0), (22, 0), (23, 0), (24, 0), (25, 0), (26, 0), (27, 0), (28, 0), (29, 0), (30, 0), (31, 0), (32, 0), (33, 0), (34, 0), (35, 0), (36, 0), (37, 0), (38, 0), (39, 0), (40, 0), (41, 0), (42, 0), (43, 0), (44, 0), (45, 2), (46, 0), (47, 0), (48, 0)]).seq ret)))
theorem is33 : Is Tryz.prog 33 b33 := Is.mk' Tryz.func33 (by kernel_rfl)

def b36 : F2 := (F2.mk 9 [RV.t 4] ((ops 0 [cO 4 (mov cFal)]).seq ((ops 0 [cO 5 (cM 0), cO 6 (cM 1), cO 7 (call (cF 73) [t 5, t 6]), cO 8 (cB .geq (t 7) (cN ((0)))), cO 4 (cM 8)]).seq ret)))
theorem is36 : Is Tryz.prog 36 b36 := Is.mk' Tryz.func36 (by kernel_rfl)

def b37 : F2 := (F2.mk 8 [RV.t 2] ((ops 0 [cO 2 (mov (c AV.esl))]).seq (((ops 0 [cO 3 (cM 0), cO 4 (snil false (t 3))]).seq (C2.cond (t 4) ((ops 0 [cO 2 (mov (c AV.esl))]).seq ret) skip)).seq ((ops 0 [cO 5 (bldS 1 0 [AV.int IntKind.i64 (0)] []), cO 6 (cM 0), cO 7 (app 1 8 (t 5) (t 6)), cO 2 (cM 7)]).seq ret))))
theorem is37 : Is Tryz.prog 37 b37 := Is.mk' Tryz.func37 (by kernel_rfl)

def b38 : F2 := (F2.mk 21 [RV.t 2] ((ops 0 [cO 2 (mov cFal)]).seq (((ops 0 [cO 4 (cM 0), cO 5 (lenS (t 4)), cO 6 (cB .sub (t 5) (cN ((1)))), cO 3 (cM 6)]).seq (block 0 (((ops 0 [cO 7 (cM 3), cO 8 (cB .gtr (t 7) (cN ((0))))]).seq (C2.cond (t 8) skip (exit 0))).seq ((block 1 ((mixS 1 [cO 11 (cM 0), cO 12 (cM 3), cO 13 (ixaS 1 (t 11) (t 12)), cO 14 (cD 13), cO 15 (cM 0), cO 16 (cM 3), cO 17 (cB .sub (t 16) (cN ((1)))), cO 18 (ixaS 1 (t 15) (t 17)), cO 19 (cD 18), cO 20 (call (cF 74) [t 14, t 19])] [(0, 0), (1, 0), (2, 0), (3, 0), (4, 0), (5, 0), (6, 0), (7, 0), (8, 0), (9, 2)]).seq (C2.cond (t 20) ((ops 0 [cO 2 (mov cFal)]).seq ret) skip))).seq (ops 0 [cO 9 (cM 3), cO 10 (cB .sub (t 9) (cN ((1)))), cO 3 (cM 10)]))).loop)).seq ((ops 0 [cO 2 (mov cTru)]).seq ret))))
theorem is38 : Is Tryz.prog 38 b38 := Is.mk' Tryz.func38 (by kernel_rfl)

def b39 : F2 := (F2.mk 61 [RV.t 2] ((ops 0 [cO 2 (mov (c AV.esl))]).seq (((ops 0 [cO 6 (cM 0), cO 7 (lenS (t 6)), cO 8 (cB .lss (t 7) (cN ((2))))]).seq (C2.cond (t 8) ((ops 0 [cO 9 (cM 0), cO 2 (cM 9)]).seq ret) skip)).seq (((ops 0 [cO 3 (mov (cN ((1))))]).seq (block 0 (((ops 0 [cO 10 (cM 3), cO 11 (cM 0), cO 12 (lenS (t 11)), cO 13 (cB .lss (t 10) (t 12))]).seq (C2.cond (t 13) skip (exit 0))).seq ((block 1 ((ops 1 [cO 16 (cM 0), cO 17 (cM 3), cO 18 (ixaS 1 (t 16) (t 17)), cO 19 (cD 18), cO 20 (cM 0), cO 21 (cM 3), cO 22 (cB .sub (t 21) (cN ((1)))), cO 23 (ixaS 1 (t 20) (t 22)), cO 24 (cD 23), cO 25 (cB .eql (t 19) (t 24))]).seq (C2.cond (t 25) ((ops 0 [cO 26 (cM 0), cO 27 (cM 3), cO 28 (sls 1 (t 26) (some (t 27)) none none), cO 4 (cM 28)]).seq (((ops 0 [cO 5 (mov (cN ((1))))]).seq (block 2 (((ops 0 [cO 29 (cM 5), cO 30 (cM 4), cO 31 (lenS (t 30)), cO 32 (cB .lss (t 29) (t 31))]).seq (C2.cond (t 32) skip (exit 2))).seq ((block 3 ((ops 1 [cO 35 (cM 4), cO 36 (cM 5), cO 37 (ixaS 1 (t 35) (t 36)), cO 38 (cD 37), cO 39 (cM 4), cO 40 (cM 5), cO 41 (cB .sub (t 40) (cN ((1)))), cO 42 (ixaS 1 (t 39) (t 41)), cO 43 (cD 42), cO 44 (cB .neq (t 38) (t 43))]).seq (C2.cond (t 44) ((ops 0 [cO 45 (cM 0), cO 46 (cM 3), cO 47 (cM 4), cO 48 (cM 5), cO 49 (ixaS 1 (t 47) (t 48)), cO 50 (cD 49), cO 51 (ixaS 1 (t 45) (t 46)), Op2.mk none none (Ins.st 1 (t 51) (t 50))]).seq (ops 0 [cO 52 (cM 3), cO 53 (cB .add (t 52) (cN ((1)))), cO 3 (cM 53)])) skip))).seq (ops 0 [cO 33 (cM 5), cO 34 (cB .add (t 33) (cN ((1)))), cO 5 (cM 34)]))).loop)).seq ((ops 0 [cO 54 (cM 0), cO 55 (cM 3), cO 56 (sls 1 (t 54) (some (t 55)) none none), Op2.mk none none (clr 1 (AV.int IntKind.i64 (0)) (t 56))]).seq ((ops 0 [cO 57 (cM 0), cO 58 (cM 3), cO 59 (sls 1 (t 57) none (some (t 58)) none), cO 2 (cM 59)]).seq ret)))) skip))).seq (ops 0 [cO 14 (cM 3), cO 15 (cB .add (t 14) (cN ((1)))), cO 3 (cM 15)]))).loop)).seq ((ops 0 [cO 60 (cM 0), cO 2 (cM 60)]).seq ret)))))
theorem is39 : Is Tryz.prog 39 b39 := Is.mk' Tryz.func39 (by kernel_rfl)

def b40 : F2 := (F2.mk 9 [RV.t 4] ((ops 0 [cO 4 (mov cFal)]).seq ((ops 0 [cO 5 (cM 0), cO 6 (cM 1), cO 7 (call (cF 75) [t 5, t 6]), cO 8 (cB .geq (t 7) (cN ((0)))), cO 4 (cM 8)]).seq ret)))
theorem is40 : Is Tryz.prog 40 b40 := Is.mk' Tryz.func40 (by kernel_rfl)

def b41 : F2 := (F2.mk 11 [RV.t 4] ((ops 0 [cO 4 (mov cFal)]).seq ((ops 1 [cO 5 (cM 0), cO 6 (cD 1), cO 7 (ixaS 1 (t 5) (t 6)), cO 8 (cD 7), cO 9 (cD 2), cO 10 (cB .eql (t 8) (t 9)), cO 4 (cM 10)]).seq ret)))
theorem is41 : Is Tryz.prog 41 b41 := Is.mk' Tryz.func41 (by kernel_rfl)

def b42 : F2 := (F2.mk 22 [RV.t 4] ((ops 0 [cO 4 (mov cFal)]).seq (((ops 0 [cO 6 (cM 0), cO 7 (lenS (t 6)), cO 8 (cM 1), cO 9 (cB .gtr (t 7) (t 8))]).seq (C2.cond (t 9) ((ops 0 [cO 4 (mov cFal)]).seq ret) skip)).seq (((ops 0 [cO 5 (mov (cN ((0))))]).seq (block 0 (((ops 0 [cO 10 (cM 5), cO 11 (cM 0), cO 12 (lenS (t 11)), cO 13 (cB .lss (t 10) (t 12))]).seq (C2.cond (t 13) skip (exit 0))).seq ((block 1 ((ops 0 [cO 16 (cM 0), cO 17 (cM 5), cO 18 (ixaS 1 (t 16) (t 17)), cO 19 (cD 18), cO 20 (lenS (t 19)), cO 21 (cB .gtr (t 20) (cN ((10))))]).seq (C2.cond (t 21) ((ops 0 [cO 4 (mov cFal)]).seq ret) skip))).seq (ops 0 [cO 14 (cM 5), cO 15 (cB .add (t 14) (cN ((1)))), cO 5 (cM 15)]))).loop)).seq ((ops 0 [cO 4 (mov cTru)]).seq ret)))))
theorem is42 : Is Tryz.prog 42 b42 := Is.mk' Tryz.func42 (by kernel_rfl)

def b43 : F2 := (F2.mk 18 [RV.cn 0 4] ((ops 0 [cO 0 (alloc (AV.agg [AV.int IntKind.i64 (0), AV.int IntKind.i64 (0), AV.int IntKind.i64 (0), AV.esl]))]).seq ((ops 0 [cO 1 (bldS 1 2 [AV.int IntKind.i64 (0)] [(0, 1, c (AV.int IntKind.i64 (0))), (1, 1, c (AV.int IntKind.i64 (0)))]), cO 2 (bldS 1 2 [AV.int IntKind.i64 (0)] [(0, 1, c (AV.int IntKind.i64 (0))), (1, 1, c (AV.int IntKind.i64 (0)))]), cO 3 (bldS 1 1 [AV.esl] [(0, 1, t 2)]), cO 4 (bld [AV.esl, AV.esl, AV.esl] [(0, 1, t 1), (1, 1, t 3)]), cO 5 (bldS 1 2 [AV.int IntKind.i64 (0)] [(0, 1, c (AV.int IntKind.i64 (0))), (1, 1, c (AV.int IntKind.i64 (1)))]), cO 6 (bldS 1 2 [AV.int IntKind.i64 (0)] [(0, 1, c (AV.int IntKind.i64 (0))), (1, 1, c (AV.int IntKind.i64 (0)))]), cO 7 (bldS 1 2 [AV.int IntKind.i64 (0)] [(0, 1, c (AV.int IntKind.i64 (1))), (1, 1, c (AV.int IntKind.i64 (1)))]), cO 8 (bldS 1 2 [AV.esl] [(0, 1, t 6), (1, 1, t 7)]), cO 9 (bldS 1 2 [AV.int IntKind.i64 (0)] [(0, 1, c (AV.int IntKind.i64 (1))), (1, 1, c (AV.int IntKind.i64 (1)))]), cO 10 (bldS 1 1 [AV.esl] [(0, 1, t 9)]), cO 11 (bld [AV.esl, AV.esl, AV.esl] [(0, 1, t 5), (1, 1, t 8), (2, 1, t 10)]), cO 12 (bldS 1 2 [AV.int IntKind.i64 (0)] [(0, 1, c (AV.int IntKind.i64 (1))), (1, 1, c (AV.int IntKind.i64 (1)))]), cO 13 (bldS 1 2 [AV.int IntKind.i64 (0)] [(0, 1, c (AV.int IntKind.i64 (1))), (1, 1, c (AV.int IntKind.i64 (1)))]), cO 14 (bldS 1 1 [AV.esl] [(0, 1, t 13)]), cO 15 (bld [AV.esl, AV.esl, AV.esl] [(0, 1, t 12), (1, 1, t 14)]), cO 16 (bldS 3 3 [AV.esl, AV.esl, AV.esl] [(0, 3, t 4), (3, 3, t 11), (6, 3, t 15)]), cO 17 (bld [AV.int IntKind.i64 (0), AV.int IntKind.i64 (0), AV.int IntKind.i64 (0), AV.esl] [(0, 1, c (AV.int IntKind.i64 (2))), (1, 1, c (AV.int IntKind.i64 (2))), (2, 1, c (AV.int IntKind.i64 (2))), (3, 1, t 16)]), Op2.mk none none (Ins.st 4 (t 0) (t 17))]).seq ret)))
theorem is43 : Is Tryz.prog 43 b43 := Is.mk' Tryz.func43 (by kernel_rfl)

def b44 : F2 := (F2.mk 49 [RV.t 6, RV.t 7] ((ops 0 [cO 6 (mov (cN ((0)))), cO 7 (mov cFal)]).seq ((ops 0 [cO 12 (cM 0), cO 13 (lenS (t 12)), cO 8 (cM 13)]).seq ((ops 0 [cO 14 (cM 8), cO 9 (mov (cN ((0)))), cO 10 (cM 14)]).seq ((block 0 (((ops 0 [cO 15 (cM 9), cO 16 (cM 10), cO 17 (cB .lss (t 15) (t 16))]).seq (C2.cond (t 17) skip (exit 0))).seq (block 1 ((ops 0 [cO 18 (cM 9), cO 19 (cM 10), cO 20 (cB .add (t 18) (t 19)), cO 21 (conv IntKind.u64 (t 20)), cO 22 (cB .shr (t 21) (c (AV.int IntKind.u64 (1)))), cO 23 (conv IntKind.i64 (t 22)), cO 11 (cM 23)]).seq ((ops 0 [cO 24 (cM 2), cO 25 (cM 0), cO 26 (cM 11), cO 27 (ixaS 3 (t 25) (t 26)), cO 28 (ldn 3 (t 27)), cO 29 (cM 1), cO 30 (call (t 24) [t 28, t 29]), cO 31 (cB .lss (t 30) (cN ((0))))]).seq (C2.cond (t 31) (ops 0 [cO 32 (cM 11), cO 33 (cB .add (t 32) (cN ((1)))), cO 9 (cM 33)]) (ops 0 [cO 34 (cM 11), cO 10 (cM 34)])))))).loop).seq ((ops 0 [cO 35 (cM 9), cO 36 (cM 9), cO 37 (cM 8), cO 38 (cB .lss (t 36) (t 37)), cO 39 (cM 38), cG 40 39 true (cM 2), cG 41 39 true (cM 0), cG 42 39 true (cM 9), cG 43 39 true (ixaS 3 (t 41) (t 42)), cG 44 39 true (ldn 3 (t 43)), cG 45 39 true (cM 1), cG 46 39 true (call (t 40) [t 44, t 45]), cG 47 39 true (cB .eql (t 46) (cN ((0)))), cO 48 (pick (t 39) (t 47) cFal), cO 6 (cM 35), cO 7 (cM 48)]).seq ret))))))
theorem is44 : Is Tryz.prog 44 b44 := Is.mk' Tryz.func44 (by kernel_rfl)

def b45 : F2 := (F2.mk 9 [RV.t 4] ((ops 0 [cO 2 (box (t 0)), cO 4 (mov (cN ((0))))]).seq ((ops 0 [cO 5 (fa 0 (t 2)), cO 6 (cD 5), cO 7 (cM 1), cO 8 (call (cF 46) [t 6, t 7]), cO 4 (cM 8)]).seq ret)))
theorem is45 : Is Tryz.prog 45 b45 := Is.mk' Tryz.func45 (by kernel_rfl)

def b46 : F2 := (F2.mk 36 [RV.t 4] ((ops 0 [cO 4 (mov (cN ((0))))]).seq (((ops 0 [cO 9 (cM 0), cO 10 (lenS (t 9)), cO 11 (mov (cN ((0))))]).seq (block 0 ((ops 0 [cO 12 (cB .lss (t 11) (t 10))]).seq ((C2.cond (t 12) skip (exit 0)).seq ((block 1 ((ops 0 [cO 13 (cM 11), cO 14 (ixaS 1 (t 9) (t 11)), cO 15 (cD 14), cO 5 (cM 13), cO 6 (cM 15)]).seq (((ops 0 [cO 16 (cM 5), cO 17 (cM 1), cO 18 (lenS (t 17)), cO 19 (cB .geq (t 16) (t 18))]).seq (C2.cond (t 19) ((ops 0 [cO 4 (mov (cN ((1))))]).seq ret) skip)).seq ((ops 0 [cO 20 (cM 1), cO 21 (cM 5), cO 22 (ixaS 1 (t 20) (t 21)), cO 23 (cD 22), cO 7 (cM 23)]).seq ((ops 0 [cO 24 (cM 6), cO 25 (cM 7), cO 26 (call (cF 76) [t 24, t 25]), cO 8 (cM 26)]).seq ((ops 0 [cO 27 (cM 8), cO 28 (cB .neq (t 27) (cN ((0))))]).seq (C2.cond (t 28) ((ops 0 [cO 29 (cM 8), cO 4 (cM 29)]).seq ret) skip))))))).seq (ops 0 [cO 30 (cB .add (t 11) (cN ((1)))), cO 11 (cM 30)])))).loop)).seq (((ops 0 [cO 31 (cM 0), cO 32 (lenS (t 31)), cO 33 (cM 1), cO 34 (lenS (t 33)), cO 35 (cB .lss (t 32) (t 34))]).seq (C2.cond (t 35) ((ops 0 [cO 4 (mov (cN ((-1))))]).seq ret) skip)).seq ((ops 0 [cO 4 (mov (cN ((0))))]).seq ret)))))
theorem is46 : Is Tryz.prog 46 b46 := Is.mk' Tryz.func46 (by kernel_rfl)

def b48 : F2 := (F2.mk 14 [RV.t 6] ((ops 0 [cO 5 (box (t 2)), cO 6 (mov (cN ((0))))]).seq (((ops 0 [cO 7 (cM 0), cO 8 (lenS (t 7)), cO 9 (cM 1), cO 10 (cB .neq (t 8) (t 9))]).seq (C2.cond (t 10) ((ops 0 [cO 6 (mov (cN ((15))))]).seq ret) skip)).seq (((ops 0 [cO 11 (cM 0), cO 12 (mkfn 77 [t 5]), cO 13 (call (cF 56) [t 11, t 12])]).seq (C2.cond (t 13) ((ops 0 [cO 6 (mov (cN ((2))))]).seq ret) skip)).seq ((ops 0 [cO 6 (mov (cN ((0))))]).seq ret)))))
theorem is48 : Is Tryz.prog 48 b48 := Is.mk' Tryz.func48 (by kernel_rfl)

def b49 : F2 := (F2.mk 60 [RV.t 4] ((ops 0 [cO 2 (box (t 0)), cO 3 (box (t 1)), cO 4 (mov (cN ((0))))]).seq (((ops 0 [cO 10 (fa 1 (t 3)), cO 11 (cD 10), cO 12 (lenS (t 11)), cO 13 (cB .lss (t 12) (cN ((1)))), cO 14 (cM 13), cG 15 14 false (fa 1 (t 3)), cG 16 14 false (cD 15), cG 17 14 false (lenS (t 16)), cG 18 14 false (cB .gtr (t 17) (cN ((1024)))), cO 19 (pick (t 14) cTru (t 18))]).seq (C2.cond (t 19) ((ops 0 [cO 4 (mov (cN ((5))))]).seq ret) skip)).seq (((ops 0 [cO 20 (fa 1 (t 3)), cO 21 (cD 20), cO 22 (lenS (t 21)), cO 23 (mov (cN ((0))))]).seq (block 0 ((ops 0 [cO 24 (cB .lss (t 23) (t 22))]).seq ((C2.cond (t 24) skip (exit 0)).seq ((block 1 ((ops 0 [cO 25 (cM 23), cO 26 (ixaS 1 (t 21) (t 23)), cO 27 (cD 26), cO 5 (cM 25), cO 6 (cM 27)]).seq (((ops 0 [cO 28 (cM 6), cO 29 (fa 0 (t 2)), cO 30 (cD 29), cO 31 (fa 2 (t 2)), cO 32 (cD 31), cO 33 (call (cF 48) [t 28, t 30, t 32]), cO 7 (cM 33)]).seq ((ops 0 [cO 34 (cM 7), cO 35 (cB .neq (t 34) (cN ((0))))]).seq (C2.cond (t 35) ((ops 0 [cO 36 (cM 7), cO 4 (cM 36)]).seq ret) skip))).seq ((ops 0 [cO 37 (fa 1 (t 3)), cO 38 (cD 37), cO 39 (cM 5), cO 40 (call (cF 78) [t 38, t 39])]).seq (C2.cond (t 40) ((ops 0 [cO 4 (mov (cN ((14))))]).seq ret) skip))))).seq (ops 0 [cO 41 (cB .add (t 23) (cN ((1)))), cO 23 (cM 41)])))).loop)).seq (((ops 0 [cO 42 (fa 2 (t 3)), cO 43 (cD 42), cO 44 (lenS (t 43)), cO 45 (mov (cN ((0))))]).seq (block 2 ((ops 0 [cO 46 (cB .lss (t 45) (t 44))]).seq ((C2.cond (t 46) skip (exit 2)).seq ((block 3 ((ops 0 [cO 47 (cM 45), cO 48 (ixaS 1 (t 43) (t 45)), cO 49 (cD 48), cO 8 (cM 47), cO 9 (cM 49)]).seq (((ops 0 [cO 50 (fa 1 (t 3)), cO 51 (cD 50), cO 52 (cM 9), cO 53 (call (cF 79) [t 51, t 52]), cO 54 (un UnOp.not (t 53))]).seq (C2.cond (t 54) ((ops 0 [cO 4 (mov (cN ((6))))]).seq ret) skip)).seq ((ops 0 [cO 55 (fa 2 (t 3)), cO 56 (cD 55), cO 57 (cM 8), cO 58 (call (cF 78) [t 56, t 57])]).seq (C2.cond (t 58) ((ops 0 [cO 4 (mov (cN ((14))))]).seq ret) skip))))).seq (ops 0 [cO 59 (cB .add (t 45) (cN ((1)))), cO 45 (cM 59)])))).loop)).seq ((ops 0 [cO 4 (mov (cN ((0))))]).seq ret))))))
theorem is49 : Is Tryz.prog 49 b49 := Is.mk' Tryz.func49 (by kernel_rfl)

def b50 : F2 := (F2.mk 120 [RV.t 4] ((ops 0 [cO 2 (box (t 0)), cO 4 (mov (cN ((0))))]).seq ((ops 0 [cO 10 (fa 3 (t 2)), cO 11 (cD 10), cO 12 (cM 1), cO 13 (ixaS 3 (t 11) (t 12)), cO 14 (ldn 3 (t 13)), cO 5 (alloc (AV.agg [AV.esl, AV.esl, AV.esl])), Op2.mk none none (Ins.st 3 (t 5) (t 14))]).seq (((ops 0 [cO 15 (fa 0 (t 5)), cO 16 (cD 15), cO 17 (fa 0 (t 2)), cO 18 (cD 17), cO 19 (fa 1 (t 2)), cO 20 (cD 19), cO 21 (call (cF 80) [t 16, t 18, t 20]), cO 6 (cM 21)]).seq ((ops 0 [cO 22 (cM 6), cO 23 (cB .neq (t 22) (cN ((0))))]).seq (C2.cond (t 23) ((ops 0 [cO 24 (cM 6), cO 4 (cM 24)]).seq ret) skip))).seq (((mixS 1 [cO 25 (cM 1), cO 26 (cB .gtr (t 25) (cN ((0)))), cO 27 (cM 26), cG 28 27 true (fa 3 (t 2)), cG 29 27 true (cD 28), cG 30 27 true (cM 1), cG 31 27 true (cB .sub (t 30) (cN ((1)))), cG 32 27 true (ixaS 3 (t 29) (t 31)), cG 33 27 true (fa 0 (t 32)), cG 34 27 true (cD 33), cG 35 27 true (fa 0 (t 5)), cG 36 27 true (cD 35), cG 37 27 true (call (cF 61) [t 34, t 36]), cG 38 27 true (cB .geq (t 37) (cN ((0)))), cO 39 (pick (t 27) (t 38) cFal)] [(0, 0), (1, 0), (2, 0), (3, 0), (4, 0), (5, 0), (6, 0), (7, 0), (8, 0), (9, 0), (10, 0), (11, 0), (12, 2), (13, 0), (14, 0)]).seq (C2.cond (t 39) ((ops 0 [cO 4 (mov (cN ((14))))]).seq ret) skip)).seq (((ops 0 [cO 40 (fa 1 (t 5)), cO 41 (cD 40), cO 42 (lenS (t 41)), cO 43 (cB .lss (t 42) (cN ((1)))), cO 44 (cM 43), cG 45 44 false (fa 1 (t 5)), cG 46 44 false (cD 45), cG 47 44 false (lenS (t 46)), cG 48 44 false (cB .gtr (t 47) (cN ((1024)))), cO 49 (pick (t 44) cTru (t 48))]).seq (C2.cond (t 49) ((ops 0 [cO 4 (mov (cN ((5))))]).seq ret) skip)).seq (((ops 0 [cO 7 (mov (cN ((0))))]).seq (block 0 (((ops 0 [cO 50 (cM 7), cO 51 (fa 1 (t 5)), cO 52 (cD 51), cO 53 (lenS (t 52)), cO 54 (cB .lss (t 50) (t 53))]).seq (C2.cond (t 54) skip (exit 0))).seq ((block 1 (((mixS 1 [cO 57 (fa 1 (t 5)), cO 58 (cD 57), cO 59 (cM 7), cO 60 (ixaS 1 (t 58) (t 59)), cO 61 (cD 60), cO 62 (fa 0 (t 2)), cO 63 (cD 62), cO 64 (fa 2 (t 2)), cO 65 (cD 64), cO 66 (call (cF 80) [t 61, t 63, t 65]), cO 8 (cM 66)] [(0, 0), (1, 0), (2, 0), (3, 0), (4, 0), (5, 0), (6, 0), (7, 0), (8, 0), (9, 2), (10, 0)]).seq ((ops 0 [cO 67 (cM 8), cO 68 (cB .neq (t 67) (cN ((0))))]).seq (C2.cond (t 68) ((ops 0 [cO 69 (cM 8), cO 4 (cM 69)]).seq ret) skip))).seq ((mixS 1 [cO 70 (cM 7), cO 71 (cB .gtr (t 70) (cN ((0)))), cO 72 (cM 71), cG 73 72 true (fa 1 (t 5)), cG 74 72 true (cD 73), cG 75 72 true (cM 7), cG 76 72 true (cB .sub (t 75) (cN ((1)))), cG 77 72 true (ixaS 1 (t 74) (t 76)), cG 78 72 true (cD 77), cG 79 72 true (fa 1 (t 5)), cG 80 72 true (cD 79), cG 81 72 true (cM 7), cG 82 72 true (ixaS 1 (t 80) (t 81)), cG 83 72 true (cD 82), cG 84 72 true (call (cF 61) [t 78, t 83]), cG 85 72 true (cB .geq (t 84) (cN ((0)))), cO 86 (pick (t 72) (t 85) cFal)] [(0, 0), (1, 0), (2, 0), (3, 0), (4, 0), (5, 0), (6, 0), (7, 0), (8, 0), (9, 0), (10, 0), (11, 0), (12, 0), (13, 0), (14, 2), (15, 0), (16, 0)]).seq (C2.cond (t 86) ((ops 0 [cO 4 (mov (cN ((14))))]).seq ret) skip)))).seq (ops 0 [cO 55 (cM 7), cO 56 (cB .add (t 55) (cN ((1)))), cO 7 (cM 56)]))).loop)).seq (((ops 0 [cO 9 (mov (cN ((0))))]).seq (block 2 (((ops 0 [cO 87 (cM 9), cO 88 (fa 2 (t 5)), cO 89 (cD 88), cO 90 (lenS (t 89)), cO 91 (cB .lss (t 87) (t 90))]).seq (C2.cond (t 91) skip (exit 2))).seq ((block 3 (((mixS 1 [cO 94 (fa 1 (t 5)), cO 95 (cD 94), cO 96 (fa 2 (t 5)), cO 97 (cD 96), cO 98 (cM 9), cO 99 (ixaS 1 (t 97) (t 98)), cO 100 (cD 99), cO 101 (call (cF 81) [t 95, t 100]), cO 102 (un UnOp.not (t 101))] [(0, 0), (1, 0), (2, 0), (3, 0), (4, 0), (5, 0), (6, 0), (7, 2), (8, 0)]).seq (C2.cond (t 102) ((ops 0 [cO 4 (mov (cN ((6))))]).seq ret) skip)).seq ((mixS 1 [cO 103 (cM 9), cO 104 (cB .gtr (t 103) (cN ((0)))), cO 105 (cM 104), cG 106 105 true (fa 2 (t 5)), cG 107 105 true (cD 106), cG 108 105 true (cM 9), cG 109 105 true (cB .sub (t 108) (cN ((1)))), cG 110 105 true (ixaS 1 (t 107) (t 109)), cG 111 105 true (cD 110), cG 112 105 true (fa 2 (t 5)), cG 113 105 true (cD 112), cG 114 105 true (cM 9), cG 115 105 true (ixaS 1 (t 113) (t 114)), cG 116 105 true (cD 115), cG 117 105 true (call (cF 61) [t 111, t 116]), cG 118 105 true (cB .geq (t 117) (cN ((0)))), cO 119 (pick (t 105) (t 118) cFal)] [(0, 0), (1, 0), (2, 0), (3, 0), (4, 0), (5, 0), (6, 0), (7, 0), (8, 0), (9, 0), (10, 0), (11, 0), (12, 0), (13, 0), (14, 2), (15, 0), (16, 0)]).seq (C2.cond (t 119) ((ops 0 [cO 4 (mov (cN ((14))))]).seq ret) skip)))).seq (ops 0 [cO 92 (cM 9), cO 93 (cB .add (t 92) (cN ((1)))), cO 9 (cM 93)]))).loop)).seq ((ops 0 [cO 4 (mov (cN ((0))))]).seq ret)))))))))
theorem is50 : Is Tryz.prog 50 b50 := Is.mk' Tryz.func50 (by kernel_rfl)

def b51 : F2 := (F2.mk 33 [RV.t 6] ((ops 0 [cO 3 (box (t 0)), cO 6 (mov (cN ((0))))]).seq (((ops 0 [cO 8 (ldn 4 (t 3)), cO 9 (call (cF 14) [t 8]), cO 7 (cM 9)]).seq ((ops 0 [cO 10 (cM 7), cO 11 (cB .neq (t 10) (cN ((0))))]).seq (C2.cond (t 11) ((ops 0 [cO 12 (cM 7), cO 6 (cM 12)]).seq ret) skip))).seq ((block 0 ((ops 0 [cO 14 (cM 1), cO 15 (cB .lss (t 14) (cN ((0)))), cO 16 (cM 15), cG 17 16 false (cM 1), cG 18 16 false (fa 3 (t 3)), cG 19 16 false (cD 18), cG 20 16 false (lenS (t 19)), cG 21 16 false (cB .geq (t 17) (t 20)), cO 22 (pick (t 16) cTru (t 21)), cO 13 (cM 22)]).seq (C2.cond (t 13) ((ops 0 [cO 6 (mov (cN ((6))))]).seq ret) ((ops 0 [cO 24 (cM 2), cO 25 (cB .lss (t 24) (cN ((0)))), cO 26 (cM 25), cG 27 26 false (cM 2), cG 28 26 false (fa 0 (t 3)), cG 29 26 false (cD 28), cG 30 26 false (cB .shl (cN ((1))) (t 29)), cG 31 26 false (cB .geq (t 27) (t 30)), cO 32 (pick (t 26) cTru (t 31)), cO 23 (cM 32)]).seq (C2.cond (t 23) ((ops 0 [cO 6 (mov (cN ((2))))]).seq ret) skip))))).seq ((ops 0 [cO 6 (mov (cN ((0))))]).seq ret)))))
theorem is51 : Is Tryz.prog 51 b51 := Is.mk' Tryz.func51 (by kernel_rfl)

def b52 : F2 := (F2.mk 19 [RV.t 2] ((ops 0 [cO 2 (mov (c AV.esl))]).seq ((ops 0 [cO 3 (mov (c AV.esl))]).seq (((ops 0 [cO 6 (cM 0), cO 7 (lenS (t 6)), cO 8 (mov (cN ((0))))]).seq (block 0 ((ops 0 [cO 9 (cB .lss (t 8) (t 7))]).seq ((C2.cond (t 9) skip (exit 0)).seq ((block 1 ((ops 0 [cO 10 (ixaS 1 (t 6) (t 8)), cO 11 (cD 10), cO 5 (cM 11)]).seq (ops 0 [cO 12 (cM 3), cO 13 (cM 5), cO 14 (call (cF 37) [t 13]), cO 15 (bldS 1 1 [AV.esl] [(0, 1, t 14)]), cO 16 (app 1 24 (t 12) (t 15)), cO 3 (cM 16)]))).seq (ops 0 [cO 17 (cB .add (t 8) (cN ((1)))), cO 8 (cM 17)])))).loop)).seq ((ops 0 [cO 18 (cM 3), cO 2 (cM 18)]).seq ret)))))
theorem is52 : Is Tryz.prog 52 b52 := Is.mk' Tryz.func52 (by kernel_rfl)

def b53 : F2 := (F2.mk 17 [RV.t 4] ((ops 0 [cO 2 (box (t 0)), cO 4 (mov (c AV.esl))]).seq (((ops 0 [cO 5 (cM 1), cO 6 (cB .eql (t 5) (cN ((0)))), cO 7 (cM 6), cG 8 7 true (fa 2 (t 2)), cG 9 7 true (cD 8), cG 10 7 true (lenS (t 9)), cG 11 7 true (cB .gtr (t 10) (cN ((0)))), cO 12 (pick (t 7) (t 11) cFal)]).seq (C2.cond (t 12) ((ops 0 [cO 13 (fa 2 (t 2)), cO 14 (cD 13), cO 4 (cM 14)]).seq ret) skip)).seq ((ops 0 [cO 15 (fa 1 (t 2)), cO 16 (cD 15), cO 4 (cM 16)]).seq ret))))
theorem is53 : Is Tryz.prog 53 b53 := Is.mk' Tryz.func53 (by kernel_rfl)

def b56 : F2 := (F2.mk 9 [RV.t 4] ((ops 0 [cO 4 (mov cFal)]).seq ((ops 0 [cO 5 (cM 0), cO 6 (cM 1), cO 7 (call (cF 83) [t 5, t 6]), cO 8 (cB .geq (t 7) (cN ((0)))), cO 4 (cM 8)]).seq ret)))
theorem is56 : Is Tryz.prog 56 b56 := Is.mk' Tryz.func56 (by kernel_rfl)

def b57 : F2 := (F2.mk 12 [RV.t 3] ((ops 0 [cO 3 (mov cFal)]).seq ((ops 0 [cO 4 (cM 0), cO 5 (cB .lss (t 4) (cN ((-1)))), cO 6 (cM 5), cG 7 6 false (cM 0), cG 8 6 false (fa 2 (t 1)), cG 9 6 false (cD 8), cG 10 6 false (cB .geq (t 7) (t 9)), cO 11 (pick (t 6) cTru (t 10)), cO 3 (cM 11)]).seq ret)))
theorem is57 : Is Tryz.prog 57 b57 := Is.mk' Tryz.func57 (by kernel_rfl)

def b58 : F2 := (F2.mk 9 [RV.t 4] ((ops 0 [cO 4 (mov cFal)]).seq ((ops 0 [cO 5 (cM 0), cO 6 (cD 1), cO 7 (cD 2), cO 8 (call (cF 59) [t 5, t 6, t 7]), cO 4 (cM 8)]).seq ret)))
theorem is58 : Is Tryz.prog 58 b58 := Is.mk' Tryz.func58 (by kernel_rfl)

def b59 : F2 := (F2.mk 30 [RV.t 6] ((ops 0 [cO 6 (mov cFal)]).seq (((ops 0 [cO 9 (cM 0), cO 10 (lenS (t 9)), cO 11 (mov (cN ((0))))]).seq (block 0 ((ops 0 [cO 12 (cB .lss (t 11) (t 10))]).seq ((C2.cond (t 12) skip (exit 0)).seq ((block 1 ((ops 0 [cO 13 (cM 11), cO 14 (ixaS 1 (t 9) (t 11)), cO 15 (cD 14), cO 7 (cM 13), cO 8 (cM 15)]).seq ((ops 0 [cO 16 (cM 2), cO 17 (cM 7), cO 18 (cB .shr (t 16) (t 17)), cO 19 (cB .and (t 18) (cN ((1)))), cO 20 (cB .eql (t 19) (cN ((0)))), cO 21 (cM 20), cG 22 21 true (cM 1), cG 23 21 true (cM 7), cG 24 21 true (ixaS 1 (t 22) (t 23)), cG 25 21 true (cD 24), cG 26 21 true (cM 8), cG 27 21 true (cB .neq (t 25) (t 26)), cO 28 (pick (t 21) (t 27) cFal)]).seq (C2.cond (t 28) ((ops 0 [cO 6 (mov cFal)]).seq ret) skip)))).seq (ops 0 [cO 29 (cB .add (t 11) (cN ((1)))), cO 11 (cM 29)])))).loop)).seq ((ops 0 [cO 6 (mov cTru)]).seq ret))))
theorem is59 : Is Tryz.prog 59 b59 := Is.mk' Tryz.func59 (by kernel_rfl)

def b61 : F2 := (F2.mk 46 [RV.t 4] ((ops 0 [cO 4 (mov (cN ((0))))]).seq (((ops 0 [cO 5 (mov (cN ((0))))]).seq (block 0 (((ops 0 [cO 6 (cM 5), cO 7 (cM 0), cO 8 (lenS (t 7)), cO 9 (cB .lss (t 6) (t 8)), cO 10 (cM 9), cG 11 10 true (cM 5), cG 12 10 true (cM 1), cG 13 10 true (lenS (t 12)), cG 14 10 true (cB .lss (t 11) (t 13)), cO 15 (pick (t 10) (t 14) cFal)]).seq (C2.cond (t 15) skip (exit 0))).seq ((block 1 (((ops 1 [cO 18 (cM 0), cO 19 (cM 5), cO 20 (ixaS 1 (t 18) (t 19)), cO 21 (cD 20), cO 22 (cM 1), cO 23 (cM 5), cO 24 (ixaS 1 (t 22) (t 23)), cO 25 (cD 24), cO 26 (cB .lss (t 21) (t 25))]).seq (C2.cond (t 26) ((ops 0 [cO 4 (mov (cN ((-1))))]).seq ret) skip)).seq ((ops 1 [cO 27 (cM 0), cO 28 (cM 5), cO 29 (ixaS 1 (t 27) (t 28)), cO 30 (cD 29), cO 31 (cM 1), cO 32 (cM 5), cO 33 (ixaS 1 (t 31) (t 32)), cO 34 (cD 33), cO 35 (cB .gtr (t 30) (t 34))]).seq (C2.cond (t 35) ((ops 0 [cO 4 (mov (cN ((1))))]).seq ret) skip)))).seq (ops 0 [cO 16 (cM 5), cO 17 (cB .add (t 16) (cN ((1)))), cO 5 (cM 17)]))).loop)).seq (((ops 0 [cO 36 (cM 0), cO 37 (lenS (t 36)), cO 38 (cM 1), cO 39 (lenS (t 38)), cO 40 (cB .lss (t 37) (t 39))]).seq (C2.cond (t 40) ((ops 0 [cO 4 (mov (cN ((-1))))]).seq ret) skip)).seq (((ops 0 [cO 41 (cM 0), cO 42 (lenS (t 41)), cO 43 (cM 1), cO 44 (lenS (t 43)), cO 45 (cB .gtr (t 42) (t 44))]).seq (C2.cond (t 45) ((ops 0 [cO 4 (mov (cN ((1))))]).seq ret) skip)).seq ((ops 0 [cO 4 (mov (cN ((0))))]).seq ret))))))
theorem is61 : Is Tryz.prog 61 b61 := Is.mk' Tryz.func61 (by kernel_rfl)

def b62 : F2 := (F2.mk 11 [] ((ops 0 [cO 3 (cM 0), cO 4 (lenS (t 3)), cO 2 (cM 4)]).seq (ops 0 [cO 5 (cM 0), cO 6 (cM 2), cO 7 (cM 2), cO 8 (conv IntKind.u64 (t 7)), cO 9 (call (cF 86) [t 8]), cO 10 (call (cF 85) [t 5, c (AV.int IntKind.i64 (0)), t 6, t 9])])))
theorem is62 : Is Tryz.prog 62 b62 := Is.mk' Tryz.func62 (by kernel_rfl)

def b64 : F2 := (F2.mk 6 [RV.t 4] ((ops 0 [cO 2 (box (t 0)), cO 3 (box (t 1)), cO 4 (mov (c AV.nilf))]).seq ((ops 0 [cO 5 (mkfn 87 [t 3, t 2]), cO 4 (cM 5)]).seq ret)))
theorem is64 : Is Tryz.prog 64 b64 := Is.mk' Tryz.func64 (by kernel_rfl)

def b65 : F2 := (F2.mk 33 [RV.t 2] ((ops 0 [cO 2 (mov (cN ((0))))]).seq (((ops 0 [cO 7 (cM 0), cO 8 (lenS (t 7)), cO 9 (call (cF 88) [t 8]), cO 3 (cM 9)]).seq ((ops 0 [cO 10 (cM 3), cO 11 (cB .neq (t 10) (cN ((0))))]).seq (C2.cond (t 11) ((ops 0 [cO 12 (cM 3), cO 2 (cM 12)]).seq ret) skip))).seq ((ops 0 [cO 4 (alloc (AV.agg [AV.bool false, AV.bool false, AV.bool false, AV.bool false, AV.bool false]))]).seq (((ops 0 [cO 13 (cM 0), cO 14 (lenS (t 13)), cO 15 (mov (cN ((0))))]).seq (block 0 ((ops 0 [cO 16 (cB .lss (t 15) (t 14))]).seq ((C2.cond (t 16) skip (exit 0)).seq ((block 1 ((ops 0 [cO 17 (ixaS 1 (t 13) (t 15)), cO 18 (cD 17), cO 6 (cM 18)]).seq (((ops 0 [cO 19 (cM 6), cO 20 (cB .lss (t 19) (cN ((0)))), cO 21 (cM 20), cG 22 21 false (cM 6), cG 23 21 false (cM 0), cG 24 21 false (lenS (t 23)), cG 25 21 false (cB .geq (t 22) (t 24)), cO 26 (pick (t 21) cTru (t 25))]).seq (C2.cond (t 26) ((ops 0 [cO 2 (mov (cN ((2))))]).seq ret) skip)).seq (((ops 0 [cO 27 (cM 6), cO 28 (ixaA 5 1 (t 4) (t 27)), cO 29 (cD 28)]).seq (C2.cond (t 29) ((ops 0 [cO 2 (mov (cN ((7))))]).seq ret) skip)).seq (ops 0 [cO 30 (cM 6), cO 31 (ixaA 5 1 (t 4) (t 30)), Op2.mk none none (Ins.st 1 (t 31) cTru)]))))).seq (ops 0 [cO 32 (cB .add (t 15) (cN ((1)))), cO 15 (cM 32)])))).loop)).seq ((ops 0 [cO 2 (mov (cN ((0))))]).seq ret))))))
theorem is65 : Is Tryz.prog 65 b65 := Is.mk' Tryz.func65 (by kernel_rfl)

def b66 : F2 := (F2.mk 30 [RV.t 4] ((ops 0 [cO 4 (mov (c AV.esl))]).seq ((ops 0 [cO 5 (mov (c AV.esl))]).seq (((ops 0 [cO 10 (cM 0), cO 11 (lenS (t 10)), cO 12 (mov (cN ((0))))]).seq (block 0 ((ops 0 [cO 13 (cB .lss (t 12) (t 11))]).seq ((C2.cond (t 13) skip (exit 0)).seq ((block 1 ((ops 0 [cO 14 (ixaS 1 (t 10) (t 12)), cO 15 (cD 14), cO 7 (cM 15)]).seq ((ops 0 [cO 17 (cM 1), cO 18 (cM 7), cO 19 (call (cF 89) [t 17, t 18]), cO 16 (cM 19), cO 20 (ext (t 16) 0), cO 21 (ext (t 16) 1), cO 8 (cM 20), cO 9 (cM 21)]).seq (ops 0 [cO 22 (cM 5), cO 23 (cM 8), cO 24 (bldS 1 1 [AV.esl] [(0, 1, t 23)]), cO 25 (app 1 24 (t 22) (t 24)), cO 5 (cM 25)])))).seq (ops 0 [cO 26 (cB .add (t 12) (cN ((1)))), cO 12 (cM 26)])))).loop)).seq ((ops 0 [cO 27 (cM 5), cO 28 (call (cF 90) [t 27, c (AV.func 46 [])])]).seq ((ops 0 [cO 29 (cM 5), cO 4 (cM 29)]).seq ret))))))
theorem is66 : Is Tryz.prog 66 b66 := Is.mk' Tryz.func66 (by kernel_rfl)

def b67 : F2 := (F2.mk 14 [] ((ops 0 [cO 5 (cM 0), cO 6 (lenS (t 5)), cO 4 (cM 6)]).seq (ops 0 [cO 7 (cM 0), cO 8 (cM 4), cO 9 (cM 4), cO 10 (conv IntKind.u64 (t 9)), cO 11 (call (cF 86) [t 10]), cO 12 (cM 1), cO 13 (call (cF 91) [t 7, c (AV.int IntKind.i64 (0)), t 8, t 11, t 12])])))
theorem is67 : Is Tryz.prog 67 b67 := Is.mk' Tryz.func67 (by kernel_rfl)

def b68 : F2 := (F2.mk 10 [RV.t 4] ((ops 0 [cO 2 (box (t 0)), cO 3 (box (t 1)), cO 4 (mov (cN ((0))))]).seq ((ops 0 [cO 5 (fa 0 (t 2)), cO 6 (cD 5), cO 7 (fa 0 (t 3)), cO 8 (cD 7), cO 9 (call (cF 46) [t 6, t 8]), cO 4 (cM 9)]).seq ret)))
theorem is68 : Is Tryz.prog 68 b68 := Is.mk' Tryz.func68 (by kernel_rfl)

def b70 : F2 := (F2.mk 7 [RV.t 2] ((ops 0 [cO 1 (box (t 0)), cO 2 (mov cFal)]).seq ((ops 0 [cO 3 (cD 1), cO 4 (mkfn 94 [t 1]), cO 5 (call (cF 56) [t 3, t 4]), cO 6 (un UnOp.not (t 5)), cO 2 (cM 6)]).seq ret)))
theorem is70 : Is Tryz.prog 70 b70 := Is.mk' Tryz.func70 (by kernel_rfl)

def b72 : F2 := (F2.mk 12 [RV.t 3] ((ops 0 [cO 3 (mov cFal)]).seq ((ops 0 [cO 4 (cM 0), cO 5 (cB .lss (t 4) (cN ((-1)))), cO 6 (cM 5), cG 7 6 false (cM 0), cG 8 6 false (fa 2 (t 1)), cG 9 6 false (cD 8), cG 10 6 false (cB .geq (t 7) (t 9)), cO 11 (pick (t 6) cTru (t 10)), cO 3 (cM 11)]).seq ret)))
theorem is72 : Is Tryz.prog 72 b72 := Is.mk' Tryz.func72 (by kernel_rfl)

def b73 : F2 := (F2.mk 19 [RV.t 4] ((ops 0 [cO 4 (mov (cN ((0))))]).seq (((ops 0 [cO 6 (cM 0), cO 7 (lenS (t 6)), cO 8 (mov (cN ((0))))]).seq (block 0 ((ops 0 [cO 9 (cB .lss (t 8) (t 7))]).seq ((C2.cond (t 9) skip (exit 0)).seq ((block 1 ((ops 0 [cO 10 (cM 8), cO 5 (cM 10)]).seq ((ops 0 [cO 11 (cM 1), cO 12 (cM 0), cO 13 (cM 5), cO 14 (ixaS 1 (t 12) (t 13)), cO 15 (cD 14), cO 16 (cB .eql (t 11) (t 15))]).seq (C2.cond (t 16) ((ops 0 [cO 17 (cM 5), cO 4 (cM 17)]).seq ret) skip)))).seq (ops 0 [cO 18 (cB .add (t 8) (cN ((1)))), cO 8 (cM 18)])))).loop)).seq ((ops 0 [cO 4 (mov (cN ((-1))))]).seq ret))))
theorem is73 : Is Tryz.prog 73 b73 := Is.mk' Tryz.func73 (by kernel_rfl)

def b74 : F2 := (F2.mk 17 [RV.t 4] ((ops 0 [cO 4 (mov cFal)]).seq ((ops 0 [cO 5 (cM 0), cO 6 (call (cF 96) [t 5]), cO 7 (cM 6), cG 8 7 true (cM 1), cG 9 7 true (call (cF 96) [t 8]), cG 10 7 true (un UnOp.not (t 9)), cO 11 (pick (t 7) (t 10) cFal), cO 12 (cM 11), cG 13 12 false (cM 0), cG 14 12 false (cM 1), cG 15 12 false (cB .lss (t 13) (t 14)), cO 16 (pick (t 12) cTru (t 15)), cO 4 (cM 16)]).seq ret)))
theorem is74 : Is Tryz.prog 74 b74 := Is.mk' Tryz.func74 (by kernel_rfl)

def b75 : F2 := (F2.mk 19 [RV.t 4] ((ops 0 [cO 4 (mov (cN ((0))))]).seq (((ops 0 [cO 6 (cM 0), cO 7 (lenS (t 6)), cO 8 (mov (cN ((0))))]).seq (block 0 ((ops 0 [cO 9 (cB .lss (t 8) (t 7))]).seq ((C2.cond (t 9) skip (exit 0)).seq ((block 1 ((ops 0 [cO 10 (cM 8), cO 5 (cM 10)]).seq ((ops 0 [cO 11 (cM 1), cO 12 (cM 0), cO 13 (cM 5), cO 14 (ixaS 1 (t 12) (t 13)), cO 15 (cD 14), cO 16 (call (t 11) [t 15])]).seq (C2.cond (t 16) ((ops 0 [cO 17 (cM 5), cO 4 (cM 17)]).seq ret) skip)))).seq (ops 0 [cO 18 (cB .add (t 8) (cN ((1)))), cO 8 (cM 18)])))).loop)).seq ((ops 0 [cO 4 (mov (cN ((-1))))]).seq ret))))
theorem is75 : Is Tryz.prog 75 b75 := Is.mk' Tryz.func75 (by kernel_rfl)

def b76 : F2 := (F2.mk 20 [RV.t 4] ((ops 0 [cO 4 (mov (cN ((0))))]).seq ((ops 0 [cO 7 (cM 0), cO 8 (call (cF 96) [t 7]), cO 5 (cM 8)]).seq ((ops 0 [cO 9 (cM 1), cO 10 (call (cF 96) [t 9]), cO 6 (cM 10)]).seq (((ops 0 [cO 11 (cM 5)]).seq (C2.cond (t 11) (((ops 0 [cO 12 (cM 6)]).seq (C2.cond (t 12) ((ops 0 [cO 4 (mov (cN ((0))))]).seq ret) skip)).seq ((ops 0 [cO 4 (mov (cN ((-1))))]).seq ret)) skip)).seq (((ops 0 [cO 13 (cM 6)]).seq (C2.cond (t 13) ((ops 0 [cO 4 (mov (cN ((1))))]).seq ret) skip)).seq (((ops 0 [cO 14 (cM 0), cO 15 (cM 1), cO 16 (cB .lss (t 14) (t 15))]).seq (C2.cond (t 16) ((ops 0 [cO 4 (mov (cN ((-1))))]).seq ret) skip)).seq (((ops 0 [cO 17 (cM 0), cO 18 (cM 1), cO 19 (cB .gtr (t 17) (t 18))]).seq (C2.cond (t 19) ((ops 0 [cO 4 (mov (cN ((1))))]).seq ret) skip)).seq ((ops 0 [cO 4 (mov (cN ((0))))]).seq ret)))))))))
theorem is76 : Is Tryz.prog 76 b76 := Is.mk' Tryz.func76 (by kernel_rfl)

def b77 : F2 := (F2.mk 11 [RV.t 3] ((ops 0 [cO 3 (mov cFal)]).seq ((ops 0 [cO 4 (cM 0), cO 5 (cB .lss (t 4) (cN ((0)))), cO 6 (cM 5), cG 7 6 false (cM 0), cG 8 6 false (cD 1), cG 9 6 false (cB .geq (t 7) (t 8)), cO 10 (pick (t 6) cTru (t 9)), cO 3 (cM 10)]).seq ret)))
theorem is77 : Is Tryz.prog 77 b77 := Is.mk' Tryz.func77 (by kernel_rfl)

def b78 : F2 := (F2.mk 20 [RV.t 4] ((ops 0 [cO 4 (mov cFal)]).seq ((mixS 1 [cO 5 (cM 1), cO 6 (cB .gtr (t 5) (cN ((0)))), cO 7 (cM 6), cG 8 7 true (cM 0), cG 9 7 true (cM 1), cG 10 7 true (cB .sub (t 9) (cN ((1)))), cG 11 7 true (ixaS 1 (t 8) (t 10)), cG 12 7 true (cD 11), cG 13 7 true (cM 0), cG 14 7 true (cM 1), cG 15 7 true (ixaS 1 (t 13) (t 14)), cG 16 7 true (cD 15), cG 17 7 true (call (cF 46) [t 12, t 16]), cG 18 7 true (cB .geq (t 17) (cN ((0)))), cO 19 (pick (t 7) (t 18) cFal), cO 4 (cM 19)] [(0, 0), (1, 0), (2, 0), (3, 0), (4, 0), (5, 0), (6, 0), (7, 0), (8, 0), (9, 0), (10, 0), (11, 0), (12, 2), (13, 0), (14, 0), (15, 0)]).seq ret)))
theorem is78 : Is Tryz.prog 78 b78 := Is.mk' Tryz.func78 (by kernel_rfl)

def b79 : F2 := (F2.mk 8 [RV.t 4] ((ops 0 [cO 3 (box (t 1)), cO 4 (mov cFal)]).seq ((ops 0 [cO 5 (cM 0), cO 6 (mkfn 97 [t 3]), cO 7 (call (cF 40) [t 5, t 6]), cO 4 (cM 7)]).seq ret)))
theorem is79 : Is Tryz.prog 79 b79 := Is.mk' Tryz.func79 (by kernel_rfl)

def b80 : F2 := (F2.mk 30 [RV.t 6] ((ops 0 [cO 6 (mov (cN ((0))))]).seq (((ops 0 [cO 8 (cM 0), cO 9 (lenS (t 8)), cO 10 (cM 1), cO 11 (cB .neq (t 9) (t 10))]).seq (C2.cond (t 11) ((ops 0 [cO 6 (mov (cN ((15))))]).seq ret) skip)).seq (((ops 0 [cO 7 (mov (cN ((0))))]).seq (block 0 (((ops 0 [cO 12 (cM 7), cO 13 (cM 1), cO 14 (cB .lss (t 12) (t 13))]).seq (C2.cond (t 14) skip (exit 0))).seq ((block 1 ((ops 0 [cO 17 (cM 0), cO 18 (cM 7), cO 19 (ixaS 1 (t 17) (t 18)), cO 20 (cD 19), cO 21 (cB .lss (t 20) (cN ((0)))), cO 22 (cM 21), cG 23 22 false (cM 0), cG 24 22 false (cM 7), cG 25 22 false (ixaS 1 (t 23) (t 24)), cG 26 22 false (cD 25), cG 27 22 false (cM 2), cG 28 22 false (cB .geq (t 26) (t 27)), cO 29 (pick (t 22) cTru (t 28))]).seq (C2.cond (t 29) ((ops 0 [cO 6 (mov (cN ((2))))]).seq ret) skip))).seq (ops 0 [cO 15 (cM 7), cO 16 (cB .add (t 15) (cN ((1)))), cO 7 (cM 16)]))).loop)).seq ((ops 0 [cO 6 (mov (cN ((0))))]).seq ret)))))
theorem is80 : Is Tryz.prog 80 b80 := Is.mk' Tryz.func80 (by kernel_rfl)

def b81 : F2 := (F2.mk 19 [RV.t 4] ((ops 0 [cO 4 (mov cFal)]).seq (((ops 0 [cO 5 (mov (cN ((0))))]).seq (block 0 (((ops 0 [cO 6 (cM 5), cO 7 (cM 0), cO 8 (lenS (t 7)), cO 9 (cB .lss (t 6) (t 8))]).seq (C2.cond (t 9) skip (exit 0))).seq ((block 1 ((ops 0 [cO 12 (cM 0), cO 13 (cM 5), cO 14 (ixaS 1 (t 12) (t 13)), cO 15 (cD 14), cO 16 (cM 1), cO 17 (call (cF 61) [t 15, t 16]), cO 18 (cB .eql (t 17) (cN ((0))))]).seq (C2.cond (t 18) ((ops 0 [cO 4 (mov cTru)]).seq ret) skip))).seq (ops 0 [cO 10 (cM 5), cO 11 (cB .add (t 10) (cN ((1)))), cO 5 (cM 11)]))).loop)).seq ((ops 0 [cO 4 (mov cFal)]).seq ret))))
theorem is81 : Is Tryz.prog 81 b81 := Is.mk' Tryz.func81 (by kernel_rfl)

def b83 : F2 := (F2.mk 19 [RV.t 4] ((ops 0 [cO 4 (mov (cN ((0))))]).seq (((ops 0 [cO 6 (cM 0), cO 7 (lenS (t 6)), cO 8 (mov (cN ((0))))]).seq (block 0 ((ops 0 [cO 9 (cB .lss (t 8) (t 7))]).seq ((C2.cond (t 9) skip (exit 0)).seq ((block 1 ((ops 0 [cO 10 (cM 8), cO 5 (cM 10)]).seq ((ops 0 [cO 11 (cM 1), cO 12 (cM 0), cO 13 (cM 5), cO 14 (ixaS 1 (t 12) (t 13)), cO 15 (cD 14), cO 16 (call (t 11) [t 15])]).seq (C2.cond (t 16) ((ops 0 [cO 17 (cM 5), cO 4 (cM 17)]).seq ret) skip)))).seq (ops 0 [cO 18 (cB .add (t 8) (cN ((1)))), cO 8 (cM 18)])))).loop)).seq ((ops 0 [cO 4 (mov (cN ((-1))))]).seq ret))))
theorem is83 : Is Tryz.prog 83 b83 := Is.mk' Tryz.func83 (by kernel_rfl)

def b85 : F2 := (F2.mk 134 [] ((ops 0 [cO 8 (mov cTru)]).seq ((ops 0 [cO 9 (mov cTru)]).seq (block 0 (block 1 ((ops 0 [cO 19 (cM 2), cO 20 (cM 1), cO 21 (cB .sub (t 19) (t 20)), cO 10 (cM 21)]).seq (((ops 0 [cO 22 (cM 10), cO 23 (cB .leq (t 22) (cN ((12))))]).seq (C2.cond (t 23) ((ops 0 [cO 24 (cM 0), cO 25 (cM 1), cO 26 (cM 2), cO 27 (call (cF 100) [t 24, t 25, t 26])]).seq ret) skip)).seq (((ops 0 [cO 28 (cM 3), cO 29 (cB .eql (t 28) (cN ((0))))]).seq (C2.cond (t 29) ((ops 0 [cO 30 (cM 0), cO 31 (cM 1), cO 32 (cM 2), cO 33 (call (cF 101) [t 30, t 31, t 32])]).seq ret) skip)).seq (((ops 0 [cO 34 (cM 8), cO 35 (un UnOp.not (t 34))]).seq (C2.cond (t 35) ((ops 0 [cO 36 (cM 0), cO 37 (cM 1), cO 38 (cM 2), cO 39 (call (cF 102) [t 36, t 37, t 38])]).seq (ops 0 [cO 40 (cM 3), cO 41 (cB .sub (t 40) (cN ((1)))), cO 3 (cM 41)])) skip)).seq ((ops 0 [cO 43 (cM 0), cO 44 (cM 1), cO 45 (cM 2), cO 46 (call (cF 103) [t 43, t 44, t 45]), cO 42 (cM 46), cO 47 (ext (t 42) 0), cO 48 (ext (t 42) 1), cO 11 (cM 47), cO 12 (cM 48)]).seq (((ops 0 [cO 49 (cM 12), cO 50 (cB .eql (t 49) (cN ((2))))]).seq (C2.cond (t 50) ((ops 0 [cO 51 (cM 0), cO 52 (cM 1), cO 53 (cM 2), cO 54 (call (cF 104) [t 51, t 52, t 53])]).seq ((ops 0 [cO 55 (cM 2), cO 56 (cB .sub (t 55) (cN ((1)))), cO 57 (cM 11), cO 58 (cM 1), cO 59 (cB .sub (t 57) (t 58)), cO 60 (cB .sub (t 56) (t 59)), cO 11 (cM 60)]).seq (ops 0 [cO 12 (mov (cN ((1))))]))) skip)).seq (((ops 0 [cO 61 (cM 8), cO 62 (cM 61), cG 63 62 true (cM 9), cO 64 (pick (t 62) (t 63) cFal), cO 65 (cM 64), cG 66 65 true (cM 12), cG 67 65 true (cB .eql (t 66) (cN ((1)))), cO 68 (pick (t 65) (t 67) cFal)]).seq (C2.cond (t 68) ((ops 0 [cO 69 (cM 0), cO 70 (cM 1), cO 71 (cM 2), cO 72 (call (cF 105) [t 69, t 70, t 71])]).seq (C2.cond (t 72) ret skip)) skip)).seq (((mixS 1 [cO 73 (cM 1), cO 74 (cB .gtr (t 73) (cN ((0)))), cO 75 (cM 74), cG 76 75 true (cM 0), cG 77 75 true (cM 1), cG 78 75 true (cB .sub (t 77) (cN ((1)))), cG 79 75 true (ixaS 1 (t 76) (t 78)), cG 80 75 true (cD 79), cG 81 75 true (cM 0), cG 82 75 true (cM 11), cG 83 75 true (ixaS 1 (t 81) (t 82)), cG 84 75 true (cD 83), cG 85 75 true (call (cF 74) [t 80, t 84]), cG 86 75 true (un UnOp.not (t 85)), cO 87 (pick (t 75) (t 86) cFal)] [(0, 0), (1, 0), (2, 0), (3, 0), (4, 0), (5, 0), (6, 0), (7, 0), (8, 0), (9, 0), (10, 0), (11, 0), (12, 2), (13, 0), (14, 0)]).seq (C2.cond (t 87) ((ops 0 [cO 88 (cM 0), cO 89 (cM 1), cO 90 (cM 2), cO 91 (cM 11), cO 92 (call (cF 106) [t 88, t 89, t 90, t 91]), cO 13 (cM 92)]).seq ((ops 0 [cO 93 (cM 13), cO 1 (cM 93)]).seq (exit 1))) skip)).seq ((ops 0 [cO 95 (cM 0), cO 96 (cM 1), cO 97 (cM 2), cO 98 (cM 11), cO 99 (call (cF 107) [t 95, t 96, t 97, t 98]), cO 94 (cM 99), cO 100 (ext (t 94) 0), cO 101 (ext (t 94) 1), cO 14 (cM 100), cO 15 (cM 101)]).seq ((ops 0 [cO 102 (cM 15), cO 9 (cM 102)]).seq ((ops 0 [cO 103 (cM 14), cO 104 (cM 1), cO 105 (cB .sub (t 103) (t 104)), cO 106 (cM 2), cO 107 (cM 14), cO 108 (cB .sub (t 106) (t 107)), cO 16 (cM 105), cO 17 (cM 108)]).seq ((ops 0 [cO 109 (cM 10), cO 110 (cB .quo (t 109) (cN ((8)))), cO 18 (cM 110)]).seq ((ops 0 [cO 111 (cM 16), cO 112 (cM 17), cO 113 (cB .lss (t 111) (t 112))]).seq (C2.cond (t 113) ((ops 0 [cO 114 (cM 16), cO 115 (cM 18), cO 116 (cB .geq (t 114) (t 115)), cO 8 (cM 116)]).seq ((ops 0 [cO 117 (cM 0), cO 118 (cM 1), cO 119 (cM 14), cO 120 (cM 3), cO 121 (call (cF 85) [t 117, t 118, t 119, t 120])]).seq (ops 0 [cO 122 (cM 14), cO 123 (cB .add (t 122) (cN ((1)))), cO 1 (cM 123)]))) ((ops 0 [cO 124 (cM 17), cO 125 (cM 18), cO 126 (cB .geq (t 124) (t 125)), cO 8 (cM 126)]).seq ((ops 0 [cO 127 (cM 0), cO 128 (cM 14), cO 129 (cB .add (t 128) (cN ((1)))), cO 130 (cM 2), cO 131 (cM 3), cO 132 (call (cF 85) [t 127, t 129, t 130, t 131])]).seq (ops 0 [cO 133 (cM 14), cO 2 (cM 133)])))))))))))))))))).loop))))
theorem is85 : Is Tryz.prog 85 b85 := Is.mk' Tryz.func85 (by kernel_rfl)

def b86 : F2 := (F2.mk 8 [RV.t 2] ((ops 0 [cO 2 (mov (cN ((0))))]).seq ((C2.cond cFal ((ops 0 [cO 3 (cM 0), cO 4 (conv IntKind.u32 (t 3)), cO 5 (call (cF 108) [t 4]), cO 2 (cM 5)]).seq ret) skip).seq ((ops 0 [cO 6 (cM 0), cO 7 (call (cF 109) [t 6]), cO 2 (cM 7)]).seq ret))))
theorem is86 : Is Tryz.prog 86 b86 := Is.mk' Tryz.func86 (by kernel_rfl)

def b87 : F2 := (F2.mk 32 [] ((ops 0 [cO 7 (cD 1), cO 8 (lenS (t 7)), cO 9 (mov (cN ((0))))]).seq (block 0 ((ops 0 [cO 10 (cB .lss (t 9) (t 8))]).seq ((C2.cond (t 10) skip (exit 0)).seq ((block 1 ((ops 0 [cO 11 (ixaS 1 (t 7) (t 9)), cO 12 (cD 11), cO 5 (cM 12)]).seq ((ops 0 [cO 13 (fa 3 (t 2)), cO 14 (cD 13), cO 15 (cM 5), cO 16 (ixaS 3 (t 14) (t 15)), cO 17 (ldn 3 (t 16)), cO 6 (alloc (AV.agg [AV.esl, AV.esl, AV.esl])), Op2.mk none none (Ins.st 3 (t 6) (t 17))]).seq ((mixS 1 [cO 18 (cM 0), cO 19 (fa 0 (t 6)), cO 20 (cD 19), cO 21 (call (cF 37) [t 20]), cO 22 (fa 1 (t 6)), cO 23 (cD 22), cO 24 (call (cF 52) [t 23]), cO 25 (fa 2 (t 6)), cO 26 (cD 25), cO 27 (call (cF 52) [t 26]), cO 28 (bld [AV.esl, AV.esl, AV.esl] [(0, 1, t 21), (1, 1, t 24), (2, 1, t 27)]), cO 29 (call (t 18) [t 28]), cO 30 (un UnOp.not (t 29))] [(0, 0), (1, 0), (2, 0), (4, 0), (5, 0), (7, 0), (8, 0), (3, 1), (6, 1), (9, 2), (10, 0), (11, 2), (12, 0)]).seq (C2.cond (t 30) ret skip))))).seq (ops 0 [cO 31 (cB .add (t 9) (cN ((1)))), cO 9 (cM 31)])))).loop)))
theorem is87 : Is Tryz.prog 87 b87 := Is.mk' Tryz.func87 (by kernel_rfl)

def b88 : F2 := (F2.mk 9 [RV.t 2] ((ops 0 [cO 2 (mov (cN ((0))))]).seq (((ops 0 [cO 3 (cM 0), cO 4 (cB .lss (t 3) (cN ((1)))), cO 5 (cM 4), cG 6 5 false (cM 0), cG 7 5 false (cB .gtr (t 6) (cN ((5)))), cO 8 (pick (t 5) cTru (t 7))]).seq (C2.cond (t 8) ((ops 0 [cO 2 (mov (cN ((2))))]).seq ret) skip)).seq ((ops 0 [cO 2 (mov (cN ((0))))]).seq ret))))
theorem is88 : Is Tryz.prog 88 b88 := Is.mk' Tryz.func88 (by kernel_rfl)

def b89 : F2 := (F2.mk 39 [RV.t 4, RV.t 5] ((ops 0 [cO 4 (mov (c AV.esl)), cO 5 (mov (cN ((0))))]).seq (((ops 0 [cO 10 (cM 0), cO 11 (call (cF 65) [t 10]), cO 6 (cM 11)]).seq ((ops 0 [cO 12 (cM 6), cO 13 (cB .neq (t 12) (cN ((0))))]).seq (C2.cond (t 13) ((ops 0 [cO 14 (cM 6), cO 4 (mov (c AV.esl)), cO 5 (cM 14)]).seq ret) skip))).seq (((ops 0 [cO 15 (cM 1), cO 16 (lenS (t 15)), cO 17 (cM 0), cO 18 (lenS (t 17)), cO 19 (cB .neq (t 16) (t 18))]).seq (C2.cond (t 19) ((ops 0 [cO 4 (mov (c AV.esl)), cO 5 (mov (cN ((15))))]).seq ret) skip)).seq ((ops 0 [cO 20 (cM 1), cO 21 (lenS (t 20)), cO 22 (mks 1 8 [AV.int IntKind.i64 (0)] (t 21) (t 21)), cO 7 (cM 22)]).seq (((ops 0 [cO 23 (cM 0), cO 24 (lenS (t 23)), cO 25 (mov (cN ((0))))]).seq (block 0 ((ops 0 [cO 26 (cB .lss (t 25) (t 24))]).seq ((C2.cond (t 26) skip (exit 0)).seq ((block 1 ((ops 0 [cO 27 (cM 25), cO 28 (ixaS 1 (t 23) (t 25)), cO 29 (cD 28), cO 8 (cM 27), cO 9 (cM 29)]).seq (ops 0 [cO 30 (cM 7), cO 31 (cM 9), cO 32 (cM 1), cO 33 (cM 8), cO 34 (ixaS 1 (t 32) (t 33)), cO 35 (cD 34), cO 36 (ixaS 1 (t 30) (t 31)), Op2.mk none none (Ins.st 1 (t 36) (t 35))]))).seq (ops 0 [cO 37 (cB .add (t 25) (cN ((1)))), cO 25 (cM 37)])))).loop)).seq ((ops 0 [cO 38 (cM 7), cO 4 (cM 38), cO 5 (mov (cN ((0))))]).seq ret)))))))
theorem is89 : Is Tryz.prog 89 b89 := Is.mk' Tryz.func89 (by kernel_rfl)

def b90 : F2 := (F2.mk 14 [] ((ops 0 [cO 5 (cM 0), cO 6 (lenS (t 5)), cO 4 (cM 6)]).seq (ops 0 [cO 7 (cM 0), cO 8 (cM 4), cO 9 (cM 4), cO 10 (conv IntKind.u64 (t 9)), cO 11 (call (cF 86) [t 10]), cO 12 (cM 1), cO 13 (call (cF 110) [t 7, c (AV.int IntKind.i64 (0)), t 8, t 11, t 12])])))
theorem is90 : Is Tryz.prog 90 b90 := Is.mk' Tryz.func90 (by kernel_rfl)

def b91 : F2 := (F2.mk 148 [] ((ops 0 [cO 10 (mov cTru)]).seq ((ops 0 [cO 11 (mov cTru)]).seq (block 0 (block 1 ((ops 0 [cO 21 (cM 2), cO 22 (cM 1), cO 23 (cB .sub (t 21) (t 22)), cO 12 (cM 23)]).seq (((ops 0 [cO 24 (cM 12), cO 25 (cB .leq (t 24) (cN ((12))))]).seq (C2.cond (t 25) ((ops 0 [cO 26 (cM 0), cO 27 (cM 1), cO 28 (cM 2), cO 29 (cM 4), cO 30 (call (cF 111) [t 26, t 27, t 28, t 29])]).seq ret) skip)).seq (((ops 0 [cO 31 (cM 3), cO 32 (cB .eql (t 31) (cN ((0))))]).seq (C2.cond (t 32) ((ops 0 [cO 33 (cM 0), cO 34 (cM 1), cO 35 (cM 2), cO 36 (cM 4), cO 37 (call (cF 112) [t 33, t 34, t 35, t 36])]).seq ret) skip)).seq (((ops 0 [cO 38 (cM 10), cO 39 (un UnOp.not (t 38))]).seq (C2.cond (t 39) ((ops 0 [cO 40 (cM 0), cO 41 (cM 1), cO 42 (cM 2), cO 43 (cM 4), cO 44 (call (cF 113) [t 40, t 41, t 42, t 43])]).seq (ops 0 [cO 45 (cM 3), cO 46 (cB .sub (t 45) (cN ((1)))), cO 3 (cM 46)])) skip)).seq ((ops 0 [cO 48 (cM 0), cO 49 (cM 1), cO 50 (cM 2), cO 51 (cM 4), cO 52 (call (cF 114) [t 48, t 49, t 50, t 51]), cO 47 (cM 52), cO 53 (ext (t 47) 0), cO 54 (ext (t 47) 1), cO 13 (cM 53), cO 14 (cM 54)]).seq (((ops 0 [cO 55 (cM 14), cO 56 (cB .eql (t 55) (cN ((2))))]).seq (C2.cond (t 56) ((ops 0 [cO 57 (cM 0), cO 58 (cM 1), cO 59 (cM 2), cO 60 (cM 4), cO 61 (call (cF 115) [t 57, t 58, t 59, t 60])]).seq ((ops 0 [cO 62 (cM 2), cO 63 (cB .sub (t 62) (cN ((1)))), cO 64 (cM 13), cO 65 (cM 1), cO 66 (cB .sub (t 64) (t 65)), cO 67 (cB .sub (t 63) (t 66)), cO 13 (cM 67)]).seq (ops 0 [cO 14 (mov (cN ((1))))]))) skip)).seq (((ops 0 [cO 68 (cM 10), cO 69 (cM 68), cG 70 69 true (cM 11), cO 71 (pick (t 69) (t 70) cFal), cO 72 (cM 71), cG 73 72 true (cM 14), cG 74 72 true (cB .eql (t 73) (cN ((1)))), cO 75 (pick (t 72) (t 74) cFal)]).seq (C2.cond (t 75) ((ops 0 [cO 76 (cM 0), cO 77 (cM 1), cO 78 (cM 2), cO 79 (cM 4), cO 80 (call (cF 116) [t 76, t 77, t 78, t 79])]).seq (C2.cond (t 80) ret skip)) skip)).seq (((mixS 1 [cO 81 (cM 1), cO 82 (cB .gtr (t 81) (cN ((0)))), cO 83 (cM 82), cG 84 83 true (cM 4), cG 85 83 true (cM 0), cG 86 83 true (cM 1), cG 87 83 true (cB .sub (t 86) (cN ((1)))), cG 88 83 true (ixaS 3 (t 85) (t 87)), cG 89 83 true (ldn 3 (t 88)), cG 90 83 true (cM 0), cG 91 83 true (cM 13), cG 92 83 true (ixaS 3 (t 90) (t 91)), cG 93 83 true (ldn 3 (t 92)), cG 94 83 true (call (t 84) [t 89, t 93]), cG 95 83 true (cB .lss (t 94) (cN ((0)))), cG 96 83 true (un UnOp.not (t 95)), cO 97 (pick (t 83) (t 96) cFal)] [(0, 0), (1, 0), (2, 0), (3, 0), (4, 0), (5, 0), (6, 0), (7, 0), (8, 0), (9, 0), (10, 0), (11, 0), (12, 0), (13, 2), (14, 0), (15, 0), (16, 0)]).seq (C2.cond (t 97) ((ops 0 [cO 98 (cM 0), cO 99 (cM 1), cO 100 (cM 2), cO 101 (cM 13), cO 102 (cM 4), cO 103 (call (cF 117) [t 98, t 99, t 100, t 101, t 102]), cO 15 (cM 103)]).seq ((ops 0 [cO 104 (cM 15), cO 1 (cM 104)]).seq (exit 1))) skip)).seq ((ops 0 [cO 106 (cM 0), cO 107 (cM 1), cO 108 (cM 2), cO 109 (cM 13), cO 110 (cM 4), cO 111 (call (cF 118) [t 106, t 107, t 108, t 109, t 110]), cO 105 (cM 111), cO 112 (ext (t 105) 0), cO 113 (ext (t 105) 1), cO 16 (cM 112), cO 17 (cM 113)]).seq ((ops 0 [cO 114 (cM 17), cO 11 (cM 114)]).seq ((ops 0 [cO 115 (cM 16), cO 116 (cM 1), cO 117 (cB .sub (t 115) (t 116)), cO 118 (cM 2), cO 119 (cM 16), cO 120 (cB .sub (t 118) (t 119)), cO 18 (cM 117), cO 19 (cM 120)]).seq ((ops 0 [cO 121 (cM 12), cO 122 (cB .quo (t 121) (cN ((8)))), cO 20 (cM 122)]).seq ((ops 0 [cO 123 (cM 18), cO 124 (cM 19), cO 125 (cB .lss (t 123) (t 124))]).seq (C2.cond (t 125) ((ops 0 [cO 126 (cM 18), cO 127 (cM 20), cO 128 (cB .geq (t 126) (t 127)), cO 10 (cM 128)]).seq ((ops 0 [cO 129 (cM 0), cO 130 (cM 1), cO 131 (cM 16), cO 132 (cM 3), cO 133 (cM 4), cO 134 (call (cF 91) [t 129, t 130, t 131, t 132, t 133])]).seq (ops 0 [cO 135 (cM 16), cO 136 (cB .add (t 135) (cN ((1)))), cO 1 (cM 136)]))) ((ops 0 [cO 137 (cM 19), cO 138 (cM 20), cO 139 (cB .geq (t 137) (t 138)), cO 10 (cM 139)]).seq ((ops 0 [cO 140 (cM 0), cO 141 (cM 16), cO 142 (cB .add (t 141) (cN ((1)))), cO 143 (cM 2), cO 144 (cM 3), cO 145 (cM 4), cO 146 (call (cF 91) [t 140, t 142, t 143, t 144, t 145])]).seq (ops 0 [cO 147 (cM 16), cO 2 (cM 147)])))))))))))))))))).loop))))
theorem is91 : Is Tryz.prog 91 b91 := Is.mk' Tryz.func91 (by kernel_rfl)

def b94 : F2 := (F2.mk 9 [RV.t 3] ((ops 0 [cO 3 (mov cFal)]).seq ((ops 0 [cO 4 (cM 0), cO 5 (cD 1), cO 6 (ixaS 1 (t 5) (cN ((0)))), cO 7 (cD 6), cO 8 (cB .neq (t 4) (t 7)), cO 3 (cM 8)]).seq ret)))
theorem is94 : Is Tryz.prog 94 b94 := Is.mk' Tryz.func94 (by kernel_rfl)

def b96 : F2 := (F2.mk 6 [RV.t 2] ((ops 0 [cO 2 (mov cFal)]).seq ((ops 0 [cO 3 (cM 0), cO 4 (cM 0), cO 5 (cB .neq (t 3) (t 4)), cO 2 (cM 5)]).seq ret)))
theorem is96 : Is Tryz.prog 96 b96 := Is.mk' Tryz.func96 (by kernel_rfl)

def b97 : F2 := (F2.mk 7 [RV.t 3] ((ops 0 [cO 3 (mov cFal)]).seq ((ops 0 [cO 4 (cM 0), cO 5 (cD 1), cO 6 (call (cF 23) [t 4, t 5]), cO 3 (cM 6)]).seq ret)))
theorem is97 : Is Tryz.prog 97 b97 := Is.mk' Tryz.func97 (by kernel_rfl)

def b100 : F2 := (F2.mk 49 [] ((ops 0 [cO 8 (cM 1), cO 9 (cB .add (t 8) (cN ((1)))), cO 6 (cM 9)]).seq (block 0 (((ops 0 [cO 10 (cM 6), cO 11 (cM 2), cO 12 (cB .lss (t 10) (t 11))]).seq (C2.cond (t 12) skip (exit 0))).seq ((block 1 ((ops 0 [cO 15 (cM 6), cO 7 (cM 15)]).seq (block 2 (((mixS 1 [cO 16 (cM 7), cO 17 (cM 1), cO 18 (cB .gtr (t 16) (t 17)), cO 19 (cM 18), cG 20 19 true (cM 0), cG 21 19 true (cM 7), cG 22 19 true (ixaS 1 (t 20) (t 21)), cG 23 19 true (cD 22), cG 24 19 true (cM 0), cG 25 19 true (cM 7), cG 26 19 true (cB .sub (t 25) (cN ((1)))), cG 27 19 true (ixaS 1 (t 24) (t 26)), cG 28 19 true (cD 27), cG 29 19 true (call (cF 74) [t 23, t 28]), cO 30 (pick (t 19) (t 29) cFal)] [(0, 0), (1, 0), (2, 0), (3, 0), (4, 0), (5, 0), (6, 0), (7, 0), (8, 0), (9, 0), (10, 0), (11, 0), (12, 0), (13, 2), (14, 0)]).seq (C2.cond (t 30) skip (exit 2))).seq ((block 3 (ops 1 [cO 33 (cM 0), cO 34 (cM 7), cO 35 (cM 0), cO 36 (cM 7), cO 37 (cB .sub (t 36) (cN ((1)))), cO 38 (cM 0), cO 39 (cM 7), cO 40 (cB .sub (t 39) (cN ((1)))), cO 41 (ixaS 1 (t 38) (t 40)), cO 42 (cD 41), cO 43 (cM 0), cO 44 (cM 7), cO 45 (ixaS 1 (t 43) (t 44)), cO 46 (cD 45), cO 47 (ixaS 1 (t 33) (t 34)), Op2.mk none none (Ins.st 1 (t 47) (t 42)), cO 48 (ixaS 1 (t 35) (t 37)), Op2.mk none none (Ins.st 1 (t 48) (t 46))])).seq (ops 0 [cO 31 (cM 7), cO 32 (cB .sub (t 31) (cN ((1)))), cO 7 (cM 32)]))).loop))).seq (ops 0 [cO 13 (cM 6), cO 14 (cB .add (t 13) (cN ((1)))), cO 6 (cM 14)]))).loop)))
theorem is100 : Is Tryz.prog 100 b100 := Is.mk' Tryz.func100 (by kernel_rfl)

def b101 : F2 := (F2.mk 56 [] ((ops 0 [cO 11 (cM 1), cO 6 (cM 11)]).seq ((ops 0 [cO 7 (mov (cN ((0))))]).seq ((ops 0 [cO 12 (cM 2), cO 13 (cM 1), cO 14 (cB .sub (t 12) (t 13)), cO 8 (cM 14)]).seq (((ops 0 [cO 15 (cM 8), cO 16 (cB .sub (t 15) (cN ((1)))), cO 17 (cB .quo (t 16) (cN ((2)))), cO 9 (cM 17)]).seq (block 0 (((ops 0 [cO 18 (cM 9), cO 19 (cB .geq (t 18) (cN ((0))))]).seq (C2.cond (t 19) skip (exit 0))).seq ((block 1 (ops 0 [cO 22 (cM 0), cO 23 (cM 9), cO 24 (cM 8), cO 25 (cM 6), cO 26 (call (cF 120) [t 22, t 23, t 24, t 25])])).seq (ops 0 [cO 20 (cM 9), cO 21 (cB .sub (t 20) (cN ((1)))), cO 9 (cM 21)]))).loop)).seq ((ops 0 [cO 27 (cM 8), cO 28 (cB .sub (t 27) (cN ((1)))), cO 10 (cM 28)]).seq (block 2 (((ops 0 [cO 29 (cM 10), cO 30 (cB .geq (t 29) (cN ((0))))]).seq (C2.cond (t 30) skip (exit 2))).seq ((block 3 ((ops 1 [cO 33 (cM 0), cO 34 (cM 6), cO 35 (cM 0), cO 36 (cM 6), cO 37 (cM 10), cO 38 (cB .add (t 36) (t 37)), cO 39 (cM 0), cO 40 (cM 6), cO 41 (cM 10), cO 42 (cB .add (t 40) (t 41)), cO 43 (ixaS 1 (t 39) (t 42)), cO 44 (cD 43), cO 45 (cM 0), cO 46 (cM 6), cO 47 (ixaS 1 (t 45) (t 46)), cO 48 (cD 47), cO 49 (ixaS 1 (t 33) (t 34)), Op2.mk none none (Ins.st 1 (t 49) (t 44)), cO 50 (ixaS 1 (t 35) (t 38)), Op2.mk none none (Ins.st 1 (t 50) (t 48))]).seq (ops 0 [cO 51 (cM 0), cO 52 (cM 7), cO 53 (cM 10), cO 54 (cM 6), cO 55 (call (cF 120) [t 51, t 52, t 53, t 54])]))).seq (ops 0 [cO 31 (cM 10), cO 32 (cB .sub (t 31) (cN ((1)))), cO 10 (cM 32)]))).loop)))))))
theorem is101 : Is Tryz.prog 101 b101 := Is.mk' Tryz.func101 (by kernel_rfl)

def b102 : F2 := (F2.mk 65 [] ((ops 0 [cO 11 (cM 2), cO 12 (cM 1), cO 13 (cB .sub (t 11) (t 12)), cO 6 (cM 13)]).seq ((ops 0 [cO 14 (cM 6), cO 15 (cB .geq (t 14) (cN ((8))))]).seq (C2.cond (t 15) ((ops 0 [cO 16 (cM 6), cO 17 (conv IntKind.u64 (t 16)), cO 7 (alloc (AV.int IntKind.u64 (0))), Op2.mk none none (Ins.st 1 (t 7) (t 17))]).seq ((ops 0 [cO 18 (cM 6), cO 19 (call (cF 121) [t 18]), cO 8 (cM 19)]).seq ((ops 0 [cO 20 (cM 1), cO 21 (cM 6), cO 22 (cB .quo (t 21) (cN ((4)))), cO 23 (cB .mul (t 22) (cN ((2)))), cO 24 (cB .add (t 20) (t 23)), cO 25 (cB .sub (t 24) (cN ((1)))), cO 9 (cM 25)]).seq (block 0 (((ops 0 [cO 26 (cM 9), cO 27 (cM 1), cO 28 (cM 6), cO 29 (cB .quo (t 28) (cN ((4)))), cO 30 (cB .mul (t 29) (cN ((2)))), cO 31 (cB .add (t 27) (t 30)), cO 32 (cB .add (t 31) (cN ((1)))), cO 33 (cB .leq (t 26) (t 32))]).seq (C2.cond (t 33) skip (exit 0))).seq ((block 1 ((ops 0 [cO 36 (call (cF 122) [t 7]), cO 37 (cM 8), cO 38 (cB .sub (t 37) (c (AV.int IntKind.u64 (1)))), cO 39 (cB .and (t 36) (t 38)), cO 40 (conv IntKind.i64 (t 39)), cO 10 (cM 40)]).seq (((ops 0 [cO 41 (cM 10), cO 42 (cM 6), cO 43 (cB .geq (t 41) (t 42))]).seq (C2.cond (t 43) (ops 0 [cO 44 (cM 10), cO 45 (cM 6), cO 46 (cB .sub (t 44) (t 45)), cO 10 (cM 46)]) skip)).seq (ops 1 [cO 47 (cM 0), cO 48 (cM 9), cO 49 (cM 0), cO 50 (cM 1), cO 51 (cM 10), cO 52 (cB .add (t 50) (t 51)), cO 53 (cM 0), cO 54 (cM 1), cO 55 (cM 10), cO 56 (cB .add (t 54) (t 55)), cO 57 (ixaS 1 (t 53) (t 56)), cO 58 (cD 57), cO 59 (cM 0), cO 60 (cM 9), cO 61 (ixaS 1 (t 59) (t 60)), cO 62 (cD 61), cO 63 (ixaS 1 (t 47) (t 48)), Op2.mk none none (Ins.st 1 (t 63) (t 58)), cO 64 (ixaS 1 (t 49) (t 52)), Op2.mk none none (Ins.st 1 (t 64) (t 62))])))).seq (ops 0 [cO 34 (cM 9), cO 35 (cB .add (t 34) (cN ((1)))), cO 9 (cM 35)]))).loop)))) skip))))
theorem is102 : Is Tryz.prog 102 b102 := Is.mk' Tryz.func102 (by kernel_rfl)

def b103 : F2 := (F2.mk 57 [RV.t 6, RV.t 7] ((ops 0 [cO 6 (mov (cN ((0)))), cO 7 (mov (cN ((0))))]).seq ((ops 0 [cO 13 (cM 2), cO 14 (cM 1), cO 15 (cB .sub (t 13) (t 14)), cO 8 (cM 15)]).seq ((ops 0 [cO 9 (alloc (AV.int IntKind.i64 (0)))]).seq ((ops 0 [cO 16 (cM 1), cO 17 (cM 8), cO 18 (cB .quo (t 17) (cN ((4)))), cO 19 (cB .mul (t 18) (cN ((1)))), cO 20 (cB .add (t 16) (t 19)), cO 10 (cM 20)]).seq ((ops 0 [cO 21 (cM 1), cO 22 (cM 8), cO 23 (cB .quo (t 22) (cN ((4)))), cO 24 (cB .mul (t 23) (cN ((2)))), cO 25 (cB .add (t 21) (t 24)), cO 11 (cM 25)]).seq ((ops 0 [cO 26 (cM 1), cO 27 (cM 8), cO 28 (cB .quo (t 27) (cN ((4)))), cO 29 (cB .mul (t 28) (cN ((3)))), cO 30 (cB .add (t 26) (t 29)), cO 12 (cM 30)]).seq (((ops 0 [cO 31 (cM 8), cO 32 (cB .geq (t 31) (cN ((8))))]).seq (C2.cond (t 32) (((ops 0 [cO 33 (cM 8), cO 34 (cB .geq (t 33) (cN ((50))))]).seq (C2.cond (t 34) ((ops 0 [cO 35 (cM 0), cO 36 (cM 10), cO 37 (call (cF 123) [t 35, t 36, t 9]), cO 10 (cM 37)]).seq ((ops 0 [cO 38 (cM 0), cO 39 (cM 11), cO 40 (call (cF 123) [t 38, t 39, t 9]), cO 11 (cM 40)]).seq (ops 0 [cO 41 (cM 0), cO 42 (cM 12), cO 43 (call (cF 123) [t 41, t 42, t 9]), cO 12 (cM 43)]))) skip)).seq (ops 0 [cO 44 (cM 0), cO 45 (cM 10), cO 46 (cM 11), cO 47 (cM 12), cO 48 (call (cF 124) [t 44, t 45, t 46, t 47, t 9]), cO 11 (cM 48)])) skip)).seq ((ops 0 [cO 49 (cD 9)]).seq (block 0 ((ops 0 [cO 52 (cB .eql (t 49) (cN ((0)))), cO 51 (cM 52)]).seq (C2.cond (t 51) ((ops 0 [cO 53 (cM 11), cO 6 (cM 53), cO 7 (mov (cN ((1))))]).seq ret) ((ops 0 [cO 55 (cB .eql (t 49) (cN ((12)))), cO 54 (cM 55)]).seq (C2.cond (t 54) ((ops 0 [cO 56 (cM 11), cO 6 (cM 56), cO 7 (mov (cN ((2))))]).seq ret) ((ops 0 [cO 50 (cM 11), cO 6 (cM 50), cO 7 (mov (cN ((0))))]).seq ret)))))))))))))))
theorem is103 : Is Tryz.prog 103 b103 := Is.mk' Tryz.func103 (by kernel_rfl)

def b104 : F2 := (F2.mk 32 [] ((ops 0 [cO 8 (cM 1), cO 6 (cM 8)]).seq ((ops 0 [cO 9 (cM 2), cO 10 (cB .sub (t 9) (cN ((1)))), cO 7 (cM 10)]).seq (block 0 (((ops 0 [cO 11 (cM 6), cO 12 (cM 7), cO 13 (cB .lss (t 11) (t 12))]).seq (C2.cond (t 13) skip (exit 0))).seq (block 1 ((ops 1 [cO 14 (cM 0), cO 15 (cM 6), cO 16 (cM 0), cO 17 (cM 7), cO 18 (cM 0), cO 19 (cM 7), cO 20 (ixaS 1 (t 18) (t 19)), cO 21 (cD 20), cO 22 (cM 0), cO 23 (cM 6), cO 24 (ixaS 1 (t 22) (t 23)), cO 25 (cD 24), cO 26 (ixaS 1 (t 14) (t 15)), Op2.mk none none (Ins.st 1 (t 26) (t 21)), cO 27 (ixaS 1 (t 16) (t 17)), Op2.mk none none (Ins.st 1 (t 27) (t 25))]).seq ((ops 0 [cO 28 (cM 6), cO 29 (cB .add (t 28) (cN ((1)))), cO 6 (cM 29)]).seq (ops 0 [cO 30 (cM 7), cO 31 (cB .sub (t 30) (cN ((1)))), cO 7 (cM 31)]))))).loop))))
theorem is104 : Is Tryz.prog 104 b104 := Is.mk' Tryz.func104 (by kernel_rfl)

def b105 : F2 := (F2.mk 133 [RV.t 6] ((ops 0 [cO 6 (mov cFal)]).seq ((ops 0 [cO 11 (cM 1), cO 12 (cB .add (t 11) (cN ((1)))), cO 7 (cM 12)]).seq (((ops 0 [cO 8 (mov (cN ((0))))]).seq (block 0 (((ops 0 [cO 13 (cM 8), cO 14 (cB .lss (t 13) (cN ((5))))]).seq (C2.cond (t 14) skip (exit 0))).seq ((block 1 ((block 2 (((mixS 1 [cO 17 (cM 7), cO 18 (cM 2), cO 19 (cB .lss (t 17) (t 18)), cO 20 (cM 19), cG 21 20 true (cM 0), cG 22 20 true (cM 7), cG 23 20 true (ixaS 1 (t 21) (t 22)), cG 24 20 true (cD 23), cG 25 20 true (cM 0), cG 26 20 true (cM 7), cG 27 20 true (cB .sub (t 26) (cN ((1)))), cG 28 20 true (ixaS 1 (t 25) (t 27)), cG 29 20 true (cD 28), cG 30 20 true (call (cF 74) [t 24, t 29]), cG 31 20 true (un UnOp.not (t 30)), cO 32 (pick (t 20) (t 31) cFal)] [(0, 0), (1, 0), (2, 0), (3, 0), (4, 0), (5, 0), (6, 0), (7, 0), (8, 0), (9, 0), (10, 0), (11, 0), (12, 0), (13, 2), (14, 0), (15, 0)]).seq (C2.cond (t 32) skip (exit 2))).seq (block 3 (ops 0 [cO 33 (cM 7), cO 34 (cB .add (t 33) (cN ((1)))), cO 7 (cM 34)]))).loop).seq (((ops 0 [cO 35 (cM 7), cO 36 (cM 2), cO 37 (cB .eql (t 35) (t 36))]).seq (C2.cond (t 37) ((ops 0 [cO 6 (mov cTru)]).seq ret) skip)).seq (((ops 0 [cO 38 (cM 2), cO 39 (cM 1), cO 40 (cB .sub (t 38) (t 39)), cO 41 (cB .lss (t 40) (cN ((50))))]).seq (C2.cond (t 41) ((ops 0 [cO 6 (mov cFal)]).seq ret) skip)).seq ((ops 1 [cO 42 (cM 0), cO 43 (cM 7), cO 44 (cM 0), cO 45 (cM 7), cO 46 (cB .sub (t 45) (cN ((1)))), cO 47 (cM 0), cO 48 (cM 7), cO 49 (cB .sub (t 48) (cN ((1)))), cO 50 (ixaS 1 (t 47) (t 49)), cO 51 (cD 50), cO 52 (cM 0), cO 53 (cM 7), cO 54 (ixaS 1 (t 52) (t 53)), cO 55 (cD 54), cO 56 (ixaS 1 (t 42) (t 43)), Op2.mk none none (Ins.st 1 (t 56) (t 51)), cO 57 (ixaS 1 (t 44) (t 46)), Op2.mk none none (Ins.st 1 (t 57) (t 55))]).seq (((ops 0 [cO 58 (cM 7), cO 59 (cM 1), cO 60 (cB .sub (t 58) (t 59)), cO 61 (cB .geq (t 60) (cN ((2))))]).seq (C2.cond (t 61) ((ops 0 [cO 62 (cM 7), cO 63 (cB .sub (t 62) (cN ((1)))), cO 9 (cM 63)]).seq (block 4 (((ops 0 [cO 64 (cM 9), cO 65 (cB .geq (t 64) (cN ((1))))]).seq (C2.cond (t 65) skip (exit 4))).seq ((block 5 (((mixS 1 [cO 68 (cM 0), cO 69 (cM 9), cO 70 (ixaS 1 (t 68) (t 69)), cO 71 (cD 70), cO 72 (cM 0), cO 73 (cM 9), cO 74 (cB .sub (t 73) (cN ((1)))), cO 75 (ixaS 1 (t 72) (t 74)), cO 76 (cD 75), cO 77 (call (cF 74) [t 71, t 76]), cO 78 (un UnOp.not (t 77))] [(0, 0), (1, 0), (2, 0), (3, 0), (4, 0), (5, 0), (6, 0), (7, 0), (8, 0), (9, 2), (10, 0)]).seq (C2.cond (t 78) (exit 4) skip)).seq (ops 1 [cO 79 (cM 0), cO 80 (cM 9), cO 81 (cM 0), cO 82 (cM 9), cO 83 (cB .sub (t 82) (cN ((1)))), cO 84 (cM 0), cO 85 (cM 9), cO 86 (cB .sub (t 85) (cN ((1)))), cO 87 (ixaS 1 (t 84) (t 86)), cO 88 (cD 87), cO 89 (cM 0), cO 90 (cM 9), cO 91 (ixaS 1 (t 89) (t 90)), cO 92 (cD 91), cO 93 (ixaS 1 (t 79) (t 80)), Op2.mk none none (Ins.st 1 (t 93) (t 88)), cO 94 (ixaS 1 (t 81) (t 83)), Op2.mk none none (Ins.st 1 (t 94) (t 92))]))).seq (ops 0 [cO 66 (cM 9), cO 67 (cB .sub (t 66) (cN ((1)))), cO 9 (cM 67)]))).loop)) skip)).seq ((ops 0 [cO 95 (cM 2), cO 96 (cM 7), cO 97 (cB .sub (t 95) (t 96)), cO 98 (cB .geq (t 97) (cN ((2))))]).seq (C2.cond (t 98) ((ops 0 [cO 99 (cM 7), cO 100 (cB .add (t 99) (cN ((1)))), cO 10 (cM 100)]).seq (block 6 (((ops 0 [cO 101 (cM 10), cO 102 (cM 2), cO 103 (cB .lss (t 101) (t 102))]).seq (C2.cond (t 103) skip (exit 6))).seq ((block 7 (((mixS 1 [cO 106 (cM 0), cO 107 (cM 10), cO 108 (ixaS 1 (t 106) (t 107)), cO 109 (cD 108), cO 110 (cM 0), cO 111 (cM 10), cO 112 (cB .sub (t 111) (cN ((1)))), cO 113 (ixaS 1 (t 110) (t 112)), cO 114 (cD 113), cO 115 (call (cF 74) [t 109, t 114]), cO 116 (un UnOp.not (t 115))] [(0, 0), (1, 0), (2, 0), (3, 0), (4, 0), (5, 0), (6, 0), (7, 0), (8, 0), (9, 2), (10, 0)]).seq (C2.cond (t 116) (exit 6) skip)).seq (ops 1 [cO 117 (cM 0), cO 118 (cM 10), cO 119 (cM 0), cO 120 (cM 10), cO 121 (cB .sub (t 120) (cN ((1)))), cO 122 (cM 0), cO 123 (cM 10), cO 124 (cB .sub (t 123) (cN ((1)))), cO 125 (ixaS 1 (t 122) (t 124)), cO 126 (cD 125), cO 127 (cM 0), cO 128 (cM 10), cO 129 (ixaS 1 (t 127) (t 128)), cO 130 (cD 129), cO 131 (ixaS 1 (t 117) (t 118)), Op2.mk none none (Ins.st 1 (t 131) (t 126)), cO 132 (ixaS 1 (t 119) (t 121)), Op2.mk none none (Ins.st 1 (t 132) (t 130))]))).seq (ops 0 [cO 104 (cM 10), cO 105 (cB .add (t 104) (cN ((1)))), cO 10 (cM 105)]))).loop)) skip)))))))).seq (ops 0 [cO 15 (cM 8), cO 16 (cB .add (t 15) (cN ((1)))), cO 8 (cM 16)]))).loop)).seq ((ops 0 [cO 6 (mov cFal)]).seq ret)))))
theorem is105 : Is Tryz.prog 105 b105 := Is.mk' Tryz.func105 (by kernel_rfl)

def b106 : F2 := (F2.mk 84 [RV.t 8] ((ops 0 [cO 8 (mov (cN ((0))))]).seq ((ops 1 [cO 11 (cM 0), cO 12 (cM 1), cO 13 (cM 0), cO 14 (cM 3), cO 15 (cM 0), cO 16 (cM 3), cO 17 (ixaS 1 (t 15) (t 16)), cO 18 (cD 17), cO 19 (cM 0), cO 20 (cM 1), cO 21 (ixaS 1 (t 19) (t 20)), cO 22 (cD 21), cO 23 (ixaS 1 (t 11) (t 12)), Op2.mk none none (Ins.st 1 (t 23) (t 18)), cO 24 (ixaS 1 (t 13) (t 14)), Op2.mk none none (Ins.st 1 (t 24) (t 22))]).seq ((ops 0 [cO 25 (cM 1), cO 26 (cB .add (t 25) (cN ((1)))), cO 27 (cM 2), cO 28 (cB .sub (t 27) (cN ((1)))), cO 9 (cM 26), cO 10 (cM 28)]).seq ((block 0 (block 1 ((block 2 (((mixS 1 [cO 29 (cM 9), cO 30 (cM 10), cO 31 (cB .leq (t 29) (t 30)), cO 32 (cM 31), cG 33 32 true (cM 0), cG 34 32 true (cM 1), cG 35 32 true (ixaS 1 (t 33) (t 34)), cG 36 32 true (cD 35), cG 37 32 true (cM 0), cG 38 32 true (cM 9), cG 39 32 true (ixaS 1 (t 37) (t 38)), cG 40 32 true (cD 39), cG 41 32 true (call (cF 74) [t 36, t 40]), cG 42 32 true (un UnOp.not (t 41)), cO 43 (pick (t 32) (t 42) cFal)] [(0, 0), (1, 0), (2, 0), (3, 0), (4, 0), (5, 0), (6, 0), (7, 0), (8, 0), (9, 0), (10, 0), (11, 0), (12, 2), (13, 0), (14, 0)]).seq (C2.cond (t 43) skip (exit 2))).seq (block 3 (ops 0 [cO 44 (cM 9), cO 45 (cB .add (t 44) (cN ((1)))), cO 9 (cM 45)]))).loop).seq ((block 4 (((mixS 1 [cO 46 (cM 9), cO 47 (cM 10), cO 48 (cB .leq (t 46) (t 47)), cO 49 (cM 48), cG 50 49 true (cM 0), cG 51 49 true (cM 1), cG 52 49 true (ixaS 1 (t 50) (t 51)), cG 53 49 true (cD 52), cG 54 49 true (cM 0), cG 55 49 true (cM 10), cG 56 49 true (ixaS 1 (t 54) (t 55)), cG 57 49 true (cD 56), cG 58 49 true (call (cF 74) [t 53, t 57]), cO 59 (pick (t 49) (t 58) cFal)] [(0, 0), (1, 0), (2, 0), (3, 0), (4, 0), (5, 0), (6, 0), (7, 0), (8, 0), (9, 0), (10, 0), (11, 0), (12, 2), (13, 0)]).seq (C2.cond (t 59) skip (exit 4))).seq (block 5 (ops 0 [cO 60 (cM 10), cO 61 (cB .sub (t 60) (cN ((1)))), cO 10 (cM 61)]))).loop).seq (((ops 0 [cO 62 (cM 9), cO 63 (cM 10), cO 64 (cB .gtr (t 62) (t 63))]).seq (C2.cond (t 64) (exit 0) skip)).seq ((ops 1 [cO 65 (cM 0), cO 66 (cM 9), cO 67 (cM 0), cO 68 (cM 10), cO 69 (cM 0), cO 70 (cM 10), cO 71 (ixaS 1 (t 69) (t 70)), cO 72 (cD 71), cO 73 (cM 0), cO 74 (cM 9), cO 75 (ixaS 1 (t 73) (t 74)), cO 76 (cD 75), cO 77 (ixaS 1 (t 65) (t 66)), Op2.mk none none (Ins.st 1 (t 77) (t 72)), cO 78 (ixaS 1 (t 67) (t 68)), Op2.mk none none (Ins.st 1 (t 78) (t 76))]).seq ((ops 0 [cO 79 (cM 9), cO 80 (cB .add (t 79) (cN ((1)))), cO 9 (cM 80)]).seq (ops 0 [cO 81 (cM 10), cO 82 (cB .sub (t 81) (cN ((1)))), cO 10 (cM 82)]))))))).loop).seq ((ops 0 [cO 83 (cM 9), cO 8 (cM 83)]).seq ret))))))
theorem is106 : Is Tryz.prog 106 b106 := Is.mk' Tryz.func106 (by kernel_rfl)

def b107 : F2 := (F2.mk 168 [RV.t 8, RV.t 9] ((ops 0 [cO 8 (mov (cN ((0)))), cO 9 (mov cFal)]).seq ((ops 1 [cO 12 (cM 0), cO 13 (cM 1), cO 14 (cM 0), cO 15 (cM 3), cO 16 (cM 0), cO 17 (cM 3), cO 18 (ixaS 1 (t 16) (t 17)), cO 19 (cD 18), cO 20 (cM 0), cO 21 (cM 1), cO 22 (ixaS 1 (t 20) (t 21)), cO 23 (cD 22), cO 24 (ixaS 1 (t 12) (t 13)), Op2.mk none none (Ins.st 1 (t 24) (t 19)), cO 25 (ixaS 1 (t 14) (t 15)), Op2.mk none none (Ins.st 1 (t 25) (t 23))]).seq ((ops 0 [cO 26 (cM 1), cO 27 (cB .add (t 26) (cN ((1)))), cO 28 (cM 2), cO 29 (cB .sub (t 28) (cN ((1)))), cO 10 (cM 27), cO 11 (cM 29)]).seq ((block 0 (((mixS 1 [cO 30 (cM 10), cO 31 (cM 11), cO 32 (cB .leq (t 30) (t 31)), cO 33 (cM 32), cG 34 33 true (cM 0), cG 35 33 true (cM 10), cG 36 33 true (ixaS 1 (t 34) (t 35)), cG 37 33 true (cD 36), cG 38 33 true (cM 0), cG 39 33 true (cM 1), cG 40 33 true (ixaS 1 (t 38) (t 39)), cG 41 33 true (cD 40), cG 42 33 true (call (cF 74) [t 37, t 41]), cO 43 (pick (t 33) (t 42) cFal)] [(0, 0), (1, 0), (2, 0), (3, 0), (4, 0), (5, 0), (6, 0), (7, 0), (8, 0), (9, 0), (10, 0), (11, 0), (12, 2), (13, 0)]).seq (C2.cond (t 43) skip (exit 0))).seq (block 1 (ops 0 [cO 44 (cM 10), cO 45 (cB .add (t 44) (cN ((1)))), cO 10 (cM 45)]))).loop).seq ((block 2 (((mixS 1 [cO 46 (cM 10), cO 47 (cM 11), cO 48 (cB .leq (t 46) (t 47)), cO 49 (cM 48), cG 50 49 true (cM 0), cG 51 49 true (cM 11), cG 52 49 true (ixaS 1 (t 50) (t 51)), cG 53 49 true (cD 52), cG 54 49 true (cM 0), cG 55 49 true (cM 1), cG 56 49 true (ixaS 1 (t 54) (t 55)), cG 57 49 true (cD 56), cG 58 49 true (call (cF 74) [t 53, t 57]), cG 59 49 true (un UnOp.not (t 58)), cO 60 (pick (t 49) (t 59) cFal)] [(0, 0), (1, 0), (2, 0), (3, 0), (4, 0), (5, 0), (6, 0), (7, 0), (8, 0), (9, 0), (10, 0), (11, 0), (12, 2), (13, 0), (14, 0)]).seq (C2.cond (t 60) skip (exit 2))).seq (block 3 (ops 0 [cO 61 (cM 11), cO 62 (cB .sub (t 61) (cN ((1)))), cO 11 (cM 62)]))).loop).seq (((ops 0 [cO 63 (cM 10), cO 64 (cM 11), cO 65 (cB .gtr (t 63) (t 64))]).seq (C2.cond (t 65) ((ops 1 [cO 66 (cM 0), cO 67 (cM 11), cO 68 (cM 0), cO 69 (cM 1), cO 70 (cM 0), cO 71 (cM 1), cO 72 (ixaS 1 (t 70) (t 71)), cO 73 (cD 72), cO 74 (cM 0), cO 75 (cM 11), cO 76 (ixaS 1 (t 74) (t 75)), cO 77 (cD 76), cO 78 (ixaS 1 (t 66) (t 67)), Op2.mk none none (Ins.st 1 (t 78) (t 73)), cO 79 (ixaS 1 (t 68) (t 69)), Op2.mk none none (Ins.st 1 (t 79) (t 77))]).seq ((ops 0 [cO 80 (cM 11), cO 8 (cM 80), cO 9 (mov cTru)]).seq ret)) skip)).seq ((ops 1 [cO 81 (cM 0), cO 82 (cM 10), cO 83 (cM 0), cO 84 (cM 11), cO 85 (cM 0), cO 86 (cM 11), cO 87 (ixaS 1 (t 85) (t 86)), cO 88 (cD 87), cO 89 (cM 0), cO 90 (cM 10), cO 91 (ixaS 1 (t 89) (t 90)), cO 92 (cD 91), cO 93 (ixaS 1 (t 81) (t 82)), Op2.mk none none (Ins.st 1 (t 93) (t 88)), cO 94 (ixaS 1 (t 83) (t 84)), Op2.mk none none (Ins.st 1 (t 94) (t 92))]).seq ((ops 0 [cO 95 (cM 10), cO 96 (cB .add (t 95) (cN ((1)))), cO 10 (cM 96)]).seq ((ops 0 [cO 97 (cM 11), cO 98 (cB .sub (t 97) (cN ((1)))), cO 11 (cM 98)]).seq ((block 4 (block 5 ((block 6 (((mixS 1 [cO 99 (cM 10), cO 100 (cM 11), cO 101 (cB .leq (t 99) (t 100)), cO 102 (cM 101), cG 103 102 true (cM 0), cG 104 102 true (cM 10), cG 105 102 true (ixaS 1 (t 103) (t 104)), cG 106 102 true (cD 105), cG 107 102 true (cM 0), cG 108 102 true (cM 1), cG 109 102 true (ixaS 1 (t 107) (t 108)), cG 110 102 true (cD 109), cG 111 102 true (call (cF 74) [t 106, t 110]), cO 112 (pick (t 102) (t 111) cFal)] [(0, 0), (1, 0), (2, 0), (3, 0), (4, 0), (5, 0), (6, 0), (7, 0), (8, 0), (9, 0), (10, 0), (11, 0), (12, 2), (13, 0)]).seq (C2.cond (t 112) skip (exit 6))).seq (block 7 (ops 0 [cO 113 (cM 10), cO 114 (cB .add (t 113) (cN ((1)))), cO 10 (cM 114)]))).loop).seq ((block 8 (((mixS 1 [cO 115 (cM 10), cO 116 (cM 11), cO 117 (cB .leq (t 115) (t 116)), cO 118 (cM 117), cG 119 118 true (cM 0), cG 120 118 true (cM 11), cG 121 118 true (ixaS 1 (t 119) (t 120)), cG 122 118 true (cD 121), cG 123 118 true (cM 0), cG 124 118 true (cM 1), cG 125 118 true (ixaS 1 (t 123) (t 124)), cG 126 118 true (cD 125), cG 127 118 true (call (cF 74) [t 122, t 126]), cG 128 118 true (un UnOp.not (t 127)), cO 129 (pick (t 118) (t 128) cFal)] [(0, 0), (1, 0), (2, 0), (3, 0), (4, 0), (5, 0), (6, 0), (7, 0), (8, 0), (9, 0), (10, 0), (11, 0), (12, 2), (13, 0), (14, 0)]).seq (C2.cond (t 129) skip (exit 8))).seq (block 9 (ops 0 [cO 130 (cM 11), cO 131 (cB .sub (t 130) (cN ((1)))), cO 11 (cM 131)]))).loop).seq (((ops 0 [cO 132 (cM 10), cO 133 (cM 11), cO 134 (cB .gtr (t 132) (t 133))]).seq (C2.cond (t 134) (exit 4) skip)).seq ((ops 1 [cO 135 (cM 0), cO 136 (cM 10), cO 137 (cM 0), cO 138 (cM 11), cO 139 (cM 0), cO 140 (cM 11), cO 141 (ixaS 1 (t 139) (t 140)), cO 142 (cD 141), cO 143 (cM 0), cO 144 (cM 10), cO 145 (ixaS 1 (t 143) (t 144)), cO 146 (cD 145), cO 147 (ixaS 1 (t 135) (t 136)), Op2.mk none none (Ins.st 1 (t 147) (t 142)), cO 148 (ixaS 1 (t 137) (t 138)), Op2.mk none none (Ins.st 1 (t 148) (t 146))]).seq ((ops 0 [cO 149 (cM 10), cO 150 (cB .add (t 149) (cN ((1)))), cO 10 (cM 150)]).seq (ops 0 [cO 151 (cM 11), cO 152 (cB .sub (t 151) (cN ((1)))), cO 11 (cM 152)]))))))).loop).seq ((ops 1 [cO 153 (cM 0), cO 154 (cM 11), cO 155 (cM 0), cO 156 (cM 1), cO 157 (cM 0), cO 158 (cM 1), cO 159 (ixaS 1 (t 157) (t 158)), cO 160 (cD 159), cO 161 (cM 0), cO 162 (cM 11), cO 163 (ixaS 1 (t 161) (t 162)), cO 164 (cD 163), cO 165 (ixaS 1 (t 153) (t 154)), Op2.mk none none (Ins.st 1 (t 165) (t 160)), cO 166 (ixaS 1 (t 155) (t 156)), Op2.mk none none (Ins.st 1 (t 166) (t 164))]).seq ((ops 0 [cO 167 (cM 11), cO 8 (cM 167), cO 9 (mov cFal)]).seq ret)))))))))))))
theorem is107 : Is Tryz.prog 107 b107 := Is.mk' Tryz.func107 (by kernel_rfl)

def b109 : F2 := (F2.mk 25 [RV.t 2] ((ops 0 [cO 2 (mov (cN ((0))))]).seq (((ops 0 [cO 3 (cM 0), cO 4 (cB .geq (t 3) (c (AV.int IntKind.u64 (4294967296))))]).seq (C2.cond (t 4) ((ops 0 [cO 5 (cM 0), cO 6 (cB .shr (t 5) (c (AV.int IntKind.u64 (32)))), cO 0 (cM 6)]).seq (ops 0 [cO 2 (mov (cN ((32))))])) skip)).seq (((ops 0 [cO 7 (cM 0), cO 8 (cB .geq (t 7) (c (AV.int IntKind.u64 (65536))))]).seq (C2.cond (t 8) ((ops 0 [cO 9 (cM 0), cO 10 (cB .shr (t 9) (c (AV.int IntKind.u64 (16)))), cO 0 (cM 10)]).seq (ops 0 [cO 11 (cM 2), cO 12 (cB .add (t 11) (cN ((16)))), cO 2 (cM 12)])) skip)).seq (((ops 0 [cO 13 (cM 0), cO 14 (cB .geq (t 13) (c (AV.int IntKind.u64 (256))))]).seq (C2.cond (t 14) ((ops 0 [cO 15 (cM 0), cO 16 (cB .shr (t 15) (c (AV.int IntKind.u64 (8)))), cO 0 (cM 16)]).seq (ops 0 [cO 17 (cM 2), cO 18 (cB .add (t 17) (cN ((8)))), cO 2 (cM 18)])) skip)).seq ((ops 0 [cO 19 (cM 2), cO 20 (cM 0), cO 21 (conv IntKind.u8 (t 20)), cO 22 (ixStr (c (AV.str (ByteArray.mk (Array.mk [0, 1, 2, 2, 3, 3, 3, 3, 4, 4, 4, 4, 4, 4, 4, 4, 5, 5, 5, 5, 5, 5, 5, 5, 5, 5, 5, 5, 5, 5, 5, 5, 6, 6, 6, 6, 6, 6, 6, 6, 6, 6, 6, 6, 6, 6, 6, 6, 6, 6, 6, 6, 6, 6, 6, 6, 6, 6, 6, 6, 6, 6, 6, 6, 7, 7, 7, 7, 7, 7, 7, 7, 7, 7, 7, 7, 7, 7, 7, 7, 7, 7, 7, 7, 7, 7, 7, 7, 7, 7, 7, 7, 7, 7, 7, 7, 7, 7, 7, 7, 7, 7, 7, 7, 7, 7, 7, 7, 7, 7, 7, 7, 7, 7, 7, 7, 7, 7, 7, 7, 7, 7, 7, 7, 7, 7, 7, 7, 8, 8, 8, 8, 8, 8, 8, 8, 8, 8, 8, 8, 8, 8, 8, 8, 8, 8, 8, 8, 8, 8, 8, 8, 8, 8, 8, 8, 8, 8, 8, 8, 8, 8, 8, 8, 8, 8, 8, 8, 8, 8, 8, 8, 8, 8, 8, 8, 8, 8, 8, 8, 8, 8, 8, 8, 8, 8, 8, 8, 8, 8, 8, 8, 8, 8, 8, 8, 8, 8, 8, 8, 8, 8, 8, 8, 8, 8, 8, 8, 8, 8, 8, 8, 8, 8, 8, 8, 8, 8, 8, 8, 8, 8, 8, 8, 8, 8, 8, 8, 8, 8, 8, 8, 8, 8, 8, 8, 8, 8, 8, 8, 8, 8, 8, 8, 8, 8, 8, 8, 8, 8, 8, 8, 8, 8, 8, 8])))) (t 21)), cO 23 (conv IntKind.i64 (t 22)), cO 24 (cB .add (t 19) (t 23)), cO 2 (cM 24)]).seq ret))))))
theorem is109 : Is Tryz.prog 109 b109 := Is.mk' Tryz.func109 (by kernel_rfl)

def b110 : F2 := (F2.mk 148 [] ((ops 0 [cO 10 (mov cTru)]).seq ((ops 0 [cO 11 (mov cTru)]).seq (block 0 (block 1 ((ops 0 [cO 21 (cM 2), cO 22 (cM 1), cO 23 (cB .sub (t 21) (t 22)), cO 12 (cM 23)]).seq (((ops 0 [cO 24 (cM 12), cO 25 (cB .leq (t 24) (cN ((12))))]).seq (C2.cond (t 25) ((ops 0 [cO 26 (cM 0), cO 27 (cM 1), cO 28 (cM 2), cO 29 (cM 4), cO 30 (call (cF 125) [t 26, t 27, t 28, t 29])]).seq ret) skip)).seq (((ops 0 [cO 31 (cM 3), cO 32 (cB .eql (t 31) (cN ((0))))]).seq (C2.cond (t 32) ((ops 0 [cO 33 (cM 0), cO 34 (cM 1), cO 35 (cM 2), cO 36 (cM 4), cO 37 (call (cF 126) [t 33, t 34, t 35, t 36])]).seq ret) skip)).seq (((ops 0 [cO 38 (cM 10), cO 39 (un UnOp.not (t 38))]).seq (C2.cond (t 39) ((ops 0 [cO 40 (cM 0), cO 41 (cM 1), cO 42 (cM 2), cO 43 (cM 4), cO 44 (call (cF 127) [t 40, t 41, t 42, t 43])]).seq (ops 0 [cO 45 (cM 3), cO 46 (cB .sub (t 45) (cN ((1)))), cO 3 (cM 46)])) skip)).seq ((ops 0 [cO 48 (cM 0), cO 49 (cM 1), cO 50 (cM 2), cO 51 (cM 4), cO 52 (call (cF 128) [t 48, t 49, t 50, t 51]), cO 47 (cM 52), cO 53 (ext (t 47) 0), cO 54 (ext (t 47) 1), cO 13 (cM 53), cO 14 (cM 54)]).seq (((ops 0 [cO 55 (cM 14), cO 56 (cB .eql (t 55) (cN ((2))))]).seq (C2.cond (t 56) ((ops 0 [cO 57 (cM 0), cO 58 (cM 1), cO 59 (cM 2), cO 60 (cM 4), cO 61 (call (cF 129) [t 57, t 58, t 59, t 60])]).seq ((ops 0 [cO 62 (cM 2), cO 63 (cB .sub (t 62) (cN ((1)))), cO 64 (cM 13), cO 65 (cM 1), cO 66 (cB .sub (t 64) (t 65)), cO 67 (cB .sub (t 63) (t 66)), cO 13 (cM 67)]).seq (ops 0 [cO 14 (mov (cN ((1))))]))) skip)).seq (((ops 0 [cO 68 (cM 10), cO 69 (cM 68), cG 70 69 true (cM 11), cO 71 (pick (t 69) (t 70) cFal), cO 72 (cM 71), cG 73 72 true (cM 14), cG 74 72 true (cB .eql (t 73) (cN ((1)))), cO 75 (pick (t 72) (t 74) cFal)]).seq (C2.cond (t 75) ((ops 0 [cO 76 (cM 0), cO 77 (cM 1), cO 78 (cM 2), cO 79 (cM 4), cO 80 (call (cF 130) [t 76, t 77, t 78, t 79])]).seq (C2.cond (t 80) ret skip)) skip)).seq (((mixS 1 [cO 81 (cM 1), cO 82 (cB .gtr (t 81) (cN ((0)))), cO 83 (cM 82), cG 84 83 true (cM 4), cG 85 83 true (cM 0), cG 86 83 true (cM 1), cG 87 83 true (cB .sub (t 86) (cN ((1)))), cG 88 83 true (ixaS 1 (t 85) (t 87)), cG 89 83 true (cD 88), cG 90 83 true (cM 0), cG 91 83 true (cM 13), cG 92 83 true (ixaS 1 (t 90) (t 91)), cG 93 83 true (cD 92), cG 94 83 true (call (t 84) [t 89, t 93]), cG 95 83 true (cB .lss (t 94) (cN ((0)))), cG 96 83 true (un UnOp.not (t 95)), cO 97 (pick (t 83) (t 96) cFal)] [(0, 0), (1, 0), (2, 0), (3, 0), (4, 0), (5, 0), (6, 0), (7, 0), (8, 0), (9, 0), (10, 0), (11, 0), (12, 0), (13, 2), (14, 0), (15, 0), (16, 0)]).seq (C2.cond (t 97) ((ops 0 [cO 98 (cM 0), cO 99 (cM 1), cO 100 (cM 2), cO 101 (cM 13), cO 102 (cM 4), cO 103 (call (cF 131) [t 98, t 99, t 100, t 101, t 102]), cO 15 (cM 103)]).seq ((ops 0 [cO 104 (cM 15), cO 1 (cM 104)]).seq (exit 1))) skip)).seq ((ops 0 [cO 106 (cM 0), cO 107 (cM 1), cO 108 (cM 2), cO 109 (cM 13), cO 110 (cM 4), cO 111 (call (cF 132) [t 106, t 107, t 108, t 109, t 110]), cO 105 (cM 111), cO 112 (ext (t 105) 0), cO 113 (ext (t 105) 1), cO 16 (cM 112), cO 17 (cM 113)]).seq ((ops 0 [cO 114 (cM 17), cO 11 (cM 114)]).seq ((ops 0 [cO 115 (cM 16), cO 116 (cM 1), cO 117 (cB .sub (t 115) (t 116)), cO 118 (cM 2), cO 119 (cM 16), cO 120 (cB .sub (t 118) (t 119)), cO 18 (cM 117), cO 19 (cM 120)]).seq ((ops 0 [cO 121 (cM 12), cO 122 (cB .quo (t 121) (cN ((8)))), cO 20 (cM 122)]).seq ((ops 0 [cO 123 (cM 18), cO 124 (cM 19), cO 125 (cB .lss (t 123) (t 124))]).seq (C2.cond (t 125) ((ops 0 [cO 126 (cM 18), cO 127 (cM 20), cO 128 (cB .geq (t 126) (t 127)), cO 10 (cM 128)]).seq ((ops 0 [cO 129 (cM 0), cO 130 (cM 1), cO 131 (cM 16), cO 132 (cM 3), cO 133 (cM 4), cO 134 (call (cF 110) [t 129, t 130, t 131, t 132, t 133])]).seq (ops 0 [cO 135 (cM 16), cO 136 (cB .add (t 135) (cN ((1)))), cO 1 (cM 136)]))) ((ops 0 [cO 137 (cM 19), cO 138 (cM 20), cO 139 (cB .geq (t 137) (t 138)), cO 10 (cM 139)]).seq ((ops 0 [cO 140 (cM 0), cO 141 (cM 16), cO 142 (cB .add (t 141) (cN ((1)))), cO 143 (cM 2), cO 144 (cM 3), cO 145 (cM 4), cO 146 (call (cF 110) [t 140, t 142, t 143, t 144, t 145])]).seq (ops 0 [cO 147 (cM 16), cO 2 (cM 147)])))))))))))))))))).loop))))
theorem is110 : Is Tryz.prog 110 b110 := Is.mk' Tryz.func110 (by kernel_rfl)

def b111 : F2 := (F2.mk 53 [] ((ops 0 [cO 10 (cM 1), cO 11 (cB .add (t 10) (cN ((1)))), cO 8 (cM 11)]).seq (block 0 (((ops 0 [cO 12 (cM 8), cO 13 (cM 2), cO 14 (cB .lss (t 12) (t 13))]).seq (C2.cond (t 14) skip (exit 0))).seq ((block 1 ((ops 0 [cO 17 (cM 8), cO 9 (cM 17)]).seq (block 2 (((mixS 1 [cO 18 (cM 9), cO 19 (cM 1), cO 20 (cB .gtr (t 18) (t 19)), cO 21 (cM 20), cG 22 21 true (cM 3), cG 23 21 true (cM 0), cG 24 21 true (cM 9), cG 25 21 true (ixaS 3 (t 23) (t 24)), cG 26 21 true (ldn 3 (t 25)), cG 27 21 true (cM 0), cG 28 21 true (cM 9), cG 29 21 true (cB .sub (t 28) (cN ((1)))), cG 30 21 true (ixaS 3 (t 27) (t 29)), cG 31 21 true (ldn 3 (t 30)), cG 32 21 true (call (t 22) [t 26, t 31]), cG 33 21 true (cB .lss (t 32) (cN ((0)))), cO 34 (pick (t 21) (t 33) cFal)] [(0, 0), (1, 0), (2, 0), (3, 0), (4, 0), (5, 0), (6, 0), (7, 0), (8, 0), (9, 0), (10, 0), (11, 0), (12, 0), (13, 0), (14, 2), (15, 0), (16, 0)]).seq (C2.cond (t 34) skip (exit 2))).seq ((block 3 (ops 1 [cO 37 (cM 0), cO 38 (cM 9), cO 39 (cM 0), cO 40 (cM 9), cO 41 (cB .sub (t 40) (cN ((1)))), cO 42 (cM 0), cO 43 (cM 9), cO 44 (cB .sub (t 43) (cN ((1)))), cO 45 (ixaS 3 (t 42) (t 44)), cO 46 (ldn 3 (t 45)), cO 47 (cM 0), cO 48 (cM 9), cO 49 (ixaS 3 (t 47) (t 48)), cO 50 (ldn 3 (t 49)), cO 51 (ixaS 3 (t 37) (t 38)), Op2.mk none none (Ins.st 3 (t 51) (t 46)), cO 52 (ixaS 3 (t 39) (t 41)), Op2.mk none none (Ins.st 3 (t 52) (t 50))])).seq (ops 0 [cO 35 (cM 9), cO 36 (cB .sub (t 35) (cN ((1)))), cO 9 (cM 36)]))).loop))).seq (ops 0 [cO 15 (cM 8), cO 16 (cB .add (t 15) (cN ((1)))), cO 8 (cM 16)]))).loop)))
theorem is111 : Is Tryz.prog 111 b111 := Is.mk' Tryz.func111 (by kernel_rfl)

def b120 : F2 := (F2.mk 76 [] ((ops 0 [cO 10 (cM 1), cO 8 (cM 10)]).seq (block 0 (block 1 ((ops 0 [cO 11 (cM 8), cO 12 (cB .mul (cN ((2))) (t 11)), cO 13 (cB .add (t 12) (cN ((1)))), cO 9 (cM 13)]).seq (((ops 0 [cO 14 (cM 9), cO 15 (cM 2), cO 16 (cB .geq (t 14) (t 15))]).seq (C2.cond (t 16) (exit 0) skip)).seq (((mixS 1 [cO 17 (cM 9), cO 18 (cB .add (t 17) (cN ((1)))), cO 19 (cM 2), cO 20 (cB .lss (t 18) (t 19)), cO 21 (cM 20), cG 22 21 true (cM 0), cG 23 21 true (cM 3), cG 24 21 true (cM 9), cG 25 21 true (cB .add (t 23) (t 24)), cG 26 21 true (ixaS 1 (t 22) (t 25)), cG 27 21 true (cD 26), cG 28 21 true (cM 0), cG 29 21 true (cM 3), cG 30 21 true (cM 9), cG 31 21 true (cB .add (t 29) (t 30)), cG 32 21 true (cB .add (t 31) (cN ((1)))), cG 33 21 true (ixaS 1 (t 28) (t 32)), cG 34 21 true (cD 33), cG 35 21 true (call (cF 74) [t 27, t 34]), cO 36 (pick (t 21) (t 35) cFal)] [(0, 0), (1, 0), (2, 0), (3, 0), (4, 0), (5, 0), (6, 0), (7, 0), (8, 0), (9, 0), (10, 0), (11, 0), (12, 0), (13, 0), (14, 0), (15, 0), (16, 0), (17, 0), (18, 2), (19, 0)]).seq (C2.cond (t 36) (ops 0 [cO 37 (cM 9), cO 38 (cB .add (t 37) (cN ((1)))), cO 9 (cM 38)]) skip)).seq (((mixS 1 [cO 39 (cM 0), cO 40 (cM 3), cO 41 (cM 8), cO 42 (cB .add (t 40) (t 41)), cO 43 (ixaS 1 (t 39) (t 42)), cO 44 (cD 43), cO 45 (cM 0), cO 46 (cM 3), cO 47 (cM 9), cO 48 (cB .add (t 46) (t 47)), cO 49 (ixaS 1 (t 45) (t 48)), cO 50 (cD 49), cO 51 (call (cF 74) [t 44, t 50]), cO 52 (un UnOp.not (t 51))] [(0, 0), (1, 0), (2, 0), (3, 0), (4, 0), (5, 0), (6, 0), (7, 0), (8, 0), (9, 0), (10, 0), (11, 0), (12, 2), (13, 0)]).seq (C2.cond (t 52) ret skip)).seq ((ops 1 [cO 53 (cM 0), cO 54 (cM 3), cO 55 (cM 8), cO 56 (cB .add (t 54) (t 55)), cO 57 (cM 0), cO 58 (cM 3), cO 59 (cM 9), cO 60 (cB .add (t 58) (t 59)), cO 61 (cM 0), cO 62 (cM 3), cO 63 (cM 9), cO 64 (cB .add (t 62) (t 63)), cO 65 (ixaS 1 (t 61) (t 64)), cO 66 (cD 65), cO 67 (cM 0), cO 68 (cM 3), cO 69 (cM 8), cO 70 (cB .add (t 68) (t 69)), cO 71 (ixaS 1 (t 67) (t 70)), cO 72 (cD 71), cO 73 (ixaS 1 (t 53) (t 56)), Op2.mk none none (Ins.st 1 (t 73) (t 66)), cO 74 (ixaS 1 (t 57) (t 60)), Op2.mk none none (Ins.st 1 (t 74) (t 72))]).seq (ops 0 [cO 75 (cM 9), cO 8 (cM 75)]))))))).loop)))
theorem is120 : Is Tryz.prog 120 b120 := Is.mk' Tryz.func120 (by kernel_rfl)

def b121 : F2 := (F2.mk 7 [RV.t 2] ((ops 0 [cO 2 (mov (c (AV.int IntKind.u64 (0))))]).seq ((ops 0 [cO 3 (cM 0), cO 4 (conv IntKind.u64 (t 3)), cO 5 (call (cF 86) [t 4]), cO 6 (cB .shl (c (AV.int IntKind.u64 (1))) (t 5)), cO 2 (cM 6)]).seq ret)))
theorem is121 : Is Tryz.prog 121 b121 := Is.mk' Tryz.func121 (by kernel_rfl)

def b122 : F2 := (F2.mk 33 [RV.t 2] ((ops 0 [cO 2 (mov (c (AV.int IntKind.u64 (0))))]).seq ((ops 1 [cO 3 (cM 0), cO 4 (nilck (t 3)), cO 5 (cD 4), cO 6 (cM 0), cO 7 (nilck (t 6)), cO 8 (cD 7), cO 9 (cB .shl (t 8) (c (AV.int IntKind.u64 (13)))), cO 10 (cB .xor (t 5) (t 9)), cO 11 (nilck (t 3)), Op2.mk none none (Ins.st 1 (t 11) (t 10))]).seq ((ops 1 [cO 12 (cM 0), cO 13 (nilck (t 12)), cO 14 (cD 13), cO 15 (cM 0), cO 16 (nilck (t 15)), cO 17 (cD 16), cO 18 (cB .shr (t 17) (c (AV.int IntKind.u64 (7)))), cO 19 (cB .xor (t 14) (t 18)), cO 20 (nilck (t 12)), Op2.mk none none (Ins.st 1 (t 20) (t 19))]).seq ((ops 1 [cO 21 (cM 0), cO 22 (nilck (t 21)), cO 23 (cD 22), cO 24 (cM 0), cO 25 (nilck (t 24)), cO 26 (cD 25), cO 27 (cB .shl (t 26) (c (AV.int IntKind.u64 (17)))), cO 28 (cB .xor (t 23) (t 27)), cO 29 (nilck (t 21)), Op2.mk none none (Ins.st 1 (t 29) (t 28))]).seq ((ops 0 [cO 30 (cM 0), cO 31 (nilck (t 30)), cO 32 (cD 31), cO 2 (cM 32)]).seq ret))))))
theorem is122 : Is Tryz.prog 122 b122 := Is.mk' Tryz.func122 (by kernel_rfl)

def b123 : F2 := (F2.mk 15 [RV.t 6] ((ops 0 [cO 6 (mov (cN ((0))))]).seq ((ops 0 [cO 7 (cM 0), cO 8 (cM 1), cO 9 (cB .sub (t 8) (cN ((1)))), cO 10 (cM 1), cO 11 (cM 1), cO 12 (cB .add (t 11) (cN ((1)))), cO 13 (cM 2), cO 14 (call (cF 124) [t 7, t 9, t 10, t 12, t 13]), cO 6 (cM 14)]).seq ret)))
theorem is123 : Is Tryz.prog 123 b123 := Is.mk' Tryz.func123 (by kernel_rfl)

def b124 : F2 := (F2.mk 36 [RV.t 10] ((ops 0 [cO 10 (mov (cN ((0))))]).seq ((ops 0 [cO 12 (cM 0), cO 13 (cM 1), cO 14 (cM 2), cO 15 (cM 4), cO 16 (call (cF 136) [t 12, t 13, t 14, t 15]), cO 11 (cM 16), cO 17 (ext (t 11) 0), cO 18 (ext (t 11) 1), cO 1 (cM 17), cO 2 (cM 18)]).seq ((ops 0 [cO 20 (cM 0), cO 21 (cM 2), cO 22 (cM 3), cO 23 (cM 4), cO 24 (call (cF 136) [t 20, t 21, t 22, t 23]), cO 19 (cM 24), cO 25 (ext (t 19) 0), cO 26 (ext (t 19) 1), cO 2 (cM 25), cO 3 (cM 26)]).seq ((ops 0 [cO 28 (cM 0), cO 29 (cM 1), cO 30 (cM 2), cO 31 (cM 4), cO 32 (call (cF 136) [t 28, t 29, t 30, t 31]), cO 27 (cM 32), cO 33 (ext (t 27) 0), cO 34 (ext (t 27) 1), cO 1 (cM 33), cO 2 (cM 34)]).seq ((ops 0 [cO 35 (cM 2), cO 10 (cM 35)]).seq ret))))))
theorem is124 : Is Tryz.prog 124 b124 := Is.mk' Tryz.func124 (by kernel_rfl)

def b125 : F2 := (F2.mk 53 [] ((ops 0 [cO 10 (cM 1), cO 11 (cB .add (t 10) (cN ((1)))), cO 8 (cM 11)]).seq (block 0 (((ops 0 [cO 12 (cM 8), cO 13 (cM 2), cO 14 (cB .lss (t 12) (t 13))]).seq (C2.cond (t 14) skip (exit 0))).seq ((block 1 ((ops 0 [cO 17 (cM 8), cO 9 (cM 17)]).seq (block 2 (((mixS 1 [cO 18 (cM 9), cO 19 (cM 1), cO 20 (cB .gtr (t 18) (t 19)), cO 21 (cM 20), cG 22 21 true (cM 3), cG 23 21 true (cM 0), cG 24 21 true (cM 9), cG 25 21 true (ixaS 1 (t 23) (t 24)), cG 26 21 true (cD 25), cG 27 21 true (cM 0), cG 28 21 true (cM 9), cG 29 21 true (cB .sub (t 28) (cN ((1)))), cG 30 21 true (ixaS 1 (t 27) (t 29)), cG 31 21 true (cD 30), cG 32 21 true (call (t 22) [t 26, t 31]), cG 33 21 true (cB .lss (t 32) (cN ((0)))), cO 34 (pick (t 21) (t 33) cFal)] [(0, 0), (1, 0), (2, 0), (3, 0), (4, 0), (5, 0), (6, 0), (7, 0), (8, 0), (9, 0), (10, 0), (11, 0), (12, 0), (13, 0), (14, 2), (15, 0), (16, 0)]).seq (C2.cond (t 34) skip (exit 2))).seq ((block 3 (ops 1 [cO 37 (cM 0), cO 38 (cM 9), cO 39 (cM 0), cO 40 (cM 9), cO 41 (cB .sub (t 40) (cN ((1)))), cO 42 (cM 0), cO 43 (cM 9), cO 44 (cB .sub (t 43) (cN ((1)))), cO 45 (ixaS 1 (t 42) (t 44)), cO 46 (cD 45), cO 47 (cM 0), cO 48 (cM 9), cO 49 (ixaS 1 (t 47) (t 48)), cO 50 (cD 49), cO 51 (ixaS 1 (t 37) (t 38)), Op2.mk none none (Ins.st 1 (t 51) (t 46)), cO 52 (ixaS 1 (t 39) (t 41)), Op2.mk none none (Ins.st 1 (t 52) (t 50))])).seq (ops 0 [cO 35 (cM 9), cO 36 (cB .sub (t 35) (cN ((1)))), cO 9 (cM 36)]))).loop))).seq (ops 0 [cO 15 (cM 8), cO 16 (cB .add (t 15) (cN ((1)))), cO 8 (cM 16)]))).loop)))
theorem is125 : Is Tryz.prog 125 b125 := Is.mk' Tryz.func125 (by kernel_rfl)

def b136 : F2 := (F2.mk 28 [RV.t 8, RV.t 9] ((ops 0 [cO 8 (mov (cN ((0)))), cO 9 (mov (cN ((0))))]).seq (((mixS 1 [cO 10 (cM 0), cO 11 (cM 2), cO 12 (ixaS 1 (t 10) (t 11)), cO 13 (cD 12), cO 14 (cM 0), cO 15 (cM 1), cO 16 (ixaS 1 (t 14) (t 15)), cO 17 (cD 16), cO 18 (call (cF 74) [t 13, t 17])] [(0, 0), (1, 0), (2, 0), (3, 0), (4, 0), (5, 0), (6, 0), (7, 0), (8, 2)]).seq (C2.cond (t 18) ((ops 0 [cO 19 (cM 3), cO 20 (nilck (t 19)), cO 21 (cD 20), cO 22 (cB .add (t 21) (cN ((1)))), cO 23 (nilck (t 19)), Op2.mk none none (Ins.st 1 (t 23) (t 22))]).seq ((ops 0 [cO 24 (cM 2), cO 25 (cM 1), cO 8 (cM 24), cO 9 (cM 25)]).seq ret)) skip)).seq ((ops 0 [cO 26 (cM 1), cO 27 (cM 2), cO 8 (cM 26), cO 9 (cM 27)]).seq ret))))
theorem is136 : Is Tryz.prog 136 b136 := Is.mk' Tryz.func136 (by kernel_rfl)

end Go.Proofs.YtbiikomnhkbblaaGreat

/- U1: contracts of functions and plain laws; for all inputs that the theorems name. -/
namespace Go.Proofs.YtbiikomnhkbblaaGreat
open Go Go.Abs

/-! ### rows that are permuted between two places -/
def swp {α : Type} [Inhabited α] (L : List α) (i j : Nat) : List α := (L.set i (L.getD j default)).set j (L.getD i default)
structure PermR {α : Type} [Inhabited α] (a b : Nat) (L L' : List α) : Prop where
  len : L'.length = L.length
  out : ∀ i, i < a ∨ b ≤ i → L'.getD i default = L.getD i default
  perm : L'.Perm L
section
variable {α : Type} [Inhabited α] {a b a' b' : Nat} {L L' L'' : List α}
theorem getD_set {l : List α} {i j : Nat} {x : α} (h : i < l.length) : (l.set i x).getD j default = if i = j then x else l.getD j default := by
  simp only [List.getD, List.getElem?_set]
  split
  · rename_i e; subst e; simp [h]
  · rfl
theorem swp_len (i j : Nat) : (swp L i j).length = L.length := by simp [swp]
theorem swp_get {i j : Nat} (hi : i < L.length) (hj : j < L.length) (k : Nat) : (swp L i j).getD k default = if k = j then L.getD i default else if k = i then L.getD j default else L.getD k default := by
  unfold swp
  rw [getD_set (by simpa using hj), getD_set hi]
  by_cases e : k = j
  · subst e; simp
  · rw [if_neg (fun h => e h.symm), if_neg e]
    by_cases e2 : k = i
    · subst e2; simp
    · rw [if_neg (fun h => e2 h.symm), if_neg e2]
theorem swp_perm {i j : Nat} (hi : i < L.length) (hj : j < L.length) : (swp L i j).Perm L := by
  unfold swp
  have e1 : L.getD i default = L[i] := by simp [List.getD, hi]
  have e2 : L.getD j default = L[j] := by simp [List.getD, hj]
  rw [e1, e2]
  exact List.set_set_perm hi hj
theorem PermR.refl : PermR a b L L := ⟨rfl, fun _ _ => rfl, List.Perm.refl _⟩
theorem PermR.trans (h : PermR a b L L') (k : PermR a b L' L'') : PermR a b L L'' := ⟨k.len.trans h.len, fun i hi => (k.out i hi).trans (h.out i hi), k.perm.trans h.perm⟩
theorem PermR.mono (h : PermR a' b' L L') (h1 : a ≤ a') (h2 : b' ≤ b) : PermR a b L L' := ⟨h.len, fun i hi => h.out i (by omega), h.perm⟩
theorem PermR.swap {i j : Nat} (h1 : a ≤ i ∧ i < b) (h2 : a ≤ j ∧ j < b) (hb : b ≤ L.length) : PermR a b L (swp L i j) :=
  ⟨swp_len i j, fun k hk => by rw [swp_get (by omega) (by omega), if_neg (by omega), if_neg (by omega)], swp_perm (by omega) (by omega)⟩
theorem ext_getD {l m : List α} (hl : l.length = m.length) (h : ∀ i, i < l.length → l.getD i default = m.getD i default) : l = m :=
  List.ext_getElem hl (fun i h1 h2 => by
    have := h i h1
    simpa [List.getD, h1, h2] using this)
theorem PermR.mid (h : PermR a b L L') (hab : a ≤ b) (hb : b ≤ L.length) : ((L'.drop a).take (b - a)).Perm ((L.drop a).take (b - a)) := by
  have e1 : ∀ M : List α, b ≤ M.length → M = M.take a ++ ((M.drop a).take (b - a) ++ M.drop b) := fun M hM => by
    have : M.drop b = (M.drop a).drop (b - a) := by rw [List.drop_drop]; congr 1; omega
    rw [this, List.take_append_drop, List.take_append_drop]
  have t : L'.take a = L.take a := ext_getD (by simp [h.len]) (fun i hi => by
    have hi' : i < a := by simp at hi; omega
    rw [getD_take hi', getD_take hi']; exact h.out i (.inl hi'))
  have d : L'.drop b = L.drop b := ext_getD (by simp [h.len]) (fun i hi => by
    have e : ∀ M : List α, (M.drop b).getD i default = M.getD (b + i) default := fun M => by simp [List.getD, List.getElem?_drop]
    rw [e, e]; exact h.out (b + i) (.inr (by omega)))
  have p := h.perm
  rw [e1 L' (by rw [h.len]; exact hb), e1 L hb, t, d] at p
  exact (List.perm_append_right_iff _).1 ((List.perm_append_left_iff _).1 p)
theorem mem_mid {M : List α} {x : α} (hab : a ≤ b) (hb : b ≤ M.length) : x ∈ (M.drop a).take (b - a) ↔ ∃ i, a ≤ i ∧ i < b ∧ M.getD i default = x := by
  constructor
  · intro h
    obtain ⟨j, hj, e⟩ := List.getElem_of_mem h
    have hj' : j < b - a := by simp at hj; omega
    refine ⟨a + j, by omega, by omega, ?_⟩
    rw [← e]
    simp [List.getD, List.getElem_take, List.getElem_drop, show a + j < M.length by omega]
  · rintro ⟨i, h1, h2, rfl⟩
    rw [List.mem_iff_getElem?]
    refine ⟨i - a, ?_⟩
    rw [List.getElem?_take, if_pos (by omega), List.getElem?_drop, show a + (i - a) = i by omega]
    simp [List.getD, show i < M.length by omega]
theorem PermR.all {p : α → Prop} (h : PermR a b L L') (hab : a ≤ b) (hb : b ≤ L.length) (hp : ∀ i, a ≤ i → i < b → p (L.getD i default)) : ∀ i, a ≤ i → i < b → p (L'.getD i default) := by
  intro i h1 h2
  have hm : L'.getD i default ∈ (L'.drop a).take (b - a) := (mem_mid hab (by rw [h.len]; exact hb)).2 ⟨i, h1, h2, rfl⟩
  obtain ⟨j, k1, k2, e⟩ := (mem_mid hab hb).1 ((h.mid hab hb).mem_iff.1 hm)
  rw [← e]; exact hp j k1 k2
end

structure Ord {α : Type} (K : α → α → Int) : Prop where
  irr : ∀ x, ¬ K x x < 0
  asym : ∀ x y, K x y < 0 → ¬ K y x < 0
  negtr : ∀ x y z, ¬ K y x < 0 → ¬ K z y < 0 → ¬ K z x < 0
def SortedR {α : Type} [Inhabited α] (K : α → α → Int) (a b : Nat) (L : List α) : Prop := ∀ i j, a ≤ i → i < j → j < b → ¬ K (L.getD j default) (L.getD i default) < 0
theorem SortedR.one {α : Type} [Inhabited α] {K : α → α → Int} {a b : Nat} {L : List α} (h : b ≤ a + 1) : SortedR K a b L := fun i j h1 h2 h3 => by omega
end Go.Proofs.YtbiikomnhkbblaaGreat

/- U2v: contracts of functions and plain laws; for all inputs that the theorems name. -/
namespace Go.Proofs.YtbiikomnhkbblaaGreat
open Go Go.Abs
open Nat (reduceEqDiff reduceAdd reduceLeDiff)

/-! ### what a sort is given: rows of one cell an element, and a comparison -/
structure Cmp {α : Type} (P : Program) (f : α → AV) (K : α → α → Int) (G : α → Prop) (g : Nat) (caps : List AV) : Prop where
  cells : ∀ x, (f x).cells = [f x]
  one : ∀ x, (f x).one = true
  dat : ∀ x, Dat (f x)
  dcaps : ∀ x ∈ caps, Dat x
  run : ∀ x y, G x → G y → Go.Abs.Pure P g (f x :: f y :: caps) (.int .i64 (K x y))
  ord : Ord K
theorem lput_mapG {α : Type} {f : α → AV} {l : List α} {k : Nat} {x : α} (h : k < l.length) : lput (l.map f) k [f x] = (l.set k x).map f := by
  simp only [lput, List.map_set, List.length_cons, List.length_nil, Nat.zero_add]
  rw [List.set_eq_take_append_cons_drop, if_pos (by simpa using h)]
  simp
theorem hupd_two (H : Hp) (b : Nat) (x y : List AV) : hupd (hupd H b x) b y = hupd H b y := by
  funext i; unfold hupd; split <;> rfl
theorem hupd_id {H : Hp} {b : Nat} {cs : List AV} (h : H b = some cs) : H = hupd H b cs := by
  funext i
  by_cases e : i = b
  · subst e; rw [hupd_self', h]
  · rw [hupd_ne e]

def AlmostR {α : Type} [Inhabited α] (K : α → α → Int) (a i j : Nat) (M : List α) : Prop := ∀ p q, a ≤ p → p < q → q ≤ i → q ≠ j → ¬ K (M.getD q default) (M.getD p default) < 0
section
variable {α : Type} [Inhabited α] {f : α → AV} {K : α → α → Int} {G : α → Prop} {g : Nat} {caps : List AV}
theorem AlmostR.start {a i : Nat} {M : List α} (h : SortedR K a i M) : AlmostR K a i i M := fun p q h1 h2 h3 h4 => h p q h1 h2 (by omega)
theorem AlmostR.done {a i j : Nat} {M : List α} (hK : Ord K) (h : AlmostR K a i j M) (hj : j = a ∨ (a < j ∧ ¬ K (M.getD j default) (M.getD (j - 1) default) < 0)) : SortedR K a (i + 1) M := by
  intro p q h1 h2 h3
  by_cases e : q = j
  · subst e
    rcases hj with hj | ⟨hj, hk⟩
    · omega
    · by_cases e2 : p = q - 1
      · rw [e2]; exact hk
      · exact hK.negtr _ _ _ (h p (q - 1) h1 (by omega) (by omega) (by omega)) hk
  · exact h p q h1 h2 (by omega) e
theorem AlmostR.step {a i j : Nat} {M : List α} (hK : Ord K) (h : AlmostR K a i (j + 1) M) (haj : a ≤ j) (hji : j + 1 ≤ i) (hi : i < M.length) (hk : K (M.getD (j + 1) default) (M.getD j default) < 0) : AlmostR K a i j (swp M (j + 1) j) := by
  intro p q h1 h2 h3 h4
  rw [swp_get (by omega) (by omega), swp_get (by omega) (by omega)]
  rw [if_neg h4]
  by_cases e1 : q = j + 1
  · rw [if_pos e1]
    by_cases e2 : p = j
    · rw [if_pos e2]; exact hK.asym _ _ hk
    · rw [if_neg e2, if_neg (by omega)]
      exact h p j h1 (by omega) (by omega) (by omega)
  · rw [if_neg e1]
    by_cases e2 : p = j
    · rw [if_pos e2]; exact h (j + 1) q (by omega) (by omega) h3 e1
    · rw [if_neg e2]
      by_cases e3 : p = j + 1
      · rw [if_pos e3]; exact h j q (by omega) (by omega) h3 e1
      · rw [if_neg e3]; exact h p q h1 h2 h3 e1
theorem SortedR.mono {a b a' b' : Nat} {M : List α} (h : SortedR K a b M) (h1 : a ≤ a') (h2 : b' ≤ b) : SortedR K a' b' M := fun p q k1 k2 k3 => h p q (by omega) k2 (by omega)
theorem PermR.mem {a b : Nat} {L M : List α} (h : PermR a b L M) (hG : ∀ x ∈ L, G x) : ∀ x ∈ M, G x := fun x hx => hG x (h.perm.mem_iff.1 hx)
attribute [local irreducible] awp2 aops2 ains aloop athen bbind obind gbind acond res1 Go.Abs.Fn PCall Go.Abs.Pure SnapArgs SnapL Yl

end
end Go.Proofs.YtbiikomnhkbblaaGreat

/- U3v: contracts of functions and plain laws; for all inputs that the theorems name. -/
namespace Go.Proofs.YtbiikomnhkbblaaGreat
open Go Go.Abs
open Nat (reduceEqDiff reduceAdd reduceLeDiff)

/-! ### heaps -/
def Kid (p c : Nat) : Prop := c = 2 * p + 1 ∨ c = 2 * p + 2
def HeapR {α : Type} [Inhabited α] (K : α → α → Int) (a hi r : Nat) (M : List α) : Prop := ∀ p c, r ≤ p → Kid p c → c < hi → ¬ K (M.getD (a + p) default) (M.getD (a + c) default) < 0
structure SiftR {α : Type} [Inhabited α] (K : α → α → Int) (a hi lo root : Nat) (M : List α) : Prop where
  le : lo ≤ root
  heap : ∀ p c, lo ≤ p → p ≠ root → Kid p c → c < hi → ¬ K (M.getD (a + p) default) (M.getD (a + c) default) < 0
  up : ∀ q c, lo ≤ q → Kid q root → Kid root c → c < hi → ¬ K (M.getD (a + q) default) (M.getD (a + c) default) < 0
section
variable {α : Type} [Inhabited α] {f : α → AV} {K : α → α → Int} {G : α → Prop} {g : Nat} {caps : List AV}
theorem SiftR.start {a hi lo : Nat} {M : List α} (h : HeapR K a hi (lo + 1) M) : SiftR K a hi lo lo M :=
  ⟨Nat.le_refl _, fun p c h1 h2 => h p c (by omega), fun q c h1 h2 => by unfold Kid at h2; omega⟩
theorem SiftR.leaf {a hi lo root : Nat} {M : List α} (h : SiftR K a hi lo root M) (hr : hi ≤ 2 * root + 1) : HeapR K a hi lo M := fun p c h1 h2 h3 => by
  by_cases e : p = root
  · subst e; unfold Kid at h2; omega
  · exact h.heap p c h1 e h2 h3
theorem SiftR.stop {a hi lo root c : Nat} {M : List α} (hK : Ord K) (h : SiftR K a hi lo root M) (hb : ∀ d, Kid root d → d < hi → ¬ K (M.getD (a + c) default) (M.getD (a + d) default) < 0) (hn : ¬ K (M.getD (a + root) default) (M.getD (a + c) default) < 0) : HeapR K a hi lo M := fun p d h1 h2 h3 => by
  by_cases e : p = root
  · subst e; exact hK.negtr _ _ _ (hb d h2 h3) hn
  · exact h.heap p d h1 e h2 h3
theorem SiftR.step {a hi lo root c : Nat} {M : List α} (hK : Ord K) (h : SiftR K a hi lo root M) (hkid : Kid root c) (hc : c < hi) (hM : a + hi ≤ M.length) (hb : ∀ d, Kid root d → d < hi → ¬ K (M.getD (a + c) default) (M.getD (a + d) default) < 0) (hn : K (M.getD (a + root) default) (M.getD (a + c) default) < 0) : SiftR K a hi lo c (swp M (a + root) (a + c)) := by
  have hrc : root < c := by unfold Kid at hkid; omega
  have hg : ∀ k, (swp M (a + root) (a + c)).getD (a + k) default = if k = c then M.getD (a + root) default else if k = root then M.getD (a + c) default else M.getD (a + k) default := fun k => by
    rw [swp_get (by omega) (by omega)]
    by_cases e : k = c
    · rw [if_pos (by omega), if_pos e]
    · rw [if_neg (by omega), if_neg e]
      by_cases e2 : k = root
      · rw [if_pos (by omega), if_pos e2]
      · rw [if_neg (by omega), if_neg e2]
  refine ⟨by have := h.le; omega, fun p d h1 h2 h3 h4 => ?_, fun q d h1 h2 h3 h4 => ?_⟩
  · rw [hg, hg, if_neg h2]
    by_cases e1 : p = root
    · rw [if_pos e1]
      subst e1
      by_cases e2 : d = c
      · rw [if_pos e2]; exact hK.asym _ _ hn
      · rw [if_neg e2, if_neg (by unfold Kid at h3; omega)]; exact hb d h3 h4
    · rw [if_neg e1]
      have hdc : d ≠ c := fun e => by subst e; unfold Kid at h3 hkid; omega
      rw [if_neg hdc]
      by_cases e2 : d = root
      · rw [if_pos e2]; subst e2; exact h.up p c h1 h3 hkid hc
      · rw [if_neg e2]; exact h.heap p d h1 e1 h3 h4
  · have eq : q = root := by unfold Kid at h2 hkid; omega
    subst eq
    rw [hg, hg, if_neg (by omega), if_pos rfl, if_neg (by unfold Kid at h3; omega), if_neg (by unfold Kid at h3; omega)]
    exact h.heap c d (by omega) (by omega) h3 h4
theorem swp_lput {M : List α} {i j : Nat} (hi : i < M.length) (hj : j < M.length) : ∃ M1 : List α, M1.length = M.length ∧ lput (M.map f) i [f (M.getD j default)] = M1.map f ∧ lput (M1.map f) j [f (M.getD i default)] = (swp M i j).map f :=
  ⟨M.set i (M.getD j default), by simp, lput_mapG hi, by rw [lput_mapG (by simpa using hj)]; rfl⟩
theorem toNat_two {a c : Nat} : ((a : Int) + (c : Int)).toNat = a + c := by omega
theorem toNat_three {a c : Nat} : ((a : Int) + (c : Int) + 1).toNat = a + (c + 1) := by omega
attribute [local irreducible] awp2 aops2 ains aloop athen bbind obind gbind acond res1 Go.Abs.Fn PCall Go.Abs.Pure SnapArgs SnapL Yl

end
end Go.Proofs.YtbiikomnhkbblaaGreat

/- U4v: contracts of functions and plain laws; for all inputs that the theorems name. -/
namespace Go.Proofs.YtbiikomnhkbblaaGreat
open Go Go.Abs
open Nat (reduceEqDiff reduceAdd reduceLeDiff)

/-! ### heapSortCmpFunc -/
section
variable {α : Type} [Inhabited α] {f : α → AV} {K : α → α → Int} {G : α → Prop} {g : Nat} {caps : List AV}
theorem HeapR.top {a hi : Nat} {M : List α} (hK : Ord K) (h : HeapR K a hi 0 M) : ∀ p, p < hi → ¬ K (M.getD a default) (M.getD (a + p) default) < 0 := by
  intro p
  induction p using Nat.strongRecOn with
  | ind p ih =>
    intro hp
    by_cases e : p = 0
    · subst e; exact hK.irr _
    · have k : Kid ((p - 1) / 2) p := by unfold Kid; omega
      exact hK.negtr _ _ _ (h _ p (Nat.zero_le _) k hp) (ih ((p - 1) / 2) (by omega) (by omega))
structure TailR {α : Type} [Inhabited α] (K : α → α → Int) (a e k : Nat) (M : List α) : Prop where
  sort : SortedR K k e M
  ge : ∀ p q, a ≤ p → p < k → k ≤ q → q < e → ¬ K (M.getD q default) (M.getD p default) < 0
theorem TailR.step {a e k : Nat} {M N : List α} (hK : Ord K) (ht : TailR K a e (a + (k + 1)) M) (hh : HeapR K a (k + 1) 0 M) (he : a + (k + 1) ≤ e) (hM : e ≤ M.length) (hp : PermR a (a + k) (swp M a (a + k)) N) : TailR K a e (a + k) N := by
  have hg : ∀ j, (swp M a (a + k)).getD j default = if j = a + k then M.getD a default else if j = a then M.getD (a + k) default else M.getD j default := fun j => swp_get (by omega) (by omega) j
  have hmax := hh.top hK
  have lo : ∀ q, a + k ≤ q → q < e → ∀ p, a ≤ p → p < a + k → ¬ K (N.getD q default) (N.getD p default) < 0 := by
    intro q h1 h2
    rw [hp.out q (.inr h1), hg]
    have hl : (swp M a (a + k)).length = M.length := swp_len _ _
    refine hp.all (p := fun x => ¬ K (if q = a + k then M.getD a default else if q = a then M.getD (a + k) default else M.getD q default) x < 0) (by omega) (by omega) ?_
    intro p k1 k2
    rw [hg, if_neg (by omega : ¬ p = a + k)]
    by_cases e1 : q = a + k
    · rw [if_pos e1]
      by_cases e2 : p = a
      · rw [if_pos e2]; exact hmax k (by omega)
      · rw [if_neg e2]
        have := hmax (p - a) (by omega)
        rw [show a + (p - a) = p by omega] at this
        exact this
    · rw [if_neg e1, if_neg (by omega : ¬ q = a)]
      by_cases e2 : p = a
      · rw [if_pos e2]; exact ht.ge (a + k) q (by omega) (by omega) (by omega) h2
      · rw [if_neg e2]; exact ht.ge p q k1 (by omega) (by omega) h2
  refine ⟨fun p q h1 h2 h3 => ?_, fun p q h1 h2 h3 h4 => lo q h3 h4 p h1 h2⟩
  rw [hp.out p (.inr h1), hp.out q (.inr (by omega)), hg, hg, if_neg (by omega : ¬ q = a + k), if_neg (by omega : ¬ q = a)]
  by_cases e1 : p = a + k
  · rw [if_pos e1]; exact ht.ge a q (Nat.le_refl _) (by omega) (by omega) h3
  · rw [if_neg e1, if_neg (by omega : ¬ p = a)]; exact ht.sort p q (by omega) h2 h3
theorem HeapR.swapTop {a k : Nat} {M : List α} (h : HeapR K a (k + 1) 0 M) (hM : a + (k + 1) ≤ M.length) : HeapR K a k 1 (swp M a (a + k)) := by
  intro p c h1 h2 h3
  have hg : ∀ j, (swp M a (a + k)).getD j default = if j = a + k then M.getD a default else if j = a then M.getD (a + k) default else M.getD j default := fun j => swp_get (by omega) (by omega) j
  have : p < c := by unfold Kid at h2; omega
  rw [hg, hg, if_neg (by omega), if_neg (by omega), if_neg (by omega), if_neg (by omega)]
  exact h p c (Nat.zero_le _) h2 (by omega)
theorem TailR.start {a e : Nat} {M : List α} : TailR K a e e M := ⟨fun p q h1 h2 h3 => by omega, fun p q h1 h2 h3 h4 => by omega⟩
theorem TailR.done {a e : Nat} {M : List α} (h : TailR K a e a M) : SortedR K a e M := h.sort
theorem HeapR.start {a hi r : Nat} {M : List α} (hr : hi ≤ 2 * r + 1) : HeapR K a hi r M := fun p c h1 h2 h3 => by unfold Kid at h2; omega
attribute [local irreducible] awp2 aops2 ains aloop athen bbind obind gbind acond res1 Go.Abs.Fn PCall Go.Abs.Pure SnapArgs SnapL Yl

end
end Go.Proofs.YtbiikomnhkbblaaGreat

/- U5v: contracts of functions and plain laws; for all inputs that the theorems name. -/
namespace Go.Proofs.YtbiikomnhkbblaaGreat
open Go Go.Abs
open Nat (reduceEqDiff reduceAdd reduceLeDiff)

/-! ### reverseRange, order2, median, choosePivot -/
section
variable {α : Type} [Inhabited α] {f : α → AV} {K : α → α → Int} {G : α → Prop} {g : Nat} {caps : List AV}
def anil : AV → Option AV
  | .ptr b n o => some (.ptr b n o)
  | .iptr c o => some (.iptr c o)
  | .func f c => some (.func f c)
  | _ => none
theorem SV3 : (∀ (T : Tm) (H : Hp) (x : Opd), ival T H (.nilck x) = anil (ov T x)) ∧ (∀ b n o : Nat, anil (.ptr b n o) = some (.ptr b n o)) := ⟨fun T H x => by
  simp only [ival]
  cases ov T x <;> rfl, fun _ _ _ => rfl⟩
attribute [local irreducible] awp2 aops2 ains aloop athen bbind obind gbind acond res1 Go.Abs.Fn PCall Go.Abs.Pure SnapArgs SnapL Yl

end
end Go.Proofs.YtbiikomnhkbblaaGreat

/- U6v: contracts of functions and plain laws; for all inputs that the theorems name. -/
namespace Go.Proofs.YtbiikomnhkbblaaGreat
open Go Go.Abs
open Nat (reduceEqDiff reduceAdd reduceLeDiff)

section
variable {α : Type} [Inhabited α] {f : α → AV} {K : α → α → Int} {G : α → Prop} {g : Nat} {caps : List AV}
attribute [local irreducible] awp2 aops2 ains aloop athen bbind obind gbind acond res1 Go.Abs.Fn PCall Go.Abs.Pure SnapArgs SnapL Yl

end
end Go.Proofs.YtbiikomnhkbblaaGreat

/- U7v: contracts of functions and plain laws; for all inputs that the theorems name. -/
namespace Go.Proofs.YtbiikomnhkbblaaGreat
open Go Go.Abs
open Nat (reduceEqDiff reduceAdd reduceLeDiff)

/-! ### partialInsertionSortCmpFunc -/
def LowR {α : Type} [Inhabited α] (K : α → α → Int) (a e : Nat) (M : List α) : Prop := ∀ q, 0 < a → a ≤ q → q < e → ¬ K (M.getD q default) (M.getD (a - 1) default) < 0
section
variable {α : Type} [Inhabited α] {f : α → AV} {K : α → α → Int} {G : α → Prop} {g : Nat} {caps : List AV}
theorem LowR.perm {a e : Nat} {L M : List α} (h : LowR K a e L) (hp : PermR a e L M) (hae : a ≤ e) (he : e ≤ L.length) : LowR K a e M := fun q h0 h1 h2 => by
  rw [hp.out (a - 1) (.inl (by omega))]
  exact hp.all (p := fun x => ¬ K x (L.getD (a - 1) default) < 0) hae he (fun i k1 k2 => h i h0 k1 k2) q h1 h2
theorem SortedR.out {a i e : Nat} {L M : List α} (h : SortedR K a i L) (hp : PermR i e L M) : SortedR K a i M := fun p q h1 h2 h3 => by
  rw [hp.out p (.inl (by omega)), hp.out q (.inl h3)]; exact h p q h1 h2 h3
theorem SortedR.snoc {a i : Nat} {M : List α} (hK : Ord K) (h : SortedR K a i M) (ha : a < i) (hn : ¬ K (M.getD i default) (M.getD (i - 1) default) < 0) : SortedR K a (i + 1) M := fun p q h1 h2 h3 => by
  by_cases e : q = i
  · subst e
    by_cases e2 : p = q - 1
    · rw [e2]; exact hn
    · exact hK.negtr _ _ _ (h p (q - 1) h1 (by omega) (by omega)) hn
  · exact h p q h1 h2 (by omega)
attribute [local irreducible] awp2 aops2 ains aloop athen bbind obind gbind acond res1 Go.Abs.Fn PCall Go.Abs.Pure SnapArgs SnapL Yl

end
end Go.Proofs.YtbiikomnhkbblaaGreat

/- U8v: contracts of functions and plain laws; for all inputs that the theorems name. -/
namespace Go.Proofs.YtbiikomnhkbblaaGreat
open Go Go.Abs
open Nat (reduceEqDiff reduceAdd reduceLeDiff)

/-! ### partitionEqualCmpFunc, partitionCmpFunc -/
structure PartR {α : Type} [Inhabited α] (P : α → Prop) (a e mu i j : Nat) (M : List α) : Prop where
  lo : a + 1 ≤ i
  mid : i ≤ j + 1
  hi : j < e
  mu : j + 1 - i ≤ mu
  up : ∀ p, a + 1 ≤ p → p < i → P (M.getD p default)
  dn : ∀ q, j < q → q < e → ¬ P (M.getD q default)
section
variable {α : Type} [Inhabited α] {f : α → AV} {K : α → α → Int} {G : α → Prop} {g : Nat} {caps : List AV}
theorem PartR.start {P : α → Prop} {a m : Nat} {M : List α} (h : a ≤ m) : PartR P a (m + 1) (m + 1 - (a + 1)) (a + 1) m M := ⟨Nat.le_refl _, by omega, by omega, Nat.le_refl _, fun p h1 h2 => by omega, fun q h1 h2 => by omega⟩
theorem PartR.stepUp {P : α → Prop} {a e mu i j : Nat} {M : List α} (h : PartR P a e mu i j M) (hij : i ≤ j) (hp : P (M.getD i default)) : PartR P a e mu (i + 1) j M :=
  ⟨by have := h.lo; omega, by omega, h.hi, by have := h.mu; omega, fun p h1 h2 => by
    by_cases e : p = i
    · rw [e]; exact hp
    · exact h.up p h1 (by omega), h.dn⟩
theorem PartR.stepDn {P : α → Prop} {a e mu i k : Nat} {M : List α} (h : PartR P a e mu i (k + 1) M) (hij : i ≤ k + 1) (hp : ¬ P (M.getD (k + 1) default)) : PartR P a e mu i k M :=
  ⟨h.lo, hij, by have := h.hi; omega, by have := h.mu; omega, h.up, fun q h1 h2 => by
    by_cases e : q = k + 1
    · rw [e]; exact hp
    · exact h.dn q (by omega) h2⟩
theorem PartR.swap {P : α → Prop} {a e mu i k : Nat} {M : List α} (h : PartR P a e mu i (k + 1) M) (hM : e ≤ M.length) (hij : i ≤ k + 1) (hi : ¬ P (M.getD i default)) (hj : P (M.getD (k + 1) default)) : PartR P a e (k + 1 - (i + 1)) (i + 1) k (swp M i (k + 1)) ∧ k + 1 - (i + 1) < mu := by
  have hne : i ≠ k + 1 := fun e => hi (by rw [e]; exact hj)
  have hh := h.hi
  have hlo := h.lo
  have hmu := h.mu
  refine ⟨⟨by omega, by omega, by omega, Nat.le_refl _, fun p h1 h2 => ?_, fun q h1 h2 => ?_⟩, by omega⟩
  · rw [swp_get (by omega) (by omega), if_neg (by omega)]
    by_cases e : p = i
    · rw [if_pos e]; exact hj
    · rw [if_neg e]; exact h.up p h1 (by omega)
  · rw [swp_get (by omega) (by omega)]
    by_cases e : q = k + 1
    · rw [if_pos e]; exact hi
    · rw [if_neg e, if_neg (by omega)]; exact h.dn q (by omega) h2
theorem swp_keep {M : List α} {i j k : Nat} (hi : i < M.length) (hj : j < M.length) (h1 : k ≠ i) (h2 : k ≠ j) : (swp M i j).getD k default = M.getD k default := by
  rw [swp_get hi hj, if_neg h2, if_neg h1]
attribute [local irreducible] awp2 aops2 ains aloop athen bbind obind gbind acond res1 Go.Abs.Fn PCall Go.Abs.Pure SnapArgs SnapL Yl
theorem PartR.done {P : α → Prop} {a e mu i j : Nat} {M : List α} {v : α} (hK : Ord K) (h : PartR P a e mu i j M) (hM : e ≤ M.length) (hji : j < i) (hv : M.getD a default = v) (hP : ∀ x, P x ↔ K x v < 0) : a ≤ j ∧ j < e ∧ (∀ p, a ≤ p → p < j → K ((swp M j a).getD p default) ((swp M j a).getD j default) < 0) ∧ (∀ q, j < q → q < e → ¬ K ((swp M j a).getD q default) ((swp M j a).getD j default) < 0) := by
  have hlo := h.lo; have hmid := h.mid; have hhi := h.hi
  have ej : (swp M j a).getD j default = v := by
    rw [swp_get (by omega) (by omega)]
    split
    · rename_i e; rw [e, hv]
    · rw [if_pos rfl, hv]
  rw [ej]
  refine ⟨by omega, by omega, fun p h1 h2 => ?_, fun q h1 h2 => ?_⟩
  · rw [swp_get (by omega) (by omega)]
    by_cases e : p = a
    · rw [if_pos e]; exact (hP _).1 (h.up j (by omega) hji)
    · rw [if_neg e, if_neg (by omega)]; exact (hP _).1 (h.up p (by omega) (by omega))
  · rw [swp_get (by omega) (by omega), if_neg (by omega), if_neg (by omega), ← hP]; exact h.dn q h1 h2

end
end Go.Proofs.YtbiikomnhkbblaaGreat

/- U9v: contracts of functions and plain laws; for all inputs that the theorems name. -/
namespace Go.Proofs.YtbiikomnhkbblaaGreat
open Go Go.Abs
open Nat (reduceEqDiff reduceAdd reduceLeDiff)

/-! ### bits.Len, nextPowerOfTwo, xorshift -/
def len8 (x : Nat) : Nat := if x = 0 then 0 else Nat.log2 x + 1
def len8tab : ByteArray := ByteArray.mk (Array.mk [0,1,2,2,3,3,3,3,4,4,4,4,4,4,4,4,5,5,5,5,5,5,5,5,5,5,5,5,5,5,5,5,6,6,6,6,6,6,6,6,6,6,6,6,6,6,6,6,6,6,6,6,6,6,6,6,6,6,6,6,6,6,6,6,7,7,7,7,7,7,7,7,7,7,7,7,7,7,7,7,7,7,7,7,7,7,7,7,7,7,7,7,7,7,7,7,7,7,7,7,7,7,7,7,7,7,7,7,7,7,7,7,7,7,7,7,7,7,7,7,7,7,7,7,7,7,7,7,8,8,8,8,8,8,8,8,8,8,8,8,8,8,8,8,8,8,8,8,8,8,8,8,8,8,8,8,8,8,8,8,8,8,8,8,8,8,8,8,8,8,8,8,8,8,8,8,8,8,8,8,8,8,8,8,8,8,8,8,8,8,8,8,8,8,8,8,8,8,8,8,8,8,8,8,8,8,8,8,8,8,8,8,8,8,8,8,8,8,8,8,8,8,8,8,8,8,8,8,8,8,8,8,8,8,8,8,8,8,8,8,8,8,8,8,8,8,8,8,8,8,8,8,8,8,8,8])
theorem len8_lt (x : Nat) : x < 2 ^ len8 x := by
  unfold len8
  split
  · omega
  · exact Nat.lt_log2_self
theorem len8_le {x : Nat} (h : 0 < x) : 2 ^ len8 x ≤ 2 * x := by
  unfold len8
  rw [if_neg (by omega), Nat.pow_succ]
  have := Nat.log2_self_le (n := x) (by omega)
  omega
theorem len8_tab {x : Nat} (hx : x < 256) : aixStr (.str (ByteArray.mk (Array.mk [0,1,2,2,3,3,3,3,4,4,4,4,4,4,4,4,5,5,5,5,5,5,5,5,5,5,5,5,5,5,5,5,6,6,6,6,6,6,6,6,6,6,6,6,6,6,6,6,6,6,6,6,6,6,6,6,6,6,6,6,6,6,6,6,7,7,7,7,7,7,7,7,7,7,7,7,7,7,7,7,7,7,7,7,7,7,7,7,7,7,7,7,7,7,7,7,7,7,7,7,7,7,7,7,7,7,7,7,7,7,7,7,7,7,7,7,7,7,7,7,7,7,7,7,7,7,7,7,8,8,8,8,8,8,8,8,8,8,8,8,8,8,8,8,8,8,8,8,8,8,8,8,8,8,8,8,8,8,8,8,8,8,8,8,8,8,8,8,8,8,8,8,8,8,8,8,8,8,8,8,8,8,8,8,8,8,8,8,8,8,8,8,8,8,8,8,8,8,8,8,8,8,8,8,8,8,8,8,8,8,8,8,8,8,8,8,8,8,8,8,8,8,8,8,8,8,8,8,8,8,8,8,8,8,8,8,8,8,8,8,8,8,8,8,8,8,8,8,8,8,8,8,8,8,8,8]))) (.int .u8 (x : Nat)) = some (.int .u8 (len8 x : Nat)) := by
  have h1 : len8tab.size = 256 := by decide +kernel
  have h2 : ∀ i : Fin 256, (len8tab[i.val]?.getD 0).toNat = len8 i.val := by decide +kernel
  rw [SV2.2.2.2.2.2.2.2.2]
  have h3 := h2 ⟨x, hx⟩
  change (if 0 ≤ (x : Int) ∧ (x : Int) < len8tab.size then some (AV.int .u8 (len8tab[(x : Int).toNat]?.getD 0).toNat) else none) = _
  rw [if_pos ⟨by omega, by rw [h1]; omega⟩, Int.toNat_natCast]
  simp only at h3
  rw [h3]
theorem len8_up {x s k : Nat} (hk : k = len8 (x / 2 ^ s)) (h : 0 < x / 2 ^ s) : x < 2 ^ (k + s) ∧ 2 ^ (k + s) ≤ 2 * x := by
  subst hk
  have h1 := len8_lt (x / 2 ^ s)
  have h2 := len8_le h
  have hp : 0 < 2 ^ s := Nat.pow_pos (by omega)
  rw [Nat.pow_add]
  constructor
  · have := (Nat.div_lt_iff_lt_mul hp).1 h1
    exact this
  · calc 2 ^ len8 (x / 2 ^ s) * 2 ^ s ≤ 2 * (x / 2 ^ s) * 2 ^ s := Nat.mul_le_mul_right _ h2
      _ = 2 * (x / 2 ^ s * 2 ^ s) := by rw [Nat.mul_assoc]
      _ ≤ 2 * x := Nat.mul_le_mul_left _ (Nat.div_mul_le_self x (2 ^ s))
theorem len8_small {x : Nat} (hx : x < 256) : len8 x ≤ 8 := by
  rcases Nat.eq_zero_or_pos x with e | e
  · subst e; decide
  · have h := len8_le e
    rcases Nat.lt_or_ge 8 (len8 x) with h1 | h1
    · have := Nat.pow_le_pow_right (n := 2) (by omega) h1
      omega
    · exact h1
theorem wrapU64 {x : Int} (h : 0 ≤ x) (h2 : x < 18446744073709551616) : IntKind.wrap .u64 x = x := by
  simp only [IntKind.bits, IntKind.wrap, IntKind.signed]; simp; omega
theorem wrapU8 {x : Int} (h : 0 ≤ x) (h2 : x < 256) : IntKind.wrap .u8 x = x := by
  simp only [IntKind.bits, IntKind.wrap, IntKind.signed]; simp; omega
def xr (a b : Int) : Int := IntKind.wrap .u64 (BitVec.ofInt 64 a ^^^ BitVec.ofInt 64 b).toNat
def sl13 (a : Int) : Int := IntKind.wrap .u64 (a * 2 ^ 13)
def sl17 (a : Int) : Int := IntKind.wrap .u64 (a * 2 ^ 17)
def sr7 (a : Int) : Int := a.fdiv (2 ^ 7)
theorem SX : (∀ a b : Int, abin2 .xor false false (.int .u64 a) (.int .u64 b) = some (.int .u64 (xr a b))) ∧ (∀ a : Int, abin2 .shl false false (.int .u64 a) (.int .u64 13) = some (.int .u64 (sl13 a))) ∧
    (∀ a : Int, abin2 .shl false false (.int .u64 a) (.int .u64 17) = some (.int .u64 (sl17 a))) ∧ (∀ a : Int, abin2 .shr false false (.int .u64 a) (.int .u64 7) = some (.int .u64 (sr7 a))) :=
  ⟨fun _ _ => rfl, fun _ => rfl, fun _ => rfl, fun _ => rfl⟩
attribute [irreducible] xr sl13 sl17 sr7
attribute [local irreducible] awp2 aops2 ains aloop athen bbind obind gbind acond res1 Go.Abs.Fn PCall Go.Abs.Pure SnapArgs SnapL Yl

theorem next_c {H : Hp} {c nx : Nat} {s : Int} (hcc : H c = some [.int .u64 s]) : Abs.Fn Tryz.prog 122 [.ptr c 1 0] H nx fun r H' nx' => nx' = nx ∧ ∃ s' : Int, r = .int .u64 s' ∧ H' = hupd H c [.int .u64 s'] := by
  refine Abs.Fn.of_c2 follows is122 (Nat.le_of_ble_eq_true rfl) ?_
  simp only [b122, cO, cG, cN, cM, cD, cF, cB, cFal, cTru]
  have ls : ∀ x y : AV, lput [x] 0 [y] = [y] := fun _ _ => rfl
  simp only [lput, List.length_cons, List.length_nil, Nat.zero_add] at ls
  (have zz := aI @hcc (aI @SV3 (aI @SX @ls)); repeat' (first | apply w_seq | apply w_ops0 | apply w_ops1 | apply w_ret | apply a_n | apply o_nil | refine vZ ?_ | refine stZ ?_ | refine e_ends rfl ?_ | refine r1Z ?_ | fail)) <;> (try clear zz)
  exact ⟨rfl, _, rfl, by rw [hupd_two, hupd_two]; rfl⟩

set_option maxRecDepth 100000 in
theorem len64_c {H : Hp} {nx x : Nat} (hx : 0 < x) (h2 : x < 4294967296) : Abs.Fn Tryz.prog 109 [.int .u64 x] H nx fun r H' nx' => nx' = nx ∧ H' = H ∧ ∃ k : Nat, r = .int .i64 k ∧ x < 2 ^ k ∧ 2 ^ k ≤ 2 * x := by
  refine Abs.Fn.of_c2 follows is109 (Nat.le_of_ble_eq_true rfl) ?_
  delta b109 cO cG cN cM cD cF cB cFal cTru
  generalize hT : AV.str (ByteArray.mk (Array.mk [0,1,2,2,3,3,3,3,4,4,4,4,4,4,4,4,5,5,5,5,5,5,5,5,5,5,5,5,5,5,5,5,6,6,6,6,6,6,6,6,6,6,6,6,6,6,6,6,6,6,6,6,6,6,6,6,6,6,6,6,6,6,6,6,7,7,7,7,7,7,7,7,7,7,7,7,7,7,7,7,7,7,7,7,7,7,7,7,7,7,7,7,7,7,7,7,7,7,7,7,7,7,7,7,7,7,7,7,7,7,7,7,7,7,7,7,7,7,7,7,7,7,7,7,7,7,7,7,8,8,8,8,8,8,8,8,8,8,8,8,8,8,8,8,8,8,8,8,8,8,8,8,8,8,8,8,8,8,8,8,8,8,8,8,8,8,8,8,8,8,8,8,8,8,8,8,8,8,8,8,8,8,8,8,8,8,8,8,8,8,8,8,8,8,8,8,8,8,8,8,8,8,8,8,8,8,8,8,8,8,8,8,8,8,8,8,8,8,8,8,8,8,8,8,8,8,8,8,8,8,8,8,8,8,8,8,8,8,8,8,8,8,8,8,8,8,8,8,8,8,8,8,8,8,8,8])) = tb
  have htab : ∀ x : Nat, x < 256 → aixStr tb (.int .u8 (x : Nat)) = some (.int .u8 (len8 x : Nat)) := fun x hx => by rw [← hT]; exact len8_tab hx
  clear hT
  have s16 : ∀ z : Nat, abin2 .shr false false (.int .u64 (z : Nat)) (.int .u64 16) = some (.int .u64 ((z / 2 ^ 16 : Nat) : Int)) := fun z => shr_nat (b := 16) (k := .u64) (k' := .u64) (by decide)
  have s8 : ∀ z : Nat, abin2 .shr false false (.int .u64 (z : Nat)) (.int .u64 8) = some (.int .u64 ((z / 2 ^ 8 : Nat) : Int)) := fun z => shr_nat (b := 8) (k := .u64) (k' := .u64) (by decide)
  by_cases h16 : 65536 ≤ x
  · obtain ⟨y, hy⟩ : ∃ y, x / 2 ^ 16 = y := ⟨_, rfl⟩
    have hy1 : 0 < y := by omega
    have hy2 : y < 65536 := by omega
    by_cases h8 : 256 ≤ y
    · obtain ⟨z, hz⟩ : ∃ z, y / 2 ^ 8 = z := ⟨_, rfl⟩
      have hz1 : 0 < z := by omega
      have hz2 : z < 256 := by omega
      have hl := len8_small hz2
      have w8 : IntKind.wrap .u8 (z : Int) = z := wrapU8 (by omega) (by omega)
      have ht := htab z hz2
      (have zz := aI @s16 (aI @s8 (aI @hy (aI @hz (aI @w8 @ht)))); repeat' (first | apply w_seq | apply w_ops0 | apply w_skip | apply w_ret | apply a_n | apply o_nil | refine vZ ?_ | (refine cdZ ?_ ?_ <;> (intro _hg; (try simp only [ZB] at _hg); try first | exact absurd trivial _hg | (exfalso; omega))) | refine e_ends rfl ?_ | refine r1Z ?_ | fail)) <;> (try clear zz)
      have e : x / 2 ^ 24 = z := by rw [← hz, ← hy, Nat.div_div_eq_div_mul]
      exact ⟨rfl, rfl, len8 z + 24, by congr 1; omega, len8_up (by rw [e]) (by omega)⟩
    · have hl := len8_small (x := y) (by omega)
      have w8 : IntKind.wrap .u8 (y : Int) = y := wrapU8 (by omega) (by omega)
      have ht := htab y (by omega)
      (have zz := aI @s16 (aI @s8 (aI @hy (aI @w8 @ht))); repeat' (first | apply w_seq | apply w_ops0 | apply w_skip | apply w_ret | apply a_n | apply o_nil | refine vZ ?_ | (refine cdZ ?_ ?_ <;> (intro _hg; (try simp only [ZB] at _hg); try first | exact absurd trivial _hg | (exfalso; omega))) | refine e_ends rfl ?_ | refine r1Z ?_ | fail)) <;> (try clear zz)
      exact ⟨rfl, rfl, len8 y + 16, by congr 1; omega, len8_up (by rw [hy]) (by omega)⟩
  · by_cases h8 : 256 ≤ x
    · obtain ⟨z, hz⟩ : ∃ z, x / 2 ^ 8 = z := ⟨_, rfl⟩
      have hz1 : 0 < z := by omega
      have hz2 : z < 256 := by omega
      have hl := len8_small hz2
      have w8 : IntKind.wrap .u8 (z : Int) = z := wrapU8 (by omega) (by omega)
      have ht := htab z hz2
      (have zz := aI @s16 (aI @s8 (aI @hz (aI @w8 @ht))); repeat' (first | apply w_seq | apply w_ops0 | apply w_skip | apply w_ret | apply a_n | apply o_nil | refine vZ ?_ | (refine cdZ ?_ ?_ <;> (intro _hg; (try simp only [ZB] at _hg); try first | exact absurd trivial _hg | (exfalso; omega))) | refine e_ends rfl ?_ | refine r1Z ?_ | fail)) <;> (try clear zz)
      exact ⟨rfl, rfl, len8 z + 8, by congr 1; omega, len8_up (by rw [hz]) (by omega)⟩
    · have hl := len8_small (x := x) (by omega)
      have w8 : IntKind.wrap .u8 (x : Int) = x := wrapU8 (by omega) (by omega)
      have ht := htab x (by omega)
      (have zz := aI @w8 @ht; repeat' (first | apply w_seq | apply w_ops0 | apply w_skip | apply w_ret | apply a_n | apply o_nil | refine vZ ?_ | (refine cdZ ?_ ?_ <;> (intro _hg; (try simp only [ZB] at _hg); try first | exact absurd trivial _hg | (exfalso; omega))) | refine e_ends rfl ?_ | refine r1Z ?_ | fail)) <;> (try clear zz)
      exact ⟨rfl, rfl, len8 x + 0, by congr 1; omega, len8_up (s := 0) (by simp) (by simpa using hx)⟩

theorem len_c {H : Hp} {nx x : Nat} (hx : 0 < x) (h2 : x < 4294967296) : Abs.Fn Tryz.prog 86 [.int .u64 x] H nx fun r H' nx' => nx' = nx ∧ H' = H ∧ ∃ k : Nat, r = .int .i64 k ∧ x < 2 ^ k ∧ 2 ^ k ≤ 2 * x := by
  refine Abs.Fn.of_c2 follows is86 (Nat.le_of_ble_eq_true rfl) ?_
  simp only [b86, cO, cG, cN, cM, cD, cF, cB, cFal, cTru]
  (have zz := and_self; repeat' (first | apply w_seq | apply w_ops0 | apply w_skip | apply a_n | apply o_nil | refine vZ ?_ | refine cFZ ?_ | fail)) <;> (try clear zz)
  refine o_callE (by ((try simp only [simB0, ZA, reduceEqDiff, ↓reduceIte, reduceAdd, reduceLeDiff]); (try with_reducible rfl))) (by ((try simp only [simB0, ZA, reduceEqDiff, ↓reduceIte, reduceAdd, reduceLeDiff]); (try with_reducible rfl))) (len64_c hx h2) ?_
  rintro _ _ _ ⟨rfl, rfl, k, rfl, h3, h4⟩
  (have zz := and_self; repeat' (first | apply w_ret | apply a_n | apply o_nil | refine vZ ?_ | refine e_ends rfl ?_ | refine r1Z ?_ | fail)) <;> (try clear zz)
  exact ⟨rfl, rfl, k, rfl, h3, h4⟩

theorem npot_c {H : Hp} {nx x : Nat} (hx : 0 < x) (h2 : x ≤ 1000000000) : Abs.Fn Tryz.prog 121 [.int .i64 x] H nx fun r H' nx' => nx' = nx ∧ H' = H ∧ ∃ k : Nat, r = .int .u64 ((2 ^ k : Nat) : Int) ∧ x < 2 ^ k ∧ 2 ^ k ≤ 2 * x := by
  have w : IntKind.wrap .u64 (x : Int) = x := wrapU64 (by omega) (by omega)
  refine Abs.Fn.of_c2 follows is121 (Nat.le_of_ble_eq_true rfl) ?_
  simp only [b121, cO, cG, cN, cM, cD, cF, cB, cFal, cTru]
  (have zz := @w; repeat' (first | apply w_seq | apply w_ops0 | apply a_n | apply o_nil | refine vZ ?_ | fail)) <;> (try clear zz)
  refine o_callE (by ((try simp only [simB0, ZA, reduceEqDiff, ↓reduceIte, reduceAdd, reduceLeDiff]); (try with_reducible rfl))) (by ((try simp only [simB0, ZA, reduceEqDiff, ↓reduceIte, reduceAdd, reduceLeDiff, w]); (try with_reducible rfl))) (len_c hx (by omega)) ?_
  rintro _ _ _ ⟨rfl, rfl, k, rfl, h3, h4⟩
  have hk : k ≤ 62 := by
    rcases Nat.lt_or_ge 62 k with h | h
    · have := Nat.pow_le_pow_right (n := 2) (by omega) h
      omega
    · exact h
  have sh : abin2 .shl false false (.int .u64 1) (.int .i64 (k : Int)) = some (.int .u64 ((2 ^ k : Nat) : Int)) := by
    have h := shl_nat (k := .u64) (k' := .i64) (a := 1) (b := k) (tb := false) (tf := false) (by show k ≤ 64; omega) (by show 1 * 2 ^ k < 2 ^ 63; omega)
    rw [Nat.one_mul] at h
    exact h
  (have zz := @sh; repeat' (first | apply w_ret | apply a_n | apply o_nil | refine vZ ?_ | refine e_ends rfl ?_ | refine r1Z ?_ | fail)) <;> (try clear zz)
  exact ⟨rfl, rfl, k, rfl, h3, h4⟩
end Go.Proofs.YtbiikomnhkbblaaGreat

/- U10v: contracts of functions and plain laws; for all inputs that the theorems name. -/
namespace Go.Proofs.YtbiikomnhkbblaaGreat
open Go Go.Abs
open Nat (reduceEqDiff reduceAdd reduceLeDiff)

/-! ### breakPatternsCmpFunc -/
theorem and_some {a : Int} {m : Nat} (hm : m < 18446744073709551616) : ∃ r : Nat, abin2 .and false false (.int .u64 a) (.int .u64 (m : Nat)) = some (.int .u64 (r : Nat)) ∧ r ≤ m := by
  refine ⟨(BitVec.ofInt 64 a).toNat &&& m, ?_, Nat.and_le_right⟩
  show (if (IntKind.u64 = IntKind.u64) then aarith .and .u64 a m else none) = _
  rw [if_pos rfl]
  have h : (BitVec.ofInt 64 a &&& BitVec.ofInt 64 (m : Int)).toNat = (BitVec.ofInt 64 a).toNat &&& m := by
    rw [BitVec.toNat_and]
    congr 1
    simp [BitVec.toNat_ofInt]
    omega
  have h2 : (BitVec.ofInt 64 a).toNat &&& m ≤ m := Nat.and_le_right
  show some (AV.int .u64 (IntKind.wrap .u64 ((BitVec.ofInt 64 a &&& BitVec.ofInt 64 (m : Int)).toNat : Int))) = _
  rw [h, wrapU64 (by omega) (by omega)]
section
variable {α : Type} [Inhabited α] {f : α → AV} {K : α → α → Int} {G : α → Prop} {g : Nat} {caps : List AV}
attribute [local irreducible] awp2 aops2 ains aloop athen bbind obind gbind acond res1 Go.Abs.Fn PCall Go.Abs.Pure SnapArgs SnapL Yl

end
end Go.Proofs.YtbiikomnhkbblaaGreat

/- U11v: contracts of functions and plain laws; for all inputs that the theorems name. -/
namespace Go.Proofs.YtbiikomnhkbblaaGreat
open Go Go.Abs

/-! ### pdqsort: the plain part -/
structure PS (H H1 : Hp) (nx n1 b : Nat) (cs : List AV) : Prop where
  at_ : H1 b = some cs
  fr : ∀ i, i < nx → i ≠ b → H1 i = H i
  le : nx ≤ n1
section
variable {H H1 H2 : Hp} {nx n1 n2 b : Nat} {cs cs' : List AV}
theorem PS.upd (h : PS H H1 nx n1 b cs) : PS H (hupd H1 b cs') nx n1 b cs' := ⟨hupd_self', fun i k1 k2 => by rw [hupd_ne k2]; exact h.fr i k1 k2, h.le⟩
theorem PS.new {v : List AV} (hb : b < nx) (h : PS H H1 nx n1 b cs) : PS H (hupd H1 n1 v) nx (n1 + 1) b cs :=
  have h1 := h.le
  ⟨by rw [hupd_ne (by omega)]; exact h.at_, fun i k1 k2 => by rw [hupd_ne (by omega)]; exact h.fr i k1 k2, by omega⟩
theorem PS.rec_ (h : PS H H1 nx n1 b cs) (h1 : H2 b = some cs') (h2 : ∀ i, i < n1 → i ≠ b → H2 i = H1 i) (h3 : n1 ≤ n2) : PS H H2 nx n2 b cs' :=
  have h4 := h.le
  ⟨h1, fun i k1 k2 => by rw [h2 i (by omega) k2]; exact h.fr i k1 k2, by omega⟩
end
section
variable {α : Type} [Inhabited α] {f : α → AV} {K : α → α → Int} {G : α → Prop} {g : Nat} {caps : List AV}
structure PI {α : Type} [Inhabited α] (K : α → α → Int) (a e : Nat) (L : List α) (a1 e1 : Nat) (M : List α) : Prop where
  lo : a ≤ a1
  mid : a1 ≤ e1
  hi : e1 ≤ e
  len : e ≤ L.length
  perm : PermR a e L M
  low : LowR K a1 e1 M
  close : ∀ N, PermR a1 e1 M N → SortedR K a1 e1 N → SortedR K a e N
variable {a e a1 e1 : Nat} {L M N : List α}
theorem PI.mlen (h : PI K a e L a1 e1 M) : e1 ≤ M.length := by rw [h.perm.len]; exact Nat.le_trans h.hi h.len
theorem PI.start (h1 : a ≤ e) (h2 : e ≤ L.length) (h3 : LowR K a e L) : PI K a e L a e L := ⟨Nat.le_refl _, h1, Nat.le_refl _, h2, .refl, h3, fun _ _ h => h⟩
theorem PI.swap (h : PI K a e L a1 e1 M) (hp : PermR a1 e1 M N) : PI K a e L a1 e1 N :=
  ⟨h.lo, h.mid, h.hi, h.len, h.perm.trans (hp.mono h.lo h.hi), h.low.perm hp h.mid h.mlen, fun N' k1 k2 => h.close N' (hp.trans k1) k2⟩
theorem PI.done (h : PI K a e L a1 e1 M) (hp : PermR a1 e1 M N) (hs : SortedR K a1 e1 N) : PermR a e L N ∧ SortedR K a e N := ⟨h.perm.trans (hp.mono h.lo h.hi), h.close N hp hs⟩
theorem PI.equal {v : α} {m : Nat} (hK : Ord K) (h : PI K a e L a1 e1 M) (hp : PermR a1 e1 M N) (hv : ¬ K (M.getD (a1 - 1) default) v < 0) (ha : 0 < a1) (hm : a1 < m ∧ m ≤ e1) (h1 : ∀ p, a1 ≤ p → p < m → ¬ K v (N.getD p default) < 0) (h2 : ∀ q, m ≤ q → q < e1 → K v (N.getD q default) < 0) : PI K a e L m e1 N := by
  have hN := h.swap hp
  have hlow := hN.low
  have ho : N.getD (a1 - 1) default = M.getD (a1 - 1) default := hp.out _ (.inl (by omega))
  refine ⟨by have := h.lo; omega, hm.2, h.hi, h.len, hN.perm, fun q k0 k1 k2 => hK.negtr _ _ _ (h1 (m - 1) (by omega) (by omega)) (hK.asym _ _ (h2 q k1 k2)), fun N' k1 k2 => hN.close N' (k1.mono (by omega) (Nat.le_refl _)) (fun p q c1 c2 c3 => ?_)⟩
  by_cases e1' : m ≤ p
  · exact k2 p q e1' c2 c3
  · rw [k1.out p (.inl (by omega))]
    refine hK.negtr _ _ _ (h1 p c1 (by omega)) ?_
    by_cases e2 : m ≤ q
    · exact hK.asym _ _ (k1.all (p := fun x => K v x < 0) hm.2 hN.mlen h2 q e2 c3)
    · rw [k1.out q (.inl (by omega))]
      exact hK.negtr _ _ _ hv (by rw [← ho]; exact hlow q ha (by omega) c3)
theorem SortedR.glue {m : Nat} (hK : Ord K) (h1 : SortedR K a1 m N) (h2 : SortedR K (m + 1) e1 N) (h3 : ∀ p, a1 ≤ p → p < m → ¬ K (N.getD m default) (N.getD p default) < 0) (h4 : ∀ q, m < q → q < e1 → ¬ K (N.getD q default) (N.getD m default) < 0) : SortedR K a1 e1 N := fun p q k1 k2 k3 => by
  by_cases c1 : q < m
  · exact h1 p q k1 k2 c1
  · by_cases c2 : m < p
    · exact h2 p q c2 k2 k3
    · by_cases c3 : p = m
      · subst c3; exact h4 q (by omega) k3
      · by_cases c4 : q = m
        · subst c4; exact h3 p k1 k2
        · exact hK.negtr _ _ _ (h3 p k1 (by omega)) (h4 q (by omega) k3)
structure TwoS {α : Type} [Inhabited α] (K : α → α → Int) (a1 e1 m : Nat) (N : List α) : Prop where
  mid : a1 ≤ m ∧ m < e1
  lt : ∀ p, a1 ≤ p → p < m → ¬ K (N.getD m default) (N.getD p default) < 0
  ge : ∀ q, m < q → q < e1 → ¬ K (N.getD q default) (N.getD m default) < 0
theorem TwoS.left {m : Nat} {N' : List α} (h : TwoS K a1 e1 m N) (hp : PermR a1 m N N') (hl : e1 ≤ N.length) : TwoS K a1 e1 m N' :=
  have hm := h.mid
  ⟨hm, by
    rw [hp.out m (.inr (Nat.le_refl _))]
    exact hp.all (p := fun x => ¬ K (N.getD m default) x < 0) hm.1 (by omega) h.lt, fun q k1 k2 => by rw [hp.out m (.inr (Nat.le_refl _)), hp.out q (.inr (by omega))]; exact h.ge q k1 k2⟩
theorem TwoS.right {m : Nat} {N' : List α} (h : TwoS K a1 e1 m N) (hp : PermR (m + 1) e1 N N') (hl : e1 ≤ N.length) : TwoS K a1 e1 m N' :=
  have hm := h.mid
  ⟨hm, fun p k1 k2 => by rw [hp.out m (.inl (by omega)), hp.out p (.inl (by omega))]; exact h.lt p k1 k2, by
    rw [hp.out m (.inl (by omega))]
    exact fun q k1 k2 => hp.all (p := fun x => ¬ K x (N.getD m default) < 0) (by omega) hl (fun i c1 c2 => h.ge i (by omega) c2) q (by omega) k2⟩
theorem PI.left {m : Nat} (hK : Ord K) (h : PI K a e L a1 e1 M) (ht : TwoS K a1 e1 m M) (hp : PermR a1 m M N) (hs : SortedR K a1 m N) : PI K a e L (m + 1) e1 N := by
  have hm := ht.mid
  have hN := h.swap (hp.mono (Nat.le_refl _) (by omega))
  have htN := ht.left hp h.mlen
  refine ⟨by have := h.lo; omega, by omega, h.hi, h.len, hN.perm, fun q k0 k1 k2 => by rw [Nat.add_sub_cancel]; exact htN.ge q k1 k2, fun N' k1 k2 => hN.close N' (k1.mono (by omega) (Nat.le_refl _)) ?_⟩
  have ht' := htN.right k1 hN.mlen
  exact SortedR.glue hK (fun p q c1 c2 c3 => by rw [k1.out p (.inl (by omega)), k1.out q (.inl (by omega))]; exact hs p q c1 c2 c3) k2 ht'.lt ht'.ge
theorem PI.right {m : Nat} (hK : Ord K) (h : PI K a e L a1 e1 M) (ht : TwoS K a1 e1 m M) (hp : PermR (m + 1) e1 M N) (hs : SortedR K (m + 1) e1 N) : PI K a e L a1 m N := by
  have hm := ht.mid
  have hN := h.swap (hp.mono (by omega) (Nat.le_refl _))
  have htN := ht.right hp h.mlen
  refine ⟨h.lo, hm.1, by have := h.hi; omega, h.len, hN.perm, fun q k0 k1 k2 => hN.low q k0 k1 (by omega), fun N' k1 k2 => hN.close N' (k1.mono (Nat.le_refl _) (by omega)) ?_⟩
  have ht' := htN.left k1 hN.mlen
  exact SortedR.glue hK k2 (fun p q c1 c2 c3 => by rw [k1.out p (.inr (by omega)), k1.out q (.inr (by omega))]; exact hs p q c1 c2 c3) ht'.lt ht'.ge
theorem LowR.sub {a e a' e' : Nat} {M : List α} (h : LowR K a e M) (ha : a' = a) (he : e' ≤ e) : LowR K a' e' M := fun q k0 k1 k2 => by subst ha; exact h q k0 k1 (by omega)
end
end Go.Proofs.YtbiikomnhkbblaaGreat

/- U12v: contracts of functions and plain laws; for all inputs that the theorems name. -/
namespace Go.Proofs.YtbiikomnhkbblaaGreat
open Go Go.Abs
open Nat (reduceEqDiff reduceAdd reduceLeDiff)

/-! ### pdqsortCmpFunc -/
section
variable {α : Type} [Inhabited α] {f : α → AV} {K : α → α → Int} {G : α → Prop} {g : Nat} {caps : List AV}
attribute [local irreducible] awp2 aops2 ains aloop athen bbind obind gbind acond res1 Go.Abs.Fn PCall Go.Abs.Pure SnapArgs SnapL Yl

end
end Go.Proofs.YtbiikomnhkbblaaGreat

/- U13v: contracts of functions and plain laws; for all inputs that the theorems name. -/
namespace Go.Proofs.YtbiikomnhkbblaaGreat
open Go Go.Abs
open Nat (reduceEqDiff reduceAdd reduceLeDiff)

/-! ### SortFunc -/
section
variable {α : Type} [Inhabited α] {f : α → AV} {K : α → α → Int} {G : α → Prop} {g : Nat} {caps : List AV}
attribute [local irreducible] awp2 aops2 ains aloop athen bbind obind gbind acond res1 Go.Abs.Fn PCall Go.Abs.Pure SnapArgs SnapL Yl

end
end Go.Proofs.YtbiikomnhkbblaaGreat

/- U2o: contracts of functions and plain laws; for all inputs that the theorems name. -/
namespace Go.Proofs.YtbiikomnhkbblaaGreat
open Go Go.Abs
open Nat (reduceEqDiff reduceAdd reduceLeDiff)

/-! ### pdqsort with cmp.Less -/
structure CmpO {α : Type} (P : Program) (f : α → AV) (K : α → α → Int) (G : α → Prop) : Prop where
  cells : ∀ x, (f x).cells = [f x]
  one : ∀ x, (f x).one = true
  dat : ∀ x, Dat (f x)
  run : ∀ x y, G x → G y → Go.Abs.Pure P 74 [f x, f y] (.bool (decide (K x y < 0)))
  ord : Ord K
section
variable {α : Type} [Inhabited α] {f : α → AV} {K : α → α → Int} {G : α → Prop}
attribute [local irreducible] awp2 aops2 ains aloop athen bbind obind gbind acond res1 Go.Abs.Fn PCall Go.Abs.Pure SnapArgs SnapL Yl
theorem ins_o (hc : CmpO Tryz.prog f K G) {L : List α} {H : Hp} {b nx n a e : Nat} (hH : H b = some (L.map f)) (hn : L.length = n) (hG : ∀ x ∈ L, G x) (hae : a ≤ e) (hen : e ≤ n) (hn2 : n ≤ 1000000000) :
    Abs.Fn Tryz.prog 100 [.msl b n 1 0 n, .int .i64 a, .int .i64 e] H nx fun r H' nx' => nx' = nx ∧ ∃ L', H' = hupd H b (L'.map f) ∧ PermR a e L L' ∧ SortedR K a e L' := by
  refine Abs.Fn.of_c2 follows is100 (Nat.le_of_ble_eq_true rfl) ?_
  simp only [b100, cO, cG, cN, cM, cD, cF, cB, cFal, cTru]
  (have zz := and_self; repeat' (first | apply w_seq | apply w_ops0 | apply w_block | apply a_n | apply o_nil | refine vZ ?_ | apply w_loop | fail)) <;> (try clear zz)
  refine loopI (X := Nat × List α) (fun x => [(0, .msl b n 1 0 n), (1, .int .i64 a), (2, .int .i64 e), (6, .int .i64 (x.1 : Nat))]) (fun x H' nx' => a + 1 ≤ x.1 ∧ (x.1 ≤ e ∨ x.1 = a + 1) ∧ H' = hupd H b (x.2.map f) ∧ nx' = nx ∧ PermR a e L x.2 ∧ SortedR K a x.1 x.2) (fun x => e + 1 - x.1) (a + 1, L) ⟨Nat.le_refl _, .inr rfl, hupd_id hH, rfl, .refl, SortedR.one (Nat.le_refl _)⟩ (by simp (disch := omega) only [agr, ZG, reduceEqDiff, ↓reduceIte]) ?_
  rintro ⟨i, M0⟩ H' nx' ⟨h1, h2, rfl, rfl, hp0, hs0⟩
  dsimp only at *
  have hl0 : M0.length = n := by rw [hp0.len, hn]
  by_cases hi : i < e
  rotate_left
  · (have zz := and_self; repeat' (first | apply w_seq | apply w_ops0 | apply w_exit | apply a_n | apply a_x | apply o_nil | refine vZ ?_ | (refine cdZ ?_ ?_ <;> (intro _hg; (try simp only [ZB] at _hg); try first | exact absurd trivial _hg | (exfalso; omega))) | refine e_ends rfl ?_ | apply r_0 | fail)) <;> (try clear zz)
    exact ⟨rfl, M0, rfl, hp0, hs0.mono (Nat.le_refl _) (by omega)⟩
  (have zz := and_self; repeat' (first | apply w_seq | apply w_ops0 | apply w_block | apply w_skip | apply a_n | apply o_nil | refine vZ ?_ | (refine cdZ ?_ ?_ <;> (intro _hg; (try simp only [ZB] at _hg); try first | exact absurd trivial _hg | (exfalso; omega))) | apply w_loop | fail)) <;> (try clear zz)
  refine loopI (X := Nat × List α) (fun x => [(0, .msl b n 1 0 n), (1, .int .i64 a), (2, .int .i64 e), (6, .int .i64 (i : Nat)), (7, .int .i64 (x.1 : Nat))]) (fun x H' nxx => a ≤ x.1 ∧ x.1 ≤ i ∧ H' = hupd H b (x.2.map f) ∧ nxx = nx' ∧ PermR a e L x.2 ∧ AlmostR K a i x.1 x.2) (fun x => x.1) (i, M0) ⟨by omega, Nat.le_refl _, rfl, rfl, hp0, .start hs0⟩ (by simp (disch := omega) only [agr, ZG, reduceEqDiff, ↓reduceIte]) ?_
  clear hp0 hs0 hl0
  rintro ⟨j, M⟩ H' nxx ⟨a1, a2, rfl, rfl, hp, hal⟩
  dsimp only at *
  have hl : M.length = n := by rw [hp.len, hn]
  have hGM := hp.mem hG
  by_cases hja : j = a
  · subst hja
    (have zz := and_self; repeat' (first | apply w_seq | apply w_ops0 | apply w_mixS1 | apply w_exit | apply a_n | apply a_x | apply o_nil | refine vZ ?_ | refine gFZ ?_ | (refine gBZ ?_ ?_ <;> (intro _hg; (try simp only [ZB] at _hg); try first | exact absurd trivial _hg | (exfalso; omega))) | refine cFZ ?_ | fail)) <;> (try clear zz)
    exact ⟨(i + 1, M), by dsimp only; omega, ⟨by dsimp only; omega, .inl (by dsimp only; omega), rfl, rfl, hp, hal.done hc.ord (.inl rfl)⟩, by simp (disch := omega) only [agr, ZG, reduceEqDiff, ↓reduceIte]⟩
  · obtain ⟨k, rfl⟩ : ∃ k, j = k + 1 := ⟨j - 1, by omega⟩
    have tj : ((k + 1 : Nat) : Int) - 1 = (k : Int) := by omega
    have lc := hc.run (M.getD (k + 1) default) (M.getD k default) (hGM _ (mem_getD (by omega))) (hGM _ (mem_getD (by omega)))
    have d1 := hc.dat (M.getD (k + 1) default)
    have d2 := hc.dat (M.getD k default)
    generalize hKK : K (M.getD (k + 1) default) (M.getD k default) = kk at lc
    by_cases hlt : kk < 0
    · obtain ⟨M1, hl1, lm1, lm2⟩ : ∃ M1 : List α, M1.length = n ∧ lput (M.map f) (k + 1) [f (M.getD k default)] = M1.map f ∧ lput (M1.map f) k [f (M.getD (k + 1) default)] = (swp M (k + 1) k).map f :=
        ⟨M.set (k + 1) (M.getD k default), by simp [hl], lput_mapG (by omega), by rw [lput_mapG (by simp; omega)]; rfl⟩
      have lm3 := lm2
      simp only [lput, List.length_cons, List.length_nil, Nat.zero_add] at lm1 lm2
      (have zz := aI @tj (aI @Int.toNat_natCast (aI @lm1 (aI @lm2 (aI hc.cells hc.one)))); repeat' (first | apply w_seq | apply w_ops0 | apply w_ops1 | apply w_mixS1 | apply w_block | apply w_skip | apply a_n | apply o_nil | refine vZ ?_ | refine cZ ?_ (hp := lc) | refine stZ ?_ | refine gTZ ?_ | ((first | refine gBZ ?_ ?_ | refine cdZ ?_ ?_) <;> (intro _hg; (try simp only [ZB] at _hg); try first | exact absurd trivial _hg | (exfalso; omega))) | fail)) <;> (try clear zz)
      refine ⟨(k, swp M (k + 1) k), by dsimp only; omega, ⟨by dsimp only; omega, by dsimp only; omega, ?_, rfl, hp.trans (PermR.swap (by omega) (by omega) (by omega)), hal.step hc.ord (by omega) (by omega) (by omega) (by rw [hKK]; exact hlt)⟩, by simp (disch := omega) only [agr, ZG, reduceEqDiff, ↓reduceIte, tj]⟩
      dsimp only
      rw [hupd_two, hupd_two, lm3]
    · (have zz := aI @tj (aI @Int.toNat_natCast (aI hc.cells hc.one)); repeat' (first | apply w_seq | apply w_ops0 | apply w_mixS1 | apply w_exit | apply a_n | apply a_x | apply o_nil | refine vZ ?_ | refine cZ ?_ (hp := lc) | refine gTZ ?_ | ((first | refine gBZ ?_ ?_ | refine cdZ ?_ ?_) <;> (intro _hg; (try simp only [ZB] at _hg); try first | exact absurd trivial _hg | (exfalso; omega))) | fail)) <;> (try clear zz)
      exact ⟨(i + 1, M), by dsimp only; omega, ⟨by dsimp only; omega, .inl (by dsimp only; omega), rfl, rfl, hp, hal.done hc.ord (.inr ⟨by omega, by rw [Nat.add_sub_cancel, hKK]; exact hlt⟩)⟩, by simp (disch := omega) only [agr, ZG, reduceEqDiff, ↓reduceIte]⟩
end
end Go.Proofs.YtbiikomnhkbblaaGreat

/- U3o: contracts of functions and plain laws; for all inputs that the theorems name. -/
namespace Go.Proofs.YtbiikomnhkbblaaGreat
open Go Go.Abs
open Nat (reduceEqDiff reduceAdd reduceLeDiff)
section
variable {α : Type} [Inhabited α] {f : α → AV} {K : α → α → Int} {G : α → Prop}
attribute [local irreducible] awp2 aops2 ains aloop athen bbind obind gbind acond res1 Go.Abs.Fn PCall Go.Abs.Pure SnapArgs SnapL Yl
theorem sift_o (hc : CmpO Tryz.prog f K G) {L : List α} {H : Hp} {b nx n a lo hi : Nat} (hH : H b = some (L.map f)) (hn : L.length = n) (hG : ∀ x ∈ L, G x) (hhi : a + hi ≤ n) (hn2 : n ≤ 1000000000) (hlo : lo ≤ n) (hheap : HeapR K a hi (lo + 1) L) :
    Abs.Fn Tryz.prog 120 [.msl b n 1 0 n, .int .i64 lo, .int .i64 hi, .int .i64 a] H nx fun r H' nx' => nx' = nx ∧ ∃ L', H' = hupd H b (L'.map f) ∧ PermR a (a + hi) L L' ∧ HeapR K a hi lo L' := by
  refine Abs.Fn.of_c2 follows is120 (Nat.le_of_ble_eq_true rfl) ?_
  simp only [b120, cO, cG, cN, cM, cD, cF, cB, cFal, cTru]
  (have zz := and_self; repeat' (first | apply w_seq | apply w_ops0 | apply w_block | apply a_n | apply o_nil | refine vZ ?_ | apply w_loop | fail)) <;> (try clear zz)
  refine loopI (X := Nat × List α) (fun x => [(0, .msl b n 1 0 n), (2, .int .i64 hi), (3, .int .i64 a), (8, .int .i64 (x.1 : Nat))]) (fun x H' nx' => x.1 ≤ n ∧ H' = hupd H b (x.2.map f) ∧ nx' = nx ∧ PermR a (a + hi) L x.2 ∧ SiftR K a hi lo x.1 x.2) (fun x => n + 1 - x.1) (lo, L) ⟨hlo, hupd_id hH, rfl, .refl, .start hheap⟩ (by simp (disch := omega) only [agr, ZG, reduceEqDiff, ↓reduceIte]) ?_
  rintro ⟨root, M⟩ H' nx' ⟨h0, rfl, rfl, hp, hs⟩
  dsimp only at *
  have hl : M.length = n := by rw [hp.len, hn]
  have hGM := hp.mem hG
  by_cases hch : 2 * root + 1 < hi
  rotate_left
  · (have zz := and_self; repeat' (first | apply w_seq | apply w_ops0 | apply w_block | apply w_exit | apply a_n | apply a_x | apply o_nil | refine vZ ?_ | (refine cdZ ?_ ?_ <;> (intro _hg; (try simp only [ZB] at _hg); try first | exact absurd trivial _hg | (exfalso; omega))) | refine e_ends rfl ?_ | apply r_0 | fail)) <;> (try clear zz)
    exact ⟨rfl, M, rfl, hp, hs.leaf (by omega)⟩
  have tch : (2 : Int) * (root : Int) + 1 = ((2 * root + 1 : Nat) : Int) := by omega
  have tch2 : ((2 * root + 1 : Nat) : Int) + 1 = ((2 * root + 1 + 1 : Nat) : Int) := by omega
  have w1 : IntKind.wrap .i64 (2 * (root : Int)) = 2 * (root : Int) := wrap64 (by omega) (by omega)
  -- the greater child
  obtain ⟨c, hkid, hchi, hbest, hsel⟩ : ∃ c, Kid root c ∧ c < hi ∧ (∀ d, Kid root d → d < hi → ¬ K (M.getD (a + c) default) (M.getD (a + d) default) < 0) ∧ ((c = 2 * root + 1 + 1 ∧ K (M.getD (a + (2 * root + 1)) default) (M.getD (a + (2 * root + 1 + 1)) default) < 0) ∨ (c = 2 * root + 1 ∧ (2 * root + 1 + 1 < hi → ¬ K (M.getD (a + (2 * root + 1)) default) (M.getD (a + (2 * root + 1 + 1)) default) < 0))) := by
    by_cases h2 : 2 * root + 1 + 1 < hi ∧ K (M.getD (a + (2 * root + 1)) default) (M.getD (a + (2 * root + 1 + 1)) default) < 0
    · refine ⟨2 * root + 1 + 1, .inr rfl, h2.1, fun d hd hd2 => ?_, .inl ⟨rfl, h2.2⟩⟩
      rcases hd with rfl | rfl
      · exact hc.ord.asym _ _ h2.2
      · exact hc.ord.irr _
    · refine ⟨2 * root + 1, .inl rfl, hch, fun d hd hd2 => ?_, .inr ⟨rfl, fun h h3 => h2 ⟨h, h3⟩⟩⟩
      rcases hd with rfl | rfl
      · exact hc.ord.irr _
      · exact fun h3 => h2 ⟨hd2, h3⟩
  have lc2 := hc.run (M.getD (a + root) default) (M.getD (a + c) default) (hGM _ (mem_getD (by omega))) (hGM _ (mem_getD (by omega)))
  have e1 := hc.dat (M.getD (a + root) default)
  have e2 := hc.dat (M.getD (a + c) default)
  generalize hK2 : K (M.getD (a + root) default) (M.getD (a + c) default) = k2 at lc2
  refine w_block ?_
  refine w_seqC (fun T H'' nx'' => T 0 = .msl b n 1 0 n ∧ T 2 = .int .i64 hi ∧ T 3 = .int .i64 a ∧ n = n ∧ T 8 = .int .i64 (root : Nat) ∧ T 9 = .int .i64 ((2 * root + 1 : Nat) : Int) ∧ H'' = hupd H b (M.map f) ∧ nx' = nx'') ?_ ?_
  · (have zz := aI @w1 @tch; repeat' (first | apply w_ops0 | apply a_n | apply o_nil | refine vZ ?_ | fail)) <;> (try clear zz)
    exact ⟨rfl, rfl, rfl, rfl, rfl, rfl, rfl, rfl⟩
  rintro T _ _ ⟨t0, t2, t3, tF, t8, t9, rfl, rfl⟩
  refine w_seqC (fun T H'' nx'' => T 0 = .msl b n 1 0 n ∧ T 2 = .int .i64 hi ∧ T 3 = .int .i64 a ∧ n = n ∧ T 8 = .int .i64 (root : Nat) ∧ T 9 = .int .i64 ((2 * root + 1 : Nat) : Int) ∧ H'' = hupd H b (M.map f) ∧ nx' = nx'') ?_ ?_
  · (have zz := aI @t0 (aI @t2 (aI @t3 (aI @tF (aI @t8 @t9)))); repeat' (first | apply w_seq | apply w_ops0 | apply w_skip | apply a_n | apply o_nil | refine vZ ?_ | (refine cdZ ?_ ?_ <;> (intro _hg; (try simp only [ZB] at _hg); try first | exact absurd trivial _hg | (exfalso; omega))) | fail)) <;> (try clear zz)
    all_goals exact ⟨by ((try simp only [simB0, ZA, reduceEqDiff, ↓reduceIte, reduceAdd, reduceLeDiff, t0]); (try with_reducible rfl)), by ((try simp only [simB0, ZA, reduceEqDiff, ↓reduceIte, reduceAdd, reduceLeDiff, t2]); (try with_reducible rfl)), by ((try simp only [simB0, ZA, reduceEqDiff, ↓reduceIte, reduceAdd, reduceLeDiff, t3]); (try with_reducible rfl)), by ((try simp only [simB0, ZA, reduceEqDiff, ↓reduceIte, reduceAdd, reduceLeDiff, tF]); (try with_reducible rfl)), by ((try simp only [simB0, ZA, reduceEqDiff, ↓reduceIte, reduceAdd, reduceLeDiff, t8]); (try with_reducible rfl)), by ((try simp only [simB0, ZA, reduceEqDiff, ↓reduceIte, reduceAdd, reduceLeDiff, t9]); (try with_reducible rfl)), rfl, rfl⟩
  clear t0 t2 t3 tF t8 t9
  rintro T _ _ ⟨t0, t2, t3, tF, t8, t9, rfl, rfl⟩
  refine w_seqC (fun T H'' nx'' => T 0 = .msl b n 1 0 n ∧ T 2 = .int .i64 hi ∧ T 3 = .int .i64 a ∧ n = n ∧ T 8 = .int .i64 (root : Nat) ∧ T 9 = .int .i64 (c : Nat) ∧ H'' = hupd H b (M.map f) ∧ nx' = nx'') ?_ ?_
  · by_cases h2 : 2 * root + 1 + 1 < hi
    · have lc1 := hc.run (M.getD (a + (2 * root + 1)) default) (M.getD (a + (2 * root + 1 + 1)) default) (hGM _ (mem_getD (by omega))) (hGM _ (mem_getD (by omega)))
      have e3 := hc.dat (M.getD (a + (2 * root + 1)) default)
      have e4 := hc.dat (M.getD (a + (2 * root + 1 + 1)) default)
      generalize hK1 : K (M.getD (a + (2 * root + 1)) default) (M.getD (a + (2 * root + 1 + 1)) default) = k1 at lc1 hsel
      have hlt : decide (((2 * root + 1 + 1 : Nat) : Int) < (hi : Int)) = true := decide_eq_true (by omega)
      generalize 2 * root + 1 = ch at *
      rcases hsel with ⟨rfl, hk1⟩ | ⟨rfl, hk1⟩
      · (have zz := aI @t0 (aI @t2 (aI @t3 (aI @tF (aI @t8 (aI @t9 (aI @tch2 (aI @hlt (aI @toNat_two (aI @toNat_three (aI hc.cells hc.one)))))))))); repeat' (first | apply w_seq | apply w_ops0 | apply w_mixS1 | apply a_n | apply o_nil | refine vZ ?_ | refine cZ ?_ (hp := lc1) | refine gTZ ?_ | (refine cdZ ?_ ?_ <;> (intro _hg; (try simp only [ZB] at _hg); try first | exact absurd trivial _hg | (exfalso; omega))) | fail)) <;> (try clear zz)
        all_goals exact ⟨by ((try simp only [simB0, ZA, reduceEqDiff, ↓reduceIte, reduceAdd, reduceLeDiff, t0]); (try with_reducible rfl)), by ((try simp only [simB0, ZA, reduceEqDiff, ↓reduceIte, reduceAdd, reduceLeDiff, t2]); (try with_reducible rfl)), by ((try simp only [simB0, ZA, reduceEqDiff, ↓reduceIte, reduceAdd, reduceLeDiff, t3]); (try with_reducible rfl)), by ((try simp only [simB0, ZA, reduceEqDiff, ↓reduceIte, reduceAdd, reduceLeDiff, tF]); (try with_reducible rfl)), by ((try simp only [simB0, ZA, reduceEqDiff, ↓reduceIte, reduceAdd, reduceLeDiff, t8]); (try with_reducible rfl)), by ((try simp only [simB0, ZA, reduceEqDiff, ↓reduceIte, reduceAdd, reduceLeDiff, t9]); (try with_reducible rfl)), rfl, rfl⟩
      · have hk1 := hk1 h2
        (have zz := aI @t0 (aI @t2 (aI @t3 (aI @tF (aI @t8 (aI @t9 (aI @tch2 (aI @hlt (aI @toNat_two (aI @toNat_three (aI hc.cells hc.one)))))))))); repeat' (first | apply w_seq | apply w_mixS1 | apply w_skip | apply a_n | apply o_nil | refine vZ ?_ | refine cZ ?_ (hp := lc1) | refine gTZ ?_ | (refine cdZ ?_ ?_ <;> (intro _hg; (try simp only [ZB] at _hg); try first | exact absurd trivial _hg | (exfalso; omega))) | fail)) <;> (try clear zz)
        all_goals exact ⟨by ((try simp only [simB0, ZA, reduceEqDiff, ↓reduceIte, reduceAdd, reduceLeDiff, t0]); (try with_reducible rfl)), by ((try simp only [simB0, ZA, reduceEqDiff, ↓reduceIte, reduceAdd, reduceLeDiff, t2]); (try with_reducible rfl)), by ((try simp only [simB0, ZA, reduceEqDiff, ↓reduceIte, reduceAdd, reduceLeDiff, t3]); (try with_reducible rfl)), by ((try simp only [simB0, ZA, reduceEqDiff, ↓reduceIte, reduceAdd, reduceLeDiff, tF]); (try with_reducible rfl)), by ((try simp only [simB0, ZA, reduceEqDiff, ↓reduceIte, reduceAdd, reduceLeDiff, t8]); (try with_reducible rfl)), by ((try simp only [simB0, ZA, reduceEqDiff, ↓reduceIte, reduceAdd, reduceLeDiff, t9]); (try with_reducible rfl)), rfl, rfl⟩
    · have hlt : decide (((2 * root + 1 + 1 : Nat) : Int) < (hi : Int)) = false := decide_eq_false (by omega)
      have hcc : c = 2 * root + 1 := by
        rcases hsel with ⟨rfl, _⟩ | ⟨rfl, _⟩
        · omega
        · rfl
      subst hcc
      (have zz := aI @t0 (aI @t2 (aI @t3 (aI @tF (aI @t8 (aI @t9 (aI @tch2 @hlt)))))); repeat' (first | apply w_seq | apply w_mixS1 | apply w_skip | apply a_n | apply o_nil | refine vZ ?_ | refine gFZ ?_ | refine cFZ ?_ | fail)) <;> (try clear zz)
      all_goals exact ⟨by ((try simp only [simB0, ZA, reduceEqDiff, ↓reduceIte, reduceAdd, reduceLeDiff, t0]); (try with_reducible rfl)), by ((try simp only [simB0, ZA, reduceEqDiff, ↓reduceIte, reduceAdd, reduceLeDiff, t2]); (try with_reducible rfl)), by ((try simp only [simB0, ZA, reduceEqDiff, ↓reduceIte, reduceAdd, reduceLeDiff, t3]); (try with_reducible rfl)), by ((try simp only [simB0, ZA, reduceEqDiff, ↓reduceIte, reduceAdd, reduceLeDiff, tF]); (try with_reducible rfl)), by ((try simp only [simB0, ZA, reduceEqDiff, ↓reduceIte, reduceAdd, reduceLeDiff, t8]); (try with_reducible rfl)), by ((try simp only [simB0, ZA, reduceEqDiff, ↓reduceIte, reduceAdd, reduceLeDiff, t9]); (try with_reducible rfl)), rfl, rfl⟩
  clear t0 t2 t3 tF t8 t9 hsel
  rintro T _ _ ⟨t0, t2, t3, tF, t8, t9, rfl, rfl⟩
  by_cases hk2 : k2 < 0
  · obtain ⟨M1, hl1, lm1, lm2⟩ := swp_lput (f := f) (M := M) (i := a + root) (j := a + c) (by omega) (by omega)
    have lm3 := lm2
    simp only [lput, List.length_cons, List.length_nil, Nat.zero_add] at lm1 lm2
    (have zz := aI @t0 (aI @t2 (aI @t3 (aI @tF (aI @t8 (aI @t9 (aI @toNat_two (aI @lm1 (aI @lm2 (aI hc.cells hc.one))))))))); repeat' (first | apply w_seq | apply w_ops0 | apply w_ops1 | apply w_mixS1 | apply w_skip | apply a_n | apply o_nil | refine vZ ?_ | refine cZ ?_ (hp := lc2) | refine stZ ?_ | (refine cdZ ?_ ?_ <;> (intro _hg; (try simp only [ZB] at _hg); try first | exact absurd trivial _hg | (exfalso; omega))) | fail)) <;> (try clear zz)
    have hrc : root < c := by unfold Kid at hkid; omega
    have hcn : c < n := by omega
    refine ⟨(c, swp M (a + root) (a + c)), by dsimp only; omega, ⟨by dsimp only; omega, ?_, rfl, hp.trans (PermR.swap (by omega) (by omega) (by omega)), hs.step hc.ord hkid hchi (by omega) hbest (by rw [hK2]; exact hk2)⟩, by simp (disch := omega) only [agr, ZG, reduceEqDiff, ↓reduceIte, t0, t2, t3, tF]⟩
    dsimp only
    rw [hupd_two, hupd_two, lm3]
  · (have zz := aI @t0 (aI @t2 (aI @t3 (aI @tF (aI @t8 (aI @t9 (aI @toNat_two (aI hc.cells hc.one))))))); repeat' (first | apply w_seq | apply w_mixS1 | apply w_ret | apply a_n | apply a_r | apply o_nil | refine vZ ?_ | refine cZ ?_ (hp := lc2) | (refine cdZ ?_ ?_ <;> (intro _hg; (try simp only [ZB] at _hg); try first | exact absurd trivial _hg | (exfalso; omega))) | refine e_ends rfl ?_ | apply r_0 | fail)) <;> (try clear zz)
    exact ⟨rfl, M, rfl, hp, hs.stop hc.ord hbest (by rw [hK2]; exact hk2)⟩
end
end Go.Proofs.YtbiikomnhkbblaaGreat

/- U4o: contracts of functions and plain laws; for all inputs that the theorems name. -/
namespace Go.Proofs.YtbiikomnhkbblaaGreat
open Go Go.Abs
open Nat (reduceEqDiff reduceAdd reduceLeDiff)
section
variable {α : Type} [Inhabited α] {f : α → AV} {K : α → α → Int} {G : α → Prop}
attribute [local irreducible] awp2 aops2 ains aloop athen bbind obind gbind acond res1 Go.Abs.Fn PCall Go.Abs.Pure SnapArgs SnapL Yl
theorem heap_o (hc : CmpO Tryz.prog f K G) {L : List α} {H : Hp} {b nx n a e : Nat} (hH : H b = some (L.map f)) (hn : L.length = n) (hG : ∀ x ∈ L, G x) (hae : a ≤ e) (hen : e ≤ n) (hn2 : n ≤ 1000000000) :
    Abs.Fn Tryz.prog 101 [.msl b n 1 0 n, .int .i64 a, .int .i64 e] H nx fun r H' nx' => nx' = nx ∧ ∃ L', H' = hupd H b (L'.map f) ∧ PermR a e L L' ∧ SortedR K a e L' := by
  obtain ⟨h, rfl⟩ : ∃ h, e = a + h := ⟨e - a, by omega⟩
  refine Abs.Fn.of_c2 follows is101 (Nat.le_of_ble_eq_true rfl) ?_
  simp only [b101, cO, cG, cN, cM, cD, cF, cB, cFal, cTru]
  have te : ((a + h : Nat) : Int) - (a : Int) = (h : Int) := by omega
  obtain ⟨r, tr, hr, hrn⟩ : ∃ r : Nat, abin2 .quo false false (.int .i64 ((h : Int) - 1)) (.int .i64 2) = some (.int .i64 (r : Int)) ∧ h ≤ 2 * (r + 1) + 1 ∧ r ≤ h := by
    rcases Nat.eq_zero_or_pos h with e | e
    · subst e; exact ⟨0, rfl, by omega, by omega⟩
    · refine ⟨(h - 1) / 2, ?_, by omega, by omega⟩
      rw [quo_pos (by omega) (by omega) (by omega)]
      congr 2
      omega
  (have zz := aI @te @tr; repeat' (first | apply w_seq | apply w_ops0 | apply w_block | apply a_n | apply o_nil | refine vZ ?_ | apply w_loop | fail)) <;> (try clear zz)
  refine loopI (X := Nat × List α) (fun x => [(0, .msl b n 1 0 n), (1, .int .i64 a), (6, .int .i64 a), (7, .int .i64 0), (8, .int .i64 h), (9, .int .i64 ((x.1 : Nat) - 1))]) (fun x H' nxx => x.1 ≤ n + 1 ∧ H' = hupd H b (x.2.map f) ∧ nx = nxx ∧ PermR a (a + h) L x.2 ∧ HeapR K a h x.1 x.2) (fun x => x.1) (r + 1, L) ⟨by dsimp only; omega, hupd_id hH, rfl, .refl, HeapR.start (by dsimp only; omega)⟩ (by simp (disch := omega) only [agr, ZG, reduceEqDiff, ↓reduceIte, Int.add_sub_cancel]) ?_
  rintro ⟨i, M⟩ H' nxx ⟨h1, rfl, rfl, hp, hh⟩
  dsimp only at *
  have hl : M.length = n := by rw [hp.len, hn]
  have hGM := hp.mem hG
  rcases Nat.eq_zero_or_pos i with e | e
  · subst e
    (have zz := and_self; repeat' (first | apply w_seq | apply w_ops0 | apply w_block | apply w_exit | apply a_n | apply a_x | apply o_nil | refine vZ ?_ | (refine cdZ ?_ ?_ <;> (intro _hg; (try simp only [ZB] at _hg); try first | exact absurd trivial _hg | (exfalso; omega))) | apply w_loop | fail)) <;> (try clear zz)
    clear hGM
    refine loopI (X := Nat × List α) (fun x => [(0, .msl b n 1 0 n), (6, .int .i64 a), (7, .int .i64 0), (10, .int .i64 ((x.1 : Nat) - 1))]) (fun x H' nxx' => x.1 ≤ h ∧ H' = hupd H b (x.2.map f) ∧ nx = nxx' ∧ PermR a (a + h) L x.2 ∧ HeapR K a x.1 0 x.2 ∧ TailR K a (a + h) (a + x.1) x.2) (fun x => x.1) (h, M) ⟨Nat.le_refl _, rfl, rfl, hp, hh, .start⟩ (by simp (disch := omega) only [agr, ZG, reduceEqDiff, ↓reduceIte, Int.add_sub_cancel]) ?_
    clear hp hh hl
    rintro ⟨i, M⟩ H' nxx ⟨h1, rfl, rfl, hp, hh, ht⟩
    dsimp only at *
    have hl : M.length = n := by rw [hp.len, hn]
    have hGM := hp.mem hG
    rcases Nat.eq_zero_or_pos i with e | e
    · subst e
      (have zz := and_self; repeat' (first | apply w_seq | apply w_ops0 | apply w_exit | apply a_n | apply a_x | apply o_nil | refine vZ ?_ | (refine cdZ ?_ ?_ <;> (intro _hg; (try simp only [ZB] at _hg); try first | exact absurd trivial _hg | (exfalso; omega))) | refine e_ends rfl ?_ | apply r_0 | fail)) <;> (try clear zz)
      exact ⟨rfl, M, rfl, hp, ht.done⟩
    · obtain ⟨k, rfl⟩ : ∃ k, i = k + 1 := ⟨i - 1, by omega⟩
      have tj : ((k + 1 : Nat) : Int) - 1 = (k : Int) := by omega
      obtain ⟨M1, hl1, lm1, lm2⟩ := swp_lput (f := f) (M := M) (i := a) (j := a + k) (by omega) (by omega)
      have lm3 := lm2
      simp only [lput, List.length_cons, List.length_nil, Nat.zero_add] at lm1 lm2
      have hp1 : PermR a (a + h) L (swp M a (a + k)) := hp.trans (PermR.swap (by omega) (by omega) (by omega))
      have hsl : (swp M a (a + k)).length = n := by rw [hp1.len, hn]
      (have zz := aI @tj (aI @toNat_two (aI @lm1 (aI @lm2 (aI hc.cells hc.one)))); repeat' (first | apply w_seq | apply w_ops0 | apply w_ops1 | apply w_block | apply w_skip | apply a_n | apply o_nil | refine vZ ?_ | refine stZ ?_ | (refine cdZ ?_ ?_ <;> (intro _hg; (try simp only [ZB] at _hg); try first | exact absurd trivial _hg | (exfalso; omega))) | fail)) <;> (try clear zz)
      refine o_callE (by ((try simp only [simB0, ZA, reduceEqDiff, ↓reduceIte, reduceAdd, reduceLeDiff]); (try with_reducible rfl))) (by ((try simp only [simB0, ZA, reduceEqDiff, ↓reduceIte, reduceAdd, reduceLeDiff, tj, Int.natCast_zero]); (try with_reducible rfl))) (sift_o hc (b := b) (L := swp M a (a + k)) (a := a) (lo := 0) (hi := k) (by rw [hupd_two, hupd_two, hupd_self', ← lm3]) hsl (hp1.mem hG) (by omega) (by omega) (by omega) (hh.swapTop (by omega))) ?_
      rintro _ _ _ ⟨rfl, N, rfl, hpN, hhN⟩
      (have zz := @tj; repeat' (first | apply w_ops0 | apply a_n | apply o_nil | refine vZ ?_ | fail)) <;> (try clear zz)
      exact ⟨(k, N), by dsimp only; omega, ⟨by dsimp only; omega, by dsimp only; rw [hupd_two, hupd_two, hupd_two], rfl, hp1.trans (hpN.mono (Nat.le_refl _) (by omega)), hhN, ht.step hc.ord hh (by omega) (by omega) hpN⟩, by simp (disch := omega) only [agr, ZG, reduceEqDiff, ↓reduceIte]⟩
  · obtain ⟨k, rfl⟩ : ∃ k, i = k + 1 := ⟨i - 1, by omega⟩
    have tj : ((k + 1 : Nat) : Int) - 1 = (k : Int) := by omega
    (have zz := @tj; repeat' (first | apply w_seq | apply w_ops0 | apply w_block | apply w_skip | apply a_n | apply o_nil | refine vZ ?_ | (refine cdZ ?_ ?_ <;> (intro _hg; (try simp only [ZB] at _hg); try first | exact absurd trivial _hg | (exfalso; omega))) | fail)) <;> (try clear zz)
    refine o_callE (by ((try simp only [simB0, ZA, reduceEqDiff, ↓reduceIte, reduceAdd, reduceLeDiff]); (try with_reducible rfl))) (by ((try simp only [simB0, ZA, reduceEqDiff, ↓reduceIte, reduceAdd, reduceLeDiff]); (try with_reducible rfl))) (sift_o hc (L := M) (a := a) (lo := k) (hi := h) hupd_self' hl hGM (by omega) (by omega) (by omega) hh) ?_
    rintro _ _ _ ⟨rfl, N, rfl, hpN, hhN⟩
    (have zz := @tj; repeat' (first | apply w_ops0 | apply a_n | apply o_nil | refine vZ ?_ | fail)) <;> (try clear zz)
    exact ⟨(k, N), by dsimp only; omega, ⟨by dsimp only; omega, by dsimp only; rw [hupd_two], rfl, hp.trans hpN, hhN⟩, by simp (disch := omega) only [agr, ZG, reduceEqDiff, ↓reduceIte]⟩
end
end Go.Proofs.YtbiikomnhkbblaaGreat

/- U5o: contracts of functions and plain laws; for all inputs that the theorems name. -/
namespace Go.Proofs.YtbiikomnhkbblaaGreat
open Go Go.Abs
open Nat (reduceEqDiff reduceAdd reduceLeDiff)
section
variable {α : Type} [Inhabited α] {f : α → AV} {K : α → α → Int} {G : α → Prop}
attribute [local irreducible] awp2 aops2 ains aloop athen bbind obind gbind acond res1 Go.Abs.Fn PCall Go.Abs.Pure SnapArgs SnapL Yl
theorem rev_o (hc : CmpO Tryz.prog f K G) {L : List α} {H : Hp} {b nx n a e : Nat} (hH : H b = some (L.map f)) (hn : L.length = n) (hae : a < e) (hen : e ≤ n) (hn2 : n ≤ 1000000000) :
    Abs.Fn Tryz.prog 104 [.msl b n 1 0 n, .int .i64 a, .int .i64 e] H nx fun r H' nx' => nx' = nx ∧ ∃ L', H' = hupd H b (L'.map f) ∧ PermR a e L L' := by
  obtain ⟨m, rfl⟩ : ∃ m, e = m + 1 := ⟨e - 1, by omega⟩
  have te : ((m + 1 : Nat) : Int) - 1 = (m : Int) := by omega
  refine Abs.Fn.of_c2 follows is104 (Nat.le_of_ble_eq_true rfl) ?_
  simp only [b104, cO, cG, cN, cM, cD, cF, cB, cFal, cTru]
  (have zz := @te; repeat' (first | apply w_seq | apply w_ops0 | apply w_block | apply a_n | apply o_nil | refine vZ ?_ | apply w_loop | fail)) <;> (try clear zz)
  refine loopI (X := Nat × Nat × List α) (fun x => [(0, .msl b n 1 0 n), (6, .int .i64 (x.1 : Nat)), (7, .int .i64 (x.2.1 : Nat))]) (fun x H' nxx => a ≤ x.1 ∧ x.2.1 ≤ m ∧ H' = hupd H b (x.2.2.map f) ∧ nx = nxx ∧ PermR a (m + 1) L x.2.2) (fun x => x.2.1) (a, m, L) ⟨Nat.le_refl _, Nat.le_refl _, hupd_id hH, rfl, .refl⟩ (by simp (disch := omega) only [agr, ZG, reduceEqDiff, ↓reduceIte]) ?_
  rintro ⟨i, j, M⟩ H' nxx ⟨h1, h2, rfl, rfl, hp⟩
  dsimp only at *
  have hl : M.length = n := by rw [hp.len, hn]
  by_cases hij : i < j
  · obtain ⟨k, rfl⟩ : ∃ k, j = k + 1 := ⟨j - 1, by omega⟩
    have tj : ((k + 1 : Nat) : Int) - 1 = (k : Int) := by omega
    have ti : ((i : Nat) : Int) + 1 = ((i + 1 : Nat) : Int) := by omega
    obtain ⟨M1, hl1, lm1, lm2⟩ := swp_lput (f := f) (M := M) (i := i) (j := k + 1) (by omega) (by omega)
    have lm3 := lm2
    simp only [lput, List.length_cons, List.length_nil, Nat.zero_add] at lm1 lm2
    (have zz := aI @tj (aI @ti (aI @lm1 (aI @lm2 (aI hc.cells hc.one)))); repeat' (first | apply w_seq | apply w_ops0 | apply w_ops1 | apply w_block | apply w_skip | apply a_n | apply o_nil | refine vZ ?_ | refine stZ ?_ | (refine cdZ ?_ ?_ <;> (intro _hg; (try simp only [ZB] at _hg); try first | exact absurd trivial _hg | (exfalso; omega))) | fail)) <;> (try clear zz)
    exact ⟨(i + 1, k, swp M i (k + 1)), by dsimp only; omega, ⟨by dsimp only; omega, by dsimp only; omega, by dsimp only; rw [hupd_two, hupd_two, lm3], rfl, hp.trans (PermR.swap (by omega) (by omega) (by omega))⟩, by simp (disch := omega) only [agr, ZG, reduceEqDiff, ↓reduceIte]⟩
  · (have zz := and_self; repeat' (first | apply w_seq | apply w_ops0 | apply w_exit | apply a_n | apply a_x | apply o_nil | refine vZ ?_ | (refine cdZ ?_ ?_ <;> (intro _hg; (try simp only [ZB] at _hg); try first | exact absurd trivial _hg | (exfalso; omega))) | refine e_ends rfl ?_ | apply r_0 | fail)) <;> (try clear zz)
    exact ⟨rfl, M, rfl, hp⟩

theorem order2_o (hc : CmpO Tryz.prog f K G) {L : List α} {H : Hp} {b c nx n i j s : Nat} (hH : H b = some (L.map f)) (hcc : H c = some [.int .i64 (s : Nat)]) (hn : L.length = n) (hG : ∀ x ∈ L, G x) (hi : i < n) (hj : j < n) (hn2 : n ≤ 1000000000) (hs : s ≤ 100) :
    Abs.Fn Tryz.prog 136 [.msl b n 1 0 n, .int .i64 i, .int .i64 j, .ptr c 1 0] H nx fun r H' nx' => nx' = nx ∧ ∃ i' j' s' : Nat, r = .tup [.int .i64 i', .int .i64 j'] ∧ ((i' = i ∧ j' = j) ∨ (i' = j ∧ j' = i)) ∧ s' ≤ s + 1 ∧ H' = hupd H c [.int .i64 s'] := by
  refine Abs.Fn.of_c2 follows is136 (Nat.le_of_ble_eq_true rfl) ?_
  simp only [b136, cO, cG, cN, cM, cD, cF, cB, cFal, cTru]
  have lc := hc.run (L.getD j default) (L.getD i default) (hG _ (mem_getD (by omega))) (hG _ (mem_getD (by omega)))
  have e1 := hc.dat (L.getD j default)
  have e2 := hc.dat (L.getD i default)
  have ts : ((s : Nat) : Int) + 1 = ((s + 1 : Nat) : Int) := by omega
  have ls : ∀ x y : AV, lput [x] 0 [y] = [y] := fun _ _ => rfl
  simp only [lput, List.length_cons, List.length_nil, Nat.zero_add] at ls
  generalize hKK : K (L.getD j default) (L.getD i default) = kk at lc
  by_cases hlt : kk < 0
  · (have zz := aI @hH (aI @hcc (aI @Int.toNat_natCast (aI hc.cells (aI hc.one (aI @ts (aI @ls @SV3)))))); repeat' (first | apply w_seq | apply w_ops0 | apply w_mixS1 | apply w_ret | apply a_n | apply a_r | apply o_nil | refine vZ ?_ | refine cZ ?_ (hp := lc) | refine stZ ?_ | (refine cdZ ?_ ?_ <;> (intro _hg; (try simp only [ZB] at _hg); try first | exact absurd trivial _hg | (exfalso; omega))) | refine e_ends rfl ?_ | refine r2Z ?_ | fail)) <;> (try clear zz)
    exact ⟨rfl, j, i, s + 1, rfl, .inr ⟨rfl, rfl⟩, Nat.le_refl _, rfl⟩
  · (have zz := aI @hH (aI @hcc (aI @Int.toNat_natCast (aI hc.cells hc.one))); repeat' (first | apply w_seq | apply w_ops0 | apply w_mixS1 | apply w_skip | apply w_ret | apply a_n | apply o_nil | refine vZ ?_ | refine cZ ?_ (hp := lc) | (refine cdZ ?_ ?_ <;> (intro _hg; (try simp only [ZB] at _hg); try first | exact absurd trivial _hg | (exfalso; omega))) | refine e_ends rfl ?_ | refine r2Z ?_ | fail)) <;> (try clear zz)
    exact ⟨rfl, i, j, s, rfl, .inl ⟨rfl, rfl⟩, Nat.le_succ _, hupd_id hcc⟩
end
end Go.Proofs.YtbiikomnhkbblaaGreat

/- U6o: contracts of functions and plain laws; for all inputs that the theorems name. -/
namespace Go.Proofs.YtbiikomnhkbblaaGreat
open Go Go.Abs
open Nat (reduceEqDiff reduceAdd reduceLeDiff)
section
variable {α : Type} [Inhabited α] {f : α → AV} {K : α → α → Int} {G : α → Prop}
attribute [local irreducible] awp2 aops2 ains aloop athen bbind obind gbind acond res1 Go.Abs.Fn PCall Go.Abs.Pure SnapArgs SnapL Yl
theorem median_o (hc : CmpO Tryz.prog f K G) {L : List α} {H : Hp} {b c nx n i j k s lo hi : Nat} (hH : H b = some (L.map f)) (hbc : b ≠ c) (hcc : H c = some [.int .i64 (s : Nat)]) (hn : L.length = n) (hG : ∀ x ∈ L, G x) (hi1 : lo ≤ i ∧ i < hi) (hj1 : lo ≤ j ∧ j < hi) (hk1 : lo ≤ k ∧ k < hi) (hhi : hi ≤ n) (hn2 : n ≤ 1000000000) (hs : s ≤ 50) :
    Abs.Fn Tryz.prog 124 [.msl b n 1 0 n, .int .i64 i, .int .i64 j, .int .i64 k, .ptr c 1 0] H nx fun r H' nx' => nx' = nx ∧ ∃ p s' : Nat, r = .int .i64 p ∧ lo ≤ p ∧ p < hi ∧ s' ≤ s + 3 ∧ H' = hupd H c [.int .i64 s'] := by
  refine Abs.Fn.of_c2 follows is124 (Nat.le_of_ble_eq_true rfl) ?_
  simp only [b124, cO, cG, cN, cM, cD, cF, cB, cFal, cTru]
  (have zz := and_self; repeat' (first | apply w_seq | apply w_ops0 | apply a_n | apply o_nil | refine vZ ?_ | fail)) <;> (try clear zz)
  refine o_callE (by ((try simp only [simB0, ZA, reduceEqDiff, ↓reduceIte, reduceAdd, reduceLeDiff]); (try with_reducible rfl))) (by ((try simp only [simB0, ZA, reduceEqDiff, ↓reduceIte, reduceAdd, reduceLeDiff]); (try with_reducible rfl))) (order2_o hc (b := b) hH hcc hn hG (i := i) (j := j) (by omega) (by omega) hn2 (by omega)) ?_
  rintro _ _ _ ⟨rfl, i1, j1, s1, rfl, h1, hs1, rfl⟩
  (have zz := and_self; repeat' (first | apply w_seq | apply w_ops0 | apply a_n | apply o_nil | refine vZ ?_ | fail)) <;> (try clear zz)
  refine o_callE (by ((try simp only [simB0, ZA, reduceEqDiff, ↓reduceIte, reduceAdd, reduceLeDiff]); (try with_reducible rfl))) (by ((try simp only [simB0, ZA, reduceEqDiff, ↓reduceIte, reduceAdd, reduceLeDiff]); (try with_reducible rfl))) (order2_o hc (b := b) (by rw [hupd_ne hbc]; exact hH) hupd_self' hn hG (i := j1) (j := k) (by omega) (by omega) hn2 (by omega)) ?_
  rintro _ _ _ ⟨rfl, j2, k2, s2, rfl, h2, hs2, rfl⟩
  (have zz := and_self; repeat' (first | apply w_seq | apply w_ops0 | apply a_n | apply o_nil | refine vZ ?_ | fail)) <;> (try clear zz)
  refine o_callE (by ((try simp only [simB0, ZA, reduceEqDiff, ↓reduceIte, reduceAdd, reduceLeDiff]); (try with_reducible rfl))) (by ((try simp only [simB0, ZA, reduceEqDiff, ↓reduceIte, reduceAdd, reduceLeDiff]); (try with_reducible rfl))) (order2_o hc (b := b) (by rw [hupd_two, hupd_ne hbc]; exact hH) hupd_self' hn hG (i := i1) (j := j2) (by omega) (by omega) hn2 (by omega)) ?_
  rintro _ _ _ ⟨rfl, i3, j3, s3, rfl, h3, hs3, rfl⟩
  (have zz := and_self; repeat' (first | apply w_seq | apply w_ops0 | apply w_ret | apply a_n | apply o_nil | refine vZ ?_ | refine e_ends rfl ?_ | refine r1Z ?_ | fail)) <;> (try clear zz)
  exact ⟨rfl, j3, s3, rfl, by omega, by omega, by omega, by rw [hupd_two, hupd_two]⟩

theorem medAdj_o (hc : CmpO Tryz.prog f K G) {L : List α} {H : Hp} {b c nx n i s lo hi : Nat} (hH : H b = some (L.map f)) (hbc : b ≠ c) (hcc : H c = some [.int .i64 (s : Nat)]) (hn : L.length = n) (hG : ∀ x ∈ L, G x) (hi1 : lo + 1 ≤ i ∧ i + 1 < hi) (hhi : hi ≤ n) (hn2 : n ≤ 1000000000) (hs : s ≤ 50) :
    Abs.Fn Tryz.prog 123 [.msl b n 1 0 n, .int .i64 i, .ptr c 1 0] H nx fun r H' nx' => nx' = nx ∧ ∃ p s' : Nat, r = .int .i64 p ∧ lo ≤ p ∧ p < hi ∧ s' ≤ s + 3 ∧ H' = hupd H c [.int .i64 s'] := by
  obtain ⟨m, rfl⟩ : ∃ m, i = m + 1 := ⟨i - 1, by omega⟩
  have t1 : ((m + 1 : Nat) : Int) - 1 = (m : Int) := by omega
  have t2 : ((m + 1 : Nat) : Int) + 1 = ((m + 1 + 1 : Nat) : Int) := by omega
  refine Abs.Fn.of_c2 follows is123 (Nat.le_of_ble_eq_true rfl) ?_
  simp only [b123, cO, cG, cN, cM, cD, cF, cB, cFal, cTru]
  (have zz := aI @t1 @t2; repeat' (first | apply w_seq | apply w_ops0 | apply a_n | apply o_nil | refine vZ ?_ | fail)) <;> (try clear zz)
  refine o_callE (by ((try simp only [simB0, ZA, reduceEqDiff, ↓reduceIte, reduceAdd, reduceLeDiff]); (try with_reducible rfl))) (by ((try simp only [simB0, ZA, reduceEqDiff, ↓reduceIte, reduceAdd, reduceLeDiff]); (try with_reducible rfl))) (median_o hc (b := b) hH hbc hcc hn hG (i := m) (j := m + 1) (k := m + 1 + 1) (lo := lo) (hi := hi) (by omega) (by omega) (by omega) hhi hn2 hs) ?_
  rintro _ _ _ ⟨rfl, p, s1, rfl, h1, h2, hs1, rfl⟩
  (have zz := and_self; repeat' (first | apply w_ret | apply a_n | apply o_nil | refine vZ ?_ | refine e_ends rfl ?_ | refine r1Z ?_ | fail)) <;> (try clear zz)
  exact ⟨rfl, p, s1, rfl, h1, h2, hs1, rfl⟩

theorem choose_o (hc : CmpO Tryz.prog f K G) {L : List α} {H : Hp} {b nx n a e : Nat} (hH : H b = some (L.map f)) (hbx : b < nx) (hn : L.length = n) (hG : ∀ x ∈ L, G x) (hae : a + 8 ≤ e) (hen : e ≤ n) (hn2 : n ≤ 1000000000) :
    Abs.Fn Tryz.prog 103 [.msl b n 1 0 n, .int .i64 a, .int .i64 e] H nx fun r H' nx' => nx' = nx + 1 ∧ ∃ (p : Nat) (hint : Int) (v : List AV), r = .tup [.int .i64 p, .int .i64 hint] ∧ a ≤ p ∧ p < e ∧ H' = hupd H nx v := by
  obtain ⟨l, rfl⟩ : ∃ l, e = a + l := ⟨e - a, by omega⟩
  have te : ((a + l : Nat) : Int) - (a : Int) = (l : Int) := by omega
  obtain ⟨q, hq⟩ : ∃ q, l / 4 = q := ⟨_, rfl⟩
  have tq : abin2 .quo false false (.int .i64 (l : Int)) (.int .i64 4) = some (.int .i64 (q : Int)) := by
    rw [quo_pos (by omega) (by omega) (by omega)]
    congr 2
    omega
  have w1 : (a : Int) + (q : Int) * 1 = ((a + q : Nat) : Int) := by omega
  have w2 : (a : Int) + (q : Int) * 2 = ((a + q * 2 : Nat) : Int) := by omega
  have w3 : (a : Int) + (q : Int) * 3 = ((a + q * 3 : Nat) : Int) := by omega
  have hbn : b ≠ nx := by omega
  refine Abs.Fn.of_c2 follows is103 (Nat.le_of_ble_eq_true rfl) ?_
  simp only [b103, cO, cG, cN, cM, cD, cF, cB, cFal, cTru]
  have last : ∀ (s : Nat) (H1 : Hp), H1 = hupd (hupd H nx [.int .i64 0]) nx [.int .i64 s] → H1 nx = some [.int .i64 (s : Nat)] := fun s H1 h => by rw [h]; exact hupd_self'
  have hHn : ∀ v, hupd H nx v b = some (L.map f) := fun v => by rw [hupd_ne hbn]; exact hH
  by_cases h50 : 50 ≤ l
  · (have zz := aI @te (aI @tq (aI @w1 (aI @w2 @w3))); repeat' (first | apply w_seq | apply w_ops0 | apply a_n | apply o_nil | refine vZ ?_ | refine alZ ?_ | (refine cdZ ?_ ?_ <;> (intro _hg; (try simp only [ZB] at _hg); try first | exact absurd trivial _hg | (exfalso; omega))) | fail)) <;> (try clear zz)
    refine o_callE (by ((try simp only [simB0, ZA, reduceEqDiff, ↓reduceIte, reduceAdd, reduceLeDiff]); (try with_reducible rfl))) (by ((try simp only [simB0, ZA, reduceEqDiff, ↓reduceIte, reduceAdd, reduceLeDiff]); (try with_reducible rfl))) (medAdj_o hc (b := b) (c := nx) (s := 0) (i := a + q) (lo := a) (hi := a + l) (hHn _) hbn hupd_self' hn hG (by omega) (by omega) hn2 (by omega)) ?_
    rintro _ _ _ ⟨rfl, p1, s1, rfl, k1, k2, hs1, rfl⟩
    rw [hupd_two]
    (have zz := and_self; repeat' (first | apply w_seq | apply w_ops0 | apply a_n | apply o_nil | refine vZ ?_ | fail)) <;> (try clear zz)
    refine o_callE (by ((try simp only [simB0, ZA, reduceEqDiff, ↓reduceIte, reduceAdd, reduceLeDiff]); (try with_reducible rfl))) (by ((try simp only [simB0, ZA, reduceEqDiff, ↓reduceIte, reduceAdd, reduceLeDiff]); (try with_reducible rfl))) (medAdj_o hc (b := b) (c := nx) (s := s1) (i := a + q * 2) (lo := a) (hi := a + l) (hHn _) hbn hupd_self' hn hG (by omega) (by omega) hn2 (by omega)) ?_
    rintro _ _ _ ⟨rfl, p2, s2, rfl, k3, k4, hs2, rfl⟩
    rw [hupd_two]
    (have zz := and_self; repeat' (first | apply w_ops0 | apply a_n | apply o_nil | refine vZ ?_ | fail)) <;> (try clear zz)
    refine o_callE (by ((try simp only [simB0, ZA, reduceEqDiff, ↓reduceIte, reduceAdd, reduceLeDiff]); (try with_reducible rfl))) (by ((try simp only [simB0, ZA, reduceEqDiff, ↓reduceIte, reduceAdd, reduceLeDiff]); (try with_reducible rfl))) (medAdj_o hc (b := b) (c := nx) (s := s2) (i := a + q * 3) (lo := a) (hi := a + l) (hHn _) hbn hupd_self' hn hG (by omega) (by omega) hn2 (by omega)) ?_
    rintro _ _ _ ⟨rfl, p3, s3, rfl, k5, k6, hs3, rfl⟩
    rw [hupd_two]
    (have zz := and_self; repeat' (first | apply w_ops0 | apply a_n | apply o_nil | refine vZ ?_ | fail)) <;> (try clear zz)
    refine o_callE (by ((try simp only [simB0, ZA, reduceEqDiff, ↓reduceIte, reduceAdd, reduceLeDiff]); (try with_reducible rfl))) (by ((try simp only [simB0, ZA, reduceEqDiff, ↓reduceIte, reduceAdd, reduceLeDiff]); (try with_reducible rfl))) (median_o hc (b := b) (c := nx) (s := s3) (i := p1) (j := p2) (k := p3) (lo := a) (hi := a + l) (hHn _) hbn hupd_self' hn hG (by omega) (by omega) (by omega) (by omega) hn2 (by omega)) ?_
    rintro _ _ _ ⟨rfl, p4, s4, rfl, k7, k8, hs4, rfl⟩
    rw [hupd_two]
    (have zz := and_self; repeat' (first | apply w_seq | apply w_ops0 | apply w_block | apply w_ret | apply a_n | apply o_nil | refine vZ ?_ | (refine cdZ ?_ ?_ <;> (intro _hg; (try simp only [ZB] at _hg); try first | exact absurd trivial _hg | (exfalso; omega))) | refine e_ends rfl ?_ | refine r2Z ?_ | fail)) <;> (try clear zz)
    all_goals exact ⟨rfl, p4, _, _, rfl, by omega, by omega, rfl⟩
  · (have zz := aI @te (aI @tq (aI @w1 (aI @w2 @w3))); repeat' (first | apply w_seq | apply w_ops0 | apply w_skip | apply a_n | apply o_nil | refine vZ ?_ | refine alZ ?_ | (refine cdZ ?_ ?_ <;> (intro _hg; (try simp only [ZB] at _hg); try first | exact absurd trivial _hg | (exfalso; omega))) | fail)) <;> (try clear zz)
    refine o_callE (by ((try simp only [simB0, ZA, reduceEqDiff, ↓reduceIte, reduceAdd, reduceLeDiff]); (try with_reducible rfl))) (by ((try simp only [simB0, ZA, reduceEqDiff, ↓reduceIte, reduceAdd, reduceLeDiff]); (try with_reducible rfl))) (median_o hc (b := b) (c := nx) (s := 0) (i := a + q) (j := a + q * 2) (k := a + q * 3) (lo := a) (hi := a + l) (hHn _) hbn hupd_self' hn hG (by omega) (by omega) (by omega) (by omega) hn2 (by omega)) ?_
    rintro _ _ _ ⟨rfl, p4, s4, rfl, k7, k8, hs4, rfl⟩
    rw [hupd_two]
    (have zz := and_self; repeat' (first | apply w_seq | apply w_ops0 | apply w_block | apply w_ret | apply a_n | apply o_nil | refine vZ ?_ | (refine cdZ ?_ ?_ <;> (intro _hg; (try simp only [ZB] at _hg); try first | exact absurd trivial _hg | (exfalso; omega))) | refine e_ends rfl ?_ | refine r2Z ?_ | fail)) <;> (try clear zz)
    all_goals exact ⟨rfl, p4, _, _, rfl, by omega, by omega, rfl⟩
end
end Go.Proofs.YtbiikomnhkbblaaGreat
