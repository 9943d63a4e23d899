/- Texts of this claim, one after the other: Code, P1, P2, P3, P4, P5, P6, P7. -/
import Derived.Test.YtcbkggfipdldaaaProg
import Derived.Test.YtcbkggfipdldaaaXG3
import Derived.KernelRfl

set_option linter.unusedSimpArgs false
set_option linter.unusedVariables false

/- Printed by a program: the functions' code without types. -/
namespace Go.Proofs.Ytcbkggfipdldaaa
open Go Go.Abs Go.Abs.C2 Go.Abs.Ins Go.Abs.Opd Go.Abs.TK Go.Abs.MK

def O (d : Nat) (i : Ins) : Op2 := Op2.mk (some d) none i
def G (d g : Nat) (b : Bool) (i : Ins) : Op2 := Op2.mk (some d) (some (g, b)) i
def N (k : Int) : Opd := Opd.c (AV.int IntKind.i64 k)
def M (n : Nat) : Ins := Ins.mov (Opd.t n)
def D (n : Nat) : Ins := Ins.ld1 (Opd.t n)
def F (n : Nat) : Opd := Opd.c (AV.func n [])
def B2 (o : BinOp) (x y : Opd) : Ins := Ins.bin o false false x y
def cFal : Opd := Opd.c (AV.bool false)
def cTru : Opd := Opd.c (AV.bool true)
theorem follows : Try.prog.follows .mixedOrders = true := by rfl

def b3 : F2 := (F2.mk 90 [RV.t 6] ((ops 0 [O 6 (mov cFal)]).seq (((ops 0 [O 15 (M 1), O 16 (B2 .gtr (t 15) (N ((0)))), O 17 (M 16), G 18 17 true (M 1), G 19 17 true (B2 .lss (t 18) (N ((20)))), O 20 (pick (t 17) (t 19) cFal), O 21 (M 20), G 22 21 true (M 0), G 23 21 true (M 1), G 24 21 true (B2 .add (t 23) (N ((1)))), G 25 21 true (call (F 9) [t 22, c (AV.int IntKind.i64 (2)), t 24]), G 26 21 true (un UnOp.not (t 25)), O 27 (pick (t 21) (t 26) cFal), O 28 (M 27), G 29 28 false (M 2), G 30 28 false (B2 .gtr (t 29) (N ((0)))), G 31 28 false (M 30), G 32 31 true (M 2), G 33 31 true (B2 .lss (t 32) (N ((20)))), G 34 28 false (pick (t 31) (t 33) cFal), G 35 28 false (M 34), G 36 35 true (M 0), G 37 35 true (M 2), G 38 35 true (M 2), G 39 35 true (B2 .add (t 38) (N ((1)))), G 40 35 true (call (F 9) [t 36, t 37, t 39]), G 41 35 true (un UnOp.not (t 40)), G 42 28 false (pick (t 35) (t 41) cFal), O 43 (pick (t 28) cTru (t 42))]).seq (C2.cond (t 43) ((ops 0 [O 44 (call (F 10) []), O 6 (M 44)]).seq ret) skip)).seq ((ops 0 [O 46 (M 0), O 47 (M 1), O 48 (call (F 11) [t 46, t 47]), O 45 (M 48), O 49 (ext (t 45) 0), O 50 (ext (t 45) 1), O 7 (alloc (AV.agg [AV.int IntKind.i64 (0), AV.int IntKind.i64 (0), AV.int IntKind.i64 (0), AV.esl])), Op2.mk none none (Ins.st 4 (t 7) (t 49)), O 8 (M 50)]).seq ((ops 0 [O 52 (M 0), O 53 (M 1), O 54 (call (F 12) [t 52, t 53]), O 51 (M 54), O 55 (ext (t 51) 0), O 56 (ext (t 51) 1), O 9 (alloc (AV.agg [AV.int IntKind.i64 (0), AV.int IntKind.i64 (0), AV.int IntKind.i64 (0), AV.esl])), Op2.mk none none (Ins.st 4 (t 9) (t 55)), O 10 (M 56)]).seq ((ops 0 [O 58 (M 0), O 59 (M 2), O 60 (call (F 13) [t 58, t 59]), O 57 (M 60), O 61 (ext (t 57) 0), O 62 (ext (t 57) 1), O 11 (alloc (AV.agg [AV.int IntKind.i64 (0), AV.int IntKind.i64 (0), AV.int IntKind.i64 (0), AV.esl])), Op2.mk none none (Ins.st 4 (t 11) (t 61)), O 12 (M 62)]).seq ((ops 0 [O 64 (M 0), O 65 (M 2), O 66 (call (F 14) [t 64, t 65]), O 63 (M 66), O 67 (ext (t 63) 0), O 68 (ext (t 63) 1), O 13 (alloc (AV.agg [AV.int IntKind.i64 (0), AV.int IntKind.i64 (0), AV.int IntKind.i64 (0), AV.esl])), Op2.mk none none (Ins.st 4 (t 13) (t 67)), O 14 (M 68)]).seq ((ops 0 [O 69 (ldn 4 (t 7)), O 70 (ldn 4 (t 9)), O 71 (call (F 15) [t 69, t 70]), O 72 (M 71), G 73 72 true (M 8), G 74 72 true (M 10), G 75 72 true (B2 .eql (t 73) (t 74)), O 76 (pick (t 72) (t 75) cFal), O 77 (M 76), G 78 77 true (ldn 4 (t 11)), G 79 77 true (ldn 4 (t 13)), G 80 77 true (call (F 15) [t 78, t 79]), O 81 (pick (t 77) (t 80) cFal), O 82 (M 81), G 83 82 true (M 12), G 84 82 true (M 14), G 85 82 true (B2 .eql (t 83) (t 84)), O 86 (pick (t 82) (t 85) cFal), O 87 (M 86), G 88 87 true (call (F 10) []), O 89 (pick (t 87) (t 88) cFal), O 6 (M 89)]).seq ret))))))))
def b4 : F2 := (F2.mk 68 [RV.t 6] ((ops 0 [O 6 (mov cFal)]).seq (((ops 0 [O 15 (M 0), O 16 (M 1), O 17 (M 1), O 18 (call (F 9) [t 15, t 16, t 17]), O 19 (un UnOp.not (t 18))]).seq (C2.cond (t 19) ((ops 0 [O 20 (call (F 10) []), O 6 (M 20)]).seq ret) skip)).seq ((ops 0 [O 22 (M 0), O 23 (M 1), O 24 (call (F 16) [t 22, t 23]), O 21 (M 24), O 25 (ext (t 21) 0), O 26 (ext (t 21) 1), O 7 (alloc (AV.agg [AV.int IntKind.i64 (0), AV.int IntKind.i64 (0), AV.int IntKind.i64 (0), AV.esl])), Op2.mk none none (Ins.st 4 (t 7) (t 25)), O 8 (M 26)]).seq ((ops 0 [O 28 (M 0), O 29 (M 1), O 30 (call (F 17) [t 28, t 29]), O 27 (M 30), O 31 (ext (t 27) 0), O 32 (ext (t 27) 1), O 9 (alloc (AV.agg [AV.int IntKind.i64 (0), AV.int IntKind.i64 (0), AV.int IntKind.i64 (0), AV.esl])), Op2.mk none none (Ins.st 4 (t 9) (t 31)), O 10 (M 32)]).seq ((ops 0 [O 34 (M 0), O 35 (M 1), O 36 (M 2), O 37 (call (F 18) [t 34, t 35, t 36]), O 33 (M 37), O 38 (ext (t 33) 0), O 39 (ext (t 33) 1), O 11 (alloc (AV.agg [AV.int IntKind.i64 (0), AV.int IntKind.i64 (0), AV.int IntKind.i64 (0), AV.esl])), Op2.mk none none (Ins.st 4 (t 11) (t 38)), O 12 (M 39)]).seq ((ops 0 [O 41 (M 0), O 42 (M 1), O 43 (M 2), O 44 (call (F 19) [t 41, t 42, t 43]), O 40 (M 44), O 45 (ext (t 40) 0), O 46 (ext (t 40) 1), O 13 (alloc (AV.agg [AV.int IntKind.i64 (0), AV.int IntKind.i64 (0), AV.int IntKind.i64 (0), AV.esl])), Op2.mk none none (Ins.st 4 (t 13) (t 45)), O 14 (M 46)]).seq ((ops 0 [O 47 (ldn 4 (t 7)), O 48 (ldn 4 (t 9)), O 49 (call (F 15) [t 47, t 48]), O 50 (M 49), G 51 50 true (M 8), G 52 50 true (M 10), G 53 50 true (B2 .eql (t 51) (t 52)), O 54 (pick (t 50) (t 53) cFal), O 55 (M 54), G 56 55 true (ldn 4 (t 11)), G 57 55 true (ldn 4 (t 13)), G 58 55 true (call (F 15) [t 56, t 57]), O 59 (pick (t 55) (t 58) cFal), O 60 (M 59), G 61 60 true (M 12), G 62 60 true (M 14), G 63 60 true (B2 .eql (t 61) (t 62)), O 64 (pick (t 60) (t 63) cFal), O 65 (M 64), G 66 65 true (call (F 10) []), O 67 (pick (t 65) (t 66) cFal), O 6 (M 67)]).seq ret))))))))
def b8 : F2 := (F2.mk 95 [RV.t 6] ((ops 0 [O 6 (mov cFal)]).seq (((ops 0 [O 19 (M 0), O 20 (M 1), O 21 (M 2), O 22 (call (F 9) [t 19, t 20, t 21]), O 23 (un UnOp.not (t 22))]).seq (C2.cond (t 23) ((ops 0 [O 24 (call (F 10) []), O 6 (M 24)]).seq ret) skip)).seq ((ops 0 [O 26 (M 0), O 27 (M 1), O 28 (M 2), O 29 (call (F 35) [t 26, t 27, t 28]), O 25 (M 29), O 30 (ext (t 25) 0), O 31 (ext (t 25) 1), O 7 (alloc (AV.agg [AV.int IntKind.i64 (0), AV.int IntKind.i64 (0), AV.int IntKind.i64 (0), AV.esl])), Op2.mk none none (Ins.st 4 (t 7) (t 30)), O 8 (M 31)]).seq ((ops 0 [O 33 (M 0), O 34 (M 1), O 35 (M 2), O 36 (call (F 36) [t 33, t 34, t 35]), O 32 (M 36), O 37 (ext (t 32) 0), O 38 (ext (t 32) 1), O 9 (alloc (AV.agg [AV.int IntKind.i64 (0), AV.int IntKind.i64 (0), AV.int IntKind.i64 (0), AV.esl])), Op2.mk none none (Ins.st 4 (t 9) (t 37)), O 10 (M 38)]).seq ((ops 0 [O 40 (M 0), O 41 (call (F 23) [t 40]), O 39 (M 41), O 42 (ext (t 39) 0), O 43 (ext (t 39) 1), O 11 (alloc (AV.agg [AV.int IntKind.i64 (0), AV.int IntKind.i64 (0), AV.int IntKind.i64 (0), AV.esl])), Op2.mk none none (Ins.st 4 (t 11) (t 42)), O 12 (M 43)]).seq ((ops 0 [O 45 (M 0), O 46 (call (F 37) [t 45]), O 44 (M 46), O 47 (ext (t 44) 0), O 48 (ext (t 44) 1), O 13 (alloc (AV.agg [AV.int IntKind.i64 (0), AV.int IntKind.i64 (0), AV.int IntKind.i64 (0), AV.esl])), Op2.mk none none (Ins.st 4 (t 13) (t 47)), O 14 (M 48)]).seq ((ops 0 [O 50 (M 0), O 51 (call (F 38) [t 50]), O 49 (M 51), O 52 (ext (t 49) 0), O 53 (ext (t 49) 1), O 15 (alloc (AV.agg [AV.int IntKind.i64 (0), AV.int IntKind.i64 (0), AV.int IntKind.i64 (0), AV.esl])), Op2.mk none none (Ins.st 4 (t 15) (t 52)), O 16 (M 53)]).seq ((ops 0 [O 55 (M 0), O 56 (call (F 39) [t 55]), O 54 (M 56), O 57 (ext (t 54) 0), O 58 (ext (t 54) 1), O 17 (alloc (AV.agg [AV.int IntKind.i64 (0), AV.int IntKind.i64 (0), AV.int IntKind.i64 (0), AV.esl])), Op2.mk none none (Ins.st 4 (t 17) (t 57)), O 18 (M 58)]).seq ((ops 0 [O 59 (ldn 4 (t 7)), O 60 (ldn 4 (t 9)), O 61 (call (F 15) [t 59, t 60]), O 62 (M 61), G 63 62 true (M 8), G 64 62 true (M 10), G 65 62 true (B2 .eql (t 63) (t 64)), O 66 (pick (t 62) (t 65) cFal), O 67 (M 66), G 68 67 true (ldn 4 (t 11)), G 69 67 true (ldn 4 (t 13)), G 70 67 true (call (F 15) [t 68, t 69]), O 71 (pick (t 67) (t 70) cFal), O 72 (M 71), G 73 72 true (M 12), G 74 72 true (M 14), G 75 72 true (B2 .eql (t 73) (t 74)), O 76 (pick (t 72) (t 75) cFal), O 77 (M 76), G 78 77 true (ldn 4 (t 15)), G 79 77 true (ldn 4 (t 17)), G 80 77 true (call (F 15) [t 78, t 79]), O 81 (pick (t 77) (t 80) cFal), O 82 (M 81), G 83 82 true (M 16), G 84 82 true (M 18), G 85 82 true (B2 .eql (t 83) (t 84)), O 86 (pick (t 82) (t 85) cFal), O 87 (M 86), G 88 87 true (call (F 41) []), G 89 87 true (call (F 42) []), G 90 87 true (call (F 40) [t 88, t 89]), O 91 (pick (t 87) (t 90) cFal), O 92 (M 91), G 93 92 true (call (F 10) []), O 94 (pick (t 92) (t 93) cFal), O 6 (M 94)]).seq ret))))))))))
theorem is8 : Is Try.prog 8 b8 := Is.mk' Try.func8 (by kernel_rfl)

def b9 : F2 := (F2.mk 37 [RV.t 6] ((ops 0 [O 6 (mov cFal)]).seq (((ops 0 [O 7 (M 0), O 8 (B2 .lss (t 7) (N ((1)))), O 9 (M 8), G 10 9 false (M 0), G 11 9 false (B2 .gtr (t 10) (N ((5)))), O 12 (pick (t 9) cTru (t 11)), O 13 (M 12), G 14 13 false (M 1), G 15 13 false (B2 .lss (t 14) (N ((1)))), O 16 (pick (t 13) cTru (t 15)), O 17 (M 16), G 18 17 false (M 1), G 19 17 false (B2 .gtr (t 18) (N ((8)))), O 20 (pick (t 17) cTru (t 19)), O 21 (M 20), G 22 21 false (M 2), G 23 21 false (B2 .lss (t 22) (N ((1)))), O 24 (pick (t 21) cTru (t 23)), O 25 (M 24), G 26 25 false (M 2), G 27 25 false (B2 .gtr (t 26) (N ((8)))), O 28 (pick (t 25) cTru (t 27))]).seq (C2.cond (t 28) ((ops 0 [O 6 (mov cTru)]).seq ret) skip)).seq ((ops 0 [O 29 (M 1), O 30 (M 0), O 31 (call (F 43) [t 29, t 30, c (AV.int IntKind.i64 (1000))]), O 32 (M 2), O 33 (M 0), O 34 (call (F 43) [t 32, t 33, c (AV.int IntKind.i64 (1000))]), O 35 (B2 .mul (t 31) (t 34)), O 36 (B2 .leq (t 35) (N ((3000)))), O 6 (M 36)]).seq ret))))
theorem is9 : Is Try.prog 9 b9 := Is.mk' Try.func9 (by kernel_rfl)

def b10 : F2 := (F2.mk 192 [RV.t 0] ((ops 0 [O 0 (mov cFal)]).seq ((ops 0 [O 16 (call (F 16) [c (AV.int IntKind.i64 (2)), c (AV.int IntKind.i64 (2))]), O 15 (M 16), O 17 (ext (t 15) 0), O 18 (ext (t 15) 1), O 1 (alloc (AV.agg [AV.int IntKind.i64 (0), AV.int IntKind.i64 (0), AV.int IntKind.i64 (0), AV.esl])), Op2.mk none none (Ins.st 4 (t 1) (t 17)), O 2 (M 18)]).seq ((ops 0 [O 20 (call (F 11) [c (AV.int IntKind.i64 (2)), c (AV.int IntKind.i64 (3))]), O 19 (M 20), O 21 (ext (t 19) 0), O 22 (ext (t 19) 1), O 3 (alloc (AV.agg [AV.int IntKind.i64 (0), AV.int IntKind.i64 (0), AV.int IntKind.i64 (0), AV.esl])), Op2.mk none none (Ins.st 4 (t 3) (t 21)), O 4 (M 22)]).seq ((ops 0 [O 24 (call (F 35) [c (AV.int IntKind.i64 (2)), c (AV.int IntKind.i64 (3)), c (AV.int IntKind.i64 (3))]), O 23 (M 24), O 25 (ext (t 23) 0), O 26 (ext (t 23) 1), O 5 (alloc (AV.agg [AV.int IntKind.i64 (0), AV.int IntKind.i64 (0), AV.int IntKind.i64 (0), AV.esl])), Op2.mk none none (Ins.st 4 (t 5) (t 25)), O 6 (M 26)]).seq ((ops 0 [O 28 (call (F 35) [c (AV.int IntKind.i64 (3)), c (AV.int IntKind.i64 (3)), c (AV.int IntKind.i64 (2))]), O 27 (M 28), O 29 (ext (t 27) 0), O 30 (ext (t 27) 1), O 7 (alloc (AV.agg [AV.int IntKind.i64 (0), AV.int IntKind.i64 (0), AV.int IntKind.i64 (0), AV.esl])), Op2.mk none none (Ins.st 4 (t 7) (t 29)), O 8 (M 30)]).seq ((ops 0 [O 32 (call (F 35) [c (AV.int IntKind.i64 (3)), c (AV.int IntKind.i64 (2)), c (AV.int IntKind.i64 (3))]), O 31 (M 32), O 33 (ext (t 31) 0), O 34 (ext (t 31) 1), O 9 (alloc (AV.agg [AV.int IntKind.i64 (0), AV.int IntKind.i64 (0), AV.int IntKind.i64 (0), AV.esl])), Op2.mk none none (Ins.st 4 (t 9) (t 33)), O 10 (M 34)]).seq ((ops 0 [O 36 (call (F 13) [c (AV.int IntKind.i64 (2)), c (AV.int IntKind.i64 (2))]), O 35 (M 36), O 37 (ext (t 35) 0), O 38 (ext (t 35) 1), O 11 (alloc (AV.agg [AV.int IntKind.i64 (0), AV.int IntKind.i64 (0), AV.int IntKind.i64 (0), AV.esl])), Op2.mk none none (Ins.st 4 (t 11) (t 37)), O 12 (M 38)]).seq ((ops 0 [O 40 (call (F 23) [c (AV.int IntKind.i64 (2))]), O 39 (M 40), O 41 (ext (t 39) 0), O 42 (ext (t 39) 1), O 13 (alloc (AV.agg [AV.int IntKind.i64 (0), AV.int IntKind.i64 (0), AV.int IntKind.i64 (0), AV.esl])), Op2.mk none none (Ins.st 4 (t 13) (t 41)), O 14 (M 42)]).seq (((ops 0 [O 43 (M 2), O 44 (M 4), O 45 (B2 .add (t 43) (t 44)), O 46 (M 6), O 47 (B2 .add (t 45) (t 46)), O 48 (M 12), O 49 (B2 .add (t 47) (t 48)), O 50 (M 14), O 51 (B2 .add (t 49) (t 50)), O 52 (B2 .neq (t 51) (N ((0)))), O 53 (M 52), G 54 53 false (M 8), G 55 53 false (B2 .neq (t 54) (N ((16)))), O 56 (pick (t 53) cTru (t 55)), O 57 (M 56), G 58 57 false (M 10), G 59 57 false (B2 .neq (t 58) (N ((16)))), O 60 (pick (t 57) cTru (t 59)), O 61 (M 60), G 62 61 false (fa 3 (t 1)), G 63 61 false (D 62), G 64 61 false (lenS (t 63)), G 65 61 false (B2 .neq (t 64) (N ((4)))), O 66 (pick (t 61) cTru (t 65)), O 67 (M 66), G 68 67 false (fa 3 (t 3)), G 69 67 false (D 68), G 70 67 false (lenS (t 69)), G 71 67 false (B2 .neq (t 70) (N ((4)))), O 72 (pick (t 67) cTru (t 71)), O 73 (M 72), G 74 73 false (fa 3 (t 5)), G 75 73 false (D 74), G 76 73 false (lenS (t 75)), G 77 73 false (B2 .neq (t 76) (N ((6)))), O 78 (pick (t 73) cTru (t 77)), O 79 (M 78), G 80 79 false (fa 3 (t 11)), G 81 79 false (D 80), G 82 79 false (lenS (t 81)), G 83 79 false (B2 .neq (t 82) (N ((4)))), O 84 (pick (t 79) cTru (t 83)), O 85 (M 84), G 86 85 false (fa 3 (t 13)), G 87 85 false (D 86), G 88 85 false (lenS (t 87)), G 89 85 false (B2 .neq (t 88) (N ((4)))), O 90 (pick (t 85) cTru (t 89))]).seq (C2.cond (t 90) ((ops 0 [O 0 (mov cFal)]).seq ret) skip)).seq ((ops 0 [O 91 (fa 3 (t 1)), O 92 (D 91), O 93 (ixaS 3 (t 92) (N ((1)))), O 94 (fa 1 (t 93)), O 95 (D 94), O 96 (bldS 1 2 [AV.int IntKind.i64 (0)] [(0, 1, c (AV.int IntKind.i64 (0))), (1, 1, c (AV.int IntKind.i64 (0)))]), O 97 (bldS 1 2 [AV.int IntKind.i64 (0)] [(0, 1, c (AV.int IntKind.i64 (1))), (1, 1, c (AV.int IntKind.i64 (1)))]), O 98 (bldS 1 2 [AV.esl] [(0, 1, t 96), (1, 1, t 97)]), O 99 (call (F 44) [t 95, t 98]), O 100 (M 99), G 101 100 true (fa 3 (t 1)), G 102 100 true (D 101), G 103 100 true (ixaS 3 (t 102) (N ((3)))), G 104 100 true (fa 1 (t 103)), G 105 100 true (D 104), G 106 100 true (lenS (t 105)), G 107 100 true (B2 .eql (t 106) (N ((1)))), O 108 (pick (t 100) (t 107) cFal), O 109 (M 108), G 110 109 true (fa 3 (t 1)), G 111 109 true (D 110), G 112 109 true (ixaS 3 (t 111) (N ((1)))), G 113 109 true (fa 2 (t 112)), G 114 109 true (D 113), G 115 109 true (lenS (t 114)), G 116 109 true (B2 .eql (t 115) (N ((0)))), O 117 (pick (t 109) (t 116) cFal), O 118 (M 117), G 119 118 true (fa 3 (t 3)), G 120 118 true (D 119), G 121 118 true (ixaS 3 (t 120) (N ((1)))), G 122 118 true (fa 1 (t 121)), G 123 118 true (D 122), G 124 118 true (lenS (t 123)), G 125 118 true (B2 .eql (t 124) (N ((10)))), O 126 (pick (t 118) (t 125) cFal), O 127 (M 126), G 128 127 true (fa 3 (t 3)), G 129 127 true (D 128), G 130 127 true (ixaS 3 (t 129) (N ((3)))), G 131 127 true (fa 1 (t 130)), G 132 127 true (D 131), G 133 127 true (lenS (t 132)), G 134 127 true (B2 .eql (t 133) (N ((1)))), O 135 (pick (t 127) (t 134) cFal), O 136 (M 135), G 137 136 true (fa 3 (t 5)), G 138 136 true (D 137), G 139 136 true (ixaS 3 (t 138) (N ((0)))), G 140 136 true (fa 1 (t 139)), G 141 136 true (D 140), G 142 136 true (lenS (t 141)), G 143 136 true (B2 .eql (t 142) (N ((6)))), O 144 (pick (t 136) (t 143) cFal), O 145 (M 144), G 146 145 true (fa 3 (t 11)), G 147 145 true (D 146), G 148 145 true (ixaS 3 (t 147) (N ((0)))), G 149 145 true (fa 1 (t 148)), G 150 145 true (D 149), G 151 145 true (lenS (t 150)), G 152 145 true (B2 .eql (t 151) (N ((7)))), O 153 (pick (t 145) (t 152) cFal), O 154 (M 153), G 155 154 true (fa 3 (t 11)), G 156 154 true (D 155), G 157 154 true (ixaS 3 (t 156) (N ((2)))), G 158 154 true (fa 2 (t 157)), G 159 154 true (D 158), G 160 154 true (bldS 1 2 [AV.int IntKind.i64 (0)] [(0, 1, c (AV.int IntKind.i64 (1))), (1, 1, c (AV.int IntKind.i64 (1)))]), G 161 154 true (bldS 1 1 [AV.esl] [(0, 1, t 160)]), G 162 154 true (call (F 44) [t 159, t 161]), O 163 (pick (t 154) (t 162) cFal), O 164 (M 163), G 165 164 true (fa 3 (t 13)), G 166 164 true (D 165), G 167 164 true (ixaS 3 (t 166) (N ((3)))), G 168 164 true (fa 2 (t 167)), G 169 164 true (D 168), G 170 164 true (bldS 1 2 [AV.int IntKind.i64 (0)] [(0, 1, c (AV.int IntKind.i64 (1))), (1, 1, c (AV.int IntKind.i64 (1)))]), G 171 164 true (bldS 1 1 [AV.esl] [(0, 1, t 170)]), G 172 164 true (call (F 44) [t 169, t 171]), O 173 (pick (t 164) (t 172) cFal), O 174 (M 173), G 175 174 true (fa 3 (t 13)), G 176 174 true (D 175), G 177 174 true (ixaS 3 (t 176) (N ((3)))), G 178 174 true (fa 1 (t 177)), G 179 174 true (D 178), G 180 174 true (lenS (t 179)), G 181 174 true (B2 .eql (t 180) (N ((2)))), O 182 (pick (t 174) (t 181) cFal), O 183 (M 182), G 184 183 true (fa 3 (t 13)), G 185 183 true (D 184), G 186 183 true (ixaS 3 (t 185) (N ((1)))), G 187 183 true (fa 1 (t 186)), G 188 183 true (D 187), G 189 183 true (lenS (t 188)), G 190 183 true (B2 .eql (t 189) (N ((1)))), O 191 (pick (t 183) (t 190) cFal), O 0 (M 191)]).seq ret)))))))))))
theorem is10 : Is Try.prog 10 b10 := Is.mk' Try.func10 (by kernel_rfl)

def b11 : F2 := (F2.mk 14 [RV.cn 4 4, RV.t 5] ((ops 0 [O 3 (box (t 1)), O 4 (alloc (AV.agg [AV.int IntKind.i64 (0), AV.int IntKind.i64 (0), AV.int IntKind.i64 (0), AV.esl])), O 5 (mov (N ((0))))]).seq ((ops 0 [O 6 (M 0), O 7 (D 3), O 8 (call (F 46) [t 7]), O 9 (mkfn 47 [t 3]), O 10 (bld [AV.int IntKind.i64 (0), AV.int IntKind.i64 (0), AV.int IntKind.i64 (0), AV.int IntKind.i64 (0), AV.nilf, AV.nilf, AV.nilf] [(0, 1, t 6), (1, 1, c (AV.int IntKind.i64 (2))), (2, 1, t 8), (3, 1, c (AV.int IntKind.i64 (-1))), (5, 1, t 9)]), O 11 (call (F 45) [t 10]), O 12 (ext (t 11) 0), O 13 (ext (t 11) 1), Op2.mk none none (Ins.st 4 (t 4) (t 12)), O 5 (M 13)]).seq ret)))
theorem is11 : Is Try.prog 11 b11 := Is.mk' Try.func11 (by kernel_rfl)

def b13 : F2 := (F2.mk 15 [RV.cn 4 4, RV.t 5] ((ops 0 [O 3 (box (t 1)), O 4 (alloc (AV.agg [AV.int IntKind.i64 (0), AV.int IntKind.i64 (0), AV.int IntKind.i64 (0), AV.esl])), O 5 (mov (N ((0))))]).seq ((mixS 1 [O 6 (M 0), O 7 (D 3), O 8 (D 3), O 9 (call (F 46) [t 8]), O 10 (mkfn 54 [t 3]), O 11 (bld [AV.int IntKind.i64 (0), AV.int IntKind.i64 (0), AV.int IntKind.i64 (0), AV.int IntKind.i64 (0), AV.nilf, AV.nilf, AV.nilf] [(0, 1, t 6), (1, 1, t 7), (2, 1, t 9), (3, 1, c (AV.int IntKind.i64 (-1))), (5, 1, t 10), (6, 1, c (AV.func 57 []))]), O 12 (call (F 45) [t 11]), O 13 (ext (t 12) 0), O 14 (ext (t 12) 1), Op2.mk none none (Ins.st 4 (t 4) (t 13)), O 5 (M 14)] [(0, 0), (1, 0), (2, 0), (4, 0), (3, 1), (5, 0), (6, 2), (7, 0), (8, 0), (9, 2), (10, 0)]).seq ret)))
theorem is13 : Is Try.prog 13 b13 := Is.mk' Try.func13 (by kernel_rfl)

def b15 : F2 := (F2.mk 75 [RV.t 4] ((ops 0 [O 2 (box (t 0)), O 3 (box (t 1)), O 4 (mov cFal)]).seq (((ops 0 [O 8 (fa 0 (t 2)), O 9 (D 8), O 10 (fa 0 (t 3)), O 11 (D 10), O 12 (B2 .neq (t 9) (t 11)), O 13 (M 12), G 14 13 false (fa 1 (t 2)), G 15 13 false (D 14), G 16 13 false (fa 1 (t 3)), G 17 13 false (D 16), G 18 13 false (B2 .neq (t 15) (t 17)), O 19 (pick (t 13) cTru (t 18)), O 20 (M 19), G 21 20 false (fa 2 (t 2)), G 22 20 false (D 21), G 23 20 false (fa 2 (t 3)), G 24 20 false (D 23), G 25 20 false (B2 .neq (t 22) (t 24)), O 26 (pick (t 20) cTru (t 25)), O 27 (M 26), G 28 27 false (fa 3 (t 2)), G 29 27 false (D 28), G 30 27 false (lenS (t 29)), G 31 27 false (fa 3 (t 3)), G 32 27 false (D 31), G 33 27 false (lenS (t 32)), G 34 27 false (B2 .neq (t 30) (t 33)), O 35 (pick (t 27) cTru (t 34))]).seq (C2.cond (t 35) ((ops 0 [O 4 (mov cFal)]).seq ret) skip)).seq (((ops 0 [O 5 (mov (N ((0))))]).seq (block 0 (((ops 0 [O 36 (M 5), O 37 (fa 3 (t 2)), O 38 (D 37), O 39 (lenS (t 38)), O 40 (B2 .lss (t 36) (t 39))]).seq (C2.cond (t 40) skip (exit 0))).seq ((block 1 ((ops 2 [O 43 (fa 3 (t 2)), O 44 (D 43), O 45 (M 5), O 46 (ixaS 3 (t 44) (t 45)), O 47 (ldn 3 (t 46)), O 48 (fa 3 (t 3)), O 49 (D 48), O 50 (M 5), O 51 (ixaS 3 (t 49) (t 50)), O 52 (ldn 3 (t 51)), O 6 (alloc (AV.agg [AV.esl, AV.esl, AV.esl])), O 7 (alloc (AV.agg [AV.esl, AV.esl, AV.esl])), Op2.mk none none (Ins.st 3 (t 6) (t 47)), Op2.mk none none (Ins.st 3 (t 7) (t 52))]).seq ((ops 0 [O 53 (fa 0 (t 6)), O 54 (D 53), O 55 (fa 0 (t 7)), O 56 (D 55), O 57 (call (F 58) [t 54, t 56]), O 58 (B2 .neq (t 57) (N ((0)))), O 59 (M 58), G 60 59 false (fa 1 (t 6)), G 61 59 false (D 60), G 62 59 false (fa 1 (t 7)), G 63 59 false (D 62), G 64 59 false (call (F 44) [t 61, t 63]), G 65 59 false (un UnOp.not (t 64)), O 66 (pick (t 59) cTru (t 65)), O 67 (M 66), G 68 67 false (fa 2 (t 6)), G 69 67 false (D 68), G 70 67 false (fa 2 (t 7)), G 71 67 false (D 70), G 72 67 false (call (F 44) [t 69, t 71]), G 73 67 false (un UnOp.not (t 72)), O 74 (pick (t 67) cTru (t 73))]).seq (C2.cond (t 74) ((ops 0 [O 4 (mov cFal)]).seq ret) skip)))).seq (ops 0 [O 41 (M 5), O 42 (B2 .add (t 41) (N ((1)))), O 5 (M 42)]))).loop)).seq ((ops 0 [O 4 (mov cTru)]).seq ret)))))
theorem is15 : Is Try.prog 15 b15 := Is.mk' Try.func15 (by kernel_rfl)

def b16 : F2 := (F2.mk 15 [RV.cn 4 4, RV.t 5] ((ops 0 [O 4 (alloc (AV.agg [AV.int IntKind.i64 (0), AV.int IntKind.i64 (0), AV.int IntKind.i64 (0), AV.esl])), O 5 (mov (N ((0))))]).seq ((ops 0 [O 7 (M 0), O 8 (M 1), O 9 (call (F 59) [t 7, t 8, c (AV.int IntKind.i64 (1))]), O 6 (alloc (AV.agg [AV.int IntKind.i64 (0), AV.int IntKind.i64 (0), AV.int IntKind.i64 (0), AV.int IntKind.i64 (0), AV.nilf, AV.nilf, AV.nilf])), Op2.mk none none (Ins.st 7 (t 6) (t 9))]).seq ((ops 0 [O 10 (fa 3 (t 6)), Op2.mk none none (Ins.st 1 (t 10) (N ((-1))))]).seq ((ops 0 [O 11 (ldn 7 (t 6)), O 12 (call (F 45) [t 11]), O 13 (ext (t 12) 0), O 14 (ext (t 12) 1), Op2.mk none none (Ins.st 4 (t 4) (t 13)), O 5 (M 14)]).seq ret)))))
theorem is16 : Is Try.prog 16 b16 := Is.mk' Try.func16 (by kernel_rfl)

def b23 : F2 := (F2.mk 12 [RV.cn 2 4, RV.t 3] ((ops 0 [O 2 (alloc (AV.agg [AV.int IntKind.i64 (0), AV.int IntKind.i64 (0), AV.int IntKind.i64 (0), AV.esl])), O 3 (mov (N ((0))))]).seq ((ops 0 [O 4 (alloc AV.nilf), Op2.mk none none (Ins.st 1 (t 4) (F 61))]).seq ((ops 0 [O 5 (M 0), O 6 (mkfn 62 [t 4]), O 7 (mkfn 63 [t 4]), O 8 (bld [AV.int IntKind.i64 (0), AV.int IntKind.i64 (0), AV.int IntKind.i64 (0), AV.int IntKind.i64 (0), AV.nilf, AV.nilf, AV.nilf] [(0, 1, t 5), (1, 1, c (AV.int IntKind.i64 (2))), (2, 1, c (AV.int IntKind.i64 (2))), (3, 1, c (AV.int IntKind.i64 (-1))), (5, 1, t 6), (6, 1, t 7)]), O 9 (call (F 45) [t 8]), O 10 (ext (t 9) 0), O 11 (ext (t 9) 1), Op2.mk none none (Ins.st 4 (t 2) (t 10)), O 3 (M 11)]).seq ret))))
theorem is23 : Is Try.prog 23 b23 := Is.mk' Try.func23 (by kernel_rfl)

def b28 : F2 := (F2.mk 9 [RV.t 4] ((ops 0 [O 4 (mov cFal)]).seq ((ops 0 [O 5 (M 0), O 6 (M 1), O 7 (call (F 72) [t 5, t 6]), O 8 (B2 .geq (t 7) (N ((0)))), O 4 (M 8)]).seq ret)))
theorem is28 : Is Try.prog 28 b28 := Is.mk' Try.func28 (by kernel_rfl)

def b32 : F2 := (F2.mk 8 [RV.t 2] ((ops 0 [O 2 (mov (c AV.esl))]).seq (((ops 0 [O 3 (M 0), O 4 (snil false (t 3))]).seq (C2.cond (t 4) ((ops 0 [O 2 (mov (c AV.esl))]).seq ret) skip)).seq ((ops 0 [O 5 (bldS 1 0 [AV.int IntKind.i64 (0)] []), O 6 (M 0), O 7 (app 1 8 (t 5) (t 6)), O 2 (M 7)]).seq ret))))
theorem is32 : Is Try.prog 32 b32 := Is.mk' Try.func32 (by kernel_rfl)

def b35 : F2 := (F2.mk 15 [RV.cn 6 4, RV.t 7] ((ops 0 [O 6 (alloc (AV.agg [AV.int IntKind.i64 (0), AV.int IntKind.i64 (0), AV.int IntKind.i64 (0), AV.esl])), O 7 (mov (N ((0))))]).seq ((ops 0 [O 8 (M 0), O 9 (M 1), O 10 (M 2), O 11 (bld [AV.int IntKind.i64 (0), AV.int IntKind.i64 (0), AV.int IntKind.i64 (0), AV.int IntKind.i64 (0), AV.nilf, AV.nilf, AV.nilf] [(0, 1, t 8), (1, 1, t 9), (2, 1, t 10), (3, 1, c (AV.int IntKind.i64 (-1))), (4, 1, c (AV.func 76 [])), (5, 1, c (AV.func 77 []))]), O 12 (call (F 45) [t 11]), O 13 (ext (t 12) 0), O 14 (ext (t 12) 1), Op2.mk none none (Ins.st 4 (t 6) (t 13)), O 7 (M 14)]).seq ret)))
theorem is35 : Is Try.prog 35 b35 := Is.mk' Try.func35 (by kernel_rfl)

def b36 : F2 := (F2.mk 15 [RV.cn 6 4, RV.t 7] ((ops 0 [O 6 (alloc (AV.agg [AV.int IntKind.i64 (0), AV.int IntKind.i64 (0), AV.int IntKind.i64 (0), AV.esl])), O 7 (mov (N ((0))))]).seq ((ops 0 [O 8 (M 0), O 9 (M 1), O 10 (M 2), O 11 (bld [AV.int IntKind.i64 (0), AV.int IntKind.i64 (0), AV.int IntKind.i64 (0), AV.int IntKind.i64 (0), AV.int IntKind.i64 (0)] [(0, 1, c (AV.int IntKind.i64 (5))), (1, 1, t 8), (2, 1, t 9), (3, 1, t 10), (4, 1, c (AV.int IntKind.i64 (0)))]), O 12 (call (F 52) [t 11]), O 13 (ext (t 12) 0), O 14 (ext (t 12) 1), Op2.mk none none (Ins.st 4 (t 6) (t 13)), O 7 (M 14)]).seq ret)))
theorem is36 : Is Try.prog 36 b36 := Is.mk' Try.func36 (by kernel_rfl)

def b37 : F2 := (F2.mk 9 [RV.cn 2 4, RV.t 3] ((ops 0 [O 2 (alloc (AV.agg [AV.int IntKind.i64 (0), AV.int IntKind.i64 (0), AV.int IntKind.i64 (0), AV.esl])), O 3 (mov (N ((0))))]).seq ((ops 0 [O 4 (M 0), O 5 (bld [AV.int IntKind.i64 (0), AV.int IntKind.i64 (0), AV.int IntKind.i64 (0), AV.int IntKind.i64 (0), AV.int IntKind.i64 (0)] [(0, 1, c (AV.int IntKind.i64 (1))), (1, 1, t 4), (2, 1, c (AV.int IntKind.i64 (2))), (3, 1, c (AV.int IntKind.i64 (2))), (4, 1, c (AV.int IntKind.i64 (0)))]), O 6 (call (F 52) [t 5]), O 7 (ext (t 6) 0), O 8 (ext (t 6) 1), Op2.mk none none (Ins.st 4 (t 2) (t 7)), O 3 (M 8)]).seq ret)))
theorem is37 : Is Try.prog 37 b37 := Is.mk' Try.func37 (by kernel_rfl)

def b38 : F2 := (F2.mk 9 [RV.cn 2 4, RV.t 3] ((ops 0 [O 2 (alloc (AV.agg [AV.int IntKind.i64 (0), AV.int IntKind.i64 (0), AV.int IntKind.i64 (0), AV.esl])), O 3 (mov (N ((0))))]).seq ((ops 0 [O 4 (M 0), O 5 (bld [AV.int IntKind.i64 (0), AV.int IntKind.i64 (0), AV.int IntKind.i64 (0), AV.int IntKind.i64 (0), AV.nilf, AV.nilf, AV.nilf] [(0, 1, t 4), (1, 1, c (AV.int IntKind.i64 (1))), (2, 1, c (AV.int IntKind.i64 (2))), (3, 1, c (AV.int IntKind.i64 (-1))), (5, 1, c (AV.func 78 []))]), O 6 (call (F 45) [t 5]), O 7 (ext (t 6) 0), O 8 (ext (t 6) 1), Op2.mk none none (Ins.st 4 (t 2) (t 7)), O 3 (M 8)]).seq ret)))
theorem is38 : Is Try.prog 38 b38 := Is.mk' Try.func38 (by kernel_rfl)

def b39 : F2 := (F2.mk 9 [RV.cn 2 4, RV.t 3] ((ops 0 [O 2 (alloc (AV.agg [AV.int IntKind.i64 (0), AV.int IntKind.i64 (0), AV.int IntKind.i64 (0), AV.esl])), O 3 (mov (N ((0))))]).seq ((ops 0 [O 4 (M 0), O 5 (bld [AV.int IntKind.i64 (0), AV.int IntKind.i64 (0), AV.int IntKind.i64 (0), AV.int IntKind.i64 (0), AV.int IntKind.i64 (0)] [(0, 1, c (AV.int IntKind.i64 (4))), (1, 1, t 4), (2, 1, c (AV.int IntKind.i64 (1))), (3, 1, c (AV.int IntKind.i64 (2))), (4, 1, c (AV.int IntKind.i64 (0)))]), O 6 (call (F 52) [t 5]), O 7 (ext (t 6) 0), O 8 (ext (t 6) 1), Op2.mk none none (Ins.st 4 (t 2) (t 7)), O 3 (M 8)]).seq ret)))
theorem is39 : Is Try.prog 39 b39 := Is.mk' Try.func39 (by kernel_rfl)

def b40 : F2 := (F2.mk 26 [RV.t 4] ((ops 0 [O 4 (mov cFal)]).seq (((ops 0 [O 6 (M 0), O 7 (lenS (t 6)), O 8 (M 1), O 9 (lenS (t 8)), O 10 (B2 .neq (t 7) (t 9))]).seq (C2.cond (t 10) ((ops 0 [O 4 (mov cFal)]).seq ret) skip)).seq (((ops 0 [O 11 (M 0), O 12 (lenS (t 11)), O 13 (mov (N ((0))))]).seq (block 0 ((ops 0 [O 14 (B2 .lss (t 13) (t 12))]).seq ((C2.cond (t 14) skip (exit 0)).seq ((block 1 ((ops 0 [O 15 (M 13), O 5 (M 15)]).seq ((ops 1 [O 16 (M 0), O 17 (M 5), O 18 (ixaS 1 (t 16) (t 17)), O 19 (D 18), O 20 (M 1), O 21 (M 5), O 22 (ixaS 1 (t 20) (t 21)), O 23 (D 22), O 24 (B2 .neq (t 19) (t 23))]).seq (C2.cond (t 24) ((ops 0 [O 4 (mov cFal)]).seq ret) skip)))).seq (ops 0 [O 25 (B2 .add (t 13) (N ((1)))), O 13 (M 25)])))).loop)).seq ((ops 0 [O 4 (mov cTru)]).seq ret)))))
theorem is40 : Is Try.prog 40 b40 := Is.mk' Try.func40 (by kernel_rfl)

def b41 : F2 := (F2.mk 4 [RV.t 0] ((ops 0 [O 0 (mov (c AV.esl))]).seq ((ops 0 [O 1 (call (F 60) []), O 2 (call (F 80) [t 1]), O 3 (call (F 79) [t 2]), O 0 (M 3)]).seq ret)))
theorem is41 : Is Try.prog 41 b41 := Is.mk' Try.func41 (by kernel_rfl)

def b42 : F2 := (F2.mk 2 [RV.t 0] ((ops 0 [O 0 (mov (c AV.esl))]).seq ((ops 0 [O 1 (bldS 1 7 [AV.str (ByteArray.mk (Array.mk []))] [(0, 1, c (AV.str (ByteArray.mk (Array.mk [97, 112, 112, 114, 111, 120, 105, 109, 97, 116, 101])))), (1, 1, c (AV.str (ByteArray.mk (Array.mk [99, 111, 109, 109, 105, 116])))), (2, 1, c (AV.str (ByteArray.mk (Array.mk [99, 111, 110, 115, 101, 110, 115, 117, 115])))), (3, 1, c (AV.str (ByteArray.mk (Array.mk [99, 114, 117, 115, 97, 100, 101, 114])))), (4, 1, c (AV.str (ByteArray.mk (Array.mk [108, 101, 97, 100, 101, 114])))), (5, 1, c (AV.str (ByteArray.mk (Array.mk [114, 101, 110, 97, 109, 105, 110, 103])))), (6, 1, c (AV.str (ByteArray.mk (Array.mk [115, 101, 116]))))]), O 0 (M 1)]).seq ret)))
theorem is42 : Is Try.prog 42 b42 := Is.mk' Try.func42 (by kernel_rfl)

def b43 : F2 := (F2.mk 23 [RV.t 6] ((ops 0 [O 6 (mov (N ((0))))]).seq ((ops 0 [O 7 (mov (N ((1))))]).seq (((ops 0 [O 8 (mov (N ((0))))]).seq (block 0 (((ops 0 [O 9 (M 8), O 10 (M 1), O 11 (B2 .lss (t 9) (t 10)), O 12 (M 11), G 13 12 true (M 7), G 14 12 true (M 2), G 15 12 true (B2 .leq (t 13) (t 14)), O 16 (pick (t 12) (t 15) cFal)]).seq (C2.cond (t 16) skip (exit 0))).seq ((block 1 (ops 0 [O 19 (M 7), O 20 (M 0), O 21 (B2 .mul (t 19) (t 20)), O 7 (M 21)])).seq (ops 0 [O 17 (M 8), O 18 (B2 .add (t 17) (N ((1)))), O 8 (M 18)]))).loop)).seq ((ops 0 [O 22 (M 7), O 6 (M 22)]).seq ret)))))
theorem is43 : Is Try.prog 43 b43 := Is.mk' Try.func43 (by kernel_rfl)

def b44 : F2 := (F2.mk 27 [RV.t 4] ((ops 0 [O 4 (mov cFal)]).seq (((ops 0 [O 6 (M 0), O 7 (lenS (t 6)), O 8 (M 1), O 9 (lenS (t 8)), O 10 (B2 .neq (t 7) (t 9))]).seq (C2.cond (t 10) ((ops 0 [O 4 (mov cFal)]).seq ret) skip)).seq (((ops 0 [O 5 (mov (N ((0))))]).seq (block 0 (((ops 0 [O 11 (M 5), O 12 (M 0), O 13 (lenS (t 12)), O 14 (B2 .lss (t 11) (t 13))]).seq (C2.cond (t 14) skip (exit 0))).seq ((block 1 ((mixS 1 [O 17 (M 0), O 18 (M 5), O 19 (ixaS 1 (t 17) (t 18)), O 20 (D 19), O 21 (M 1), O 22 (M 5), O 23 (ixaS 1 (t 21) (t 22)), O 24 (D 23), O 25 (call (F 58) [t 20, t 24]), O 26 (B2 .neq (t 25) (N ((0))))] [(0, 0), (1, 0), (2, 0), (3, 0), (4, 0), (5, 0), (6, 0), (7, 0), (8, 2), (9, 0)]).seq (C2.cond (t 26) ((ops 0 [O 4 (mov cFal)]).seq ret) skip))).seq (ops 0 [O 15 (M 5), O 16 (B2 .add (t 15) (N ((1)))), O 5 (M 16)]))).loop)).seq ((ops 0 [O 4 (mov cTru)]).seq ret)))))
theorem is44 : Is Try.prog 44 b44 := Is.mk' Try.func44 (by kernel_rfl)

def b45 : F2 := (F2.mk 141 [RV.cn 2 4, RV.c1 3] ((ops 0 [O 1 (box (t 0)), O 2 (alloc (AV.agg [AV.int IntKind.i64 (0), AV.int IntKind.i64 (0), AV.int IntKind.i64 (0), AV.esl])), O 3 (alloc (AV.int IntKind.i64 (0)))]).seq ((block 0 ((ops 0 [O 10 (fa 0 (t 1)), O 11 (D 10), O 12 (call (F 81) [t 11, c (AV.int IntKind.i64 (1)), c (AV.int IntKind.i64 (5))]), O 13 (un UnOp.not (t 12)), O 14 (M 13), G 15 14 false (fa 1 (t 1)), G 16 14 false (D 15), G 17 14 false (call (F 81) [t 16, c (AV.int IntKind.i64 (1)), c (AV.int IntKind.i64 (8))]), G 18 14 false (un UnOp.not (t 17)), O 19 (pick (t 14) cTru (t 18)), O 20 (M 19), G 21 20 false (fa 2 (t 1)), G 22 20 false (D 21), G 23 20 false (call (F 81) [t 22, c (AV.int IntKind.i64 (1)), c (AV.int IntKind.i64 (8))]), G 24 20 false (un UnOp.not (t 23)), O 25 (pick (t 20) cTru (t 24)), O 9 (M 25)]).seq (C2.cond (t 9) ((ops 0 [O 26 (bld [AV.int IntKind.i64 (0), AV.int IntKind.i64 (0), AV.int IntKind.i64 (0), AV.esl] []), Op2.mk none none (Ins.st 4 (t 2) (t 26)), Op2.mk none none (Ins.st 1 (t 3) (N ((2))))]).seq ret) ((ops 0 [O 28 (fa 3 (t 1)), O 29 (D 28), O 30 (B2 .neq (t 29) (N ((-1)))), O 31 (M 30), G 32 31 true (fa 3 (t 1)), G 33 31 true (D 32), G 34 31 true (fa 0 (t 1)), G 35 31 true (D 34), G 36 31 true (call (F 81) [t 33, c (AV.int IntKind.i64 (1)), t 35]), G 37 31 true (un UnOp.not (t 36)), O 38 (pick (t 31) (t 37) cFal), O 27 (M 38)]).seq (C2.cond (t 27) ((ops 0 [O 39 (bld [AV.int IntKind.i64 (0), AV.int IntKind.i64 (0), AV.int IntKind.i64 (0), AV.esl] []), Op2.mk none none (Ins.st 4 (t 2) (t 39)), Op2.mk none none (Ins.st 1 (t 3) (N ((2))))]).seq ret) skip))))).seq (((ops 0 [O 40 (fa 0 (t 1)), O 41 (D 40), O 42 (fa 1 (t 1)), O 43 (D 42), O 44 (fa 4 (t 1)), O 45 (D 44), O 46 (call (F 82) [t 41, t 43, t 45, c (AV.int IntKind.i64 (1024))]), O 4 (M 46)]).seq (block 1 ((ops 0 [O 48 (M 4), O 49 (B2 .eql (t 48) (N ((0)))), O 47 (M 49)]).seq (C2.cond (t 47) ((ops 0 [O 50 (bld [AV.int IntKind.i64 (0), AV.int IntKind.i64 (0), AV.int IntKind.i64 (0), AV.esl] []), Op2.mk none none (Ins.st 4 (t 2) (t 50)), Op2.mk none none (Ins.st 1 (t 3) (N ((16))))]).seq ret) ((ops 0 [O 52 (fa 4 (t 1)), O 53 (D 52), O 54 (bin BinOp.neq false true (t 53) (c AV.nilf)), O 55 (M 54), G 56 55 true (fa 2 (t 1)), G 57 55 true (D 56), G 58 55 true (fa 0 (t 1)), G 59 55 true (D 58), G 60 55 true (B2 .lss (t 57) (t 59)), O 61 (pick (t 55) (t 60) cFal), O 51 (M 61)]).seq (C2.cond (t 51) ((ops 0 [O 62 (bld [AV.int IntKind.i64 (0), AV.int IntKind.i64 (0), AV.int IntKind.i64 (0), AV.esl] []), Op2.mk none none (Ins.st 4 (t 2) (t 62)), Op2.mk none none (Ins.st 1 (t 3) (N ((16))))]).seq ret) ((ops 0 [O 64 (M 4), O 65 (B2 .gtr (t 64) (N ((1024)))), O 63 (M 65)]).seq (C2.cond (t 63) ((ops 0 [O 66 (bld [AV.int IntKind.i64 (0), AV.int IntKind.i64 (0), AV.int IntKind.i64 (0), AV.esl] []), Op2.mk none none (Ins.st 4 (t 2) (t 66)), Op2.mk none none (Ins.st 1 (t 3) (N ((17))))]).seq ret) skip)))))))).seq ((ops 0 [O 67 (fa 0 (t 1)), O 68 (D 67), O 69 (fa 1 (t 1)), O 70 (D 69), O 71 (fa 2 (t 1)), O 72 (D 71), O 73 (bld [AV.int IntKind.i64 (0), AV.int IntKind.i64 (0), AV.int IntKind.i64 (0), AV.esl] [(0, 1, t 68), (1, 1, t 70), (2, 1, t 72)]), O 5 (alloc (AV.agg [AV.int IntKind.i64 (0), AV.int IntKind.i64 (0), AV.int IntKind.i64 (0), AV.esl])), Op2.mk none none (Ins.st 4 (t 5) (t 73))]).seq (((ops 0 [O 74 (fa 0 (t 1)), O 75 (D 74), O 76 (fa 1 (t 1)), O 77 (D 76), O 78 (call (F 83) [t 75, t 77])]).seq (block 2 (rangeF (t 78) [79] (ops 0 [O 6 (alloc AV.esl), Op2.mk none none (Ins.st 1 (t 6) (t 79))]) (block 3 (((ops 0 [O 80 (fa 4 (t 1)), O 81 (D 80), O 82 (bin BinOp.neq false true (t 81) (c AV.nilf)), O 83 (M 82), G 84 83 true (fa 4 (t 1)), G 85 83 true (D 84), G 86 83 true (D 6), G 87 83 true (call (t 85) [t 86]), G 88 83 true (un UnOp.not (t 87)), O 89 (pick (t 83) (t 88) cFal)]).seq (C2.cond (t 89) (exit 3) skip)).seq ((ops 0 [O 90 (D 6), O 91 (call (F 32) [t 90]), O 92 (bld [AV.esl, AV.esl, AV.esl] [(0, 1, t 91)]), O 7 (alloc (AV.agg [AV.esl, AV.esl, AV.esl])), Op2.mk none none (Ins.st 3 (t 7) (t 92))]).seq (((ops 0 [O 93 (fa 0 (t 1)), O 94 (D 93), O 95 (fa 2 (t 1)), O 96 (D 95), O 97 (call (F 83) [t 94, t 96])]).seq (block 4 (rangeF (t 97) [98] (ops 0 [O 8 (M 98)]) (block 5 (((ops 0 [O 99 (fa 5 (t 1)), O 100 (D 99), O 101 (D 6), O 102 (M 8), O 103 (call (t 100) [t 101, t 102]), O 104 (un UnOp.not (t 103))]).seq (C2.cond (t 104) (exit 5) skip)).seq (((ops 0 [O 105 (fa 1 (t 7)), O 106 (D 105), O 107 (lenS (t 106)), O 108 (B2 .eql (t 107) (N ((1024))))]).seq (C2.cond (t 108) ((ops 0 [O 109 (bld [AV.int IntKind.i64 (0), AV.int IntKind.i64 (0), AV.int IntKind.i64 (0), AV.esl] []), Op2.mk none none (Ins.st 4 (t 2) (t 109)), Op2.mk none none (Ins.st 1 (t 3) (N ((17))))]).seq ret) skip)).seq ((mixS 1 [O 110 (fa 1 (t 7)), O 111 (D 110), O 112 (M 8), O 113 (call (F 32) [t 112]), O 114 (bldS 1 1 [AV.esl] [(0, 1, t 113)]), O 115 (app 1 24 (t 111) (t 114)), O 116 (fa 1 (t 7)), Op2.mk none none (Ins.st 1 (t 116) (t 115))] [(0, 0), (1, 0), (2, 0), (3, 1), (4, 1), (5, 2), (6, 0), (7, 2)]).seq ((ops 0 [O 117 (fa 6 (t 1)), O 118 (D 117), O 119 (bin BinOp.neq false true (t 118) (c AV.nilf)), O 120 (M 119), G 121 120 true (fa 6 (t 1)), G 122 120 true (D 121), G 123 120 true (D 6), G 124 120 true (M 8), G 125 120 true (call (t 122) [t 123, t 124]), O 126 (pick (t 120) (t 125) cFal)]).seq (C2.cond (t 126) (mixS 1 [O 127 (fa 2 (t 7)), O 128 (D 127), O 129 (M 8), O 130 (call (F 32) [t 129]), O 131 (bldS 1 1 [AV.esl] [(0, 1, t 130)]), O 132 (app 1 24 (t 128) (t 131)), O 133 (fa 2 (t 7)), Op2.mk none none (Ins.st 1 (t 133) (t 132))] [(0, 0), (1, 0), (2, 0), (3, 1), (4, 1), (5, 2), (6, 0), (7, 2)]) skip))))))))).seq (ops 0 [O 134 (fa 3 (t 5)), O 135 (D 134), O 136 (ldn 3 (t 7)), O 137 (bldS 3 1 [AV.esl, AV.esl, AV.esl] [(0, 3, t 136)]), O 138 (app 3 72 (t 135) (t 137)), O 139 (fa 3 (t 5)), Op2.mk none none (Ins.st 1 (t 139) (t 138))])))))))).seq ((ops 0 [O 140 (ldn 4 (t 5)), Op2.mk none none (Ins.st 4 (t 2) (t 140)), Op2.mk none none (Ins.st 1 (t 3) (N ((0))))]).seq ret)))))))
theorem is45 : Is Try.prog 45 b45 := Is.mk' Try.func45 (by kernel_rfl)

def b46 : F2 := (F2.mk 8 [RV.t 2] ((ops 0 [O 2 (mov (N ((0))))]).seq (((ops 0 [O 3 (M 0), O 4 (call (F 81) [t 3, c (AV.int IntKind.i64 (0)), c (AV.int IntKind.i64 (8))]), O 5 (un UnOp.not (t 4))]).seq (C2.cond (t 5) ((ops 0 [O 2 (mov (N ((9))))]).seq ret) skip)).seq ((ops 0 [O 6 (M 0), O 7 (B2 .add (t 6) (N ((1)))), O 2 (M 7)]).seq ret))))
theorem is46 : Is Try.prog 46 b46 := Is.mk' Try.func46 (by kernel_rfl)

def b47 : F2 := (F2.mk 22 [RV.t 5] ((ops 0 [O 5 (mov cFal)]).seq (((ops 0 [O 6 (M 0), O 7 (call (F 48) [t 6]), O 8 (B2 .eql (t 7) (N ((1))))]).seq (C2.cond (t 8) ((mixS 1 [O 9 (M 1), O 10 (M 0), O 11 (ixaS 1 (t 10) (N ((0)))), O 12 (D 11), O 13 (D 2), O 14 (B2 .mul (t 12) (t 13)), O 15 (call (F 49) [t 9, t 14]), O 5 (M 15)] [(0, 0), (1, 0), (2, 0), (3, 0), (4, 0), (5, 0), (6, 2), (7, 0)]).seq ret) skip)).seq ((ops 0 [O 16 (M 1), O 17 (call (F 50) [t 16]), O 18 (M 1), O 19 (call (F 51) [t 18]), O 20 (B2 .sub (t 17) (t 19)), O 21 (B2 .leq (t 20) (N ((1)))), O 5 (M 21)]).seq ret))))
theorem is47 : Is Try.prog 47 b47 := Is.mk' Try.func47 (by kernel_rfl)

def b48 : F2 := (F2.mk 18 [RV.t 2] ((ops 0 [O 2 (mov (N ((0))))]).seq ((ops 0 [O 6 (mkm none), O 3 (M 6)]).seq (((ops 0 [O 7 (M 0), O 8 (lenS (t 7)), O 9 (mov (N ((0))))]).seq (block 0 ((ops 0 [O 10 (B2 .lss (t 9) (t 8))]).seq ((C2.cond (t 10) skip (exit 0)).seq ((block 1 ((ops 0 [O 11 (ixaS 1 (t 7) (t 9)), O 12 (D 11), O 5 (M 12)]).seq (ops 0 [O 13 (M 3), O 14 (M 5), Op2.mk none none (mput (one int) (t 13) (t 14) cTru)]))).seq (ops 0 [O 15 (B2 .add (t 9) (N ((1)))), O 9 (M 15)])))).loop)).seq ((ops 0 [O 16 (M 3), O 17 (mlen (t 16)), O 2 (M 17)]).seq ret)))))
theorem is48 : Is Try.prog 48 b48 := Is.mk' Try.func48 (by kernel_rfl)

def b49 : F2 := (F2.mk 15 [RV.t 4] ((ops 0 [O 4 (mov cFal)]).seq ((ops 0 [O 5 (M 0), O 6 (call (F 48) [t 5]), O 7 (B2 .eql (t 6) (N ((1)))), O 8 (M 7), G 9 8 true (M 0), G 10 8 true (ixaS 1 (t 9) (N ((0)))), G 11 8 true (D 10), G 12 8 true (M 1), G 13 8 true (B2 .eql (t 11) (t 12)), O 14 (pick (t 8) (t 13) cFal), O 4 (M 14)]).seq ret)))
theorem is49 : Is Try.prog 49 b49 := Is.mk' Try.func49 (by kernel_rfl)

def b50 : F2 := (F2.mk 25 [RV.t 2] ((ops 0 [O 2 (mov (N ((0))))]).seq (((ops 0 [O 5 (M 0), O 6 (lenS (t 5)), O 7 (B2 .lss (t 6) (N ((1))))]).seq (C2.cond (t 7) (ops 0 [O 8 dead, Op2.mk none none dead]) skip)).seq ((ops 0 [O 9 (M 0), O 10 (ixaS 1 (t 9) (N ((0)))), O 11 (D 10), O 3 (M 11)]).seq (((ops 0 [O 4 (mov (N ((1))))]).seq (block 0 (((ops 0 [O 12 (M 4), O 13 (M 0), O 14 (lenS (t 13)), O 15 (B2 .lss (t 12) (t 14))]).seq (C2.cond (t 15) skip (exit 0))).seq ((block 1 (ops 0 [O 18 (M 3), O 19 (M 0), O 20 (M 4), O 21 (ixaS 1 (t 19) (t 20)), O 22 (D 21), O 23 (mx (t 18) [t 22]), O 3 (M 23)])).seq (ops 0 [O 16 (M 4), O 17 (B2 .add (t 16) (N ((1)))), O 4 (M 17)]))).loop)).seq ((ops 0 [O 24 (M 3), O 2 (M 24)]).seq ret))))))
theorem is50 : Is Try.prog 50 b50 := Is.mk' Try.func50 (by kernel_rfl)

def b51 : F2 := (F2.mk 25 [RV.t 2] ((ops 0 [O 2 (mov (N ((0))))]).seq (((ops 0 [O 5 (M 0), O 6 (lenS (t 5)), O 7 (B2 .lss (t 6) (N ((1))))]).seq (C2.cond (t 7) (ops 0 [O 8 dead, Op2.mk none none dead]) skip)).seq ((ops 0 [O 9 (M 0), O 10 (ixaS 1 (t 9) (N ((0)))), O 11 (D 10), O 3 (M 11)]).seq (((ops 0 [O 4 (mov (N ((1))))]).seq (block 0 (((ops 0 [O 12 (M 4), O 13 (M 0), O 14 (lenS (t 13)), O 15 (B2 .lss (t 12) (t 14))]).seq (C2.cond (t 15) skip (exit 0))).seq ((block 1 (ops 0 [O 18 (M 3), O 19 (M 0), O 20 (M 4), O 21 (ixaS 1 (t 19) (t 20)), O 22 (D 21), O 23 (mn (t 18) [t 22]), O 3 (M 23)])).seq (ops 0 [O 16 (M 4), O 17 (B2 .add (t 16) (N ((1)))), O 4 (M 17)]))).loop)).seq ((ops 0 [O 24 (M 3), O 2 (M 24)]).seq ret))))))
theorem is51 : Is Try.prog 51 b51 := Is.mk' Try.func51 (by kernel_rfl)

def b52 : F2 := (F2.mk 126 [RV.cn 2 4, RV.t 3] ((ops 0 [O 1 (box (t 0)), O 2 (alloc (AV.agg [AV.int IntKind.i64 (0), AV.int IntKind.i64 (0), AV.int IntKind.i64 (0), AV.esl])), O 3 (mov (N ((0))))]).seq (((ops 0 [O 9 (fa 1 (t 1)), O 10 (D 9), O 11 (B2 .lss (t 10) (N ((1)))), O 12 (M 11), G 13 12 false (fa 1 (t 1)), G 14 12 false (D 13), G 15 12 false (B2 .gtr (t 14) (N ((5)))), O 16 (pick (t 12) cTru (t 15))]).seq (C2.cond (t 16) ((ops 0 [O 17 (bld [AV.int IntKind.i64 (0), AV.int IntKind.i64 (0), AV.int IntKind.i64 (0), AV.esl] []), Op2.mk none none (Ins.st 4 (t 2) (t 17)), O 3 (mov (N ((2))))]).seq ret) skip)).seq (((ops 0 [O 18 (fa 2 (t 1)), O 19 (D 18), O 20 (B2 .lss (t 19) (N ((1)))), O 21 (M 20), G 22 21 false (fa 2 (t 1)), G 23 21 false (D 22), G 24 21 false (B2 .gtr (t 23) (N ((8)))), O 25 (pick (t 21) cTru (t 24)), O 26 (M 25), G 27 26 false (fa 3 (t 1)), G 28 26 false (D 27), G 29 26 false (B2 .lss (t 28) (N ((1)))), O 30 (pick (t 26) cTru (t 29)), O 31 (M 30), G 32 31 false (fa 3 (t 1)), G 33 31 false (D 32), G 34 31 false (B2 .gtr (t 33) (N ((8)))), O 35 (pick (t 31) cTru (t 34))]).seq (C2.cond (t 35) ((ops 0 [O 36 (bld [AV.int IntKind.i64 (0), AV.int IntKind.i64 (0), AV.int IntKind.i64 (0), AV.esl] []), Op2.mk none none (Ins.st 4 (t 2) (t 36)), O 3 (mov (N ((2))))]).seq ret) skip)).seq (((ops 0 [O 37 (fa 0 (t 1)), O 38 (D 37), O 39 (B2 .eql (t 38) (N ((6)))), O 40 (M 39), G 41 40 true (fa 4 (t 1)), G 42 40 true (D 41), G 43 40 true (B2 .lss (t 42) (N ((1)))), G 44 40 true (M 43), G 45 44 false (fa 4 (t 1)), G 46 44 false (D 45), G 47 44 false (fa 1 (t 1)), G 48 44 false (D 47), G 49 44 false (B2 .gtr (t 46) (t 48)), G 50 40 true (pick (t 44) cTru (t 49)), O 51 (pick (t 40) (t 50) cFal)]).seq (C2.cond (t 51) ((ops 0 [O 52 (bld [AV.int IntKind.i64 (0), AV.int IntKind.i64 (0), AV.int IntKind.i64 (0), AV.esl] []), Op2.mk none none (Ins.st 4 (t 2) (t 52)), O 3 (mov (N ((2))))]).seq ret) skip)).seq (((ops 0 [O 53 (fa 0 (t 1)), O 54 (D 53), O 55 (B2 .eql (t 54) (N ((5)))), O 56 (M 55), G 57 56 true (fa 2 (t 1)), G 58 56 true (D 57), G 59 56 true (fa 1 (t 1)), G 60 56 true (D 59), G 61 56 true (B2 .lss (t 58) (t 60)), G 62 56 true (M 61), G 63 62 false (fa 3 (t 1)), G 64 62 false (D 63), G 65 62 false (fa 1 (t 1)), G 66 62 false (D 65), G 67 62 false (B2 .lss (t 64) (t 66)), G 68 56 true (pick (t 62) cTru (t 67)), O 69 (pick (t 56) (t 68) cFal)]).seq (C2.cond (t 69) ((ops 0 [O 70 (bld [AV.int IntKind.i64 (0), AV.int IntKind.i64 (0), AV.int IntKind.i64 (0), AV.esl] []), Op2.mk none none (Ins.st 4 (t 2) (t 70)), O 3 (mov (N ((16))))]).seq ret) skip)).seq (((ops 0 [O 71 (ldn 5 (t 1)), O 72 (call (F 84) [t 71]), O 73 (B2 .gtr (t 72) (N ((1024))))]).seq (C2.cond (t 73) ((ops 0 [O 74 (bld [AV.int IntKind.i64 (0), AV.int IntKind.i64 (0), AV.int IntKind.i64 (0), AV.esl] []), Op2.mk none none (Ins.st 4 (t 2) (t 74)), O 3 (mov (N ((17))))]).seq ret) skip)).seq ((ops 0 [O 75 (fa 1 (t 1)), O 76 (D 75), O 77 (fa 2 (t 1)), O 78 (D 77), O 79 (fa 3 (t 1)), O 80 (D 79), O 81 (bld [AV.int IntKind.i64 (0), AV.int IntKind.i64 (0), AV.int IntKind.i64 (0), AV.esl] [(0, 1, t 76), (1, 1, t 78), (2, 1, t 80)]), O 4 (alloc (AV.agg [AV.int IntKind.i64 (0), AV.int IntKind.i64 (0), AV.int IntKind.i64 (0), AV.esl])), Op2.mk none none (Ins.st 4 (t 4) (t 81))]).seq ((ops 0 [O 82 (fa 1 (t 1)), O 83 (D 82), O 84 (fa 2 (t 1)), O 85 (D 84), O 86 (call (F 85) [t 83, t 85]), O 5 (M 86)]).seq (((ops 0 [O 6 (mov (N ((0))))]).seq (block 0 (((ops 0 [O 87 (M 6), O 88 (M 5), O 89 (lenS (t 88)), O 90 (B2 .lss (t 87) (t 89))]).seq (C2.cond (t 90) skip (exit 0))).seq ((block 1 (((mixS 1 [O 93 (ldn 5 (t 1)), O 94 (M 5), O 95 (M 6), O 96 (ixaS 1 (t 94) (t 95)), O 97 (D 96), O 98 (call (F 86) [t 93, t 97]), O 99 (un UnOp.not (t 98))] [(0, 0), (1, 0), (2, 0), (3, 0), (4, 0), (5, 2), (6, 0)]).seq (C2.cond (t 99) (exit 1) skip)).seq ((mixS 1 [O 101 (ldn 5 (t 1)), O 102 (M 5), O 103 (M 6), O 104 (ixaS 1 (t 102) (t 103)), O 105 (D 104), O 106 (call (F 87) [t 101, t 105]), O 100 (M 106), O 107 (ext (t 100) 0), O 108 (ext (t 100) 1), O 7 (M 107), O 8 (M 108)] [(0, 0), (1, 0), (2, 0), (3, 0), (4, 0), (5, 2), (6, 0), (7, 0), (8, 0), (9, 0), (10, 0)]).seq (((ops 0 [O 109 (M 7), O 110 (lenS (t 109)), O 111 (B2 .gtr (t 110) (N ((1024))))]).seq (C2.cond (t 111) ((ops 0 [O 112 (bld [AV.int IntKind.i64 (0), AV.int IntKind.i64 (0), AV.int IntKind.i64 (0), AV.esl] []), Op2.mk none none (Ins.st 4 (t 2) (t 112)), O 3 (mov (N ((17))))]).seq ret) skip)).seq (ops 1 [O 113 (fa 3 (t 4)), O 114 (D 113), O 115 (M 5), O 116 (M 6), O 117 (ixaS 1 (t 115) (t 116)), O 118 (D 117), O 119 (M 7), O 120 (M 8), O 121 (bld [AV.esl, AV.esl, AV.esl] [(0, 1, t 118), (1, 1, t 119), (2, 1, t 120)]), O 122 (bldS 3 1 [AV.esl, AV.esl, AV.esl] [(0, 3, t 121)]), O 123 (app 3 72 (t 114) (t 122)), O 124 (fa 3 (t 4)), Op2.mk none none (Ins.st 1 (t 124) (t 123))]))))).seq (ops 0 [O 91 (M 6), O 92 (B2 .add (t 91) (N ((1)))), O 6 (M 92)]))).loop)).seq ((ops 0 [O 125 (ldn 4 (t 4)), Op2.mk none none (Ins.st 4 (t 2) (t 125)), O 3 (mov (N ((0))))]).seq ret)))))))))))
theorem is52 : Is Try.prog 52 b52 := Is.mk' Try.func52 (by kernel_rfl)

def b54 : F2 := (F2.mk 14 [RV.t 5] ((ops 0 [O 5 (mov cFal)]).seq ((ops 0 [O 7 (M 1), O 8 (call (F 32) [t 7]), O 9 (mkfn 56 [t 2]), O 10 (call (F 55) [t 8, t 9]), O 6 (M 10)]).seq ((ops 0 [O 11 (M 6), O 12 (call (F 48) [t 11]), O 13 (B2 .leq (t 12) (N ((1)))), O 5 (M 13)]).seq ret))))
theorem is54 : Is Try.prog 54 b54 := Is.mk' Try.func54 (by kernel_rfl)

def b55 : F2 := (F2.mk 42 [RV.t 4] ((ops 0 [O 4 (mov (c AV.esl))]).seq ((ops 0 [O 8 (M 0), O 9 (M 1), O 10 (call (F 88) [t 8, t 9]), O 5 (M 10)]).seq (((ops 0 [O 11 (M 5), O 12 (B2 .eql (t 11) (N ((-1))))]).seq (C2.cond (t 12) ((ops 0 [O 13 (M 0), O 4 (M 13)]).seq ret) skip)).seq (((ops 0 [O 14 (M 5), O 15 (B2 .add (t 14) (N ((1)))), O 6 (M 15)]).seq (block 0 (((ops 0 [O 16 (M 6), O 17 (M 0), O 18 (lenS (t 17)), O 19 (B2 .lss (t 16) (t 18))]).seq (C2.cond (t 19) skip (exit 0))).seq ((block 1 ((ops 0 [O 22 (M 0), O 23 (M 6), O 24 (ixaS 1 (t 22) (t 23)), O 25 (D 24), O 7 (M 25)]).seq ((ops 0 [O 26 (M 1), O 27 (M 7), O 28 (call (t 26) [t 27]), O 29 (un UnOp.not (t 28))]).seq (C2.cond (t 29) ((ops 0 [O 30 (M 0), O 31 (M 5), O 32 (M 7), O 33 (ixaS 1 (t 30) (t 31)), Op2.mk none none (Ins.st 1 (t 33) (t 32))]).seq (ops 0 [O 34 (M 5), O 35 (B2 .add (t 34) (N ((1)))), O 5 (M 35)])) skip)))).seq (ops 0 [O 20 (M 6), O 21 (B2 .add (t 20) (N ((1)))), O 6 (M 21)]))).loop)).seq ((ops 0 [O 36 (M 0), O 37 (M 5), O 38 (sls 1 (t 36) (some (t 37)) none none), Op2.mk none none (clr 1 (AV.int IntKind.i64 (0)) (t 38))]).seq ((ops 0 [O 39 (M 0), O 40 (M 5), O 41 (sls 1 (t 39) none (some (t 40)) none), O 4 (M 41)]).seq ret)))))))
theorem is55 : Is Try.prog 55 b55 := Is.mk' Try.func55 (by kernel_rfl)

def b56 : F2 := (F2.mk 7 [RV.t 3] ((ops 0 [O 3 (mov cFal)]).seq ((ops 0 [O 4 (M 0), O 5 (D 1), O 6 (B2 .eql (t 4) (t 5)), O 3 (M 6)]).seq ret)))
theorem is56 : Is Try.prog 56 b56 := Is.mk' Try.func56 (by kernel_rfl)

def b57 : F2 := (F2.mk 10 [RV.t 4] ((ops 0 [O 4 (mov cFal)]).seq ((ops 0 [O 5 (M 1), O 6 (M 0), O 7 (ixaS 1 (t 6) (N ((0)))), O 8 (D 7), O 9 (call (F 49) [t 5, t 8]), O 4 (M 9)]).seq ret)))
theorem is57 : Is Try.prog 57 b57 := Is.mk' Try.func57 (by kernel_rfl)

def b58 : F2 := (F2.mk 46 [RV.t 4] ((ops 0 [O 4 (mov (N ((0))))]).seq (((ops 0 [O 5 (mov (N ((0))))]).seq (block 0 (((ops 0 [O 6 (M 5), O 7 (M 0), O 8 (lenS (t 7)), O 9 (B2 .lss (t 6) (t 8)), O 10 (M 9), G 11 10 true (M 5), G 12 10 true (M 1), G 13 10 true (lenS (t 12)), G 14 10 true (B2 .lss (t 11) (t 13)), O 15 (pick (t 10) (t 14) cFal)]).seq (C2.cond (t 15) skip (exit 0))).seq ((block 1 (((ops 1 [O 18 (M 0), O 19 (M 5), O 20 (ixaS 1 (t 18) (t 19)), O 21 (D 20), O 22 (M 1), O 23 (M 5), O 24 (ixaS 1 (t 22) (t 23)), O 25 (D 24), O 26 (B2 .lss (t 21) (t 25))]).seq (C2.cond (t 26) ((ops 0 [O 4 (mov (N ((-1))))]).seq ret) skip)).seq ((ops 1 [O 27 (M 0), O 28 (M 5), O 29 (ixaS 1 (t 27) (t 28)), O 30 (D 29), O 31 (M 1), O 32 (M 5), O 33 (ixaS 1 (t 31) (t 32)), O 34 (D 33), O 35 (B2 .gtr (t 30) (t 34))]).seq (C2.cond (t 35) ((ops 0 [O 4 (mov (N ((1))))]).seq ret) skip)))).seq (ops 0 [O 16 (M 5), O 17 (B2 .add (t 16) (N ((1)))), O 5 (M 17)]))).loop)).seq (((ops 0 [O 36 (M 0), O 37 (lenS (t 36)), O 38 (M 1), O 39 (lenS (t 38)), O 40 (B2 .lss (t 37) (t 39))]).seq (C2.cond (t 40) ((ops 0 [O 4 (mov (N ((-1))))]).seq ret) skip)).seq (((ops 0 [O 41 (M 0), O 42 (lenS (t 41)), O 43 (M 1), O 44 (lenS (t 43)), O 45 (B2 .gtr (t 42) (t 44))]).seq (C2.cond (t 45) ((ops 0 [O 4 (mov (N ((1))))]).seq ret) skip)).seq ((ops 0 [O 4 (mov (N ((0))))]).seq ret))))))
theorem is58 : Is Try.prog 58 b58 := Is.mk' Try.func58 (by kernel_rfl)

def b59 : F2 := (F2.mk 13 [RV.cn 6 7] ((ops 0 [O 5 (box (t 2)), O 6 (alloc (AV.agg [AV.int IntKind.i64 (0), AV.int IntKind.i64 (0), AV.int IntKind.i64 (0), AV.int IntKind.i64 (0), AV.nilf, AV.nilf, AV.nilf]))]).seq ((ops 0 [O 7 (M 0), O 8 (M 1), O 9 (M 1), O 10 (D 5), O 11 (mkfn 89 [t 5]), O 12 (bld [AV.int IntKind.i64 (0), AV.int IntKind.i64 (0), AV.int IntKind.i64 (0), AV.int IntKind.i64 (0), AV.nilf, AV.nilf, AV.nilf] [(0, 1, t 7), (1, 1, t 8), (2, 1, t 9), (3, 1, t 10), (5, 1, t 11)]), Op2.mk none none (Ins.st 7 (t 6) (t 12))]).seq ret)))
theorem is59 : Is Try.prog 59 b59 := Is.mk' Try.func59 (by kernel_rfl)

def b60 : F2 := (F2.mk 3 [RV.t 0] ((ops 0 [O 0 (mov (c AV.undef))]).seq ((ops 0 [O 1 (mkm none), Op2.mk none none (mput (one str) (t 1) (c (AV.str (ByteArray.mk (Array.mk [97, 112, 112, 114, 111, 120, 105, 109, 97, 116, 101])))) (F 91)), Op2.mk none none (mput (one str) (t 1) (c (AV.str (ByteArray.mk (Array.mk [99, 111, 109, 109, 105, 116])))) (F 92)), Op2.mk none none (mput (one str) (t 1) (c (AV.str (ByteArray.mk (Array.mk [99, 111, 110, 115, 101, 110, 115, 117, 115])))) (F 93)), Op2.mk none none (mput (one str) (t 1) (c (AV.str (ByteArray.mk (Array.mk [99, 114, 117, 115, 97, 100, 101, 114])))) (F 94)), Op2.mk none none (mput (one str) (t 1) (c (AV.str (ByteArray.mk (Array.mk [108, 101, 97, 100, 101, 114])))) (F 95)), Op2.mk none none (mput (one str) (t 1) (c (AV.str (ByteArray.mk (Array.mk [114, 101, 110, 97, 109, 105, 110, 103])))) (F 35)), Op2.mk none none (mput (one str) (t 1) (c (AV.str (ByteArray.mk (Array.mk [115, 101, 116])))) (F 18)), O 2 (M 1), O 0 (M 2)]).seq ret)))
theorem is60 : Is Try.prog 60 b60 := Is.mk' Try.func60 (by kernel_rfl)

def b61 : F2 := (F2.mk 5 [RV.t 2] ((ops 0 [O 2 (mov (N ((0))))]).seq ((ops 0 [O 3 (M 0), O 4 (call (F 51) [t 3]), O 2 (M 4)]).seq ret)))
theorem is61 : Is Try.prog 61 b61 := Is.mk' Try.func61 (by kernel_rfl)

def b62 : F2 := (F2.mk 18 [RV.t 5] ((ops 0 [O 5 (mov cFal)]).seq ((ops 0 [O 6 (M 1), O 7 (call (F 49) [t 6, c (AV.int IntKind.i64 (0))]), O 8 (M 7), G 9 8 false (M 1), G 10 8 false (call (F 49) [t 9, c (AV.int IntKind.i64 (1))]), G 11 8 false (M 10), G 12 11 true (D 2), G 13 11 true (M 0), G 14 11 true (call (t 12) [t 13]), G 15 11 true (B2 .eql (t 14) (N ((1)))), G 16 8 false (pick (t 11) (t 15) cFal), O 17 (pick (t 8) cTru (t 16)), O 5 (M 17)]).seq ret)))
theorem is62 : Is Try.prog 62 b62 := Is.mk' Try.func62 (by kernel_rfl)

def b63 : F2 := (F2.mk 11 [RV.t 5] ((ops 0 [O 5 (mov cFal)]).seq ((ops 0 [O 6 (M 1), O 7 (D 2), O 8 (M 0), O 9 (call (t 7) [t 8]), O 10 (call (F 49) [t 6, t 9]), O 5 (M 10)]).seq ret)))
theorem is63 : Is Try.prog 63 b63 := Is.mk' Try.func63 (by kernel_rfl)

def b67 : F2 := (F2.mk 9 [RV.t 4] ((ops 0 [O 4 (mov cFal)]).seq ((ops 0 [O 5 (M 0), O 6 (M 1), O 7 (call (F 88) [t 5, t 6]), O 8 (B2 .geq (t 7) (N ((0)))), O 4 (M 8)]).seq ret)))
theorem is67 : Is Try.prog 67 b67 := Is.mk' Try.func67 (by kernel_rfl)

def b72 : F2 := (F2.mk 19 [RV.t 4] ((ops 0 [O 4 (mov (N ((0))))]).seq (((ops 0 [O 6 (M 0), O 7 (lenS (t 6)), O 8 (mov (N ((0))))]).seq (block 0 ((ops 0 [O 9 (B2 .lss (t 8) (t 7))]).seq ((C2.cond (t 9) skip (exit 0)).seq ((block 1 ((ops 0 [O 10 (M 8), O 5 (M 10)]).seq ((ops 0 [O 11 (M 1), O 12 (M 0), O 13 (M 5), O 14 (ixaS 1 (t 12) (t 13)), O 15 (D 14), O 16 (B2 .eql (t 11) (t 15))]).seq (C2.cond (t 16) ((ops 0 [O 17 (M 5), O 4 (M 17)]).seq ret) skip)))).seq (ops 0 [O 18 (B2 .add (t 8) (N ((1)))), O 8 (M 18)])))).loop)).seq ((ops 0 [O 4 (mov (N ((-1))))]).seq ret))))
theorem is72 : Is Try.prog 72 b72 := Is.mk' Try.func72 (by kernel_rfl)

def b75 : F2 := (F2.mk 8 [RV.t 2] ((ops 0 [O 2 (mov (N ((0))))]).seq ((C2.cond cFal ((ops 0 [O 3 (M 0), O 4 (conv IntKind.u32 (t 3)), O 5 (call (F 108) [t 4]), O 2 (M 5)]).seq ret) skip).seq ((ops 0 [O 6 (M 0), O 7 (call (F 109) [t 6]), O 2 (M 7)]).seq ret))))
theorem is75 : Is Try.prog 75 b75 := Is.mk' Try.func75 (by kernel_rfl)

def b76 : F2 := (F2.mk 8 [RV.t 2] ((ops 0 [O 2 (mov cFal)]).seq ((ops 0 [O 3 (M 0), O 4 (call (F 48) [t 3]), O 5 (M 0), O 6 (lenS (t 5)), O 7 (B2 .eql (t 4) (t 6)), O 2 (M 7)]).seq ret)))
theorem is76 : Is Try.prog 76 b76 := Is.mk' Try.func76 (by kernel_rfl)

def b77 : F2 := (F2.mk 10 [RV.t 4] ((ops 0 [O 4 (mov cFal)]).seq ((ops 0 [O 5 (M 1), O 6 (call (F 48) [t 5]), O 7 (M 1), O 8 (lenS (t 7)), O 9 (B2 .eql (t 6) (t 8)), O 4 (M 9)]).seq ret)))
theorem is77 : Is Try.prog 77 b77 := Is.mk' Try.func77 (by kernel_rfl)

def b78 : F2 := (F2.mk 20 [RV.t 4] ((ops 0 [O 4 (mov cFal)]).seq ((ops 0 [O 5 (mov (N ((0))))]).seq (((ops 0 [O 8 (M 1), O 9 (lenS (t 8)), O 10 (mov (N ((0))))]).seq (block 0 ((ops 0 [O 11 (B2 .lss (t 10) (t 9))]).seq ((C2.cond (t 11) skip (exit 0)).seq ((block 1 ((ops 0 [O 12 (ixaS 1 (t 8) (t 10)), O 13 (D 12), O 7 (M 13)]).seq (ops 0 [O 14 (M 5), O 15 (M 7), O 16 (B2 .add (t 14) (t 15)), O 5 (M 16)]))).seq (ops 0 [O 17 (B2 .add (t 10) (N ((1)))), O 10 (M 17)])))).loop)).seq ((ops 0 [O 18 (M 5), O 19 (B2 .eql (t 18) (N ((1)))), O 4 (M 19)]).seq ret)))))
theorem is78 : Is Try.prog 78 b78 := Is.mk' Try.func78 (by kernel_rfl)

def b79 : F2 := (F2.mk 9 [RV.t 2] ((ops 0 [O 2 (mov (c AV.esl))]).seq ((ops 0 [O 4 (M 0), O 5 (call (F 110) [t 4]), O 3 (M 5)]).seq ((ops 0 [O 6 (M 3), O 7 (call (F 111) [t 6])]).seq ((ops 0 [O 8 (M 3), O 2 (M 8)]).seq ret)))))
theorem is79 : Is Try.prog 79 b79 := Is.mk' Try.func79 (by kernel_rfl)

def b80 : F2 := (F2.mk 4 [RV.t 2] ((ops 0 [O 1 (box (t 0)), O 2 (mov (c AV.nilf))]).seq ((ops 0 [O 3 (mkfn 112 [t 1]), O 2 (M 3)]).seq ret)))
theorem is80 : Is Try.prog 80 b80 := Is.mk' Try.func80 (by kernel_rfl)

def b81 : F2 := (F2.mk 15 [RV.t 6] ((ops 0 [O 6 (mov cFal)]).seq ((ops 0 [O 7 (M 0), O 8 (M 1), O 9 (B2 .geq (t 7) (t 8)), O 10 (M 9), G 11 10 true (M 0), G 12 10 true (M 2), G 13 10 true (B2 .leq (t 11) (t 12)), O 14 (pick (t 10) (t 13) cFal), O 6 (M 14)]).seq ret)))
theorem is81 : Is Try.prog 81 b81 := Is.mk' Try.func81 (by kernel_rfl)

def b82 : F2 := (F2.mk 28 [RV.t 8] ((ops 0 [O 6 (box (t 2)), O 7 (box (t 3)), O 8 (mov (N ((0))))]).seq ((ops 0 [O 9 (alloc (AV.int IntKind.i64 (0))), Op2.mk none none (Ins.st 1 (t 9) (N ((0))))]).seq (((ops 0 [O 11 (M 0), O 12 (M 1), O 13 (call (F 83) [t 11, t 12])]).seq (block 0 (rangeF (t 13) [14] (ops 0 [O 10 (M 14)]) (block 1 (((ops 0 [O 15 (D 6), O 16 (bin BinOp.eql false true (t 15) (c AV.nilf)), O 17 (M 16), G 18 17 false (D 6), G 19 17 false (M 10), G 20 17 false (call (t 18) [t 19]), O 21 (pick (t 17) cTru (t 20))]).seq (C2.cond (t 21) (ops 0 [O 22 (D 9), O 23 (B2 .add (t 22) (N ((1)))), Op2.mk none none (Ins.st 1 (t 9) (t 23))]) skip)).seq ((ops 0 [O 24 (D 9), O 25 (D 7), O 26 (B2 .gtr (t 24) (t 25))]).seq (C2.cond (t 26) (exit 0) skip))))))).seq ((ops 0 [O 27 (D 9), O 8 (M 27)]).seq ret)))))
theorem is82 : Is Try.prog 82 b82 := Is.mk' Try.func82 (by kernel_rfl)

def b83 : F2 := (F2.mk 6 [RV.t 4] ((ops 0 [O 2 (box (t 0)), O 3 (box (t 1)), O 4 (mov (c AV.nilf))]).seq ((ops 0 [O 5 (mkfn 113 [t 2, t 3]), O 4 (M 5)]).seq ret)))
theorem is83 : Is Try.prog 83 b83 := Is.mk' Try.func83 (by kernel_rfl)

def b84 : F2 := (F2.mk 31 [RV.t 2] ((ops 0 [O 1 (box (t 0)), O 2 (mov (N ((0))))]).seq (((ops 0 [O 5 (fa 0 (t 1)), O 6 (D 5), O 7 (B2 .neq (t 6) (N ((5))))]).seq (C2.cond (t 7) ((ops 0 [O 8 (fa 2 (t 1)), O 9 (D 8), O 10 (fa 1 (t 1)), O 11 (D 10), O 12 (call (F 43) [t 9, t 11, c (AV.int IntKind.i64 (1024))]), O 2 (M 12)]).seq ret) skip)).seq ((ops 0 [O 3 (mov (N ((1))))]).seq (((ops 0 [O 4 (mov (N ((0))))]).seq (block 0 (((ops 0 [O 13 (M 4), O 14 (fa 1 (t 1)), O 15 (D 14), O 16 (B2 .lss (t 13) (t 15)), O 17 (M 16), G 18 17 true (M 3), G 19 17 true (B2 .leq (t 18) (N ((1024)))), O 20 (pick (t 17) (t 19) cFal)]).seq (C2.cond (t 20) skip (exit 0))).seq ((block 1 (ops 0 [O 23 (M 3), O 24 (fa 2 (t 1)), O 25 (D 24), O 26 (M 4), O 27 (B2 .sub (t 25) (t 26)), O 28 (mx (N ((0))) [t 27]), O 29 (B2 .mul (t 23) (t 28)), O 3 (M 29)])).seq (ops 0 [O 21 (M 4), O 22 (B2 .add (t 21) (N ((1)))), O 4 (M 22)]))).loop)).seq ((ops 0 [O 30 (M 3), O 2 (M 30)]).seq ret))))))
theorem is84 : Is Try.prog 84 b84 := Is.mk' Try.func84 (by kernel_rfl)

def b85 : F2 := (F2.mk 42 [RV.t 4] ((ops 0 [O 4 (mov (c AV.esl))]).seq (((ops 0 [O 10 (M 0), O 11 (B2 .eql (t 10) (N ((0))))]).seq (C2.cond (t 11) ((ops 0 [O 12 (bldS 1 1 [AV.esl] [(0, 1, c AV.esl)]), O 4 (M 12)]).seq ret) skip)).seq ((ops 0 [O 5 (mov (c AV.esl))]).seq ((ops 0 [O 13 (M 0), O 14 (B2 .sub (t 13) (N ((1)))), O 15 (M 1), O 16 (call (F 85) [t 14, t 15]), O 6 (M 16)]).seq (((ops 0 [O 7 (mov (N ((0))))]).seq (block 0 (((ops 0 [O 17 (M 7), O 18 (M 1), O 19 (B2 .lss (t 17) (t 18))]).seq (C2.cond (t 19) skip (exit 0))).seq ((block 1 ((ops 0 [O 8 (mov (N ((0))))]).seq (block 2 (((ops 0 [O 22 (M 8), O 23 (M 6), O 24 (lenS (t 23)), O 25 (B2 .lss (t 22) (t 24))]).seq (C2.cond (t 25) skip (exit 2))).seq ((block 3 ((ops 0 [O 9 (mov (c AV.esl))]).seq ((ops 0 [O 28 (M 9), O 29 (M 7), O 30 (bldS 1 1 [AV.int IntKind.i64 (0)] [(0, 1, t 29)]), O 31 (app 1 8 (t 28) (t 30)), O 9 (M 31)]).seq (ops 0 [O 32 (M 5), O 33 (M 9), O 34 (M 6), O 35 (M 8), O 36 (ixaS 1 (t 34) (t 35)), O 37 (D 36), O 38 (app 1 8 (t 33) (t 37)), O 39 (bldS 1 1 [AV.esl] [(0, 1, t 38)]), O 40 (app 1 24 (t 32) (t 39)), O 5 (M 40)])))).seq (ops 0 [O 26 (M 8), O 27 (B2 .add (t 26) (N ((1)))), O 8 (M 27)]))).loop))).seq (ops 0 [O 20 (M 7), O 21 (B2 .add (t 20) (N ((1)))), O 7 (M 21)]))).loop)).seq ((ops 0 [O 41 (M 5), O 4 (M 41)]).seq ret)))))))
theorem is85 : Is Try.prog 85 b85 := Is.mk' Try.func85 (by kernel_rfl)

def b86 : F2 := (F2.mk 15 [RV.t 4] ((ops 0 [O 2 (box (t 0)), O 4 (mov cFal)]).seq ((ops 0 [O 5 (fa 0 (t 2)), O 6 (D 5), O 7 (B2 .neq (t 6) (N ((5)))), O 8 (M 7), G 9 8 false (M 1), G 10 8 false (call (F 114) [t 9]), G 11 8 false (M 1), G 12 8 false (lenS (t 11)), G 13 8 false (B2 .eql (t 10) (t 12)), O 14 (pick (t 8) cTru (t 13)), O 4 (M 14)]).seq ret)))
theorem is86 : Is Try.prog 86 b86 := Is.mk' Try.func86 (by kernel_rfl)

def b87 : F2 := (F2.mk 51 [RV.t 4, RV.t 5] ((ops 0 [O 2 (box (t 0)), O 4 (mov (c AV.esl)), O 5 (mov (c AV.esl))]).seq ((ops 0 [O 6 (mov (c AV.esl)), O 7 (mov (c AV.esl))]).seq ((ops 0 [O 10 (fa 1 (t 2)), O 11 (D 10), O 12 (fa 3 (t 2)), O 13 (D 12), O 14 (call (F 85) [t 11, t 13]), O 8 (M 14)]).seq (((ops 0 [O 9 (mov (N ((0))))]).seq (block 0 (((ops 0 [O 15 (M 9), O 16 (M 8), O 17 (lenS (t 16)), O 18 (B2 .lss (t 15) (t 17))]).seq (C2.cond (t 18) skip (exit 0))).seq ((block 1 ((mixS 1 [O 21 (ldn 5 (t 2)), O 22 (M 1), O 23 (M 8), O 24 (M 9), O 25 (ixaS 1 (t 23) (t 24)), O 26 (D 25), O 27 (call (F 115) [t 21, t 22, t 26])] [(0, 0), (1, 0), (2, 0), (3, 0), (4, 0), (5, 0), (6, 2)]).seq (C2.cond (t 27) ((ops 0 [O 28 (M 6), O 29 (M 8), O 30 (M 9), O 31 (ixaS 1 (t 29) (t 30)), O 32 (D 31), O 33 (bldS 1 1 [AV.esl] [(0, 1, t 32)]), O 34 (app 1 24 (t 28) (t 33)), O 6 (M 34)]).seq ((mixS 1 [O 35 (ldn 5 (t 2)), O 36 (M 1), O 37 (M 8), O 38 (M 9), O 39 (ixaS 1 (t 37) (t 38)), O 40 (D 39), O 41 (call (F 116) [t 35, t 36, t 40])] [(0, 0), (1, 0), (2, 0), (3, 0), (4, 0), (5, 0), (6, 2)]).seq (C2.cond (t 41) (ops 0 [O 42 (M 7), O 43 (M 8), O 44 (M 9), O 45 (ixaS 1 (t 43) (t 44)), O 46 (D 45), O 47 (bldS 1 1 [AV.esl] [(0, 1, t 46)]), O 48 (app 1 24 (t 42) (t 47)), O 7 (M 48)]) skip))) skip))).seq (ops 0 [O 19 (M 9), O 20 (B2 .add (t 19) (N ((1)))), O 9 (M 20)]))).loop)).seq ((ops 0 [O 49 (M 6), O 50 (M 7), O 4 (M 49), O 5 (M 50)]).seq ret))))))
theorem is87 : Is Try.prog 87 b87 := Is.mk' Try.func87 (by kernel_rfl)

def b88 : F2 := (F2.mk 19 [RV.t 4] ((ops 0 [O 4 (mov (N ((0))))]).seq (((ops 0 [O 6 (M 0), O 7 (lenS (t 6)), O 8 (mov (N ((0))))]).seq (block 0 ((ops 0 [O 9 (B2 .lss (t 8) (t 7))]).seq ((C2.cond (t 9) skip (exit 0)).seq ((block 1 ((ops 0 [O 10 (M 8), O 5 (M 10)]).seq ((ops 0 [O 11 (M 1), O 12 (M 0), O 13 (M 5), O 14 (ixaS 1 (t 12) (t 13)), O 15 (D 14), O 16 (call (t 11) [t 15])]).seq (C2.cond (t 16) ((ops 0 [O 17 (M 5), O 4 (M 17)]).seq ret) skip)))).seq (ops 0 [O 18 (B2 .add (t 8) (N ((1)))), O 8 (M 18)])))).loop)).seq ((ops 0 [O 4 (mov (N ((-1))))]).seq ret))))
theorem is88 : Is Try.prog 88 b88 := Is.mk' Try.func88 (by kernel_rfl)

def b89 : F2 := (F2.mk 16 [RV.t 5] ((ops 0 [O 5 (mov cFal)]).seq ((mixS 1 [O 6 (M 1), O 7 (call (F 48) [t 6]), O 8 (D 2), O 9 (mx (t 8) [c (AV.int IntKind.i64 (1))]), O 10 (B2 .leq (t 7) (t 9)), O 11 (M 10), G 12 11 true (M 0), G 13 11 true (M 1), G 14 11 true (call (F 90) [t 12, t 13]), O 15 (pick (t 11) (t 14) cFal), O 5 (M 15)] [(0, 0), (2, 0), (3, 0), (1, 1), (4, 0), (5, 0), (6, 0), (7, 0), (8, 2), (9, 0), (10, 0)]).seq ret)))
theorem is89 : Is Try.prog 89 b89 := Is.mk' Try.func89 (by kernel_rfl)

def b90 : F2 := (F2.mk 9 [RV.t 4] ((ops 0 [O 2 (box (t 0)), O 4 (mov cFal)]).seq ((ops 0 [O 5 (M 1), O 6 (mkfn 117 [t 2]), O 7 (call (F 67) [t 5, t 6]), O 8 (un UnOp.not (t 7)), O 4 (M 8)]).seq ret)))
theorem is90 : Is Try.prog 90 b90 := Is.mk' Try.func90 (by kernel_rfl)

def b109 : F2 := (F2.mk 25 [RV.t 2] ((ops 0 [O 2 (mov (N ((0))))]).seq (((ops 0 [O 3 (M 0), O 4 (B2 .geq (t 3) (c (AV.int IntKind.u64 (4294967296))))]).seq (C2.cond (t 4) ((ops 0 [O 5 (M 0), O 6 (B2 .shr (t 5) (c (AV.int IntKind.u64 (32)))), O 0 (M 6)]).seq (ops 0 [O 2 (mov (N ((32))))])) skip)).seq (((ops 0 [O 7 (M 0), O 8 (B2 .geq (t 7) (c (AV.int IntKind.u64 (65536))))]).seq (C2.cond (t 8) ((ops 0 [O 9 (M 0), O 10 (B2 .shr (t 9) (c (AV.int IntKind.u64 (16)))), O 0 (M 10)]).seq (ops 0 [O 11 (M 2), O 12 (B2 .add (t 11) (N ((16)))), O 2 (M 12)])) skip)).seq (((ops 0 [O 13 (M 0), O 14 (B2 .geq (t 13) (c (AV.int IntKind.u64 (256))))]).seq (C2.cond (t 14) ((ops 0 [O 15 (M 0), O 16 (B2 .shr (t 15) (c (AV.int IntKind.u64 (8)))), O 0 (M 16)]).seq (ops 0 [O 17 (M 2), O 18 (B2 .add (t 17) (N ((8)))), O 2 (M 18)])) skip)).seq ((ops 0 [O 19 (M 2), O 20 (M 0), O 21 (conv IntKind.u8 (t 20)), O 22 (ixStr (c (AV.str (ByteArray.mk (Array.mk [0, 1, 2, 2, 3, 3, 3, 3, 4, 4, 4, 4, 4, 4, 4, 4, 5, 5, 5, 5, 5, 5, 5, 5, 5, 5, 5, 5, 5, 5, 5, 5, 6, 6, 6, 6, 6, 6, 6, 6, 6, 6, 6, 6, 6, 6, 6, 6, 6, 6, 6, 6, 6, 6, 6, 6, 6, 6, 6, 6, 6, 6, 6, 6, 7, 7, 7, 7, 7, 7, 7, 7, 7, 7, 7, 7, 7, 7, 7, 7, 7, 7, 7, 7, 7, 7, 7, 7, 7, 7, 7, 7, 7, 7, 7, 7, 7, 7, 7, 7, 7, 7, 7, 7, 7, 7, 7, 7, 7, 7, 7, 7, 7, 7, 7, 7, 7, 7, 7, 7, 7, 7, 7, 7, 7, 7, 7, 7, 8, 8, 8, 8, 8, 8, 8, 8, 8, 8, 8, 8, 8, 8, 8, 8, 8, 8, 8, 8, 8, 8, 8, 8, 8, 8, 8, 8, 8, 8, 8, 8, 8, 8, 8, 8, 8, 8, 8, 8, 8, 8, 8, 8, 8, 8, 8, 8, 8, 8, 8, 8, 8, 8, 8, 8, 8, 8, 8, 8, 8, 8, 8, 8, 8, 8, 8, 8, 8, 8, 8, 8, 8, 8, 8, 8, 8, 8, 8, 8, 8, 8, 8, 8, 8, 8, 8, 8, 8, 8, 8, 8, 8, 8, 8, 8, 8, 8, 8, 8, 8, 8, 8, 8, 8, 8, 8, 8, 8, 8, 8, 8, 8, 8, 8, 8, 8, 8, 8, 8, 8, 8, 8, 8, 8, 8, 8, 8])))) (t 21)), O 23 (conv IntKind.i64 (t 22)), O 24 (B2 .add (t 19) (t 23)), O 2 (M 24)]).seq ret))))))
theorem is109 : Is Try.prog 109 b109 := Is.mk' Try.func109 (by kernel_rfl)

def b110 : F2 := (F2.mk 5 [RV.t 2] ((ops 0 [O 2 (mov (c AV.esl))]).seq ((ops 0 [O 3 (M 0), O 4 (call (F 127) [c AV.esl, t 3]), O 2 (M 4)]).seq ret)))
theorem is110 : Is Try.prog 110 b110 := Is.mk' Try.func110 (by kernel_rfl)

def b111 : F2 := (F2.mk 11 [] ((ops 0 [O 3 (M 0), O 4 (lenS (t 3)), O 2 (M 4)]).seq (ops 0 [O 5 (M 0), O 6 (M 2), O 7 (M 2), O 8 (conv IntKind.u64 (t 7)), O 9 (call (F 75) [t 8]), O 10 (call (F 128) [t 5, c (AV.int IntKind.i64 (0)), t 6, t 9])])))
theorem is111 : Is Try.prog 111 b111 := Is.mk' Try.func111 (by kernel_rfl)

def b112 : F2 := (F2.mk 14 [] ((ops 0 [O 4 (D 1), O 5 (mrng (t 4))]).seq (block 0 ((ops 0 [O 6 (mnxt (t 5)), O 7 (ext (t 6) 0)]).seq ((C2.cond (t 7) skip (exit 0)).seq (block 1 ((ops 0 [O 8 (ment (t 5)), O 9 (ext (t 8) 0), O 3 (M 9)]).seq ((ops 0 [O 10 (M 0), O 11 (M 3), O 12 (call (t 10) [t 11]), O 13 (un UnOp.not (t 12))]).seq (C2.cond (t 13) ret skip)))))).loop)))
theorem is112 : Is Try.prog 112 b112 := Is.mk' Try.func112 (by kernel_rfl)

def b113 : F2 := (F2.mk 38 [] ((ops 0 [O 6 (D 1), O 7 (mks 1 8 [AV.int IntKind.i64 (0)] (t 6) (t 6)), O 4 (M 7)]).seq (block 0 (block 1 (((ops 0 [O 8 (M 0), O 9 (M 4), O 10 (call (t 8) [t 9]), O 11 (un UnOp.not (t 10))]).seq (C2.cond (t 11) ret skip)).seq ((ops 0 [O 12 (D 1), O 13 (B2 .sub (t 12) (N ((1)))), O 5 (M 13)]).seq ((block 2 (((ops 1 [O 14 (M 5), O 15 (B2 .geq (t 14) (N ((0)))), O 16 (M 15), G 17 16 true (M 4), G 18 16 true (M 5), G 19 16 true (ixaS 1 (t 17) (t 18)), G 20 16 true (D 19), G 21 16 true (D 2), G 22 16 true (B2 .sub (t 21) (N ((1)))), G 23 16 true (B2 .eql (t 20) (t 22)), O 24 (pick (t 16) (t 23) cFal)]).seq (C2.cond (t 24) skip (exit 2))).seq (block 3 ((ops 0 [O 25 (M 4), O 26 (M 5), O 27 (ixaS 1 (t 25) (t 26)), Op2.mk none none (Ins.st 1 (t 27) (N ((0))))]).seq (ops 0 [O 28 (M 5), O 29 (B2 .sub (t 28) (N ((1)))), O 5 (M 29)])))).loop).seq (((ops 0 [O 30 (M 5), O 31 (B2 .lss (t 30) (N ((0))))]).seq (C2.cond (t 31) ret skip)).seq (ops 0 [O 32 (M 4), O 33 (M 5), O 34 (ixaS 1 (t 32) (t 33)), O 35 (D 34), O 36 (B2 .add (t 35) (N ((1)))), O 37 (ixaS 1 (t 32) (t 33)), Op2.mk none none (Ins.st 1 (t 37) (t 36))])))))).loop)))
theorem is113 : Is Try.prog 113 b113 := Is.mk' Try.func113 (by kernel_rfl)

def b114 : F2 := (F2.mk 23 [RV.t 2] ((ops 0 [O 2 (mov (N ((0))))]).seq ((ops 0 [O 3 (mov (N ((0))))]).seq (((ops 0 [O 4 (mov (N ((0))))]).seq (block 0 (((ops 0 [O 5 (M 4), O 6 (M 0), O 7 (lenS (t 6)), O 8 (B2 .lss (t 5) (t 7))]).seq (C2.cond (t 8) skip (exit 0))).seq ((block 1 ((mix 1 [O 11 (M 0), O 12 (M 4), O 13 (sls 1 (t 11) none (some (t 12)) none), O 14 (M 0), O 15 (M 4), O 16 (ixaS 1 (t 14) (t 15)), O 17 (D 16), O 18 (call (F 129) [t 13, t 17]), O 19 (un UnOp.not (t 18))] [0, 1, 2, 3, 4, 5, 6, 7, 8]).seq (C2.cond (t 19) (ops 0 [O 20 (M 3), O 21 (B2 .add (t 20) (N ((1)))), O 3 (M 21)]) skip))).seq (ops 0 [O 9 (M 4), O 10 (B2 .add (t 9) (N ((1)))), O 4 (M 10)]))).loop)).seq ((ops 0 [O 22 (M 3), O 2 (M 22)]).seq ret)))))
theorem is114 : Is Try.prog 114 b114 := Is.mk' Try.func114 (by kernel_rfl)

def b115 : F2 := (F2.mk 78 [RV.t 6] ((ops 0 [O 3 (box (t 0)), O 6 (mov cFal)]).seq (((ops 0 [O 9 (fa 0 (t 3)), O 10 (D 9)]).seq (block 0 ((ops 0 [O 12 (B2 .eql (t 10) (N ((0)))), O 11 (M 12)]).seq (C2.cond (t 11) ((ops 0 [O 13 (ldn 5 (t 3)), O 14 (M 1), O 15 (M 2), O 16 (call (F 130) [t 13, t 14, t 15]), O 6 (M 16)]).seq ret) ((ops 0 [O 18 (B2 .eql (t 10) (N ((1)))), O 17 (M 18)]).seq (C2.cond (t 17) ((ops 0 [O 19 (M 2), O 20 (call (F 131) [t 19, c (AV.int IntKind.i64 (0))]), O 21 (M 20), G 22 21 false (M 2), G 23 21 false (call (F 131) [t 22, c (AV.int IntKind.i64 (1))]), G 24 21 false (M 23), G 25 24 true (M 1), G 26 24 true (call (F 129) [t 25, c (AV.int IntKind.i64 (0))]), G 27 24 true (un UnOp.not (t 26)), G 28 21 false (pick (t 24) (t 27) cFal), O 29 (pick (t 21) cTru (t 28)), O 6 (M 29)]).seq ret) ((ops 0 [O 31 (B2 .eql (t 10) (N ((2)))), O 30 (M 31)]).seq (C2.cond (t 30) ((ops 0 [O 32 (M 2), O 33 (call (F 114) [t 32]), O 34 (B2 .eql (t 33) (N ((1)))), O 35 (M 34), G 36 35 true (M 1), G 37 35 true (M 2), G 38 35 true (call (F 132) [t 36, t 37]), O 39 (pick (t 35) (t 38) cFal), O 6 (M 39)]).seq ret) ((ops 0 [O 41 (B2 .eql (t 10) (N ((3)))), O 40 (M 41)]).seq (C2.cond (t 40) ((ops 0 [O 42 (ldn 5 (t 3)), O 43 (M 2), O 44 (call (F 133) [t 42, t 43]), O 6 (M 44)]).seq ret) ((ops 0 [O 46 (B2 .eql (t 10) (N ((4)))), O 45 (M 46)]).seq (C2.cond (t 45) ((ops 0 [O 7 (mov (N ((0))))]).seq (((ops 0 [O 8 (mov (N ((0))))]).seq (block 1 (((ops 0 [O 47 (M 8), O 48 (M 2), O 49 (lenS (t 48)), O 50 (B2 .lss (t 47) (t 49))]).seq (C2.cond (t 50) skip (exit 1))).seq ((block 2 (ops 0 [O 53 (M 7), O 54 (M 2), O 55 (M 8), O 56 (ixaS 1 (t 54) (t 55)), O 57 (D 56), O 58 (B2 .add (t 53) (t 57)), O 7 (M 58)])).seq (ops 0 [O 51 (M 8), O 52 (B2 .add (t 51) (N ((1)))), O 8 (M 52)]))).loop)).seq ((ops 0 [O 59 (M 7), O 60 (B2 .eql (t 59) (N ((1)))), O 6 (M 60)]).seq ret))) ((ops 0 [O 62 (B2 .eql (t 10) (N ((5)))), O 61 (M 62)]).seq (C2.cond (t 61) ((ops 0 [O 63 (M 2), O 64 (call (F 114) [t 63]), O 65 (M 2), O 66 (lenS (t 65)), O 67 (B2 .eql (t 64) (t 66)), O 6 (M 67)]).seq ret) skip)))))))))))))).seq ((mixS 1 [O 68 (M 2), O 69 (call (F 114) [t 68]), O 70 (fa 4 (t 3)), O 71 (D 70), O 72 (B2 .leq (t 69) (t 71)), O 73 (M 72), G 74 73 true (M 1), G 75 73 true (M 2), G 76 73 true (call (F 132) [t 74, t 75]), O 77 (pick (t 73) (t 76) cFal), O 6 (M 77)] [(0, 0), (2, 0), (3, 0), (1, 1), (4, 0), (5, 0), (6, 0), (7, 0), (8, 2), (9, 0), (10, 0)]).seq ret))))
theorem is115 : Is Try.prog 115 b115 := Is.mk' Try.func115 (by kernel_rfl)

def b116 : F2 := (F2.mk 33 [RV.t 6] ((ops 0 [O 3 (box (t 0)), O 6 (mov cFal)]).seq (((ops 0 [O 7 (fa 0 (t 3)), O 8 (D 7)]).seq (block 0 ((ops 0 [O 10 (B2 .eql (t 8) (N ((1)))), O 9 (M 10)]).seq (C2.cond (t 9) ((ops 0 [O 11 (M 1), O 12 (call (F 129) [t 11, c (AV.int IntKind.i64 (0))]), O 13 (M 12), G 14 13 true (M 2), G 15 13 true (call (F 131) [t 14, c (AV.int IntKind.i64 (0))]), O 16 (pick (t 13) (t 15) cFal), O 17 (M 16), G 18 17 false (M 1), G 19 17 false (call (F 129) [t 18, c (AV.int IntKind.i64 (0))]), G 20 17 false (un UnOp.not (t 19)), G 21 17 false (M 20), G 22 21 true (M 2), G 23 21 true (call (F 131) [t 22, c (AV.int IntKind.i64 (1))]), G 24 17 false (pick (t 21) (t 23) cFal), O 25 (pick (t 17) cTru (t 24)), O 6 (M 25)]).seq ret) ((ops 0 [O 27 (B2 .eql (t 8) (N ((3)))), O 26 (M 27)]).seq (C2.cond (t 26) ((ops 0 [O 28 (M 2), O 29 (M 1), O 30 (ixaS 1 (t 29) (N ((0)))), O 31 (D 30), O 32 (call (F 131) [t 28, t 31]), O 6 (M 32)]).seq ret) skip)))))).seq ((ops 0 [O 6 (mov cFal)]).seq ret))))
theorem is116 : Is Try.prog 116 b116 := Is.mk' Try.func116 (by kernel_rfl)

def b117 : F2 := (F2.mk 8 [RV.t 3] ((ops 0 [O 3 (mov cFal)]).seq ((ops 0 [O 4 (D 1), O 5 (M 0), O 6 (call (F 28) [t 4, t 5]), O 7 (un UnOp.not (t 6)), O 3 (M 7)]).seq ret)))
theorem is117 : Is Try.prog 117 b117 := Is.mk' Try.func117 (by kernel_rfl)

def b127 : F2 := (F2.mk 13 [RV.t 4] ((ops 0 [O 2 (box (t 0)), O 4 (mov (c AV.esl))]).seq (((ops 0 [O 6 (M 1)]).seq (block 0 (rangeF (t 6) [7] (ops 0 [O 5 (M 7)]) (block 1 (ops 0 [O 8 (D 2), O 9 (M 5), O 10 (bldS 1 1 [AV.str (ByteArray.mk (Array.mk []))] [(0, 1, t 9)]), O 11 (app 1 16 (t 8) (t 10)), Op2.mk none none (Ins.st 1 (t 2) (t 11))]))))).seq ((ops 0 [O 12 (D 2), O 4 (M 12)]).seq ret))))
theorem is127 : Is Try.prog 127 b127 := Is.mk' Try.func127 (by kernel_rfl)

def b128 : F2 := (F2.mk 134 [] ((ops 0 [O 8 (mov cTru)]).seq ((ops 0 [O 9 (mov cTru)]).seq (block 0 (block 1 ((ops 0 [O 19 (M 2), O 20 (M 1), O 21 (B2 .sub (t 19) (t 20)), O 10 (M 21)]).seq (((ops 0 [O 22 (M 10), O 23 (B2 .leq (t 22) (N ((12))))]).seq (C2.cond (t 23) ((ops 0 [O 24 (M 0), O 25 (M 1), O 26 (M 2), O 27 (call (F 139) [t 24, t 25, t 26])]).seq ret) skip)).seq (((ops 0 [O 28 (M 3), O 29 (B2 .eql (t 28) (N ((0))))]).seq (C2.cond (t 29) ((ops 0 [O 30 (M 0), O 31 (M 1), O 32 (M 2), O 33 (call (F 140) [t 30, t 31, t 32])]).seq ret) skip)).seq (((ops 0 [O 34 (M 8), O 35 (un UnOp.not (t 34))]).seq (C2.cond (t 35) ((ops 0 [O 36 (M 0), O 37 (M 1), O 38 (M 2), O 39 (call (F 141) [t 36, t 37, t 38])]).seq (ops 0 [O 40 (M 3), O 41 (B2 .sub (t 40) (N ((1)))), O 3 (M 41)])) skip)).seq ((ops 0 [O 43 (M 0), O 44 (M 1), O 45 (M 2), O 46 (call (F 142) [t 43, t 44, t 45]), O 42 (M 46), O 47 (ext (t 42) 0), O 48 (ext (t 42) 1), O 11 (M 47), O 12 (M 48)]).seq (((ops 0 [O 49 (M 12), O 50 (B2 .eql (t 49) (N ((2))))]).seq (C2.cond (t 50) ((ops 0 [O 51 (M 0), O 52 (M 1), O 53 (M 2), O 54 (call (F 143) [t 51, t 52, t 53])]).seq ((ops 0 [O 55 (M 2), O 56 (B2 .sub (t 55) (N ((1)))), O 57 (M 11), O 58 (M 1), O 59 (B2 .sub (t 57) (t 58)), O 60 (B2 .sub (t 56) (t 59)), O 11 (M 60)]).seq (ops 0 [O 12 (mov (N ((1))))]))) skip)).seq (((ops 0 [O 61 (M 8), O 62 (M 61), G 63 62 true (M 9), O 64 (pick (t 62) (t 63) cFal), O 65 (M 64), G 66 65 true (M 12), G 67 65 true (B2 .eql (t 66) (N ((1)))), O 68 (pick (t 65) (t 67) cFal)]).seq (C2.cond (t 68) ((ops 0 [O 69 (M 0), O 70 (M 1), O 71 (M 2), O 72 (call (F 144) [t 69, t 70, t 71])]).seq (C2.cond (t 72) ret skip)) skip)).seq (((mixS 1 [O 73 (M 1), O 74 (B2 .gtr (t 73) (N ((0)))), O 75 (M 74), G 76 75 true (M 0), G 77 75 true (M 1), G 78 75 true (B2 .sub (t 77) (N ((1)))), G 79 75 true (ixaS 1 (t 76) (t 78)), G 80 75 true (D 79), G 81 75 true (M 0), G 82 75 true (M 11), G 83 75 true (ixaS 1 (t 81) (t 82)), G 84 75 true (D 83), G 85 75 true (call (F 145) [t 80, t 84]), G 86 75 true (un UnOp.not (t 85)), O 87 (pick (t 75) (t 86) cFal)] [(0, 0), (1, 0), (2, 0), (3, 0), (4, 0), (5, 0), (6, 0), (7, 0), (8, 0), (9, 0), (10, 0), (11, 0), (12, 2), (13, 0), (14, 0)]).seq (C2.cond (t 87) ((ops 0 [O 88 (M 0), O 89 (M 1), O 90 (M 2), O 91 (M 11), O 92 (call (F 146) [t 88, t 89, t 90, t 91]), O 13 (M 92)]).seq ((ops 0 [O 93 (M 13), O 1 (M 93)]).seq (exit 1))) skip)).seq ((ops 0 [O 95 (M 0), O 96 (M 1), O 97 (M 2), O 98 (M 11), O 99 (call (F 147) [t 95, t 96, t 97, t 98]), O 94 (M 99), O 100 (ext (t 94) 0), O 101 (ext (t 94) 1), O 14 (M 100), O 15 (M 101)]).seq ((ops 0 [O 102 (M 15), O 9 (M 102)]).seq ((ops 0 [O 103 (M 14), O 104 (M 1), O 105 (B2 .sub (t 103) (t 104)), O 106 (M 2), O 107 (M 14), O 108 (B2 .sub (t 106) (t 107)), O 16 (M 105), O 17 (M 108)]).seq ((ops 0 [O 109 (M 10), O 110 (B2 .quo (t 109) (N ((8)))), O 18 (M 110)]).seq ((ops 0 [O 111 (M 16), O 112 (M 17), O 113 (B2 .lss (t 111) (t 112))]).seq (C2.cond (t 113) ((ops 0 [O 114 (M 16), O 115 (M 18), O 116 (B2 .geq (t 114) (t 115)), O 8 (M 116)]).seq ((ops 0 [O 117 (M 0), O 118 (M 1), O 119 (M 14), O 120 (M 3), O 121 (call (F 128) [t 117, t 118, t 119, t 120])]).seq (ops 0 [O 122 (M 14), O 123 (B2 .add (t 122) (N ((1)))), O 1 (M 123)]))) ((ops 0 [O 124 (M 17), O 125 (M 18), O 126 (B2 .geq (t 124) (t 125)), O 8 (M 126)]).seq ((ops 0 [O 127 (M 0), O 128 (M 14), O 129 (B2 .add (t 128) (N ((1)))), O 130 (M 2), O 131 (M 3), O 132 (call (F 128) [t 127, t 129, t 130, t 131])]).seq (ops 0 [O 133 (M 14), O 2 (M 133)])))))))))))))))))).loop))))
theorem is128 : Is Try.prog 128 b128 := Is.mk' Try.func128 (by kernel_rfl)

def b129 : F2 := (F2.mk 18 [RV.t 4] ((ops 0 [O 4 (mov cFal)]).seq (((ops 0 [O 5 (mov (N ((0))))]).seq (block 0 (((ops 0 [O 6 (M 5), O 7 (M 0), O 8 (lenS (t 7)), O 9 (B2 .lss (t 6) (t 8))]).seq (C2.cond (t 9) skip (exit 0))).seq ((block 1 ((ops 0 [O 12 (M 0), O 13 (M 5), O 14 (ixaS 1 (t 12) (t 13)), O 15 (D 14), O 16 (M 1), O 17 (B2 .eql (t 15) (t 16))]).seq (C2.cond (t 17) ((ops 0 [O 4 (mov cTru)]).seq ret) skip))).seq (ops 0 [O 10 (M 5), O 11 (B2 .add (t 10) (N ((1)))), O 5 (M 11)]))).loop)).seq ((ops 0 [O 4 (mov cFal)]).seq ret))))
theorem is129 : Is Try.prog 129 b129 := Is.mk' Try.func129 (by kernel_rfl)

def b130 : F2 := (F2.mk 22 [RV.t 6] ((ops 0 [O 3 (box (t 0)), O 6 (mov cFal)]).seq (((ops 0 [O 7 (M 1), O 8 (call (F 114) [t 7]), O 9 (B2 .eql (t 8) (N ((1))))]).seq (C2.cond (t 9) ((mixS 1 [O 10 (M 2), O 11 (M 1), O 12 (ixaS 1 (t 11) (N ((0)))), O 13 (D 12), O 14 (fa 3 (t 3)), O 15 (D 14), O 16 (B2 .sub (t 15) (N ((1)))), O 17 (B2 .mul (t 13) (t 16)), O 18 (call (F 131) [t 10, t 17]), O 6 (M 18)] [(0, 0), (1, 0), (2, 0), (3, 0), (4, 0), (5, 0), (6, 0), (7, 0), (8, 2), (9, 0)]).seq ret) skip)).seq ((ops 0 [O 19 (M 2), O 20 (call (F 148) [t 19]), O 21 (B2 .leq (t 20) (N ((1)))), O 6 (M 21)]).seq ret))))
theorem is130 : Is Try.prog 130 b130 := Is.mk' Try.func130 (by kernel_rfl)

def b131 : F2 := (F2.mk 15 [RV.t 4] ((ops 0 [O 4 (mov cFal)]).seq ((ops 0 [O 5 (M 0), O 6 (call (F 114) [t 5]), O 7 (B2 .eql (t 6) (N ((1)))), O 8 (M 7), G 9 8 true (M 0), G 10 8 true (ixaS 1 (t 9) (N ((0)))), G 11 8 true (D 10), G 12 8 true (M 1), G 13 8 true (B2 .eql (t 11) (t 12)), O 14 (pick (t 8) (t 13) cFal), O 4 (M 14)]).seq ret)))
theorem is131 : Is Try.prog 131 b131 := Is.mk' Try.func131 (by kernel_rfl)

def b132 : F2 := (F2.mk 19 [RV.t 4] ((ops 0 [O 4 (mov cFal)]).seq (((ops 0 [O 5 (mov (N ((0))))]).seq (block 0 (((ops 0 [O 6 (M 5), O 7 (M 1), O 8 (lenS (t 7)), O 9 (B2 .lss (t 6) (t 8))]).seq (C2.cond (t 9) skip (exit 0))).seq ((block 1 ((ops 0 [O 12 (M 0), O 13 (M 1), O 14 (M 5), O 15 (ixaS 1 (t 13) (t 14)), O 16 (D 15), O 17 (call (F 129) [t 12, t 16]), O 18 (un UnOp.not (t 17))]).seq (C2.cond (t 18) ((ops 0 [O 4 (mov cFal)]).seq ret) skip))).seq (ops 0 [O 10 (M 5), O 11 (B2 .add (t 10) (N ((1)))), O 5 (M 11)]))).loop)).seq ((ops 0 [O 4 (mov cTru)]).seq ret))))
theorem is132 : Is Try.prog 132 b132 := Is.mk' Try.func132 (by kernel_rfl)

def b133 : F2 := (F2.mk 45 [RV.t 4] ((ops 0 [O 2 (box (t 0)), O 4 (mov cFal)]).seq (((ops 0 [O 5 (mov (N ((0))))]).seq (block 0 (((ops 0 [O 7 (M 5), O 8 (M 1), O 9 (lenS (t 8)), O 10 (B2 .lss (t 7) (t 9))]).seq (C2.cond (t 10) skip (exit 0))).seq ((block 1 ((ops 0 [O 6 (mov (N ((0))))]).seq (block 2 (((ops 0 [O 13 (M 6), O 14 (M 5), O 15 (B2 .lss (t 13) (t 14))]).seq (C2.cond (t 15) skip (exit 2))).seq ((block 3 ((ops 1 [O 18 (M 1), O 19 (M 5), O 20 (ixaS 1 (t 18) (t 19)), O 21 (D 20), O 22 (fa 2 (t 2)), O 23 (D 22), O 24 (B2 .lss (t 21) (t 23)), O 25 (M 24), G 26 25 true (M 1), G 27 25 true (M 6), G 28 25 true (ixaS 1 (t 26) (t 27)), G 29 25 true (D 28), G 30 25 true (fa 2 (t 2)), G 31 25 true (D 30), G 32 25 true (B2 .lss (t 29) (t 31)), O 33 (pick (t 25) (t 32) cFal), O 34 (M 33), G 35 34 true (M 1), G 36 34 true (M 5), G 37 34 true (ixaS 1 (t 35) (t 36)), G 38 34 true (D 37), G 39 34 true (M 1), G 40 34 true (M 6), G 41 34 true (ixaS 1 (t 39) (t 40)), G 42 34 true (D 41), G 43 34 true (B2 .neq (t 38) (t 42)), O 44 (pick (t 34) (t 43) cFal)]).seq (C2.cond (t 44) ((ops 0 [O 4 (mov cFal)]).seq ret) skip))).seq (ops 0 [O 16 (M 6), O 17 (B2 .add (t 16) (N ((1)))), O 6 (M 17)]))).loop))).seq (ops 0 [O 11 (M 5), O 12 (B2 .add (t 11) (N ((1)))), O 5 (M 12)]))).loop)).seq ((ops 0 [O 4 (mov cTru)]).seq ret))))
theorem is133 : Is Try.prog 133 b133 := Is.mk' Try.func133 (by kernel_rfl)

def b139 : F2 := (F2.mk 49 [] ((ops 0 [O 8 (M 1), O 9 (B2 .add (t 8) (N ((1)))), O 6 (M 9)]).seq (block 0 (((ops 0 [O 10 (M 6), O 11 (M 2), O 12 (B2 .lss (t 10) (t 11))]).seq (C2.cond (t 12) skip (exit 0))).seq ((block 1 ((ops 0 [O 15 (M 6), O 7 (M 15)]).seq (block 2 (((mixS 1 [O 16 (M 7), O 17 (M 1), O 18 (B2 .gtr (t 16) (t 17)), O 19 (M 18), G 20 19 true (M 0), G 21 19 true (M 7), G 22 19 true (ixaS 1 (t 20) (t 21)), G 23 19 true (D 22), G 24 19 true (M 0), G 25 19 true (M 7), G 26 19 true (B2 .sub (t 25) (N ((1)))), G 27 19 true (ixaS 1 (t 24) (t 26)), G 28 19 true (D 27), G 29 19 true (call (F 145) [t 23, t 28]), O 30 (pick (t 19) (t 29) cFal)] [(0, 0), (1, 0), (2, 0), (3, 0), (4, 0), (5, 0), (6, 0), (7, 0), (8, 0), (9, 0), (10, 0), (11, 0), (12, 0), (13, 2), (14, 0)]).seq (C2.cond (t 30) skip (exit 2))).seq ((block 3 (ops 1 [O 33 (M 0), O 34 (M 7), O 35 (M 0), O 36 (M 7), O 37 (B2 .sub (t 36) (N ((1)))), O 38 (M 0), O 39 (M 7), O 40 (B2 .sub (t 39) (N ((1)))), O 41 (ixaS 1 (t 38) (t 40)), O 42 (D 41), O 43 (M 0), O 44 (M 7), O 45 (ixaS 1 (t 43) (t 44)), O 46 (D 45), O 47 (ixaS 1 (t 33) (t 34)), Op2.mk none none (Ins.st 1 (t 47) (t 42)), O 48 (ixaS 1 (t 35) (t 37)), Op2.mk none none (Ins.st 1 (t 48) (t 46))])).seq (ops 0 [O 31 (M 7), O 32 (B2 .sub (t 31) (N ((1)))), O 7 (M 32)]))).loop))).seq (ops 0 [O 13 (M 6), O 14 (B2 .add (t 13) (N ((1)))), O 6 (M 14)]))).loop)))
theorem is139 : Is Try.prog 139 b139 := Is.mk' Try.func139 (by kernel_rfl)

def b145 : F2 := (F2.mk 17 [RV.t 4] ((ops 0 [O 4 (mov cFal)]).seq ((ops 0 [O 5 (M 0), O 6 (call (F 153) [t 5]), O 7 (M 6), G 8 7 true (M 1), G 9 7 true (call (F 153) [t 8]), G 10 7 true (un UnOp.not (t 9)), O 11 (pick (t 7) (t 10) cFal), O 12 (M 11), G 13 12 false (M 0), G 14 12 false (M 1), G 15 12 false (B2 .lss (t 13) (t 14)), O 16 (pick (t 12) cTru (t 15)), O 4 (M 16)]).seq ret)))
theorem is145 : Is Try.prog 145 b145 := Is.mk' Try.func145 (by kernel_rfl)

def b148 : F2 := (F2.mk 33 [RV.t 2] ((ops 0 [O 2 (mov (N ((0))))]).seq ((ops 1 [O 6 (M 0), O 7 (ixaS 1 (t 6) (N ((0)))), O 8 (D 7), O 9 (M 0), O 10 (ixaS 1 (t 9) (N ((0)))), O 11 (D 10), O 3 (M 8), O 4 (M 11)]).seq (((ops 0 [O 5 (mov (N ((0))))]).seq (block 0 (((ops 0 [O 12 (M 5), O 13 (M 0), O 14 (lenS (t 13)), O 15 (B2 .lss (t 12) (t 14))]).seq (C2.cond (t 15) skip (exit 0))).seq ((block 1 (ops 1 [O 18 (M 3), O 19 (M 0), O 20 (M 5), O 21 (ixaS 1 (t 19) (t 20)), O 22 (D 21), O 23 (mn (t 18) [t 22]), O 24 (M 4), O 25 (M 0), O 26 (M 5), O 27 (ixaS 1 (t 25) (t 26)), O 28 (D 27), O 29 (mx (t 24) [t 28]), O 3 (M 23), O 4 (M 29)])).seq (ops 0 [O 16 (M 5), O 17 (B2 .add (t 16) (N ((1)))), O 5 (M 17)]))).loop)).seq ((ops 0 [O 30 (M 4), O 31 (M 3), O 32 (B2 .sub (t 30) (t 31)), O 2 (M 32)]).seq ret)))))
theorem is148 : Is Try.prog 148 b148 := Is.mk' Try.func148 (by kernel_rfl)

def b153 : F2 := (F2.mk 6 [RV.t 2] ((ops 0 [O 2 (mov cFal)]).seq ((ops 0 [O 3 (M 0), O 4 (M 0), O 5 (B2 .neq (t 3) (t 4)), O 2 (M 5)]).seq ret)))
theorem is153 : Is Try.prog 153 b153 := Is.mk' Try.func153 (by kernel_rfl)

end Go.Proofs.Ytcbkggfipdldaaa

/- P1: contracts of functions and plain laws; for all inputs that the theorems name. -/
namespace Go.Proofs.Ytcbkggfipdldaaa
open Go Go.Abs
open Nat (reduceEqDiff reduceAdd reduceLeDiff)
attribute [local irreducible] awp2 aops2 ains aloop athen bbind obind gbind acond res1 Go.Abs.Fn PCall Go.Abs.Pure SnapArgs SnapL Yl

abbrev Sh {α : Type} (l : List α) : Prop := l.length ≤ 1000000000

theorem between_c (n a b : Int) : Pure Try.prog 81 [.int .i64 n, .int .i64 a, .int .i64 b] (.bool (decide (a ≤ n ∧ n ≤ b))) := by
  refine Pure.of_c2 follows is81 (Nat.le_of_ble_eq_true rfl) ?_
  simp only [b81, O, G, N, M, D, F, B2, cFal, cTru]
  repeat' (first | apply w_seq | apply w_ops0 | apply w_ret | apply a_n | apply o_nil | (apply o_val rfl rfl; (focus ((try simp (disch := omega) only [simB0, ZA, reduceEqDiff, ↓reduceIte, reduceAdd, reduceLeDiff, ZV, reduceCtorEq]); first | with_reducible rfl | (apply s_ite; (focus omega); with_reducible rfl)))) | (apply o_gT; (focus (simp only [simB0, ZA, reduceEqDiff, ↓reduceIte, reduceAdd, reduceLeDiff]; done))) | (apply o_gF; (focus (simp only [simB0, ZA, reduceEqDiff, ↓reduceIte, reduceAdd, reduceLeDiff, or_true, true_or]; done))) | (apply o_gB; (focus ((try simp only [simB0, ZA, reduceEqDiff, ↓reduceIte, reduceAdd, reduceLeDiff]); (try with_reducible rfl); done)); all_goals (intro _hg; (try simp only [ZB] at _hg); try first | exact absurd trivial _hg | (exfalso; omega))) | (refine e_ends rfl ?_) | (apply r_1; (focus (simp only [rv, simB0, ZA, reduceEqDiff, ↓reduceIte, reduceAdd, reduceLeDiff]; with_reducible rfl))))
  all_goals (refine snap_bool ?_; simp [_hg])

theorem more_c (n : Int) : Pure Try.prog 46 [.int .i64 n] (.int .i64 (if 0 ≤ n ∧ n ≤ 8 then n + 1 else 9)) := by
  refine Pure.of_c2 follows is46 (Nat.le_of_ble_eq_true rfl) ?_
  simp only [b46, O, G, N, M, D, F, B2, cFal, cTru]
  repeat' (first | apply w_seq | apply w_ops0 | apply w_skip | apply w_ret | apply a_n | apply a_r | apply o_nil | (apply o_val rfl rfl; (focus ((try simp (disch := omega) only [simB0, ZA, reduceEqDiff, ↓reduceIte, reduceAdd, reduceLeDiff, ZV, reduceCtorEq]); first | with_reducible rfl | (apply s_ite; (focus omega); with_reducible rfl)))) | (apply o_callD; (iterate 2 (focus ((try simp only [simB0, ZA, reduceEqDiff, ↓reduceIte, reduceAdd, reduceLeDiff]); (try with_reducible rfl); done))); (focus (first | (exact between_c _ _ _))); (focus ((first | refine snap_plain ?_ rfl | apply snap_data); repeat' (first | exact snapL_nil | apply snapL_i | apply snapL_dat)))) | (apply w_cond; (focus ((try simp only [simB0, ZA, reduceEqDiff, ↓reduceIte, reduceAdd, reduceLeDiff]); (try with_reducible rfl); done)); all_goals (intro _hg; (try simp only [ZB] at _hg); try first | exact absurd trivial _hg | (exfalso; omega))) | (refine e_ends rfl ?_) | (apply r_1; (focus (simp only [rv, simB0, ZA, reduceEqDiff, ↓reduceIte, reduceAdd, reduceLeDiff]; with_reducible rfl))))
  all_goals (refine snap_int ?_)
  · rw [if_neg (by omega)]
  · rw [if_pos (by omega)]

def kinds (l : List Int) : List Int := l.foldl (fun ks v => if v ∈ ks then ks else ks ++ [v]) []
theorem kinds_snoc (l : List Int) (v : Int) : kinds (l ++ [v]) = if v ∈ kinds l then kinds l else kinds l ++ [v] := by unfold kinds; rw [List.foldl_append]; rfl
theorem kinds_len (l : List Int) : (kinds l).length ≤ l.length := by
  suffices h : ∀ (l ks : List Int), (l.foldl (fun ks v => if v ∈ ks then ks else ks ++ [v]) ks).length ≤ ks.length + l.length by simpa [kinds] using h l []
  intro l
  induction l with
  | nil => simp
  | cons a l ih =>
    intro ks
    simp only [List.foldl_cons, List.length_cons]
    refine Nat.le_trans (ih _) ?_
    split <;> simp <;> omega

theorem different_c (l : List Int) (hl : Sh l) : Pure Try.prog 48 [encV l] (.int .i64 (kinds l).length) := by
  refine Pure.of_c2 follows is48 (Nat.le_of_ble_eq_true rfl) ?_
  simp only [b48, O, G, N, M, D, F, B2, cFal, cTru]
  repeat' (first | apply w_seq | apply w_ops0 | apply a_n | apply o_nil | (apply o_val rfl rfl; (focus ((try simp (disch := omega) only [simB0, ZA, reduceEqDiff, ↓reduceIte, reduceAdd, reduceLeDiff, ZV, reduceCtorEq]); first | with_reducible rfl | (apply s_ite; (focus omega); with_reducible rfl)))))
  refine o_mkm ?_
  repeat' (first | apply w_seq | apply w_ops0 | apply w_block | apply a_n | apply o_nil | (apply o_val rfl rfl; (focus ((try simp (disch := omega) only [simB0, ZA, reduceEqDiff, ↓reduceIte, reduceAdd, reduceLeDiff, ZV, reduceCtorEq]); first | with_reducible rfl | (apply s_ite; (focus omega); with_reducible rfl)))) | apply w_loop)
  refine loopI (X := Nat) (fun k => [(3, .mp 0), (7, encV l), (8, .int .i64 l.length), (9, .int .i64 k)]) (fun k H nx => k ≤ l.length ∧ ∃ vs, H 0 = some [.omap ((kinds (l.take k)).map (AV.int .i64)) vs]) (fun k => l.length - k) 0 ⟨Nat.zero_le _, [], rfl⟩ (by simp (disch := omega) only [agr, ZG, reduceEqDiff, ↓reduceIte]) ?_
  rintro k H nx ⟨hk, vs, hH⟩
  repeat' (first | apply w_seq | apply w_ops0 | apply w_block | apply w_skip | apply w_exit | apply a_n | apply a_x | apply o_nil | (apply o_val rfl rfl; (focus ((try simp (disch := omega) only [simB0, ZA, reduceEqDiff, ↓reduceIte, reduceAdd, reduceLeDiff, ZV, reduceCtorEq]); first | with_reducible rfl | (apply s_ite; (focus omega); with_reducible rfl)))) | (apply w_cond; (focus ((try simp only [simB0, ZA, reduceEqDiff, ↓reduceIte, reduceAdd, reduceLeDiff]); (try with_reducible rfl); done)); all_goals (intro _hg; (try simp only [ZB] at _hg); try first | exact absurd trivial _hg | (exfalso; omega))))
  · refine o_mput (by ((try simp only [simB0, ZA, reduceEqDiff, ↓reduceIte, reduceAdd, reduceLeDiff]); (try with_reducible rfl))) hH (x := .c (.bool true)) (by ((try simp only [simB0, ZA, reduceEqDiff, ↓reduceIte, reduceAdd, reduceLeDiff]); (try with_reducible rfl))) rfl rfl (mfind_int _ _) ?_
    repeat' (first | apply w_ops0 | apply a_n | apply o_nil | (apply o_val rfl rfl; (focus ((try simp (disch := omega) only [simB0, ZA, reduceEqDiff, ↓reduceIte, reduceAdd, reduceLeDiff, ZV, reduceCtorEq]); first | with_reducible rfl | (apply s_ite; (focus omega); with_reducible rfl)))))
    refine ⟨k + 1, by omega, ⟨by omega, _, hupd_self'.trans (omap_eq ?_)⟩, by simp (disch := omega) only [agr, ZG, reduceEqDiff, ↓reduceIte]⟩
    rw [take_succ' (by omega), kinds_snoc]
    split <;> simp [msetK]
  · refine o_mlen (by ((try simp only [simB0, ZA, reduceEqDiff, ↓reduceIte, reduceAdd, reduceLeDiff]); (try with_reducible rfl))) hH ?_
    repeat' (first | apply w_ret | apply a_n | apply o_nil | (apply o_val rfl rfl; (focus ((try simp (disch := omega) only [simB0, ZA, reduceEqDiff, ↓reduceIte, reduceAdd, reduceLeDiff, ZV, reduceCtorEq]); first | with_reducible rfl | (apply s_ite; (focus omega); with_reducible rfl)))) | (refine e_ends rfl ?_) | (apply r_1; (focus (simp only [rv, simB0, ZA, reduceEqDiff, ↓reduceIte, reduceAdd, reduceLeDiff]; with_reducible rfl))))
    refine snap_int ?_
    rw [List.take_of_length_le (by omega)]
end Go.Proofs.Ytcbkggfipdldaaa

/- P2: contracts of functions and plain laws; for all inputs that the theorems name. -/
namespace Go.Proofs.Ytcbkggfipdldaaa
open Go Go.Abs
open Nat (reduceEqDiff reduceAdd reduceLeDiff)
attribute [local irreducible] awp2 aops2 ains aloop athen bbind obind gbind acond res1 Go.Abs.Fn PCall Go.Abs.Pure SnapArgs SnapL Yl

def eqv (l : List Int) (v : Int) : Bool := decide ((kinds l).length = 1 ∧ l.getD 0 default = v)

theorem equal_c (l : List Int) (v : Int) (hl : Sh l) : Pure Try.prog 49 [encV l, .int .i64 v] (.bool (eqv l v)) := by
  refine Pure.of_c2 follows is49 (Nat.le_of_ble_eq_true rfl) ?_
  simp only [b49, O, G, N, M, D, F, B2, cFal, cTru]
  have := kinds_len l
  repeat' (first | apply w_seq | apply w_ops0 | apply w_ret | apply a_n | apply o_nil | (apply o_val rfl rfl; (focus ((try simp (disch := omega) only [simB0, ZA, reduceEqDiff, ↓reduceIte, reduceAdd, reduceLeDiff, ZV, reduceCtorEq]); first | with_reducible rfl | (apply s_ite; (focus omega); with_reducible rfl)))) | (apply o_callD; (iterate 2 (focus ((try simp only [simB0, ZA, reduceEqDiff, ↓reduceIte, reduceAdd, reduceLeDiff]); (try with_reducible rfl); done))); (focus (first | (exact different_c _ hl))); (focus ((first | refine snap_plain ?_ rfl | apply snap_data); repeat' (first | exact snapL_nil | apply snapL_i | apply snapL_dat)))) | (apply o_gT; (focus (simp only [simB0, ZA, reduceEqDiff, ↓reduceIte, reduceAdd, reduceLeDiff]; done))) | (apply o_gF; (focus (simp only [simB0, ZA, reduceEqDiff, ↓reduceIte, reduceAdd, reduceLeDiff, or_true, true_or]; done))) | (apply o_gB; (focus ((try simp only [simB0, ZA, reduceEqDiff, ↓reduceIte, reduceAdd, reduceLeDiff]); (try with_reducible rfl); done)); all_goals (intro _hg; (try simp only [ZB] at _hg); try first | exact absurd trivial _hg | (exfalso; omega))) | (refine e_ends rfl ?_) | (apply r_1; (focus (simp only [rv, simB0, ZA, reduceEqDiff, ↓reduceIte, reduceAdd, reduceLeDiff]; with_reducible rfl))))
  all_goals refine snap_bool ?_
  · unfold eqv; simp; omega
  · unfold eqv; simp; omega

def idx (l : List Int) (v : Int) : Int := if v ∈ l then (l.idxOf v : Nat) else -1
theorem idx_at {l : List Int} {v : Int} {k : Nat} (hk : k < l.length) (h : ∀ i, i < k → l.getD i default ≠ v) (hv : v = l.getD k default) : idx l v = k := by
  have e : l.getD k default = l[k] := by simp [List.getD, hk]
  have hm : v ∈ l := by rw [hv, e]; exact List.getElem_mem hk
  unfold idx; rw [if_pos hm]
  have h1 : l.idxOf v ≤ k := by
    by_cases hlt : l.idxOf v ≤ k
    · exact hlt
    · exfalso
      have := List.not_of_lt_findIdx (xs := l) (p := (· == v)) (i := k) (by simp only [List.idxOf] at hlt; omega)
      rw [e] at hv; subst hv; simp at this
  have h2 : k ≤ l.idxOf v := by
    by_cases hlt : k ≤ l.idxOf v
    · exact hlt
    · exfalso
      have hi := List.idxOf_lt_length_iff.2 hm
      have := h (l.idxOf v) (by omega)
      apply this
      simp [List.getD, hi]
  omega
theorem idx_none {l : List Int} {v : Int} (h : ∀ i, i < l.length → l.getD i default ≠ v) : idx l v = -1 := by
  unfold idx; rw [if_neg]
  intro hm
  obtain ⟨i, hi, e⟩ := List.getElem_of_mem hm
  exact h i hi (by simp [List.getD, hi, e])

theorem index_c (l : List Int) (v : Int) (hl : Sh l) : Pure Try.prog 72 [encV l, .int .i64 v] (.int .i64 (idx l v)) := by
  refine Pure.of_c2 follows is72 (Nat.le_of_ble_eq_true rfl) ?_
  simp only [b72, O, G, N, M, D, F, B2, cFal, cTru]
  repeat' (first | apply w_seq | apply w_ops0 | apply w_block | apply a_n | apply o_nil | (apply o_val rfl rfl; (focus ((try simp (disch := omega) only [simB0, ZA, reduceEqDiff, ↓reduceIte, reduceAdd, reduceLeDiff, ZV, reduceCtorEq]); first | with_reducible rfl | (apply s_ite; (focus omega); with_reducible rfl)))) | apply w_loop)
  refine loop0 (X := Nat) (fun k => [(0, encV l), (1, .int .i64 v), (7, .int .i64 l.length), (8, .int .i64 k)]) (fun k => k ≤ l.length ∧ ∀ i, i < k → l.getD i default ≠ v) (fun k => l.length - k) 0 ⟨Nat.zero_le _, by simp⟩ (by simp (disch := omega) only [agr, ZG, reduceEqDiff, ↓reduceIte]) ?_
  rintro k ⟨h1, h2⟩
  repeat' (first | apply w_seq | apply w_ops0 | apply w_block | apply w_skip | apply w_exit | apply w_ret | apply a_n | apply a_x | apply a_r | apply o_nil | (apply o_val rfl rfl; (focus ((try simp (disch := omega) only [simB0, ZA, reduceEqDiff, ↓reduceIte, reduceAdd, reduceLeDiff, ZV, reduceCtorEq]); first | with_reducible rfl | (apply s_ite; (focus omega); with_reducible rfl)))) | (apply w_cond; (focus ((try simp only [simB0, ZA, reduceEqDiff, ↓reduceIte, reduceAdd, reduceLeDiff]); (try with_reducible rfl); done)); all_goals (intro _hg; (try simp only [ZB] at _hg); try first | exact absurd trivial _hg | (exfalso; omega))) | (refine e_ends rfl ?_) | (apply r_1; (focus (simp only [rv, simB0, ZA, reduceEqDiff, ↓reduceIte, reduceAdd, reduceLeDiff]; with_reducible rfl))))
  · exact snap_int (idx_at (by omega) h2 _hg).symm
  · refine ⟨k + 1, ⟨by omega, fun i hi => ?_⟩, by omega, by simp (disch := omega) only [agr, ZG, reduceEqDiff, ↓reduceIte], rfl, rfl⟩
    rcases Nat.lt_succ_iff_lt_or_eq.1 hi with h | rfl
    · exact h2 i h
    · exact fun e => _hg e.symm
  · exact snap_int (idx_none fun i hi => h2 i (by omega)).symm

theorem contains_c (l : List Int) (v : Int) (hl : Sh l) : Pure Try.prog 28 [encV l, .int .i64 v] (.bool (decide (v ∈ l))) := by
  refine Pure.of_c2 follows is28 (Nat.le_of_ble_eq_true rfl) ?_
  simp only [b28, O, G, N, M, D, F, B2, cFal, cTru]
  repeat' (first | apply w_seq | apply w_ops0 | apply w_ret | apply a_n | apply o_nil | (apply o_val rfl rfl; (focus ((try simp (disch := omega) only [simB0, ZA, reduceEqDiff, ↓reduceIte, reduceAdd, reduceLeDiff, ZV, reduceCtorEq]); first | with_reducible rfl | (apply s_ite; (focus omega); with_reducible rfl)))) | (apply o_callD; (iterate 2 (focus ((try simp only [simB0, ZA, reduceEqDiff, ↓reduceIte, reduceAdd, reduceLeDiff]); (try with_reducible rfl); done))); (focus (first | (exact index_c _ _ hl))); (focus ((first | refine snap_plain ?_ rfl | apply snap_data); repeat' (first | exact snapL_nil | apply snapL_i | apply snapL_dat)))) | (refine e_ends rfl ?_) | (apply r_1; (focus (simp only [rv, simB0, ZA, reduceEqDiff, ↓reduceIte, reduceAdd, reduceLeDiff]; with_reducible rfl))))
  refine snap_bool ?_
  unfold idx; split <;> simp_all

def idxF (l : List Int) (p : Int → Bool) : Int := if l.any p then (l.findIdx p : Nat) else -1
theorem idxF_at {l : List Int} {p : Int → Bool} {k : Nat} (hk : k < l.length) (h : ∀ i, i < k → p (l.getD i default) = false) (hv : p (l.getD k default) = true) : idxF l p = k := by
  have e : l.getD k default = l[k] := by simp [List.getD, hk]
  have hm : l.any p = true := List.any_eq_true.2 ⟨l[k], List.getElem_mem hk, by rw [← e]; exact hv⟩
  unfold idxF; rw [if_pos hm]
  have : l.findIdx p = k := (List.findIdx_eq hk).2 ⟨by rw [← e]; exact hv, fun j hj => by have := h j hj; rwa [show l.getD j default = l[j] by simp [List.getD, show j < l.length by omega]] at this⟩
  rw [this]
theorem idxF_none {l : List Int} {p : Int → Bool} (h : ∀ i, i < l.length → p (l.getD i default) = false) : l.any p = false := by
  rw [List.any_eq_false]
  intro x hx
  obtain ⟨i, hi, e⟩ := List.getElem_of_mem hx
  have := h i hi
  rw [show l.getD i default = l[i] by simp [List.getD, hi], e] at this
  simp [this]

theorem indexF_c (l : List Int) (p : Int → Bool) (g : Nat) (caps : List AV) (hd : ∀ x ∈ caps, Dat x) (hg : ∀ x ∈ l, Pure Try.prog g (.int .i64 x :: caps) (.bool (p x))) (hl : Sh l) : Pure Try.prog 88 [encV l, .func g caps] (.int .i64 (idxF l p)) := by
  refine Pure.of_c2 follows is88 (Nat.le_of_ble_eq_true rfl) ?_
  simp only [b88, O, G, N, M, D, F, B2, cFal, cTru]
  repeat' (first | apply w_seq | apply w_ops0 | apply w_block | apply a_n | apply o_nil | (apply o_val rfl rfl; (focus ((try simp (disch := omega) only [simB0, ZA, reduceEqDiff, ↓reduceIte, reduceAdd, reduceLeDiff, ZV, reduceCtorEq]); first | with_reducible rfl | (apply s_ite; (focus omega); with_reducible rfl)))) | apply w_loop)
  refine loop0 (X := Nat) (fun k => [(0, encV l), (1, .func g caps), (6, encV l), (7, .int .i64 l.length), (8, .int .i64 k)]) (fun k => k ≤ l.length ∧ ∀ i, i < k → p (l.getD i default) = false) (fun k => l.length - k) 0 ⟨Nat.zero_le _, by simp⟩ (by simp (disch := omega) only [agr, ZG, reduceEqDiff, ↓reduceIte]) ?_
  rintro k ⟨h1, h2⟩
  repeat' (first | apply w_seq | apply w_ops0 | apply w_block | apply w_skip | apply w_exit | apply w_ret | apply a_n | apply a_x | apply a_r | apply o_nil | (apply o_val rfl rfl; (focus ((try simp (disch := omega) only [simB0, ZA, reduceEqDiff, ↓reduceIte, reduceAdd, reduceLeDiff, ZV, reduceCtorEq]); first | with_reducible rfl | (apply s_ite; (focus omega); with_reducible rfl)))) | (apply o_callD; (iterate 2 (focus ((try simp only [simB0, ZA, reduceEqDiff, ↓reduceIte, reduceAdd, reduceLeDiff]); (try with_reducible rfl); done))); (focus (first | (exact hg _ (mem_getD (by omega))))); (focus ((first | refine snap_plain ?_ rfl | apply snap_data); repeat' (first | exact snapL_nil | apply snapL_i | apply snapL_dat | exact snapL_datL hd)))) | (apply w_cond; (focus ((try simp only [simB0, ZA, reduceEqDiff, ↓reduceIte, reduceAdd, reduceLeDiff]); (try with_reducible rfl); done)); all_goals (intro _hg; (try simp only [ZB] at _hg); try first | exact absurd trivial _hg | (exfalso; omega))) | (refine e_ends rfl ?_) | (apply r_1; (focus (simp only [rv, simB0, ZA, reduceEqDiff, ↓reduceIte, reduceAdd, reduceLeDiff]; with_reducible rfl))))
  · refine snap_int ?_
    rw [idxF_at (by omega) h2 _hg]
  · refine ⟨k + 1, ⟨by omega, fun i hi => ?_⟩, by omega, by simp (disch := omega) only [agr, ZG, reduceEqDiff, ↓reduceIte], rfl, rfl⟩
    rcases Nat.lt_succ_iff_lt_or_eq.1 hi with h | rfl
    · exact h2 i h
    · exact _hg
  · refine snap_int ?_
    unfold idxF; rw [idxF_none fun i hi => h2 i (by omega)]; rfl

theorem containsF_c (l : List Int) (p : Int → Bool) (g : Nat) (caps : List AV) (hd : ∀ x ∈ caps, Dat x) (hg : ∀ x ∈ l, Pure Try.prog g (.int .i64 x :: caps) (.bool (p x))) (hl : Sh l) : Pure Try.prog 67 [encV l, .func g caps] (.bool (l.any p)) := by
  refine Pure.of_c2 follows is67 (Nat.le_of_ble_eq_true rfl) ?_
  simp only [b67, O, G, N, M, D, F, B2, cFal, cTru]
  repeat' (first | apply w_seq | apply w_ops0 | apply w_ret | apply a_n | apply o_nil | (apply o_val rfl rfl; (focus ((try simp (disch := omega) only [simB0, ZA, reduceEqDiff, ↓reduceIte, reduceAdd, reduceLeDiff, ZV, reduceCtorEq]); first | with_reducible rfl | (apply s_ite; (focus omega); with_reducible rfl)))) | (apply o_callD; (iterate 2 (focus ((try simp only [simB0, ZA, reduceEqDiff, ↓reduceIte, reduceAdd, reduceLeDiff]); (try with_reducible rfl); done))); (focus (first | (exact indexF_c l p g caps hd hg hl))); (focus ((first | refine snap_plain ?_ rfl | apply snap_data); repeat' (first | exact snapL_nil | apply snapL_i | apply snapL_dat | exact Dat.func hd)))) | (refine e_ends rfl ?_) | (apply r_1; (focus (simp only [rv, simB0, ZA, reduceEqDiff, ↓reduceIte, reduceAdd, reduceLeDiff]; with_reducible rfl))))
  refine snap_bool ?_
  unfold idxF; split <;> simp_all

theorem take_one {l : List Int} (h : 0 < l.length) : l.take 1 = [l.getD 0 default] := by
  rw [show (1 : Nat) = 0 + 1 from rfl, take_succ' h]; simp

theorem max_c (l : List Int) (hl : Sh l) (h0 : l ≠ []) : Pure Try.prog 50 [encV l] (.int .i64 (l.foldl max (l.getD 0 default))) := by
  refine Pure.of_c2 follows is50 (Nat.le_of_ble_eq_true rfl) ?_
  simp only [b50, O, G, N, M, D, F, B2, cFal, cTru]
  have hpos := List.length_pos_iff.2 h0
  repeat' (first | apply w_seq | apply w_ops0 | apply w_block | apply w_skip | apply a_n | apply o_nil | (apply o_val rfl rfl; (focus ((try simp (disch := omega) only [simB0, ZA, reduceEqDiff, ↓reduceIte, reduceAdd, reduceLeDiff, ZV, reduceCtorEq]); first | with_reducible rfl | (apply s_ite; (focus omega); with_reducible rfl)))) | (apply w_cond; (focus ((try simp only [simB0, ZA, reduceEqDiff, ↓reduceIte, reduceAdd, reduceLeDiff]); (try with_reducible rfl); done)); all_goals (intro _hg; (try simp only [ZB] at _hg); try first | exact absurd trivial _hg | (exfalso; omega))) | apply w_loop)
  refine loop0 (X := Nat) (fun k => [(0, encV l), (3, .int .i64 ((l.take k).foldl max (l.getD 0 default))), (4, .int .i64 k)]) (fun k => k ≤ l.length ∧ 1 ≤ k) (fun k => l.length - k) 1 ⟨hpos, Nat.le_refl _⟩ (by simp (disch := omega) only [agr, ZG, reduceEqDiff, ↓reduceIte, take_one hpos, List.foldl_cons, List.foldl_nil, Int.max_self, Int.toNat_zero]) ?_
  rintro k ⟨h1, h2⟩
  repeat' (first | apply w_seq | apply w_ops0 | apply w_block | apply w_skip | apply w_exit | apply w_ret | apply a_n | apply a_x | apply o_nil | (apply o_val rfl rfl; (focus ((try simp (disch := omega) only [simB0, ZA, reduceEqDiff, ↓reduceIte, reduceAdd, reduceLeDiff, ZV, reduceCtorEq]); first | with_reducible rfl | (apply s_ite; (focus omega); with_reducible rfl)))) | (apply w_cond; (focus ((try simp only [simB0, ZA, reduceEqDiff, ↓reduceIte, reduceAdd, reduceLeDiff]); (try with_reducible rfl); done)); all_goals (intro _hg; (try simp only [ZB] at _hg); try first | exact absurd trivial _hg | (exfalso; omega))) | (refine e_ends rfl ?_) | (apply r_1; (focus (simp only [rv, simB0, ZA, reduceEqDiff, ↓reduceIte, reduceAdd, reduceLeDiff]; with_reducible rfl))))
  · refine ⟨k + 1, ⟨by omega, by omega⟩, by omega, ?_, rfl, rfl⟩
    rw [take_succ' (by omega), List.foldl_append]
    simp (disch := omega) only [agr, ZG, reduceEqDiff, ↓reduceIte, List.foldl_cons, List.foldl_nil]
  · rw [List.take_of_length_le (by omega)]; exact .int _ _

theorem min_c (l : List Int) (hl : Sh l) (h0 : l ≠ []) : Pure Try.prog 51 [encV l] (.int .i64 (l.foldl min (l.getD 0 default))) := by
  refine Pure.of_c2 follows is51 (Nat.le_of_ble_eq_true rfl) ?_
  simp only [b51, O, G, N, M, D, F, B2, cFal, cTru]
  have hpos := List.length_pos_iff.2 h0
  repeat' (first | apply w_seq | apply w_ops0 | apply w_block | apply w_skip | apply a_n | apply o_nil | (apply o_val rfl rfl; (focus ((try simp (disch := omega) only [simB0, ZA, reduceEqDiff, ↓reduceIte, reduceAdd, reduceLeDiff, ZV, reduceCtorEq]); first | with_reducible rfl | (apply s_ite; (focus omega); with_reducible rfl)))) | (apply w_cond; (focus ((try simp only [simB0, ZA, reduceEqDiff, ↓reduceIte, reduceAdd, reduceLeDiff]); (try with_reducible rfl); done)); all_goals (intro _hg; (try simp only [ZB] at _hg); try first | exact absurd trivial _hg | (exfalso; omega))) | apply w_loop)
  refine loop0 (X := Nat) (fun k => [(0, encV l), (3, .int .i64 ((l.take k).foldl min (l.getD 0 default))), (4, .int .i64 k)]) (fun k => k ≤ l.length ∧ 1 ≤ k) (fun k => l.length - k) 1 ⟨hpos, Nat.le_refl _⟩ (by simp (disch := omega) only [agr, ZG, reduceEqDiff, ↓reduceIte, take_one hpos, List.foldl_cons, List.foldl_nil, Int.min_self, Int.toNat_zero]) ?_
  rintro k ⟨h1, h2⟩
  repeat' (first | apply w_seq | apply w_ops0 | apply w_block | apply w_skip | apply w_exit | apply w_ret | apply a_n | apply a_x | apply o_nil | (apply o_val rfl rfl; (focus ((try simp (disch := omega) only [simB0, ZA, reduceEqDiff, ↓reduceIte, reduceAdd, reduceLeDiff, ZV, reduceCtorEq]); first | with_reducible rfl | (apply s_ite; (focus omega); with_reducible rfl)))) | (apply w_cond; (focus ((try simp only [simB0, ZA, reduceEqDiff, ↓reduceIte, reduceAdd, reduceLeDiff]); (try with_reducible rfl); done)); all_goals (intro _hg; (try simp only [ZB] at _hg); try first | exact absurd trivial _hg | (exfalso; omega))) | (refine e_ends rfl ?_) | (apply r_1; (focus (simp only [rv, simB0, ZA, reduceEqDiff, ↓reduceIte, reduceAdd, reduceLeDiff]; with_reducible rfl))))
  · refine ⟨k + 1, ⟨by omega, by omega⟩, by omega, ?_, rfl, rfl⟩
    rw [take_succ' (by omega), List.foldl_append]
    simp (disch := omega) only [agr, ZG, reduceEqDiff, ↓reduceIte, List.foldl_cons, List.foldl_nil]
  · rw [List.take_of_length_le (by omega)]; exact .int _ _

theorem cloneF_c (l : List Int) (hl : Sh l) : PureF Try.prog 32 [encV l] (encV l) := by
  refine PureF.of_c2 follows is32 (Nat.le_of_ble_eq_true rfl) ?_
  simp only [b32, O, G, N, M, D, F, B2, cFal, cTru]
  repeat' (first | apply w_seq | apply w_ops0 | apply a_n | apply o_nil | (apply o_val rfl rfl; (focus ((try simp (disch := omega) only [simB0, ZA, reduceEqDiff, ↓reduceIte, reduceAdd, reduceLeDiff, ZV, reduceCtorEq]); first | with_reducible rfl | (apply s_ite; (focus omega); with_reducible rfl)))))
  refine o_snil (k := l.length) (by ((try simp only [simB0, ZA, reduceEqDiff, ↓reduceIte, reduceAdd, reduceLeDiff]); (try with_reducible rfl)); exact alenN_encV) (fun h => ?_) (fun h => ?_) (fun h => ?_)
  repeat' (first | apply w_seq | apply w_ops0 | apply w_skip | apply w_ret | apply a_n | apply a_r | apply o_nil | (apply o_val rfl rfl; (focus ((try simp (disch := omega) only [simB0, ZA, reduceEqDiff, ↓reduceIte, reduceAdd, reduceLeDiff, ZV, reduceCtorEq]); first | with_reducible rfl | (apply s_ite; (focus omega); with_reducible rfl)))) | refine e_bld0 rfl ?_ | (apply e_app0 rfl; (iterate 2 (focus ((try simp only [simB0, ZA, reduceEqDiff, ↓reduceIte, reduceAdd, reduceLeDiff]); (try with_reducible rfl); done))); (focus (first | exact asrc_encV | exact asrc_encVV | exact asrc_esl | (apply asrc_msl; (focus ((try simp only [simB0, ZA, reduceEqDiff, ↓reduceIte, reduceAdd, reduceLeDiff]); (try with_reducible rfl); done)); (iterate 2 (focus ((try simp only [SL, reduceAdd, Nat.reduceMul, List.length_map]); first | done | omega)))) | exact asrc_sl)); (focus (first | exact ones_int | exact ones_encV | (simp only [SO, Bool.and_self, one_encV, one_encVV]))); (iterate 2 (focus ((try simp only [SL, reduceAdd, Nat.reduceMul, List.length_map]); first | done | omega)))) | (apply w_condT; (focus (simp only [simB0, ZA, reduceEqDiff, ↓reduceIte, reduceAdd, reduceLeDiff]; done))) | (apply w_condF; (focus (simp only [simB0, ZA, reduceEqDiff, ↓reduceIte, reduceAdd, reduceLeDiff]; done))) | (refine e_ends rfl ?_) | (apply r_1; (focus (simp only [rv, simB0, ZA, reduceEqDiff, ↓reduceIte, reduceAdd, reduceLeDiff]; with_reducible rfl))))
  · exact snapF_row hupd_self' (by omega) rfl
  · exact snapF_esl h
  · exact snapF_row hupd_self' (by omega) rfl

theorem cloneM_c (l : List Int) (hl : Sh l) (h0 : l ≠ []) (H : Hp) (nx : Nat) : Abs.Fn Try.prog 32 [encV l] H nx fun r H' nx' => r = .msl nx l.length 1 0 l.length ∧ H' = hupd H nx (l.map (AV.int .i64)) ∧ nx' = nx + 1 := by
  refine Abs.Fn.of_c2 follows is32 (Nat.le_of_ble_eq_true rfl) ?_
  simp only [b32, O, G, N, M, D, F, B2, cFal, cTru]
  have hpos := List.length_pos_iff.2 h0
  repeat' (first | apply w_seq | apply w_ops0 | apply a_n | apply o_nil | (apply o_val rfl rfl; (focus ((try simp (disch := omega) only [simB0, ZA, reduceEqDiff, ↓reduceIte, reduceAdd, reduceLeDiff, ZV, reduceCtorEq]); first | with_reducible rfl | (apply s_ite; (focus omega); with_reducible rfl)))))
  refine o_snil (k := l.length) (by ((try simp only [simB0, ZA, reduceEqDiff, ↓reduceIte, reduceAdd, reduceLeDiff]); (try with_reducible rfl)); exact alenN_encV) (fun h => ?_) (fun h => by omega) (fun h => by omega)
  repeat' (first | apply w_seq | apply w_ops0 | apply w_skip | apply w_ret | apply a_n | apply o_nil | (apply o_val rfl rfl; (focus ((try simp (disch := omega) only [simB0, ZA, reduceEqDiff, ↓reduceIte, reduceAdd, reduceLeDiff, ZV, reduceCtorEq]); first | with_reducible rfl | (apply s_ite; (focus omega); with_reducible rfl)))) | refine e_bld0 rfl ?_ | (apply e_app0 rfl; (iterate 2 (focus ((try simp only [simB0, ZA, reduceEqDiff, ↓reduceIte, reduceAdd, reduceLeDiff]); (try with_reducible rfl); done))); (focus (first | exact asrc_encV | exact asrc_encVV | exact asrc_esl | (apply asrc_msl; (focus ((try simp only [simB0, ZA, reduceEqDiff, ↓reduceIte, reduceAdd, reduceLeDiff]); (try with_reducible rfl); done)); (iterate 2 (focus ((try simp only [SL, reduceAdd, Nat.reduceMul, List.length_map]); first | done | omega)))) | exact asrc_sl)); (focus (first | exact ones_int | exact ones_encV | (simp only [SO, Bool.and_self, one_encV, one_encVV]))); (iterate 2 (focus ((try simp only [SL, reduceAdd, Nat.reduceMul, List.length_map]); first | done | omega)))) | (apply w_condF; (focus (simp only [simB0, ZA, reduceEqDiff, ↓reduceIte, reduceAdd, reduceLeDiff]; done))) | (refine e_ends rfl ?_) | (apply r_1; (focus (simp only [rv, simB0, ZA, reduceEqDiff, ↓reduceIte, reduceAdd, reduceLeDiff]; with_reducible rfl))))
  exact ⟨rfl, rfl, rfl⟩
end Go.Proofs.Ytcbkggfipdldaaa

/- P3: contracts of functions and plain laws; for all inputs that the theorems name. -/
namespace Go.Proofs.Ytcbkggfipdldaaa
open Go Go.Abs
open Nat (reduceEqDiff reduceAdd reduceLeDiff)
attribute [local irreducible] awp2 aops2 ains aloop athen bbind obind gbind acond res1 Go.Abs.Fn PCall Go.Abs.Pure SnapArgs SnapL Yl

/-! ### the conditions of the tasks -/
theorem chosen1_c (l : List Int) (v : Int) (hl : Sh l) : Pure Try.prog 117 [.int .i64 v, .iptr [encV l] 0] (.bool (!decide (v ∈ l))) := by
  refine Pure.of_c2 follows is117 (Nat.le_of_ble_eq_true rfl) ?_
  simp only [b117, O, G, N, M, D, F, B2, cFal, cTru]
  repeat' (first | apply w_seq | apply w_ops0 | apply w_ret | apply a_n | apply o_nil | (apply o_val rfl rfl; (focus ((try simp (disch := omega) only [simB0, ZA, reduceEqDiff, ↓reduceIte, reduceAdd, reduceLeDiff, ZV, reduceCtorEq]); first | with_reducible rfl | (apply s_ite; (focus omega); with_reducible rfl)))) | (apply o_callD; (iterate 2 (focus ((try simp only [simB0, ZA, reduceEqDiff, ↓reduceIte, reduceAdd, reduceLeDiff]); (try with_reducible rfl); done))); (focus (first | (exact contains_c _ _ hl))); (focus ((first | refine snap_plain ?_ rfl | apply snap_data); repeat' (first | exact snapL_nil | apply snapL_i | apply snapL_dat)))) | (refine e_ends rfl ?_) | (apply r_1; (focus (simp only [rv, simB0, ZA, reduceEqDiff, ↓reduceIte, reduceAdd, reduceLeDiff]; with_reducible rfl))))
  exact .bool _

theorem chosen_c (l m : List Int) (hl : Sh l) (hm : Sh m) : Pure Try.prog 90 [encV l, encV m] (.bool (m.all fun v => decide (v ∈ l))) := by
  refine Pure.of_c2 follows is90 (Nat.le_of_ble_eq_true rfl) ?_
  simp only [b90, O, G, N, M, D, F, B2, cFal, cTru]
  repeat' (first | apply w_seq | apply w_ops0 | apply a_n | apply o_nil | (apply o_val rfl rfl; (focus ((try simp (disch := omega) only [simB0, ZA, reduceEqDiff, ↓reduceIte, reduceAdd, reduceLeDiff, ZV, reduceCtorEq]); first | with_reducible rfl | (apply s_ite; (focus omega); with_reducible rfl)))) | (apply e_box rfl; (iterate 2 (focus ((try simp only [simB0, ZA, reduceEqDiff, ↓reduceIte, reduceAdd, reduceLeDiff]); (try with_reducible rfl); done))); (focus (simp only [SO, Bool.and_self, one_encV, one_encVV]))))
  refine o_callP (by ((try simp only [simB0, ZA, reduceEqDiff, ↓reduceIte, reduceAdd, reduceLeDiff]); (try with_reducible rfl))) (by ((try simp only [simB0, ZA, reduceEqDiff, ↓reduceIte, reduceAdd, reduceLeDiff]); (try with_reducible rfl))) (containsF_c m (fun v => !decide (v ∈ l)) 117 [.iptr [encV l] 0] (DatL.cons (Dat.iptr (DatL.cons (encV_dat _) DatL.nil)) DatL.nil) (fun x _ => chosen1_c l x hl) hm) (snap_plain (by (repeat' (first | exact snapL_nil | exact Dat.snap Dat.int | exact Dat.snap Dat.bool | exact Dat.snap Dat.str | exact Dat.snap Dat.esl | exact Dat.snap Dat.nilf | exact Dat.snap (encV_dat _) | exact Dat.snap (encVV_dat _) | apply snapL_cons | apply snap_func | apply snap_iptr | (apply snap_ptr; (focus ((try simp only [simB0, ZA, reduceEqDiff, ↓reduceIte, reduceAdd, reduceLeDiff]); with_reducible rfl)); (focus rfl))))) rfl) ?_
  repeat' (first | apply w_ret | apply a_n | apply o_nil | (apply o_val rfl rfl; (focus ((try simp (disch := omega) only [simB0, ZA, reduceEqDiff, ↓reduceIte, reduceAdd, reduceLeDiff, ZV, reduceCtorEq]); first | with_reducible rfl | (apply s_ite; (focus omega); with_reducible rfl)))) | (refine e_ends rfl ?_) | (apply r_1; (focus (simp only [rv, simB0, ZA, reduceEqDiff, ↓reduceIte, reduceAdd, reduceLeDiff]; with_reducible rfl))))
  refine snap_bool ?_
  rw [List.not_any_eq_all_not]; simp

theorem agreement1_c (k : Int) (l m : List Int) (hl : Sh l) (hm : Sh m) : Pure Try.prog 89 [encV l, encV m, .iptr [.int .i64 k] 0] (.bool (decide ((kinds m).length ≤ max k 1) && m.all fun v => decide (v ∈ l))) := by
  refine Pure.of_c2 follows is89 (Nat.le_of_ble_eq_true rfl) ?_
  simp only [b89, O, G, N, M, D, F, B2, cFal, cTru]
  repeat' (first | apply w_seq | apply w_ops0 | apply w_mixS1 | apply w_ret | apply a_n | apply o_nil | (apply o_val rfl rfl; (focus ((try simp (disch := omega) only [simB0, ZA, reduceEqDiff, ↓reduceIte, reduceAdd, reduceLeDiff, ZV, reduceCtorEq]); first | with_reducible rfl | (apply s_ite; (focus omega); with_reducible rfl)))) | (apply o_callD; (iterate 2 (focus ((try simp only [simB0, ZA, reduceEqDiff, ↓reduceIte, reduceAdd, reduceLeDiff]); (try with_reducible rfl); done))); (focus (first | (exact different_c _ hm) | (exact chosen_c _ _ hl hm))); (focus ((first | refine snap_plain ?_ rfl | apply snap_data); repeat' (first | exact snapL_nil | apply snapL_i | apply snapL_dat)))) | (apply o_gT; (focus (simp only [simB0, ZA, reduceEqDiff, ↓reduceIte, reduceAdd, reduceLeDiff]; done))) | (apply o_gF; (focus (simp only [simB0, ZA, reduceEqDiff, ↓reduceIte, reduceAdd, reduceLeDiff, or_true, true_or]; done))) | (apply o_gB; (focus ((try simp only [simB0, ZA, reduceEqDiff, ↓reduceIte, reduceAdd, reduceLeDiff]); (try with_reducible rfl); done)); all_goals (intro _hg; (try simp only [ZB] at _hg); try first | exact absurd trivial _hg | (exfalso; omega))) | (refine e_ends rfl ?_) | (apply r_1; (focus (simp only [rv, simB0, ZA, reduceEqDiff, ↓reduceIte, reduceAdd, reduceLeDiff]; with_reducible rfl))))
  all_goals (refine snap_bool ?_; simp [_hg])

theorem approx1_c (steps : Int) (l m : List Int) (hl : Sh l) (hm : Sh m) (h0 : l ≠ []) (h1 : m ≠ []) : Pure Try.prog 47 [encV l, encV m, .iptr [.int .i64 steps] 0]
    (.bool (if (kinds l).length = 1 then eqv m (IntKind.wrap .i64 (l.getD 0 default * steps)) else decide (IntKind.wrap .i64 (m.foldl max (m.getD 0 default) - m.foldl min (m.getD 0 default)) ≤ 1))) := by
  refine Pure.of_c2 follows is47 (Nat.le_of_ble_eq_true rfl) ?_
  simp only [b47, O, G, N, M, D, F, B2, cFal, cTru]
  have := List.length_pos_iff.2 h0
  repeat' (first | apply w_seq | apply w_ops0 | apply w_mixS1 | apply w_skip | apply w_ret | apply a_n | apply a_r | apply o_nil | (apply o_val rfl rfl; (focus ((try simp (disch := omega) only [simB0, ZA, reduceEqDiff, ↓reduceIte, reduceAdd, reduceLeDiff, ZV, reduceCtorEq]); first | with_reducible rfl | (apply s_ite; (focus omega); with_reducible rfl)))) | (apply o_callD; (iterate 2 (focus ((try simp only [simB0, ZA, reduceEqDiff, ↓reduceIte, reduceAdd, reduceLeDiff]); (try with_reducible rfl); done))); (focus (first | (exact different_c _ hl) | (exact equal_c _ _ hm) | (exact max_c _ hm h1) | (exact min_c _ hm h1))); (focus ((first | refine snap_plain ?_ rfl | apply snap_data); repeat' (first | exact snapL_nil | apply snapL_i | apply snapL_dat)))) | (apply w_cond; (focus ((try simp only [simB0, ZA, reduceEqDiff, ↓reduceIte, reduceAdd, reduceLeDiff]); (try with_reducible rfl); done)); all_goals (intro _hg; (try simp only [ZB] at _hg); try first | exact absurd trivial _hg | (exfalso; omega))) | (refine e_ends rfl ?_) | (apply r_1; (focus (simp only [rv, simB0, ZA, reduceEqDiff, ↓reduceIte, reduceAdd, reduceLeDiff]; with_reducible rfl))))
  all_goals (refine snap_bool ?_)
  · rw [if_pos (by omega), Int.toNat_zero]
  · rw [if_neg (by omega)]

theorem renaming1_c (l : List Int) (hl : Sh l) : Pure Try.prog 76 [encV l] (.bool (decide ((kinds l).length = l.length))) := by
  refine Pure.of_c2 follows is76 (Nat.le_of_ble_eq_true rfl) ?_
  simp only [b76, O, G, N, M, D, F, B2, cFal, cTru]
  repeat' (first | apply w_seq | apply w_ops0 | apply w_ret | apply a_n | apply o_nil | (apply o_val rfl rfl; (focus ((try simp (disch := omega) only [simB0, ZA, reduceEqDiff, ↓reduceIte, reduceAdd, reduceLeDiff, ZV, reduceCtorEq]); first | with_reducible rfl | (apply s_ite; (focus omega); with_reducible rfl)))) | (apply o_callD; (iterate 2 (focus ((try simp only [simB0, ZA, reduceEqDiff, ↓reduceIte, reduceAdd, reduceLeDiff]); (try with_reducible rfl); done))); (focus (first | (exact different_c _ hl))); (focus ((first | refine snap_plain ?_ rfl | apply snap_data); repeat' (first | exact snapL_nil | apply snapL_i | apply snapL_dat)))) | (refine e_ends rfl ?_) | (apply r_1; (focus (simp only [rv, simB0, ZA, reduceEqDiff, ↓reduceIte, reduceAdd, reduceLeDiff]; with_reducible rfl))))
  all_goals (refine snap_bool ?_; simp only [Int.ofNat_inj])

theorem renaming2_c (l m : List Int) (hm : Sh m) : Pure Try.prog 77 [encV l, encV m] (.bool (decide ((kinds m).length = m.length))) := by
  refine Pure.of_c2 follows is77 (Nat.le_of_ble_eq_true rfl) ?_
  simp only [b77, O, G, N, M, D, F, B2, cFal, cTru]
  repeat' (first | apply w_seq | apply w_ops0 | apply w_ret | apply a_n | apply o_nil | (apply o_val rfl rfl; (focus ((try simp (disch := omega) only [simB0, ZA, reduceEqDiff, ↓reduceIte, reduceAdd, reduceLeDiff, ZV, reduceCtorEq]); first | with_reducible rfl | (apply s_ite; (focus omega); with_reducible rfl)))) | (apply o_callD; (iterate 2 (focus ((try simp only [simB0, ZA, reduceEqDiff, ↓reduceIte, reduceAdd, reduceLeDiff]); (try with_reducible rfl); done))); (focus (first | (exact different_c _ hm))); (focus ((first | refine snap_plain ?_ rfl | apply snap_data); repeat' (first | exact snapL_nil | apply snapL_i | apply snapL_dat)))) | (refine e_ends rfl ?_) | (apply r_1; (focus (simp only [rv, simB0, ZA, reduceEqDiff, ↓reduceIte, reduceAdd, reduceLeDiff]; with_reducible rfl))))
  all_goals (refine snap_bool ?_; simp only [Int.ofNat_inj])

theorem crusader11_c (v w : Int) : Pure Try.prog 56 [.int .i64 v, .iptr [.int .i64 w] 0] (.bool (decide (v = w))) := by
  refine Pure.of_c2 follows is56 (Nat.le_of_ble_eq_true rfl) ?_
  simp only [b56, O, G, N, M, D, F, B2, cFal, cTru]
  repeat' (first | apply w_seq | apply w_ops0 | apply w_ret | apply a_n | apply o_nil | (apply o_val rfl rfl; (focus ((try simp (disch := omega) only [simB0, ZA, reduceEqDiff, ↓reduceIte, reduceAdd, reduceLeDiff, ZV, reduceCtorEq]); first | with_reducible rfl | (apply s_ite; (focus omega); with_reducible rfl)))) | (refine e_ends rfl ?_) | (apply r_1; (focus (simp only [rv, simB0, ZA, reduceEqDiff, ↓reduceIte, reduceAdd, reduceLeDiff]; with_reducible rfl))))
  exact .bool _

theorem crusader2_c (l m : List Int) (h0 : l ≠ []) (hl : Sh l) (hm : Sh m) : Pure Try.prog 57 [encV l, encV m] (.bool (eqv m (l.getD 0 default))) := by
  refine Pure.of_c2 follows is57 (Nat.le_of_ble_eq_true rfl) ?_
  simp only [b57, O, G, N, M, D, F, B2, cFal, cTru]
  have := List.length_pos_iff.2 h0
  repeat' (first | apply w_seq | apply w_ops0 | apply w_ret | apply a_n | apply o_nil | (apply o_val rfl rfl; (focus ((try simp (disch := omega) only [simB0, ZA, reduceEqDiff, ↓reduceIte, reduceAdd, reduceLeDiff, ZV, reduceCtorEq]); first | with_reducible rfl | (apply s_ite; (focus omega); with_reducible rfl)))) | (apply o_callD; (iterate 2 (focus ((try simp only [simB0, ZA, reduceEqDiff, ↓reduceIte, reduceAdd, reduceLeDiff]); (try with_reducible rfl); done))); (focus (first | (exact equal_c _ _ hm))); (focus ((first | refine snap_plain ?_ rfl | apply snap_data); repeat' (first | exact snapL_nil | apply snapL_i | apply snapL_dat)))) | (refine e_ends rfl ?_) | (apply r_1; (focus (simp only [rv, simB0, ZA, reduceEqDiff, ↓reduceIte, reduceAdd, reduceLeDiff]; with_reducible rfl))))
  rw [Int.toNat_zero]; exact .bool _

theorem commit1_c (l : List Int) (h0 : l ≠ []) (hl : Sh l) : Pure Try.prog 61 [encV l] (.int .i64 (l.foldl min (l.getD 0 default))) := by
  refine Pure.of_c2 follows is61 (Nat.le_of_ble_eq_true rfl) ?_
  simp only [b61, O, G, N, M, D, F, B2, cFal, cTru]
  repeat' (first | apply w_seq | apply w_ops0 | apply w_ret | apply a_n | apply o_nil | (apply o_val rfl rfl; (focus ((try simp (disch := omega) only [simB0, ZA, reduceEqDiff, ↓reduceIte, reduceAdd, reduceLeDiff, ZV, reduceCtorEq]); first | with_reducible rfl | (apply s_ite; (focus omega); with_reducible rfl)))) | (apply o_callD; (iterate 2 (focus ((try simp only [simB0, ZA, reduceEqDiff, ↓reduceIte, reduceAdd, reduceLeDiff]); (try with_reducible rfl); done))); (focus (first | (exact min_c _ hl h0))); (focus ((first | refine snap_plain ?_ rfl | apply snap_data); repeat' (first | exact snapL_nil | apply snapL_i | apply snapL_dat)))) | (refine e_ends rfl ?_) | (apply r_1; (focus (simp only [rv, simB0, ZA, reduceEqDiff, ↓reduceIte, reduceAdd, reduceLeDiff]; with_reducible rfl))))
  exact .int _ _

theorem commit2_c (l m : List Int) (h0 : l ≠ []) (hl : Sh l) (hm : Sh m) : Pure Try.prog 62 [encV l, encV m, .iptr [.func 61 []] 0] (.bool (eqv m 0 || eqv m 1 && decide (l.foldl min (l.getD 0 default) = 1))) := by
  refine Pure.of_c2 follows is62 (Nat.le_of_ble_eq_true rfl) ?_
  simp only [b62, O, G, N, M, D, F, B2, cFal, cTru]
  repeat' (first | apply w_seq | apply w_ops0 | apply w_ret | apply a_n | apply o_nil | (apply o_val rfl rfl; (focus ((try simp (disch := omega) only [simB0, ZA, reduceEqDiff, ↓reduceIte, reduceAdd, reduceLeDiff, ZV, reduceCtorEq]); first | with_reducible rfl | (apply s_ite; (focus omega); with_reducible rfl)))) | (apply o_callD; (iterate 2 (focus ((try simp only [simB0, ZA, reduceEqDiff, ↓reduceIte, reduceAdd, reduceLeDiff]); (try with_reducible rfl); done))); (focus (first | (exact equal_c _ _ hm) | (exact commit1_c _ h0 hl))); (focus ((first | refine snap_plain ?_ rfl | apply snap_data); repeat' (first | exact snapL_nil | apply snapL_i | apply snapL_dat)))) | (apply o_gT; (focus (simp only [simB0, ZA, reduceEqDiff, ↓reduceIte, reduceAdd, reduceLeDiff]; done))) | (apply o_gF; (focus (simp only [simB0, ZA, reduceEqDiff, ↓reduceIte, reduceAdd, reduceLeDiff, or_true, true_or]; done))) | (apply o_gB; (focus ((try simp only [simB0, ZA, reduceEqDiff, ↓reduceIte, reduceAdd, reduceLeDiff]); (try with_reducible rfl); done)); all_goals (intro _hg; (try simp only [ZB] at _hg); try first | exact absurd trivial _hg | (exfalso; omega))) | (refine e_ends rfl ?_) | (apply r_1; (focus (simp only [rv, simB0, ZA, reduceEqDiff, ↓reduceIte, reduceAdd, reduceLeDiff]; with_reducible rfl))))
  all_goals (refine snap_bool ?_; simp [*])

theorem commit3_c (l m : List Int) (h0 : l ≠ []) (hl : Sh l) (hm : Sh m) : Pure Try.prog 63 [encV l, encV m, .iptr [.func 61 []] 0] (.bool (eqv m (l.foldl min (l.getD 0 default)))) := by
  refine Pure.of_c2 follows is63 (Nat.le_of_ble_eq_true rfl) ?_
  simp only [b63, O, G, N, M, D, F, B2, cFal, cTru]
  repeat' (first | apply w_seq | apply w_ops0 | apply w_ret | apply a_n | apply o_nil | (apply o_val rfl rfl; (focus ((try simp (disch := omega) only [simB0, ZA, reduceEqDiff, ↓reduceIte, reduceAdd, reduceLeDiff, ZV, reduceCtorEq]); first | with_reducible rfl | (apply s_ite; (focus omega); with_reducible rfl)))) | (apply o_callD; (iterate 2 (focus ((try simp only [simB0, ZA, reduceEqDiff, ↓reduceIte, reduceAdd, reduceLeDiff]); (try with_reducible rfl); done))); (focus (first | (exact equal_c _ _ hm) | (exact commit1_c _ h0 hl))); (focus ((first | refine snap_plain ?_ rfl | apply snap_data); repeat' (first | exact snapL_nil | apply snapL_i | apply snapL_dat)))) | (refine e_ends rfl ?_) | (apply r_1; (focus (simp only [rv, simB0, ZA, reduceEqDiff, ↓reduceIte, reduceAdd, reduceLeDiff]; with_reducible rfl))))
  exact .bool _

theorem leader1_c (l m : List Int) (hm : Sh m) (h1 : ∀ x ∈ m, 0 ≤ x ∧ x ≤ 1000) : Pure Try.prog 78 [encV l, encV m] (.bool (decide (m.sum = 1))) := by
  refine Pure.of_c2 follows is78 (Nat.le_of_ble_eq_true rfl) ?_
  simp only [b78, O, G, N, M, D, F, B2, cFal, cTru]
  repeat' (first | apply w_seq | apply w_ops0 | apply w_block | apply a_n | apply o_nil | (apply o_val rfl rfl; (focus ((try simp (disch := omega) only [simB0, ZA, reduceEqDiff, ↓reduceIte, reduceAdd, reduceLeDiff, ZV, reduceCtorEq]); first | with_reducible rfl | (apply s_ite; (focus omega); with_reducible rfl)))) | apply w_loop)
  refine loop0 (X := Nat) (fun k => [(5, .int .i64 (m.take k).sum), (8, encV m), (9, .int .i64 m.length), (10, .int .i64 k)]) (fun k => k ≤ m.length ∧ 0 ≤ (m.take k).sum ∧ (m.take k).sum ≤ k * 1000) (fun k => m.length - k) 0 ⟨Nat.zero_le _, by simp⟩ (by simp (disch := omega) only [agr, ZG, reduceEqDiff, ↓reduceIte, List.take_zero, List.sum_nil]) ?_
  rintro k ⟨h2, h3, h4⟩
  repeat' (first | apply w_seq | apply w_ops0 | apply w_block | apply w_skip | apply w_exit | apply w_ret | apply a_n | apply a_x | apply o_nil | (apply o_val rfl rfl; (focus ((try simp (disch := omega) only [simB0, ZA, reduceEqDiff, ↓reduceIte, reduceAdd, reduceLeDiff, ZV, reduceCtorEq]); first | with_reducible rfl | (apply s_ite; (focus omega); with_reducible rfl)))) | (apply w_cond; (focus ((try simp only [simB0, ZA, reduceEqDiff, ↓reduceIte, reduceAdd, reduceLeDiff]); (try with_reducible rfl); done)); all_goals (intro _hg; (try simp only [ZB] at _hg); try first | exact absurd trivial _hg | (exfalso; omega))) | (refine e_ends rfl ?_) | (apply r_1; (focus (simp only [rv, simB0, ZA, reduceEqDiff, ↓reduceIte, reduceAdd, reduceLeDiff]; with_reducible rfl))))
  · have hx := h1 _ (mem_getD (show k < m.length by omega))
    have e : (m.take (k + 1)).sum = (m.take k).sum + m.getD k default := by rw [take_succ' (by omega), List.sum_append]; simp
    refine ⟨k + 1, ⟨by omega, by omega, by omega⟩, by omega, ?_, rfl, rfl⟩
    rw [e]
    simp (disch := omega) only [agr, ZG, reduceEqDiff, ↓reduceIte]
  · refine snap_bool ?_
    rw [List.take_of_length_le (by omega)]
end Go.Proofs.Ytcbkggfipdldaaa

/- P4: contracts of functions and plain laws; for all inputs that the theorems name. -/
namespace Go.Proofs.Ytcbkggfipdldaaa
open Go Go.Abs
open Nat (reduceEqDiff reduceAdd reduceLeDiff)
attribute [local irreducible] awp2 aops2 ains aloop athen bbind obind gbind acond res1 Go.Abs.Fn PCall Go.Abs.Pure SnapArgs SnapL Yl

/-! ### all vectors, in lexicographic order -/
def every : Nat → Nat → List (List Int)
  | 0, _ => [[]]
  | n + 1, v => (List.range v).flatMap fun (x : Nat) => (every n v).map fun r => (x : Int) :: r

def incF (v : Nat) : List Int → Option (List Int)
  | [] => none
  | x :: r => match incF v r with
    | some r' => some (x :: r')
    | none => if x + 1 < v then some ((x + 1) :: List.replicate r.length 0) else none

def Run (v : Nat) : List (List Int) → Prop
  | [] => False
  | [x] => incF v x = none
  | x :: y :: l => incF v x = some y ∧ Run v (y :: l)

theorem every_len : ∀ (n v : Nat), ∀ x ∈ every n v, x.length = n
  | 0, v, x, h => by simp [every] at h; simp [h]
  | n + 1, v, x, h => by
    simp only [every, List.mem_flatMap, List.mem_map] at h
    obtain ⟨a, _, r, hr, rfl⟩ := h
    simp [every_len n v r hr]

theorem run_map {v : Nat} {x : Int} {n : Nat} {tail : List (List Int)} (ht : match tail with | [] => ¬ x + 1 < v | y :: _ => x + 1 < v ∧ y = (x + 1) :: List.replicate n 0) (hrt : tail = [] ∨ Run v tail) : ∀ (l : List (List Int)), Run v l → (∀ r ∈ l, r.length = n) → Run v ((l.map fun r => x :: r) ++ tail)
  | [], h, _ => h.elim
  | [r], h, hn => by
    have hr := hn r (by simp)
    have h : incF v r = none := h
    cases tail with
    | nil => simp only [List.map_cons, List.map_nil, List.append_nil, Run, incF, h]; rw [if_neg ht]
    | cons y t =>
      obtain ⟨h1, rfl⟩ := ht
      refine ⟨?_, hrt.resolve_left (by simp)⟩
      simp only [incF, h]; rw [if_pos h1, hr]
  | r :: r' :: l, h, hn => by
    refine ⟨?_, run_map ht hrt (r' :: l) h.2 (fun q hq => hn q (by simp [hq]))⟩
    simp only [incF, h.1]

theorem every_head (n v : Nat) (hv : 0 < v) : ∃ t, every n v = List.replicate n 0 :: t := by
  induction n with
  | zero => exact ⟨[], rfl⟩
  | succ n ih =>
    obtain ⟨t, ht⟩ := ih
    obtain ⟨m, rfl⟩ : ∃ m, v = m + 1 := ⟨v - 1, by omega⟩
    simp only [every, List.range_succ_eq_map, List.flatMap_cons, ht, List.map_cons, List.cons_append]
    exact ⟨_, rfl⟩

theorem run_every (n v : Nat) (hv : 0 < v) : Run v (every n v) := by
  induction n with
  | zero => show incF v [] = none; rfl
  | succ n ih =>
    -- from x on
    have key : ∀ m x, x + m = v → 0 < m → Run v ((List.range' x m).flatMap fun (x : Nat) => (every n v).map fun r => (x : Int) :: r) := by
      intro m
      induction m with
      | zero => intro x _ h; omega
      | succ m ihm =>
        intro x hx _
        rw [List.range'_succ, List.flatMap_cons]
        refine run_map (n := n) ?_ ?_ _ ih (every_len n v)
        · cases m with
          | zero => simp; omega
          | succ m =>
            obtain ⟨t, ht⟩ := every_head n v hv
            rw [List.range'_succ, List.flatMap_cons, ht]
            simp; omega
        · cases m with
          | zero => left; rfl
          | succ m => right; exact ihm (x + 1) (by omega) (by omega)
    have := key v 0 (by omega) hv
    rw [← List.range_eq_range'] at this
    exact this

theorem run_get {v : Nat} : ∀ (l : List (List Int)), Run v l → ∀ k, k < l.length → incF v (l.getD k []) = if k + 1 < l.length then some (l.getD (k + 1) []) else none
  | [], h, _, _ => h.elim
  | [x], h, k, hk => by
    have : k = 0 := by simp at hk; omega
    subst this
    have h : incF v x = none := h
    simp [h]
  | x :: y :: l, h, k, hk => by
    cases k with
    | zero => simp [h.1]
    | succ k =>
      have := run_get (y :: l) h.2 k (by simpa using hk)
      simp only [List.getD_cons_succ, this, List.length_cons]
      simp

theorem incF_last {v : Nat} (hv : 0 < v) : ∀ (m : Nat), incF v (List.replicate m ((v : Int) - 1)) = none
  | 0 => rfl
  | m + 1 => by
    rw [List.replicate_succ]
    simp only [incF, incF_last hv m]
    rw [if_neg (by omega)]

theorem incF_mid {v : Nat} (hv : 0 < v) (d : Int) (hd : d + 1 < v) (m : Nat) : ∀ pre : List Int, incF v (pre ++ d :: List.replicate m ((v : Int) - 1)) = some (pre ++ (d + 1) :: List.replicate m 0)
  | [] => by
    simp only [List.nil_append, incF, incF_last hv m]
    rw [if_pos hd]; simp
  | x :: pre => by
    simp only [List.cons_append, incF, incF_mid hv d hd m pre]

theorem every_mem : ∀ (n v : Nat), ∀ x ∈ every n v, ∀ a ∈ x, 0 ≤ a ∧ a < v
  | 0, v, x, h => by simp [every] at h; simp [h]
  | n + 1, v, x, h => by
    simp only [every, List.mem_flatMap, List.mem_map] at h
    obtain ⟨a, ha, r, hr, rfl⟩ := h
    intro b hb
    rcases List.mem_cons.1 hb with rfl | hb
    · have := List.mem_range.1 ha; omega
    · exact every_mem n v r hr b hb

theorem each_c (n v : Int) : Pure Try.prog 83 [.int .i64 n, .int .i64 v] (.func 113 [.iptr [.int .i64 n] 0, .iptr [.int .i64 v] 0]) := by
  refine Pure.of_c2 follows is83 (Nat.le_of_ble_eq_true rfl) ?_
  simp only [b83, O, G, N, M, D, F, B2, cFal, cTru]
  repeat' (first | apply w_seq | apply w_ops0 | apply w_ret | apply a_n | apply o_nil | (apply o_val rfl rfl; (focus ((try simp (disch := omega) only [simB0, ZA, reduceEqDiff, ↓reduceIte, reduceAdd, reduceLeDiff, ZV, reduceCtorEq]); first | with_reducible rfl | (apply s_ite; (focus omega); with_reducible rfl)))) | (apply e_box rfl; (iterate 2 (focus ((try simp only [simB0, ZA, reduceEqDiff, ↓reduceIte, reduceAdd, reduceLeDiff]); (try with_reducible rfl); done))); (focus (simp only [SO, Bool.and_self, one_encV, one_encVV]))) | (refine e_ends rfl ?_) | (apply r_1; (focus (simp only [rv, simB0, ZA, reduceEqDiff, ↓reduceIte, reduceAdd, reduceLeDiff]; with_reducible rfl))))
  refine snap_func ?_
  (repeat' (first | exact snapL_nil | exact Dat.snap Dat.int | exact Dat.snap Dat.bool | exact Dat.snap Dat.str | exact Dat.snap Dat.esl | exact Dat.snap Dat.nilf | exact Dat.snap (encV_dat _) | exact Dat.snap (encVV_dat _) | apply snapL_cons | apply snap_func | apply snap_iptr | (apply snap_ptr; (focus ((try simp only [simB0, ZA, reduceEqDiff, ↓reduceIte, reduceAdd, reduceLeDiff]); with_reducible rfl)); (focus rfl))))

end Go.Proofs.Ytcbkggfipdldaaa

/- P5: contracts of functions and plain laws; for all inputs that the theorems name. -/
namespace Go.Proofs.Ytcbkggfipdldaaa
open Go Go.Abs
open Nat (reduceEqDiff reduceAdd reduceLeDiff)
attribute [local irreducible] awp2 aops2 ains aloop athen bbind obind gbind acond res1 Go.Abs.Fn PCall Go.Abs.Pure SnapArgs SnapL Yl

theorem zcells_int (n : Nat) : zcells (.agg [.int .i64 0]) n = (List.replicate n (0 : Int)).map (AV.int .i64) := by
  induction n with
  | zero => rfl
  | succ n ih => rw [List.replicate_succ, List.map_cons, ← ih]; simp [zcells, List.replicate_succ, AV.cells]

theorem each_it {y n v : Nat} {H : Hp} {nx : Nat} (hn : 1 ≤ n ∧ n ≤ 1000) (hv : 1 ≤ v ∧ v ≤ 1000) (I : Nat → Hp → Nat → Prop) (Q : Hp → Nat → Prop)
    (stab : ∀ k H H' nx' nx'', I k H nx' → nx' ≤ nx'' → nx ≤ nx' → (∀ i, i < nx' → i ≠ nx → H' i = H i) → I k H' nx'')
    (h0 : I 0 H nx)
    (rnd : ∀ k H' nx', k < (every n v).length → I k H' nx' → nx < nx' → H' nx = some (((every n v).getD k []).map (AV.int .i64)) →
      Yl Try.prog y [.msl nx n 1 0 n] H' nx' fun r H'' nx'' => (r = .bool true ∧ I (k + 1) H'' nx'' ∧ nx < nx'' ∧ nx' ≤ nx'' ∧ H'' nx = H' nx) ∨ (r = .bool false ∧ Q H'' nx'')) :
    Abs.Fn Try.prog 113 [.yld y, .iptr [.int .i64 n] 0, .iptr [.int .i64 v] 0] H nx fun _ H' nx' => Q H' nx' ∨ I (every n v).length H' nx' := by
  refine Abs.Fn.of_c2 follows is113 (Nat.le_of_ble_eq_true rfl) ?_
  simp only [b113, O, G, N, M, D, F, B2, cFal, cTru]
  repeat' (first | apply w_seq | apply w_ops0 | (apply o_val rfl rfl; (focus ((try simp (disch := omega) only [simB0, ZA, reduceEqDiff, ↓reduceIte, reduceAdd, reduceLeDiff, ZV, reduceCtorEq]); first | with_reducible rfl | (apply s_ite; (focus omega); with_reducible rfl)))))
  refine e_mks rfl (by ((try simp only [simB0, ZA, reduceEqDiff, ↓reduceIte, reduceAdd, reduceLeDiff]); (try with_reducible rfl))) (by ((try simp only [simB0, ZA, reduceEqDiff, ↓reduceIte, reduceAdd, reduceLeDiff]); (try with_reducible rfl))) (by omega) (by omega) (by omega) (by omega) ?_
  repeat' (first | apply w_block | apply a_n | apply o_nil | (apply o_val rfl rfl; (focus ((try simp (disch := omega) only [simB0, ZA, reduceEqDiff, ↓reduceIte, reduceAdd, reduceLeDiff, ZV, reduceCtorEq]); first | with_reducible rfl | (apply s_ite; (focus omega); with_reducible rfl)))) | apply w_loop)
  obtain ⟨t, ht⟩ := every_head n v hv.1
  have hrun := run_every n v hv.1
  refine loopI (X := Nat) (fun k => [(0, .yld y), (1, .iptr [.int .i64 n] 0), (2, .iptr [.int .i64 v] 0), (4, .msl nx n 1 0 n)])
    (fun k H' nx' => k < (every n v).length ∧ I k H' nx' ∧ nx < nx' ∧ H' nx = some (((every n v).getD k []).map (AV.int .i64))) (fun k => (every n v).length - k) 0
    ⟨by rw [ht]; simp, stab 0 H _ nx _ h0 (Nat.le_succ _) (Nat.le_refl _) (fun i hi hne => by simp [hupd, hne]), Nat.lt_succ_self _, by rw [hupd_self', zcells_int, ht]; simp⟩ (by simp (disch := omega) only [agr, ZG, reduceEqDiff, ↓reduceIte, Int.toNat_natCast, Nat.mul_one]) ?_
  rintro k H1 nx1 ⟨hk, hI, hnx, hH⟩
  repeat' (first | apply w_seq | apply w_ops0 | apply w_block | (apply o_val rfl rfl; (focus ((try simp (disch := omega) only [simB0, ZA, reduceEqDiff, ↓reduceIte, reduceAdd, reduceLeDiff, ZV, reduceCtorEq]); first | with_reducible rfl | (apply s_ite; (focus omega); with_reducible rfl)))))
  refine o_yield (by ((try simp only [simB0, ZA, reduceEqDiff, ↓reduceIte, reduceAdd, reduceLeDiff]); (try with_reducible rfl))) (by ((try simp only [simB0, ZA, reduceEqDiff, ↓reduceIte, reduceAdd, reduceLeDiff]); (try with_reducible rfl))) (Yl.mono (rnd k H1 nx1 hk hI hnx hH) ?_)
  rintro r H2 nx2 (⟨rfl, hI2, hnx2, hle, hH2⟩ | ⟨rfl, hQ⟩)
  rotate_left
  · repeat' (first | apply w_ret | apply a_n | apply a_r | apply o_nil | (apply o_val rfl rfl; (focus ((try simp (disch := omega) only [simB0, ZA, reduceEqDiff, ↓reduceIte, reduceAdd, reduceLeDiff, ZV, reduceCtorEq]); first | with_reducible rfl | (apply s_ite; (focus omega); with_reducible rfl)))) | (apply w_condT; (focus (simp only [simB0, ZA, reduceEqDiff, ↓reduceIte, reduceAdd, reduceLeDiff]; done))) | (refine e_ends rfl ?_) | apply r_0)
    exact .inl hQ
  · rw [hH] at hH2
    repeat' (first | apply w_seq | apply w_ops0 | apply w_block | apply w_skip | apply a_n | apply o_nil | (apply o_val rfl rfl; (focus ((try simp (disch := omega) only [simB0, ZA, reduceEqDiff, ↓reduceIte, reduceAdd, reduceLeDiff, ZV, reduceCtorEq]); first | with_reducible rfl | (apply s_ite; (focus omega); with_reducible rfl)))) | (apply w_condF; (focus (simp only [simB0, ZA, reduceEqDiff, ↓reduceIte, reduceAdd, reduceLeDiff]; done))) | apply w_loop)
    have hvl : ((every n v).getD k []).length = n := by
      have : (every n v).getD k [] ∈ every n v := mem_getD (l := every n v) hk
      exact every_len n v _ this
    have hvm : ∀ a ∈ (every n v).getD k [], 0 ≤ a ∧ a < v := every_mem n v _ (mem_getD (l := every n v) hk)
    have hget := run_get _ hrun k hk
    generalize hvec : (every n v).getD k [] = vec at hH2 hvl hvm hget
    refine loopI (X := Nat) (fun j => [(0, .yld y), (1, .iptr [.int .i64 n] 0), (2, .iptr [.int .i64 v] 0), (4, .msl nx n 1 0 n), (5, .int .i64 ((j : Int) - 1))])
      (fun j H' nx' => j ≤ n ∧ I (k + 1) H' nx' ∧ nx < nx' ∧ ∃ c : List Int, H' nx = some (c.map (AV.int .i64)) ∧ c.length = n ∧ c = vec.take j ++ List.replicate (n - j) 0 ∧ vec.drop j = List.replicate (n - j) ((v : Int) - 1)) (fun j => j) n
      ⟨Nat.le_refl _, hI2, hnx2, vec, hH2, hvl, by rw [List.take_of_length_le (by omega)]; simp, by rw [List.drop_eq_nil_of_le (by omega)]; simp⟩ (by simp (disch := omega) only [agr, ZG, reduceEqDiff, ↓reduceIte]) ?_
    rintro j H3 nx3 ⟨hj, hI3, hnx3, c, hH3, hc, hcd, hdr⟩
    have hcj : 0 < j → c.getD (j - 1) default = vec.getD (j - 1) default := by
      intro h0
      rw [hcd]
      simp only [List.getD]
      rw [List.getElem?_append_left (by simp; omega), List.getElem?_take, if_pos (by omega)]
    repeat' (first | apply w_seq | apply w_ops0 | apply w_ops1 | apply w_block | apply w_skip | apply w_exit | apply w_ret | apply a_n | apply a_x | apply a_r | apply o_nil | (apply o_val rfl rfl; (focus ((try simp (disch := omega) only [simB0, ZA, reduceEqDiff, ↓reduceIte, reduceAdd, reduceLeDiff, ZV, reduceCtorEq, hH3, hc]); first | with_reducible rfl | (apply s_ite; (focus omega); with_reducible rfl)))) | (apply e_st rfl; (iterate 4 (focus ((try simp only [simB0, ZA, reduceEqDiff, ↓reduceIte, reduceAdd, reduceLeDiff, hH3, hc]); (try with_reducible rfl); done))); (focus (simp only [SO, Bool.and_self, one_encV, one_encVV, hH3, hc])); (iterate 3 (focus ((try simp only [SL, reduceAdd, Nat.reduceMul, List.length_map]); first | done | omega)))) | (apply o_gT; (focus (simp only [simB0, ZA, reduceEqDiff, ↓reduceIte, reduceAdd, reduceLeDiff, hH3, hc]; done))) | (apply o_gF; (focus (simp only [simB0, ZA, reduceEqDiff, ↓reduceIte, reduceAdd, reduceLeDiff, or_true, true_or, hH3, hc]; done))) | (apply w_condF; (focus (simp only [simB0, ZA, reduceEqDiff, ↓reduceIte, reduceAdd, reduceLeDiff, hH3, hc]; done))) | ((first | apply o_gB | apply w_cond); (focus ((try simp only [simB0, ZA, reduceEqDiff, ↓reduceIte, reduceAdd, reduceLeDiff, hH3, hc]); (try with_reducible rfl); done)); all_goals (intro _hg; (try simp only [ZB] at _hg); try first | exact absurd trivial _hg | (exfalso; omega))) | (refine e_ends rfl ?_) | apply r_0)
    · have hj0 : 0 < j := by omega
      have ht1 : ((j : Int) - 1).toNat = j - 1 := by omega
      rw [ht1] at _hg ⊢
      refine ⟨j - 1, by omega, ⟨by omega, stab _ _ _ _ _ hI3 (Nat.le_refl _) (by omega) (fun i _ hne => by simp [hupd, hne]), hnx3, c.set (j - 1) 0, ?_, by simpa using hc, ?_, ?_⟩, by simp (disch := omega) only [agr, ZG, reduceEqDiff, ↓reduceIte, show ((j - 1 : Nat) : Int) = (j : Int) - 1 by omega]⟩
      · rw [hupd_self', lput_map (by omega)]
      · rw [hcd, show n - (j - 1) = (n - j) + 1 by omega, List.replicate_succ]
        have e : vec.take j = vec.take (j - 1) ++ [vec.getD (j - 1) default] := by
          have := take_succ' (l := vec) (k := j - 1) (by omega); rwa [show j - 1 + 1 = j by omega] at this
        rw [e, List.append_assoc, List.set_append_right _ _ (by simp; omega)]
        simp
        rw [show j - 1 - min (j - 1) vec.length = 0 by omega]; rfl
      · have := drop_cons (l := vec) (k := j - 1) (by omega)
        rw [this, show j - 1 + 1 = j by omega, hdr, show n - (j - 1) = (n - j) + 1 by omega, List.replicate_succ, ← hcj hj0, _hg]
    · rename_i _ hg1
      have hj0 : 0 < j := by omega
      have ht1 : ((j : Int) - 1).toNat = j - 1 := by omega
      rw [ht1] at hg1 ⊢
      rw [hcj hj0] at hg1 ⊢
      have hd := hvm _ (mem_getD (l := vec) (k := j - 1) (by omega))
      have hsplit : vec = vec.take (j - 1) ++ vec.getD (j - 1) default :: List.replicate (n - j) ((v : Int) - 1) := by
        rw [← hdr]
        have := drop_cons (l := vec) (k := j - 1) (by omega)
        rw [show j - 1 + 1 = j by omega] at this
        rw [← this, List.take_append_drop]
      have hnext := incF_mid (v := v) (by omega) (vec.getD (j - 1) default) (by omega) (n - j) (vec.take (j - 1))
      rw [← hsplit, hget] at hnext
      split at hnext
      case isFalse => cases hnext
      case isTrue hk1 =>
      injection hnext with hnext
      refine ⟨k + 1, by omega, ⟨hk1, stab _ _ _ _ _ hI3 (Nat.le_refl _) (by omega) (fun i _ hne => by simp [hupd, hne]), hnx3, ?_⟩, by simp (disch := omega) only [agr, ZG, reduceEqDiff, ↓reduceIte]⟩
      rw [hupd_self', wrap64 (by omega) (by omega), lput_map (by omega), hnext, hcd]
      have e : vec.take j = vec.take (j - 1) ++ [vec.getD (j - 1) default] := by
        have := take_succ' (l := vec) (k := j - 1) (by omega); rwa [show j - 1 + 1 = j by omega] at this
      rw [e, List.append_assoc, List.set_append_right _ _ (by simp; omega)]
      congr 2
      simp
      rw [show j - 1 - min (j - 1) vec.length = 0 by omega]; rfl
    · have hj0 : j = 0 := by omega
      subst hj0
      right
      rw [Nat.sub_zero, List.drop_zero] at hdr
      rw [hdr, incF_last (by omega)] at hget
      split at hget
      · cases hget
      · rw [show (every n v).length = k + 1 by omega]; exact hI3

end Go.Proofs.Ytcbkggfipdldaaa

/- P6: contracts of functions and plain laws; for all inputs that the theorems name. -/
namespace Go.Proofs.Ytcbkggfipdldaaa
open Go Go.Abs
open Nat (reduceEqDiff reduceAdd reduceLeDiff)
attribute [local irreducible] awp2 aops2 ains aloop athen bbind obind gbind acond res1 Go.Abs.Fn PCall Go.Abs.Pure SnapArgs SnapL Yl

def cnt (L : List (List Int)) (p : List Int → Bool) : Nat := (L.filter p).length
theorem cnt_snoc (L : List (List Int)) (p : List Int → Bool) (x : List Int) : cnt (L ++ [x]) p = cnt L p + if p x then 1 else 0 := by
  unfold cnt; rw [List.filter_append]; simp [List.filter_cons]; split <;> simp
theorem cnt_mono (L : List (List Int)) (p : List Int → Bool) (k : Nat) : cnt (L.take k) p ≤ cnt L p := by
  unfold cnt
  conv => rhs; rw [← List.take_append_drop k L, List.filter_append, List.length_append]
  omega
theorem every_count (n v : Nat) : (every n v).length = v ^ n := by
  induction n with
  | zero => rfl
  | succ n ih =>
    simp only [every, List.length_flatMap, List.length_map, ih]
    rw [List.map_const', List.sum_replicate_nat, List.length_range, Nat.pow_succ, Nat.mul_comm]

structure Cond (hold : AV) (L : List (List Int)) (p : List Int → Bool) : Prop where
  out : (hold = .nilf ∧ ∀ x, p x = true) ∨ ∃ g caps, hold = .func g caps ∧ (∀ c ∈ caps, Dat c) ∧ ∀ x ∈ L, Pure Try.prog g (encV x :: caps) (.bool (p x))

theorem Cond.dat {hold : AV} {L : List (List Int)} {p : List Int → Bool} (h : Cond hold L p) : Dat hold ∧ hold.cells = [hold] ∧ hold.one = true := by
  rcases h.out with ⟨rfl, _⟩ | ⟨g, caps, rfl, h1, _⟩
  · exact ⟨.nilf, rfl, rfl⟩
  · exact ⟨Dat.func h1, rfl, rfl⟩

theorem one_eq {a b : Int} (h : a = b) : some [AV.int .i64 a] = some [AV.int .i64 b] := by rw [h]

theorem many_c (n v limit : Nat) (hn : 1 ≤ n ∧ n ≤ 1000) (hv : 1 ≤ v ∧ v ≤ 1000) (hl : limit ≤ 1000000) (hold : AV) (p : List Int → Bool) (hc : Cond hold (every n v) p) :
    Pure Try.prog 82 [.int .i64 n, .int .i64 v, hold, .int .i64 limit] (.int .i64 ((min (cnt (every n v) p) (limit + 1) : Nat) : Int)) := by
  refine Pure.of_c2 follows is82 (Nat.le_of_ble_eq_true rfl) ?_
  simp only [b82, O, G, N, M, D, F, B2, cFal, cTru]
  obtain ⟨hd, hcell, hone⟩ := hc.dat
  repeat' (first | apply w_seq | apply w_ops0 | apply w_block | apply a_n | apply o_nil | (apply o_val rfl rfl; (focus ((try simp (disch := omega) only [simB0, ZA, reduceEqDiff, ↓reduceIte, reduceAdd, reduceLeDiff, ZV, reduceCtorEq, hcell, hone]); first | with_reducible rfl | (apply s_ite; (focus omega); with_reducible rfl)))) | (apply o_callD; (iterate 2 (focus ((try simp only [simB0, ZA, reduceEqDiff, ↓reduceIte, reduceAdd, reduceLeDiff, hcell, hone]); (try with_reducible rfl); done))); (focus (first | (exact each_c _ _))); (focus ((first | refine snap_plain ?_ rfl | apply snap_data); repeat' (first | exact snapL_nil | apply snapL_i | apply snapL_dat)))) | (apply e_alloc rfl; (focus ((try simp only [simB0, ZA, reduceEqDiff, ↓reduceIte, reduceAdd, reduceLeDiff, hcell, hone]); (try with_reducible rfl); done)); (focus (simp only [SO, Bool.and_self, one_encV, one_encVV, hcell, hone]))) | (apply e_box rfl; (iterate 2 (focus ((try simp only [simB0, ZA, reduceEqDiff, ↓reduceIte, reduceAdd, reduceLeDiff, hcell, hone]); (try with_reducible rfl); done))); (focus (simp only [SO, Bool.and_self, one_encV, one_encVV, hcell, hone]))) | (apply e_st rfl; (iterate 4 (focus ((try simp only [simB0, ZA, reduceEqDiff, ↓reduceIte, reduceAdd, reduceLeDiff, hcell, hone]); (try with_reducible rfl); done))); (focus (simp only [SO, Bool.and_self, one_encV, one_encVV, hcell, hone])); (iterate 3 (focus ((try simp only [SL, reduceAdd, Nat.reduceMul, List.length_map]); first | done | omega)))))
  refine w_rangeFb 3 4 rfl rfl (by ((try simp only [simB0, ZA, reduceEqDiff, ↓reduceIte, reduceAdd, reduceLeDiff]); (try with_reducible rfl))) (fun c0 cj hy => ?_)
  refine Abs.Fn.mono (each_it hn hv (fun k H nx => 4 ≤ nx ∧ H 0 = some [hold] ∧ H 1 = some [.int .i64 limit] ∧ H 2 = some [.int .i64 (cnt ((every n v).take k) p)] ∧ H 3 = some [c0] ∧ cnt ((every n v).take k) p ≤ limit)
    (fun H nx => H 3 = some [cj (.exit 0)] ∧ H 2 = some [.int .i64 ((limit + 1 : Nat) : Int)] ∧ limit < cnt (every n v) p) ?_ ?_ ?_) ?_
  · rintro k H H' a b ⟨h5, h0, h1, h2, h3, hle⟩ hab _ hs
    exact ⟨by omega, (hs 0 (by omega) (by omega)).trans h0, (hs 1 (by omega) (by omega)).trans h1, (hs 2 (by omega) (by omega)).trans h2, (hs 3 (by omega) (by omega)).trans h3, hle⟩
  · exact ⟨Nat.le_refl _, rfl, rfl, rfl, rfl, Nat.zero_le _⟩
  · rintro k H nx hk ⟨h5, h0, h1, h2, h3, hle⟩ hnx hH
    refine hy _ _ _ _ h3 rfl ?_
    clear hy
    have hmem : (every n v).getD k [] ∈ every n v := mem_getD (l := every n v) hk
    have hlen := every_len n v _ hmem
    have htk : (every n v).take (k + 1) = (every n v).take k ++ [(every n v).getD k []] := take_succ' hk
    have hsn := cnt_snoc ((every n v).take k) p ((every n v).getD k [])
    rw [← htk] at hsn
    have hmo := cnt_mono (every n v) p (k + 1)
    rcases hc.out with ⟨rfl, hp⟩ | ⟨g, caps, rfl, hcd, hg⟩
    · repeat' (first | apply w_ops0 | apply a_n | apply o_nil | (apply o_val rfl rfl; (focus ((try simp (disch := omega) only [simB0, ZA, reduceEqDiff, ↓reduceIte, reduceAdd, reduceLeDiff, ZV, reduceCtorEq, h0, h1, h2, h3]); first | with_reducible rfl | (apply s_ite; (focus omega); with_reducible rfl)))))
      refine ⟨h3, ?_⟩
      repeat' (first | apply w_seq | apply w_ops0 | apply w_block | apply w_skip | apply w_exit | apply a_n | apply a_x | apply o_nil | (apply o_val rfl rfl; (focus ((try simp (disch := omega) only [simB0, ZA, reduceEqDiff, ↓reduceIte, reduceAdd, reduceLeDiff, ZV, reduceCtorEq, h0, h1, h2, h3]); first | with_reducible rfl | (apply s_ite; (focus omega); with_reducible rfl)))) | (apply e_st rfl; (iterate 4 (focus ((try simp only [simB0, ZA, reduceEqDiff, ↓reduceIte, reduceAdd, reduceLeDiff, h0, h1, h2, h3]); (try with_reducible rfl); done))); (focus (simp only [SO, Bool.and_self, one_encV, one_encVV, h0, h1, h2, h3])); (iterate 3 (focus ((try simp only [SL, reduceAdd, Nat.reduceMul, List.length_map]); first | done | omega)))) | (apply o_gF; (focus (simp only [simB0, ZA, reduceEqDiff, ↓reduceIte, reduceAdd, reduceLeDiff, or_true, true_or, h0, h1, h2, h3]; done))) | (apply w_condT; (focus (simp only [simB0, ZA, reduceEqDiff, ↓reduceIte, reduceAdd, reduceLeDiff, h0, h1, h2, h3]; done))) | (apply w_cond; (focus ((try simp only [simB0, ZA, reduceEqDiff, ↓reduceIte, reduceAdd, reduceLeDiff, h0, h1, h2, h3]); (try with_reducible rfl); done)); all_goals (intro _hg; (try simp only [ZB] at _hg); try first | exact absurd trivial _hg | (exfalso; omega))))
      all_goals rw [hp, if_pos rfl] at hsn
      · exact .inr ⟨rfl, rfl, one_eq (by omega), by omega⟩
      · exact .inl ⟨rfl, ⟨by omega, h0, h1, one_eq (by omega), rfl, by omega⟩, by omega, Nat.le_refl _, rfl⟩
    · repeat' (first | apply w_ops0 | apply a_n | apply o_nil | (apply o_val rfl rfl; (focus ((try simp (disch := omega) only [simB0, ZA, reduceEqDiff, ↓reduceIte, reduceAdd, reduceLeDiff, ZV, reduceCtorEq, h0, h1, h2, h3]); first | with_reducible rfl | (apply s_ite; (focus omega); with_reducible rfl)))))
      refine ⟨h3, ?_⟩
      repeat' (first | apply w_seq | apply w_ops0 | apply w_block | (apply o_val rfl rfl; (focus ((try simp (disch := omega) only [simB0, ZA, reduceEqDiff, ↓reduceIte, reduceAdd, reduceLeDiff, ZV, reduceCtorEq, h0, h1, h2, h3]); first | with_reducible rfl | (apply s_ite; (focus omega); with_reducible rfl)))) | (apply o_gT; (focus (simp only [simB0, ZA, reduceEqDiff, ↓reduceIte, reduceAdd, reduceLeDiff, h0, h1, h2, h3]; done))))
      refine o_callP (by ((try simp only [simB0, ZA, reduceEqDiff, ↓reduceIte, reduceAdd, reduceLeDiff, h0]); (try with_reducible rfl))) (by ((try simp only [simB0, ZA, reduceEqDiff, ↓reduceIte, reduceAdd, reduceLeDiff]); (try with_reducible rfl))) (hg _ hmem) (snap_plain (snapL_cons (snap_row (by ((try simp only [simB0, ZA, reduceEqDiff, ↓reduceIte, reduceAdd, reduceLeDiff, hH]); (try with_reducible rfl))) rfl hlen) (snapL_datL hcd)) rfl) ?_
      repeat' (first | apply w_seq | apply w_ops0 | apply w_skip | apply w_exit | apply a_n | apply a_x | apply o_nil | (apply o_val rfl rfl; (focus ((try simp (disch := omega) only [simB0, ZA, reduceEqDiff, ↓reduceIte, reduceAdd, reduceLeDiff, ZV, reduceCtorEq, h0, h1, h2, h3]); first | with_reducible rfl | (apply s_ite; (focus omega); with_reducible rfl)))) | (apply e_st rfl; (iterate 4 (focus ((try simp only [simB0, ZA, reduceEqDiff, ↓reduceIte, reduceAdd, reduceLeDiff, h0, h1, h2, h3]); (try with_reducible rfl); done))); (focus (simp only [SO, Bool.and_self, one_encV, one_encVV, h0, h1, h2, h3])); (iterate 3 (focus ((try simp only [SL, reduceAdd, Nat.reduceMul, List.length_map]); first | done | omega)))) | (apply w_cond; (focus ((try simp only [simB0, ZA, reduceEqDiff, ↓reduceIte, reduceAdd, reduceLeDiff, h0, h1, h2, h3]); (try with_reducible rfl); done)); all_goals (intro _hg; (try simp only [ZB] at _hg); try first | exact absurd trivial _hg | (exfalso; omega))))
      · rename_i hg1
        rw [hg1, if_pos rfl] at hsn
        exact .inr ⟨rfl, rfl, one_eq (by omega), by omega⟩
      · rename_i hg1
        rw [hg1, if_pos rfl] at hsn
        exact .inl ⟨rfl, ⟨by omega, h0, h1, one_eq (by omega), rfl, by omega⟩, by omega, Nat.le_refl _, rfl⟩
      · rename_i hg1
        rw [hg1, if_neg (by simp)] at hsn
        exact .inl ⟨rfl, ⟨by omega, h0, h1, h2.trans (one_eq (by omega)), rfl, by omega⟩, by omega, Nat.le_refl _, rfl⟩
  · rintro r H nx (⟨h3, h2, hgt⟩ | ⟨h5, h0, h1, h2, h3, hle⟩)
    · right
      refine ⟨.exit 0, by simp, h3, ?_⟩
      repeat' (first | apply w_seq | apply w_ops0 | apply w_ret | apply a_n | apply o_nil | (apply o_val rfl rfl; (focus ((try simp (disch := omega) only [simB0, ZA, reduceEqDiff, ↓reduceIte, reduceAdd, reduceLeDiff, ZV, reduceCtorEq, h2]); first | with_reducible rfl | (apply s_ite; (focus omega); with_reducible rfl)))) | (refine e_ends rfl ?_) | (apply r_1; (focus (simp only [rv, simB0, ZA, reduceEqDiff, ↓reduceIte, reduceAdd, reduceLeDiff, h2]; with_reducible rfl))))
      exact snap_int (by omega)
    · left
      refine ⟨h3, ?_⟩
      repeat' (first | apply w_seq | apply w_ops0 | apply w_ret | apply a_n | apply o_nil | (apply o_val rfl rfl; (focus ((try simp (disch := omega) only [simB0, ZA, reduceEqDiff, ↓reduceIte, reduceAdd, reduceLeDiff, ZV, reduceCtorEq, h2]); first | with_reducible rfl | (apply s_ite; (focus omega); with_reducible rfl)))) | (refine e_ends rfl ?_) | (apply r_1; (focus (simp only [rv, simB0, ZA, reduceEqDiff, ↓reduceIte, reduceAdd, reduceLeDiff, h2]; with_reducible rfl))))
      rw [List.take_of_length_le (Nat.le_refl _)] at hle ⊢
      exact snap_int (by omega)

end Go.Proofs.Ytcbkggfipdldaaa

/- P7: contracts of functions and plain laws; for all inputs that the theorems name. -/
namespace Go.Proofs.Ytcbkggfipdldaaa
open Go Go.Abs
open Nat (reduceEqDiff reduceAdd reduceLeDiff)
attribute [local irreducible] awp2 aops2 ains aloop athen bbind obind gbind acond res1 Go.Abs.Fn PCall Go.Abs.Pure SnapArgs SnapL Yl

/-! ### tasks -/
structure CaseV where
  inp : List Int
  out : List (List Int)
  calm : List (List Int)
  deriving Inhabited, DecidableEq
structure TaskV where
  n : Int
  ins : Int
  outs : Int
  cases : List CaseV
  deriving Inhabited, DecidableEq
def encC (c : CaseV) : AV := .agg [encV c.inp, encVV c.out, encVV c.calm]
def encCs (l : List CaseV) : AV := .sl 3 (l.map encC)
def encT (t : TaskV) : AV := .agg [.int .i64 t.n, .int .i64 t.ins, .int .i64 t.outs, encCs t.cases]
def T00 : TaskV := ⟨0, 0, 0, []⟩

structure KindV where
  n : Nat
  ins : Nat
  outs : Nat
  hasC : Bool
  pc : List Int → Bool
  pa : List Int → List Int → Bool
  pm : List Int → List Int → Bool
def caseOf (k : KindV) (i : List Int) : CaseV := ⟨i, (every k.n k.outs).filter (k.pa i), (every k.n k.outs).filter fun o => k.pa i o && k.pm i o⟩
def casesOf (k : KindV) (l : List (List Int)) : List CaseV := (l.filter k.pc).map (caseOf k)
def taskOf (k : KindV) : TaskV × Int :=
  if cnt (every k.n k.ins) k.pc = 0 then (T00, 16) else if k.hasC = true ∧ k.outs < k.n then (T00, 16) else if 1024 < cnt (every k.n k.ins) k.pc then (T00, 17) else
  if (casesOf k (every k.n k.ins)).any (fun c => decide (1024 < c.out.length)) then (T00, 17) else (⟨k.n, k.ins, k.outs, casesOf k (every k.n k.ins)⟩, 0)

structure Cond2 (f : AV) (L M : List (List Int)) (p : List Int → List Int → Bool) : Prop where
  out : ∃ g caps, f = .func g caps ∧ (∀ c ∈ caps, Dat c) ∧ ∀ x ∈ L, ∀ y ∈ M, Pure Try.prog g (encV x :: encV y :: caps) (.bool (p x y))
theorem Cond2.dat {f : AV} {L M : List (List Int)} {p : List Int → List Int → Bool} (h : Cond2 f L M p) : Dat f ∧ f.cells = [f] ∧ f.one = true := by
  obtain ⟨g, caps, rfl, h1, _⟩ := h.out
  exact ⟨Dat.func h1, rfl, rfl⟩

theorem snapErr {H : Hp} (e : Int) : Snap H (.tup [.agg [.int .i64 0, .int .i64 0, .int .i64 0, .esl], .int .i64 e]) (.tup [encT T00, .int .i64 e]) := by
  refine snap_tup (snapL_cons (snap_agg ?_) (snapL_cons (.int _ _) snapL_nil))
  exact snapL_cons (.int _ _) (snapL_cons (.int _ _) (snapL_cons (.int _ _) (snapL_cons (.eslsl 3) snapL_nil)))

def MadeI (k : KindV) (kc : List AV) (cs : List CaseV) (H : Hp) (nx : Nat) : Prop := 5 ≤ nx ∧ H 0 = some kc ∧ H 1 = some [.int .i64 0, .int .i64 0, .int .i64 0, .esl] ∧ H 2 = some [.int .i64 0] ∧
  ∃ s, H 3 = some [.int .i64 k.n, .int .i64 k.ins, .int .i64 k.outs, s] ∧ Row H 3 s ((cs.map encC).flatMap AV.cells) ∧ (∀ b, rowB s = some b → 6 ≤ b ∧ b < nx) ∧ ∀ c ∈ cs, c.out.length ≤ 1024

theorem MadeI.stab {k : KindV} {kc : List AV} {cs : List CaseV} {H H' : Hp} {nx nx' : Nat} (h : MadeI k kc cs H nx) (hn : nx ≤ nx') (hs : ∀ i, i < nx → i ≠ 5 → i ≠ 4 → H' i = H i) : MadeI k kc cs H' nx' := by
  obtain ⟨h5, h0, h1, h2, s, h3, hr, hb, hc⟩ := h
  refine ⟨by omega, (hs 0 (by omega) (by omega) (by omega)).trans h0, (hs 1 (by omega) (by omega) (by omega)).trans h1, (hs 2 (by omega) (by omega) (by omega)).trans h2, s, (hs 3 (by omega) (by omega) (by omega)).trans h3, hr.same (fun b hb' => ?_), fun b hb' => ?_, hc⟩
  · have := hb b hb'; exact hs b (by omega) (by omega) (by omega)
  · have := hb b hb'; omega

def InI (k : KindV) (A : Hp) (a : Nat) (vec : List Int) (outs calm : List (List Int)) (H : Hp) (nx : Nat) : Prop := a + 3 ≤ nx ∧ (∀ x, x < a → x ≠ 4 → H x = A x) ∧ H a = some [.msl 5 k.n 1 0 k.n] ∧
  ∃ so sc, H (a + 1) = some [encV vec, so, sc] ∧ Row H 1 so (outs.map encV) ∧ Row H 1 sc (calm.map encV) ∧ (∀ b, rowB so = some b → a + 4 ≤ b ∧ b < nx) ∧ (∀ b, rowB sc = some b → a + 4 ≤ b ∧ b < nx) ∧ (∀ b, rowB so = some b → rowB sc ≠ some b) ∧ outs.length ≤ 1024 ∧ calm.length ≤ outs.length

theorem InI.stab {k : KindV} {A : Hp} {a : Nat} {vec : List Int} {outs calm : List (List Int)} {H H' : Hp} {nx nx' : Nat} (h : InI k A a vec outs calm H nx) (hn : nx ≤ nx') (hs : ∀ i, i < nx → i ≠ a + 2 → i ≠ a + 3 → H' i = H i) : InI k A a vec outs calm H' nx' := by
  obtain ⟨h1, h2, h3, so, sc, h4, h5, h6, h7, h8, h9, h10⟩ := h
  refine ⟨by omega, fun x hx h4' => (hs x (by omega) (by omega) (by omega)).trans (h2 x hx h4'), (hs a (by omega) (by omega) (by omega)).trans h3, so, sc, (hs (a + 1) (by omega) (by omega) (by omega)).trans h4, h5.same (fun b hb => ?_), h6.same (fun b hb => ?_), fun b hb => ?_, fun b hb => ?_, h9, h10⟩
  · have := h7 b hb; exact hs b (by omega) (by omega) (by omega)
  · have := h8 b hb; exact hs b (by omega) (by omega) (by omega)
  · have := h7 b hb; omega
  · have := h8 b hb; omega

theorem InI.put1 {k : KindV} {A D E : Hp} {a d e : Nat} {vec w : List Int} {outs calm : List (List Int)} {so sc s2 c1 : AV} (q : a + 4 ≤ d) (r2 : ∀ x, x < a → x ≠ 4 → D x = A x) (r3 : D a = some [.msl 5 k.n 1 0 k.n])
    (r6 : Row D 1 sc (calm.map encV)) (r7 : ∀ b, rowB so = some b → a + 4 ≤ b ∧ b < d) (r8 : ∀ b, rowB sc = some b → a + 4 ≤ b ∧ b < d) (r9 : ∀ b, rowB so = some b → rowB sc ≠ some b) (r10 : outs.length < 1024) (r11 : calm.length ≤ outs.length)
    (hrow : Row E 1 s2 (outs.map encV ++ [encV w])) (hle : d ≤ e) (hs : ∀ i, i < d → i ≠ a + 2 → rowB so ≠ some i → E i = D i) (hb : ∀ b, rowB s2 = some b → rowB so = some b ∨ d ≤ b ∧ b < e) :
    InI k A a vec (outs ++ [w]) calm (hupd (hupd E (a + 1) [encV vec, s2, sc]) (a + 2) [c1]) e ∧ E (a + 3) = D (a + 3) := by
  have hf : ∀ x, x < a + 4 → x ≠ a + 2 → E x = D x := fun x hx h2 => hs x (by omega) h2 (fun h => by have := r7 x h; omega)
  have h4 : ∀ b, rowB s2 = some b → a + 4 ≤ b ∧ b < e := fun b h => by
    rcases hb b h with h | h
    · have := r7 b h; omega
    · omega
  refine ⟨⟨by omega, fun x hx h => ?_, ?_, s2, sc, ?_, ?_, ?_, h4, fun b h => ?_, fun b h h' => ?_, by simp; omega, by simp; omega⟩, hf _ (by omega) (by omega)⟩
  · rw [hupd_ne (by omega), hupd_ne (by omega), hf x (by omega) (by omega), r2 x hx h]
  · rw [hupd_ne (by omega), hupd_ne (by omega), hf a (by omega) (by omega), r3]
  · rw [hupd_ne (by omega), hupd_self']
  · rw [List.map_append]
    refine hrow.same fun b h => ?_
    have := h4 b h
    rw [hupd_ne (by omega), hupd_ne (by omega)]
  · refine r6.same fun b h => ?_
    have := r8 b h
    rw [hupd_ne (by omega), hupd_ne (by omega)]
    exact hs b (by omega) (by omega) (fun h' => r9 b h' h)
  · have := r8 b h; omega
  · rcases hb b h with h2 | h2
    · exact r9 b h2 h'
    · have := r8 b h'; omega

theorem InI.put2 {k : KindV} {A D E : Hp} {a d e : Nat} {vec w : List Int} {outs calm : List (List Int)} {so sc s2 c1 : AV} (q : a + 4 ≤ d) (r2 : ∀ x, x < a → x ≠ 4 → D x = A x) (r3 : D a = some [.msl 5 k.n 1 0 k.n])
    (r5 : Row D 1 so (outs.map encV)) (r7 : ∀ b, rowB so = some b → a + 4 ≤ b ∧ b < d) (r8 : ∀ b, rowB sc = some b → a + 4 ≤ b ∧ b < d) (r9 : ∀ b, rowB so = some b → rowB sc ≠ some b) (r10 : outs.length ≤ 1024) (r11 : calm.length < outs.length)
    (hrow : Row E 1 s2 (calm.map encV ++ [encV w])) (hle : d ≤ e) (hs : ∀ i, i < d → i ≠ a + 2 → rowB sc ≠ some i → E i = D i) (hb : ∀ b, rowB s2 = some b → rowB sc = some b ∨ d ≤ b ∧ b < e) :
    InI k A a vec outs (calm ++ [w]) (hupd (hupd E (a + 1) [encV vec, so, s2]) (a + 2) [c1]) e ∧ E (a + 3) = D (a + 3) := by
  have hf : ∀ x, x < a + 4 → x ≠ a + 2 → E x = D x := fun x hx h2 => hs x (by omega) h2 (fun h => by have := r8 x h; omega)
  have h4 : ∀ b, rowB s2 = some b → a + 4 ≤ b ∧ b < e := fun b h => by
    rcases hb b h with h | h
    · have := r8 b h; omega
    · omega
  refine ⟨⟨by omega, fun x hx h => ?_, ?_, so, s2, ?_, ?_, ?_, fun b h => ?_, h4, fun b h h' => ?_, by omega, by simp; omega⟩, hf _ (by omega) (by omega)⟩
  · rw [hupd_ne (by omega), hupd_ne (by omega), hf x (by omega) (by omega), r2 x hx h]
  · rw [hupd_ne (by omega), hupd_ne (by omega), hf a (by omega) (by omega), r3]
  · rw [hupd_ne (by omega), hupd_self']
  · refine r5.same fun b h => ?_
    have := r7 b h
    rw [hupd_ne (by omega), hupd_ne (by omega)]
    exact hs b (by omega) (by omega) (fun h' => r9 b h h')
  · rw [List.map_append]
    refine hrow.same fun b h => ?_
    have := h4 b h
    rw [hupd_ne (by omega), hupd_ne (by omega)]
  · have := r7 b h; omega
  · rcases hb b h' with h2 | h2
    · exact r9 b h h2
    · have := r7 b h; omega

def hkeep (B : Nat → Bool) (H : Hp) : Hp := fun b => if B b = true then H b else none
def hdrop (B : Nat → Bool) (H : Hp) : Hp := fun b => if B b = true then none else H b
theorem CellsTo.nil {Hf : Hp} : CellsTo Hf [] [] := CellsTo.refl _ _
theorem CellsTo.cons {Hf : Hp} {x x' : AV} {cs cs' : List AV} (h : x' = x ∨ Snap Hf x x') (h2 : CellsTo Hf cs cs') : CellsTo Hf (x :: cs) (x' :: cs') := by
  refine ⟨by simp [h2.1], fun i y y' e1 e2 => ?_⟩
  cases i with
  | zero => simp at e1 e2; subst e1 e2; exact h
  | succ i => simp at e1 e2; exact h2.2 i y y' e1 e2
theorem Fz.put {H : Hp} {B : Nat → Bool} {x : Nat} {cs cs' : List AV} (hx : B x = false) (h : H x = some cs) (hc : CellsTo (hkeep B H) cs cs') : Fz (hkeep B H) H (hupd (hdrop B H) x cs') := by
  refine ⟨fun b c hb => ?_, fun b c hb => ?_⟩
  · unfold hkeep at hb; split at hb
    · exact hb
    · cases hb
  · by_cases e : b = x
    · subst e
      rw [hupd_self'] at hb
      cases hb
      exact ⟨cs, h, by simp [hkeep, hx], hc⟩
    · rw [hupd_ne e] at hb
      unfold hdrop at hb; split at hb
      · cases hb
      · rename_i hB
        exact ⟨c, hb, by simp [hkeep, hB], CellsTo.refl _ _⟩
theorem hdrop_at {B : Nat → Bool} {H : Hp} {x : Nat} (h : B x = false) : hdrop B H x = H x := by simp [hdrop, h]
theorem Row_keep {H : Hp} {sz : Nat} {s : AV} {cs : List AV} {B : Nat → Bool} (h : Row H sz s cs) (hb : ∀ b, rowB s = some b → B b = true) : Row (hkeep B H) sz s cs := h.same fun b e => by simp [hkeep, hb b e]

theorem asrc_three {H : Hp} {d : Nat} {x y z : AV} : asrc 3 (hupd H d [x, y, z]) (.msl d 3 3 0 1) = some (1, [x, y, z]) := asrc_msl (n := 3) (len := 1) (off := 0) (cs := [x, y, z]) hupd_self' rfl (by simp)

theorem asrc_one {H : Hp} {d : Nat} {x : AV} : asrc 1 (hupd H d [x]) (.msl d 1 1 0 1) = some (1, [x]) := asrc_msl (n := 1) (len := 1) (off := 0) (cs := [x]) hupd_self' rfl (by simp)

theorem made_c (k : KindV) (hn : 1 ≤ k.n ∧ k.n ≤ 5) (hi : 1 ≤ k.ins ∧ k.ins ≤ 8) (ho : 1 ≤ k.outs ∧ k.outs ≤ 8) (kk : Int) (hk : kk = -1 ∨ 1 ≤ kk ∧ kk ≤ k.n) (fc fa fm : AV)
    (hc : Cond fc (every k.n k.ins) k.pc) (hcc : k.hasC = true ↔ fc ≠ .nilf) (ha : Cond2 fa (every k.n k.ins) (every k.n k.outs) k.pa) (hm : (fm = .nilf ∧ ∀ x y, k.pm x y = false) ∨ Cond2 fm (every k.n k.ins) (every k.n k.outs) k.pm) :
    Pure Try.prog 45 [.agg [.int .i64 k.n, .int .i64 k.ins, .int .i64 k.outs, .int .i64 kk, fc, fa, fm]] (.tup [encT (taskOf k).1, .int .i64 (taskOf k).2]) := by
  refine Pure.of_c2 follows is45 (Nat.le_of_ble_eq_true rfl) ?_
  simp only [b45, O, G, N, M, D, F, B2, cFal, cTru]
  obtain ⟨hd1, hc1, ho1⟩ := hc.dat
  obtain ⟨hd2, hc2, ho2⟩ := ha.dat
  have hd3 : Dat fm ∧ fm.cells = [fm] ∧ fm.one = true := by
    rcases hm with ⟨rfl, _⟩ | hm
    · exact ⟨.nilf, rfl, rfl⟩
    · exact hm.dat
  obtain ⟨hd3, hc3, ho3⟩ := hd3
  have hfc : ∀ tb, abin2 .neq tb true fc .nilf = some (.bool k.hasC) := by
    rcases hc.out with ⟨rfl, _⟩ | ⟨g, caps, rfl, _⟩
    · have : k.hasC = false := by cases h : k.hasC with | false => rfl | true => exact absurd rfl (hcc.1 h)
      intro tb; rw [this]; rfl
    · have : k.hasC = true := hcc.2 (by simp)
      intro tb; rw [this]; rfl
  have hH0 : ∃ H0 : Hp, H0 = hupd (hupd (hupd noBoxes 0 [.int .i64 k.n, .int .i64 k.ins, .int .i64 k.outs, .int .i64 kk, fc, fa, fm]) 1 [.int .i64 0, .int .i64 0, .int .i64 0, .esl]) 2 [.int .i64 0] := ⟨_, rfl⟩
  obtain ⟨H0, hH0⟩ := hH0
  have g0 : H0 0 = some [.int .i64 k.n, .int .i64 k.ins, .int .i64 k.outs, .int .i64 kk, fc, fa, fm] := by rw [hH0]; rfl
  have g1 : H0 1 = some [.int .i64 0, .int .i64 0, .int .i64 0, .esl] := by rw [hH0]; rfl
  have g2 : H0 2 = some [.int .i64 0] := by rw [hH0]; rfl
  have gn : ∀ i, 3 ≤ i → H0 i = none := by intro i hi; rw [hH0, hupd_ne (by omega), hupd_ne (by omega), hupd_ne (by omega)]; rfl
  refine w_seq ?_
  repeat' (first | apply w_ops0 | apply a_n | apply o_nil | (apply e_alloc rfl; (focus ((try simp only [simB0, ZA, reduceEqDiff, ↓reduceIte, reduceAdd, reduceLeDiff, ho1, ho2, ho3]); (try with_reducible rfl); done)); (focus (simp only [SO, Bool.and_self, one_encV, one_encVV, ho1, ho2, ho3]))) | (apply e_box rfl; (iterate 2 (focus ((try simp only [simB0, ZA, reduceEqDiff, ↓reduceIte, reduceAdd, reduceLeDiff, ho1, ho2, ho3]); (try with_reducible rfl); done))); (focus (simp only [SO, Bool.and_self, one_encV, one_encVV, ho1, ho2, ho3]))))
  refine w_seqC (fun T H nx => H = H0 ∧ nx = 3 ∧ T 1 = .ptr 0 7 0 ∧ T 2 = .ptr 1 4 0 ∧ T 3 = .ptr 2 1 0) ?_ ?_
  · clear g0 g1 g2 gn
    repeat' (first | apply w_seq | apply w_ops0 | apply w_block | apply w_skip | apply a_n | apply o_nil | (apply o_val rfl rfl; (focus ((try simp (disch := omega) only [simB0, ZA, reduceEqDiff, ↓reduceIte, reduceAdd, reduceLeDiff, ZV, reduceCtorEq, ho1, ho2, ho3]); first | with_reducible rfl | (apply s_ite; (focus omega); with_reducible rfl)))) | (apply o_callD; (iterate 2 (focus ((try simp only [simB0, ZA, reduceEqDiff, ↓reduceIte, reduceAdd, reduceLeDiff, ho1, ho2, ho3]); (try with_reducible rfl); done))); (focus (first | (exact between_c _ _ _))); (focus ((first | refine snap_plain ?_ rfl | apply snap_data); repeat' (first | exact snapL_nil | apply snapL_i | apply snapL_dat)))) | (apply o_gT; (focus (simp only [simB0, ZA, reduceEqDiff, ↓reduceIte, reduceAdd, reduceLeDiff, ho1, ho2, ho3]; done))) | (apply o_gF; (focus (simp only [simB0, ZA, reduceEqDiff, ↓reduceIte, reduceAdd, reduceLeDiff, or_true, true_or, ho1, ho2, ho3]; done))) | (apply w_condF; (focus (simp only [simB0, ZA, reduceEqDiff, ↓reduceIte, reduceAdd, reduceLeDiff, ho1, ho2, ho3]; done))) | ((first | apply o_gB | apply w_cond); (focus ((try simp only [simB0, ZA, reduceEqDiff, ↓reduceIte, reduceAdd, reduceLeDiff, ho1, ho2, ho3]); (try with_reducible rfl); done)); all_goals (intro _hg; (try simp only [ZB] at _hg); try first | exact absurd trivial _hg | (exfalso; omega))))
    all_goals exact ⟨hH0.symm, rfl, rfl, rfl, rfl⟩
  · rintro T H nx ⟨rfl, rfl, t1, t2, t3⟩
    clear hH0
    refine w_seqC (fun T H' nx => H' = H ∧ nx = 3 ∧ T 1 = .ptr 0 7 0 ∧ T 2 = .ptr 1 4 0 ∧ T 3 = .ptr 2 1 0 ∧ 0 < cnt (every k.n k.ins) k.pc ∧ cnt (every k.n k.ins) k.pc ≤ 1024 ∧ ¬ (k.hasC = true ∧ k.outs < k.n)) ?_ ?_
    · repeat' (first | apply w_seq | apply w_ops0 | apply w_block | apply w_skip | apply w_ret | apply a_n | apply a_r | apply o_nil | (apply o_val rfl rfl; (focus ((try simp (disch := omega) only [simB0, ZA, reduceEqDiff, ↓reduceIte, reduceAdd, reduceLeDiff, ZV, reduceCtorEq, t1, t2, t3, g0, g1, g2, hfc, ho1, ho2, ho3]); first | with_reducible rfl | (apply s_ite; (focus omega); with_reducible rfl)))) | (apply o_callD; (iterate 2 (focus ((try simp only [simB0, ZA, reduceEqDiff, ↓reduceIte, reduceAdd, reduceLeDiff, t1, t2, t3, g0, g1, g2, hfc, ho1, ho2, ho3]); (try with_reducible rfl); done))); (focus (first | (exact many_c _ _ 1024 (by omega) (by omega) (by omega) _ _ hc))); (focus ((first | refine snap_plain ?_ rfl | apply snap_data); repeat' (first | exact snapL_nil | apply snapL_i | apply snapL_dat | exact hd1)))) | (apply e_st rfl; (iterate 4 (focus ((try simp only [simB0, ZA, reduceEqDiff, ↓reduceIte, reduceAdd, reduceLeDiff, t1, t2, t3, g0, g1, g2, hfc, ho1, ho2, ho3]); (try with_reducible rfl); done))); (focus (simp only [SO, Bool.and_self, one_encV, one_encVV, t1, t2, t3, g0, g1, g2, hfc, ho1, ho2, ho3])); (iterate 3 (focus ((try simp only [SL, reduceAdd, Nat.reduceMul, List.length_map]); first | done | omega)))) | (apply o_gT; (focus (simp only [simB0, ZA, reduceEqDiff, ↓reduceIte, reduceAdd, reduceLeDiff, t1, t2, t3, g0, g1, g2, hfc, ho1, ho2, ho3]; done))) | (apply o_gF; (focus (simp only [simB0, ZA, reduceEqDiff, ↓reduceIte, reduceAdd, reduceLeDiff, or_true, true_or, t1, t2, t3, g0, g1, g2, hfc, ho1, ho2, ho3]; done))) | (apply w_condF; (focus (simp only [simB0, ZA, reduceEqDiff, ↓reduceIte, reduceAdd, reduceLeDiff, t1, t2, t3, g0, g1, g2, hfc, ho1, ho2, ho3]; done))) | ((first | apply o_gB | apply w_cond); (focus ((try simp only [simB0, ZA, reduceEqDiff, ↓reduceIte, reduceAdd, reduceLeDiff, t1, t2, t3, g0, g1, g2, hfc, ho1, ho2, ho3]); (try with_reducible rfl); done)); all_goals (intro _hg; (try simp only [ZB] at _hg); try first | exact absurd trivial _hg | (exfalso; omega))) | (refine e_ends rfl ?_) | (apply r_2; (iterate 2 (focus (simp only [rv, simB0, ZA, reduceEqDiff, ↓reduceIte, reduceAdd, reduceLeDiff, t1, t2, t3, g0, g1, g2, hfc, ho1, ho2, ho3]; with_reducible rfl)))))
      · have e : taskOf k = (T00, 16) := by unfold taskOf; rw [if_pos (by omega)]
        rw [e]; exact snapErr 16
      · have e : taskOf k = (T00, 16) := by unfold taskOf; rw [if_neg (by omega), if_pos ⟨by assumption, by omega⟩]
        rw [e]; exact snapErr 16
      · have e : taskOf k = (T00, 17) := by unfold taskOf; rw [if_neg (by omega), if_neg (fun h => by omega), if_pos (by omega)]
        rw [e]; exact snapErr 17
      · exact ⟨rfl, rfl, t1, t2, t3, by omega, by omega, fun h => by omega⟩
      · have e : taskOf k = (T00, 17) := by unfold taskOf; rw [if_neg (by omega), if_neg (fun h => by simp_all), if_pos (by omega)]
        rw [e]; exact snapErr 17
      · exact ⟨rfl, rfl, t1, t2, t3, by omega, by omega, fun h => by simp_all⟩
    · clear t1 t2 t3
      rintro T H' nx ⟨rfl, rfl, t1, t2, t3, c1, c2, c3⟩
      refine w_seq ?_
      repeat' (first | apply w_ops0 | apply a_n | apply o_nil | (apply o_val rfl rfl; (focus ((try simp (disch := omega) only [simB0, ZA, reduceEqDiff, ↓reduceIte, reduceAdd, reduceLeDiff, ZV, reduceCtorEq, t1, t2, t3, g0, g1, g2, ho1, ho2, ho3]); first | with_reducible rfl | (apply s_ite; (focus omega); with_reducible rfl)))) | (apply e_alloc rfl; (focus ((try simp only [simB0, ZA, reduceEqDiff, ↓reduceIte, reduceAdd, reduceLeDiff, t1, t2, t3, g0, g1, g2, ho1, ho2, ho3]); (try with_reducible rfl); done)); (focus (simp only [SO, Bool.and_self, one_encV, one_encVV, t1, t2, t3, g0, g1, g2, ho1, ho2, ho3]))) | (apply e_st rfl; (iterate 4 (focus ((try simp only [simB0, ZA, reduceEqDiff, ↓reduceIte, reduceAdd, reduceLeDiff, t1, t2, t3, g0, g1, g2, ho1, ho2, ho3]); (try with_reducible rfl); done))); (focus (simp only [SO, Bool.and_self, one_encV, one_encVV, t1, t2, t3, g0, g1, g2, ho1, ho2, ho3])); (iterate 3 (focus ((try simp only [SL, reduceAdd, Nat.reduceMul, List.length_map]); first | done | omega)))))
      have hlc : ∀ l : List CaseV, (∀ y ∈ l.map encC, y.cells.length = 3) := by
        intro l y hy; simp at hy; obtain ⟨c, _, rfl⟩ := hy; rfl
      have hmany : ∀ i, ((casesOf k ((every k.n k.ins).take i)).length ≤ 1024) := by
        intro i; unfold casesOf; rw [List.length_map]; exact Nat.le_trans (cnt_mono _ _ i) c2
      refine w_seqC (fun T' H' nx' => T' 2 = .ptr 1 4 0 ∧ T' 3 = .ptr 2 1 0 ∧ T' 5 = .ptr 3 4 0 ∧ H' 1 = some [.int .i64 0, .int .i64 0, .int .i64 0, .esl] ∧ H' 2 = some [.int .i64 0] ∧
        ∃ s, H' 3 = some [.int .i64 k.n, .int .i64 k.ins, .int .i64 k.outs, s] ∧ Row H' 3 s (((casesOf k (every k.n k.ins)).map encC).flatMap AV.cells) ∧ (∀ b, rowB s = some b → 6 ≤ b) ∧ ∀ c ∈ casesOf k (every k.n k.ins), c.out.length ≤ 1024) ?_ ?_
      rotate_left
      · rintro T' H' nx' ⟨u2, u3, u5, e1, e2, s, e3, hrow, hb6, hall⟩
        obtain ⟨hso, hsc⟩ := hrow.one
        repeat' (first | apply w_seq | apply w_ops0 | apply w_ret | apply a_n | apply o_nil | (apply o_val rfl rfl; (focus ((try simp (disch := omega) only [simB0, ZA, reduceEqDiff, ↓reduceIte, reduceAdd, reduceLeDiff, ZV, reduceCtorEq, u2, u3, u5, e1, e2, e3, hso, hsc]); first | with_reducible rfl | (apply s_ite; (focus omega); with_reducible rfl)))) | (apply e_st rfl; (iterate 4 (focus ((try simp only [simB0, ZA, reduceEqDiff, ↓reduceIte, reduceAdd, reduceLeDiff, u2, u3, u5, e1, e2, e3, hso, hsc]); (try with_reducible rfl); done))); (focus (simp only [SO, Bool.and_self, one_encV, one_encVV, u2, u3, u5, e1, e2, e3, hso, hsc])); (iterate 3 (focus ((try simp only [SL, reduceAdd, Nat.reduceMul, List.length_map]); first | done | omega)))) | (refine e_ends rfl ?_) | (apply r_2; (iterate 2 (focus (simp only [rv, simB0, ZA, reduceEqDiff, ↓reduceIte, reduceAdd, reduceLeDiff, u2, u3, u5, e1, e2, e3, hso, hsc]; with_reducible rfl)))))
        have e : taskOf k = (⟨k.n, k.ins, k.outs, casesOf k (every k.n k.ins)⟩, 0) := by
          unfold taskOf
          rw [if_neg (by omega), if_neg c3, if_neg (by omega), if_neg]
          rw [List.any_eq_true]
          rintro ⟨c, hc1, hc2⟩
          have := hall c hc1
          simp at hc2; omega
        rw [e]
        refine snap_tup (snapL_cons (snap_agg ?_) (snapL_cons (.int _ _) snapL_nil))
        refine snapL_cons (.int _ _) (snapL_cons (.int _ _) (snapL_cons (.int _ _) (snapL_cons ?_ snapL_nil)))
        refine Row.snap (hrow.same fun b hb => ?_) (hlc _) (by omega) (fun y hy c hc' => ?_)
        · have := hb6 b hb
          rw [hupd_ne (by omega), hupd_ne (by omega)]
        · simp at hy; obtain ⟨q, _, rfl⟩ := hy
          simp only [encC, AV.cells, List.mem_cons, List.not_mem_nil, or_false] at hc'
          rcases hc' with rfl | rfl | rfl
          · exact encV_dat _
          · exact encVV_dat _
          · exact encVV_dat _
      refine w_seq ?_
      repeat' (first | apply w_ops0 | apply a_n | apply o_nil | (apply o_val rfl rfl; (focus ((try simp (disch := omega) only [simB0, ZA, reduceEqDiff, ↓reduceIte, reduceAdd, reduceLeDiff, ZV, reduceCtorEq, t1, t2, t3, g0, g1, g2, ho1, ho2, ho3]); first | with_reducible rfl | (apply s_ite; (focus omega); with_reducible rfl)))) | (apply o_callD; (iterate 2 (focus ((try simp only [simB0, ZA, reduceEqDiff, ↓reduceIte, reduceAdd, reduceLeDiff, t1, t2, t3, g0, g1, g2, ho1, ho2, ho3]); (try with_reducible rfl); done))); (focus (first | (exact each_c _ _))); (focus ((first | refine snap_plain ?_ rfl | apply snap_data); repeat' (first | exact snapL_nil | apply snapL_i | apply snapL_dat)))))
      refine w_block ?_
      refine w_rangeFb 4 5 rfl rfl (by ((try simp only [simB0, ZA, reduceEqDiff, ↓reduceIte, reduceAdd, reduceLeDiff]); (try with_reducible rfl))) (fun c0 cj hy => ?_)
      have hL : ∀ i, i < (every k.n k.ins).length → casesOf k ((every k.n k.ins).take (i + 1)) = casesOf k ((every k.n k.ins).take i) ++ (if k.pc ((every k.n k.ins).getD i []) = true then [caseOf k ((every k.n k.ins).getD i [])] else []) := by
        intro i hi
        have : (every k.n k.ins).take (i + 1) = (every k.n k.ins).take i ++ [(every k.n k.ins).getD i []] := take_succ' hi
        rw [this]
        unfold casesOf
        rw [List.filter_append, List.map_append]
        congr 1
        simp only [List.filter_cons, List.filter_nil]
        split <;> rfl
      generalize hkc : [AV.int .i64 k.n, .int .i64 k.ins, .int .i64 k.outs, .int .i64 kk, fc, fa, fm] = kc at *
      refine Abs.Fn.mono (each_it (by omega) (by omega) (fun i H' nx => MadeI k kc (casesOf k ((every k.n k.ins).take i)) H' nx ∧ H' 4 = some [c0])
        (fun H' nx => H' 4 = some [cj .ret] ∧ H' 1 = some [.int .i64 0, .int .i64 0, .int .i64 0, .esl] ∧ H' 2 = some [.int .i64 17] ∧ ∃ c ∈ casesOf k (every k.n k.ins), 1024 < c.out.length) ?_ ?_ ?_) ?_
      · rintro i A B a b ⟨h1, h2⟩ hab _ hs
        exact ⟨h1.stab hab (fun i hi h5 _ => hs i hi h5), (hs 4 (by have := h1.1; omega) (by omega)).trans h2⟩
      · exact ⟨⟨Nat.le_refl _, g0, g1, g2, .esl, rfl, Row.nil, fun b hb => (by cases hb), fun c hc => (by cases hc)⟩, rfl⟩
      · rintro i A a hi ⟨hI, h4⟩ hn5 hA
        refine hy _ _ _ _ h4 rfl ?_
        clear hy
        have hmem : (every k.n k.ins).getD i [] ∈ every k.n k.ins := mem_getD (l := every k.n k.ins) hi
        have hvl := every_len k.n k.ins _ hmem
        have hLi := hL i hi
        generalize (every k.n k.ins).getD i [] = vec at hA hmem hvl hLi
        have h5 := hI.1
        obtain ⟨_, i0, i1, i2, s, i3, ir, ib, ic⟩ := hI
        have hI : MadeI k kc (casesOf k ((every k.n k.ins).take i)) A a := ⟨h5, i0, i1, i2, s, i3, ir, ib, ic⟩
        repeat' (first | apply w_ops0 | apply a_n | apply o_nil | (apply e_alloc rfl; (focus ((try simp (disch := omega) only [simB2, ZA, reduceEqDiff, ↓reduceIte, reduceAdd, reduceLeDiff, i0, i1, i2, i3, h4, hA]); (try with_reducible rfl); done)); (focus (simp (disch := omega) only [SO, Bool.and_self, one_encV, one_encVV, i0, i1, i2, i3, h4, hA]))) | (apply e_st; (focus (first | rfl | (simp (disch := omega) only [dm2, oldP, newP, simB0, ZA, reduceEqDiff, ↓reduceIte, reduceAdd, reduceLeDiff, decide_eq_true_eq]; first | done | omega))); (iterate 4 (focus ((try simp (disch := omega) only [simB2, ZA, reduceEqDiff, ↓reduceIte, reduceAdd, reduceLeDiff, i0, i1, i2, i3, h4, hA]); (try with_reducible rfl); done))); (focus (simp (disch := omega) only [SO, Bool.and_self, one_encV, one_encVV, i0, i1, i2, i3, h4, hA])); (iterate 3 (focus ((try simp (disch := omega) only [SL, reduceAdd, Nat.reduceMul, List.length_map]); first | done | omega)))))
        refine ⟨by rw [hupd_ne (by omega), hupd_ne (by omega)]; exact h4, ?_⟩
        refine w_block ?_
        refine w_seqC (fun T' H' nx => (∀ x, x ≠ a → x ≠ 4 → H' x = A x) ∧ H' a = some [.msl 5 k.n 1 0 k.n] ∧ nx = a + 1 ∧ T' 1 = .ptr 0 7 0 ∧ T' 2 = .ptr 1 4 0 ∧ T' 3 = .ptr 2 1 0 ∧ T' 5 = .ptr 3 4 0 ∧ T' 6 = .ptr a 1 0 ∧ k.pc vec = true) ?_ ?_
        · have hfr : ∀ x, x ≠ a → x ≠ 4 → hdel (hupd (hupd A a [AV.esl]) a (lput [AV.esl] 0 [AV.msl 5 k.n 1 0 k.n])) 4 x = A x := fun x h1 h2 => by
            rw [hdel_ne h2, hupd_ne h1, hupd_ne h1]
          have hself : hdel (hupd (hupd A a [AV.esl]) a (lput [AV.esl] 0 [AV.msl 5 k.n 1 0 k.n])) 4 a = some [.msl 5 k.n 1 0 k.n] := by
            rw [hdel_ne (by omega), hupd_self']; rfl
          generalize hdel (hupd (hupd A a [AV.esl]) a (lput [AV.esl] 0 [AV.msl 5 k.n 1 0 k.n])) 4 = B at hfr hself
          have b0 := (hfr 0 (by omega) (by omega)).trans i0
          have b5 := (hfr 5 (by omega) (by omega)).trans hA
          rw [← hkc] at b0
          rcases hc.out with ⟨rfl, hp⟩ | ⟨g, caps, rfl, hcd, hg⟩
          · repeat' (first | apply w_seq | apply w_ops0 | apply w_skip | apply a_n | apply o_nil | (apply o_val rfl rfl; (focus ((try simp (disch := omega) only [simB0, ZA, reduceEqDiff, ↓reduceIte, reduceAdd, reduceLeDiff, ZV, reduceCtorEq, t1, t2, t3, b0, hself]); first | with_reducible rfl | (apply s_ite; (focus omega); with_reducible rfl)))) | (apply o_gF; (focus (simp only [simB0, ZA, reduceEqDiff, ↓reduceIte, reduceAdd, reduceLeDiff, or_true, true_or, t1, t2, t3, b0, hself]; done))) | (apply w_condF; (focus (simp only [simB0, ZA, reduceEqDiff, ↓reduceIte, reduceAdd, reduceLeDiff, t1, t2, t3, b0, hself]; done))))
            exact ⟨hfr, hself, rfl, t1, t2, t3, rfl, rfl, hp _⟩
          · repeat' (first | apply w_seq | apply w_ops0 | (apply o_val rfl rfl; (focus ((try simp (disch := omega) only [simB0, ZA, reduceEqDiff, ↓reduceIte, reduceAdd, reduceLeDiff, ZV, reduceCtorEq, t1, t2, t3, b0, hself]); first | with_reducible rfl | (apply s_ite; (focus omega); with_reducible rfl)))) | (apply o_gT; (focus (simp only [simB0, ZA, reduceEqDiff, ↓reduceIte, reduceAdd, reduceLeDiff, t1, t2, t3, b0, hself]; done))))
            refine o_callP (by ((try simp only [simB0, ZA, reduceEqDiff, ↓reduceIte, reduceAdd, reduceLeDiff]); (try with_reducible rfl))) (by ((try simp only [simB0, ZA, reduceEqDiff, ↓reduceIte, reduceAdd, reduceLeDiff]); (try with_reducible rfl))) (hg _ hmem) (snap_plain (snapL_cons (snap_row b5 rfl hvl) (snapL_datL hcd)) rfl) ?_
            repeat' (first | apply w_skip | apply w_exit | apply a_n | apply a_x | apply o_nil | (apply o_val rfl rfl; (focus ((try simp (disch := omega) only [simB0, ZA, reduceEqDiff, ↓reduceIte, reduceAdd, reduceLeDiff, ZV, reduceCtorEq, t1, t2, t3, b0, hself]); first | with_reducible rfl | (apply s_ite; (focus omega); with_reducible rfl)))) | (apply o_gT; (focus (simp only [simB0, ZA, reduceEqDiff, ↓reduceIte, reduceAdd, reduceLeDiff, t1, t2, t3, b0, hself]; done))) | (apply w_cond; (focus ((try simp only [simB0, ZA, reduceEqDiff, ↓reduceIte, reduceAdd, reduceLeDiff, t1, t2, t3, b0, hself]); (try with_reducible rfl); done)); all_goals (intro _hg; (try simp only [ZB] at _hg); try first | exact absurd trivial _hg | (exfalso; omega))))
            · refine .inl ⟨rfl, ⟨?_, hupd_self'⟩, by omega, by omega, (hupd_ne (by omega)).trans (hfr 5 (by omega) (by omega))⟩
              rw [hLi, _hg, if_neg (by simp), List.append_nil]
              exact hI.stab (by omega) (fun x hx _ h4 => (hupd_ne h4).trans (hfr x (by omega) h4))
            · exact ⟨hfr, hself, rfl, t1, t2, t3, rfl, rfl, _hg⟩
        · rintro T' B b ⟨hfr, hself, rfl, u1, u2, u3, u5, u6, hpc⟩
          clear t1 t2 t3
          have b0 := (hfr 0 (by omega) (by omega)).trans i0
          have b1 := (hfr 1 (by omega) (by omega)).trans i1
          have b2 := (hfr 2 (by omega) (by omega)).trans i2
          have b3 := (hfr 3 (by omega) (by omega)).trans i3
          have b5 := (hfr 5 (by omega) (by omega)).trans hA
          rw [← hkc] at b0
          have hsv : Sh vec := by show _ ≤ _; omega
          refine w_seq ?_
          repeat' (first | apply w_ops0 | (apply o_val rfl; (focus (first | rfl | (simp (disch := omega) only [dm2, oldP, newP, simB0, ZA, reduceEqDiff, ↓reduceIte, reduceAdd, reduceLeDiff, decide_eq_true_eq]; first | done | omega))); (focus ((try simp (disch := omega) only [simB2, ZA, reduceEqDiff, ↓reduceIte, reduceAdd, reduceLeDiff, ZV, reduceCtorEq, u1, u2, u3, u5, u6, hself]); first | with_reducible rfl | (apply s_ite; (focus omega); with_reducible rfl)))))
          refine o_callF (by ((try simp only [simB0, ZA, reduceEqDiff, ↓reduceIte, reduceAdd, reduceLeDiff]); (try with_reducible rfl))) (by ((try simp only [simB0, ZA, reduceEqDiff, ↓reduceIte, reduceAdd, reduceLeDiff]); (try with_reducible rfl))) (cloneF_c vec hsv) (snapL_cons (snap_row b5 rfl hvl) snapL_nil) ?_
          repeat' (first | apply a_n | apply o_nil | (apply o_val rfl; (focus (first | rfl | (simp (disch := omega) only [dm2, oldP, newP, simB0, ZA, reduceEqDiff, ↓reduceIte, reduceAdd, reduceLeDiff, decide_eq_true_eq]; first | done | omega))); (focus ((try simp (disch := omega) only [simB2, ZA, reduceEqDiff, ↓reduceIte, reduceAdd, reduceLeDiff, ZV, reduceCtorEq, u1, u2, u3, u5, u6, hself]); first | with_reducible rfl | (apply s_ite; (focus omega); with_reducible rfl)))) | (apply e_alloc rfl; (focus ((try simp (disch := omega) only [simB2, ZA, reduceEqDiff, ↓reduceIte, reduceAdd, reduceLeDiff, u1, u2, u3, u5, u6, hself]); (try with_reducible rfl); done)); (focus (simp (disch := omega) only [SO, Bool.and_self, one_encV, one_encVV, u1, u2, u3, u5, u6, hself]))) | (apply e_st; (focus (first | rfl | (simp (disch := omega) only [dm2, oldP, newP, simB0, ZA, reduceEqDiff, ↓reduceIte, reduceAdd, reduceLeDiff, decide_eq_true_eq]; first | done | omega))); (iterate 4 (focus ((try simp (disch := omega) only [simB2, ZA, reduceEqDiff, ↓reduceIte, reduceAdd, reduceLeDiff, u1, u2, u3, u5, u6, hself]); (try with_reducible rfl); done))); (focus (simp (disch := omega) only [SO, Bool.and_self, one_encV, one_encVV, u1, u2, u3, u5, u6, hself])); (iterate 3 (focus ((try simp (disch := omega) only [SL, reduceAdd, Nat.reduceMul, List.length_map]); first | done | omega)))))
          have hC : ∃ C : Hp, C = hupd (hupd B (a + 1) [AV.esl, AV.esl, AV.esl]) (a + 1) (lput [AV.esl, AV.esl, AV.esl] 0 [encV vec, .esl, .esl]) := ⟨_, rfl⟩
          obtain ⟨C, hC⟩ := hC
          have hCf : ∀ x, x ≠ a + 1 → C x = B x := fun x hx => by rw [hC, hupd_ne hx, hupd_ne hx]
          have hCs : C (a + 1) = some [encV vec, .esl, .esl] := by rw [hC, hupd_self']; rfl
          have d0 := (hCf 0 (by omega)).trans b0
          have hpa : ∀ j, ((every k.n k.outs).take (j + 1)) = (every k.n k.outs).take j ++ (if j < (every k.n k.outs).length then [(every k.n k.outs).getD j []] else []) := by
            intro j
            by_cases hj : j < (every k.n k.outs).length
            · rw [if_pos hj]; exact take_succ' hj
            · rw [if_neg hj, List.take_of_length_le (by omega), List.take_of_length_le (by omega), List.append_nil]
          refine w_seqC (fun T' H' nx' => T' 5 = .ptr 3 4 0 ∧ T' 7 = .ptr (a + 1) 3 0 ∧ InI k A a vec (caseOf k vec).out (caseOf k vec).calm H' nx') ?_ ?_
          rotate_left
          · clear u1 u2 u3 u5 u6
            rintro T2 D d ⟨u5, u7, r1, r2, r3, so, sc, r4, r5, r6, r7, r8, r9, r10, r11⟩
            have hB : ∃ B : Nat → Bool, B = fun b => decide (rowB so = some b) || decide (rowB sc = some b) := ⟨_, rfl⟩
            obtain ⟨B1, hB⟩ := hB
            have hBs : ∀ x, x < a + 4 → B1 x = false := fun x hx => by
              rw [hB, Bool.or_eq_false_iff]
              exact ⟨decide_eq_false (fun h => by have := r7 x h; omega), decide_eq_false (fun h => by have := r8 x h; omega)⟩
            have hk5 := (Row_keep (B := B1) r5 (fun b h => by rw [hB]; simp [h])).snapV
            have hk6 := (Row_keep (B := B1) r6 (fun b h => by rw [hB]; simp [h])).snapV
            have hfz := Fz.put (hBs (a + 1) (by omega)) r4 (CellsTo.cons (.inl rfl) (CellsTo.cons (.inr hk5) (CellsTo.cons (.inr hk6) CellsTo.nil)))
            have hE : ∃ E : Hp, E = hupd (hdrop B1 D) (a + 1) [encV vec, encVV (caseOf k vec).out, encVV (caseOf k vec).calm] := ⟨_, rfl⟩
            obtain ⟨E, hE⟩ := hE
            have hE1 : E (a + 1) = some [encV vec, encVV (caseOf k vec).out, encVV (caseOf k vec).calm] := by rw [hE, hupd_self']
            have hEf : ∀ x, x < a → x ≠ 4 → E x = A x := fun x hx h4 => by rw [hE, hupd_ne (by omega), hdrop_at (hBs x (by omega)), r2 x hx h4]
            have hE3 := (hEf 3 (by omega) (by omega)).trans i3
            rw [← hE] at hfz
            refine w_ops0F _ _ [(5, .ptr 3 4 0), (7, .ptr (a + 1) 3 0)] hfz ⟨.inl u5, .inl u7, trivial⟩ ?_
            obtain ⟨s1, s2⟩ := ir.one
            repeat' (first | (apply o_val rfl; (focus (first | rfl | (simp (disch := omega) only [dm2, oldP, newP, simB0, ZA, reduceEqDiff, ↓reduceIte, reduceAdd, reduceLeDiff, decide_eq_true_eq]; first | done | omega))); (focus ((try simp (disch := omega) only [simB2, ZA, reduceEqDiff, ↓reduceIte, reduceAdd, reduceLeDiff, ZV, reduceCtorEq, hE3, hE1]); first | with_reducible rfl | (apply s_ite; (focus omega); with_reducible rfl)))) | (apply e_bld rfl; (focus (exact Nat.succ_ne_zero _)); (focus ((try simp (disch := omega) only [simB2, ZA, reduceEqDiff, ↓reduceIte, reduceAdd, reduceLeDiff, hE3, hE1]); (try with_reducible rfl); done)); (focus ((try simp (disch := omega) only [simB2, ZA, reduceEqDiff, ↓reduceIte, reduceAdd, reduceLeDiff, SO, Bool.and_self, one_encV, one_encVV, hE3, hE1]); (try with_reducible rfl); done))))
            have hfl := (flatMap_cells_get ((casesOf k ((every k.n k.ins).take i)).map encC) (hlc _)).1
            rw [List.length_map] at hfl
            have := hmany i
            refine e_row rfl (by ((try simp only [simB0, ZA, reduceEqDiff, ↓reduceIte, reduceAdd, reduceLeDiff]); (try with_reducible rfl))) (ir.same fun b hb => ?_) (by ((try simp only [simB0, ZA, reduceEqDiff, ↓reduceIte, reduceAdd, reduceLeDiff]); (try with_reducible rfl))) asrc_three rfl rfl (by omega) (by rw [hfl]; omega) (by rw [hfl]; omega) ?_
            · have := ib b hb
              rw [hupd_ne (by omega), hEf b (by omega) (by omega)]
            rintro s3 F f hrow hle1 hle2 hsame hb2
            obtain ⟨s31, s32⟩ := hrow.one
            have hsame' : ∀ i, i < a → i ≠ 4 → rowB s ≠ some i → F i = A i := fun i h1 h2 h3 => by
              rw [hsame i (by omega) h3, hupd_ne (by omega), hEf i h1 h2]
            have hF : ∀ i, i < 6 → i ≠ 4 → F i = A i := fun i h1 h2 => hsame' i (by omega) h2 (fun h => by have := ib i h; omega)
            have hF3 := (hF 3 (by omega) (by omega)).trans i3
            repeat' (first | apply a_n | apply o_nil | (apply o_val rfl; (focus (first | rfl | (simp (disch := omega) only [dm2, oldP, newP, simB0, ZA, reduceEqDiff, ↓reduceIte, reduceAdd, reduceLeDiff, decide_eq_true_eq]; first | done | omega))); (focus ((try simp (disch := omega) only [simB2, ZA, reduceEqDiff, ↓reduceIte, reduceAdd, reduceLeDiff, ZV, reduceCtorEq, hF3, s31, s32]); first | with_reducible rfl | (apply s_ite; (focus omega); with_reducible rfl)))) | (apply e_st; (focus (first | rfl | (simp (disch := omega) only [dm2, oldP, newP, simB0, ZA, reduceEqDiff, ↓reduceIte, reduceAdd, reduceLeDiff, decide_eq_true_eq]; first | done | omega))); (iterate 4 (focus ((try simp (disch := omega) only [simB2, ZA, reduceEqDiff, ↓reduceIte, reduceAdd, reduceLeDiff, hF3, s31, s32]); (try with_reducible rfl); done))); (focus (simp (disch := omega) only [SO, Bool.and_self, one_encV, one_encVV, hF3, s31, s32])); (iterate 3 (focus ((try simp (disch := omega) only [SL, reduceAdd, Nat.reduceMul, List.length_map]); first | done | omega)))))
            rw [hLi, hpc, if_pos rfl]
            refine .inl ⟨rfl, ⟨⟨by omega, ?_, ?_, ?_, s3, ?_, ?_, ?_, ?_⟩, hupd_self'⟩, by omega, by omega, ?_⟩
            · rw [hupd_ne (by omega), hupd_ne (by omega), hF 0 (by omega) (by omega), i0]
            · rw [hupd_ne (by omega), hupd_ne (by omega), hF 1 (by omega) (by omega), i1]
            · rw [hupd_ne (by omega), hupd_ne (by omega), hF 2 (by omega) (by omega), i2]
            · rw [hupd_ne (by omega), hupd_self']; rfl
            · rw [List.map_append, List.flatMap_append]
              refine hrow.same fun b hb => ?_
              rcases hb2 b hb with h | h
              · have := ib b h
                rw [hupd_ne (by omega), hupd_ne (by omega)]
              · rw [hupd_ne (by omega), hupd_ne (by omega)]
            · intro b hb
              rcases hb2 b hb with h | h
              · have := ib b h; omega
              · omega
            · intro c hc
              rw [List.mem_append, List.mem_singleton] at hc
              rcases hc with hc | rfl
              · exact ic c hc
              · exact r10
            · rw [hupd_ne (by omega), hupd_ne (by omega), hF 5 (by omega) (by omega)]
          rw [← hC]
          refine w_seq ?_
          repeat' (first | apply w_ops0 | apply a_n | apply o_nil | (apply o_val rfl; (focus (first | rfl | (simp (disch := omega) only [dm2, oldP, newP, simB0, ZA, reduceEqDiff, ↓reduceIte, reduceAdd, reduceLeDiff, decide_eq_true_eq]; first | done | omega))); (focus ((try simp (disch := omega) only [simB2, ZA, reduceEqDiff, ↓reduceIte, reduceAdd, reduceLeDiff, ZV, reduceCtorEq, u1, u2, u3, u5, u6, d0]); first | with_reducible rfl | (apply s_ite; (focus omega); with_reducible rfl)))) | (apply o_callD; (iterate 2 (focus ((try simp (disch := omega) only [simB2, ZA, reduceEqDiff, ↓reduceIte, reduceAdd, reduceLeDiff, u1, u2, u3, u5, u6, d0]); (try with_reducible rfl); done))); (focus (first | (exact each_c _ _))); (focus ((first | refine snap_plain ?_ rfl | apply snap_data); repeat' (first | exact snapL_nil | apply snapL_i | apply snapL_dat)))))
          refine w_block ?_
          refine w_rangeFb (a + 2) (a + 3) (by omega) rfl (by ((try simp only [simB0, ZA, reduceEqDiff, ↓reduceIte, reduceAdd, reduceLeDiff]); (try with_reducible rfl))) (fun c1 cj1 hy1 => ?_)
          refine Abs.Fn.mono (each_it (by omega) (by omega) (fun j H' nx => InI k A a vec (((every k.n k.outs).take j).filter (k.pa vec)) (((every k.n k.outs).take j).filter fun o => k.pa vec o && k.pm vec o) H' nx ∧ H' (a + 2) = some [c1])
            (fun H' nx => H' (a + 2) = some [cj1 .ret] ∧ H' 1 = some [.int .i64 0, .int .i64 0, .int .i64 0, .esl] ∧ H' 2 = some [.int .i64 17] ∧ 1024 < (caseOf k vec).out.length) ?_ ?_ ?_) ?_
          · rintro j A1 B1 n1 n2 ⟨q1, q2⟩ hn _ hs
            exact ⟨q1.stab hn (fun i hi _ h3 => hs i hi h3), (hs (a + 2) (by have := q1.1; omega) (by omega)).trans q2⟩
          · refine ⟨⟨Nat.le_refl _, fun x hx h4 => ?_, ?_, .esl, .esl, ?_, Row.nil, Row.nil, fun b hb => (by cases hb), fun b hb => (by cases hb), fun b hb => (by cases hb), Nat.zero_le _, Nat.le_refl _⟩, hupd_self'⟩
            · rw [hupd_ne (by omega), hCf x (by omega), hfr x (by omega) h4]
            · rw [hupd_ne (by omega), hCf a (by omega), hself]
            · rw [hupd_ne (by omega), hCs]
          · rintro j D d hj ⟨q1, q2⟩ hd4 hDw
            refine hy1 _ _ _ _ q2 rfl ?_
            clear hy1
            have hmw : (every k.n k.outs).getD j [] ∈ every k.n k.outs := mem_getD (l := every k.n k.outs) hj
            have hwl := every_len k.n k.outs _ hmw
            have htk := hpa j
            rw [if_pos hj] at htk
            generalize (every k.n k.outs).getD j [] = w at hDw hmw hwl htk
            have hsw : Sh w := by show _ ≤ _; omega
            rw [htk]
            simp only [List.filter_append, List.filter_cons, List.filter_nil]
            have hoj : (((every k.n k.outs).take j).filter (k.pa vec) ++ (if k.pa vec w = true then [w] else [])).length ≤ (caseOf k vec).out.length := by
              have : ((every k.n k.outs).take (j + 1)).filter (k.pa vec) = ((every k.n k.outs).take j).filter (k.pa vec) ++ (if k.pa vec w = true then [w] else []) := by
                rw [htk, List.filter_append]; simp only [List.filter_cons, List.filter_nil]
              rw [← this]
              unfold caseOf
              exact cnt_mono (every k.n k.outs) (k.pa vec) (j + 1)
            generalize ((every k.n k.outs).take j).filter (k.pa vec) = outs at q1 hoj
            generalize ((every k.n k.outs).take j).filter (fun o => k.pa vec o && k.pm vec o) = calm at q1
            have hq1 := q1
            obtain ⟨r1, r2, r3, so, sc, r4, r5, r6, r7, r8, r9, r10, r11⟩ := q1
            have e0 := (r2 0 (by omega) (by omega)).trans i0
            have e1 := (r2 1 (by omega) (by omega)).trans i1
            have e2 := (r2 2 (by omega) (by omega)).trans i2
            have e5 := (r2 5 (by omega) (by omega)).trans hA
            rw [← hkc] at e0
            repeat' (first | apply w_ops0 | apply a_n | apply o_nil | (apply o_val rfl rfl; (focus ((try simp (disch := omega) only [simB0, ZA, reduceEqDiff, ↓reduceIte, reduceAdd, reduceLeDiff, ZV, reduceCtorEq]); first | with_reducible rfl | (apply s_ite; (focus omega); with_reducible rfl)))))
            refine ⟨q2, ?_⟩
            refine w_block ?_
            refine w_seqC (fun T'' H'' nx => H'' = hdel D (a + 2) ∧ nx = d ∧ T'' 1 = .ptr 0 7 0 ∧ T'' 2 = .ptr 1 4 0 ∧ T'' 3 = .ptr 2 1 0 ∧ T'' 6 = .ptr a 1 0 ∧ T'' 7 = .ptr (a + 1) 3 0 ∧ T'' 8 = .msl (a + 3) k.n 1 0 k.n ∧ k.pa vec w = true) ?_ ?_
            · obtain ⟨g, caps, hge, hcd, hg⟩ := ha.out
              repeat' (first | apply w_seq | apply w_ops0 | (apply o_val rfl; (focus (first | rfl | (simp (disch := omega) only [dm2, oldP, newP, simB0, ZA, reduceEqDiff, ↓reduceIte, reduceAdd, reduceLeDiff, decide_eq_true_eq]; first | done | omega))); (focus ((try simp (disch := omega) only [simB2, ZA, reduceEqDiff, ↓reduceIte, reduceAdd, reduceLeDiff, ZV, reduceCtorEq, u1, u2, u3, u5, u6, e0, e1, e2, r3, r4, hge]); first | with_reducible rfl | (apply s_ite; (focus omega); with_reducible rfl)))))
              refine o_callP (by ((try simp (disch := omega) only [simB2, ZA, reduceEqDiff, ↓reduceIte, reduceAdd, reduceLeDiff, hge]); (try with_reducible rfl))) (by ((try simp only [simB0, ZA, reduceEqDiff, ↓reduceIte, reduceAdd, reduceLeDiff]); (try with_reducible rfl))) (hg _ hmem _ hmw) (snap_plain (snapL_cons (snap_row ((hdel_ne (by omega)).trans e5) rfl hvl) (snapL_cons (snap_row ((hdel_ne (by omega)).trans hDw) rfl hwl) (snapL_datL hcd))) rfl) ?_
              repeat' (first | apply w_skip | apply w_exit | apply a_n | apply a_x | apply o_nil | (apply o_val rfl; (focus (first | rfl | (simp (disch := omega) only [dm2, oldP, newP, simB0, ZA, reduceEqDiff, ↓reduceIte, reduceAdd, reduceLeDiff, decide_eq_true_eq]; first | done | omega))); (focus ((try simp (disch := omega) only [simB2, ZA, reduceEqDiff, ↓reduceIte, reduceAdd, reduceLeDiff, ZV, reduceCtorEq, u1, u2, u3, u5, u6, e0, e1, e2, r3, r4, hge]); first | with_reducible rfl | (apply s_ite; (focus omega); with_reducible rfl)))) | (apply w_cond; (focus ((try simp (disch := omega) only [simB2, ZA, reduceEqDiff, ↓reduceIte, reduceAdd, reduceLeDiff, u1, u2, u3, u5, u6, e0, e1, e2, r3, r4, hge]); (try with_reducible rfl); done)); all_goals (intro _hg; (try simp (disch := omega) only [ZB] at _hg); try first | exact absurd trivial _hg | (exfalso; omega))))
              · refine .inl ⟨trivial, ⟨?_, hupd_self'⟩, by omega, Nat.le_refl _, (hupd_ne (by omega)).trans (hdel_ne (by omega))⟩
                simp only [_hg, Bool.false_and, Bool.false_eq_true, if_false, List.append_nil]
                exact hq1.stab (Nat.le_refl _) (fun x hx h2 h3 => (hupd_ne h2).trans (hdel_ne h2))
              · exact ⟨rfl, rfl, u1, u2, u3, u6, rfl, rfl, _hg⟩
            · rintro T2 _ d ⟨rfl, rfl, v1, v2, v3, v6, v7, v8, hpw⟩
              simp only [hpw, if_true, Bool.true_and] at hoj ⊢
              have hlen := Row.lenS (n := outs.length) r5 (by simp) Nat.one_pos
              obtain ⟨so1, so2⟩ := r5.one
              obtain ⟨sc1, sc2⟩ := r6.one
              refine w_seqC (fun T'' H'' nx => H'' = hdel D (a + 2) ∧ nx = d ∧ T'' 1 = .ptr 0 7 0 ∧ T'' 6 = .ptr a 1 0 ∧ T'' 7 = .ptr (a + 1) 3 0 ∧ T'' 8 = .msl (a + 3) k.n 1 0 k.n ∧ outs.length < 1024) ?_ ?_
              · repeat' (first | apply w_seq | apply w_ops0 | apply w_skip | apply w_ret | apply a_n | apply a_r | apply o_nil | (apply o_val rfl; (focus (first | rfl | (simp (disch := omega) only [dm2, oldP, newP, simB0, ZA, reduceEqDiff, ↓reduceIte, reduceAdd, reduceLeDiff, decide_eq_true_eq]; first | done | omega))); (focus ((try simp (disch := omega) only [simB2, ZA, reduceEqDiff, ↓reduceIte, reduceAdd, reduceLeDiff, ZV, reduceCtorEq, v1, v2, v3, v6, v7, v8, e0, e1, e2, r3, r4, hlen]); first | with_reducible rfl | (apply s_ite; (focus omega); with_reducible rfl)))) | (apply e_st; (focus (first | rfl | (simp (disch := omega) only [dm2, oldP, newP, simB0, ZA, reduceEqDiff, ↓reduceIte, reduceAdd, reduceLeDiff, decide_eq_true_eq]; first | done | omega))); (iterate 4 (focus ((try simp (disch := omega) only [simB2, ZA, reduceEqDiff, ↓reduceIte, reduceAdd, reduceLeDiff, v1, v2, v3, v6, v7, v8, e0, e1, e2, r3, r4, hlen]); (try with_reducible rfl); done))); (focus (simp (disch := omega) only [SO, Bool.and_self, one_encV, one_encVV, v1, v2, v3, v6, v7, v8, e0, e1, e2, r3, r4, hlen])); (iterate 3 (focus ((try simp (disch := omega) only [SL, reduceAdd, Nat.reduceMul, List.length_map]); first | done | omega)))) | (apply w_cond; (focus ((try simp (disch := omega) only [simB2, ZA, reduceEqDiff, ↓reduceIte, reduceAdd, reduceLeDiff, v1, v2, v3, v6, v7, v8, e0, e1, e2, r3, r4, hlen]); (try with_reducible rfl); done)); all_goals (intro _hg; (try simp (disch := omega) only [ZB] at _hg); try first | exact absurd trivial _hg | (exfalso; omega))))
                · refine .inr ⟨trivial, hupd_self', ?_, ?_, by simp at hoj; omega⟩
                  · rw [hupd_ne (by omega), hupd_ne (by omega), hupd_self']; rfl
                  · rw [hupd_ne (by omega), hupd_self']; rfl
                · exact ⟨rfl, rfl, v1, v6, v7, v8, by omega⟩
              · rintro T3 _ d ⟨rfl, rfl, x1, x6, x7, x8, hlt⟩
                clear v1 v2 v3 v6 v7 v8
                refine w_seqC (fun T'' H'' nx => T'' 1 = .ptr 0 7 0 ∧ T'' 6 = .ptr a 1 0 ∧ T'' 7 = .ptr (a + 1) 3 0 ∧ T'' 8 = .msl (a + 3) k.n 1 0 k.n ∧ d ≤ nx ∧ H'' (a + 3) = D (a + 3) ∧ InI k A a vec (outs ++ [w]) calm (hupd H'' (a + 2) [c1]) nx) ?_ ?_
                · repeat' (first | apply w_mixS1 | (apply o_val rfl; (focus (first | rfl | (simp (disch := omega) only [dm2, oldP, newP, simB0, ZA, reduceEqDiff, ↓reduceIte, reduceAdd, reduceLeDiff, decide_eq_true_eq]; first | done | omega))); (focus ((try simp (disch := omega) only [simB2, ZA, reduceEqDiff, ↓reduceIte, reduceAdd, reduceLeDiff, ZV, reduceCtorEq, x1, x6, x7, x8, r4]); first | with_reducible rfl | (apply s_ite; (focus omega); with_reducible rfl)))))
                  refine o_callF (by ((try simp only [simB0, ZA, reduceEqDiff, ↓reduceIte, reduceAdd, reduceLeDiff]); (try with_reducible rfl))) (by ((try simp only [simB0, ZA, reduceEqDiff, ↓reduceIte, reduceAdd, reduceLeDiff]); (try with_reducible rfl))) (cloneF_c w hsw) (snapL_cons (snap_row ((hdel_ne (by omega)).trans hDw) rfl hwl) snapL_nil) ?_
                  repeat' (first | (apply e_bld rfl; (focus (exact Nat.succ_ne_zero _)); (focus ((try simp (disch := omega) only [simB2, ZA, reduceEqDiff, ↓reduceIte, reduceAdd, reduceLeDiff, x1, x6, x7, x8, r4]); (try with_reducible rfl); done)); (focus ((try simp (disch := omega) only [simB2, ZA, reduceEqDiff, ↓reduceIte, reduceAdd, reduceLeDiff, SO, Bool.and_self, one_encV, one_encVV, x1, x6, x7, x8, r4]); (try with_reducible rfl); done))))
                  refine e_row rfl (by ((try simp only [simB0, ZA, reduceEqDiff, ↓reduceIte, reduceAdd, reduceLeDiff]); (try with_reducible rfl))) (r5.same fun b hb => ?_) (by ((try simp only [simB0, ZA, reduceEqDiff, ↓reduceIte, reduceAdd, reduceLeDiff]); (try with_reducible rfl))) asrc_one rfl rfl Nat.one_pos (by simp; omega) (by simp; omega) ?_
                  · have := r7 b hb
                    rw [hupd_ne (by omega), hdel_ne (by omega)]
                  rintro s2 E e hrow hle1 hle2 hsame hb2
                  obtain ⟨s21, s22⟩ := hrow.one
                  have hsame' : ∀ i, i < d → i ≠ a + 2 → rowB so ≠ some i → E i = D i := fun i h1 h2 h3 => by
                    rw [hsame i (by omega) h3, hupd_ne (by omega), hdel_ne (by omega)]
                  have hE1 : E (a + 1) = some [encV vec, so, sc] := by
                    rw [hsame' (a + 1) (by omega) (by omega) (fun h => by have := r7 _ h; omega), r4]
                  repeat' (first | apply a_n | apply o_nil | (apply o_val rfl; (focus (first | rfl | (simp (disch := omega) only [dm2, oldP, newP, simB0, ZA, reduceEqDiff, ↓reduceIte, reduceAdd, reduceLeDiff, decide_eq_true_eq]; first | done | omega))); (focus ((try simp (disch := omega) only [simB2, ZA, reduceEqDiff, ↓reduceIte, reduceAdd, reduceLeDiff, ZV, reduceCtorEq, x1, x6, x7, x8, r4, hE1, so2, sc2, s21, s22]); first | with_reducible rfl | (apply s_ite; (focus omega); with_reducible rfl)))) | (apply e_st; (focus (first | rfl | (simp (disch := omega) only [dm2, oldP, newP, simB0, ZA, reduceEqDiff, ↓reduceIte, reduceAdd, reduceLeDiff, decide_eq_true_eq]; first | done | omega))); (iterate 4 (focus ((try simp (disch := omega) only [simB2, ZA, reduceEqDiff, ↓reduceIte, reduceAdd, reduceLeDiff, x1, x6, x7, x8, r4, hE1, so2, sc2, s21, s22]); (try with_reducible rfl); done))); (focus (simp (disch := omega) only [SO, Bool.and_self, one_encV, one_encVV, x1, x6, x7, x8, r4, hE1, so2, sc2, s21, s22])); (iterate 3 (focus ((try simp (disch := omega) only [SL, reduceAdd, Nat.reduceMul, List.length_map]); first | done | omega)))))
                  obtain ⟨z1, z2⟩ := InI.put1 (vec := vec) (c1 := c1) (e := e) hd4 r2 r3 r6 r7 r8 r9 hlt r11 hrow (by omega) hsame' (fun b h => (hb2 b h).imp id (fun h => by omega))
                  exact ⟨x1, x6, x7, x8, by omega, (hupd_ne (by omega)).trans z2, z1⟩
                · rintro T4 E e ⟨y1, y6, y7, y8, hde, hE3, q1⟩
                  have r12 := r11
                  clear x1 x6 x7 x8 r3 r4 r5 r6 r7 r8 r9 r10 r11 so1 so2 sc1 sc2 hlen hq1 hoj
                  have p0 : E 0 = A 0 := by have := q1.2.1 0 (by omega) (by omega); rwa [hupd_ne (by omega)] at this
                  rw [i0, ← hkc] at p0
                  have p5 : E 5 = A 5 := by have := q1.2.1 5 (by omega) (by omega); rwa [hupd_ne (by omega)] at this
                  rw [hA] at p5
                  have hq1 := q1
                  have q1 := hq1
                  obtain ⟨r1, r2, r3, so, sc, r4, r5, r6, r7, r8, r9, r10, r11⟩ := q1
                  have q1 := hq1
                  rw [hupd_ne (by omega)] at r3 r4
                  rcases hm with ⟨rfl, hm⟩ | hm
                  · repeat' (first | apply w_seq | apply w_ops0 | apply w_skip | apply a_n | apply o_nil | (apply o_val rfl; (focus (first | rfl | (simp (disch := omega) only [dm2, oldP, newP, simB0, ZA, reduceEqDiff, ↓reduceIte, reduceAdd, reduceLeDiff, decide_eq_true_eq]; first | done | omega))); (focus ((try simp (disch := omega) only [simB2, ZA, reduceEqDiff, ↓reduceIte, reduceAdd, reduceLeDiff, ZV, reduceCtorEq, y1, y6, y7, y8, r3, r4, p0]); first | with_reducible rfl | (apply s_ite; (focus omega); with_reducible rfl)))) | (apply o_gF; (focus (simp (disch := omega) only [simB2, ZA, reduceEqDiff, ↓reduceIte, reduceAdd, reduceLeDiff, or_true, true_or, y1, y6, y7, y8, r3, r4, p0]; done))) | (apply w_condF; (focus (simp (disch := omega) only [simB2, ZA, reduceEqDiff, ↓reduceIte, reduceAdd, reduceLeDiff, y1, y6, y7, y8, r3, r4, p0]; done))))
                    refine .inl ⟨trivial, ⟨?_, hupd_self'⟩, by omega, hde, (hupd_ne (by omega)).trans hE3⟩
                    simp only [hm, Bool.false_eq_true, if_false, List.append_nil]
                    exact hq1
                  · obtain ⟨g, caps, hge, hcd, hg⟩ := hm.out
                    repeat' (first | apply w_seq | apply w_ops0 | (apply o_val rfl; (focus (first | rfl | (simp (disch := omega) only [dm2, oldP, newP, simB0, ZA, reduceEqDiff, ↓reduceIte, reduceAdd, reduceLeDiff, decide_eq_true_eq]; first | done | omega))); (focus ((try simp (disch := omega) only [simB2, ZA, reduceEqDiff, ↓reduceIte, reduceAdd, reduceLeDiff, ZV, reduceCtorEq, y1, y6, y7, y8, r3, r4, p0, hge]); first | with_reducible rfl | (apply s_ite; (focus omega); with_reducible rfl)))) | (apply o_gT; (focus (simp (disch := omega) only [simB2, ZA, reduceEqDiff, ↓reduceIte, reduceAdd, reduceLeDiff, y1, y6, y7, y8, r3, r4, p0, hge]; done))))
                    refine o_callP (by ((try simp (disch := omega) only [simB2, ZA, reduceEqDiff, ↓reduceIte, reduceAdd, reduceLeDiff, hge]); (try with_reducible rfl))) (by ((try simp only [simB0, ZA, reduceEqDiff, ↓reduceIte, reduceAdd, reduceLeDiff]); (try with_reducible rfl))) (hg _ hmem _ hmw) (snap_plain (snapL_cons (snap_row p5 rfl hvl) (snapL_cons (snap_row (hE3.trans hDw) rfl hwl) (snapL_datL hcd))) rfl) ?_
                    repeat' (first | apply w_mixS1 | apply w_skip | apply a_n | apply o_nil | (apply o_val rfl; (focus (first | rfl | (simp (disch := omega) only [dm2, oldP, newP, simB0, ZA, reduceEqDiff, ↓reduceIte, reduceAdd, reduceLeDiff, decide_eq_true_eq]; first | done | omega))); (focus ((try simp (disch := omega) only [simB2, ZA, reduceEqDiff, ↓reduceIte, reduceAdd, reduceLeDiff, ZV, reduceCtorEq, y1, y6, y7, y8, r3, r4, p0, hge]); first | with_reducible rfl | (apply s_ite; (focus omega); with_reducible rfl)))) | (apply w_cond; (focus ((try simp (disch := omega) only [simB2, ZA, reduceEqDiff, ↓reduceIte, reduceAdd, reduceLeDiff, y1, y6, y7, y8, r3, r4, p0, hge]); (try with_reducible rfl); done)); all_goals (intro _hg; (try simp (disch := omega) only [ZB] at _hg); try first | exact absurd trivial _hg | (exfalso; omega))))
                    · refine o_callF (by ((try simp only [simB0, ZA, reduceEqDiff, ↓reduceIte, reduceAdd, reduceLeDiff]); (try with_reducible rfl))) (by ((try simp only [simB0, ZA, reduceEqDiff, ↓reduceIte, reduceAdd, reduceLeDiff]); (try with_reducible rfl))) (cloneF_c w hsw) (snapL_cons (snap_row (hE3.trans hDw) rfl hwl) snapL_nil) ?_
                      repeat' (first | (apply e_bld rfl; (focus (exact Nat.succ_ne_zero _)); (focus ((try simp (disch := omega) only [simB2, ZA, reduceEqDiff, ↓reduceIte, reduceAdd, reduceLeDiff, y1, y6, y7, y8, r3, r4, p0]); (try with_reducible rfl); done)); (focus ((try simp (disch := omega) only [simB2, ZA, reduceEqDiff, ↓reduceIte, reduceAdd, reduceLeDiff, SO, Bool.and_self, one_encV, one_encVV, y1, y6, y7, y8, r3, r4, p0]); (try with_reducible rfl); done))))
                      have hEE : ∀ b, a + 4 ≤ b → hupd E (a + 2) [c1] b = E b := fun b h => hupd_ne (by omega)
                      obtain ⟨so1, so2⟩ := r5.one
                      refine e_row rfl (by ((try simp only [simB0, ZA, reduceEqDiff, ↓reduceIte, reduceAdd, reduceLeDiff]); (try with_reducible rfl))) (r6.same fun b hb => ?_) (by ((try simp only [simB0, ZA, reduceEqDiff, ↓reduceIte, reduceAdd, reduceLeDiff]); (try with_reducible rfl))) asrc_one rfl rfl Nat.one_pos (by simp at r11 ⊢; omega) (by simp at r11 ⊢; omega) ?_
                      · have := r8 b hb
                        rw [hupd_ne (by omega), hupd_ne (by omega)]
                      rintro s2 F f hrow hle1 hle2 hsame hb2
                      obtain ⟨s21, s22⟩ := hrow.one
                      have hsame' : ∀ i, i < e → i ≠ a + 2 → rowB sc ≠ some i → F i = hupd E (a + 2) [c1] i := fun i h1 h2 h3 => by
                        rw [hsame i (by omega) h3, hupd_ne (by omega), hupd_ne h2]
                      have hF1 : F (a + 1) = some [encV vec, so, sc] := by
                        rw [hsame' (a + 1) (by omega) (by omega) (fun h => by have := r8 _ h; omega), hupd_ne (by omega), r4]
                      repeat' (first | apply a_n | apply o_nil | (apply o_val rfl; (focus (first | rfl | (simp (disch := omega) only [dm2, oldP, newP, simB0, ZA, reduceEqDiff, ↓reduceIte, reduceAdd, reduceLeDiff, decide_eq_true_eq]; first | done | omega))); (focus ((try simp (disch := omega) only [simB2, ZA, reduceEqDiff, ↓reduceIte, reduceAdd, reduceLeDiff, ZV, reduceCtorEq, y1, y6, y7, y8, r4, hF1, so1, so2, s21, s22]); first | with_reducible rfl | (apply s_ite; (focus omega); with_reducible rfl)))) | (apply e_st; (focus (first | rfl | (simp (disch := omega) only [dm2, oldP, newP, simB0, ZA, reduceEqDiff, ↓reduceIte, reduceAdd, reduceLeDiff, decide_eq_true_eq]; first | done | omega))); (iterate 4 (focus ((try simp (disch := omega) only [simB2, ZA, reduceEqDiff, ↓reduceIte, reduceAdd, reduceLeDiff, y1, y6, y7, y8, r4, hF1, so1, so2, s21, s22]); (try with_reducible rfl); done))); (focus (simp (disch := omega) only [SO, Bool.and_self, one_encV, one_encVV, y1, y6, y7, y8, r4, hF1, so1, so2, s21, s22])); (iterate 3 (focus ((try simp (disch := omega) only [SL, reduceAdd, Nat.reduceMul, List.length_map]); first | done | omega)))))
                      obtain ⟨z1, z2⟩ := InI.put2 (vec := vec) (c1 := c1) (e := f) (by omega) q1.2.1 q1.2.2.1 r5 r7 r8 r9 r10 (by simp; omega) hrow (by omega) hsame' (fun b h => (hb2 b h).imp id (fun h => by omega))
                      rw [hupd_ne (by omega)] at z2
                      refine .inl ⟨trivial, ⟨?_, hupd_self'⟩, by omega, by omega, ?_⟩
                      · rw [_hg, if_pos rfl]; exact z1
                      · rw [hupd_ne (by omega), hupd_ne (by omega), z2, hE3]
                    · refine .inl ⟨trivial, ⟨?_, hupd_self'⟩, by omega, hde, (hupd_ne (by omega)).trans hE3⟩
                      simp only [_hg, Bool.false_eq_true, if_false, List.append_nil]
                      exact hq1
          · rintro r D d (⟨q1, q2, q3, q4⟩ | ⟨q1, q2⟩)
            · right
              refine ⟨.ret, by simp, q1, ?_⟩
              repeat' (first | apply a_r)
              exact .inr ⟨rfl, hupd_self', (hupd_ne (by omega)).trans ((hdel_ne (by omega)).trans q2), (hupd_ne (by omega)).trans ((hdel_ne (by omega)).trans q3), caseOf k vec, List.mem_map.2 ⟨vec, List.mem_filter.2 ⟨hmem, hpc⟩, rfl⟩, q4⟩
            · left
              refine ⟨q2, ?_⟩
              repeat' (first | apply a_n)
              rw [List.take_of_length_le (Nat.le_refl _)] at q1
              exact ⟨u5, rfl, q1.stab (Nat.le_refl _) (fun i hi h2 _ => hdel_ne h2)⟩
      · rintro r A a (⟨h4, h1, h2, hex⟩ | ⟨⟨h5, h0, h1, h2, s, h3, hr, hb, hc⟩, h4⟩)
        · right
          refine ⟨.ret, by simp, h4, ?_⟩
          repeat' (first | apply a_r | (refine e_ends rfl ?_) | (apply r_2; (iterate 2 (focus (simp only [rv, simB0, ZA, reduceEqDiff, ↓reduceIte, reduceAdd, reduceLeDiff, t1, t2, t3, h1, h2]; with_reducible rfl)))))
          have e : taskOf k = (T00, 17) := by
            unfold taskOf
            rw [if_neg (by omega), if_neg c3, if_neg (by omega), if_pos]
            rw [List.any_eq_true]
            obtain ⟨c, k1, k2⟩ := hex
            exact ⟨c, k1, by simpa using k2⟩
          rw [e]; exact snapErr 17
        · left
          refine ⟨h4, ?_⟩
          rw [List.take_of_length_le (Nat.le_refl _)] at hr hc
          repeat' (first | apply a_n)
          refine ⟨t2, t3, rfl, h1, h2, s, h3, hr.same (fun b hb' => ?_), fun b hb' => ?_, hc⟩
          · have := hb b hb'; exact hdel_ne (by omega)
          · have := hb b hb'; omega

end Go.Proofs.Ytcbkggfipdldaaa
