/- Texts of this claim, one after the other: Code, P1, P2. -/
import Derived.Test.YtcbkggfipdldaaaProg
import Derived.Test.YtcbkggfipdldaaaXG3
import Derived.KernelRfl

/- Printed by a program: the functions' code without types. -/
namespace Go.Proofs.Ytcbkggfipdldaaa
open Go Go.Abs Go.Abs.C2 Go.Abs.Ins Go.Abs.Opd Go.Abs.TK Go.Abs.MK

theorem follows : Try.prog.follows .mixedOrders = true := by rfl

/-- roundtable/roundtablelaw12.LibraryApproaches -/
def b3 : F2 := (F2.mk 90 [RV.t 6] ((ops 0 [Op2.mk (some 6) none (mov (c (AV.bool false)))]).seq (((ops 0 [Op2.mk (some 15) none (mov (t 1)),
  Op2.mk (some 16) none (bin BinOp.gtr false false (t 15) (c (AV.int IntKind.i64 (0)))), Op2.mk (some 17) none (mov (t 16)),
  Op2.mk (some 18) (some (17, true)) (mov (t 1)), Op2.mk (some 19) (some (17, true)) (bin BinOp.lss false false (t 18)
  (c (AV.int IntKind.i64 (20)))), Op2.mk (some 20) none (pick (t 17) (t 19) (c (AV.bool false))), Op2.mk (some 21)
  none (mov (t 20)), Op2.mk (some 22) (some (21, true)) (mov (t 0)), Op2.mk (some 23) (some (21, true)) (mov (t 1)),
  Op2.mk (some 24) (some (21, true)) (bin BinOp.add false false (t 23) (c (AV.int IntKind.i64 (1)))), Op2.mk (some 25)
  (some (21, true)) (call (c (AV.func 9 [])) [t 22, c (AV.int IntKind.i64 (2)), t 24]), Op2.mk (some 26) (some (21,
  true)) (un UnOp.not (t 25)), Op2.mk (some 27) none (pick (t 21) (t 26) (c (AV.bool false))), Op2.mk (some 28) none (mov (t 27)),
  Op2.mk (some 29) (some (28, false)) (mov (t 2)), Op2.mk (some 30) (some (28, false)) (bin BinOp.gtr false false (t 29)
  (c (AV.int IntKind.i64 (0)))), Op2.mk (some 31) (some (28, false)) (mov (t 30)), Op2.mk (some 32) (some (31, true))
  (mov (t 2)), Op2.mk (some 33) (some (31, true)) (bin BinOp.lss false false (t 32) (c (AV.int IntKind.i64 (20)))),
  Op2.mk (some 34) (some (28, false)) (pick (t 31) (t 33) (c (AV.bool false))), Op2.mk (some 35) (some (28, false))
  (mov (t 34)), Op2.mk (some 36) (some (35, true)) (mov (t 0)), Op2.mk (some 37) (some (35, true)) (mov (t 2)), Op2.mk (some 38)
  (some (35, true)) (mov (t 2)), Op2.mk (some 39) (some (35, true)) (bin BinOp.add false false (t 38) (c (AV.int IntKind.i64 (1)))),
  Op2.mk (some 40) (some (35, true)) (call (c (AV.func 9 [])) [t 36, t 37, t 39]), Op2.mk (some 41) (some (35, true))
  (un UnOp.not (t 40)), Op2.mk (some 42) (some (28, false)) (pick (t 35) (t 41) (c (AV.bool false))), Op2.mk (some 43)
  none (pick (t 28) (c (AV.bool true)) (t 42))]).seq (C2.cond (t 43) ((ops 0 [Op2.mk (some 44) none (call (c (AV.func 10 []))
  []), Op2.mk (some 6) none (mov (t 44))]).seq ret) skip)).seq ((ops 0 [Op2.mk (some 46) none (mov (t 0)), Op2.mk (some 47)
  none (mov (t 1)), Op2.mk (some 48) none (call (c (AV.func 11 [])) [t 46, t 47]), Op2.mk (some 45) none (mov (t 48)),
  Op2.mk (some 49) none (ext (t 45) 0), Op2.mk (some 50) none (ext (t 45) 1), Op2.mk (some 7) none (alloc (AV.agg [AV.int IntKind.i64 (0),
  AV.int IntKind.i64 (0), AV.int IntKind.i64 (0), AV.esl])), Op2.mk none none (Ins.st 4 (t 7) (t 49)), Op2.mk (some 8)
  none (mov (t 50))]).seq ((ops 0 [Op2.mk (some 52) none (mov (t 0)), Op2.mk (some 53) none (mov (t 1)), Op2.mk (some 54)
  none (call (c (AV.func 12 [])) [t 52, t 53]), Op2.mk (some 51) none (mov (t 54)), Op2.mk (some 55) none (ext (t 51)
  0), Op2.mk (some 56) none (ext (t 51) 1), Op2.mk (some 9) none (alloc (AV.agg [AV.int IntKind.i64 (0), AV.int IntKind.i64 (0),
  AV.int IntKind.i64 (0), AV.esl])), Op2.mk none none (Ins.st 4 (t 9) (t 55)), Op2.mk (some 10) none (mov (t 56))]).seq ((ops 0 [Op2.mk (some 58)
  none (mov (t 0)), Op2.mk (some 59) none (mov (t 2)), Op2.mk (some 60) none (call (c (AV.func 13 [])) [t 58, t 59]),
  Op2.mk (some 57) none (mov (t 60)), Op2.mk (some 61) none (ext (t 57) 0), Op2.mk (some 62) none (ext (t 57) 1),
  Op2.mk (some 11) none (alloc (AV.agg [AV.int IntKind.i64 (0), AV.int IntKind.i64 (0), AV.int IntKind.i64 (0), AV.esl])),
  Op2.mk none none (Ins.st 4 (t 11) (t 61)), Op2.mk (some 12) none (mov (t 62))]).seq ((ops 0 [Op2.mk (some 64) none (mov (t 0)),
  Op2.mk (some 65) none (mov (t 2)), Op2.mk (some 66) none (call (c (AV.func 14 [])) [t 64, t 65]), Op2.mk (some 63)
  none (mov (t 66)), Op2.mk (some 67) none (ext (t 63) 0), Op2.mk (some 68) none (ext (t 63) 1), Op2.mk (some 13)
  none (alloc (AV.agg [AV.int IntKind.i64 (0), AV.int IntKind.i64 (0), AV.int IntKind.i64 (0), AV.esl])), Op2.mk none none (Ins.st 4 (t 13)
  (t 67)), Op2.mk (some 14) none (mov (t 68))]).seq ((ops 0 [Op2.mk (some 69) none (ldn 4 (t 7)), Op2.mk (some 70)
  none (ldn 4 (t 9)), Op2.mk (some 71) none (call (c (AV.func 15 [])) [t 69, t 70]), Op2.mk (some 72) none (mov (t 71)),
  Op2.mk (some 73) (some (72, true)) (mov (t 8)), Op2.mk (some 74) (some (72, true)) (mov (t 10)), Op2.mk (some 75)
  (some (72, true)) (bin BinOp.eql false false (t 73) (t 74)), Op2.mk (some 76) none (pick (t 72) (t 75) (c (AV.bool false))),
  Op2.mk (some 77) none (mov (t 76)), Op2.mk (some 78) (some (77, true)) (ldn 4 (t 11)), Op2.mk (some 79) (some (77,
  true)) (ldn 4 (t 13)), Op2.mk (some 80) (some (77, true)) (call (c (AV.func 15 [])) [t 78, t 79]), Op2.mk (some 81)
  none (pick (t 77) (t 80) (c (AV.bool false))), Op2.mk (some 82) none (mov (t 81)), Op2.mk (some 83) (some (82, true))
  (mov (t 12)), Op2.mk (some 84) (some (82, true)) (mov (t 14)), Op2.mk (some 85) (some (82, true)) (bin BinOp.eql false false (t 83)
  (t 84)), Op2.mk (some 86) none (pick (t 82) (t 85) (c (AV.bool false))), Op2.mk (some 87) none (mov (t 86)), Op2.mk (some 88)
  (some (87, true)) (call (c (AV.func 10 [])) []), Op2.mk (some 89) none (pick (t 87) (t 88) (c (AV.bool false))),
  Op2.mk (some 6) none (mov (t 89))]).seq ret))))))))
theorem is3 : Is Try.prog 3 b3 := Is.mk' Try.func3 (by kernel_rfl)

/-- roundtable/roundtablelaw12.LibraryAgrees -/
def b4 : F2 := (F2.mk 68 [RV.t 6] ((ops 0 [Op2.mk (some 6) none (mov (c (AV.bool false)))]).seq (((ops 0 [Op2.mk (some 15) none (mov (t 0)),
  Op2.mk (some 16) none (mov (t 1)), Op2.mk (some 17) none (mov (t 1)), Op2.mk (some 18) none (call (c (AV.func 9 []))
  [t 15, t 16, t 17]), Op2.mk (some 19) none (un UnOp.not (t 18))]).seq (C2.cond (t 19) ((ops 0 [Op2.mk (some 20)
  none (call (c (AV.func 10 [])) []), Op2.mk (some 6) none (mov (t 20))]).seq ret) skip)).seq ((ops 0 [Op2.mk (some 22)
  none (mov (t 0)), Op2.mk (some 23) none (mov (t 1)), Op2.mk (some 24) none (call (c (AV.func 16 [])) [t 22, t 23]),
  Op2.mk (some 21) none (mov (t 24)), Op2.mk (some 25) none (ext (t 21) 0), Op2.mk (some 26) none (ext (t 21) 1),
  Op2.mk (some 7) none (alloc (AV.agg [AV.int IntKind.i64 (0), AV.int IntKind.i64 (0), AV.int IntKind.i64 (0), AV.esl])),
  Op2.mk none none (Ins.st 4 (t 7) (t 25)), Op2.mk (some 8) none (mov (t 26))]).seq ((ops 0 [Op2.mk (some 28) none (mov (t 0)),
  Op2.mk (some 29) none (mov (t 1)), Op2.mk (some 30) none (call (c (AV.func 17 [])) [t 28, t 29]), Op2.mk (some 27)
  none (mov (t 30)), Op2.mk (some 31) none (ext (t 27) 0), Op2.mk (some 32) none (ext (t 27) 1), Op2.mk (some 9) none (alloc (AV.agg [AV.int IntKind.i64 (0),
  AV.int IntKind.i64 (0), AV.int IntKind.i64 (0), AV.esl])), Op2.mk none none (Ins.st 4 (t 9) (t 31)), Op2.mk (some 10)
  none (mov (t 32))]).seq ((ops 0 [Op2.mk (some 34) none (mov (t 0)), Op2.mk (some 35) none (mov (t 1)), Op2.mk (some 36)
  none (mov (t 2)), Op2.mk (some 37) none (call (c (AV.func 18 [])) [t 34, t 35, t 36]), Op2.mk (some 33) none (mov (t 37)),
  Op2.mk (some 38) none (ext (t 33) 0), Op2.mk (some 39) none (ext (t 33) 1), Op2.mk (some 11) none (alloc (AV.agg [AV.int IntKind.i64 (0),
  AV.int IntKind.i64 (0), AV.int IntKind.i64 (0), AV.esl])), Op2.mk none none (Ins.st 4 (t 11) (t 38)), Op2.mk (some 12)
  none (mov (t 39))]).seq ((ops 0 [Op2.mk (some 41) none (mov (t 0)), Op2.mk (some 42) none (mov (t 1)), Op2.mk (some 43)
  none (mov (t 2)), Op2.mk (some 44) none (call (c (AV.func 19 [])) [t 41, t 42, t 43]), Op2.mk (some 40) none (mov (t 44)),
  Op2.mk (some 45) none (ext (t 40) 0), Op2.mk (some 46) none (ext (t 40) 1), Op2.mk (some 13) none (alloc (AV.agg [AV.int IntKind.i64 (0),
  AV.int IntKind.i64 (0), AV.int IntKind.i64 (0), AV.esl])), Op2.mk none none (Ins.st 4 (t 13) (t 45)), Op2.mk (some 14)
  none (mov (t 46))]).seq ((ops 0 [Op2.mk (some 47) none (ldn 4 (t 7)), Op2.mk (some 48) none (ldn 4 (t 9)), Op2.mk (some 49)
  none (call (c (AV.func 15 [])) [t 47, t 48]), Op2.mk (some 50) none (mov (t 49)), Op2.mk (some 51) (some (50, true))
  (mov (t 8)), Op2.mk (some 52) (some (50, true)) (mov (t 10)), Op2.mk (some 53) (some (50, true)) (bin BinOp.eql false false (t 51)
  (t 52)), Op2.mk (some 54) none (pick (t 50) (t 53) (c (AV.bool false))), Op2.mk (some 55) none (mov (t 54)), Op2.mk (some 56)
  (some (55, true)) (ldn 4 (t 11)), Op2.mk (some 57) (some (55, true)) (ldn 4 (t 13)), Op2.mk (some 58) (some (55,
  true)) (call (c (AV.func 15 [])) [t 56, t 57]), Op2.mk (some 59) none (pick (t 55) (t 58) (c (AV.bool false))),
  Op2.mk (some 60) none (mov (t 59)), Op2.mk (some 61) (some (60, true)) (mov (t 12)), Op2.mk (some 62) (some (60,
  true)) (mov (t 14)), Op2.mk (some 63) (some (60, true)) (bin BinOp.eql false false (t 61) (t 62)), Op2.mk (some 64)
  none (pick (t 60) (t 63) (c (AV.bool false))), Op2.mk (some 65) none (mov (t 64)), Op2.mk (some 66) (some (65, true))
  (call (c (AV.func 10 [])) []), Op2.mk (some 67) none (pick (t 65) (t 66) (c (AV.bool false))), Op2.mk (some 6) none (mov (t 67))]).seq ret))))))))
theorem is4 : Is Try.prog 4 b4 := Is.mk' Try.func4 (by kernel_rfl)

/-- roundtable/roundtablelaw12.LibraryCalms -/
def b6 : F2 := (F2.mk 159 [RV.t 4] ((ops 0 [Op2.mk (some 4) none (mov (c (AV.bool false)))]).seq (((ops 0 [Op2.mk (some 22) none (mov (t 0)),
  Op2.mk (some 23) none (bin BinOp.lss false false (t 22) (c (AV.int IntKind.i64 (2)))), Op2.mk (some 24) none (mov (t 23)),
  Op2.mk (some 25) (some (24, false)) (mov (t 0)), Op2.mk (some 26) (some (24, false)) (bin BinOp.gtr false false (t 25)
  (c (AV.int IntKind.i64 (3)))), Op2.mk (some 27) none (pick (t 24) (c (AV.bool true)) (t 26)), Op2.mk (some 28) none (mov (t 27)),
  Op2.mk (some 29) (some (28, false)) (mov (t 1)), Op2.mk (some 30) (some (28, false)) (bin BinOp.lss false false (t 29)
  (c (AV.int IntKind.i64 (1)))), Op2.mk (some 31) none (pick (t 28) (c (AV.bool true)) (t 30)), Op2.mk (some 32) none (mov (t 31)),
  Op2.mk (some 33) (some (32, false)) (mov (t 1)), Op2.mk (some 34) (some (32, false)) (bin BinOp.gtr false false (t 33)
  (c (AV.int IntKind.i64 (3)))), Op2.mk (some 35) none (pick (t 32) (c (AV.bool true)) (t 34))]).seq (C2.cond (t 35)
  ((ops 0 [Op2.mk (some 36) none (call (c (AV.func 10 [])) []), Op2.mk (some 4) none (mov (t 36))]).seq ret) skip)).seq ((ops 0 [Op2.mk (some 38)
  none (mov (t 0)), Op2.mk (some 39) none (mov (t 1)), Op2.mk (some 40) none (call (c (AV.func 13 [])) [t 38, t 39]),
  Op2.mk (some 37) none (mov (t 40)), Op2.mk (some 41) none (ext (t 37) 0), Op2.mk (some 42) none (ext (t 37) 1),
  Op2.mk (some 5) none (alloc (AV.agg [AV.int IntKind.i64 (0), AV.int IntKind.i64 (0), AV.int IntKind.i64 (0), AV.esl])),
  Op2.mk none none (Ins.st 4 (t 5) (t 41)), Op2.mk (some 6) none (mov (t 42))]).seq ((ops 0 [Op2.mk (some 44) none (mov (t 0)),
  Op2.mk (some 45) none (call (c (AV.func 23 [])) [t 44]), Op2.mk (some 43) none (mov (t 45)), Op2.mk (some 46) none (ext (t 43)
  0), Op2.mk (some 47) none (ext (t 43) 1), Op2.mk (some 7) none (alloc (AV.agg [AV.int IntKind.i64 (0), AV.int IntKind.i64 (0),
  AV.int IntKind.i64 (0), AV.esl])), Op2.mk none none (Ins.st 4 (t 7) (t 46)), Op2.mk (some 8) none (mov (t 47))]).seq (((ops 0 [Op2.mk (some 48)
  none (mov (t 6)), Op2.mk (some 49) none (bin BinOp.neq false false (t 48) (c (AV.int IntKind.i64 (0)))), Op2.mk (some 50)
  none (mov (t 49)), Op2.mk (some 51) (some (50, false)) (mov (t 8)), Op2.mk (some 52) (some (50, false)) (bin BinOp.neq false false (t 51)
  (c (AV.int IntKind.i64 (0)))), Op2.mk (some 53) none (pick (t 50) (c (AV.bool true)) (t 52))]).seq (C2.cond (t 53)
  ((ops 0 [Op2.mk (some 4) none (mov (c (AV.bool false)))]).seq ret) skip)).seq (((ops 0 [Op2.mk (some 54) none (fa 3 (t 5)),
  Op2.mk (some 55) none (ld1 (t 54)), Op2.mk (some 56) none (lenS (t 55)), Op2.mk (some 57) none (mov (c (AV.int IntKind.i64 (0))))]).seq (block 0 ((ops 0 [Op2.mk (some 58)
  none (bin BinOp.lss false false (t 57) (t 56))]).seq ((C2.cond (t 58) skip (exit 0)).seq ((block 1 ((ops 0 [Op2.mk (some 59)
  none (mov (t 57)), Op2.mk (some 60) none (ixaS 3 (t 55) (t 57)), Op2.mk (some 61) none (ldn 3 (t 60)), Op2.mk (some 10)
  none (alloc (AV.agg [AV.esl, AV.esl, AV.esl])), Op2.mk (some 9) none (mov (t 59)), Op2.mk none none (Ins.st 3 (t 10)
  (t 61))]).seq ((ops 0 [Op2.mk (some 63) none (ldn 4 (t 5)), Op2.mk (some 64) none (mov (t 9)), Op2.mk (some 65)
  none (call (c (AV.func 24 [])) [t 63, t 64, c (AV.int IntKind.i64 (0))]), Op2.mk (some 62) none (mov (t 65)), Op2.mk (some 66)
  none (ext (t 62) 0), Op2.mk (some 67) none (ext (t 62) 1), Op2.mk (some 11) none (mov (t 66)), Op2.mk (some 12)
  none (mov (t 67))]).seq ((ops 1 [Op2.mk (some 69) none (ldn 4 (t 5)), Op2.mk (some 70) none (mov (t 9)), Op2.mk (some 71)
  none (mov (t 1)), Op2.mk (some 72) none (bldS 1 1 [AV.int IntKind.i64 (0)] [(0, 1, t 71)]), Op2.mk (some 73) none (mov (t 0)),
  Op2.mk (some 74) none (call (c (AV.func 26 [])) [t 72, t 73]), Op2.mk (some 75) none (call (c (AV.func 25 [])) [t 69,
  t 70, c (AV.int IntKind.i64 (1)), t 74]), Op2.mk (some 68) none (mov (t 75)), Op2.mk (some 76) none (ext (t 68)
  0), Op2.mk (some 77) none (ext (t 68) 1), Op2.mk (some 13) none (mov (t 76)), Op2.mk (some 14) none (mov (t 77))]).seq ((ops 1 [Op2.mk (some 78)
  none (mov (t 12)), Op2.mk (some 79) none (bin BinOp.neq false false (t 78) (c (AV.int IntKind.i64 (0)))), Op2.mk (some 80)
  none (mov (t 79)), Op2.mk (some 81) (some (80, false)) (mov (t 14)), Op2.mk (some 82) (some (80, false)) (bin BinOp.neq false false (t 81)
  (c (AV.int IntKind.i64 (0)))), Op2.mk (some 83) none (pick (t 80) (c (AV.bool true)) (t 82)), Op2.mk (some 84) none (mov (t 83)),
  Op2.mk (some 85) (some (84, false)) (mov (t 11)), Op2.mk (some 86) (some (84, false)) (lenS (t 85)), Op2.mk (some 87)
  (some (84, false)) (bin BinOp.neq false false (t 86) (c (AV.int IntKind.i64 (1)))), Op2.mk (some 88) none (pick (t 84)
  (c (AV.bool true)) (t 87)), Op2.mk (some 89) none (mov (t 88)), Op2.mk (some 90) (some (89, false)) (mov (t 11)),
  Op2.mk (some 91) (some (89, false)) (ixaS 1 (t 90) (c (AV.int IntKind.i64 (0)))), Op2.mk (some 92) (some (89, false))
  (ld1 (t 91)), Op2.mk (some 93) (some (89, false)) (fa 0 (t 10)), Op2.mk (some 94) (some (89, false)) (ld1 (t 93)),
  Op2.mk (some 95) (some (89, false)) (sls 1 (t 94) none (some (c (AV.int IntKind.i64 (1)))) none), Op2.mk (some 96)
  (some (89, false)) (mov (t 0)), Op2.mk (some 97) (some (89, false)) (call (c (AV.func 26 [])) [t 95, t 96]), Op2.mk (some 98)
  (some (89, false)) (call (c (AV.func 27 [])) [t 92, t 97]), Op2.mk (some 99) (some (89, false)) (un UnOp.not (t 98)),
  Op2.mk (some 100) none (pick (t 89) (c (AV.bool true)) (t 99)), Op2.mk (some 101) none (mov (t 100)), Op2.mk (some 102)
  (some (101, false)) (mov (t 13)), Op2.mk (some 103) (some (101, false)) (un UnOp.not (t 102)), Op2.mk (some 104)
  none (pick (t 101) (c (AV.bool true)) (t 103))]).seq (C2.cond (t 104) ((ops 0 [Op2.mk (some 4) none (mov (c (AV.bool false)))]).seq ret)
  skip)))))).seq (ops 0 [Op2.mk (some 105) none (bin BinOp.add false false (t 57) (c (AV.int IntKind.i64 (1)))), Op2.mk (some 57)
  none (mov (t 105))])))).loop)).seq (((ops 0 [Op2.mk (some 106) none (fa 3 (t 7)), Op2.mk (some 107) none (ld1 (t 106)),
  Op2.mk (some 108) none (lenS (t 107)), Op2.mk (some 109) none (mov (c (AV.int IntKind.i64 (0))))]).seq (block 2 ((ops 0 [Op2.mk (some 110)
  none (bin BinOp.lss false false (t 109) (t 108))]).seq ((C2.cond (t 110) skip (exit 2)).seq ((block 3 ((ops 0 [Op2.mk (some 111)
  none (mov (t 109)), Op2.mk (some 112) none (ixaS 3 (t 107) (t 109)), Op2.mk (some 113) none (ldn 3 (t 112)), Op2.mk (some 16)
  none (alloc (AV.agg [AV.esl, AV.esl, AV.esl])), Op2.mk (some 15) none (mov (t 111)), Op2.mk none none (Ins.st 3 (t 16)
  (t 113))]).seq ((ops 0 [Op2.mk (some 115) none (ldn 4 (t 7)), Op2.mk (some 116) none (mov (t 15)), Op2.mk (some 117)
  none (call (c (AV.func 24 [])) [t 115, t 116, c (AV.int IntKind.i64 (0))]), Op2.mk (some 114) none (mov (t 117)),
  Op2.mk (some 118) none (ext (t 114) 0), Op2.mk (some 119) none (ext (t 114) 1), Op2.mk (some 17) none (mov (t 118)),
  Op2.mk (some 18) none (mov (t 119))]).seq ((ops 1 [Op2.mk (some 121) none (ldn 4 (t 7)), Op2.mk (some 122) none (mov (t 15)),
  Op2.mk (some 123) none (mov (t 0)), Op2.mk (some 124) none (mks 1 8 [AV.int IntKind.i64 (0)] (t 123) (t 123)), Op2.mk (some 125)
  none (call (c (AV.func 25 [])) [t 121, t 122, c (AV.int IntKind.i64 (2)), t 124]), Op2.mk (some 120) none (mov (t 125)),
  Op2.mk (some 126) none (ext (t 120) 0), Op2.mk (some 127) none (ext (t 120) 1), Op2.mk (some 19) none (mov (t 126)),
  Op2.mk (some 20) none (mov (t 127))]).seq ((ops 0 [Op2.mk (some 21) none (mov (c (AV.int IntKind.i64 (1))))]).seq (((ops 0 [Op2.mk (some 128)
  none (fa 0 (t 16)), Op2.mk (some 129) none (ld1 (t 128)), Op2.mk (some 130) none (call (c (AV.func 28 [])) [t 129,
  c (AV.int IntKind.i64 (0))])]).seq (C2.cond (t 130) (ops 0 [Op2.mk (some 21) none (mov (c (AV.int IntKind.i64 (0))))])
  skip)).seq ((ops 1 [Op2.mk (some 131) none (mov (t 18)), Op2.mk (some 132) none (bin BinOp.neq false false (t 131)
  (c (AV.int IntKind.i64 (0)))), Op2.mk (some 133) none (mov (t 132)), Op2.mk (some 134) (some (133, false)) (mov (t 20)),
  Op2.mk (some 135) (some (133, false)) (bin BinOp.neq false false (t 134) (c (AV.int IntKind.i64 (0)))), Op2.mk (some 136)
  none (pick (t 133) (c (AV.bool true)) (t 135)), Op2.mk (some 137) none (mov (t 136)), Op2.mk (some 138) (some (137,
  false)) (mov (t 17)), Op2.mk (some 139) (some (137, false)) (lenS (t 138)), Op2.mk (some 140) (some (137, false))
  (bin BinOp.neq false false (t 139) (c (AV.int IntKind.i64 (1)))), Op2.mk (some 141) none (pick (t 137) (c (AV.bool true))
  (t 140)), Op2.mk (some 142) none (mov (t 141)), Op2.mk (some 143) (some (142, false)) (mov (t 17)), Op2.mk (some 144)
  (some (142, false)) (ixaS 1 (t 143) (c (AV.int IntKind.i64 (0)))), Op2.mk (some 145) (some (142, false)) (ld1 (t 144)),
  Op2.mk (some 146) (some (142, false)) (mov (t 21)), Op2.mk (some 147) (some (142, false)) (bldS 1 1 [AV.int IntKind.i64 (0)] [(0,
  1, t 146)]), Op2.mk (some 148) (some (142, false)) (mov (t 0)), Op2.mk (some 149) (some (142, false)) (call (c (AV.func 26 []))
  [t 147, t 148]), Op2.mk (some 150) (some (142, false)) (call (c (AV.func 27 [])) [t 145, t 149]), Op2.mk (some 151)
  (some (142, false)) (un UnOp.not (t 150)), Op2.mk (some 152) none (pick (t 142) (c (AV.bool true)) (t 151)), Op2.mk (some 153)
  none (mov (t 152)), Op2.mk (some 154) (some (153, false)) (mov (t 19)), Op2.mk (some 155) (some (153, false)) (un UnOp.not (t 154)),
  Op2.mk (some 156) none (pick (t 153) (c (AV.bool true)) (t 155))]).seq (C2.cond (t 156) ((ops 0 [Op2.mk (some 4)
  none (mov (c (AV.bool false)))]).seq ret) skip)))))))).seq (ops 0 [Op2.mk (some 157) none (bin BinOp.add false false (t 109)
  (c (AV.int IntKind.i64 (1)))), Op2.mk (some 109) none (mov (t 157))])))).loop)).seq ((ops 0 [Op2.mk (some 158) none (call (c (AV.func 10 []))
  []), Op2.mk (some 4) none (mov (t 158))]).seq ret)))))))))
theorem is6 : Is Try.prog 6 b6 := Is.mk' Try.func6 (by kernel_rfl)

/-- roundtable/roundtableref12.Few -/
def b9 : F2 := (F2.mk 37 [RV.t 6] ((ops 0 [Op2.mk (some 6) none (mov (c (AV.bool false)))]).seq (((ops 0 [Op2.mk (some 7) none (mov (t 0)),
  Op2.mk (some 8) none (bin BinOp.lss false false (t 7) (c (AV.int IntKind.i64 (1)))), Op2.mk (some 9) none (mov (t 8)),
  Op2.mk (some 10) (some (9, false)) (mov (t 0)), Op2.mk (some 11) (some (9, false)) (bin BinOp.gtr false false (t 10)
  (c (AV.int IntKind.i64 (5)))), Op2.mk (some 12) none (pick (t 9) (c (AV.bool true)) (t 11)), Op2.mk (some 13) none (mov (t 12)),
  Op2.mk (some 14) (some (13, false)) (mov (t 1)), Op2.mk (some 15) (some (13, false)) (bin BinOp.lss false false (t 14)
  (c (AV.int IntKind.i64 (1)))), Op2.mk (some 16) none (pick (t 13) (c (AV.bool true)) (t 15)), Op2.mk (some 17) none (mov (t 16)),
  Op2.mk (some 18) (some (17, false)) (mov (t 1)), Op2.mk (some 19) (some (17, false)) (bin BinOp.gtr false false (t 18)
  (c (AV.int IntKind.i64 (8)))), Op2.mk (some 20) none (pick (t 17) (c (AV.bool true)) (t 19)), Op2.mk (some 21) none (mov (t 20)),
  Op2.mk (some 22) (some (21, false)) (mov (t 2)), Op2.mk (some 23) (some (21, false)) (bin BinOp.lss false false (t 22)
  (c (AV.int IntKind.i64 (1)))), Op2.mk (some 24) none (pick (t 21) (c (AV.bool true)) (t 23)), Op2.mk (some 25) none (mov (t 24)),
  Op2.mk (some 26) (some (25, false)) (mov (t 2)), Op2.mk (some 27) (some (25, false)) (bin BinOp.gtr false false (t 26)
  (c (AV.int IntKind.i64 (8)))), Op2.mk (some 28) none (pick (t 25) (c (AV.bool true)) (t 27))]).seq (C2.cond (t 28)
  ((ops 0 [Op2.mk (some 6) none (mov (c (AV.bool true)))]).seq ret) skip)).seq ((ops 0 [Op2.mk (some 29) none (mov (t 1)),
  Op2.mk (some 30) none (mov (t 0)), Op2.mk (some 31) none (call (c (AV.func 43 [])) [t 29, t 30, c (AV.int IntKind.i64 (1000))]),
  Op2.mk (some 32) none (mov (t 2)), Op2.mk (some 33) none (mov (t 0)), Op2.mk (some 34) none (call (c (AV.func 43 []))
  [t 32, t 33, c (AV.int IntKind.i64 (1000))]), Op2.mk (some 35) none (bin BinOp.mul false false (t 31) (t 34)), Op2.mk (some 36)
  none (bin BinOp.leq false false (t 35) (c (AV.int IntKind.i64 (3000)))), Op2.mk (some 6) none (mov (t 36))]).seq ret))))
theorem is9 : Is Try.prog 9 b9 := Is.mk' Try.func9 (by kernel_rfl)

/-- roundtable/roundtablelaw12.awake -/
def b10 : F2 := (F2.mk 192 [RV.t 0] ((ops 0 [Op2.mk (some 0) none (mov (c (AV.bool false)))]).seq ((ops 0 [Op2.mk (some 16) none (call (c (AV.func 16 []))
  [c (AV.int IntKind.i64 (2)), c (AV.int IntKind.i64 (2))]), Op2.mk (some 15) none (mov (t 16)), Op2.mk (some 17)
  none (ext (t 15) 0), Op2.mk (some 18) none (ext (t 15) 1), Op2.mk (some 1) none (alloc (AV.agg [AV.int IntKind.i64 (0),
  AV.int IntKind.i64 (0), AV.int IntKind.i64 (0), AV.esl])), Op2.mk none none (Ins.st 4 (t 1) (t 17)), Op2.mk (some 2)
  none (mov (t 18))]).seq ((ops 0 [Op2.mk (some 20) none (call (c (AV.func 11 [])) [c (AV.int IntKind.i64 (2)), c (AV.int IntKind.i64 (3))]),
  Op2.mk (some 19) none (mov (t 20)), Op2.mk (some 21) none (ext (t 19) 0), Op2.mk (some 22) none (ext (t 19) 1),
  Op2.mk (some 3) none (alloc (AV.agg [AV.int IntKind.i64 (0), AV.int IntKind.i64 (0), AV.int IntKind.i64 (0), AV.esl])),
  Op2.mk none none (Ins.st 4 (t 3) (t 21)), Op2.mk (some 4) none (mov (t 22))]).seq ((ops 0 [Op2.mk (some 24) none (call (c (AV.func 35 []))
  [c (AV.int IntKind.i64 (2)), c (AV.int IntKind.i64 (3)), c (AV.int IntKind.i64 (3))]), Op2.mk (some 23) none (mov (t 24)),
  Op2.mk (some 25) none (ext (t 23) 0), Op2.mk (some 26) none (ext (t 23) 1), Op2.mk (some 5) none (alloc (AV.agg [AV.int IntKind.i64 (0),
  AV.int IntKind.i64 (0), AV.int IntKind.i64 (0), AV.esl])), Op2.mk none none (Ins.st 4 (t 5) (t 25)), Op2.mk (some 6)
  none (mov (t 26))]).seq ((ops 0 [Op2.mk (some 28) none (call (c (AV.func 35 [])) [c (AV.int IntKind.i64 (3)), c (AV.int IntKind.i64 (3)),
  c (AV.int IntKind.i64 (2))]), Op2.mk (some 27) none (mov (t 28)), Op2.mk (some 29) none (ext (t 27) 0), Op2.mk (some 30)
  none (ext (t 27) 1), Op2.mk (some 7) none (alloc (AV.agg [AV.int IntKind.i64 (0), AV.int IntKind.i64 (0), AV.int IntKind.i64 (0),
  AV.esl])), Op2.mk none none (Ins.st 4 (t 7) (t 29)), Op2.mk (some 8) none (mov (t 30))]).seq ((ops 0 [Op2.mk (some 32)
  none (call (c (AV.func 35 [])) [c (AV.int IntKind.i64 (3)), c (AV.int IntKind.i64 (2)), c (AV.int IntKind.i64 (3))]),
  Op2.mk (some 31) none (mov (t 32)), Op2.mk (some 33) none (ext (t 31) 0), Op2.mk (some 34) none (ext (t 31) 1),
  Op2.mk (some 9) none (alloc (AV.agg [AV.int IntKind.i64 (0), AV.int IntKind.i64 (0), AV.int IntKind.i64 (0), AV.esl])),
  Op2.mk none none (Ins.st 4 (t 9) (t 33)), Op2.mk (some 10) none (mov (t 34))]).seq ((ops 0 [Op2.mk (some 36) none (call (c (AV.func 13 []))
  [c (AV.int IntKind.i64 (2)), c (AV.int IntKind.i64 (2))]), Op2.mk (some 35) none (mov (t 36)), Op2.mk (some 37)
  none (ext (t 35) 0), Op2.mk (some 38) none (ext (t 35) 1), Op2.mk (some 11) none (alloc (AV.agg [AV.int IntKind.i64 (0),
  AV.int IntKind.i64 (0), AV.int IntKind.i64 (0), AV.esl])), Op2.mk none none (Ins.st 4 (t 11) (t 37)), Op2.mk (some 12)
  none (mov (t 38))]).seq ((ops 0 [Op2.mk (some 40) none (call (c (AV.func 23 [])) [c (AV.int IntKind.i64 (2))]),
  Op2.mk (some 39) none (mov (t 40)), Op2.mk (some 41) none (ext (t 39) 0), Op2.mk (some 42) none (ext (t 39) 1),
  Op2.mk (some 13) none (alloc (AV.agg [AV.int IntKind.i64 (0), AV.int IntKind.i64 (0), AV.int IntKind.i64 (0), AV.esl])),
  Op2.mk none none (Ins.st 4 (t 13) (t 41)), Op2.mk (some 14) none (mov (t 42))]).seq (((ops 0 [Op2.mk (some 43) none (mov (t 2)),
  Op2.mk (some 44) none (mov (t 4)), Op2.mk (some 45) none (bin BinOp.add false false (t 43) (t 44)), Op2.mk (some 46)
  none (mov (t 6)), Op2.mk (some 47) none (bin BinOp.add false false (t 45) (t 46)), Op2.mk (some 48) none (mov (t 12)),
  Op2.mk (some 49) none (bin BinOp.add false false (t 47) (t 48)), Op2.mk (some 50) none (mov (t 14)), Op2.mk (some 51)
  none (bin BinOp.add false false (t 49) (t 50)), Op2.mk (some 52) none (bin BinOp.neq false false (t 51) (c (AV.int IntKind.i64 (0)))),
  Op2.mk (some 53) none (mov (t 52)), Op2.mk (some 54) (some (53, false)) (mov (t 8)), Op2.mk (some 55) (some (53,
  false)) (bin BinOp.neq false false (t 54) (c (AV.int IntKind.i64 (16)))), Op2.mk (some 56) none (pick (t 53) (c (AV.bool true))
  (t 55)), Op2.mk (some 57) none (mov (t 56)), Op2.mk (some 58) (some (57, false)) (mov (t 10)), Op2.mk (some 59)
  (some (57, false)) (bin BinOp.neq false false (t 58) (c (AV.int IntKind.i64 (16)))), Op2.mk (some 60) none (pick (t 57)
  (c (AV.bool true)) (t 59)), Op2.mk (some 61) none (mov (t 60)), Op2.mk (some 62) (some (61, false)) (fa 3 (t 1)),
  Op2.mk (some 63) (some (61, false)) (ld1 (t 62)), Op2.mk (some 64) (some (61, false)) (lenS (t 63)), Op2.mk (some 65)
  (some (61, false)) (bin BinOp.neq false false (t 64) (c (AV.int IntKind.i64 (4)))), Op2.mk (some 66) none (pick (t 61)
  (c (AV.bool true)) (t 65)), Op2.mk (some 67) none (mov (t 66)), Op2.mk (some 68) (some (67, false)) (fa 3 (t 3)),
  Op2.mk (some 69) (some (67, false)) (ld1 (t 68)), Op2.mk (some 70) (some (67, false)) (lenS (t 69)), Op2.mk (some 71)
  (some (67, false)) (bin BinOp.neq false false (t 70) (c (AV.int IntKind.i64 (4)))), Op2.mk (some 72) none (pick (t 67)
  (c (AV.bool true)) (t 71)), Op2.mk (some 73) none (mov (t 72)), Op2.mk (some 74) (some (73, false)) (fa 3 (t 5)),
  Op2.mk (some 75) (some (73, false)) (ld1 (t 74)), Op2.mk (some 76) (some (73, false)) (lenS (t 75)), Op2.mk (some 77)
  (some (73, false)) (bin BinOp.neq false false (t 76) (c (AV.int IntKind.i64 (6)))), Op2.mk (some 78) none (pick (t 73)
  (c (AV.bool true)) (t 77)), Op2.mk (some 79) none (mov (t 78)), Op2.mk (some 80) (some (79, false)) (fa 3 (t 11)),
  Op2.mk (some 81) (some (79, false)) (ld1 (t 80)), Op2.mk (some 82) (some (79, false)) (lenS (t 81)), Op2.mk (some 83)
  (some (79, false)) (bin BinOp.neq false false (t 82) (c (AV.int IntKind.i64 (4)))), Op2.mk (some 84) none (pick (t 79)
  (c (AV.bool true)) (t 83)), Op2.mk (some 85) none (mov (t 84)), Op2.mk (some 86) (some (85, false)) (fa 3 (t 13)),
  Op2.mk (some 87) (some (85, false)) (ld1 (t 86)), Op2.mk (some 88) (some (85, false)) (lenS (t 87)), Op2.mk (some 89)
  (some (85, false)) (bin BinOp.neq false false (t 88) (c (AV.int IntKind.i64 (4)))), Op2.mk (some 90) none (pick (t 85)
  (c (AV.bool true)) (t 89))]).seq (C2.cond (t 90) ((ops 0 [Op2.mk (some 0) none (mov (c (AV.bool false)))]).seq ret)
  skip)).seq ((ops 0 [Op2.mk (some 91) none (fa 3 (t 1)), Op2.mk (some 92) none (ld1 (t 91)), Op2.mk (some 93) none (ixaS 3 (t 92)
  (c (AV.int IntKind.i64 (1)))), Op2.mk (some 94) none (fa 1 (t 93)), Op2.mk (some 95) none (ld1 (t 94)), Op2.mk (some 96)
  none (bldS 1 2 [AV.int IntKind.i64 (0)] [(0, 1, c (AV.int IntKind.i64 (0))), (1, 1, c (AV.int IntKind.i64 (0)))]),
  Op2.mk (some 97) none (bldS 1 2 [AV.int IntKind.i64 (0)] [(0, 1, c (AV.int IntKind.i64 (1))), (1, 1, c (AV.int IntKind.i64 (1)))]),
  Op2.mk (some 98) none (bldS 1 2 [AV.esl] [(0, 1, t 96), (1, 1, t 97)]), Op2.mk (some 99) none (call (c (AV.func 44 []))
  [t 95, t 98]), Op2.mk (some 100) none (mov (t 99)), Op2.mk (some 101) (some (100, true)) (fa 3 (t 1)), Op2.mk (some 102)
  (some (100, true)) (ld1 (t 101)), Op2.mk (some 103) (some (100, true)) (ixaS 3 (t 102) (c (AV.int IntKind.i64 (3)))),
  Op2.mk (some 104) (some (100, true)) (fa 1 (t 103)), Op2.mk (some 105) (some (100, true)) (ld1 (t 104)), Op2.mk (some 106)
  (some (100, true)) (lenS (t 105)), Op2.mk (some 107) (some (100, true)) (bin BinOp.eql false false (t 106) (c (AV.int IntKind.i64 (1)))),
  Op2.mk (some 108) none (pick (t 100) (t 107) (c (AV.bool false))), Op2.mk (some 109) none (mov (t 108)), Op2.mk (some 110)
  (some (109, true)) (fa 3 (t 1)), Op2.mk (some 111) (some (109, true)) (ld1 (t 110)), Op2.mk (some 112) (some (109,
  true)) (ixaS 3 (t 111) (c (AV.int IntKind.i64 (1)))), Op2.mk (some 113) (some (109, true)) (fa 2 (t 112)), Op2.mk (some 114)
  (some (109, true)) (ld1 (t 113)), Op2.mk (some 115) (some (109, true)) (lenS (t 114)), Op2.mk (some 116) (some (109,
  true)) (bin BinOp.eql false false (t 115) (c (AV.int IntKind.i64 (0)))), Op2.mk (some 117) none (pick (t 109) (t 116)
  (c (AV.bool false))), Op2.mk (some 118) none (mov (t 117)), Op2.mk (some 119) (some (118, true)) (fa 3 (t 3)), Op2.mk (some 120)
  (some (118, true)) (ld1 (t 119)), Op2.mk (some 121) (some (118, true)) (ixaS 3 (t 120) (c (AV.int IntKind.i64 (1)))),
  Op2.mk (some 122) (some (118, true)) (fa 1 (t 121)), Op2.mk (some 123) (some (118, true)) (ld1 (t 122)), Op2.mk (some 124)
  (some (118, true)) (lenS (t 123)), Op2.mk (some 125) (some (118, true)) (bin BinOp.eql false false (t 124) (c (AV.int IntKind.i64 (10)))),
  Op2.mk (some 126) none (pick (t 118) (t 125) (c (AV.bool false))), Op2.mk (some 127) none (mov (t 126)), Op2.mk (some 128)
  (some (127, true)) (fa 3 (t 3)), Op2.mk (some 129) (some (127, true)) (ld1 (t 128)), Op2.mk (some 130) (some (127,
  true)) (ixaS 3 (t 129) (c (AV.int IntKind.i64 (3)))), Op2.mk (some 131) (some (127, true)) (fa 1 (t 130)), Op2.mk (some 132)
  (some (127, true)) (ld1 (t 131)), Op2.mk (some 133) (some (127, true)) (lenS (t 132)), Op2.mk (some 134) (some (127,
  true)) (bin BinOp.eql false false (t 133) (c (AV.int IntKind.i64 (1)))), Op2.mk (some 135) none (pick (t 127) (t 134)
  (c (AV.bool false))), Op2.mk (some 136) none (mov (t 135)), Op2.mk (some 137) (some (136, true)) (fa 3 (t 5)), Op2.mk (some 138)
  (some (136, true)) (ld1 (t 137)), Op2.mk (some 139) (some (136, true)) (ixaS 3 (t 138) (c (AV.int IntKind.i64 (0)))),
  Op2.mk (some 140) (some (136, true)) (fa 1 (t 139)), Op2.mk (some 141) (some (136, true)) (ld1 (t 140)), Op2.mk (some 142)
  (some (136, true)) (lenS (t 141)), Op2.mk (some 143) (some (136, true)) (bin BinOp.eql false false (t 142) (c (AV.int IntKind.i64 (6)))),
  Op2.mk (some 144) none (pick (t 136) (t 143) (c (AV.bool false))), Op2.mk (some 145) none (mov (t 144)), Op2.mk (some 146)
  (some (145, true)) (fa 3 (t 11)), Op2.mk (some 147) (some (145, true)) (ld1 (t 146)), Op2.mk (some 148) (some (145,
  true)) (ixaS 3 (t 147) (c (AV.int IntKind.i64 (0)))), Op2.mk (some 149) (some (145, true)) (fa 1 (t 148)), Op2.mk (some 150)
  (some (145, true)) (ld1 (t 149)), Op2.mk (some 151) (some (145, true)) (lenS (t 150)), Op2.mk (some 152) (some (145,
  true)) (bin BinOp.eql false false (t 151) (c (AV.int IntKind.i64 (7)))), Op2.mk (some 153) none (pick (t 145) (t 152)
  (c (AV.bool false))), Op2.mk (some 154) none (mov (t 153)), Op2.mk (some 155) (some (154, true)) (fa 3 (t 11)),
  Op2.mk (some 156) (some (154, true)) (ld1 (t 155)), Op2.mk (some 157) (some (154, true)) (ixaS 3 (t 156) (c (AV.int IntKind.i64 (2)))),
  Op2.mk (some 158) (some (154, true)) (fa 2 (t 157)), Op2.mk (some 159) (some (154, true)) (ld1 (t 158)), Op2.mk (some 160)
  (some (154, true)) (bldS 1 2 [AV.int IntKind.i64 (0)] [(0, 1, c (AV.int IntKind.i64 (1))), (1, 1, c (AV.int IntKind.i64 (1)))]),
  Op2.mk (some 161) (some (154, true)) (bldS 1 1 [AV.esl] [(0, 1, t 160)]), Op2.mk (some 162) (some (154, true)) (call (c (AV.func 44 []))
  [t 159, t 161]), Op2.mk (some 163) none (pick (t 154) (t 162) (c (AV.bool false))), Op2.mk (some 164) none (mov (t 163)),
  Op2.mk (some 165) (some (164, true)) (fa 3 (t 13)), Op2.mk (some 166) (some (164, true)) (ld1 (t 165)), Op2.mk (some 167)
  (some (164, true)) (ixaS 3 (t 166) (c (AV.int IntKind.i64 (3)))), Op2.mk (some 168) (some (164, true)) (fa 2 (t 167)),
  Op2.mk (some 169) (some (164, true)) (ld1 (t 168)), Op2.mk (some 170) (some (164, true)) (bldS 1 2 [AV.int IntKind.i64 (0)] [(0,
  1, c (AV.int IntKind.i64 (1))), (1, 1, c (AV.int IntKind.i64 (1)))]), Op2.mk (some 171) (some (164, true)) (bldS 1 1 [AV.esl] [(0,
  1, t 170)]), Op2.mk (some 172) (some (164, true)) (call (c (AV.func 44 [])) [t 169, t 171]), Op2.mk (some 173) none (pick (t 164)
  (t 172) (c (AV.bool false))), Op2.mk (some 174) none (mov (t 173)), Op2.mk (some 175) (some (174, true)) (fa 3 (t 13)),
  Op2.mk (some 176) (some (174, true)) (ld1 (t 175)), Op2.mk (some 177) (some (174, true)) (ixaS 3 (t 176) (c (AV.int IntKind.i64 (3)))),
  Op2.mk (some 178) (some (174, true)) (fa 1 (t 177)), Op2.mk (some 179) (some (174, true)) (ld1 (t 178)), Op2.mk (some 180)
  (some (174, true)) (lenS (t 179)), Op2.mk (some 181) (some (174, true)) (bin BinOp.eql false false (t 180) (c (AV.int IntKind.i64 (2)))),
  Op2.mk (some 182) none (pick (t 174) (t 181) (c (AV.bool false))), Op2.mk (some 183) none (mov (t 182)), Op2.mk (some 184)
  (some (183, true)) (fa 3 (t 13)), Op2.mk (some 185) (some (183, true)) (ld1 (t 184)), Op2.mk (some 186) (some (183,
  true)) (ixaS 3 (t 185) (c (AV.int IntKind.i64 (1)))), Op2.mk (some 187) (some (183, true)) (fa 1 (t 186)), Op2.mk (some 188)
  (some (183, true)) (ld1 (t 187)), Op2.mk (some 189) (some (183, true)) (lenS (t 188)), Op2.mk (some 190) (some (183,
  true)) (bin BinOp.eql false false (t 189) (c (AV.int IntKind.i64 (1)))), Op2.mk (some 191) none (pick (t 183) (t 190)
  (c (AV.bool false))), Op2.mk (some 0) none (mov (t 191))]).seq ret)))))))))))
theorem is10 : Is Try.prog 10 b10 := Is.mk' Try.func10 (by kernel_rfl)

/-- roundtable/library.Approximate -/
def b11 : F2 := (F2.mk 14 [RV.cn 4 4, RV.t 5] ((ops 0 [Op2.mk (some 3) none (box (t 1)), Op2.mk (some 4) none (alloc (AV.agg [AV.int IntKind.i64 (0),
  AV.int IntKind.i64 (0), AV.int IntKind.i64 (0), AV.esl])), Op2.mk (some 5) none (mov (c (AV.int IntKind.i64 (0))))]).seq ((ops 0 [Op2.mk (some 6)
  none (mov (t 0)), Op2.mk (some 7) none (ld1 (t 3)), Op2.mk (some 8) none (call (c (AV.func 46 [])) [t 7]), Op2.mk (some 9)
  none (mkfn 47 [t 3]), Op2.mk (some 10) none (bld [AV.int IntKind.i64 (0), AV.int IntKind.i64 (0), AV.int IntKind.i64 (0),
  AV.int IntKind.i64 (0), AV.nilf, AV.nilf, AV.nilf] [(0, 1, t 6), (1, 1, c (AV.int IntKind.i64 (2))), (2, 1, t 8),
  (3, 1, c (AV.int IntKind.i64 (-1))), (5, 1, t 9)]), Op2.mk (some 11) none (call (c (AV.func 45 [])) [t 10]), Op2.mk (some 12)
  none (ext (t 11) 0), Op2.mk (some 13) none (ext (t 11) 1), Op2.mk none none (Ins.st 4 (t 4) (t 12)), Op2.mk (some 5)
  none (mov (t 13))]).seq ret)))
theorem is11 : Is Try.prog 11 b11 := Is.mk' Try.func11 (by kernel_rfl)

/-- roundtable/roundtableref12.Approximate -/
def b12 : F2 := (F2.mk 13 [RV.cn 4 4, RV.t 5] ((ops 0 [Op2.mk (some 4) none (alloc (AV.agg [AV.int IntKind.i64 (0), AV.int IntKind.i64 (0),
  AV.int IntKind.i64 (0), AV.esl])), Op2.mk (some 5) none (mov (c (AV.int IntKind.i64 (0))))]).seq ((ops 0 [Op2.mk (some 6)
  none (mov (t 0)), Op2.mk (some 7) none (mov (t 1)), Op2.mk (some 8) none (call (c (AV.func 53 [])) [t 7]), Op2.mk (some 9)
  none (bld [AV.int IntKind.i64 (0), AV.int IntKind.i64 (0), AV.int IntKind.i64 (0), AV.int IntKind.i64 (0), AV.int IntKind.i64 (0)] [(0,
  1, c (AV.int IntKind.i64 (0))), (1, 1, t 6), (2, 1, c (AV.int IntKind.i64 (2))), (3, 1, t 8), (4, 1, c (AV.int IntKind.i64 (0)))]),
  Op2.mk (some 10) none (call (c (AV.func 52 [])) [t 9]), Op2.mk (some 11) none (ext (t 10) 0), Op2.mk (some 12) none (ext (t 10)
  1), Op2.mk none none (Ins.st 4 (t 4) (t 11)), Op2.mk (some 5) none (mov (t 12))]).seq ret)))
theorem is12 : Is Try.prog 12 b12 := Is.mk' Try.func12 (by kernel_rfl)

/-- roundtable/library.Crusader -/
def b13 : F2 := (F2.mk 15 [RV.cn 4 4, RV.t 5] ((ops 0 [Op2.mk (some 3) none (box (t 1)), Op2.mk (some 4) none (alloc (AV.agg [AV.int IntKind.i64 (0),
  AV.int IntKind.i64 (0), AV.int IntKind.i64 (0), AV.esl])), Op2.mk (some 5) none (mov (c (AV.int IntKind.i64 (0))))]).seq ((ops 1 [Op2.mk (some 6)
  none (mov (t 0)), Op2.mk (some 7) none (ld1 (t 3)), Op2.mk (some 8) none (ld1 (t 3)), Op2.mk (some 9) none (call (c (AV.func 46 []))
  [t 8]), Op2.mk (some 10) none (mkfn 54 [t 3]), Op2.mk (some 11) none (bld [AV.int IntKind.i64 (0), AV.int IntKind.i64 (0),
  AV.int IntKind.i64 (0), AV.int IntKind.i64 (0), AV.nilf, AV.nilf, AV.nilf] [(0, 1, t 6), (1, 1, t 7), (2, 1, t 9),
  (3, 1, c (AV.int IntKind.i64 (-1))), (5, 1, t 10), (6, 1, c (AV.func 57 []))]), Op2.mk (some 12) none (call (c (AV.func 45 []))
  [t 11]), Op2.mk (some 13) none (ext (t 12) 0), Op2.mk (some 14) none (ext (t 12) 1), Op2.mk none none (Ins.st 4 (t 4)
  (t 13)), Op2.mk (some 5) none (mov (t 14))]).seq ret)))
theorem is13 : Is Try.prog 13 b13 := Is.mk' Try.func13 (by kernel_rfl)

/-- roundtable/roundtableref12.Crusader -/
def b14 : F2 := (F2.mk 14 [RV.cn 4 4, RV.t 5] ((ops 0 [Op2.mk (some 4) none (alloc (AV.agg [AV.int IntKind.i64 (0), AV.int IntKind.i64 (0),
  AV.int IntKind.i64 (0), AV.esl])), Op2.mk (some 5) none (mov (c (AV.int IntKind.i64 (0))))]).seq ((ops 0 [Op2.mk (some 6)
  none (mov (t 0)), Op2.mk (some 7) none (mov (t 1)), Op2.mk (some 8) none (mov (t 1)), Op2.mk (some 9) none (call (c (AV.func 53 []))
  [t 8]), Op2.mk (some 10) none (bld [AV.int IntKind.i64 (0), AV.int IntKind.i64 (0), AV.int IntKind.i64 (0), AV.int IntKind.i64 (0),
  AV.int IntKind.i64 (0)] [(0, 1, c (AV.int IntKind.i64 (3))), (1, 1, t 6), (2, 1, t 7), (3, 1, t 9), (4, 1, c (AV.int IntKind.i64 (0)))]),
  Op2.mk (some 11) none (call (c (AV.func 52 [])) [t 10]), Op2.mk (some 12) none (ext (t 11) 0), Op2.mk (some 13)
  none (ext (t 11) 1), Op2.mk none none (Ins.st 4 (t 4) (t 12)), Op2.mk (some 5) none (mov (t 13))]).seq ret)))
theorem is14 : Is Try.prog 14 b14 := Is.mk' Try.func14 (by kernel_rfl)

/-- roundtable/roundtableref11.Same -/
def b15 : F2 := (F2.mk 75 [RV.t 4] ((ops 0 [Op2.mk (some 2) none (box (t 0)), Op2.mk (some 3) none (box (t 1)), Op2.mk (some 4)
  none (mov (c (AV.bool false)))]).seq (((ops 0 [Op2.mk (some 8) none (fa 0 (t 2)), Op2.mk (some 9) none (ld1 (t 8)),
  Op2.mk (some 10) none (fa 0 (t 3)), Op2.mk (some 11) none (ld1 (t 10)), Op2.mk (some 12) none (bin BinOp.neq false false (t 9)
  (t 11)), Op2.mk (some 13) none (mov (t 12)), Op2.mk (some 14) (some (13, false)) (fa 1 (t 2)), Op2.mk (some 15)
  (some (13, false)) (ld1 (t 14)), Op2.mk (some 16) (some (13, false)) (fa 1 (t 3)), Op2.mk (some 17) (some (13, false))
  (ld1 (t 16)), Op2.mk (some 18) (some (13, false)) (bin BinOp.neq false false (t 15) (t 17)), Op2.mk (some 19) none (pick (t 13)
  (c (AV.bool true)) (t 18)), Op2.mk (some 20) none (mov (t 19)), Op2.mk (some 21) (some (20, false)) (fa 2 (t 2)),
  Op2.mk (some 22) (some (20, false)) (ld1 (t 21)), Op2.mk (some 23) (some (20, false)) (fa 2 (t 3)), Op2.mk (some 24)
  (some (20, false)) (ld1 (t 23)), Op2.mk (some 25) (some (20, false)) (bin BinOp.neq false false (t 22) (t 24)),
  Op2.mk (some 26) none (pick (t 20) (c (AV.bool true)) (t 25)), Op2.mk (some 27) none (mov (t 26)), Op2.mk (some 28)
  (some (27, false)) (fa 3 (t 2)), Op2.mk (some 29) (some (27, false)) (ld1 (t 28)), Op2.mk (some 30) (some (27, false))
  (lenS (t 29)), Op2.mk (some 31) (some (27, false)) (fa 3 (t 3)), Op2.mk (some 32) (some (27, false)) (ld1 (t 31)),
  Op2.mk (some 33) (some (27, false)) (lenS (t 32)), Op2.mk (some 34) (some (27, false)) (bin BinOp.neq false false (t 30)
  (t 33)), Op2.mk (some 35) none (pick (t 27) (c (AV.bool true)) (t 34))]).seq (C2.cond (t 35) ((ops 0 [Op2.mk (some 4)
  none (mov (c (AV.bool false)))]).seq ret) skip)).seq (((ops 0 [Op2.mk (some 5) none (mov (c (AV.int IntKind.i64 (0))))]).seq (block 0 (((ops 0 [Op2.mk (some 36)
  none (mov (t 5)), Op2.mk (some 37) none (fa 3 (t 2)), Op2.mk (some 38) none (ld1 (t 37)), Op2.mk (some 39) none (lenS (t 38)),
  Op2.mk (some 40) none (bin BinOp.lss false false (t 36) (t 39))]).seq (C2.cond (t 40) skip (exit 0))).seq ((block 1 ((ops 2 [Op2.mk (some 43)
  none (fa 3 (t 2)), Op2.mk (some 44) none (ld1 (t 43)), Op2.mk (some 45) none (mov (t 5)), Op2.mk (some 46) none (ixaS 3 (t 44)
  (t 45)), Op2.mk (some 47) none (ldn 3 (t 46)), Op2.mk (some 48) none (fa 3 (t 3)), Op2.mk (some 49) none (ld1 (t 48)),
  Op2.mk (some 50) none (mov (t 5)), Op2.mk (some 51) none (ixaS 3 (t 49) (t 50)), Op2.mk (some 52) none (ldn 3 (t 51)),
  Op2.mk (some 6) none (alloc (AV.agg [AV.esl, AV.esl, AV.esl])), Op2.mk (some 7) none (alloc (AV.agg [AV.esl, AV.esl,
  AV.esl])), Op2.mk none none (Ins.st 3 (t 6) (t 47)), Op2.mk none none (Ins.st 3 (t 7) (t 52))]).seq ((ops 0 [Op2.mk (some 53)
  none (fa 0 (t 6)), Op2.mk (some 54) none (ld1 (t 53)), Op2.mk (some 55) none (fa 0 (t 7)), Op2.mk (some 56) none (ld1 (t 55)),
  Op2.mk (some 57) none (call (c (AV.func 58 [])) [t 54, t 56]), Op2.mk (some 58) none (bin BinOp.neq false false (t 57)
  (c (AV.int IntKind.i64 (0)))), Op2.mk (some 59) none (mov (t 58)), Op2.mk (some 60) (some (59, false)) (fa 1 (t 6)),
  Op2.mk (some 61) (some (59, false)) (ld1 (t 60)), Op2.mk (some 62) (some (59, false)) (fa 1 (t 7)), Op2.mk (some 63)
  (some (59, false)) (ld1 (t 62)), Op2.mk (some 64) (some (59, false)) (call (c (AV.func 44 [])) [t 61, t 63]), Op2.mk (some 65)
  (some (59, false)) (un UnOp.not (t 64)), Op2.mk (some 66) none (pick (t 59) (c (AV.bool true)) (t 65)), Op2.mk (some 67)
  none (mov (t 66)), Op2.mk (some 68) (some (67, false)) (fa 2 (t 6)), Op2.mk (some 69) (some (67, false)) (ld1 (t 68)),
  Op2.mk (some 70) (some (67, false)) (fa 2 (t 7)), Op2.mk (some 71) (some (67, false)) (ld1 (t 70)), Op2.mk (some 72)
  (some (67, false)) (call (c (AV.func 44 [])) [t 69, t 71]), Op2.mk (some 73) (some (67, false)) (un UnOp.not (t 72)),
  Op2.mk (some 74) none (pick (t 67) (c (AV.bool true)) (t 73))]).seq (C2.cond (t 74) ((ops 0 [Op2.mk (some 4) none (mov (c (AV.bool false)))]).seq ret)
  skip)))).seq (ops 0 [Op2.mk (some 41) none (mov (t 5)), Op2.mk (some 42) none (bin BinOp.add false false (t 41)
  (c (AV.int IntKind.i64 (1)))), Op2.mk (some 5) none (mov (t 42))]))).loop)).seq ((ops 0 [Op2.mk (some 4) none (mov (c (AV.bool true)))]).seq ret)))))
theorem is15 : Is Try.prog 15 b15 := Is.mk' Try.func15 (by kernel_rfl)

/-- roundtable/library.Consensus -/
def b16 : F2 := (F2.mk 15 [RV.cn 4 4, RV.t 5] ((ops 0 [Op2.mk (some 4) none (alloc (AV.agg [AV.int IntKind.i64 (0), AV.int IntKind.i64 (0),
  AV.int IntKind.i64 (0), AV.esl])), Op2.mk (some 5) none (mov (c (AV.int IntKind.i64 (0))))]).seq ((ops 0 [Op2.mk (some 7)
  none (mov (t 0)), Op2.mk (some 8) none (mov (t 1)), Op2.mk (some 9) none (call (c (AV.func 59 [])) [t 7, t 8, c (AV.int IntKind.i64 (1))]),
  Op2.mk (some 6) none (alloc (AV.agg [AV.int IntKind.i64 (0), AV.int IntKind.i64 (0), AV.int IntKind.i64 (0), AV.int IntKind.i64 (0),
  AV.nilf, AV.nilf, AV.nilf])), Op2.mk none none (Ins.st 7 (t 6) (t 9))]).seq ((ops 0 [Op2.mk (some 10) none (fa 3 (t 6)),
  Op2.mk none none (Ins.st 1 (t 10) (c (AV.int IntKind.i64 (-1))))]).seq ((ops 0 [Op2.mk (some 11) none (ldn 7 (t 6)),
  Op2.mk (some 12) none (call (c (AV.func 45 [])) [t 11]), Op2.mk (some 13) none (ext (t 12) 0), Op2.mk (some 14)
  none (ext (t 12) 1), Op2.mk none none (Ins.st 4 (t 4) (t 13)), Op2.mk (some 5) none (mov (t 14))]).seq ret)))))
theorem is16 : Is Try.prog 16 b16 := Is.mk' Try.func16 (by kernel_rfl)

/-- roundtable/roundtableref12.Consensus -/
def b17 : F2 := (F2.mk 13 [RV.cn 4 4, RV.t 5] ((ops 0 [Op2.mk (some 4) none (alloc (AV.agg [AV.int IntKind.i64 (0), AV.int IntKind.i64 (0),
  AV.int IntKind.i64 (0), AV.esl])), Op2.mk (some 5) none (mov (c (AV.int IntKind.i64 (0))))]).seq ((ops 0 [Op2.mk (some 6)
  none (mov (t 0)), Op2.mk (some 7) none (mov (t 1)), Op2.mk (some 8) none (mov (t 1)), Op2.mk (some 9) none (bld [AV.int IntKind.i64 (0),
  AV.int IntKind.i64 (0), AV.int IntKind.i64 (0), AV.int IntKind.i64 (0), AV.int IntKind.i64 (0)] [(0, 1, c (AV.int IntKind.i64 (2))),
  (1, 1, t 6), (2, 1, t 7), (3, 1, t 8), (4, 1, c (AV.int IntKind.i64 (0)))]), Op2.mk (some 10) none (call (c (AV.func 52 []))
  [t 9]), Op2.mk (some 11) none (ext (t 10) 0), Op2.mk (some 12) none (ext (t 10) 1), Op2.mk none none (Ins.st 4 (t 4)
  (t 11)), Op2.mk (some 5) none (mov (t 12))]).seq ret)))
theorem is17 : Is Try.prog 17 b17 := Is.mk' Try.func17 (by kernel_rfl)

/-- roundtable/library.SetAgreement -/
def b18 : F2 := (F2.mk 16 [RV.cn 6 4, RV.t 7] ((ops 0 [Op2.mk (some 6) none (alloc (AV.agg [AV.int IntKind.i64 (0), AV.int IntKind.i64 (0),
  AV.int IntKind.i64 (0), AV.esl])), Op2.mk (some 7) none (mov (c (AV.int IntKind.i64 (0))))]).seq ((ops 0 [Op2.mk (some 8)
  none (mov (t 0)), Op2.mk (some 9) none (mov (t 1)), Op2.mk (some 10) none (mov (t 2)), Op2.mk (some 11) none (mx (t 10)
  [c (AV.int IntKind.i64 (0))]), Op2.mk (some 12) none (call (c (AV.func 59 [])) [t 8, t 9, t 11]), Op2.mk (some 13)
  none (call (c (AV.func 45 [])) [t 12]), Op2.mk (some 14) none (ext (t 13) 0), Op2.mk (some 15) none (ext (t 13)
  1), Op2.mk none none (Ins.st 4 (t 6) (t 14)), Op2.mk (some 7) none (mov (t 15))]).seq ret)))
theorem is18 : Is Try.prog 18 b18 := Is.mk' Try.func18 (by kernel_rfl)

/-- roundtable/roundtableref12.SetAgreement -/
def b19 : F2 := (F2.mk 16 [RV.cn 6 4, RV.t 7] ((ops 0 [Op2.mk (some 6) none (alloc (AV.agg [AV.int IntKind.i64 (0), AV.int IntKind.i64 (0),
  AV.int IntKind.i64 (0), AV.esl])), Op2.mk (some 7) none (mov (c (AV.int IntKind.i64 (0))))]).seq ((ops 0 [Op2.mk (some 8)
  none (mov (t 0)), Op2.mk (some 9) none (mov (t 1)), Op2.mk (some 10) none (mov (t 1)), Op2.mk (some 11) none (mov (t 2)),
  Op2.mk (some 12) none (bld [AV.int IntKind.i64 (0), AV.int IntKind.i64 (0), AV.int IntKind.i64 (0), AV.int IntKind.i64 (0),
  AV.int IntKind.i64 (0)] [(0, 1, c (AV.int IntKind.i64 (6))), (1, 1, t 8), (2, 1, t 9), (3, 1, t 10), (4, 1, t 11)]),
  Op2.mk (some 13) none (call (c (AV.func 52 [])) [t 12]), Op2.mk (some 14) none (ext (t 13) 0), Op2.mk (some 15)
  none (ext (t 13) 1), Op2.mk none none (Ins.st 4 (t 6) (t 14)), Op2.mk (some 7) none (mov (t 15))]).seq ret)))
theorem is19 : Is Try.prog 19 b19 := Is.mk' Try.func19 (by kernel_rfl)

/-- roundtable/library.Commit -/
def b23 : F2 := (F2.mk 12 [RV.cn 2 4, RV.t 3] ((ops 0 [Op2.mk (some 2) none (alloc (AV.agg [AV.int IntKind.i64 (0), AV.int IntKind.i64 (0),
  AV.int IntKind.i64 (0), AV.esl])), Op2.mk (some 3) none (mov (c (AV.int IntKind.i64 (0))))]).seq ((ops 0 [Op2.mk (some 4)
  none (alloc AV.nilf), Op2.mk none none (Ins.st 1 (t 4) (c (AV.func 61 [])))]).seq ((ops 0 [Op2.mk (some 5) none (mov (t 0)),
  Op2.mk (some 6) none (mkfn 62 [t 4]), Op2.mk (some 7) none (mkfn 63 [t 4]), Op2.mk (some 8) none (bld [AV.int IntKind.i64 (0),
  AV.int IntKind.i64 (0), AV.int IntKind.i64 (0), AV.int IntKind.i64 (0), AV.nilf, AV.nilf, AV.nilf] [(0, 1, t 5),
  (1, 1, c (AV.int IntKind.i64 (2))), (2, 1, c (AV.int IntKind.i64 (2))), (3, 1, c (AV.int IntKind.i64 (-1))), (5,
  1, t 6), (6, 1, t 7)]), Op2.mk (some 9) none (call (c (AV.func 45 [])) [t 8]), Op2.mk (some 10) none (ext (t 9)
  0), Op2.mk (some 11) none (ext (t 9) 1), Op2.mk none none (Ins.st 4 (t 2) (t 10)), Op2.mk (some 3) none (mov (t 11))]).seq ret))))
theorem is23 : Is Try.prog 23 b23 := Is.mk' Try.func23 (by kernel_rfl)

/-- roundtable/task.Allowed -/
def b24 : F2 := (F2.mk 24 [RV.t 6, RV.t 7] ((ops 0 [Op2.mk (some 3) none (box (t 0)), Op2.mk (some 6) none (mov (c AV.esl)), Op2.mk (some 7)
  none (mov (c (AV.int IntKind.i64 (0))))]).seq (((ops 0 [Op2.mk (some 9) none (ldn 4 (t 3)), Op2.mk (some 10) none (mov (t 1)),
  Op2.mk (some 11) none (mov (t 2)), Op2.mk (some 12) none (call (c (AV.func 64 [])) [t 9, t 10, t 11]), Op2.mk (some 8)
  none (mov (t 12))]).seq ((ops 0 [Op2.mk (some 13) none (mov (t 8)), Op2.mk (some 14) none (bin BinOp.neq false false (t 13)
  (c (AV.int IntKind.i64 (0))))]).seq (C2.cond (t 14) ((ops 0 [Op2.mk (some 15) none (mov (t 8)), Op2.mk (some 6)
  none (mov (c AV.esl)), Op2.mk (some 7) none (mov (t 15))]).seq ret) skip))).seq ((ops 0 [Op2.mk (some 16) none (fa 3 (t 3)),
  Op2.mk (some 17) none (ld1 (t 16)), Op2.mk (some 18) none (mov (t 1)), Op2.mk (some 19) none (ixaS 3 (t 17) (t 18)),
  Op2.mk (some 20) none (ldn 3 (t 19)), Op2.mk (some 21) none (mov (t 2)), Op2.mk (some 22) none (call (c (AV.func 66 []))
  [t 20, t 21]), Op2.mk (some 23) none (call (c (AV.func 65 [])) [t 22]), Op2.mk (some 6) none (mov (t 23)), Op2.mk (some 7)
  none (mov (c (AV.int IntKind.i64 (0))))]).seq ret))))
theorem is24 : Is Try.prog 24 b24 := Is.mk' Try.func24 (by kernel_rfl)

/-- roundtable/task.Permitted -/
def b25 : F2 := (F2.mk 35 [RV.t 8, RV.t 9] ((ops 0 [Op2.mk (some 4) none (box (t 0)), Op2.mk (some 6) none (box (t 2)), Op2.mk (some 7)
  none (box (t 3)), Op2.mk (some 8) none (mov (c (AV.bool false))), Op2.mk (some 9) none (mov (c (AV.int IntKind.i64 (0))))]).seq (((ops 0 [Op2.mk (some 11)
  none (ldn 4 (t 4)), Op2.mk (some 12) none (mov (t 1)), Op2.mk (some 13) none (ld1 (t 6)), Op2.mk (some 14) none (call (c (AV.func 64 []))
  [t 11, t 12, t 13]), Op2.mk (some 10) none (mov (t 14))]).seq ((ops 0 [Op2.mk (some 15) none (mov (t 10)), Op2.mk (some 16)
  none (bin BinOp.neq false false (t 15) (c (AV.int IntKind.i64 (0))))]).seq (C2.cond (t 16) ((ops 0 [Op2.mk (some 17)
  none (mov (t 10)), Op2.mk (some 8) none (mov (c (AV.bool false))), Op2.mk (some 9) none (mov (t 17))]).seq ret)
  skip))).seq (((ops 0 [Op2.mk (some 18) none (ld1 (t 7)), Op2.mk (some 19) none (lenS (t 18)), Op2.mk (some 20) none (fa 0 (t 4)),
  Op2.mk (some 21) none (ld1 (t 20)), Op2.mk (some 22) none (bin BinOp.neq false false (t 19) (t 21))]).seq (C2.cond (t 22)
  ((ops 0 [Op2.mk (some 8) none (mov (c (AV.bool false))), Op2.mk (some 9) none (mov (c (AV.int IntKind.i64 (15))))]).seq ret)
  skip)).seq (((ops 0 [Op2.mk (some 23) none (ld1 (t 7)), Op2.mk (some 24) none (mkfn 68 [t 4]), Op2.mk (some 25)
  none (call (c (AV.func 67 [])) [t 23, t 24])]).seq (C2.cond (t 25) ((ops 0 [Op2.mk (some 8) none (mov (c (AV.bool false))),
  Op2.mk (some 9) none (mov (c (AV.int IntKind.i64 (2))))]).seq ret) skip)).seq ((ops 1 [Op2.mk (some 26) none (fa 3 (t 4)),
  Op2.mk (some 27) none (ld1 (t 26)), Op2.mk (some 28) none (mov (t 1)), Op2.mk (some 29) none (ixaS 3 (t 27) (t 28)),
  Op2.mk (some 30) none (ldn 3 (t 29)), Op2.mk (some 31) none (ld1 (t 6)), Op2.mk (some 32) none (call (c (AV.func 66 []))
  [t 30, t 31]), Op2.mk (some 33) none (mkfn 69 [t 7, t 6]), Op2.mk (some 34) none (call (c (AV.func 29 [])) [t 32,
  t 33]), Op2.mk (some 8) none (mov (t 34)), Op2.mk (some 9) none (mov (c (AV.int IntKind.i64 (0))))]).seq ret))))))
theorem is25 : Is Try.prog 25 b25 := Is.mk' Try.func25 (by kernel_rfl)

/-- slices.Repeat[[]int,int] -/
def b26 : F2 := (F2.mk 48 [RV.t 4] ((ops 0 [Op2.mk (some 4) none (mov (c AV.esl))]).seq (((ops 0 [Op2.mk (some 9) none (mov (t 1)),
  Op2.mk (some 10) none (bin BinOp.lss false false (t 9) (c (AV.int IntKind.i64 (0))))]).seq (C2.cond (t 10) (ops 0 [Op2.mk (some 11)
  none dead, Op2.mk none none dead]) skip)).seq ((ops 0 [Op2.mk (some 13) none (mov (t 0)), Op2.mk (some 14) none (lenS (t 13)),
  Op2.mk (some 15) none (conv IntKind.u64 (t 14)), Op2.mk (some 16) none (mov (t 1)), Op2.mk (some 17) none (conv IntKind.u64 (t 16)),
  Op2.mk (some 18) none (call (c (AV.func 71 [])) [t 15, t 17]), Op2.mk (some 12) none (mov (t 18)), Op2.mk (some 19)
  none (ext (t 12) 0), Op2.mk (some 20) none (ext (t 12) 1), Op2.mk (some 5) none (mov (t 19)), Op2.mk (some 6) none (mov (t 20))]).seq (((ops 0 [Op2.mk (some 21)
  none (mov (t 5)), Op2.mk (some 22) none (bin BinOp.gtr false false (t 21) (c (AV.int IntKind.u64 (0)))), Op2.mk (some 23)
  none (mov (t 22)), Op2.mk (some 24) (some (23, false)) (mov (t 6)), Op2.mk (some 25) (some (23, false)) (bin BinOp.gtr false false (t 24)
  (c (AV.int IntKind.u64 (9223372036854775807)))), Op2.mk (some 26) none (pick (t 23) (c (AV.bool true)) (t 25))]).seq (C2.cond (t 26)
  (ops 0 [Op2.mk (some 27) none dead, Op2.mk none none dead]) skip)).seq ((ops 0 [Op2.mk (some 28) none (mov (t 6)),
  Op2.mk (some 29) none (conv IntKind.i64 (t 28)), Op2.mk (some 30) none (mks 1 8 [AV.int IntKind.i64 (0)] (t 29)
  (t 29)), Op2.mk (some 7) none (mov (t 30))]).seq ((ops 0 [Op2.mk (some 31) none (mov (t 7)), Op2.mk (some 32) none (mov (t 0)),
  Op2.mk (some 33) none (cpy 1 (t 31) (t 32)), Op2.mk (some 8) none (mov (t 33))]).seq ((block 0 (((ops 0 [Op2.mk (some 34)
  none (mov (t 8)), Op2.mk (some 35) none (mov (t 7)), Op2.mk (some 36) none (lenS (t 35)), Op2.mk (some 37) none (bin BinOp.lss false false (t 34)
  (t 36))]).seq (C2.cond (t 37) skip (exit 0))).seq (block 1 (mix 9 [Op2.mk (some 38) none (mov (t 8)), Op2.mk (some 39)
  none (mov (t 7)), Op2.mk (some 40) none (mov (t 8)), Op2.mk (some 41) none (sls 1 (t 39) (some (t 40)) none none),
  Op2.mk (some 42) none (mov (t 7)), Op2.mk (some 43) none (mov (t 8)), Op2.mk (some 44) none (sls 1 (t 42) none (some (t 43))
  none), Op2.mk (some 45) none (cpy 1 (t 41) (t 44)), Op2.mk (some 46) none (bin BinOp.add false false (t 38) (t 45)),
  Op2.mk (some 8) none (mov (t 46))] [1, 2, 3, 4, 5, 6, 7, 0, 8, 9] [38]))).loop).seq ((ops 0 [Op2.mk (some 47) none (mov (t 7)),
  Op2.mk (some 4) none (mov (t 47))]).seq ret)))))))))
theorem is26 : Is Try.prog 26 b26 := Is.mk' Try.func26 (by kernel_rfl)

/-- slices.Equal[[]int,int] -/
def b27 : F2 := (F2.mk 26 [RV.t 4] ((ops 0 [Op2.mk (some 4) none (mov (c (AV.bool false)))]).seq (((ops 0 [Op2.mk (some 6) none (mov (t 0)),
  Op2.mk (some 7) none (lenS (t 6)), Op2.mk (some 8) none (mov (t 1)), Op2.mk (some 9) none (lenS (t 8)), Op2.mk (some 10)
  none (bin BinOp.neq false false (t 7) (t 9))]).seq (C2.cond (t 10) ((ops 0 [Op2.mk (some 4) none (mov (c (AV.bool false)))]).seq ret)
  skip)).seq (((ops 0 [Op2.mk (some 11) none (mov (t 0)), Op2.mk (some 12) none (lenS (t 11)), Op2.mk (some 13) none (mov (c (AV.int IntKind.i64 (0))))]).seq (block 0 ((ops 0 [Op2.mk (some 14)
  none (bin BinOp.lss false false (t 13) (t 12))]).seq ((C2.cond (t 14) skip (exit 0)).seq ((block 1 ((ops 0 [Op2.mk (some 15)
  none (mov (t 13)), Op2.mk (some 5) none (mov (t 15))]).seq ((ops 1 [Op2.mk (some 16) none (mov (t 0)), Op2.mk (some 17)
  none (mov (t 5)), Op2.mk (some 18) none (ixaS 1 (t 16) (t 17)), Op2.mk (some 19) none (ld1 (t 18)), Op2.mk (some 20)
  none (mov (t 1)), Op2.mk (some 21) none (mov (t 5)), Op2.mk (some 22) none (ixaS 1 (t 20) (t 21)), Op2.mk (some 23)
  none (ld1 (t 22)), Op2.mk (some 24) none (bin BinOp.neq false false (t 19) (t 23))]).seq (C2.cond (t 24) ((ops 0 [Op2.mk (some 4)
  none (mov (c (AV.bool false)))]).seq ret) skip)))).seq (ops 0 [Op2.mk (some 25) none (bin BinOp.add false false (t 13)
  (c (AV.int IntKind.i64 (1)))), Op2.mk (some 13) none (mov (t 25))])))).loop)).seq ((ops 0 [Op2.mk (some 4) none (mov (c (AV.bool true)))]).seq ret)))))
theorem is27 : Is Try.prog 27 b27 := Is.mk' Try.func27 (by kernel_rfl)

/-- slices.Contains[[]int,int] -/
def b28 : F2 := (F2.mk 9 [RV.t 4] ((ops 0 [Op2.mk (some 4) none (mov (c (AV.bool false)))]).seq ((ops 0 [Op2.mk (some 5) none (mov (t 0)),
  Op2.mk (some 6) none (mov (t 1)), Op2.mk (some 7) none (call (c (AV.func 72 [])) [t 5, t 6]), Op2.mk (some 8) none (bin BinOp.geq false false (t 7)
  (c (AV.int IntKind.i64 (0)))), Op2.mk (some 4) none (mov (t 8))]).seq ret)))
theorem is28 : Is Try.prog 28 b28 := Is.mk' Try.func28 (by kernel_rfl)

/-- slices.ContainsFunc[[][]int,[]int] -/
def b29 : F2 := (F2.mk 9 [RV.t 4] ((ops 0 [Op2.mk (some 4) none (mov (c (AV.bool false)))]).seq ((ops 0 [Op2.mk (some 5) none (mov (t 0)),
  Op2.mk (some 6) none (mov (t 1)), Op2.mk (some 7) none (call (c (AV.func 73 [])) [t 5, t 6]), Op2.mk (some 8) none (bin BinOp.geq false false (t 7)
  (c (AV.int IntKind.i64 (0)))), Op2.mk (some 4) none (mov (t 8))]).seq ret)))
theorem is29 : Is Try.prog 29 b29 := Is.mk' Try.func29 (by kernel_rfl)

/-- slices.Clone[[]int,int] -/
def b32 : F2 := (F2.mk 8 [RV.t 2] ((ops 0 [Op2.mk (some 2) none (mov (c AV.esl))]).seq (((ops 0 [Op2.mk (some 3) none (mov (t 0)),
  Op2.mk (some 4) none (snil false (t 3))]).seq (C2.cond (t 4) ((ops 0 [Op2.mk (some 2) none (mov (c AV.esl))]).seq ret)
  skip)).seq ((ops 0 [Op2.mk (some 5) none (bldS 1 0 [AV.int IntKind.i64 (0)] []), Op2.mk (some 6) none (mov (t 0)),
  Op2.mk (some 7) none (app 1 8 (t 5) (t 6)), Op2.mk (some 2) none (mov (t 7))]).seq ret))))
theorem is32 : Is Try.prog 32 b32 := Is.mk' Try.func32 (by kernel_rfl)

/-- roundtable/library.Renaming -/
def b35 : F2 := (F2.mk 15 [RV.cn 6 4, RV.t 7] ((ops 0 [Op2.mk (some 6) none (alloc (AV.agg [AV.int IntKind.i64 (0), AV.int IntKind.i64 (0),
  AV.int IntKind.i64 (0), AV.esl])), Op2.mk (some 7) none (mov (c (AV.int IntKind.i64 (0))))]).seq ((ops 0 [Op2.mk (some 8)
  none (mov (t 0)), Op2.mk (some 9) none (mov (t 1)), Op2.mk (some 10) none (mov (t 2)), Op2.mk (some 11) none (bld [AV.int IntKind.i64 (0),
  AV.int IntKind.i64 (0), AV.int IntKind.i64 (0), AV.int IntKind.i64 (0), AV.nilf, AV.nilf, AV.nilf] [(0, 1, t 8),
  (1, 1, t 9), (2, 1, t 10), (3, 1, c (AV.int IntKind.i64 (-1))), (4, 1, c (AV.func 76 [])), (5, 1, c (AV.func 77 []))]),
  Op2.mk (some 12) none (call (c (AV.func 45 [])) [t 11]), Op2.mk (some 13) none (ext (t 12) 0), Op2.mk (some 14)
  none (ext (t 12) 1), Op2.mk none none (Ins.st 4 (t 6) (t 13)), Op2.mk (some 7) none (mov (t 14))]).seq ret)))
theorem is35 : Is Try.prog 35 b35 := Is.mk' Try.func35 (by kernel_rfl)

/-- roundtable/roundtableref12.Renaming -/
def b36 : F2 := (F2.mk 15 [RV.cn 6 4, RV.t 7] ((ops 0 [Op2.mk (some 6) none (alloc (AV.agg [AV.int IntKind.i64 (0), AV.int IntKind.i64 (0),
  AV.int IntKind.i64 (0), AV.esl])), Op2.mk (some 7) none (mov (c (AV.int IntKind.i64 (0))))]).seq ((ops 0 [Op2.mk (some 8)
  none (mov (t 0)), Op2.mk (some 9) none (mov (t 1)), Op2.mk (some 10) none (mov (t 2)), Op2.mk (some 11) none (bld [AV.int IntKind.i64 (0),
  AV.int IntKind.i64 (0), AV.int IntKind.i64 (0), AV.int IntKind.i64 (0), AV.int IntKind.i64 (0)] [(0, 1, c (AV.int IntKind.i64 (5))),
  (1, 1, t 8), (2, 1, t 9), (3, 1, t 10), (4, 1, c (AV.int IntKind.i64 (0)))]), Op2.mk (some 12) none (call (c (AV.func 52 []))
  [t 11]), Op2.mk (some 13) none (ext (t 12) 0), Op2.mk (some 14) none (ext (t 12) 1), Op2.mk none none (Ins.st 4 (t 6)
  (t 13)), Op2.mk (some 7) none (mov (t 14))]).seq ret)))
theorem is36 : Is Try.prog 36 b36 := Is.mk' Try.func36 (by kernel_rfl)

/-- roundtable/roundtableref12.Commit -/
def b37 : F2 := (F2.mk 9 [RV.cn 2 4, RV.t 3] ((ops 0 [Op2.mk (some 2) none (alloc (AV.agg [AV.int IntKind.i64 (0), AV.int IntKind.i64 (0),
  AV.int IntKind.i64 (0), AV.esl])), Op2.mk (some 3) none (mov (c (AV.int IntKind.i64 (0))))]).seq ((ops 0 [Op2.mk (some 4)
  none (mov (t 0)), Op2.mk (some 5) none (bld [AV.int IntKind.i64 (0), AV.int IntKind.i64 (0), AV.int IntKind.i64 (0),
  AV.int IntKind.i64 (0), AV.int IntKind.i64 (0)] [(0, 1, c (AV.int IntKind.i64 (1))), (1, 1, t 4), (2, 1, c (AV.int IntKind.i64 (2))),
  (3, 1, c (AV.int IntKind.i64 (2))), (4, 1, c (AV.int IntKind.i64 (0)))]), Op2.mk (some 6) none (call (c (AV.func 52 []))
  [t 5]), Op2.mk (some 7) none (ext (t 6) 0), Op2.mk (some 8) none (ext (t 6) 1), Op2.mk none none (Ins.st 4 (t 2)
  (t 7)), Op2.mk (some 3) none (mov (t 8))]).seq ret)))
theorem is37 : Is Try.prog 37 b37 := Is.mk' Try.func37 (by kernel_rfl)

/-- roundtable/library.Leader -/
def b38 : F2 := (F2.mk 9 [RV.cn 2 4, RV.t 3] ((ops 0 [Op2.mk (some 2) none (alloc (AV.agg [AV.int IntKind.i64 (0), AV.int IntKind.i64 (0),
  AV.int IntKind.i64 (0), AV.esl])), Op2.mk (some 3) none (mov (c (AV.int IntKind.i64 (0))))]).seq ((ops 0 [Op2.mk (some 4)
  none (mov (t 0)), Op2.mk (some 5) none (bld [AV.int IntKind.i64 (0), AV.int IntKind.i64 (0), AV.int IntKind.i64 (0),
  AV.int IntKind.i64 (0), AV.nilf, AV.nilf, AV.nilf] [(0, 1, t 4), (1, 1, c (AV.int IntKind.i64 (1))), (2, 1, c (AV.int IntKind.i64 (2))),
  (3, 1, c (AV.int IntKind.i64 (-1))), (5, 1, c (AV.func 78 []))]), Op2.mk (some 6) none (call (c (AV.func 45 []))
  [t 5]), Op2.mk (some 7) none (ext (t 6) 0), Op2.mk (some 8) none (ext (t 6) 1), Op2.mk none none (Ins.st 4 (t 2)
  (t 7)), Op2.mk (some 3) none (mov (t 8))]).seq ret)))
theorem is38 : Is Try.prog 38 b38 := Is.mk' Try.func38 (by kernel_rfl)

/-- roundtable/roundtableref12.Leader -/
def b39 : F2 := (F2.mk 9 [RV.cn 2 4, RV.t 3] ((ops 0 [Op2.mk (some 2) none (alloc (AV.agg [AV.int IntKind.i64 (0), AV.int IntKind.i64 (0),
  AV.int IntKind.i64 (0), AV.esl])), Op2.mk (some 3) none (mov (c (AV.int IntKind.i64 (0))))]).seq ((ops 0 [Op2.mk (some 4)
  none (mov (t 0)), Op2.mk (some 5) none (bld [AV.int IntKind.i64 (0), AV.int IntKind.i64 (0), AV.int IntKind.i64 (0),
  AV.int IntKind.i64 (0), AV.int IntKind.i64 (0)] [(0, 1, c (AV.int IntKind.i64 (4))), (1, 1, t 4), (2, 1, c (AV.int IntKind.i64 (1))),
  (3, 1, c (AV.int IntKind.i64 (2))), (4, 1, c (AV.int IntKind.i64 (0)))]), Op2.mk (some 6) none (call (c (AV.func 52 []))
  [t 5]), Op2.mk (some 7) none (ext (t 6) 0), Op2.mk (some 8) none (ext (t 6) 1), Op2.mk none none (Ins.st 4 (t 2)
  (t 7)), Op2.mk (some 3) none (mov (t 8))]).seq ret)))
theorem is39 : Is Try.prog 39 b39 := Is.mk' Try.func39 (by kernel_rfl)

/-- roundtable/roundtableref12.power -/
def b43 : F2 := (F2.mk 23 [RV.t 6] ((ops 0 [Op2.mk (some 6) none (mov (c (AV.int IntKind.i64 (0))))]).seq ((ops 0 [Op2.mk (some 7)
  none (mov (c (AV.int IntKind.i64 (1))))]).seq (((ops 0 [Op2.mk (some 8) none (mov (c (AV.int IntKind.i64 (0))))]).seq (block 0 (((ops 0 [Op2.mk (some 9)
  none (mov (t 8)), Op2.mk (some 10) none (mov (t 1)), Op2.mk (some 11) none (bin BinOp.lss false false (t 9) (t 10)),
  Op2.mk (some 12) none (mov (t 11)), Op2.mk (some 13) (some (12, true)) (mov (t 7)), Op2.mk (some 14) (some (12,
  true)) (mov (t 2)), Op2.mk (some 15) (some (12, true)) (bin BinOp.leq false false (t 13) (t 14)), Op2.mk (some 16)
  none (pick (t 12) (t 15) (c (AV.bool false)))]).seq (C2.cond (t 16) skip (exit 0))).seq ((block 1 (ops 0 [Op2.mk (some 19)
  none (mov (t 7)), Op2.mk (some 20) none (mov (t 0)), Op2.mk (some 21) none (bin BinOp.mul false false (t 19) (t 20)),
  Op2.mk (some 7) none (mov (t 21))])).seq (ops 0 [Op2.mk (some 17) none (mov (t 8)), Op2.mk (some 18) none (bin BinOp.add false false (t 17)
  (c (AV.int IntKind.i64 (1)))), Op2.mk (some 8) none (mov (t 18))]))).loop)).seq ((ops 0 [Op2.mk (some 22) none (mov (t 7)),
  Op2.mk (some 6) none (mov (t 22))]).seq ret)))))
theorem is43 : Is Try.prog 43 b43 := Is.mk' Try.func43 (by kernel_rfl)

/-- roundtable/roundtableref11.SameVectors -/
def b44 : F2 := (F2.mk 27 [RV.t 4] ((ops 0 [Op2.mk (some 4) none (mov (c (AV.bool false)))]).seq (((ops 0 [Op2.mk (some 6) none (mov (t 0)),
  Op2.mk (some 7) none (lenS (t 6)), Op2.mk (some 8) none (mov (t 1)), Op2.mk (some 9) none (lenS (t 8)), Op2.mk (some 10)
  none (bin BinOp.neq false false (t 7) (t 9))]).seq (C2.cond (t 10) ((ops 0 [Op2.mk (some 4) none (mov (c (AV.bool false)))]).seq ret)
  skip)).seq (((ops 0 [Op2.mk (some 5) none (mov (c (AV.int IntKind.i64 (0))))]).seq (block 0 (((ops 0 [Op2.mk (some 11)
  none (mov (t 5)), Op2.mk (some 12) none (mov (t 0)), Op2.mk (some 13) none (lenS (t 12)), Op2.mk (some 14) none (bin BinOp.lss false false (t 11)
  (t 13))]).seq (C2.cond (t 14) skip (exit 0))).seq ((block 1 ((ops 1 [Op2.mk (some 17) none (mov (t 0)), Op2.mk (some 18)
  none (mov (t 5)), Op2.mk (some 19) none (ixaS 1 (t 17) (t 18)), Op2.mk (some 20) none (ld1 (t 19)), Op2.mk (some 21)
  none (mov (t 1)), Op2.mk (some 22) none (mov (t 5)), Op2.mk (some 23) none (ixaS 1 (t 21) (t 22)), Op2.mk (some 24)
  none (ld1 (t 23)), Op2.mk (some 25) none (call (c (AV.func 58 [])) [t 20, t 24]), Op2.mk (some 26) none (bin BinOp.neq false false (t 25)
  (c (AV.int IntKind.i64 (0))))]).seq (C2.cond (t 26) ((ops 0 [Op2.mk (some 4) none (mov (c (AV.bool false)))]).seq ret)
  skip))).seq (ops 0 [Op2.mk (some 15) none (mov (t 5)), Op2.mk (some 16) none (bin BinOp.add false false (t 15) (c (AV.int IntKind.i64 (1)))),
  Op2.mk (some 5) none (mov (t 16))]))).loop)).seq ((ops 0 [Op2.mk (some 4) none (mov (c (AV.bool true)))]).seq ret)))))
theorem is44 : Is Try.prog 44 b44 := Is.mk' Try.func44 (by kernel_rfl)

/-- roundtable/library.made -/
def b45 : F2 := (F2.mk 141 [RV.cn 2 4, RV.c1 3] ((ops 0 [Op2.mk (some 1) none (box (t 0)), Op2.mk (some 2) none (alloc (AV.agg [AV.int IntKind.i64 (0),
  AV.int IntKind.i64 (0), AV.int IntKind.i64 (0), AV.esl])), Op2.mk (some 3) none (alloc (AV.int IntKind.i64 (0)))]).seq ((block 0 ((ops 0 [Op2.mk (some 10)
  none (fa 0 (t 1)), Op2.mk (some 11) none (ld1 (t 10)), Op2.mk (some 12) none (call (c (AV.func 81 [])) [t 11, c (AV.int IntKind.i64 (1)),
  c (AV.int IntKind.i64 (5))]), Op2.mk (some 13) none (un UnOp.not (t 12)), Op2.mk (some 14) none (mov (t 13)), Op2.mk (some 15)
  (some (14, false)) (fa 1 (t 1)), Op2.mk (some 16) (some (14, false)) (ld1 (t 15)), Op2.mk (some 17) (some (14, false))
  (call (c (AV.func 81 [])) [t 16, c (AV.int IntKind.i64 (1)), c (AV.int IntKind.i64 (8))]), Op2.mk (some 18) (some (14,
  false)) (un UnOp.not (t 17)), Op2.mk (some 19) none (pick (t 14) (c (AV.bool true)) (t 18)), Op2.mk (some 20) none (mov (t 19)),
  Op2.mk (some 21) (some (20, false)) (fa 2 (t 1)), Op2.mk (some 22) (some (20, false)) (ld1 (t 21)), Op2.mk (some 23)
  (some (20, false)) (call (c (AV.func 81 [])) [t 22, c (AV.int IntKind.i64 (1)), c (AV.int IntKind.i64 (8))]), Op2.mk (some 24)
  (some (20, false)) (un UnOp.not (t 23)), Op2.mk (some 25) none (pick (t 20) (c (AV.bool true)) (t 24)), Op2.mk (some 9)
  none (mov (t 25))]).seq (C2.cond (t 9) ((ops 0 [Op2.mk (some 26) none (bld [AV.int IntKind.i64 (0), AV.int IntKind.i64 (0),
  AV.int IntKind.i64 (0), AV.esl] []), Op2.mk none none (Ins.st 4 (t 2) (t 26)), Op2.mk none none (Ins.st 1 (t 3)
  (c (AV.int IntKind.i64 (2))))]).seq ret) ((ops 0 [Op2.mk (some 28) none (fa 3 (t 1)), Op2.mk (some 29) none (ld1 (t 28)),
  Op2.mk (some 30) none (bin BinOp.neq false false (t 29) (c (AV.int IntKind.i64 (-1)))), Op2.mk (some 31) none (mov (t 30)),
  Op2.mk (some 32) (some (31, true)) (fa 3 (t 1)), Op2.mk (some 33) (some (31, true)) (ld1 (t 32)), Op2.mk (some 34)
  (some (31, true)) (fa 0 (t 1)), Op2.mk (some 35) (some (31, true)) (ld1 (t 34)), Op2.mk (some 36) (some (31, true))
  (call (c (AV.func 81 [])) [t 33, c (AV.int IntKind.i64 (1)), t 35]), Op2.mk (some 37) (some (31, true)) (un UnOp.not (t 36)),
  Op2.mk (some 38) none (pick (t 31) (t 37) (c (AV.bool false))), Op2.mk (some 27) none (mov (t 38))]).seq (C2.cond (t 27)
  ((ops 0 [Op2.mk (some 39) none (bld [AV.int IntKind.i64 (0), AV.int IntKind.i64 (0), AV.int IntKind.i64 (0), AV.esl] []),
  Op2.mk none none (Ins.st 4 (t 2) (t 39)), Op2.mk none none (Ins.st 1 (t 3) (c (AV.int IntKind.i64 (2))))]).seq ret)
  skip))))).seq (((ops 0 [Op2.mk (some 40) none (fa 0 (t 1)), Op2.mk (some 41) none (ld1 (t 40)), Op2.mk (some 42)
  none (fa 1 (t 1)), Op2.mk (some 43) none (ld1 (t 42)), Op2.mk (some 44) none (fa 4 (t 1)), Op2.mk (some 45) none (ld1 (t 44)),
  Op2.mk (some 46) none (call (c (AV.func 82 [])) [t 41, t 43, t 45, c (AV.int IntKind.i64 (1024))]), Op2.mk (some 4)
  none (mov (t 46))]).seq (block 1 ((ops 0 [Op2.mk (some 48) none (mov (t 4)), Op2.mk (some 49) none (bin BinOp.eql false false (t 48)
  (c (AV.int IntKind.i64 (0)))), Op2.mk (some 47) none (mov (t 49))]).seq (C2.cond (t 47) ((ops 0 [Op2.mk (some 50)
  none (bld [AV.int IntKind.i64 (0), AV.int IntKind.i64 (0), AV.int IntKind.i64 (0), AV.esl] []), Op2.mk none none (Ins.st 4 (t 2)
  (t 50)), Op2.mk none none (Ins.st 1 (t 3) (c (AV.int IntKind.i64 (16))))]).seq ret) ((ops 0 [Op2.mk (some 52) none (fa 4 (t 1)),
  Op2.mk (some 53) none (ld1 (t 52)), Op2.mk (some 54) none (bin BinOp.neq false true (t 53) (c AV.nilf)), Op2.mk (some 55)
  none (mov (t 54)), Op2.mk (some 56) (some (55, true)) (fa 2 (t 1)), Op2.mk (some 57) (some (55, true)) (ld1 (t 56)),
  Op2.mk (some 58) (some (55, true)) (fa 0 (t 1)), Op2.mk (some 59) (some (55, true)) (ld1 (t 58)), Op2.mk (some 60)
  (some (55, true)) (bin BinOp.lss false false (t 57) (t 59)), Op2.mk (some 61) none (pick (t 55) (t 60) (c (AV.bool false))),
  Op2.mk (some 51) none (mov (t 61))]).seq (C2.cond (t 51) ((ops 0 [Op2.mk (some 62) none (bld [AV.int IntKind.i64 (0),
  AV.int IntKind.i64 (0), AV.int IntKind.i64 (0), AV.esl] []), Op2.mk none none (Ins.st 4 (t 2) (t 62)), Op2.mk none none (Ins.st 1 (t 3)
  (c (AV.int IntKind.i64 (16))))]).seq ret) ((ops 0 [Op2.mk (some 64) none (mov (t 4)), Op2.mk (some 65) none (bin BinOp.gtr false false (t 64)
  (c (AV.int IntKind.i64 (1024)))), Op2.mk (some 63) none (mov (t 65))]).seq (C2.cond (t 63) ((ops 0 [Op2.mk (some 66)
  none (bld [AV.int IntKind.i64 (0), AV.int IntKind.i64 (0), AV.int IntKind.i64 (0), AV.esl] []), Op2.mk none none (Ins.st 4 (t 2)
  (t 66)), Op2.mk none none (Ins.st 1 (t 3) (c (AV.int IntKind.i64 (17))))]).seq ret) skip)))))))).seq ((ops 0 [Op2.mk (some 67)
  none (fa 0 (t 1)), Op2.mk (some 68) none (ld1 (t 67)), Op2.mk (some 69) none (fa 1 (t 1)), Op2.mk (some 70) none (ld1 (t 69)),
  Op2.mk (some 71) none (fa 2 (t 1)), Op2.mk (some 72) none (ld1 (t 71)), Op2.mk (some 73) none (bld [AV.int IntKind.i64 (0),
  AV.int IntKind.i64 (0), AV.int IntKind.i64 (0), AV.esl] [(0, 1, t 68), (1, 1, t 70), (2, 1, t 72)]), Op2.mk (some 5)
  none (alloc (AV.agg [AV.int IntKind.i64 (0), AV.int IntKind.i64 (0), AV.int IntKind.i64 (0), AV.esl])), Op2.mk none none (Ins.st 4 (t 5)
  (t 73))]).seq (((ops 0 [Op2.mk (some 74) none (fa 0 (t 1)), Op2.mk (some 75) none (ld1 (t 74)), Op2.mk (some 76)
  none (fa 1 (t 1)), Op2.mk (some 77) none (ld1 (t 76)), Op2.mk (some 78) none (call (c (AV.func 83 [])) [t 75, t 77])]).seq (block 2 (rangeF (t 78)
  [79] (ops 0 [Op2.mk (some 6) none (alloc AV.esl), Op2.mk none none (Ins.st 1 (t 6) (t 79))]) (block 3 (((ops 0 [Op2.mk (some 80)
  none (fa 4 (t 1)), Op2.mk (some 81) none (ld1 (t 80)), Op2.mk (some 82) none (bin BinOp.neq false true (t 81) (c AV.nilf)),
  Op2.mk (some 83) none (mov (t 82)), Op2.mk (some 84) (some (83, true)) (fa 4 (t 1)), Op2.mk (some 85) (some (83,
  true)) (ld1 (t 84)), Op2.mk (some 86) (some (83, true)) (ld1 (t 6)), Op2.mk (some 87) (some (83, true)) (call (t 85)
  [t 86]), Op2.mk (some 88) (some (83, true)) (un UnOp.not (t 87)), Op2.mk (some 89) none (pick (t 83) (t 88) (c (AV.bool false)))]).seq (C2.cond (t 89)
  (exit 3) skip)).seq ((ops 0 [Op2.mk (some 90) none (ld1 (t 6)), Op2.mk (some 91) none (call (c (AV.func 32 []))
  [t 90]), Op2.mk (some 92) none (bld [AV.esl, AV.esl, AV.esl] [(0, 1, t 91)]), Op2.mk (some 7) none (alloc (AV.agg [AV.esl,
  AV.esl, AV.esl])), Op2.mk none none (Ins.st 3 (t 7) (t 92))]).seq (((ops 0 [Op2.mk (some 93) none (fa 0 (t 1)),
  Op2.mk (some 94) none (ld1 (t 93)), Op2.mk (some 95) none (fa 2 (t 1)), Op2.mk (some 96) none (ld1 (t 95)), Op2.mk (some 97)
  none (call (c (AV.func 83 [])) [t 94, t 96])]).seq (block 4 (rangeF (t 97) [98] (ops 0 [Op2.mk (some 8) none (mov (t 98))])
  (block 5 (((ops 0 [Op2.mk (some 99) none (fa 5 (t 1)), Op2.mk (some 100) none (ld1 (t 99)), Op2.mk (some 101) none (ld1 (t 6)),
  Op2.mk (some 102) none (mov (t 8)), Op2.mk (some 103) none (call (t 100) [t 101, t 102]), Op2.mk (some 104) none (un UnOp.not (t 103))]).seq (C2.cond (t 104)
  (exit 5) skip)).seq (((ops 0 [Op2.mk (some 105) none (fa 1 (t 7)), Op2.mk (some 106) none (ld1 (t 105)), Op2.mk (some 107)
  none (lenS (t 106)), Op2.mk (some 108) none (bin BinOp.eql false false (t 107) (c (AV.int IntKind.i64 (1024))))]).seq (C2.cond (t 108)
  ((ops 0 [Op2.mk (some 109) none (bld [AV.int IntKind.i64 (0), AV.int IntKind.i64 (0), AV.int IntKind.i64 (0), AV.esl] []),
  Op2.mk none none (Ins.st 4 (t 2) (t 109)), Op2.mk none none (Ins.st 1 (t 3) (c (AV.int IntKind.i64 (17))))]).seq ret)
  skip)).seq ((ops 1 [Op2.mk (some 110) none (fa 1 (t 7)), Op2.mk (some 111) none (ld1 (t 110)), Op2.mk (some 112)
  none (mov (t 8)), Op2.mk (some 113) none (call (c (AV.func 32 [])) [t 112]), Op2.mk (some 114) none (bldS 1 1 [AV.esl] [(0,
  1, t 113)]), Op2.mk (some 115) none (app 1 24 (t 111) (t 114)), Op2.mk (some 116) none (fa 1 (t 7)), Op2.mk none none (Ins.st 1 (t 116)
  (t 115))]).seq ((ops 0 [Op2.mk (some 117) none (fa 6 (t 1)), Op2.mk (some 118) none (ld1 (t 117)), Op2.mk (some 119)
  none (bin BinOp.neq false true (t 118) (c AV.nilf)), Op2.mk (some 120) none (mov (t 119)), Op2.mk (some 121) (some (120,
  true)) (fa 6 (t 1)), Op2.mk (some 122) (some (120, true)) (ld1 (t 121)), Op2.mk (some 123) (some (120, true)) (ld1 (t 6)),
  Op2.mk (some 124) (some (120, true)) (mov (t 8)), Op2.mk (some 125) (some (120, true)) (call (t 122) [t 123, t 124]),
  Op2.mk (some 126) none (pick (t 120) (t 125) (c (AV.bool false)))]).seq (C2.cond (t 126) (ops 1 [Op2.mk (some 127)
  none (fa 2 (t 7)), Op2.mk (some 128) none (ld1 (t 127)), Op2.mk (some 129) none (mov (t 8)), Op2.mk (some 130) none (call (c (AV.func 32 []))
  [t 129]), Op2.mk (some 131) none (bldS 1 1 [AV.esl] [(0, 1, t 130)]), Op2.mk (some 132) none (app 1 24 (t 128) (t 131)),
  Op2.mk (some 133) none (fa 2 (t 7)), Op2.mk none none (Ins.st 1 (t 133) (t 132))]) skip))))))))).seq (ops 0 [Op2.mk (some 134)
  none (fa 3 (t 5)), Op2.mk (some 135) none (ld1 (t 134)), Op2.mk (some 136) none (ldn 3 (t 7)), Op2.mk (some 137)
  none (bldS 3 1 [AV.esl, AV.esl, AV.esl] [(0, 3, t 136)]), Op2.mk (some 138) none (app 3 72 (t 135) (t 137)), Op2.mk (some 139)
  none (fa 3 (t 5)), Op2.mk none none (Ins.st 1 (t 139) (t 138))])))))))).seq ((ops 0 [Op2.mk (some 140) none (ldn 4 (t 5)),
  Op2.mk none none (Ins.st 4 (t 2) (t 140)), Op2.mk none none (Ins.st 1 (t 3) (c (AV.int IntKind.i64 (0))))]).seq ret)))))))
theorem is45 : Is Try.prog 45 b45 := Is.mk' Try.func45 (by kernel_rfl)

/-- roundtable/library.more -/
def b46 : F2 := (F2.mk 8 [RV.t 2] ((ops 0 [Op2.mk (some 2) none (mov (c (AV.int IntKind.i64 (0))))]).seq (((ops 0 [Op2.mk (some 3)
  none (mov (t 0)), Op2.mk (some 4) none (call (c (AV.func 81 [])) [t 3, c (AV.int IntKind.i64 (0)), c (AV.int IntKind.i64 (8))]),
  Op2.mk (some 5) none (un UnOp.not (t 4))]).seq (C2.cond (t 5) ((ops 0 [Op2.mk (some 2) none (mov (c (AV.int IntKind.i64 (9))))]).seq ret)
  skip)).seq ((ops 0 [Op2.mk (some 6) none (mov (t 0)), Op2.mk (some 7) none (bin BinOp.add false false (t 6) (c (AV.int IntKind.i64 (1)))),
  Op2.mk (some 2) none (mov (t 7))]).seq ret))))
theorem is46 : Is Try.prog 46 b46 := Is.mk' Try.func46 (by kernel_rfl)

/-- roundtable/library.Approximate$1 -/
def b47 : F2 := (F2.mk 22 [RV.t 5] ((ops 0 [Op2.mk (some 5) none (mov (c (AV.bool false)))]).seq (((ops 0 [Op2.mk (some 6) none (mov (t 0)),
  Op2.mk (some 7) none (call (c (AV.func 48 [])) [t 6]), Op2.mk (some 8) none (bin BinOp.eql false false (t 7) (c (AV.int IntKind.i64 (1))))]).seq (C2.cond (t 8)
  ((ops 1 [Op2.mk (some 9) none (mov (t 1)), Op2.mk (some 10) none (mov (t 0)), Op2.mk (some 11) none (ixaS 1 (t 10)
  (c (AV.int IntKind.i64 (0)))), Op2.mk (some 12) none (ld1 (t 11)), Op2.mk (some 13) none (ld1 (t 2)), Op2.mk (some 14)
  none (bin BinOp.mul false false (t 12) (t 13)), Op2.mk (some 15) none (call (c (AV.func 49 [])) [t 9, t 14]), Op2.mk (some 5)
  none (mov (t 15))]).seq ret) skip)).seq ((ops 0 [Op2.mk (some 16) none (mov (t 1)), Op2.mk (some 17) none (call (c (AV.func 50 []))
  [t 16]), Op2.mk (some 18) none (mov (t 1)), Op2.mk (some 19) none (call (c (AV.func 51 [])) [t 18]), Op2.mk (some 20)
  none (bin BinOp.sub false false (t 17) (t 19)), Op2.mk (some 21) none (bin BinOp.leq false false (t 20) (c (AV.int IntKind.i64 (1)))),
  Op2.mk (some 5) none (mov (t 21))]).seq ret))))
theorem is47 : Is Try.prog 47 b47 := Is.mk' Try.func47 (by kernel_rfl)

/-- roundtable/library.different -/
def b48 : F2 := (F2.mk 18 [RV.t 2] ((ops 0 [Op2.mk (some 2) none (mov (c (AV.int IntKind.i64 (0))))]).seq ((ops 0 [Op2.mk (some 6)
  none (mkm none), Op2.mk (some 3) none (mov (t 6))]).seq (((ops 0 [Op2.mk (some 7) none (mov (t 0)), Op2.mk (some 8)
  none (lenS (t 7)), Op2.mk (some 9) none (mov (c (AV.int IntKind.i64 (0))))]).seq (block 0 ((ops 0 [Op2.mk (some 10)
  none (bin BinOp.lss false false (t 9) (t 8))]).seq ((C2.cond (t 10) skip (exit 0)).seq ((block 1 ((ops 0 [Op2.mk (some 11)
  none (ixaS 1 (t 7) (t 9)), Op2.mk (some 12) none (ld1 (t 11)), Op2.mk (some 5) none (mov (t 12))]).seq (ops 0 [Op2.mk (some 13)
  none (mov (t 3)), Op2.mk (some 14) none (mov (t 5)), Op2.mk none none (mput (one int) (t 13) (t 14) (c (AV.bool true)))]))).seq (ops 0 [Op2.mk (some 15)
  none (bin BinOp.add false false (t 9) (c (AV.int IntKind.i64 (1)))), Op2.mk (some 9) none (mov (t 15))])))).loop)).seq ((ops 0 [Op2.mk (some 16)
  none (mov (t 3)), Op2.mk (some 17) none (mlen (t 16)), Op2.mk (some 2) none (mov (t 17))]).seq ret)))))
theorem is48 : Is Try.prog 48 b48 := Is.mk' Try.func48 (by kernel_rfl)

/-- roundtable/library.equal -/
def b49 : F2 := (F2.mk 15 [RV.t 4] ((ops 0 [Op2.mk (some 4) none (mov (c (AV.bool false)))]).seq ((ops 0 [Op2.mk (some 5) none (mov (t 0)),
  Op2.mk (some 6) none (call (c (AV.func 48 [])) [t 5]), Op2.mk (some 7) none (bin BinOp.eql false false (t 6) (c (AV.int IntKind.i64 (1)))),
  Op2.mk (some 8) none (mov (t 7)), Op2.mk (some 9) (some (8, true)) (mov (t 0)), Op2.mk (some 10) (some (8, true))
  (ixaS 1 (t 9) (c (AV.int IntKind.i64 (0)))), Op2.mk (some 11) (some (8, true)) (ld1 (t 10)), Op2.mk (some 12) (some (8,
  true)) (mov (t 1)), Op2.mk (some 13) (some (8, true)) (bin BinOp.eql false false (t 11) (t 12)), Op2.mk (some 14)
  none (pick (t 8) (t 13) (c (AV.bool false))), Op2.mk (some 4) none (mov (t 14))]).seq ret)))
theorem is49 : Is Try.prog 49 b49 := Is.mk' Try.func49 (by kernel_rfl)

/-- slices.Max[[]int,int] -/
def b50 : F2 := (F2.mk 25 [RV.t 2] ((ops 0 [Op2.mk (some 2) none (mov (c (AV.int IntKind.i64 (0))))]).seq (((ops 0 [Op2.mk (some 5)
  none (mov (t 0)), Op2.mk (some 6) none (lenS (t 5)), Op2.mk (some 7) none (bin BinOp.lss false false (t 6) (c (AV.int IntKind.i64 (1))))]).seq (C2.cond (t 7)
  (ops 0 [Op2.mk (some 8) none dead, Op2.mk none none dead]) skip)).seq ((ops 0 [Op2.mk (some 9) none (mov (t 0)),
  Op2.mk (some 10) none (ixaS 1 (t 9) (c (AV.int IntKind.i64 (0)))), Op2.mk (some 11) none (ld1 (t 10)), Op2.mk (some 3)
  none (mov (t 11))]).seq (((ops 0 [Op2.mk (some 4) none (mov (c (AV.int IntKind.i64 (1))))]).seq (block 0 (((ops 0 [Op2.mk (some 12)
  none (mov (t 4)), Op2.mk (some 13) none (mov (t 0)), Op2.mk (some 14) none (lenS (t 13)), Op2.mk (some 15) none (bin BinOp.lss false false (t 12)
  (t 14))]).seq (C2.cond (t 15) skip (exit 0))).seq ((block 1 (ops 0 [Op2.mk (some 18) none (mov (t 3)), Op2.mk (some 19)
  none (mov (t 0)), Op2.mk (some 20) none (mov (t 4)), Op2.mk (some 21) none (ixaS 1 (t 19) (t 20)), Op2.mk (some 22)
  none (ld1 (t 21)), Op2.mk (some 23) none (mx (t 18) [t 22]), Op2.mk (some 3) none (mov (t 23))])).seq (ops 0 [Op2.mk (some 16)
  none (mov (t 4)), Op2.mk (some 17) none (bin BinOp.add false false (t 16) (c (AV.int IntKind.i64 (1)))), Op2.mk (some 4)
  none (mov (t 17))]))).loop)).seq ((ops 0 [Op2.mk (some 24) none (mov (t 3)), Op2.mk (some 2) none (mov (t 24))]).seq ret))))))
theorem is50 : Is Try.prog 50 b50 := Is.mk' Try.func50 (by kernel_rfl)

/-- slices.Min[[]int,int] -/
def b51 : F2 := (F2.mk 25 [RV.t 2] ((ops 0 [Op2.mk (some 2) none (mov (c (AV.int IntKind.i64 (0))))]).seq (((ops 0 [Op2.mk (some 5)
  none (mov (t 0)), Op2.mk (some 6) none (lenS (t 5)), Op2.mk (some 7) none (bin BinOp.lss false false (t 6) (c (AV.int IntKind.i64 (1))))]).seq (C2.cond (t 7)
  (ops 0 [Op2.mk (some 8) none dead, Op2.mk none none dead]) skip)).seq ((ops 0 [Op2.mk (some 9) none (mov (t 0)),
  Op2.mk (some 10) none (ixaS 1 (t 9) (c (AV.int IntKind.i64 (0)))), Op2.mk (some 11) none (ld1 (t 10)), Op2.mk (some 3)
  none (mov (t 11))]).seq (((ops 0 [Op2.mk (some 4) none (mov (c (AV.int IntKind.i64 (1))))]).seq (block 0 (((ops 0 [Op2.mk (some 12)
  none (mov (t 4)), Op2.mk (some 13) none (mov (t 0)), Op2.mk (some 14) none (lenS (t 13)), Op2.mk (some 15) none (bin BinOp.lss false false (t 12)
  (t 14))]).seq (C2.cond (t 15) skip (exit 0))).seq ((block 1 (ops 0 [Op2.mk (some 18) none (mov (t 3)), Op2.mk (some 19)
  none (mov (t 0)), Op2.mk (some 20) none (mov (t 4)), Op2.mk (some 21) none (ixaS 1 (t 19) (t 20)), Op2.mk (some 22)
  none (ld1 (t 21)), Op2.mk (some 23) none (mn (t 18) [t 22]), Op2.mk (some 3) none (mov (t 23))])).seq (ops 0 [Op2.mk (some 16)
  none (mov (t 4)), Op2.mk (some 17) none (bin BinOp.add false false (t 16) (c (AV.int IntKind.i64 (1)))), Op2.mk (some 4)
  none (mov (t 17))]))).loop)).seq ((ops 0 [Op2.mk (some 24) none (mov (t 3)), Op2.mk (some 2) none (mov (t 24))]).seq ret))))))
theorem is51 : Is Try.prog 51 b51 := Is.mk' Try.func51 (by kernel_rfl)

/-- roundtable/roundtableref12.Make -/
def b52 : F2 := (F2.mk 126 [RV.cn 2 4, RV.t 3] ((ops 0 [Op2.mk (some 1) none (box (t 0)), Op2.mk (some 2) none (alloc (AV.agg [AV.int IntKind.i64 (0),
  AV.int IntKind.i64 (0), AV.int IntKind.i64 (0), AV.esl])), Op2.mk (some 3) none (mov (c (AV.int IntKind.i64 (0))))]).seq (((ops 0 [Op2.mk (some 9)
  none (fa 1 (t 1)), Op2.mk (some 10) none (ld1 (t 9)), Op2.mk (some 11) none (bin BinOp.lss false false (t 10) (c (AV.int IntKind.i64 (1)))),
  Op2.mk (some 12) none (mov (t 11)), Op2.mk (some 13) (some (12, false)) (fa 1 (t 1)), Op2.mk (some 14) (some (12,
  false)) (ld1 (t 13)), Op2.mk (some 15) (some (12, false)) (bin BinOp.gtr false false (t 14) (c (AV.int IntKind.i64 (5)))),
  Op2.mk (some 16) none (pick (t 12) (c (AV.bool true)) (t 15))]).seq (C2.cond (t 16) ((ops 0 [Op2.mk (some 17) none (bld [AV.int IntKind.i64 (0),
  AV.int IntKind.i64 (0), AV.int IntKind.i64 (0), AV.esl] []), Op2.mk none none (Ins.st 4 (t 2) (t 17)), Op2.mk (some 3)
  none (mov (c (AV.int IntKind.i64 (2))))]).seq ret) skip)).seq (((ops 0 [Op2.mk (some 18) none (fa 2 (t 1)), Op2.mk (some 19)
  none (ld1 (t 18)), Op2.mk (some 20) none (bin BinOp.lss false false (t 19) (c (AV.int IntKind.i64 (1)))), Op2.mk (some 21)
  none (mov (t 20)), Op2.mk (some 22) (some (21, false)) (fa 2 (t 1)), Op2.mk (some 23) (some (21, false)) (ld1 (t 22)),
  Op2.mk (some 24) (some (21, false)) (bin BinOp.gtr false false (t 23) (c (AV.int IntKind.i64 (8)))), Op2.mk (some 25)
  none (pick (t 21) (c (AV.bool true)) (t 24)), Op2.mk (some 26) none (mov (t 25)), Op2.mk (some 27) (some (26, false))
  (fa 3 (t 1)), Op2.mk (some 28) (some (26, false)) (ld1 (t 27)), Op2.mk (some 29) (some (26, false)) (bin BinOp.lss false false (t 28)
  (c (AV.int IntKind.i64 (1)))), Op2.mk (some 30) none (pick (t 26) (c (AV.bool true)) (t 29)), Op2.mk (some 31) none (mov (t 30)),
  Op2.mk (some 32) (some (31, false)) (fa 3 (t 1)), Op2.mk (some 33) (some (31, false)) (ld1 (t 32)), Op2.mk (some 34)
  (some (31, false)) (bin BinOp.gtr false false (t 33) (c (AV.int IntKind.i64 (8)))), Op2.mk (some 35) none (pick (t 31)
  (c (AV.bool true)) (t 34))]).seq (C2.cond (t 35) ((ops 0 [Op2.mk (some 36) none (bld [AV.int IntKind.i64 (0), AV.int IntKind.i64 (0),
  AV.int IntKind.i64 (0), AV.esl] []), Op2.mk none none (Ins.st 4 (t 2) (t 36)), Op2.mk (some 3) none (mov (c (AV.int IntKind.i64 (2))))]).seq ret)
  skip)).seq (((ops 0 [Op2.mk (some 37) none (fa 0 (t 1)), Op2.mk (some 38) none (ld1 (t 37)), Op2.mk (some 39) none (bin BinOp.eql false false (t 38)
  (c (AV.int IntKind.i64 (6)))), Op2.mk (some 40) none (mov (t 39)), Op2.mk (some 41) (some (40, true)) (fa 4 (t 1)),
  Op2.mk (some 42) (some (40, true)) (ld1 (t 41)), Op2.mk (some 43) (some (40, true)) (bin BinOp.lss false false (t 42)
  (c (AV.int IntKind.i64 (1)))), Op2.mk (some 44) (some (40, true)) (mov (t 43)), Op2.mk (some 45) (some (44, false))
  (fa 4 (t 1)), Op2.mk (some 46) (some (44, false)) (ld1 (t 45)), Op2.mk (some 47) (some (44, false)) (fa 1 (t 1)),
  Op2.mk (some 48) (some (44, false)) (ld1 (t 47)), Op2.mk (some 49) (some (44, false)) (bin BinOp.gtr false false (t 46)
  (t 48)), Op2.mk (some 50) (some (40, true)) (pick (t 44) (c (AV.bool true)) (t 49)), Op2.mk (some 51) none (pick (t 40)
  (t 50) (c (AV.bool false)))]).seq (C2.cond (t 51) ((ops 0 [Op2.mk (some 52) none (bld [AV.int IntKind.i64 (0), AV.int IntKind.i64 (0),
  AV.int IntKind.i64 (0), AV.esl] []), Op2.mk none none (Ins.st 4 (t 2) (t 52)), Op2.mk (some 3) none (mov (c (AV.int IntKind.i64 (2))))]).seq ret)
  skip)).seq (((ops 0 [Op2.mk (some 53) none (fa 0 (t 1)), Op2.mk (some 54) none (ld1 (t 53)), Op2.mk (some 55) none (bin BinOp.eql false false (t 54)
  (c (AV.int IntKind.i64 (5)))), Op2.mk (some 56) none (mov (t 55)), Op2.mk (some 57) (some (56, true)) (fa 2 (t 1)),
  Op2.mk (some 58) (some (56, true)) (ld1 (t 57)), Op2.mk (some 59) (some (56, true)) (fa 1 (t 1)), Op2.mk (some 60)
  (some (56, true)) (ld1 (t 59)), Op2.mk (some 61) (some (56, true)) (bin BinOp.lss false false (t 58) (t 60)), Op2.mk (some 62)
  (some (56, true)) (mov (t 61)), Op2.mk (some 63) (some (62, false)) (fa 3 (t 1)), Op2.mk (some 64) (some (62, false))
  (ld1 (t 63)), Op2.mk (some 65) (some (62, false)) (fa 1 (t 1)), Op2.mk (some 66) (some (62, false)) (ld1 (t 65)),
  Op2.mk (some 67) (some (62, false)) (bin BinOp.lss false false (t 64) (t 66)), Op2.mk (some 68) (some (56, true))
  (pick (t 62) (c (AV.bool true)) (t 67)), Op2.mk (some 69) none (pick (t 56) (t 68) (c (AV.bool false)))]).seq (C2.cond (t 69)
  ((ops 0 [Op2.mk (some 70) none (bld [AV.int IntKind.i64 (0), AV.int IntKind.i64 (0), AV.int IntKind.i64 (0), AV.esl] []),
  Op2.mk none none (Ins.st 4 (t 2) (t 70)), Op2.mk (some 3) none (mov (c (AV.int IntKind.i64 (16))))]).seq ret) skip)).seq (((ops 0 [Op2.mk (some 71)
  none (ldn 5 (t 1)), Op2.mk (some 72) none (call (c (AV.func 84 [])) [t 71]), Op2.mk (some 73) none (bin BinOp.gtr false false (t 72)
  (c (AV.int IntKind.i64 (1024))))]).seq (C2.cond (t 73) ((ops 0 [Op2.mk (some 74) none (bld [AV.int IntKind.i64 (0),
  AV.int IntKind.i64 (0), AV.int IntKind.i64 (0), AV.esl] []), Op2.mk none none (Ins.st 4 (t 2) (t 74)), Op2.mk (some 3)
  none (mov (c (AV.int IntKind.i64 (17))))]).seq ret) skip)).seq ((ops 0 [Op2.mk (some 75) none (fa 1 (t 1)), Op2.mk (some 76)
  none (ld1 (t 75)), Op2.mk (some 77) none (fa 2 (t 1)), Op2.mk (some 78) none (ld1 (t 77)), Op2.mk (some 79) none (fa 3 (t 1)),
  Op2.mk (some 80) none (ld1 (t 79)), Op2.mk (some 81) none (bld [AV.int IntKind.i64 (0), AV.int IntKind.i64 (0),
  AV.int IntKind.i64 (0), AV.esl] [(0, 1, t 76), (1, 1, t 78), (2, 1, t 80)]), Op2.mk (some 4) none (alloc (AV.agg [AV.int IntKind.i64 (0),
  AV.int IntKind.i64 (0), AV.int IntKind.i64 (0), AV.esl])), Op2.mk none none (Ins.st 4 (t 4) (t 81))]).seq ((ops 0 [Op2.mk (some 82)
  none (fa 1 (t 1)), Op2.mk (some 83) none (ld1 (t 82)), Op2.mk (some 84) none (fa 2 (t 1)), Op2.mk (some 85) none (ld1 (t 84)),
  Op2.mk (some 86) none (call (c (AV.func 85 [])) [t 83, t 85]), Op2.mk (some 5) none (mov (t 86))]).seq (((ops 0 [Op2.mk (some 6)
  none (mov (c (AV.int IntKind.i64 (0))))]).seq (block 0 (((ops 0 [Op2.mk (some 87) none (mov (t 6)), Op2.mk (some 88)
  none (mov (t 5)), Op2.mk (some 89) none (lenS (t 88)), Op2.mk (some 90) none (bin BinOp.lss false false (t 87) (t 89))]).seq (C2.cond (t 90)
  skip (exit 0))).seq ((block 1 (((ops 1 [Op2.mk (some 93) none (ldn 5 (t 1)), Op2.mk (some 94) none (mov (t 5)),
  Op2.mk (some 95) none (mov (t 6)), Op2.mk (some 96) none (ixaS 1 (t 94) (t 95)), Op2.mk (some 97) none (ld1 (t 96)),
  Op2.mk (some 98) none (call (c (AV.func 86 [])) [t 93, t 97]), Op2.mk (some 99) none (un UnOp.not (t 98))]).seq (C2.cond (t 99)
  (exit 1) skip)).seq ((ops 1 [Op2.mk (some 101) none (ldn 5 (t 1)), Op2.mk (some 102) none (mov (t 5)), Op2.mk (some 103)
  none (mov (t 6)), Op2.mk (some 104) none (ixaS 1 (t 102) (t 103)), Op2.mk (some 105) none (ld1 (t 104)), Op2.mk (some 106)
  none (call (c (AV.func 87 [])) [t 101, t 105]), Op2.mk (some 100) none (mov (t 106)), Op2.mk (some 107) none (ext (t 100)
  0), Op2.mk (some 108) none (ext (t 100) 1), Op2.mk (some 7) none (mov (t 107)), Op2.mk (some 8) none (mov (t 108))]).seq (((ops 0 [Op2.mk (some 109)
  none (mov (t 7)), Op2.mk (some 110) none (lenS (t 109)), Op2.mk (some 111) none (bin BinOp.gtr false false (t 110)
  (c (AV.int IntKind.i64 (1024))))]).seq (C2.cond (t 111) ((ops 0 [Op2.mk (some 112) none (bld [AV.int IntKind.i64 (0),
  AV.int IntKind.i64 (0), AV.int IntKind.i64 (0), AV.esl] []), Op2.mk none none (Ins.st 4 (t 2) (t 112)), Op2.mk (some 3)
  none (mov (c (AV.int IntKind.i64 (17))))]).seq ret) skip)).seq (ops 1 [Op2.mk (some 113) none (fa 3 (t 4)), Op2.mk (some 114)
  none (ld1 (t 113)), Op2.mk (some 115) none (mov (t 5)), Op2.mk (some 116) none (mov (t 6)), Op2.mk (some 117) none (ixaS 1 (t 115)
  (t 116)), Op2.mk (some 118) none (ld1 (t 117)), Op2.mk (some 119) none (mov (t 7)), Op2.mk (some 120) none (mov (t 8)),
  Op2.mk (some 121) none (bld [AV.esl, AV.esl, AV.esl] [(0, 1, t 118), (1, 1, t 119), (2, 1, t 120)]), Op2.mk (some 122)
  none (bldS 3 1 [AV.esl, AV.esl, AV.esl] [(0, 3, t 121)]), Op2.mk (some 123) none (app 3 72 (t 114) (t 122)), Op2.mk (some 124)
  none (fa 3 (t 4)), Op2.mk none none (Ins.st 1 (t 124) (t 123))]))))).seq (ops 0 [Op2.mk (some 91) none (mov (t 6)),
  Op2.mk (some 92) none (bin BinOp.add false false (t 91) (c (AV.int IntKind.i64 (1)))), Op2.mk (some 6) none (mov (t 92))]))).loop)).seq ((ops 0 [Op2.mk (some 125)
  none (ldn 4 (t 4)), Op2.mk none none (Ins.st 4 (t 2) (t 125)), Op2.mk (some 3) none (mov (c (AV.int IntKind.i64 (0))))]).seq ret)))))))))))
theorem is52 : Is Try.prog 52 b52 := Is.mk' Try.func52 (by kernel_rfl)

/-- roundtable/roundtableref12.plus -/
def b53 : F2 := (F2.mk 11 [RV.t 2] ((ops 0 [Op2.mk (some 2) none (mov (c (AV.int IntKind.i64 (0))))]).seq (((ops 0 [Op2.mk (some 3)
  none (mov (t 0)), Op2.mk (some 4) none (bin BinOp.lss false false (t 3) (c (AV.int IntKind.i64 (0)))), Op2.mk (some 5)
  none (mov (t 4)), Op2.mk (some 6) (some (5, false)) (mov (t 0)), Op2.mk (some 7) (some (5, false)) (bin BinOp.gtr false false (t 6)
  (c (AV.int IntKind.i64 (1000)))), Op2.mk (some 8) none (pick (t 5) (c (AV.bool true)) (t 7))]).seq (C2.cond (t 8)
  ((ops 0 [Op2.mk (some 2) none (mov (c (AV.int IntKind.i64 (1000))))]).seq ret) skip)).seq ((ops 0 [Op2.mk (some 9)
  none (mov (t 0)), Op2.mk (some 10) none (bin BinOp.add false false (t 9) (c (AV.int IntKind.i64 (1)))), Op2.mk (some 2)
  none (mov (t 10))]).seq ret))))
theorem is53 : Is Try.prog 53 b53 := Is.mk' Try.func53 (by kernel_rfl)

/-- roundtable/library.Crusader$1 -/
def b54 : F2 := (F2.mk 14 [RV.t 5] ((ops 0 [Op2.mk (some 5) none (mov (c (AV.bool false)))]).seq ((ops 0 [Op2.mk (some 7) none (mov (t 1)),
  Op2.mk (some 8) none (call (c (AV.func 32 [])) [t 7]), Op2.mk (some 9) none (mkfn 56 [t 2]), Op2.mk (some 10) none (call (c (AV.func 55 []))
  [t 8, t 9]), Op2.mk (some 6) none (mov (t 10))]).seq ((ops 0 [Op2.mk (some 11) none (mov (t 6)), Op2.mk (some 12)
  none (call (c (AV.func 48 [])) [t 11]), Op2.mk (some 13) none (bin BinOp.leq false false (t 12) (c (AV.int IntKind.i64 (1)))),
  Op2.mk (some 5) none (mov (t 13))]).seq ret))))
theorem is54 : Is Try.prog 54 b54 := Is.mk' Try.func54 (by kernel_rfl)

/-- slices.DeleteFunc[[]int,int] -/
def b55 : F2 := (F2.mk 42 [RV.t 4] ((ops 0 [Op2.mk (some 4) none (mov (c AV.esl))]).seq ((ops 0 [Op2.mk (some 8) none (mov (t 0)),
  Op2.mk (some 9) none (mov (t 1)), Op2.mk (some 10) none (call (c (AV.func 88 [])) [t 8, t 9]), Op2.mk (some 5) none (mov (t 10))]).seq (((ops 0 [Op2.mk (some 11)
  none (mov (t 5)), Op2.mk (some 12) none (bin BinOp.eql false false (t 11) (c (AV.int IntKind.i64 (-1))))]).seq (C2.cond (t 12)
  ((ops 0 [Op2.mk (some 13) none (mov (t 0)), Op2.mk (some 4) none (mov (t 13))]).seq ret) skip)).seq (((ops 0 [Op2.mk (some 14)
  none (mov (t 5)), Op2.mk (some 15) none (bin BinOp.add false false (t 14) (c (AV.int IntKind.i64 (1)))), Op2.mk (some 6)
  none (mov (t 15))]).seq (block 0 (((ops 0 [Op2.mk (some 16) none (mov (t 6)), Op2.mk (some 17) none (mov (t 0)),
  Op2.mk (some 18) none (lenS (t 17)), Op2.mk (some 19) none (bin BinOp.lss false false (t 16) (t 18))]).seq (C2.cond (t 19)
  skip (exit 0))).seq ((block 1 ((ops 0 [Op2.mk (some 22) none (mov (t 0)), Op2.mk (some 23) none (mov (t 6)), Op2.mk (some 24)
  none (ixaS 1 (t 22) (t 23)), Op2.mk (some 25) none (ld1 (t 24)), Op2.mk (some 7) none (mov (t 25))]).seq ((ops 0 [Op2.mk (some 26)
  none (mov (t 1)), Op2.mk (some 27) none (mov (t 7)), Op2.mk (some 28) none (call (t 26) [t 27]), Op2.mk (some 29)
  none (un UnOp.not (t 28))]).seq (C2.cond (t 29) ((ops 0 [Op2.mk (some 30) none (mov (t 0)), Op2.mk (some 31) none (mov (t 5)),
  Op2.mk (some 32) none (mov (t 7)), Op2.mk (some 33) none (ixaS 1 (t 30) (t 31)), Op2.mk none none (Ins.st 1 (t 33)
  (t 32))]).seq (ops 0 [Op2.mk (some 34) none (mov (t 5)), Op2.mk (some 35) none (bin BinOp.add false false (t 34)
  (c (AV.int IntKind.i64 (1)))), Op2.mk (some 5) none (mov (t 35))])) skip)))).seq (ops 0 [Op2.mk (some 20) none (mov (t 6)),
  Op2.mk (some 21) none (bin BinOp.add false false (t 20) (c (AV.int IntKind.i64 (1)))), Op2.mk (some 6) none (mov (t 21))]))).loop)).seq ((ops 0 [Op2.mk (some 36)
  none (mov (t 0)), Op2.mk (some 37) none (mov (t 5)), Op2.mk (some 38) none (sls 1 (t 36) (some (t 37)) none none),
  Op2.mk none none (clr 1 (AV.int IntKind.i64 (0)) (t 38))]).seq ((ops 0 [Op2.mk (some 39) none (mov (t 0)), Op2.mk (some 40)
  none (mov (t 5)), Op2.mk (some 41) none (sls 1 (t 39) none (some (t 40)) none), Op2.mk (some 4) none (mov (t 41))]).seq ret)))))))
theorem is55 : Is Try.prog 55 b55 := Is.mk' Try.func55 (by kernel_rfl)

/-- roundtable/library.Crusader$1$1 -/
def b56 : F2 := (F2.mk 7 [RV.t 3] ((ops 0 [Op2.mk (some 3) none (mov (c (AV.bool false)))]).seq ((ops 0 [Op2.mk (some 4) none (mov (t 0)),
  Op2.mk (some 5) none (ld1 (t 1)), Op2.mk (some 6) none (bin BinOp.eql false false (t 4) (t 5)), Op2.mk (some 3)
  none (mov (t 6))]).seq ret)))
theorem is56 : Is Try.prog 56 b56 := Is.mk' Try.func56 (by kernel_rfl)

/-- roundtable/library.Crusader$2 -/
def b57 : F2 := (F2.mk 10 [RV.t 4] ((ops 0 [Op2.mk (some 4) none (mov (c (AV.bool false)))]).seq ((ops 0 [Op2.mk (some 5) none (mov (t 1)),
  Op2.mk (some 6) none (mov (t 0)), Op2.mk (some 7) none (ixaS 1 (t 6) (c (AV.int IntKind.i64 (0)))), Op2.mk (some 8)
  none (ld1 (t 7)), Op2.mk (some 9) none (call (c (AV.func 49 [])) [t 5, t 8]), Op2.mk (some 4) none (mov (t 9))]).seq ret)))
theorem is57 : Is Try.prog 57 b57 := Is.mk' Try.func57 (by kernel_rfl)

/-- roundtable/roundtableref11.Order -/
def b58 : F2 := (F2.mk 46 [RV.t 4] ((ops 0 [Op2.mk (some 4) none (mov (c (AV.int IntKind.i64 (0))))]).seq (((ops 0 [Op2.mk (some 5)
  none (mov (c (AV.int IntKind.i64 (0))))]).seq (block 0 (((ops 0 [Op2.mk (some 6) none (mov (t 5)), Op2.mk (some 7)
  none (mov (t 0)), Op2.mk (some 8) none (lenS (t 7)), Op2.mk (some 9) none (bin BinOp.lss false false (t 6) (t 8)),
  Op2.mk (some 10) none (mov (t 9)), Op2.mk (some 11) (some (10, true)) (mov (t 5)), Op2.mk (some 12) (some (10, true))
  (mov (t 1)), Op2.mk (some 13) (some (10, true)) (lenS (t 12)), Op2.mk (some 14) (some (10, true)) (bin BinOp.lss false false (t 11)
  (t 13)), Op2.mk (some 15) none (pick (t 10) (t 14) (c (AV.bool false)))]).seq (C2.cond (t 15) skip (exit 0))).seq ((block 1 (((ops 1 [Op2.mk (some 18)
  none (mov (t 0)), Op2.mk (some 19) none (mov (t 5)), Op2.mk (some 20) none (ixaS 1 (t 18) (t 19)), Op2.mk (some 21)
  none (ld1 (t 20)), Op2.mk (some 22) none (mov (t 1)), Op2.mk (some 23) none (mov (t 5)), Op2.mk (some 24) none (ixaS 1 (t 22)
  (t 23)), Op2.mk (some 25) none (ld1 (t 24)), Op2.mk (some 26) none (bin BinOp.lss false false (t 21) (t 25))]).seq (C2.cond (t 26)
  ((ops 0 [Op2.mk (some 4) none (mov (c (AV.int IntKind.i64 (-1))))]).seq ret) skip)).seq ((ops 1 [Op2.mk (some 27)
  none (mov (t 0)), Op2.mk (some 28) none (mov (t 5)), Op2.mk (some 29) none (ixaS 1 (t 27) (t 28)), Op2.mk (some 30)
  none (ld1 (t 29)), Op2.mk (some 31) none (mov (t 1)), Op2.mk (some 32) none (mov (t 5)), Op2.mk (some 33) none (ixaS 1 (t 31)
  (t 32)), Op2.mk (some 34) none (ld1 (t 33)), Op2.mk (some 35) none (bin BinOp.gtr false false (t 30) (t 34))]).seq (C2.cond (t 35)
  ((ops 0 [Op2.mk (some 4) none (mov (c (AV.int IntKind.i64 (1))))]).seq ret) skip)))).seq (ops 0 [Op2.mk (some 16)
  none (mov (t 5)), Op2.mk (some 17) none (bin BinOp.add false false (t 16) (c (AV.int IntKind.i64 (1)))), Op2.mk (some 5)
  none (mov (t 17))]))).loop)).seq (((ops 0 [Op2.mk (some 36) none (mov (t 0)), Op2.mk (some 37) none (lenS (t 36)),
  Op2.mk (some 38) none (mov (t 1)), Op2.mk (some 39) none (lenS (t 38)), Op2.mk (some 40) none (bin BinOp.lss false false (t 37)
  (t 39))]).seq (C2.cond (t 40) ((ops 0 [Op2.mk (some 4) none (mov (c (AV.int IntKind.i64 (-1))))]).seq ret) skip)).seq (((ops 0 [Op2.mk (some 41)
  none (mov (t 0)), Op2.mk (some 42) none (lenS (t 41)), Op2.mk (some 43) none (mov (t 1)), Op2.mk (some 44) none (lenS (t 43)),
  Op2.mk (some 45) none (bin BinOp.gtr false false (t 42) (t 44))]).seq (C2.cond (t 45) ((ops 0 [Op2.mk (some 4) none (mov (c (AV.int IntKind.i64 (1))))]).seq ret)
  skip)).seq ((ops 0 [Op2.mk (some 4) none (mov (c (AV.int IntKind.i64 (0))))]).seq ret))))))
theorem is58 : Is Try.prog 58 b58 := Is.mk' Try.func58 (by kernel_rfl)

/-- roundtable/library.agreement -/
def b59 : F2 := (F2.mk 13 [RV.cn 6 7] ((ops 0 [Op2.mk (some 5) none (box (t 2)), Op2.mk (some 6) none (alloc (AV.agg [AV.int IntKind.i64 (0),
  AV.int IntKind.i64 (0), AV.int IntKind.i64 (0), AV.int IntKind.i64 (0), AV.nilf, AV.nilf, AV.nilf]))]).seq ((ops 0 [Op2.mk (some 7)
  none (mov (t 0)), Op2.mk (some 8) none (mov (t 1)), Op2.mk (some 9) none (mov (t 1)), Op2.mk (some 10) none (ld1 (t 5)),
  Op2.mk (some 11) none (mkfn 89 [t 5]), Op2.mk (some 12) none (bld [AV.int IntKind.i64 (0), AV.int IntKind.i64 (0),
  AV.int IntKind.i64 (0), AV.int IntKind.i64 (0), AV.nilf, AV.nilf, AV.nilf] [(0, 1, t 7), (1, 1, t 8), (2, 1, t 9),
  (3, 1, t 10), (5, 1, t 11)]), Op2.mk none none (Ins.st 7 (t 6) (t 12))]).seq ret)))
theorem is59 : Is Try.prog 59 b59 := Is.mk' Try.func59 (by kernel_rfl)

/-- roundtable/library.Commit$1 -/
def b61 : F2 := (F2.mk 5 [RV.t 2] ((ops 0 [Op2.mk (some 2) none (mov (c (AV.int IntKind.i64 (0))))]).seq ((ops 0 [Op2.mk (some 3)
  none (mov (t 0)), Op2.mk (some 4) none (call (c (AV.func 51 [])) [t 3]), Op2.mk (some 2) none (mov (t 4))]).seq ret)))
theorem is61 : Is Try.prog 61 b61 := Is.mk' Try.func61 (by kernel_rfl)

/-- roundtable/library.Commit$2 -/
def b62 : F2 := (F2.mk 18 [RV.t 5] ((ops 0 [Op2.mk (some 5) none (mov (c (AV.bool false)))]).seq ((ops 0 [Op2.mk (some 6) none (mov (t 1)),
  Op2.mk (some 7) none (call (c (AV.func 49 [])) [t 6, c (AV.int IntKind.i64 (0))]), Op2.mk (some 8) none (mov (t 7)),
  Op2.mk (some 9) (some (8, false)) (mov (t 1)), Op2.mk (some 10) (some (8, false)) (call (c (AV.func 49 [])) [t 9,
  c (AV.int IntKind.i64 (1))]), Op2.mk (some 11) (some (8, false)) (mov (t 10)), Op2.mk (some 12) (some (11, true))
  (ld1 (t 2)), Op2.mk (some 13) (some (11, true)) (mov (t 0)), Op2.mk (some 14) (some (11, true)) (call (t 12) [t 13]),
  Op2.mk (some 15) (some (11, true)) (bin BinOp.eql false false (t 14) (c (AV.int IntKind.i64 (1)))), Op2.mk (some 16)
  (some (8, false)) (pick (t 11) (t 15) (c (AV.bool false))), Op2.mk (some 17) none (pick (t 8) (c (AV.bool true))
  (t 16)), Op2.mk (some 5) none (mov (t 17))]).seq ret)))
theorem is62 : Is Try.prog 62 b62 := Is.mk' Try.func62 (by kernel_rfl)

/-- roundtable/library.Commit$3 -/
def b63 : F2 := (F2.mk 11 [RV.t 5] ((ops 0 [Op2.mk (some 5) none (mov (c (AV.bool false)))]).seq ((ops 0 [Op2.mk (some 6) none (mov (t 1)),
  Op2.mk (some 7) none (ld1 (t 2)), Op2.mk (some 8) none (mov (t 0)), Op2.mk (some 9) none (call (t 7) [t 8]), Op2.mk (some 10)
  none (call (c (AV.func 49 [])) [t 6, t 9]), Op2.mk (some 5) none (mov (t 10))]).seq ret)))
theorem is63 : Is Try.prog 63 b63 := Is.mk' Try.func63 (by kernel_rfl)

/-- roundtable/task.place -/
def b64 : F2 := (F2.mk 33 [RV.t 6] ((ops 0 [Op2.mk (some 3) none (box (t 0)), Op2.mk (some 6) none (mov (c (AV.int IntKind.i64 (0))))]).seq (((ops 0 [Op2.mk (some 8)
  none (ldn 4 (t 3)), Op2.mk (some 9) none (call (c (AV.func 96 [])) [t 8]), Op2.mk (some 7) none (mov (t 9))]).seq ((ops 0 [Op2.mk (some 10)
  none (mov (t 7)), Op2.mk (some 11) none (bin BinOp.neq false false (t 10) (c (AV.int IntKind.i64 (0))))]).seq (C2.cond (t 11)
  ((ops 0 [Op2.mk (some 12) none (mov (t 7)), Op2.mk (some 6) none (mov (t 12))]).seq ret) skip))).seq ((block 0 ((ops 0 [Op2.mk (some 14)
  none (mov (t 1)), Op2.mk (some 15) none (bin BinOp.lss false false (t 14) (c (AV.int IntKind.i64 (0)))), Op2.mk (some 16)
  none (mov (t 15)), Op2.mk (some 17) (some (16, false)) (mov (t 1)), Op2.mk (some 18) (some (16, false)) (fa 3 (t 3)),
  Op2.mk (some 19) (some (16, false)) (ld1 (t 18)), Op2.mk (some 20) (some (16, false)) (lenS (t 19)), Op2.mk (some 21)
  (some (16, false)) (bin BinOp.geq false false (t 17) (t 20)), Op2.mk (some 22) none (pick (t 16) (c (AV.bool true))
  (t 21)), Op2.mk (some 13) none (mov (t 22))]).seq (C2.cond (t 13) ((ops 0 [Op2.mk (some 6) none (mov (c (AV.int IntKind.i64 (6))))]).seq ret)
  ((ops 0 [Op2.mk (some 24) none (mov (t 2)), Op2.mk (some 25) none (bin BinOp.lss false false (t 24) (c (AV.int IntKind.i64 (0)))),
  Op2.mk (some 26) none (mov (t 25)), Op2.mk (some 27) (some (26, false)) (mov (t 2)), Op2.mk (some 28) (some (26,
  false)) (fa 0 (t 3)), Op2.mk (some 29) (some (26, false)) (ld1 (t 28)), Op2.mk (some 30) (some (26, false)) (bin BinOp.shl false false (c (AV.int IntKind.i64 (1)))
  (t 29)), Op2.mk (some 31) (some (26, false)) (bin BinOp.geq false false (t 27) (t 30)), Op2.mk (some 32) none (pick (t 26)
  (c (AV.bool true)) (t 31)), Op2.mk (some 23) none (mov (t 32))]).seq (C2.cond (t 23) ((ops 0 [Op2.mk (some 6) none (mov (c (AV.int IntKind.i64 (2))))]).seq ret)
  skip))))).seq ((ops 0 [Op2.mk (some 6) none (mov (c (AV.int IntKind.i64 (0))))]).seq ret)))))
theorem is64 : Is Try.prog 64 b64 := Is.mk' Try.func64 (by kernel_rfl)

/-- roundtable/task.copied -/
def b65 : F2 := (F2.mk 19 [RV.t 2] ((ops 0 [Op2.mk (some 2) none (mov (c AV.esl))]).seq ((ops 0 [Op2.mk (some 3) none (mov (c AV.esl))]).seq (((ops 0 [Op2.mk (some 6)
  none (mov (t 0)), Op2.mk (some 7) none (lenS (t 6)), Op2.mk (some 8) none (mov (c (AV.int IntKind.i64 (0))))]).seq (block 0 ((ops 0 [Op2.mk (some 9)
  none (bin BinOp.lss false false (t 8) (t 7))]).seq ((C2.cond (t 9) skip (exit 0)).seq ((block 1 ((ops 0 [Op2.mk (some 10)
  none (ixaS 1 (t 6) (t 8)), Op2.mk (some 11) none (ld1 (t 10)), Op2.mk (some 5) none (mov (t 11))]).seq (ops 0 [Op2.mk (some 12)
  none (mov (t 3)), Op2.mk (some 13) none (mov (t 5)), Op2.mk (some 14) none (call (c (AV.func 32 [])) [t 13]), Op2.mk (some 15)
  none (bldS 1 1 [AV.esl] [(0, 1, t 14)]), Op2.mk (some 16) none (app 1 24 (t 12) (t 15)), Op2.mk (some 3) none (mov (t 16))]))).seq (ops 0 [Op2.mk (some 17)
  none (bin BinOp.add false false (t 8) (c (AV.int IntKind.i64 (1)))), Op2.mk (some 8) none (mov (t 17))])))).loop)).seq ((ops 0 [Op2.mk (some 18)
  none (mov (t 3)), Op2.mk (some 2) none (mov (t 18))]).seq ret)))))
theorem is65 : Is Try.prog 65 b65 := Is.mk' Try.func65 (by kernel_rfl)

/-- roundtable/task.allowed -/
def b66 : F2 := (F2.mk 17 [RV.t 4] ((ops 0 [Op2.mk (some 2) none (box (t 0)), Op2.mk (some 4) none (mov (c AV.esl))]).seq (((ops 0 [Op2.mk (some 5)
  none (mov (t 1)), Op2.mk (some 6) none (bin BinOp.eql false false (t 5) (c (AV.int IntKind.i64 (0)))), Op2.mk (some 7)
  none (mov (t 6)), Op2.mk (some 8) (some (7, true)) (fa 2 (t 2)), Op2.mk (some 9) (some (7, true)) (ld1 (t 8)), Op2.mk (some 10)
  (some (7, true)) (lenS (t 9)), Op2.mk (some 11) (some (7, true)) (bin BinOp.gtr false false (t 10) (c (AV.int IntKind.i64 (0)))),
  Op2.mk (some 12) none (pick (t 7) (t 11) (c (AV.bool false)))]).seq (C2.cond (t 12) ((ops 0 [Op2.mk (some 13) none (fa 2 (t 2)),
  Op2.mk (some 14) none (ld1 (t 13)), Op2.mk (some 4) none (mov (t 14))]).seq ret) skip)).seq ((ops 0 [Op2.mk (some 15)
  none (fa 1 (t 2)), Op2.mk (some 16) none (ld1 (t 15)), Op2.mk (some 4) none (mov (t 16))]).seq ret))))
theorem is66 : Is Try.prog 66 b66 := Is.mk' Try.func66 (by kernel_rfl)

/-- slices.ContainsFunc[[]int,int] -/
def b67 : F2 := (F2.mk 9 [RV.t 4] ((ops 0 [Op2.mk (some 4) none (mov (c (AV.bool false)))]).seq ((ops 0 [Op2.mk (some 5) none (mov (t 0)),
  Op2.mk (some 6) none (mov (t 1)), Op2.mk (some 7) none (call (c (AV.func 88 [])) [t 5, t 6]), Op2.mk (some 8) none (bin BinOp.geq false false (t 7)
  (c (AV.int IntKind.i64 (0)))), Op2.mk (some 4) none (mov (t 8))]).seq ret)))
theorem is67 : Is Try.prog 67 b67 := Is.mk' Try.func67 (by kernel_rfl)

/-- roundtable/task.Permitted$1 -/
def b68 : F2 := (F2.mk 12 [RV.t 3] ((ops 0 [Op2.mk (some 3) none (mov (c (AV.bool false)))]).seq ((ops 0 [Op2.mk (some 4) none (mov (t 0)),
  Op2.mk (some 5) none (bin BinOp.lss false false (t 4) (c (AV.int IntKind.i64 (-1)))), Op2.mk (some 6) none (mov (t 5)),
  Op2.mk (some 7) (some (6, false)) (mov (t 0)), Op2.mk (some 8) (some (6, false)) (fa 2 (t 1)), Op2.mk (some 9) (some (6,
  false)) (ld1 (t 8)), Op2.mk (some 10) (some (6, false)) (bin BinOp.geq false false (t 7) (t 9)), Op2.mk (some 11)
  none (pick (t 6) (c (AV.bool true)) (t 10)), Op2.mk (some 3) none (mov (t 11))]).seq ret)))
theorem is68 : Is Try.prog 68 b68 := Is.mk' Try.func68 (by kernel_rfl)

/-- roundtable/task.Permitted$2 -/
def b69 : F2 := (F2.mk 9 [RV.t 4] ((ops 0 [Op2.mk (some 4) none (mov (c (AV.bool false)))]).seq ((ops 0 [Op2.mk (some 5) none (mov (t 0)),
  Op2.mk (some 6) none (ld1 (t 1)), Op2.mk (some 7) none (ld1 (t 2)), Op2.mk (some 8) none (call (c (AV.func 70 []))
  [t 5, t 6, t 7]), Op2.mk (some 4) none (mov (t 8))]).seq ret)))
theorem is69 : Is Try.prog 69 b69 := Is.mk' Try.func69 (by kernel_rfl)

/-- roundtable/task.agrees -/
def b70 : F2 := (F2.mk 30 [RV.t 6] ((ops 0 [Op2.mk (some 6) none (mov (c (AV.bool false)))]).seq (((ops 0 [Op2.mk (some 9) none (mov (t 0)),
  Op2.mk (some 10) none (lenS (t 9)), Op2.mk (some 11) none (mov (c (AV.int IntKind.i64 (0))))]).seq (block 0 ((ops 0 [Op2.mk (some 12)
  none (bin BinOp.lss false false (t 11) (t 10))]).seq ((C2.cond (t 12) skip (exit 0)).seq ((block 1 ((ops 0 [Op2.mk (some 13)
  none (mov (t 11)), Op2.mk (some 14) none (ixaS 1 (t 9) (t 11)), Op2.mk (some 15) none (ld1 (t 14)), Op2.mk (some 7)
  none (mov (t 13)), Op2.mk (some 8) none (mov (t 15))]).seq ((ops 0 [Op2.mk (some 16) none (mov (t 2)), Op2.mk (some 17)
  none (mov (t 7)), Op2.mk (some 18) none (bin BinOp.shr false false (t 16) (t 17)), Op2.mk (some 19) none (bin BinOp.and false false (t 18)
  (c (AV.int IntKind.i64 (1)))), Op2.mk (some 20) none (bin BinOp.eql false false (t 19) (c (AV.int IntKind.i64 (0)))),
  Op2.mk (some 21) none (mov (t 20)), Op2.mk (some 22) (some (21, true)) (mov (t 1)), Op2.mk (some 23) (some (21,
  true)) (mov (t 7)), Op2.mk (some 24) (some (21, true)) (ixaS 1 (t 22) (t 23)), Op2.mk (some 25) (some (21, true))
  (ld1 (t 24)), Op2.mk (some 26) (some (21, true)) (mov (t 8)), Op2.mk (some 27) (some (21, true)) (bin BinOp.neq false false (t 25)
  (t 26)), Op2.mk (some 28) none (pick (t 21) (t 27) (c (AV.bool false)))]).seq (C2.cond (t 28) ((ops 0 [Op2.mk (some 6)
  none (mov (c (AV.bool false)))]).seq ret) skip)))).seq (ops 0 [Op2.mk (some 29) none (bin BinOp.add false false (t 11)
  (c (AV.int IntKind.i64 (1)))), Op2.mk (some 11) none (mov (t 29))])))).loop)).seq ((ops 0 [Op2.mk (some 6) none (mov (c (AV.bool true)))]).seq ret))))
theorem is70 : Is Try.prog 70 b70 := Is.mk' Try.func70 (by kernel_rfl)

/-- math/bits.Mul -/
def b71 : F2 := (F2.mk 30 [RV.t 4, RV.t 5] ((ops 0 [Op2.mk (some 4) none (mov (c (AV.int IntKind.u64 (0)))), Op2.mk (some 5) none (mov (c (AV.int IntKind.u64 (0))))]).seq ((C2.cond (c (AV.bool false))
  ((ops 0 [Op2.mk (some 11) none (mov (t 0)), Op2.mk (some 12) none (conv IntKind.u32 (t 11)), Op2.mk (some 13) none (mov (t 1)),
  Op2.mk (some 14) none (conv IntKind.u32 (t 13)), Op2.mk (some 15) none (call (c (AV.func 97 [])) [t 12, t 14]),
  Op2.mk (some 10) none (mov (t 15)), Op2.mk (some 16) none (ext (t 10) 0), Op2.mk (some 17) none (ext (t 10) 1),
  Op2.mk (some 6) none (mov (t 16)), Op2.mk (some 7) none (mov (t 17))]).seq ((ops 0 [Op2.mk (some 18) none (mov (t 6)),
  Op2.mk (some 19) none (conv IntKind.u64 (t 18)), Op2.mk (some 20) none (mov (t 7)), Op2.mk (some 21) none (conv IntKind.u64 (t 20)),
  Op2.mk (some 4) none (mov (t 19)), Op2.mk (some 5) none (mov (t 21))]).seq ret)) skip).seq ((ops 0 [Op2.mk (some 23)
  none (mov (t 0)), Op2.mk (some 24) none (mov (t 1)), Op2.mk (some 25) none (call (c (AV.func 98 [])) [t 23, t 24]),
  Op2.mk (some 22) none (mov (t 25)), Op2.mk (some 26) none (ext (t 22) 0), Op2.mk (some 27) none (ext (t 22) 1),
  Op2.mk (some 8) none (mov (t 26)), Op2.mk (some 9) none (mov (t 27))]).seq ((ops 0 [Op2.mk (some 28) none (mov (t 8)),
  Op2.mk (some 29) none (mov (t 9)), Op2.mk (some 4) none (mov (t 28)), Op2.mk (some 5) none (mov (t 29))]).seq ret)))))
theorem is71 : Is Try.prog 71 b71 := Is.mk' Try.func71 (by kernel_rfl)

/-- slices.Index[[]int,int] -/
def b72 : F2 := (F2.mk 19 [RV.t 4] ((ops 0 [Op2.mk (some 4) none (mov (c (AV.int IntKind.i64 (0))))]).seq (((ops 0 [Op2.mk (some 6)
  none (mov (t 0)), Op2.mk (some 7) none (lenS (t 6)), Op2.mk (some 8) none (mov (c (AV.int IntKind.i64 (0))))]).seq (block 0 ((ops 0 [Op2.mk (some 9)
  none (bin BinOp.lss false false (t 8) (t 7))]).seq ((C2.cond (t 9) skip (exit 0)).seq ((block 1 ((ops 0 [Op2.mk (some 10)
  none (mov (t 8)), Op2.mk (some 5) none (mov (t 10))]).seq ((ops 0 [Op2.mk (some 11) none (mov (t 1)), Op2.mk (some 12)
  none (mov (t 0)), Op2.mk (some 13) none (mov (t 5)), Op2.mk (some 14) none (ixaS 1 (t 12) (t 13)), Op2.mk (some 15)
  none (ld1 (t 14)), Op2.mk (some 16) none (bin BinOp.eql false false (t 11) (t 15))]).seq (C2.cond (t 16) ((ops 0 [Op2.mk (some 17)
  none (mov (t 5)), Op2.mk (some 4) none (mov (t 17))]).seq ret) skip)))).seq (ops 0 [Op2.mk (some 18) none (bin BinOp.add false false (t 8)
  (c (AV.int IntKind.i64 (1)))), Op2.mk (some 8) none (mov (t 18))])))).loop)).seq ((ops 0 [Op2.mk (some 4) none (mov (c (AV.int IntKind.i64 (-1))))]).seq ret))))
theorem is72 : Is Try.prog 72 b72 := Is.mk' Try.func72 (by kernel_rfl)

/-- slices.IndexFunc[[][]int,[]int] -/
def b73 : F2 := (F2.mk 19 [RV.t 4] ((ops 0 [Op2.mk (some 4) none (mov (c (AV.int IntKind.i64 (0))))]).seq (((ops 0 [Op2.mk (some 6)
  none (mov (t 0)), Op2.mk (some 7) none (lenS (t 6)), Op2.mk (some 8) none (mov (c (AV.int IntKind.i64 (0))))]).seq (block 0 ((ops 0 [Op2.mk (some 9)
  none (bin BinOp.lss false false (t 8) (t 7))]).seq ((C2.cond (t 9) skip (exit 0)).seq ((block 1 ((ops 0 [Op2.mk (some 10)
  none (mov (t 8)), Op2.mk (some 5) none (mov (t 10))]).seq ((ops 0 [Op2.mk (some 11) none (mov (t 1)), Op2.mk (some 12)
  none (mov (t 0)), Op2.mk (some 13) none (mov (t 5)), Op2.mk (some 14) none (ixaS 1 (t 12) (t 13)), Op2.mk (some 15)
  none (ld1 (t 14)), Op2.mk (some 16) none (call (t 11) [t 15])]).seq (C2.cond (t 16) ((ops 0 [Op2.mk (some 17) none (mov (t 5)),
  Op2.mk (some 4) none (mov (t 17))]).seq ret) skip)))).seq (ops 0 [Op2.mk (some 18) none (bin BinOp.add false false (t 8)
  (c (AV.int IntKind.i64 (1)))), Op2.mk (some 8) none (mov (t 18))])))).loop)).seq ((ops 0 [Op2.mk (some 4) none (mov (c (AV.int IntKind.i64 (-1))))]).seq ret))))
theorem is73 : Is Try.prog 73 b73 := Is.mk' Try.func73 (by kernel_rfl)

/-- roundtable/library.Renaming$1 -/
def b76 : F2 := (F2.mk 8 [RV.t 2] ((ops 0 [Op2.mk (some 2) none (mov (c (AV.bool false)))]).seq ((ops 0 [Op2.mk (some 3) none (mov (t 0)),
  Op2.mk (some 4) none (call (c (AV.func 48 [])) [t 3]), Op2.mk (some 5) none (mov (t 0)), Op2.mk (some 6) none (lenS (t 5)),
  Op2.mk (some 7) none (bin BinOp.eql false false (t 4) (t 6)), Op2.mk (some 2) none (mov (t 7))]).seq ret)))
theorem is76 : Is Try.prog 76 b76 := Is.mk' Try.func76 (by kernel_rfl)

/-- roundtable/library.Renaming$2 -/
def b77 : F2 := (F2.mk 10 [RV.t 4] ((ops 0 [Op2.mk (some 4) none (mov (c (AV.bool false)))]).seq ((ops 0 [Op2.mk (some 5) none (mov (t 1)),
  Op2.mk (some 6) none (call (c (AV.func 48 [])) [t 5]), Op2.mk (some 7) none (mov (t 1)), Op2.mk (some 8) none (lenS (t 7)),
  Op2.mk (some 9) none (bin BinOp.eql false false (t 6) (t 8)), Op2.mk (some 4) none (mov (t 9))]).seq ret)))
theorem is77 : Is Try.prog 77 b77 := Is.mk' Try.func77 (by kernel_rfl)

/-- roundtable/library.Leader$1 -/
def b78 : F2 := (F2.mk 20 [RV.t 4] ((ops 0 [Op2.mk (some 4) none (mov (c (AV.bool false)))]).seq ((ops 0 [Op2.mk (some 5) none (mov (c (AV.int IntKind.i64 (0))))]).seq (((ops 0 [Op2.mk (some 8)
  none (mov (t 1)), Op2.mk (some 9) none (lenS (t 8)), Op2.mk (some 10) none (mov (c (AV.int IntKind.i64 (0))))]).seq (block 0 ((ops 0 [Op2.mk (some 11)
  none (bin BinOp.lss false false (t 10) (t 9))]).seq ((C2.cond (t 11) skip (exit 0)).seq ((block 1 ((ops 0 [Op2.mk (some 12)
  none (ixaS 1 (t 8) (t 10)), Op2.mk (some 13) none (ld1 (t 12)), Op2.mk (some 7) none (mov (t 13))]).seq (ops 0 [Op2.mk (some 14)
  none (mov (t 5)), Op2.mk (some 15) none (mov (t 7)), Op2.mk (some 16) none (bin BinOp.add false false (t 14) (t 15)),
  Op2.mk (some 5) none (mov (t 16))]))).seq (ops 0 [Op2.mk (some 17) none (bin BinOp.add false false (t 10) (c (AV.int IntKind.i64 (1)))),
  Op2.mk (some 10) none (mov (t 17))])))).loop)).seq ((ops 0 [Op2.mk (some 18) none (mov (t 5)), Op2.mk (some 19)
  none (bin BinOp.eql false false (t 18) (c (AV.int IntKind.i64 (1)))), Op2.mk (some 4) none (mov (t 19))]).seq ret)))))
theorem is78 : Is Try.prog 78 b78 := Is.mk' Try.func78 (by kernel_rfl)

/-- roundtable/library.between -/
def b81 : F2 := (F2.mk 15 [RV.t 6] ((ops 0 [Op2.mk (some 6) none (mov (c (AV.bool false)))]).seq ((ops 0 [Op2.mk (some 7) none (mov (t 0)),
  Op2.mk (some 8) none (mov (t 1)), Op2.mk (some 9) none (bin BinOp.geq false false (t 7) (t 8)), Op2.mk (some 10)
  none (mov (t 9)), Op2.mk (some 11) (some (10, true)) (mov (t 0)), Op2.mk (some 12) (some (10, true)) (mov (t 2)),
  Op2.mk (some 13) (some (10, true)) (bin BinOp.leq false false (t 11) (t 12)), Op2.mk (some 14) none (pick (t 10)
  (t 13) (c (AV.bool false))), Op2.mk (some 6) none (mov (t 14))]).seq ret)))
theorem is81 : Is Try.prog 81 b81 := Is.mk' Try.func81 (by kernel_rfl)

/-- roundtable/library.many -/
def b82 : F2 := (F2.mk 28 [RV.t 8] ((ops 0 [Op2.mk (some 6) none (box (t 2)), Op2.mk (some 7) none (box (t 3)), Op2.mk (some 8)
  none (mov (c (AV.int IntKind.i64 (0))))]).seq ((ops 0 [Op2.mk (some 9) none (alloc (AV.int IntKind.i64 (0))), Op2.mk none none (Ins.st 1 (t 9)
  (c (AV.int IntKind.i64 (0))))]).seq (((ops 0 [Op2.mk (some 11) none (mov (t 0)), Op2.mk (some 12) none (mov (t 1)),
  Op2.mk (some 13) none (call (c (AV.func 83 [])) [t 11, t 12])]).seq (block 0 (rangeF (t 13) [14] (ops 0 [Op2.mk (some 10)
  none (mov (t 14))]) (block 1 (((ops 0 [Op2.mk (some 15) none (ld1 (t 6)), Op2.mk (some 16) none (bin BinOp.eql false true (t 15)
  (c AV.nilf)), Op2.mk (some 17) none (mov (t 16)), Op2.mk (some 18) (some (17, false)) (ld1 (t 6)), Op2.mk (some 19)
  (some (17, false)) (mov (t 10)), Op2.mk (some 20) (some (17, false)) (call (t 18) [t 19]), Op2.mk (some 21) none (pick (t 17)
  (c (AV.bool true)) (t 20))]).seq (C2.cond (t 21) (ops 0 [Op2.mk (some 22) none (ld1 (t 9)), Op2.mk (some 23) none (bin BinOp.add false false (t 22)
  (c (AV.int IntKind.i64 (1)))), Op2.mk none none (Ins.st 1 (t 9) (t 23))]) skip)).seq ((ops 0 [Op2.mk (some 24) none (ld1 (t 9)),
  Op2.mk (some 25) none (ld1 (t 7)), Op2.mk (some 26) none (bin BinOp.gtr false false (t 24) (t 25))]).seq (C2.cond (t 26)
  (exit 0) skip))))))).seq ((ops 0 [Op2.mk (some 27) none (ld1 (t 9)), Op2.mk (some 8) none (mov (t 27))]).seq ret)))))
theorem is82 : Is Try.prog 82 b82 := Is.mk' Try.func82 (by kernel_rfl)

/-- roundtable/library.each -/
def b83 : F2 := (F2.mk 6 [RV.t 4] ((ops 0 [Op2.mk (some 2) none (box (t 0)), Op2.mk (some 3) none (box (t 1)), Op2.mk (some 4) none (mov (c AV.nilf))]).seq ((ops 0 [Op2.mk (some 5)
  none (mkfn 113 [t 2, t 3]), Op2.mk (some 4) none (mov (t 5))]).seq ret)))
theorem is83 : Is Try.prog 83 b83 := Is.mk' Try.func83 (by kernel_rfl)

/-- roundtable/roundtableref12.cases -/
def b84 : F2 := (F2.mk 31 [RV.t 2] ((ops 0 [Op2.mk (some 1) none (box (t 0)), Op2.mk (some 2) none (mov (c (AV.int IntKind.i64 (0))))]).seq (((ops 0 [Op2.mk (some 5)
  none (fa 0 (t 1)), Op2.mk (some 6) none (ld1 (t 5)), Op2.mk (some 7) none (bin BinOp.neq false false (t 6) (c (AV.int IntKind.i64 (5))))]).seq (C2.cond (t 7)
  ((ops 0 [Op2.mk (some 8) none (fa 2 (t 1)), Op2.mk (some 9) none (ld1 (t 8)), Op2.mk (some 10) none (fa 1 (t 1)),
  Op2.mk (some 11) none (ld1 (t 10)), Op2.mk (some 12) none (call (c (AV.func 43 [])) [t 9, t 11, c (AV.int IntKind.i64 (1024))]),
  Op2.mk (some 2) none (mov (t 12))]).seq ret) skip)).seq ((ops 0 [Op2.mk (some 3) none (mov (c (AV.int IntKind.i64 (1))))]).seq (((ops 0 [Op2.mk (some 4)
  none (mov (c (AV.int IntKind.i64 (0))))]).seq (block 0 (((ops 0 [Op2.mk (some 13) none (mov (t 4)), Op2.mk (some 14)
  none (fa 1 (t 1)), Op2.mk (some 15) none (ld1 (t 14)), Op2.mk (some 16) none (bin BinOp.lss false false (t 13) (t 15)),
  Op2.mk (some 17) none (mov (t 16)), Op2.mk (some 18) (some (17, true)) (mov (t 3)), Op2.mk (some 19) (some (17,
  true)) (bin BinOp.leq false false (t 18) (c (AV.int IntKind.i64 (1024)))), Op2.mk (some 20) none (pick (t 17) (t 19)
  (c (AV.bool false)))]).seq (C2.cond (t 20) skip (exit 0))).seq ((block 1 (ops 0 [Op2.mk (some 23) none (mov (t 3)),
  Op2.mk (some 24) none (fa 2 (t 1)), Op2.mk (some 25) none (ld1 (t 24)), Op2.mk (some 26) none (mov (t 4)), Op2.mk (some 27)
  none (bin BinOp.sub false false (t 25) (t 26)), Op2.mk (some 28) none (mx (c (AV.int IntKind.i64 (0))) [t 27]),
  Op2.mk (some 29) none (bin BinOp.mul false false (t 23) (t 28)), Op2.mk (some 3) none (mov (t 29))])).seq (ops 0 [Op2.mk (some 21)
  none (mov (t 4)), Op2.mk (some 22) none (bin BinOp.add false false (t 21) (c (AV.int IntKind.i64 (1)))), Op2.mk (some 4)
  none (mov (t 22))]))).loop)).seq ((ops 0 [Op2.mk (some 30) none (mov (t 3)), Op2.mk (some 2) none (mov (t 30))]).seq ret))))))
theorem is84 : Is Try.prog 84 b84 := Is.mk' Try.func84 (by kernel_rfl)

/-- roundtable/roundtableref12.Every -/
def b85 : F2 := (F2.mk 42 [RV.t 4] ((ops 0 [Op2.mk (some 4) none (mov (c AV.esl))]).seq (((ops 0 [Op2.mk (some 10) none (mov (t 0)),
  Op2.mk (some 11) none (bin BinOp.eql false false (t 10) (c (AV.int IntKind.i64 (0))))]).seq (C2.cond (t 11) ((ops 0 [Op2.mk (some 12)
  none (bldS 1 1 [AV.esl] [(0, 1, c AV.esl)]), Op2.mk (some 4) none (mov (t 12))]).seq ret) skip)).seq ((ops 0 [Op2.mk (some 5)
  none (mov (c AV.esl))]).seq ((ops 0 [Op2.mk (some 13) none (mov (t 0)), Op2.mk (some 14) none (bin BinOp.sub false false (t 13)
  (c (AV.int IntKind.i64 (1)))), Op2.mk (some 15) none (mov (t 1)), Op2.mk (some 16) none (call (c (AV.func 85 []))
  [t 14, t 15]), Op2.mk (some 6) none (mov (t 16))]).seq (((ops 0 [Op2.mk (some 7) none (mov (c (AV.int IntKind.i64 (0))))]).seq (block 0 (((ops 0 [Op2.mk (some 17)
  none (mov (t 7)), Op2.mk (some 18) none (mov (t 1)), Op2.mk (some 19) none (bin BinOp.lss false false (t 17) (t 18))]).seq (C2.cond (t 19)
  skip (exit 0))).seq ((block 1 ((ops 0 [Op2.mk (some 8) none (mov (c (AV.int IntKind.i64 (0))))]).seq (block 2 (((ops 0 [Op2.mk (some 22)
  none (mov (t 8)), Op2.mk (some 23) none (mov (t 6)), Op2.mk (some 24) none (lenS (t 23)), Op2.mk (some 25) none (bin BinOp.lss false false (t 22)
  (t 24))]).seq (C2.cond (t 25) skip (exit 2))).seq ((block 3 ((ops 0 [Op2.mk (some 9) none (mov (c AV.esl))]).seq ((ops 0 [Op2.mk (some 28)
  none (mov (t 9)), Op2.mk (some 29) none (mov (t 7)), Op2.mk (some 30) none (bldS 1 1 [AV.int IntKind.i64 (0)] [(0,
  1, t 29)]), Op2.mk (some 31) none (app 1 8 (t 28) (t 30)), Op2.mk (some 9) none (mov (t 31))]).seq (ops 0 [Op2.mk (some 32)
  none (mov (t 5)), Op2.mk (some 33) none (mov (t 9)), Op2.mk (some 34) none (mov (t 6)), Op2.mk (some 35) none (mov (t 8)),
  Op2.mk (some 36) none (ixaS 1 (t 34) (t 35)), Op2.mk (some 37) none (ld1 (t 36)), Op2.mk (some 38) none (app 1 8 (t 33)
  (t 37)), Op2.mk (some 39) none (bldS 1 1 [AV.esl] [(0, 1, t 38)]), Op2.mk (some 40) none (app 1 24 (t 32) (t 39)),
  Op2.mk (some 5) none (mov (t 40))])))).seq (ops 0 [Op2.mk (some 26) none (mov (t 8)), Op2.mk (some 27) none (bin BinOp.add false false (t 26)
  (c (AV.int IntKind.i64 (1)))), Op2.mk (some 8) none (mov (t 27))]))).loop))).seq (ops 0 [Op2.mk (some 20) none (mov (t 7)),
  Op2.mk (some 21) none (bin BinOp.add false false (t 20) (c (AV.int IntKind.i64 (1)))), Op2.mk (some 7) none (mov (t 21))]))).loop)).seq ((ops 0 [Op2.mk (some 41)
  none (mov (t 5)), Op2.mk (some 4) none (mov (t 41))]).seq ret)))))))
theorem is85 : Is Try.prog 85 b85 := Is.mk' Try.func85 (by kernel_rfl)

/-- roundtable/roundtableref12.Case -/
def b86 : F2 := (F2.mk 15 [RV.t 4] ((ops 0 [Op2.mk (some 2) none (box (t 0)), Op2.mk (some 4) none (mov (c (AV.bool false)))]).seq ((ops 0 [Op2.mk (some 5)
  none (fa 0 (t 2)), Op2.mk (some 6) none (ld1 (t 5)), Op2.mk (some 7) none (bin BinOp.neq false false (t 6) (c (AV.int IntKind.i64 (5)))),
  Op2.mk (some 8) none (mov (t 7)), Op2.mk (some 9) (some (8, false)) (mov (t 1)), Op2.mk (some 10) (some (8, false))
  (call (c (AV.func 114 [])) [t 9]), Op2.mk (some 11) (some (8, false)) (mov (t 1)), Op2.mk (some 12) (some (8, false))
  (lenS (t 11)), Op2.mk (some 13) (some (8, false)) (bin BinOp.eql false false (t 10) (t 12)), Op2.mk (some 14) none (pick (t 8)
  (c (AV.bool true)) (t 13)), Op2.mk (some 4) none (mov (t 14))]).seq ret)))
theorem is86 : Is Try.prog 86 b86 := Is.mk' Try.func86 (by kernel_rfl)

/-- roundtable/roundtableref12.vectors -/
def b87 : F2 := (F2.mk 51 [RV.t 4, RV.t 5] ((ops 0 [Op2.mk (some 2) none (box (t 0)), Op2.mk (some 4) none (mov (c AV.esl)), Op2.mk (some 5)
  none (mov (c AV.esl))]).seq ((ops 0 [Op2.mk (some 6) none (mov (c AV.esl)), Op2.mk (some 7) none (mov (c AV.esl))]).seq ((ops 0 [Op2.mk (some 10)
  none (fa 1 (t 2)), Op2.mk (some 11) none (ld1 (t 10)), Op2.mk (some 12) none (fa 3 (t 2)), Op2.mk (some 13) none (ld1 (t 12)),
  Op2.mk (some 14) none (call (c (AV.func 85 [])) [t 11, t 13]), Op2.mk (some 8) none (mov (t 14))]).seq (((ops 0 [Op2.mk (some 9)
  none (mov (c (AV.int IntKind.i64 (0))))]).seq (block 0 (((ops 0 [Op2.mk (some 15) none (mov (t 9)), Op2.mk (some 16)
  none (mov (t 8)), Op2.mk (some 17) none (lenS (t 16)), Op2.mk (some 18) none (bin BinOp.lss false false (t 15) (t 17))]).seq (C2.cond (t 18)
  skip (exit 0))).seq ((block 1 ((ops 1 [Op2.mk (some 21) none (ldn 5 (t 2)), Op2.mk (some 22) none (mov (t 1)), Op2.mk (some 23)
  none (mov (t 8)), Op2.mk (some 24) none (mov (t 9)), Op2.mk (some 25) none (ixaS 1 (t 23) (t 24)), Op2.mk (some 26)
  none (ld1 (t 25)), Op2.mk (some 27) none (call (c (AV.func 115 [])) [t 21, t 22, t 26])]).seq (C2.cond (t 27) ((ops 0 [Op2.mk (some 28)
  none (mov (t 6)), Op2.mk (some 29) none (mov (t 8)), Op2.mk (some 30) none (mov (t 9)), Op2.mk (some 31) none (ixaS 1 (t 29)
  (t 30)), Op2.mk (some 32) none (ld1 (t 31)), Op2.mk (some 33) none (bldS 1 1 [AV.esl] [(0, 1, t 32)]), Op2.mk (some 34)
  none (app 1 24 (t 28) (t 33)), Op2.mk (some 6) none (mov (t 34))]).seq ((ops 1 [Op2.mk (some 35) none (ldn 5 (t 2)),
  Op2.mk (some 36) none (mov (t 1)), Op2.mk (some 37) none (mov (t 8)), Op2.mk (some 38) none (mov (t 9)), Op2.mk (some 39)
  none (ixaS 1 (t 37) (t 38)), Op2.mk (some 40) none (ld1 (t 39)), Op2.mk (some 41) none (call (c (AV.func 116 []))
  [t 35, t 36, t 40])]).seq (C2.cond (t 41) (ops 0 [Op2.mk (some 42) none (mov (t 7)), Op2.mk (some 43) none (mov (t 8)),
  Op2.mk (some 44) none (mov (t 9)), Op2.mk (some 45) none (ixaS 1 (t 43) (t 44)), Op2.mk (some 46) none (ld1 (t 45)),
  Op2.mk (some 47) none (bldS 1 1 [AV.esl] [(0, 1, t 46)]), Op2.mk (some 48) none (app 1 24 (t 42) (t 47)), Op2.mk (some 7)
  none (mov (t 48))]) skip))) skip))).seq (ops 0 [Op2.mk (some 19) none (mov (t 9)), Op2.mk (some 20) none (bin BinOp.add false false (t 19)
  (c (AV.int IntKind.i64 (1)))), Op2.mk (some 9) none (mov (t 20))]))).loop)).seq ((ops 0 [Op2.mk (some 49) none (mov (t 6)),
  Op2.mk (some 50) none (mov (t 7)), Op2.mk (some 4) none (mov (t 49)), Op2.mk (some 5) none (mov (t 50))]).seq ret))))))
theorem is87 : Is Try.prog 87 b87 := Is.mk' Try.func87 (by kernel_rfl)

/-- slices.IndexFunc[[]int,int] -/
def b88 : F2 := (F2.mk 19 [RV.t 4] ((ops 0 [Op2.mk (some 4) none (mov (c (AV.int IntKind.i64 (0))))]).seq (((ops 0 [Op2.mk (some 6)
  none (mov (t 0)), Op2.mk (some 7) none (lenS (t 6)), Op2.mk (some 8) none (mov (c (AV.int IntKind.i64 (0))))]).seq (block 0 ((ops 0 [Op2.mk (some 9)
  none (bin BinOp.lss false false (t 8) (t 7))]).seq ((C2.cond (t 9) skip (exit 0)).seq ((block 1 ((ops 0 [Op2.mk (some 10)
  none (mov (t 8)), Op2.mk (some 5) none (mov (t 10))]).seq ((ops 0 [Op2.mk (some 11) none (mov (t 1)), Op2.mk (some 12)
  none (mov (t 0)), Op2.mk (some 13) none (mov (t 5)), Op2.mk (some 14) none (ixaS 1 (t 12) (t 13)), Op2.mk (some 15)
  none (ld1 (t 14)), Op2.mk (some 16) none (call (t 11) [t 15])]).seq (C2.cond (t 16) ((ops 0 [Op2.mk (some 17) none (mov (t 5)),
  Op2.mk (some 4) none (mov (t 17))]).seq ret) skip)))).seq (ops 0 [Op2.mk (some 18) none (bin BinOp.add false false (t 8)
  (c (AV.int IntKind.i64 (1)))), Op2.mk (some 8) none (mov (t 18))])))).loop)).seq ((ops 0 [Op2.mk (some 4) none (mov (c (AV.int IntKind.i64 (-1))))]).seq ret))))
theorem is88 : Is Try.prog 88 b88 := Is.mk' Try.func88 (by kernel_rfl)

/-- roundtable/library.agreement$1 -/
def b89 : F2 := (F2.mk 16 [RV.t 5] ((ops 0 [Op2.mk (some 5) none (mov (c (AV.bool false)))]).seq ((ops 1 [Op2.mk (some 6) none (mov (t 1)),
  Op2.mk (some 7) none (call (c (AV.func 48 [])) [t 6]), Op2.mk (some 8) none (ld1 (t 2)), Op2.mk (some 9) none (mx (t 8)
  [c (AV.int IntKind.i64 (1))]), Op2.mk (some 10) none (bin BinOp.leq false false (t 7) (t 9)), Op2.mk (some 11) none (mov (t 10)),
  Op2.mk (some 12) (some (11, true)) (mov (t 0)), Op2.mk (some 13) (some (11, true)) (mov (t 1)), Op2.mk (some 14)
  (some (11, true)) (call (c (AV.func 90 [])) [t 12, t 13]), Op2.mk (some 15) none (pick (t 11) (t 14) (c (AV.bool false))),
  Op2.mk (some 5) none (mov (t 15))]).seq ret)))
theorem is89 : Is Try.prog 89 b89 := Is.mk' Try.func89 (by kernel_rfl)

/-- roundtable/library.chosen -/
def b90 : F2 := (F2.mk 9 [RV.t 4] ((ops 0 [Op2.mk (some 2) none (box (t 0)), Op2.mk (some 4) none (mov (c (AV.bool false)))]).seq ((ops 0 [Op2.mk (some 5)
  none (mov (t 1)), Op2.mk (some 6) none (mkfn 117 [t 2]), Op2.mk (some 7) none (call (c (AV.func 67 [])) [t 5, t 6]),
  Op2.mk (some 8) none (un UnOp.not (t 7)), Op2.mk (some 4) none (mov (t 8))]).seq ret)))
theorem is90 : Is Try.prog 90 b90 := Is.mk' Try.func90 (by kernel_rfl)

/-- roundtable/task.Check -/
def b96 : F2 := (F2.mk 83 [RV.t 2] ((ops 0 [Op2.mk (some 1) none (box (t 0)), Op2.mk (some 2) none (mov (c (AV.int IntKind.i64 (0))))]).seq ((block 0 (((ops 0 [Op2.mk (some 8)
  none (fa 0 (t 1)), Op2.mk (some 9) none (ld1 (t 8)), Op2.mk (some 10) none (bin BinOp.lss false false (t 9) (c (AV.int IntKind.i64 (1)))),
  Op2.mk (some 11) none (mov (t 10)), Op2.mk (some 12) (some (11, false)) (fa 0 (t 1)), Op2.mk (some 13) (some (11,
  false)) (ld1 (t 12)), Op2.mk (some 14) (some (11, false)) (bin BinOp.gtr false false (t 13) (c (AV.int IntKind.i64 (5)))),
  Op2.mk (some 15) none (pick (t 11) (c (AV.bool true)) (t 14)), Op2.mk (some 7) none (mov (t 15))]).seq (C2.cond (t 7)
  skip ((ops 0 [Op2.mk (some 16) none (fa 1 (t 1)), Op2.mk (some 17) none (ld1 (t 16)), Op2.mk (some 18) none (bin BinOp.lss false false (t 17)
  (c (AV.int IntKind.i64 (1)))), Op2.mk (some 19) none (mov (t 18)), Op2.mk (some 20) (some (19, false)) (fa 1 (t 1)),
  Op2.mk (some 21) (some (19, false)) (ld1 (t 20)), Op2.mk (some 22) (some (19, false)) (bin BinOp.gtr false false (t 21)
  (c (AV.int IntKind.i64 (8)))), Op2.mk (some 23) none (pick (t 19) (c (AV.bool true)) (t 22)), Op2.mk (some 7) none (mov (t 23))]).seq (C2.cond (t 7)
  skip (ops 0 [Op2.mk (some 24) none (fa 2 (t 1)), Op2.mk (some 25) none (ld1 (t 24)), Op2.mk (some 26) none (bin BinOp.lss false false (t 25)
  (c (AV.int IntKind.i64 (1)))), Op2.mk (some 27) none (mov (t 26)), Op2.mk (some 28) (some (27, false)) (fa 2 (t 1)),
  Op2.mk (some 29) (some (27, false)) (ld1 (t 28)), Op2.mk (some 30) (some (27, false)) (bin BinOp.gtr false false (t 29)
  (c (AV.int IntKind.i64 (8)))), Op2.mk (some 31) none (pick (t 27) (c (AV.bool true)) (t 30)), Op2.mk (some 7) none (mov (t 31))]))))).seq (C2.cond (t 7)
  ((ops 0 [Op2.mk (some 2) none (mov (c (AV.int IntKind.i64 (2))))]).seq ret) ((ops 0 [Op2.mk (some 33) none (fa 3 (t 1)),
  Op2.mk (some 34) none (ld1 (t 33)), Op2.mk (some 35) none (lenS (t 34)), Op2.mk (some 36) none (bin BinOp.lss false false (t 35)
  (c (AV.int IntKind.i64 (1)))), Op2.mk (some 37) none (mov (t 36)), Op2.mk (some 38) (some (37, false)) (fa 3 (t 1)),
  Op2.mk (some 39) (some (37, false)) (ld1 (t 38)), Op2.mk (some 40) (some (37, false)) (lenS (t 39)), Op2.mk (some 41)
  (some (37, false)) (bin BinOp.gtr false false (t 40) (c (AV.int IntKind.i64 (1024)))), Op2.mk (some 42) none (pick (t 37)
  (c (AV.bool true)) (t 41)), Op2.mk (some 32) none (mov (t 42))]).seq (C2.cond (t 32) ((ops 0 [Op2.mk (some 2) none (mov (c (AV.int IntKind.i64 (5))))]).seq ret)
  skip))))).seq (((ops 0 [Op2.mk (some 43) none (fa 3 (t 1)), Op2.mk (some 44) none (ld1 (t 43)), Op2.mk (some 45)
  none (lenS (t 44)), Op2.mk (some 46) none (mov (c (AV.int IntKind.i64 (0))))]).seq (block 1 ((ops 0 [Op2.mk (some 47)
  none (bin BinOp.lss false false (t 46) (t 45))]).seq ((C2.cond (t 47) skip (exit 1)).seq ((block 2 ((ops 0 [Op2.mk (some 48)
  none (mov (t 46)), Op2.mk (some 49) none (ixaS 3 (t 44) (t 46)), Op2.mk (some 50) none (ldn 3 (t 49)), Op2.mk (some 4)
  none (alloc (AV.agg [AV.esl, AV.esl, AV.esl])), Op2.mk (some 3) none (mov (t 48)), Op2.mk none none (Ins.st 3 (t 4)
  (t 50))]).seq (((ops 0 [Op2.mk (some 51) none (fa 0 (t 4)), Op2.mk (some 52) none (ld1 (t 51)), Op2.mk (some 53)
  none (fa 0 (t 1)), Op2.mk (some 54) none (ld1 (t 53)), Op2.mk (some 55) none (fa 1 (t 1)), Op2.mk (some 56) none (ld1 (t 55)),
  Op2.mk (some 57) none (call (c (AV.func 118 [])) [t 52, t 54, t 56]), Op2.mk (some 5) none (mov (t 57))]).seq ((ops 0 [Op2.mk (some 58)
  none (mov (t 5)), Op2.mk (some 59) none (bin BinOp.neq false false (t 58) (c (AV.int IntKind.i64 (0))))]).seq (C2.cond (t 59)
  ((ops 0 [Op2.mk (some 60) none (mov (t 5)), Op2.mk (some 2) none (mov (t 60))]).seq ret) skip))).seq (((ops 1 [Op2.mk (some 61)
  none (mov (t 3)), Op2.mk (some 62) none (bin BinOp.gtr false false (t 61) (c (AV.int IntKind.i64 (0)))), Op2.mk (some 63)
  none (mov (t 62)), Op2.mk (some 64) (some (63, true)) (fa 3 (t 1)), Op2.mk (some 65) (some (63, true)) (ld1 (t 64)),
  Op2.mk (some 66) (some (63, true)) (mov (t 3)), Op2.mk (some 67) (some (63, true)) (bin BinOp.sub false false (t 66)
  (c (AV.int IntKind.i64 (1)))), Op2.mk (some 68) (some (63, true)) (ixaS 3 (t 65) (t 67)), Op2.mk (some 69) (some (63,
  true)) (fa 0 (t 68)), Op2.mk (some 70) (some (63, true)) (ld1 (t 69)), Op2.mk (some 71) (some (63, true)) (fa 0 (t 4)),
  Op2.mk (some 72) (some (63, true)) (ld1 (t 71)), Op2.mk (some 73) (some (63, true)) (call (c (AV.func 119 [])) [t 70,
  t 72]), Op2.mk (some 74) (some (63, true)) (bin BinOp.geq false false (t 73) (c (AV.int IntKind.i64 (0)))), Op2.mk (some 75)
  none (pick (t 63) (t 74) (c (AV.bool false)))]).seq (C2.cond (t 75) ((ops 0 [Op2.mk (some 2) none (mov (c (AV.int IntKind.i64 (14))))]).seq ret)
  skip)).seq ((ops 0 [Op2.mk (some 76) none (ldn 4 (t 1)), Op2.mk (some 77) none (ldn 3 (t 4)), Op2.mk (some 78) none (call (c (AV.func 120 []))
  [t 76, t 77]), Op2.mk (some 6) none (mov (t 78))]).seq ((ops 0 [Op2.mk (some 79) none (mov (t 6)), Op2.mk (some 80)
  none (bin BinOp.neq false false (t 79) (c (AV.int IntKind.i64 (0))))]).seq (C2.cond (t 80) ((ops 0 [Op2.mk (some 81)
  none (mov (t 6)), Op2.mk (some 2) none (mov (t 81))]).seq ret) skip))))))).seq (ops 0 [Op2.mk (some 82) none (bin BinOp.add false false (t 46)
  (c (AV.int IntKind.i64 (1)))), Op2.mk (some 46) none (mov (t 82))])))).loop)).seq ((ops 0 [Op2.mk (some 2) none (mov (c (AV.int IntKind.i64 (0))))]).seq ret)))))
theorem is96 : Is Try.prog 96 b96 := Is.mk' Try.func96 (by kernel_rfl)

/-- math/bits.Mul64 -/
def b98 : F2 := (F2.mk 51 [RV.t 4, RV.t 5] ((ops 0 [Op2.mk (some 4) none (mov (c (AV.int IntKind.u64 (0)))), Op2.mk (some 5) none (mov (c (AV.int IntKind.u64 (0))))]).seq ((ops 0 [Op2.mk (some 14)
  none (mov (t 0)), Op2.mk (some 15) none (bin BinOp.and false false (t 14) (c (AV.int IntKind.u64 (4294967295)))),
  Op2.mk (some 6) none (mov (t 15))]).seq ((ops 0 [Op2.mk (some 16) none (mov (t 0)), Op2.mk (some 17) none (bin BinOp.shr false false (t 16)
  (c (AV.int IntKind.u64 (32)))), Op2.mk (some 7) none (mov (t 17))]).seq ((ops 0 [Op2.mk (some 18) none (mov (t 1)),
  Op2.mk (some 19) none (bin BinOp.and false false (t 18) (c (AV.int IntKind.u64 (4294967295)))), Op2.mk (some 8)
  none (mov (t 19))]).seq ((ops 0 [Op2.mk (some 20) none (mov (t 1)), Op2.mk (some 21) none (bin BinOp.shr false false (t 20)
  (c (AV.int IntKind.u64 (32)))), Op2.mk (some 9) none (mov (t 21))]).seq ((ops 0 [Op2.mk (some 22) none (mov (t 6)),
  Op2.mk (some 23) none (mov (t 8)), Op2.mk (some 24) none (bin BinOp.mul false false (t 22) (t 23)), Op2.mk (some 10)
  none (mov (t 24))]).seq ((ops 0 [Op2.mk (some 25) none (mov (t 7)), Op2.mk (some 26) none (mov (t 8)), Op2.mk (some 27)
  none (bin BinOp.mul false false (t 25) (t 26)), Op2.mk (some 28) none (mov (t 10)), Op2.mk (some 29) none (bin BinOp.shr false false (t 28)
  (c (AV.int IntKind.u64 (32)))), Op2.mk (some 30) none (bin BinOp.add false false (t 27) (t 29)), Op2.mk (some 11)
  none (mov (t 30))]).seq ((ops 0 [Op2.mk (some 31) none (mov (t 11)), Op2.mk (some 32) none (bin BinOp.and false false (t 31)
  (c (AV.int IntKind.u64 (4294967295)))), Op2.mk (some 12) none (mov (t 32))]).seq ((ops 0 [Op2.mk (some 33) none (mov (t 11)),
  Op2.mk (some 34) none (bin BinOp.shr false false (t 33) (c (AV.int IntKind.u64 (32)))), Op2.mk (some 13) none (mov (t 34))]).seq ((ops 0 [Op2.mk (some 35)
  none (mov (t 12)), Op2.mk (some 36) none (mov (t 6)), Op2.mk (some 37) none (mov (t 9)), Op2.mk (some 38) none (bin BinOp.mul false false (t 36)
  (t 37)), Op2.mk (some 39) none (bin BinOp.add false false (t 35) (t 38)), Op2.mk (some 12) none (mov (t 39))]).seq ((ops 0 [Op2.mk (some 40)
  none (mov (t 7)), Op2.mk (some 41) none (mov (t 9)), Op2.mk (some 42) none (bin BinOp.mul false false (t 40) (t 41)),
  Op2.mk (some 43) none (mov (t 13)), Op2.mk (some 44) none (bin BinOp.add false false (t 42) (t 43)), Op2.mk (some 45)
  none (mov (t 12)), Op2.mk (some 46) none (bin BinOp.shr false false (t 45) (c (AV.int IntKind.u64 (32)))), Op2.mk (some 47)
  none (bin BinOp.add false false (t 44) (t 46)), Op2.mk (some 4) none (mov (t 47))]).seq ((ops 0 [Op2.mk (some 48)
  none (mov (t 0)), Op2.mk (some 49) none (mov (t 1)), Op2.mk (some 50) none (bin BinOp.mul false false (t 48) (t 49)),
  Op2.mk (some 5) none (mov (t 50))]).seq ret)))))))))))))
theorem is98 : Is Try.prog 98 b98 := Is.mk' Try.func98 (by kernel_rfl)

/-- roundtable/library.each$1 -/
def b113 : F2 := (F2.mk 38 [] ((ops 0 [Op2.mk (some 6) none (ld1 (t 1)), Op2.mk (some 7) none (mks 1 8 [AV.int IntKind.i64 (0)] (t 6)
  (t 6)), Op2.mk (some 4) none (mov (t 7))]).seq (block 0 (block 1 (((ops 0 [Op2.mk (some 8) none (mov (t 0)), Op2.mk (some 9)
  none (mov (t 4)), Op2.mk (some 10) none (call (t 8) [t 9]), Op2.mk (some 11) none (un UnOp.not (t 10))]).seq (C2.cond (t 11)
  ret skip)).seq ((ops 0 [Op2.mk (some 12) none (ld1 (t 1)), Op2.mk (some 13) none (bin BinOp.sub false false (t 12)
  (c (AV.int IntKind.i64 (1)))), Op2.mk (some 5) none (mov (t 13))]).seq ((block 2 (((ops 1 [Op2.mk (some 14) none (mov (t 5)),
  Op2.mk (some 15) none (bin BinOp.geq false false (t 14) (c (AV.int IntKind.i64 (0)))), Op2.mk (some 16) none (mov (t 15)),
  Op2.mk (some 17) (some (16, true)) (mov (t 4)), Op2.mk (some 18) (some (16, true)) (mov (t 5)), Op2.mk (some 19)
  (some (16, true)) (ixaS 1 (t 17) (t 18)), Op2.mk (some 20) (some (16, true)) (ld1 (t 19)), Op2.mk (some 21) (some (16,
  true)) (ld1 (t 2)), Op2.mk (some 22) (some (16, true)) (bin BinOp.sub false false (t 21) (c (AV.int IntKind.i64 (1)))),
  Op2.mk (some 23) (some (16, true)) (bin BinOp.eql false false (t 20) (t 22)), Op2.mk (some 24) none (pick (t 16)
  (t 23) (c (AV.bool false)))]).seq (C2.cond (t 24) skip (exit 2))).seq (block 3 ((ops 0 [Op2.mk (some 25) none (mov (t 4)),
  Op2.mk (some 26) none (mov (t 5)), Op2.mk (some 27) none (ixaS 1 (t 25) (t 26)), Op2.mk none none (Ins.st 1 (t 27)
  (c (AV.int IntKind.i64 (0))))]).seq (ops 0 [Op2.mk (some 28) none (mov (t 5)), Op2.mk (some 29) none (bin BinOp.sub false false (t 28)
  (c (AV.int IntKind.i64 (1)))), Op2.mk (some 5) none (mov (t 29))])))).loop).seq (((ops 0 [Op2.mk (some 30) none (mov (t 5)),
  Op2.mk (some 31) none (bin BinOp.lss false false (t 30) (c (AV.int IntKind.i64 (0))))]).seq (C2.cond (t 31) ret skip)).seq (ops 0 [Op2.mk (some 32)
  none (mov (t 4)), Op2.mk (some 33) none (mov (t 5)), Op2.mk (some 34) none (ixaS 1 (t 32) (t 33)), Op2.mk (some 35)
  none (ld1 (t 34)), Op2.mk (some 36) none (bin BinOp.add false false (t 35) (c (AV.int IntKind.i64 (1)))), Op2.mk (some 37)
  none (ixaS 1 (t 32) (t 33)), Op2.mk none none (Ins.st 1 (t 37) (t 36))])))))).loop)))
theorem is113 : Is Try.prog 113 b113 := Is.mk' Try.func113 (by kernel_rfl)

/-- roundtable/roundtableref12.different -/
def b114 : F2 := (F2.mk 23 [RV.t 2] ((ops 0 [Op2.mk (some 2) none (mov (c (AV.int IntKind.i64 (0))))]).seq ((ops 0 [Op2.mk (some 3)
  none (mov (c (AV.int IntKind.i64 (0))))]).seq (((ops 0 [Op2.mk (some 4) none (mov (c (AV.int IntKind.i64 (0))))]).seq (block 0 (((ops 0 [Op2.mk (some 5)
  none (mov (t 4)), Op2.mk (some 6) none (mov (t 0)), Op2.mk (some 7) none (lenS (t 6)), Op2.mk (some 8) none (bin BinOp.lss false false (t 5)
  (t 7))]).seq (C2.cond (t 8) skip (exit 0))).seq ((block 1 ((ops 1 [Op2.mk (some 11) none (mov (t 0)), Op2.mk (some 12)
  none (mov (t 4)), Op2.mk (some 13) none (sls 1 (t 11) none (some (t 12)) none), Op2.mk (some 14) none (mov (t 0)),
  Op2.mk (some 15) none (mov (t 4)), Op2.mk (some 16) none (ixaS 1 (t 14) (t 15)), Op2.mk (some 17) none (ld1 (t 16)),
  Op2.mk (some 18) none (call (c (AV.func 129 [])) [t 13, t 17]), Op2.mk (some 19) none (un UnOp.not (t 18))]).seq (C2.cond (t 19)
  (ops 0 [Op2.mk (some 20) none (mov (t 3)), Op2.mk (some 21) none (bin BinOp.add false false (t 20) (c (AV.int IntKind.i64 (1)))),
  Op2.mk (some 3) none (mov (t 21))]) skip))).seq (ops 0 [Op2.mk (some 9) none (mov (t 4)), Op2.mk (some 10) none (bin BinOp.add false false (t 9)
  (c (AV.int IntKind.i64 (1)))), Op2.mk (some 4) none (mov (t 10))]))).loop)).seq ((ops 0 [Op2.mk (some 22) none (mov (t 3)),
  Op2.mk (some 2) none (mov (t 22))]).seq ret)))))
theorem is114 : Is Try.prog 114 b114 := Is.mk' Try.func114 (by kernel_rfl)

/-- roundtable/roundtableref12.Allowed -/
def b115 : F2 := (F2.mk 78 [RV.t 6] ((ops 0 [Op2.mk (some 3) none (box (t 0)), Op2.mk (some 6) none (mov (c (AV.bool false)))]).seq (((ops 0 [Op2.mk (some 9)
  none (fa 0 (t 3)), Op2.mk (some 10) none (ld1 (t 9))]).seq (block 0 ((ops 0 [Op2.mk (some 12) none (bin BinOp.eql false false (t 10)
  (c (AV.int IntKind.i64 (0)))), Op2.mk (some 11) none (mov (t 12))]).seq (C2.cond (t 11) ((ops 0 [Op2.mk (some 13)
  none (ldn 5 (t 3)), Op2.mk (some 14) none (mov (t 1)), Op2.mk (some 15) none (mov (t 2)), Op2.mk (some 16) none (call (c (AV.func 130 []))
  [t 13, t 14, t 15]), Op2.mk (some 6) none (mov (t 16))]).seq ret) ((ops 0 [Op2.mk (some 18) none (bin BinOp.eql false false (t 10)
  (c (AV.int IntKind.i64 (1)))), Op2.mk (some 17) none (mov (t 18))]).seq (C2.cond (t 17) ((ops 0 [Op2.mk (some 19)
  none (mov (t 2)), Op2.mk (some 20) none (call (c (AV.func 131 [])) [t 19, c (AV.int IntKind.i64 (0))]), Op2.mk (some 21)
  none (mov (t 20)), Op2.mk (some 22) (some (21, false)) (mov (t 2)), Op2.mk (some 23) (some (21, false)) (call (c (AV.func 131 []))
  [t 22, c (AV.int IntKind.i64 (1))]), Op2.mk (some 24) (some (21, false)) (mov (t 23)), Op2.mk (some 25) (some (24,
  true)) (mov (t 1)), Op2.mk (some 26) (some (24, true)) (call (c (AV.func 129 [])) [t 25, c (AV.int IntKind.i64 (0))]),
  Op2.mk (some 27) (some (24, true)) (un UnOp.not (t 26)), Op2.mk (some 28) (some (21, false)) (pick (t 24) (t 27)
  (c (AV.bool false))), Op2.mk (some 29) none (pick (t 21) (c (AV.bool true)) (t 28)), Op2.mk (some 6) none (mov (t 29))]).seq ret)
  ((ops 0 [Op2.mk (some 31) none (bin BinOp.eql false false (t 10) (c (AV.int IntKind.i64 (2)))), Op2.mk (some 30)
  none (mov (t 31))]).seq (C2.cond (t 30) ((ops 0 [Op2.mk (some 32) none (mov (t 2)), Op2.mk (some 33) none (call (c (AV.func 114 []))
  [t 32]), Op2.mk (some 34) none (bin BinOp.eql false false (t 33) (c (AV.int IntKind.i64 (1)))), Op2.mk (some 35)
  none (mov (t 34)), Op2.mk (some 36) (some (35, true)) (mov (t 1)), Op2.mk (some 37) (some (35, true)) (mov (t 2)),
  Op2.mk (some 38) (some (35, true)) (call (c (AV.func 132 [])) [t 36, t 37]), Op2.mk (some 39) none (pick (t 35)
  (t 38) (c (AV.bool false))), Op2.mk (some 6) none (mov (t 39))]).seq ret) ((ops 0 [Op2.mk (some 41) none (bin BinOp.eql false false (t 10)
  (c (AV.int IntKind.i64 (3)))), Op2.mk (some 40) none (mov (t 41))]).seq (C2.cond (t 40) ((ops 0 [Op2.mk (some 42)
  none (ldn 5 (t 3)), Op2.mk (some 43) none (mov (t 2)), Op2.mk (some 44) none (call (c (AV.func 133 [])) [t 42, t 43]),
  Op2.mk (some 6) none (mov (t 44))]).seq ret) ((ops 0 [Op2.mk (some 46) none (bin BinOp.eql false false (t 10) (c (AV.int IntKind.i64 (4)))),
  Op2.mk (some 45) none (mov (t 46))]).seq (C2.cond (t 45) ((ops 0 [Op2.mk (some 7) none (mov (c (AV.int IntKind.i64 (0))))]).seq (((ops 0 [Op2.mk (some 8)
  none (mov (c (AV.int IntKind.i64 (0))))]).seq (block 1 (((ops 0 [Op2.mk (some 47) none (mov (t 8)), Op2.mk (some 48)
  none (mov (t 2)), Op2.mk (some 49) none (lenS (t 48)), Op2.mk (some 50) none (bin BinOp.lss false false (t 47) (t 49))]).seq (C2.cond (t 50)
  skip (exit 1))).seq ((block 2 (ops 0 [Op2.mk (some 53) none (mov (t 7)), Op2.mk (some 54) none (mov (t 2)), Op2.mk (some 55)
  none (mov (t 8)), Op2.mk (some 56) none (ixaS 1 (t 54) (t 55)), Op2.mk (some 57) none (ld1 (t 56)), Op2.mk (some 58)
  none (bin BinOp.add false false (t 53) (t 57)), Op2.mk (some 7) none (mov (t 58))])).seq (ops 0 [Op2.mk (some 51)
  none (mov (t 8)), Op2.mk (some 52) none (bin BinOp.add false false (t 51) (c (AV.int IntKind.i64 (1)))), Op2.mk (some 8)
  none (mov (t 52))]))).loop)).seq ((ops 0 [Op2.mk (some 59) none (mov (t 7)), Op2.mk (some 60) none (bin BinOp.eql false false (t 59)
  (c (AV.int IntKind.i64 (1)))), Op2.mk (some 6) none (mov (t 60))]).seq ret))) ((ops 0 [Op2.mk (some 62) none (bin BinOp.eql false false (t 10)
  (c (AV.int IntKind.i64 (5)))), Op2.mk (some 61) none (mov (t 62))]).seq (C2.cond (t 61) ((ops 0 [Op2.mk (some 63)
  none (mov (t 2)), Op2.mk (some 64) none (call (c (AV.func 114 [])) [t 63]), Op2.mk (some 65) none (mov (t 2)), Op2.mk (some 66)
  none (lenS (t 65)), Op2.mk (some 67) none (bin BinOp.eql false false (t 64) (t 66)), Op2.mk (some 6) none (mov (t 67))]).seq ret)
  skip)))))))))))))).seq ((ops 1 [Op2.mk (some 68) none (mov (t 2)), Op2.mk (some 69) none (call (c (AV.func 114 []))
  [t 68]), Op2.mk (some 70) none (fa 4 (t 3)), Op2.mk (some 71) none (ld1 (t 70)), Op2.mk (some 72) none (bin BinOp.leq false false (t 69)
  (t 71)), Op2.mk (some 73) none (mov (t 72)), Op2.mk (some 74) (some (73, true)) (mov (t 1)), Op2.mk (some 75) (some (73,
  true)) (mov (t 2)), Op2.mk (some 76) (some (73, true)) (call (c (AV.func 132 [])) [t 74, t 75]), Op2.mk (some 77)
  none (pick (t 73) (t 76) (c (AV.bool false))), Op2.mk (some 6) none (mov (t 77))]).seq ret))))
theorem is115 : Is Try.prog 115 b115 := Is.mk' Try.func115 (by kernel_rfl)

/-- roundtable/roundtableref12.Calm -/
def b116 : F2 := (F2.mk 33 [RV.t 6] ((ops 0 [Op2.mk (some 3) none (box (t 0)), Op2.mk (some 6) none (mov (c (AV.bool false)))]).seq (((ops 0 [Op2.mk (some 7)
  none (fa 0 (t 3)), Op2.mk (some 8) none (ld1 (t 7))]).seq (block 0 ((ops 0 [Op2.mk (some 10) none (bin BinOp.eql false false (t 8)
  (c (AV.int IntKind.i64 (1)))), Op2.mk (some 9) none (mov (t 10))]).seq (C2.cond (t 9) ((ops 0 [Op2.mk (some 11)
  none (mov (t 1)), Op2.mk (some 12) none (call (c (AV.func 129 [])) [t 11, c (AV.int IntKind.i64 (0))]), Op2.mk (some 13)
  none (mov (t 12)), Op2.mk (some 14) (some (13, true)) (mov (t 2)), Op2.mk (some 15) (some (13, true)) (call (c (AV.func 131 []))
  [t 14, c (AV.int IntKind.i64 (0))]), Op2.mk (some 16) none (pick (t 13) (t 15) (c (AV.bool false))), Op2.mk (some 17)
  none (mov (t 16)), Op2.mk (some 18) (some (17, false)) (mov (t 1)), Op2.mk (some 19) (some (17, false)) (call (c (AV.func 129 []))
  [t 18, c (AV.int IntKind.i64 (0))]), Op2.mk (some 20) (some (17, false)) (un UnOp.not (t 19)), Op2.mk (some 21)
  (some (17, false)) (mov (t 20)), Op2.mk (some 22) (some (21, true)) (mov (t 2)), Op2.mk (some 23) (some (21, true))
  (call (c (AV.func 131 [])) [t 22, c (AV.int IntKind.i64 (1))]), Op2.mk (some 24) (some (17, false)) (pick (t 21)
  (t 23) (c (AV.bool false))), Op2.mk (some 25) none (pick (t 17) (c (AV.bool true)) (t 24)), Op2.mk (some 6) none (mov (t 25))]).seq ret)
  ((ops 0 [Op2.mk (some 27) none (bin BinOp.eql false false (t 8) (c (AV.int IntKind.i64 (3)))), Op2.mk (some 26)
  none (mov (t 27))]).seq (C2.cond (t 26) ((ops 0 [Op2.mk (some 28) none (mov (t 2)), Op2.mk (some 29) none (mov (t 1)),
  Op2.mk (some 30) none (ixaS 1 (t 29) (c (AV.int IntKind.i64 (0)))), Op2.mk (some 31) none (ld1 (t 30)), Op2.mk (some 32)
  none (call (c (AV.func 131 [])) [t 28, t 31]), Op2.mk (some 6) none (mov (t 32))]).seq ret) skip)))))).seq ((ops 0 [Op2.mk (some 6)
  none (mov (c (AV.bool false)))]).seq ret))))
theorem is116 : Is Try.prog 116 b116 := Is.mk' Try.func116 (by kernel_rfl)

/-- roundtable/library.chosen$1 -/
def b117 : F2 := (F2.mk 8 [RV.t 3] ((ops 0 [Op2.mk (some 3) none (mov (c (AV.bool false)))]).seq ((ops 0 [Op2.mk (some 4) none (ld1 (t 1)),
  Op2.mk (some 5) none (mov (t 0)), Op2.mk (some 6) none (call (c (AV.func 28 [])) [t 4, t 5]), Op2.mk (some 7) none (un UnOp.not (t 6)),
  Op2.mk (some 3) none (mov (t 7))]).seq ret)))
theorem is117 : Is Try.prog 117 b117 := Is.mk' Try.func117 (by kernel_rfl)

/-- roundtable/task.vector -/
def b118 : F2 := (F2.mk 14 [RV.t 6] ((ops 0 [Op2.mk (some 5) none (box (t 2)), Op2.mk (some 6) none (mov (c (AV.int IntKind.i64 (0))))]).seq (((ops 0 [Op2.mk (some 7)
  none (mov (t 0)), Op2.mk (some 8) none (lenS (t 7)), Op2.mk (some 9) none (mov (t 1)), Op2.mk (some 10) none (bin BinOp.neq false false (t 8)
  (t 9))]).seq (C2.cond (t 10) ((ops 0 [Op2.mk (some 6) none (mov (c (AV.int IntKind.i64 (15))))]).seq ret) skip)).seq (((ops 0 [Op2.mk (some 11)
  none (mov (t 0)), Op2.mk (some 12) none (mkfn 134 [t 5]), Op2.mk (some 13) none (call (c (AV.func 67 [])) [t 11,
  t 12])]).seq (C2.cond (t 13) ((ops 0 [Op2.mk (some 6) none (mov (c (AV.int IntKind.i64 (2))))]).seq ret) skip)).seq ((ops 0 [Op2.mk (some 6)
  none (mov (c (AV.int IntKind.i64 (0))))]).seq ret)))))
theorem is118 : Is Try.prog 118 b118 := Is.mk' Try.func118 (by kernel_rfl)

/-- slices.Compare[[]int,int] -/
def b119 : F2 := (F2.mk 36 [RV.t 4] ((ops 0 [Op2.mk (some 4) none (mov (c (AV.int IntKind.i64 (0))))]).seq (((ops 0 [Op2.mk (some 9)
  none (mov (t 0)), Op2.mk (some 10) none (lenS (t 9)), Op2.mk (some 11) none (mov (c (AV.int IntKind.i64 (0))))]).seq (block 0 ((ops 0 [Op2.mk (some 12)
  none (bin BinOp.lss false false (t 11) (t 10))]).seq ((C2.cond (t 12) skip (exit 0)).seq ((block 1 ((ops 0 [Op2.mk (some 13)
  none (mov (t 11)), Op2.mk (some 14) none (ixaS 1 (t 9) (t 11)), Op2.mk (some 15) none (ld1 (t 14)), Op2.mk (some 5)
  none (mov (t 13)), Op2.mk (some 6) none (mov (t 15))]).seq (((ops 0 [Op2.mk (some 16) none (mov (t 5)), Op2.mk (some 17)
  none (mov (t 1)), Op2.mk (some 18) none (lenS (t 17)), Op2.mk (some 19) none (bin BinOp.geq false false (t 16) (t 18))]).seq (C2.cond (t 19)
  ((ops 0 [Op2.mk (some 4) none (mov (c (AV.int IntKind.i64 (1))))]).seq ret) skip)).seq ((ops 0 [Op2.mk (some 20)
  none (mov (t 1)), Op2.mk (some 21) none (mov (t 5)), Op2.mk (some 22) none (ixaS 1 (t 20) (t 21)), Op2.mk (some 23)
  none (ld1 (t 22)), Op2.mk (some 7) none (mov (t 23))]).seq ((ops 0 [Op2.mk (some 24) none (mov (t 6)), Op2.mk (some 25)
  none (mov (t 7)), Op2.mk (some 26) none (call (c (AV.func 135 [])) [t 24, t 25]), Op2.mk (some 8) none (mov (t 26))]).seq ((ops 0 [Op2.mk (some 27)
  none (mov (t 8)), Op2.mk (some 28) none (bin BinOp.neq false false (t 27) (c (AV.int IntKind.i64 (0))))]).seq (C2.cond (t 28)
  ((ops 0 [Op2.mk (some 29) none (mov (t 8)), Op2.mk (some 4) none (mov (t 29))]).seq ret) skip))))))).seq (ops 0 [Op2.mk (some 30)
  none (bin BinOp.add false false (t 11) (c (AV.int IntKind.i64 (1)))), Op2.mk (some 11) none (mov (t 30))])))).loop)).seq (((ops 0 [Op2.mk (some 31)
  none (mov (t 0)), Op2.mk (some 32) none (lenS (t 31)), Op2.mk (some 33) none (mov (t 1)), Op2.mk (some 34) none (lenS (t 33)),
  Op2.mk (some 35) none (bin BinOp.lss false false (t 32) (t 34))]).seq (C2.cond (t 35) ((ops 0 [Op2.mk (some 4) none (mov (c (AV.int IntKind.i64 (-1))))]).seq ret)
  skip)).seq ((ops 0 [Op2.mk (some 4) none (mov (c (AV.int IntKind.i64 (0))))]).seq ret)))))
theorem is119 : Is Try.prog 119 b119 := Is.mk' Try.func119 (by kernel_rfl)

/-- roundtable/task.vectors -/
def b120 : F2 := (F2.mk 60 [RV.t 4] ((ops 0 [Op2.mk (some 2) none (box (t 0)), Op2.mk (some 3) none (box (t 1)), Op2.mk (some 4)
  none (mov (c (AV.int IntKind.i64 (0))))]).seq (((ops 0 [Op2.mk (some 10) none (fa 1 (t 3)), Op2.mk (some 11) none (ld1 (t 10)),
  Op2.mk (some 12) none (lenS (t 11)), Op2.mk (some 13) none (bin BinOp.lss false false (t 12) (c (AV.int IntKind.i64 (1)))),
  Op2.mk (some 14) none (mov (t 13)), Op2.mk (some 15) (some (14, false)) (fa 1 (t 3)), Op2.mk (some 16) (some (14,
  false)) (ld1 (t 15)), Op2.mk (some 17) (some (14, false)) (lenS (t 16)), Op2.mk (some 18) (some (14, false)) (bin BinOp.gtr false false (t 17)
  (c (AV.int IntKind.i64 (1024)))), Op2.mk (some 19) none (pick (t 14) (c (AV.bool true)) (t 18))]).seq (C2.cond (t 19)
  ((ops 0 [Op2.mk (some 4) none (mov (c (AV.int IntKind.i64 (5))))]).seq ret) skip)).seq (((ops 0 [Op2.mk (some 20)
  none (fa 1 (t 3)), Op2.mk (some 21) none (ld1 (t 20)), Op2.mk (some 22) none (lenS (t 21)), Op2.mk (some 23) none (mov (c (AV.int IntKind.i64 (0))))]).seq (block 0 ((ops 0 [Op2.mk (some 24)
  none (bin BinOp.lss false false (t 23) (t 22))]).seq ((C2.cond (t 24) skip (exit 0)).seq ((block 1 ((ops 0 [Op2.mk (some 25)
  none (mov (t 23)), Op2.mk (some 26) none (ixaS 1 (t 21) (t 23)), Op2.mk (some 27) none (ld1 (t 26)), Op2.mk (some 5)
  none (mov (t 25)), Op2.mk (some 6) none (mov (t 27))]).seq (((ops 0 [Op2.mk (some 28) none (mov (t 6)), Op2.mk (some 29)
  none (fa 0 (t 2)), Op2.mk (some 30) none (ld1 (t 29)), Op2.mk (some 31) none (fa 2 (t 2)), Op2.mk (some 32) none (ld1 (t 31)),
  Op2.mk (some 33) none (call (c (AV.func 118 [])) [t 28, t 30, t 32]), Op2.mk (some 7) none (mov (t 33))]).seq ((ops 0 [Op2.mk (some 34)
  none (mov (t 7)), Op2.mk (some 35) none (bin BinOp.neq false false (t 34) (c (AV.int IntKind.i64 (0))))]).seq (C2.cond (t 35)
  ((ops 0 [Op2.mk (some 36) none (mov (t 7)), Op2.mk (some 4) none (mov (t 36))]).seq ret) skip))).seq ((ops 0 [Op2.mk (some 37)
  none (fa 1 (t 3)), Op2.mk (some 38) none (ld1 (t 37)), Op2.mk (some 39) none (mov (t 5)), Op2.mk (some 40) none (call (c (AV.func 136 []))
  [t 38, t 39])]).seq (C2.cond (t 40) ((ops 0 [Op2.mk (some 4) none (mov (c (AV.int IntKind.i64 (14))))]).seq ret)
  skip))))).seq (ops 0 [Op2.mk (some 41) none (bin BinOp.add false false (t 23) (c (AV.int IntKind.i64 (1)))), Op2.mk (some 23)
  none (mov (t 41))])))).loop)).seq (((ops 0 [Op2.mk (some 42) none (fa 2 (t 3)), Op2.mk (some 43) none (ld1 (t 42)),
  Op2.mk (some 44) none (lenS (t 43)), Op2.mk (some 45) none (mov (c (AV.int IntKind.i64 (0))))]).seq (block 2 ((ops 0 [Op2.mk (some 46)
  none (bin BinOp.lss false false (t 45) (t 44))]).seq ((C2.cond (t 46) skip (exit 2)).seq ((block 3 ((ops 0 [Op2.mk (some 47)
  none (mov (t 45)), Op2.mk (some 48) none (ixaS 1 (t 43) (t 45)), Op2.mk (some 49) none (ld1 (t 48)), Op2.mk (some 8)
  none (mov (t 47)), Op2.mk (some 9) none (mov (t 49))]).seq (((ops 0 [Op2.mk (some 50) none (fa 1 (t 3)), Op2.mk (some 51)
  none (ld1 (t 50)), Op2.mk (some 52) none (mov (t 9)), Op2.mk (some 53) none (call (c (AV.func 137 [])) [t 51, t 52]),
  Op2.mk (some 54) none (un UnOp.not (t 53))]).seq (C2.cond (t 54) ((ops 0 [Op2.mk (some 4) none (mov (c (AV.int IntKind.i64 (6))))]).seq ret)
  skip)).seq ((ops 0 [Op2.mk (some 55) none (fa 2 (t 3)), Op2.mk (some 56) none (ld1 (t 55)), Op2.mk (some 57) none (mov (t 8)),
  Op2.mk (some 58) none (call (c (AV.func 136 [])) [t 56, t 57])]).seq (C2.cond (t 58) ((ops 0 [Op2.mk (some 4) none (mov (c (AV.int IntKind.i64 (14))))]).seq ret)
  skip))))).seq (ops 0 [Op2.mk (some 59) none (bin BinOp.add false false (t 45) (c (AV.int IntKind.i64 (1)))), Op2.mk (some 45)
  none (mov (t 59))])))).loop)).seq ((ops 0 [Op2.mk (some 4) none (mov (c (AV.int IntKind.i64 (0))))]).seq ret))))))
theorem is120 : Is Try.prog 120 b120 := Is.mk' Try.func120 (by kernel_rfl)

/-- cmp.isNaN[int] -/
def b126 : F2 := (F2.mk 6 [RV.t 2] ((ops 0 [Op2.mk (some 2) none (mov (c (AV.bool false)))]).seq ((ops 0 [Op2.mk (some 3) none (mov (t 0)),
  Op2.mk (some 4) none (mov (t 0)), Op2.mk (some 5) none (bin BinOp.neq false false (t 3) (t 4)), Op2.mk (some 2)
  none (mov (t 5))]).seq ret)))
theorem is126 : Is Try.prog 126 b126 := Is.mk' Try.func126 (by kernel_rfl)

/-- roundtable/roundtableref12.occurs -/
def b129 : F2 := (F2.mk 18 [RV.t 4] ((ops 0 [Op2.mk (some 4) none (mov (c (AV.bool false)))]).seq (((ops 0 [Op2.mk (some 5) none (mov (c (AV.int IntKind.i64 (0))))]).seq (block 0 (((ops 0 [Op2.mk (some 6)
  none (mov (t 5)), Op2.mk (some 7) none (mov (t 0)), Op2.mk (some 8) none (lenS (t 7)), Op2.mk (some 9) none (bin BinOp.lss false false (t 6)
  (t 8))]).seq (C2.cond (t 9) skip (exit 0))).seq ((block 1 ((ops 0 [Op2.mk (some 12) none (mov (t 0)), Op2.mk (some 13)
  none (mov (t 5)), Op2.mk (some 14) none (ixaS 1 (t 12) (t 13)), Op2.mk (some 15) none (ld1 (t 14)), Op2.mk (some 16)
  none (mov (t 1)), Op2.mk (some 17) none (bin BinOp.eql false false (t 15) (t 16))]).seq (C2.cond (t 17) ((ops 0 [Op2.mk (some 4)
  none (mov (c (AV.bool true)))]).seq ret) skip))).seq (ops 0 [Op2.mk (some 10) none (mov (t 5)), Op2.mk (some 11)
  none (bin BinOp.add false false (t 10) (c (AV.int IntKind.i64 (1)))), Op2.mk (some 5) none (mov (t 11))]))).loop)).seq ((ops 0 [Op2.mk (some 4)
  none (mov (c (AV.bool false)))]).seq ret))))
theorem is129 : Is Try.prog 129 b129 := Is.mk' Try.func129 (by kernel_rfl)

/-- roundtable/roundtableref12.near -/
def b130 : F2 := (F2.mk 22 [RV.t 6] ((ops 0 [Op2.mk (some 3) none (box (t 0)), Op2.mk (some 6) none (mov (c (AV.bool false)))]).seq (((ops 0 [Op2.mk (some 7)
  none (mov (t 1)), Op2.mk (some 8) none (call (c (AV.func 114 [])) [t 7]), Op2.mk (some 9) none (bin BinOp.eql false false (t 8)
  (c (AV.int IntKind.i64 (1))))]).seq (C2.cond (t 9) ((ops 1 [Op2.mk (some 10) none (mov (t 2)), Op2.mk (some 11)
  none (mov (t 1)), Op2.mk (some 12) none (ixaS 1 (t 11) (c (AV.int IntKind.i64 (0)))), Op2.mk (some 13) none (ld1 (t 12)),
  Op2.mk (some 14) none (fa 3 (t 3)), Op2.mk (some 15) none (ld1 (t 14)), Op2.mk (some 16) none (bin BinOp.sub false false (t 15)
  (c (AV.int IntKind.i64 (1)))), Op2.mk (some 17) none (bin BinOp.mul false false (t 13) (t 16)), Op2.mk (some 18)
  none (call (c (AV.func 131 [])) [t 10, t 17]), Op2.mk (some 6) none (mov (t 18))]).seq ret) skip)).seq ((ops 0 [Op2.mk (some 19)
  none (mov (t 2)), Op2.mk (some 20) none (call (c (AV.func 148 [])) [t 19]), Op2.mk (some 21) none (bin BinOp.leq false false (t 20)
  (c (AV.int IntKind.i64 (1)))), Op2.mk (some 6) none (mov (t 21))]).seq ret))))
theorem is130 : Is Try.prog 130 b130 := Is.mk' Try.func130 (by kernel_rfl)

/-- roundtable/roundtableref12.all -/
def b131 : F2 := (F2.mk 15 [RV.t 4] ((ops 0 [Op2.mk (some 4) none (mov (c (AV.bool false)))]).seq ((ops 0 [Op2.mk (some 5) none (mov (t 0)),
  Op2.mk (some 6) none (call (c (AV.func 114 [])) [t 5]), Op2.mk (some 7) none (bin BinOp.eql false false (t 6) (c (AV.int IntKind.i64 (1)))),
  Op2.mk (some 8) none (mov (t 7)), Op2.mk (some 9) (some (8, true)) (mov (t 0)), Op2.mk (some 10) (some (8, true))
  (ixaS 1 (t 9) (c (AV.int IntKind.i64 (0)))), Op2.mk (some 11) (some (8, true)) (ld1 (t 10)), Op2.mk (some 12) (some (8,
  true)) (mov (t 1)), Op2.mk (some 13) (some (8, true)) (bin BinOp.eql false false (t 11) (t 12)), Op2.mk (some 14)
  none (pick (t 8) (t 13) (c (AV.bool false))), Op2.mk (some 4) none (mov (t 14))]).seq ret)))
theorem is131 : Is Try.prog 131 b131 := Is.mk' Try.func131 (by kernel_rfl)

/-- roundtable/roundtableref12.chosen -/
def b132 : F2 := (F2.mk 19 [RV.t 4] ((ops 0 [Op2.mk (some 4) none (mov (c (AV.bool false)))]).seq (((ops 0 [Op2.mk (some 5) none (mov (c (AV.int IntKind.i64 (0))))]).seq (block 0 (((ops 0 [Op2.mk (some 6)
  none (mov (t 5)), Op2.mk (some 7) none (mov (t 1)), Op2.mk (some 8) none (lenS (t 7)), Op2.mk (some 9) none (bin BinOp.lss false false (t 6)
  (t 8))]).seq (C2.cond (t 9) skip (exit 0))).seq ((block 1 ((ops 0 [Op2.mk (some 12) none (mov (t 0)), Op2.mk (some 13)
  none (mov (t 1)), Op2.mk (some 14) none (mov (t 5)), Op2.mk (some 15) none (ixaS 1 (t 13) (t 14)), Op2.mk (some 16)
  none (ld1 (t 15)), Op2.mk (some 17) none (call (c (AV.func 129 [])) [t 12, t 16]), Op2.mk (some 18) none (un UnOp.not (t 17))]).seq (C2.cond (t 18)
  ((ops 0 [Op2.mk (some 4) none (mov (c (AV.bool false)))]).seq ret) skip))).seq (ops 0 [Op2.mk (some 10) none (mov (t 5)),
  Op2.mk (some 11) none (bin BinOp.add false false (t 10) (c (AV.int IntKind.i64 (1)))), Op2.mk (some 5) none (mov (t 11))]))).loop)).seq ((ops 0 [Op2.mk (some 4)
  none (mov (c (AV.bool true)))]).seq ret))))
theorem is132 : Is Try.prog 132 b132 := Is.mk' Try.func132 (by kernel_rfl)

/-- roundtable/roundtableref12.honest -/
def b133 : F2 := (F2.mk 45 [RV.t 4] ((ops 0 [Op2.mk (some 2) none (box (t 0)), Op2.mk (some 4) none (mov (c (AV.bool false)))]).seq (((ops 0 [Op2.mk (some 5)
  none (mov (c (AV.int IntKind.i64 (0))))]).seq (block 0 (((ops 0 [Op2.mk (some 7) none (mov (t 5)), Op2.mk (some 8)
  none (mov (t 1)), Op2.mk (some 9) none (lenS (t 8)), Op2.mk (some 10) none (bin BinOp.lss false false (t 7) (t 9))]).seq (C2.cond (t 10)
  skip (exit 0))).seq ((block 1 ((ops 0 [Op2.mk (some 6) none (mov (c (AV.int IntKind.i64 (0))))]).seq (block 2 (((ops 0 [Op2.mk (some 13)
  none (mov (t 6)), Op2.mk (some 14) none (mov (t 5)), Op2.mk (some 15) none (bin BinOp.lss false false (t 13) (t 14))]).seq (C2.cond (t 15)
  skip (exit 2))).seq ((block 3 ((ops 1 [Op2.mk (some 18) none (mov (t 1)), Op2.mk (some 19) none (mov (t 5)), Op2.mk (some 20)
  none (ixaS 1 (t 18) (t 19)), Op2.mk (some 21) none (ld1 (t 20)), Op2.mk (some 22) none (fa 2 (t 2)), Op2.mk (some 23)
  none (ld1 (t 22)), Op2.mk (some 24) none (bin BinOp.lss false false (t 21) (t 23)), Op2.mk (some 25) none (mov (t 24)),
  Op2.mk (some 26) (some (25, true)) (mov (t 1)), Op2.mk (some 27) (some (25, true)) (mov (t 6)), Op2.mk (some 28)
  (some (25, true)) (ixaS 1 (t 26) (t 27)), Op2.mk (some 29) (some (25, true)) (ld1 (t 28)), Op2.mk (some 30) (some (25,
  true)) (fa 2 (t 2)), Op2.mk (some 31) (some (25, true)) (ld1 (t 30)), Op2.mk (some 32) (some (25, true)) (bin BinOp.lss false false (t 29)
  (t 31)), Op2.mk (some 33) none (pick (t 25) (t 32) (c (AV.bool false))), Op2.mk (some 34) none (mov (t 33)), Op2.mk (some 35)
  (some (34, true)) (mov (t 1)), Op2.mk (some 36) (some (34, true)) (mov (t 5)), Op2.mk (some 37) (some (34, true))
  (ixaS 1 (t 35) (t 36)), Op2.mk (some 38) (some (34, true)) (ld1 (t 37)), Op2.mk (some 39) (some (34, true)) (mov (t 1)),
  Op2.mk (some 40) (some (34, true)) (mov (t 6)), Op2.mk (some 41) (some (34, true)) (ixaS 1 (t 39) (t 40)), Op2.mk (some 42)
  (some (34, true)) (ld1 (t 41)), Op2.mk (some 43) (some (34, true)) (bin BinOp.neq false false (t 38) (t 42)), Op2.mk (some 44)
  none (pick (t 34) (t 43) (c (AV.bool false)))]).seq (C2.cond (t 44) ((ops 0 [Op2.mk (some 4) none (mov (c (AV.bool false)))]).seq ret)
  skip))).seq (ops 0 [Op2.mk (some 16) none (mov (t 6)), Op2.mk (some 17) none (bin BinOp.add false false (t 16) (c (AV.int IntKind.i64 (1)))),
  Op2.mk (some 6) none (mov (t 17))]))).loop))).seq (ops 0 [Op2.mk (some 11) none (mov (t 5)), Op2.mk (some 12) none (bin BinOp.add false false (t 11)
  (c (AV.int IntKind.i64 (1)))), Op2.mk (some 5) none (mov (t 12))]))).loop)).seq ((ops 0 [Op2.mk (some 4) none (mov (c (AV.bool true)))]).seq ret))))
theorem is133 : Is Try.prog 133 b133 := Is.mk' Try.func133 (by kernel_rfl)

/-- roundtable/task.vector$1 -/
def b134 : F2 := (F2.mk 11 [RV.t 3] ((ops 0 [Op2.mk (some 3) none (mov (c (AV.bool false)))]).seq ((ops 0 [Op2.mk (some 4) none (mov (t 0)),
  Op2.mk (some 5) none (bin BinOp.lss false false (t 4) (c (AV.int IntKind.i64 (0)))), Op2.mk (some 6) none (mov (t 5)),
  Op2.mk (some 7) (some (6, false)) (mov (t 0)), Op2.mk (some 8) (some (6, false)) (ld1 (t 1)), Op2.mk (some 9) (some (6,
  false)) (bin BinOp.geq false false (t 7) (t 8)), Op2.mk (some 10) none (pick (t 6) (c (AV.bool true)) (t 9)), Op2.mk (some 3)
  none (mov (t 10))]).seq ret)))
theorem is134 : Is Try.prog 134 b134 := Is.mk' Try.func134 (by kernel_rfl)

/-- cmp.Compare[int] -/
def b135 : F2 := (F2.mk 20 [RV.t 4] ((ops 0 [Op2.mk (some 4) none (mov (c (AV.int IntKind.i64 (0))))]).seq ((ops 0 [Op2.mk (some 7)
  none (mov (t 0)), Op2.mk (some 8) none (call (c (AV.func 126 [])) [t 7]), Op2.mk (some 5) none (mov (t 8))]).seq ((ops 0 [Op2.mk (some 9)
  none (mov (t 1)), Op2.mk (some 10) none (call (c (AV.func 126 [])) [t 9]), Op2.mk (some 6) none (mov (t 10))]).seq (((ops 0 [Op2.mk (some 11)
  none (mov (t 5))]).seq (C2.cond (t 11) (((ops 0 [Op2.mk (some 12) none (mov (t 6))]).seq (C2.cond (t 12) ((ops 0 [Op2.mk (some 4)
  none (mov (c (AV.int IntKind.i64 (0))))]).seq ret) skip)).seq ((ops 0 [Op2.mk (some 4) none (mov (c (AV.int IntKind.i64 (-1))))]).seq ret))
  skip)).seq (((ops 0 [Op2.mk (some 13) none (mov (t 6))]).seq (C2.cond (t 13) ((ops 0 [Op2.mk (some 4) none (mov (c (AV.int IntKind.i64 (1))))]).seq ret)
  skip)).seq (((ops 0 [Op2.mk (some 14) none (mov (t 0)), Op2.mk (some 15) none (mov (t 1)), Op2.mk (some 16) none (bin BinOp.lss false false (t 14)
  (t 15))]).seq (C2.cond (t 16) ((ops 0 [Op2.mk (some 4) none (mov (c (AV.int IntKind.i64 (-1))))]).seq ret) skip)).seq (((ops 0 [Op2.mk (some 17)
  none (mov (t 0)), Op2.mk (some 18) none (mov (t 1)), Op2.mk (some 19) none (bin BinOp.gtr false false (t 17) (t 18))]).seq (C2.cond (t 19)
  ((ops 0 [Op2.mk (some 4) none (mov (c (AV.int IntKind.i64 (1))))]).seq ret) skip)).seq ((ops 0 [Op2.mk (some 4)
  none (mov (c (AV.int IntKind.i64 (0))))]).seq ret)))))))))
theorem is135 : Is Try.prog 135 b135 := Is.mk' Try.func135 (by kernel_rfl)

/-- roundtable/task.unordered -/
def b136 : F2 := (F2.mk 20 [RV.t 4] ((ops 0 [Op2.mk (some 4) none (mov (c (AV.bool false)))]).seq ((ops 1 [Op2.mk (some 5) none (mov (t 1)),
  Op2.mk (some 6) none (bin BinOp.gtr false false (t 5) (c (AV.int IntKind.i64 (0)))), Op2.mk (some 7) none (mov (t 6)),
  Op2.mk (some 8) (some (7, true)) (mov (t 0)), Op2.mk (some 9) (some (7, true)) (mov (t 1)), Op2.mk (some 10) (some (7,
  true)) (bin BinOp.sub false false (t 9) (c (AV.int IntKind.i64 (1)))), Op2.mk (some 11) (some (7, true)) (ixaS 1 (t 8)
  (t 10)), Op2.mk (some 12) (some (7, true)) (ld1 (t 11)), Op2.mk (some 13) (some (7, true)) (mov (t 0)), Op2.mk (some 14)
  (some (7, true)) (mov (t 1)), Op2.mk (some 15) (some (7, true)) (ixaS 1 (t 13) (t 14)), Op2.mk (some 16) (some (7,
  true)) (ld1 (t 15)), Op2.mk (some 17) (some (7, true)) (call (c (AV.func 119 [])) [t 12, t 16]), Op2.mk (some 18)
  (some (7, true)) (bin BinOp.geq false false (t 17) (c (AV.int IntKind.i64 (0)))), Op2.mk (some 19) none (pick (t 7)
  (t 18) (c (AV.bool false))), Op2.mk (some 4) none (mov (t 19))]).seq ret)))
theorem is136 : Is Try.prog 136 b136 := Is.mk' Try.func136 (by kernel_rfl)

/-- roundtable/task.has -/
def b137 : F2 := (F2.mk 8 [RV.t 4] ((ops 0 [Op2.mk (some 3) none (box (t 1)), Op2.mk (some 4) none (mov (c (AV.bool false)))]).seq ((ops 0 [Op2.mk (some 5)
  none (mov (t 0)), Op2.mk (some 6) none (mkfn 149 [t 3]), Op2.mk (some 7) none (call (c (AV.func 29 [])) [t 5, t 6]),
  Op2.mk (some 4) none (mov (t 7))]).seq ret)))
theorem is137 : Is Try.prog 137 b137 := Is.mk' Try.func137 (by kernel_rfl)

/-- roundtable/roundtableref12.spread -/
def b148 : F2 := (F2.mk 33 [RV.t 2] ((ops 0 [Op2.mk (some 2) none (mov (c (AV.int IntKind.i64 (0))))]).seq ((ops 1 [Op2.mk (some 6)
  none (mov (t 0)), Op2.mk (some 7) none (ixaS 1 (t 6) (c (AV.int IntKind.i64 (0)))), Op2.mk (some 8) none (ld1 (t 7)),
  Op2.mk (some 9) none (mov (t 0)), Op2.mk (some 10) none (ixaS 1 (t 9) (c (AV.int IntKind.i64 (0)))), Op2.mk (some 11)
  none (ld1 (t 10)), Op2.mk (some 3) none (mov (t 8)), Op2.mk (some 4) none (mov (t 11))]).seq (((ops 0 [Op2.mk (some 5)
  none (mov (c (AV.int IntKind.i64 (0))))]).seq (block 0 (((ops 0 [Op2.mk (some 12) none (mov (t 5)), Op2.mk (some 13)
  none (mov (t 0)), Op2.mk (some 14) none (lenS (t 13)), Op2.mk (some 15) none (bin BinOp.lss false false (t 12) (t 14))]).seq (C2.cond (t 15)
  skip (exit 0))).seq ((block 1 (ops 1 [Op2.mk (some 18) none (mov (t 3)), Op2.mk (some 19) none (mov (t 0)), Op2.mk (some 20)
  none (mov (t 5)), Op2.mk (some 21) none (ixaS 1 (t 19) (t 20)), Op2.mk (some 22) none (ld1 (t 21)), Op2.mk (some 23)
  none (mn (t 18) [t 22]), Op2.mk (some 24) none (mov (t 4)), Op2.mk (some 25) none (mov (t 0)), Op2.mk (some 26)
  none (mov (t 5)), Op2.mk (some 27) none (ixaS 1 (t 25) (t 26)), Op2.mk (some 28) none (ld1 (t 27)), Op2.mk (some 29)
  none (mx (t 24) [t 28]), Op2.mk (some 3) none (mov (t 23)), Op2.mk (some 4) none (mov (t 29))])).seq (ops 0 [Op2.mk (some 16)
  none (mov (t 5)), Op2.mk (some 17) none (bin BinOp.add false false (t 16) (c (AV.int IntKind.i64 (1)))), Op2.mk (some 5)
  none (mov (t 17))]))).loop)).seq ((ops 0 [Op2.mk (some 30) none (mov (t 4)), Op2.mk (some 31) none (mov (t 3)),
  Op2.mk (some 32) none (bin BinOp.sub false false (t 30) (t 31)), Op2.mk (some 2) none (mov (t 32))]).seq ret)))))
theorem is148 : Is Try.prog 148 b148 := Is.mk' Try.func148 (by kernel_rfl)

/-- roundtable/task.has$1 -/
def b149 : F2 := (F2.mk 7 [RV.t 3] ((ops 0 [Op2.mk (some 3) none (mov (c (AV.bool false)))]).seq ((ops 0 [Op2.mk (some 4) none (mov (t 0)),
  Op2.mk (some 5) none (ld1 (t 1)), Op2.mk (some 6) none (call (c (AV.func 27 [])) [t 4, t 5]), Op2.mk (some 3) none (mov (t 6))]).seq ret)))
theorem is149 : Is Try.prog 149 b149 := Is.mk' Try.func149 (by kernel_rfl)


end Go.Proofs.Ytcbkggfipdldaaa

/- P1: contracts of functions and plain laws; for all inputs that the theorems name. -/
set_option linter.unusedSimpArgs false
set_option linter.unusedVariables false
namespace Go.Proofs.Ytcbkggfipdldaaa
open Go Go.Abs
attribute [local irreducible] awp2 aops2 ains aloop athen bbind obind gbind acond res1 Go.Abs.Fn PCall Go.Abs.Pure SnapArgs SnapL Yl

/-- lists whose length is no matter -/
abbrev Sh {α : Type} (l : List α) : Prop := l.length ≤ 1000000000

theorem between_c (n a b : Int) : Pure Try.prog 81 [.int .i64 n, .int .i64 a, .int .i64 b] (.bool (decide (a ≤ n ∧ n ≤ b))) := by
  refine Pure.of_c2 follows is81 (Nat.le_of_ble_eq_true rfl) ?_
  simp only [b81]
  repeat' (first | refine w_seq ?_ | refine w_ops0 ?_ | refine w_ret ?_ | refine a_n ?_ | refine o_nil ?_ | (apply o_val rfl rfl; (focus ((try simp (disch := omega) only [simB0, simB1, SA, SV, SN, SR, SL, pick_bool, Nat.reduceEqDiff, ↓reduceIte, Nat.reduceAdd, Nat.reduceLeDiff, SO, one_encV, one_encVV, Bool.and_self, Bool.false_eq_true, reduceCtorEq, wrap64, aixS_encV, aixS_encVV, alenS_encV, alenS_encVV, Int.toNat_natCast, List.length_map, aixS_msl, getElem?_map_lt, Nat.mul_one]); first | with_reducible rfl | (apply s_ite; (focus omega); with_reducible rfl)))) | (apply o_gT; (focus (simp only [simB0, simB1, SA, SV, SN, SR, SL, pick_bool, Nat.reduceEqDiff, ↓reduceIte, Nat.reduceAdd, Nat.reduceLeDiff]; done))) | (apply o_gF; (focus (simp only [simB0, simB1, SA, SV, SN, SR, SL, pick_bool, Nat.reduceEqDiff, ↓reduceIte, Nat.reduceAdd, Nat.reduceLeDiff, or_true, true_or]; done))) | (apply o_gB; (focus ((try simp only [simB0, simB1, SA, SV, SN, SR, SL, pick_bool, Nat.reduceEqDiff, ↓reduceIte, Nat.reduceAdd, Nat.reduceLeDiff]); (try with_reducible rfl); done)); all_goals (intro _hg; (try simp only [Bool.not_true, Bool.not_false, Bool.not_eq_true', Bool.not_eq_false', Bool.not_not, decide_eq_true_eq, decide_eq_false_iff_not] at _hg); try (exfalso; omega))) | (refine e_ends rfl ?_) | (apply r_1; (focus (simp only [rv, simB0, simB1, SA, SV, SN, SR, SL, pick_bool, Nat.reduceEqDiff, ↓reduceIte, Nat.reduceAdd, Nat.reduceLeDiff]; with_reducible rfl))))
  all_goals (refine snap_bool ?_; simp [_hg])

theorem more_c (n : Int) : Pure Try.prog 46 [.int .i64 n] (.int .i64 (if 0 ≤ n ∧ n ≤ 8 then n + 1 else 9)) := by
  refine Pure.of_c2 follows is46 (Nat.le_of_ble_eq_true rfl) ?_
  simp only [b46]
  repeat' (first | refine w_seq ?_ | refine w_ops0 ?_ | refine w_skip ?_ | refine w_ret ?_ | refine a_n ?_ | refine a_r ?_ | refine o_nil ?_ | (apply o_val rfl rfl; (focus ((try simp (disch := omega) only [simB0, simB1, SA, SV, SN, SR, SL, pick_bool, Nat.reduceEqDiff, ↓reduceIte, Nat.reduceAdd, Nat.reduceLeDiff, SO, one_encV, one_encVV, Bool.and_self, Bool.false_eq_true, reduceCtorEq, wrap64, aixS_encV, aixS_encVV, alenS_encV, alenS_encVV, Int.toNat_natCast, List.length_map, aixS_msl, getElem?_map_lt, Nat.mul_one]); first | with_reducible rfl | (apply s_ite; (focus omega); with_reducible rfl)))) | (apply o_callD; (focus ((try simp only [simB0, simB1, SA, SV, SN, SR, SL, pick_bool, Nat.reduceEqDiff, ↓reduceIte, Nat.reduceAdd, Nat.reduceLeDiff]); (try with_reducible rfl); done)); (focus ((try simp only [simB0, simB1, SA, SV, SN, SR, SL, pick_bool, Nat.reduceEqDiff, ↓reduceIte, Nat.reduceAdd, Nat.reduceLeDiff]); (try with_reducible rfl); done)); (focus (first | (exact between_c _ _ _))); (focus (first | (apply snap_data; repeat' (first | exact snapL_nil | apply snapL_dat | exact Dat.int | exact Dat.bool | exact Dat.str | exact Dat.esl | exact Dat.nilf | exact encV_dat _ | exact encVV_dat _)) | (apply snap_plain; (focus (repeat' (first | exact snapL_nil | apply snapL_dat | exact Dat.int | exact Dat.bool | exact Dat.str | exact encV_dat _ | exact encVV_dat _))); rfl)))) | (apply w_cond; (focus ((try simp only [simB0, simB1, SA, SV, SN, SR, SL, pick_bool, Nat.reduceEqDiff, ↓reduceIte, Nat.reduceAdd, Nat.reduceLeDiff]); (try with_reducible rfl); done)); all_goals (intro _hg; (try simp only [Bool.not_eq_true', Bool.not_eq_false', Bool.not_not, decide_eq_true_eq, decide_eq_false_iff_not] at _hg); try (exfalso; omega))) | (refine e_ends rfl ?_) | (apply r_1; (focus (simp only [rv, simB0, simB1, SA, SV, SN, SR, SL, pick_bool, Nat.reduceEqDiff, ↓reduceIte, Nat.reduceAdd, Nat.reduceLeDiff]; with_reducible rfl))))
  all_goals (refine snap_int ?_)
  · rw [if_neg (by omega)]
  · rw [if_pos (by omega)]

def kinds (l : List Int) : List Int := l.foldl (fun ks v => if v ∈ ks then ks else ks ++ [v]) []
theorem kinds_snoc (l : List Int) (v : Int) : kinds (l ++ [v]) = if v ∈ kinds l then kinds l else kinds l ++ [v] := by unfold kinds; rw [List.foldl_append]; rfl
theorem kinds_len (l : List Int) : (kinds l).length ≤ l.length := by
  suffices h : ∀ (l ks : List Int), (l.foldl (fun ks v => if v ∈ ks then ks else ks ++ [v]) ks).length ≤ ks.length + l.length by simpa [kinds] using h l []
  intro l
  induction l with
  | nil => simp
  | cons a l ih =>
    intro ks
    simp only [List.foldl_cons, List.length_cons]
    refine Nat.le_trans (ih _) ?_
    split <;> simp <;> omega

theorem different_c (l : List Int) (hl : Sh l) : Pure Try.prog 48 [encV l] (.int .i64 (kinds l).length) := by
  refine Pure.of_c2 follows is48 (Nat.le_of_ble_eq_true rfl) ?_
  simp only [b48]
  repeat' (first | refine w_seq ?_ | refine w_ops0 ?_ | refine a_n ?_ | refine o_nil ?_ | (apply o_val rfl rfl; (focus ((try simp (disch := omega) only [simB0, simB1, SA, SV, SN, SR, SL, pick_bool, Nat.reduceEqDiff, ↓reduceIte, Nat.reduceAdd, Nat.reduceLeDiff, SO, one_encV, one_encVV, Bool.and_self, Bool.false_eq_true, reduceCtorEq, wrap64, aixS_encV, aixS_encVV, alenS_encV, alenS_encVV, Int.toNat_natCast, List.length_map, aixS_msl, getElem?_map_lt, Nat.mul_one]); first | with_reducible rfl | (apply s_ite; (focus omega); with_reducible rfl)))))
  refine o_mkm ?_
  repeat' (first | refine w_seq ?_ | refine w_ops0 ?_ | refine w_block ?_ | refine a_n ?_ | refine o_nil ?_ | (apply o_val rfl rfl; (focus ((try simp (disch := omega) only [simB0, simB1, SA, SV, SN, SR, SL, pick_bool, Nat.reduceEqDiff, ↓reduceIte, Nat.reduceAdd, Nat.reduceLeDiff, SO, one_encV, one_encVV, Bool.and_self, Bool.false_eq_true, reduceCtorEq, wrap64, aixS_encV, aixS_encVV, alenS_encV, alenS_encVV, Int.toNat_natCast, List.length_map, aixS_msl, getElem?_map_lt, Nat.mul_one]); first | with_reducible rfl | (apply s_ite; (focus omega); with_reducible rfl)))) | refine w_loop ?_)
  refine loopI (X := Nat) (fun k => [(3, .mp 0), (7, encV l), (8, .int .i64 l.length), (9, .int .i64 k)]) (fun k H nx => k ≤ l.length ∧ ∃ vs, H 0 = some [.omap ((kinds (l.take k)).map (AV.int .i64)) vs]) (fun k => l.length - k) 0 ⟨Nat.zero_le _, [], rfl⟩ (by simp (disch := omega) only [agr, SA, Nat.reduceEqDiff, ↓reduceIte, wrap64, Int.natCast_add, Int.natCast_one, Int.natCast_zero, and_true, and_self]) ?_
  rintro k H nx ⟨hk, vs, hH⟩
  repeat' (first | refine w_seq ?_ | refine w_ops0 ?_ | refine w_block ?_ | refine w_skip ?_ | refine w_exit ?_ | refine a_n ?_ | refine a_x ?_ | refine o_nil ?_ | (apply o_val rfl rfl; (focus ((try simp (disch := omega) only [simB0, simB1, SA, SV, SN, SR, SL, pick_bool, Nat.reduceEqDiff, ↓reduceIte, Nat.reduceAdd, Nat.reduceLeDiff, SO, one_encV, one_encVV, Bool.and_self, Bool.false_eq_true, reduceCtorEq, wrap64, aixS_encV, aixS_encVV, alenS_encV, alenS_encVV, Int.toNat_natCast, List.length_map, aixS_msl, getElem?_map_lt, Nat.mul_one]); first | with_reducible rfl | (apply s_ite; (focus omega); with_reducible rfl)))) | (apply w_cond; (focus ((try simp only [simB0, simB1, SA, SV, SN, SR, SL, pick_bool, Nat.reduceEqDiff, ↓reduceIte, Nat.reduceAdd, Nat.reduceLeDiff]); (try with_reducible rfl); done)); all_goals (intro _hg; (try simp only [Bool.not_eq_true', Bool.not_eq_false', Bool.not_not, decide_eq_true_eq, decide_eq_false_iff_not] at _hg); try (exfalso; omega))))
  · refine o_mput (by ((try simp only [simB0, simB1, SA, SV, SN, SR, SL, pick_bool, Nat.reduceEqDiff, ↓reduceIte, Nat.reduceAdd, Nat.reduceLeDiff]); (try with_reducible rfl))) hH (x := .c (.bool true)) (by ((try simp only [simB0, simB1, SA, SV, SN, SR, SL, pick_bool, Nat.reduceEqDiff, ↓reduceIte, Nat.reduceAdd, Nat.reduceLeDiff]); (try with_reducible rfl))) rfl rfl (mfind_int _ _) ?_
    repeat' (first | refine w_ops0 ?_ | refine a_n ?_ | refine o_nil ?_ | (apply o_val rfl rfl; (focus ((try simp (disch := omega) only [simB0, simB1, SA, SV, SN, SR, SL, pick_bool, Nat.reduceEqDiff, ↓reduceIte, Nat.reduceAdd, Nat.reduceLeDiff, SO, one_encV, one_encVV, Bool.and_self, Bool.false_eq_true, reduceCtorEq, wrap64, aixS_encV, aixS_encVV, alenS_encV, alenS_encVV, Int.toNat_natCast, List.length_map, aixS_msl, getElem?_map_lt, Nat.mul_one]); first | with_reducible rfl | (apply s_ite; (focus omega); with_reducible rfl)))))
    refine ⟨k + 1, by omega, ⟨by omega, _, hupd_self'.trans (omap_eq ?_)⟩, by simp (disch := omega) only [agr, SA, Nat.reduceEqDiff, ↓reduceIte, wrap64, Int.natCast_add, Int.natCast_one, Int.natCast_zero, and_true, and_self]⟩
    rw [take_succ' (by omega), kinds_snoc]
    split <;> simp [msetK]
  · refine o_mlen (by ((try simp only [simB0, simB1, SA, SV, SN, SR, SL, pick_bool, Nat.reduceEqDiff, ↓reduceIte, Nat.reduceAdd, Nat.reduceLeDiff]); (try with_reducible rfl))) hH ?_
    repeat' (first | refine w_ret ?_ | refine a_n ?_ | refine o_nil ?_ | (apply o_val rfl rfl; (focus ((try simp (disch := omega) only [simB0, simB1, SA, SV, SN, SR, SL, pick_bool, Nat.reduceEqDiff, ↓reduceIte, Nat.reduceAdd, Nat.reduceLeDiff, SO, one_encV, one_encVV, Bool.and_self, Bool.false_eq_true, reduceCtorEq, wrap64, aixS_encV, aixS_encVV, alenS_encV, alenS_encVV, Int.toNat_natCast, List.length_map, aixS_msl, getElem?_map_lt, Nat.mul_one]); first | with_reducible rfl | (apply s_ite; (focus omega); with_reducible rfl)))) | (refine e_ends rfl ?_) | (apply r_1; (focus (simp only [rv, simB0, simB1, SA, SV, SN, SR, SL, pick_bool, Nat.reduceEqDiff, ↓reduceIte, Nat.reduceAdd, Nat.reduceLeDiff]; with_reducible rfl))))
    refine snap_int ?_
    rw [List.take_of_length_le (by omega)]
end Go.Proofs.Ytcbkggfipdldaaa

/- P2: contracts of functions and plain laws; for all inputs that the theorems name. -/
set_option linter.unusedSimpArgs false
set_option linter.unusedVariables false
namespace Go.Proofs.Ytcbkggfipdldaaa
open Go Go.Abs
attribute [local irreducible] awp2 aops2 ains aloop athen bbind obind gbind acond res1 Go.Abs.Fn PCall Go.Abs.Pure SnapArgs SnapL Yl

def eqv (l : List Int) (v : Int) : Bool := decide ((kinds l).length = 1 ∧ l.getD 0 default = v)

theorem equal_c (l : List Int) (v : Int) (hl : Sh l) : Pure Try.prog 49 [encV l, .int .i64 v] (.bool (eqv l v)) := by
  refine Pure.of_c2 follows is49 (Nat.le_of_ble_eq_true rfl) ?_
  simp only [b49]
  have := kinds_len l
  repeat' (first | refine w_seq ?_ | refine w_ops0 ?_ | refine w_ret ?_ | refine a_n ?_ | refine o_nil ?_ | (apply o_val rfl rfl; (focus ((try simp (disch := omega) only [simB0, simB1, SA, SV, SN, SR, SL, pick_bool, Nat.reduceEqDiff, ↓reduceIte, Nat.reduceAdd, Nat.reduceLeDiff, SO, one_encV, one_encVV, Bool.and_self, Bool.false_eq_true, reduceCtorEq, wrap64, aixS_encV, aixS_encVV, alenS_encV, alenS_encVV, Int.toNat_natCast, List.length_map, aixS_msl, getElem?_map_lt, Nat.mul_one]); first | with_reducible rfl | (apply s_ite; (focus omega); with_reducible rfl)))) | (apply o_callD; (focus ((try simp only [simB0, simB1, SA, SV, SN, SR, SL, pick_bool, Nat.reduceEqDiff, ↓reduceIte, Nat.reduceAdd, Nat.reduceLeDiff]); (try with_reducible rfl); done)); (focus ((try simp only [simB0, simB1, SA, SV, SN, SR, SL, pick_bool, Nat.reduceEqDiff, ↓reduceIte, Nat.reduceAdd, Nat.reduceLeDiff]); (try with_reducible rfl); done)); (focus (first | (exact different_c _ hl))); (focus (first | (apply snap_data; repeat' (first | exact snapL_nil | apply snapL_dat | exact Dat.int | exact Dat.bool | exact Dat.str | exact Dat.esl | exact Dat.nilf | exact encV_dat _ | exact encVV_dat _)) | (apply snap_plain; (focus (repeat' (first | exact snapL_nil | apply snapL_dat | exact Dat.int | exact Dat.bool | exact Dat.str | exact encV_dat _ | exact encVV_dat _))); rfl)))) | (apply o_gT; (focus (simp only [simB0, simB1, SA, SV, SN, SR, SL, pick_bool, Nat.reduceEqDiff, ↓reduceIte, Nat.reduceAdd, Nat.reduceLeDiff]; done))) | (apply o_gF; (focus (simp only [simB0, simB1, SA, SV, SN, SR, SL, pick_bool, Nat.reduceEqDiff, ↓reduceIte, Nat.reduceAdd, Nat.reduceLeDiff, or_true, true_or]; done))) | (apply o_gB; (focus ((try simp only [simB0, simB1, SA, SV, SN, SR, SL, pick_bool, Nat.reduceEqDiff, ↓reduceIte, Nat.reduceAdd, Nat.reduceLeDiff]); (try with_reducible rfl); done)); all_goals (intro _hg; (try simp only [Bool.not_true, Bool.not_false, Bool.not_eq_true', Bool.not_eq_false', Bool.not_not, decide_eq_true_eq, decide_eq_false_iff_not] at _hg); try (exfalso; omega))) | (refine e_ends rfl ?_) | (apply r_1; (focus (simp only [rv, simB0, simB1, SA, SV, SN, SR, SL, pick_bool, Nat.reduceEqDiff, ↓reduceIte, Nat.reduceAdd, Nat.reduceLeDiff]; with_reducible rfl))))
  all_goals refine snap_bool ?_
  · unfold eqv; simp; omega
  · unfold eqv; simp; omega

def idx (l : List Int) (v : Int) : Int := if v ∈ l then (l.idxOf v : Nat) else -1
theorem idx_at {l : List Int} {v : Int} {k : Nat} (hk : k < l.length) (h : ∀ i, i < k → l.getD i default ≠ v) (hv : v = l.getD k default) : idx l v = k := by
  have e : l.getD k default = l[k] := by simp [List.getD, hk]
  have hm : v ∈ l := by rw [hv, e]; exact List.getElem_mem hk
  unfold idx; rw [if_pos hm]
  have h1 : l.idxOf v ≤ k := by
    by_cases hlt : l.idxOf v ≤ k
    · exact hlt
    · exfalso
      have := List.not_of_lt_findIdx (xs := l) (p := (· == v)) (i := k) (by simp only [List.idxOf] at hlt; omega)
      rw [e] at hv; subst hv; simp at this
  have h2 : k ≤ l.idxOf v := by
    by_cases hlt : k ≤ l.idxOf v
    · exact hlt
    · exfalso
      have hi := List.idxOf_lt_length_iff.2 hm
      have := h (l.idxOf v) (by omega)
      apply this
      simp [List.getD, hi]
  omega
theorem idx_none {l : List Int} {v : Int} (h : ∀ i, i < l.length → l.getD i default ≠ v) : idx l v = -1 := by
  unfold idx; rw [if_neg]
  intro hm
  obtain ⟨i, hi, e⟩ := List.getElem_of_mem hm
  exact h i hi (by simp [List.getD, hi, e])

theorem index_c (l : List Int) (v : Int) (hl : Sh l) : Pure Try.prog 72 [encV l, .int .i64 v] (.int .i64 (idx l v)) := by
  refine Pure.of_c2 follows is72 (Nat.le_of_ble_eq_true rfl) ?_
  simp only [b72]
  repeat' (first | refine w_seq ?_ | refine w_ops0 ?_ | refine w_block ?_ | refine a_n ?_ | refine o_nil ?_ | (apply o_val rfl rfl; (focus ((try simp (disch := omega) only [simB0, simB1, SA, SV, SN, SR, SL, pick_bool, Nat.reduceEqDiff, ↓reduceIte, Nat.reduceAdd, Nat.reduceLeDiff, SO, one_encV, one_encVV, Bool.and_self, Bool.false_eq_true, reduceCtorEq, wrap64, aixS_encV, aixS_encVV, alenS_encV, alenS_encVV, Int.toNat_natCast, List.length_map, aixS_msl, getElem?_map_lt, Nat.mul_one]); first | with_reducible rfl | (apply s_ite; (focus omega); with_reducible rfl)))) | refine w_loop ?_)
  refine loop0 (X := Nat) (fun k => [(0, encV l), (1, .int .i64 v), (7, .int .i64 l.length), (8, .int .i64 k)]) (fun k => k ≤ l.length ∧ ∀ i, i < k → l.getD i default ≠ v) (fun k => l.length - k) 0 ⟨Nat.zero_le _, by simp⟩ (by simp (disch := omega) only [agr, SA, Nat.reduceEqDiff, ↓reduceIte, wrap64, Int.natCast_add, Int.natCast_one, Int.natCast_zero, and_true, and_self]) ?_
  rintro k ⟨h1, h2⟩
  repeat' (first | refine w_seq ?_ | refine w_ops0 ?_ | refine w_block ?_ | refine w_skip ?_ | refine w_exit ?_ | refine w_ret ?_ | refine a_n ?_ | refine a_x ?_ | refine a_r ?_ | refine o_nil ?_ | (apply o_val rfl rfl; (focus ((try simp (disch := omega) only [simB0, simB1, SA, SV, SN, SR, SL, pick_bool, Nat.reduceEqDiff, ↓reduceIte, Nat.reduceAdd, Nat.reduceLeDiff, SO, one_encV, one_encVV, Bool.and_self, Bool.false_eq_true, reduceCtorEq, wrap64, aixS_encV, aixS_encVV, alenS_encV, alenS_encVV, Int.toNat_natCast, List.length_map, aixS_msl, getElem?_map_lt, Nat.mul_one]); first | with_reducible rfl | (apply s_ite; (focus omega); with_reducible rfl)))) | (apply w_cond; (focus ((try simp only [simB0, simB1, SA, SV, SN, SR, SL, pick_bool, Nat.reduceEqDiff, ↓reduceIte, Nat.reduceAdd, Nat.reduceLeDiff]); (try with_reducible rfl); done)); all_goals (intro _hg; (try simp only [Bool.not_eq_true', Bool.not_eq_false', Bool.not_not, decide_eq_true_eq, decide_eq_false_iff_not] at _hg); try (exfalso; omega))) | (refine e_ends rfl ?_) | (apply r_1; (focus (simp only [rv, simB0, simB1, SA, SV, SN, SR, SL, pick_bool, Nat.reduceEqDiff, ↓reduceIte, Nat.reduceAdd, Nat.reduceLeDiff]; with_reducible rfl))))
  · exact snap_int (idx_at (by omega) h2 _hg).symm
  · refine ⟨k + 1, ⟨by omega, fun i hi => ?_⟩, by omega, by simp (disch := omega) only [agr, SA, Nat.reduceEqDiff, ↓reduceIte, wrap64, Int.natCast_add, Int.natCast_one, Int.natCast_zero, and_true, and_self], rfl, rfl⟩
    rcases Nat.lt_succ_iff_lt_or_eq.1 hi with h | rfl
    · exact h2 i h
    · exact fun e => _hg e.symm
  · exact snap_int (idx_none fun i hi => h2 i (by omega)).symm

theorem contains_c (l : List Int) (v : Int) (hl : Sh l) : Pure Try.prog 28 [encV l, .int .i64 v] (.bool (decide (v ∈ l))) := by
  refine Pure.of_c2 follows is28 (Nat.le_of_ble_eq_true rfl) ?_
  simp only [b28]
  repeat' (first | refine w_seq ?_ | refine w_ops0 ?_ | refine w_ret ?_ | refine a_n ?_ | refine o_nil ?_ | (apply o_val rfl rfl; (focus ((try simp (disch := omega) only [simB0, simB1, SA, SV, SN, SR, SL, pick_bool, Nat.reduceEqDiff, ↓reduceIte, Nat.reduceAdd, Nat.reduceLeDiff, SO, one_encV, one_encVV, Bool.and_self, Bool.false_eq_true, reduceCtorEq, wrap64, aixS_encV, aixS_encVV, alenS_encV, alenS_encVV, Int.toNat_natCast, List.length_map, aixS_msl, getElem?_map_lt, Nat.mul_one]); first | with_reducible rfl | (apply s_ite; (focus omega); with_reducible rfl)))) | (apply o_callD; (focus ((try simp only [simB0, simB1, SA, SV, SN, SR, SL, pick_bool, Nat.reduceEqDiff, ↓reduceIte, Nat.reduceAdd, Nat.reduceLeDiff]); (try with_reducible rfl); done)); (focus ((try simp only [simB0, simB1, SA, SV, SN, SR, SL, pick_bool, Nat.reduceEqDiff, ↓reduceIte, Nat.reduceAdd, Nat.reduceLeDiff]); (try with_reducible rfl); done)); (focus (first | (exact index_c _ _ hl))); (focus (first | (apply snap_data; repeat' (first | exact snapL_nil | apply snapL_dat | exact Dat.int | exact Dat.bool | exact Dat.str | exact Dat.esl | exact Dat.nilf | exact encV_dat _ | exact encVV_dat _)) | (apply snap_plain; (focus (repeat' (first | exact snapL_nil | apply snapL_dat | exact Dat.int | exact Dat.bool | exact Dat.str | exact encV_dat _ | exact encVV_dat _))); rfl)))) | (refine e_ends rfl ?_) | (apply r_1; (focus (simp only [rv, simB0, simB1, SA, SV, SN, SR, SL, pick_bool, Nat.reduceEqDiff, ↓reduceIte, Nat.reduceAdd, Nat.reduceLeDiff]; with_reducible rfl))))
  refine snap_bool ?_
  unfold idx; split <;> simp_all

/-- the place of the first element that has p, or -1 -/
def idxF (l : List Int) (p : Int → Bool) : Int := if l.any p then (l.findIdx p : Nat) else -1
theorem idxF_at {l : List Int} {p : Int → Bool} {k : Nat} (hk : k < l.length) (h : ∀ i, i < k → p (l.getD i default) = false) (hv : p (l.getD k default) = true) : idxF l p = k := by
  have e : l.getD k default = l[k] := by simp [List.getD, hk]
  have hm : l.any p = true := List.any_eq_true.2 ⟨l[k], List.getElem_mem hk, by rw [← e]; exact hv⟩
  unfold idxF; rw [if_pos hm]
  have : l.findIdx p = k := (List.findIdx_eq hk).2 ⟨by rw [← e]; exact hv, fun j hj => by have := h j hj; rwa [show l.getD j default = l[j] by simp [List.getD, show j < l.length by omega]] at this⟩
  rw [this]
theorem idxF_none {l : List Int} {p : Int → Bool} (h : ∀ i, i < l.length → p (l.getD i default) = false) : l.any p = false := by
  rw [List.any_eq_false]
  intro x hx
  obtain ⟨i, hi, e⟩ := List.getElem_of_mem hx
  have := h i hi
  rw [show l.getD i default = l[i] by simp [List.getD, hi], e] at this
  simp [this]

theorem indexF_c (l : List Int) (p : Int → Bool) (g : Nat) (caps : List AV) (hd : ∀ x ∈ caps, Dat x) (hg : ∀ x ∈ l, Pure Try.prog g (.int .i64 x :: caps) (.bool (p x))) (hl : Sh l) : Pure Try.prog 88 [encV l, .func g caps] (.int .i64 (idxF l p)) := by
  refine Pure.of_c2 follows is88 (Nat.le_of_ble_eq_true rfl) ?_
  simp only [b88]
  repeat' (first | refine w_seq ?_ | refine w_ops0 ?_ | refine w_block ?_ | refine a_n ?_ | refine o_nil ?_ | (apply o_val rfl rfl; (focus ((try simp (disch := omega) only [simB0, simB1, SA, SV, SN, SR, SL, pick_bool, Nat.reduceEqDiff, ↓reduceIte, Nat.reduceAdd, Nat.reduceLeDiff, SO, one_encV, one_encVV, Bool.and_self, Bool.false_eq_true, reduceCtorEq, wrap64, aixS_encV, aixS_encVV, alenS_encV, alenS_encVV, Int.toNat_natCast, List.length_map, aixS_msl, getElem?_map_lt, Nat.mul_one]); first | with_reducible rfl | (apply s_ite; (focus omega); with_reducible rfl)))) | refine w_loop ?_)
  refine loop0 (X := Nat) (fun k => [(0, encV l), (1, .func g caps), (6, encV l), (7, .int .i64 l.length), (8, .int .i64 k)]) (fun k => k ≤ l.length ∧ ∀ i, i < k → p (l.getD i default) = false) (fun k => l.length - k) 0 ⟨Nat.zero_le _, by simp⟩ (by simp (disch := omega) only [agr, SA, Nat.reduceEqDiff, ↓reduceIte, wrap64, Int.natCast_add, Int.natCast_one, Int.natCast_zero, and_true, and_self]) ?_
  rintro k ⟨h1, h2⟩
  repeat' (first | refine w_seq ?_ | refine w_ops0 ?_ | refine w_block ?_ | refine w_skip ?_ | refine w_exit ?_ | refine w_ret ?_ | refine a_n ?_ | refine a_x ?_ | refine a_r ?_ | refine o_nil ?_ | (apply o_val rfl rfl; (focus ((try simp (disch := omega) only [simB0, simB1, SA, SV, SN, SR, SL, pick_bool, Nat.reduceEqDiff, ↓reduceIte, Nat.reduceAdd, Nat.reduceLeDiff, SO, one_encV, one_encVV, Bool.and_self, Bool.false_eq_true, reduceCtorEq, wrap64, aixS_encV, aixS_encVV, alenS_encV, alenS_encVV, Int.toNat_natCast, List.length_map, aixS_msl, getElem?_map_lt, Nat.mul_one]); first | with_reducible rfl | (apply s_ite; (focus omega); with_reducible rfl)))) | (apply o_callD; (focus ((try simp only [simB0, simB1, SA, SV, SN, SR, SL, pick_bool, Nat.reduceEqDiff, ↓reduceIte, Nat.reduceAdd, Nat.reduceLeDiff]); (try with_reducible rfl); done)); (focus ((try simp only [simB0, simB1, SA, SV, SN, SR, SL, pick_bool, Nat.reduceEqDiff, ↓reduceIte, Nat.reduceAdd, Nat.reduceLeDiff]); (try with_reducible rfl); done)); (focus (first | (exact hg _ (mem_getD (by omega))))); (focus (first | (apply snap_data; repeat' (first | exact snapL_nil | apply snapL_dat | exact Dat.int | exact Dat.bool | exact Dat.str | exact Dat.esl | exact Dat.nilf | exact encV_dat _ | exact encVV_dat _ | exact snapL_datL hd)) | (apply snap_plain; (focus (repeat' (first | exact snapL_nil | apply snapL_dat | exact Dat.int | exact Dat.bool | exact Dat.str | exact encV_dat _ | exact encVV_dat _ | exact snapL_datL hd))); rfl)))) | (apply w_cond; (focus ((try simp only [simB0, simB1, SA, SV, SN, SR, SL, pick_bool, Nat.reduceEqDiff, ↓reduceIte, Nat.reduceAdd, Nat.reduceLeDiff]); (try with_reducible rfl); done)); all_goals (intro _hg; (try simp only [Bool.not_eq_true', Bool.not_eq_false', Bool.not_not, decide_eq_true_eq, decide_eq_false_iff_not] at _hg); try (exfalso; omega))) | (refine e_ends rfl ?_) | (apply r_1; (focus (simp only [rv, simB0, simB1, SA, SV, SN, SR, SL, pick_bool, Nat.reduceEqDiff, ↓reduceIte, Nat.reduceAdd, Nat.reduceLeDiff]; with_reducible rfl))))
  · refine snap_int ?_
    rw [idxF_at (by omega) h2 _hg]
  · refine ⟨k + 1, ⟨by omega, fun i hi => ?_⟩, by omega, by simp (disch := omega) only [agr, SA, Nat.reduceEqDiff, ↓reduceIte, wrap64, Int.natCast_add, Int.natCast_one, Int.natCast_zero, and_true, and_self], rfl, rfl⟩
    rcases Nat.lt_succ_iff_lt_or_eq.1 hi with h | rfl
    · exact h2 i h
    · exact _hg
  · refine snap_int ?_
    unfold idxF; rw [idxF_none fun i hi => h2 i (by omega)]; rfl

theorem containsF_c (l : List Int) (p : Int → Bool) (g : Nat) (caps : List AV) (hd : ∀ x ∈ caps, Dat x) (hg : ∀ x ∈ l, Pure Try.prog g (.int .i64 x :: caps) (.bool (p x))) (hl : Sh l) : Pure Try.prog 67 [encV l, .func g caps] (.bool (l.any p)) := by
  refine Pure.of_c2 follows is67 (Nat.le_of_ble_eq_true rfl) ?_
  simp only [b67]
  repeat' (first | refine w_seq ?_ | refine w_ops0 ?_ | refine w_ret ?_ | refine a_n ?_ | refine o_nil ?_ | (apply o_val rfl rfl; (focus ((try simp (disch := omega) only [simB0, simB1, SA, SV, SN, SR, SL, pick_bool, Nat.reduceEqDiff, ↓reduceIte, Nat.reduceAdd, Nat.reduceLeDiff, SO, one_encV, one_encVV, Bool.and_self, Bool.false_eq_true, reduceCtorEq, wrap64, aixS_encV, aixS_encVV, alenS_encV, alenS_encVV, Int.toNat_natCast, List.length_map, aixS_msl, getElem?_map_lt, Nat.mul_one]); first | with_reducible rfl | (apply s_ite; (focus omega); with_reducible rfl)))) | (apply o_callD; (focus ((try simp only [simB0, simB1, SA, SV, SN, SR, SL, pick_bool, Nat.reduceEqDiff, ↓reduceIte, Nat.reduceAdd, Nat.reduceLeDiff]); (try with_reducible rfl); done)); (focus ((try simp only [simB0, simB1, SA, SV, SN, SR, SL, pick_bool, Nat.reduceEqDiff, ↓reduceIte, Nat.reduceAdd, Nat.reduceLeDiff]); (try with_reducible rfl); done)); (focus (first | (exact indexF_c l p g caps hd hg hl))); (focus (first | (apply snap_data; repeat' (first | exact snapL_nil | apply snapL_dat | exact Dat.int | exact Dat.bool | exact Dat.str | exact Dat.esl | exact Dat.nilf | exact encV_dat _ | exact encVV_dat _ | exact Dat.func hd)) | (apply snap_plain; (focus (repeat' (first | exact snapL_nil | apply snapL_dat | exact Dat.int | exact Dat.bool | exact Dat.str | exact encV_dat _ | exact encVV_dat _ | exact Dat.func hd))); rfl)))) | (refine e_ends rfl ?_) | (apply r_1; (focus (simp only [rv, simB0, simB1, SA, SV, SN, SR, SL, pick_bool, Nat.reduceEqDiff, ↓reduceIte, Nat.reduceAdd, Nat.reduceLeDiff]; with_reducible rfl))))
  refine snap_bool ?_
  unfold idxF; split <;> simp_all

theorem take_one {l : List Int} (h : 0 < l.length) : l.take 1 = [l.getD 0 default] := by
  rw [show (1 : Nat) = 0 + 1 from rfl, take_succ' h]; simp

theorem max_c (l : List Int) (hl : Sh l) (h0 : l ≠ []) : Pure Try.prog 50 [encV l] (.int .i64 (l.foldl max (l.getD 0 default))) := by
  refine Pure.of_c2 follows is50 (Nat.le_of_ble_eq_true rfl) ?_
  simp only [b50]
  have hpos := List.length_pos_iff.2 h0
  repeat' (first | refine w_seq ?_ | refine w_ops0 ?_ | refine w_block ?_ | refine w_skip ?_ | refine a_n ?_ | refine o_nil ?_ | (apply o_val rfl rfl; (focus ((try simp (disch := omega) only [simB0, simB1, SA, SV, SN, SR, SL, pick_bool, Nat.reduceEqDiff, ↓reduceIte, Nat.reduceAdd, Nat.reduceLeDiff, SO, one_encV, one_encVV, Bool.and_self, Bool.false_eq_true, reduceCtorEq, wrap64, aixS_encV, aixS_encVV, alenS_encV, alenS_encVV, Int.toNat_natCast, List.length_map, aixS_msl, getElem?_map_lt, Nat.mul_one]); first | with_reducible rfl | (apply s_ite; (focus omega); with_reducible rfl)))) | (apply w_cond; (focus ((try simp only [simB0, simB1, SA, SV, SN, SR, SL, pick_bool, Nat.reduceEqDiff, ↓reduceIte, Nat.reduceAdd, Nat.reduceLeDiff]); (try with_reducible rfl); done)); all_goals (intro _hg; (try simp only [Bool.not_eq_true', Bool.not_eq_false', Bool.not_not, decide_eq_true_eq, decide_eq_false_iff_not] at _hg); try (exfalso; omega))) | refine w_loop ?_)
  refine loop0 (X := Nat) (fun k => [(0, encV l), (3, .int .i64 ((l.take k).foldl max (l.getD 0 default))), (4, .int .i64 k)]) (fun k => k ≤ l.length ∧ 1 ≤ k) (fun k => l.length - k) 1 ⟨hpos, Nat.le_refl _⟩ (by simp (disch := omega) only [agr, SA, Nat.reduceEqDiff, ↓reduceIte, wrap64, Int.natCast_add, Int.natCast_one, Int.natCast_zero, and_true, and_self, take_one hpos, List.foldl_cons, List.foldl_nil, Int.max_self, Int.toNat_zero]) ?_
  rintro k ⟨h1, h2⟩
  repeat' (first | refine w_seq ?_ | refine w_ops0 ?_ | refine w_block ?_ | refine w_skip ?_ | refine w_exit ?_ | refine w_ret ?_ | refine a_n ?_ | refine a_x ?_ | refine o_nil ?_ | (apply o_val rfl rfl; (focus ((try simp (disch := omega) only [simB0, simB1, SA, SV, SN, SR, SL, pick_bool, Nat.reduceEqDiff, ↓reduceIte, Nat.reduceAdd, Nat.reduceLeDiff, SO, one_encV, one_encVV, Bool.and_self, Bool.false_eq_true, reduceCtorEq, wrap64, aixS_encV, aixS_encVV, alenS_encV, alenS_encVV, Int.toNat_natCast, List.length_map, aixS_msl, getElem?_map_lt, Nat.mul_one]); first | with_reducible rfl | (apply s_ite; (focus omega); with_reducible rfl)))) | (apply w_cond; (focus ((try simp only [simB0, simB1, SA, SV, SN, SR, SL, pick_bool, Nat.reduceEqDiff, ↓reduceIte, Nat.reduceAdd, Nat.reduceLeDiff]); (try with_reducible rfl); done)); all_goals (intro _hg; (try simp only [Bool.not_eq_true', Bool.not_eq_false', Bool.not_not, decide_eq_true_eq, decide_eq_false_iff_not] at _hg); try (exfalso; omega))) | (refine e_ends rfl ?_) | (apply r_1; (focus (simp only [rv, simB0, simB1, SA, SV, SN, SR, SL, pick_bool, Nat.reduceEqDiff, ↓reduceIte, Nat.reduceAdd, Nat.reduceLeDiff]; with_reducible rfl))))
  · refine ⟨k + 1, ⟨by omega, by omega⟩, by omega, ?_, rfl, rfl⟩
    rw [take_succ' (by omega), List.foldl_append]
    simp (disch := omega) only [agr, SA, Nat.reduceEqDiff, ↓reduceIte, wrap64, Int.natCast_add, Int.natCast_one, Int.natCast_zero, and_true, and_self, List.foldl_cons, List.foldl_nil]
  · rw [List.take_of_length_le (by omega)]; exact .int _ _

theorem min_c (l : List Int) (hl : Sh l) (h0 : l ≠ []) : Pure Try.prog 51 [encV l] (.int .i64 (l.foldl min (l.getD 0 default))) := by
  refine Pure.of_c2 follows is51 (Nat.le_of_ble_eq_true rfl) ?_
  simp only [b51]
  have hpos := List.length_pos_iff.2 h0
  repeat' (first | refine w_seq ?_ | refine w_ops0 ?_ | refine w_block ?_ | refine w_skip ?_ | refine a_n ?_ | refine o_nil ?_ | (apply o_val rfl rfl; (focus ((try simp (disch := omega) only [simB0, simB1, SA, SV, SN, SR, SL, pick_bool, Nat.reduceEqDiff, ↓reduceIte, Nat.reduceAdd, Nat.reduceLeDiff, SO, one_encV, one_encVV, Bool.and_self, Bool.false_eq_true, reduceCtorEq, wrap64, aixS_encV, aixS_encVV, alenS_encV, alenS_encVV, Int.toNat_natCast, List.length_map, aixS_msl, getElem?_map_lt, Nat.mul_one]); first | with_reducible rfl | (apply s_ite; (focus omega); with_reducible rfl)))) | (apply w_cond; (focus ((try simp only [simB0, simB1, SA, SV, SN, SR, SL, pick_bool, Nat.reduceEqDiff, ↓reduceIte, Nat.reduceAdd, Nat.reduceLeDiff]); (try with_reducible rfl); done)); all_goals (intro _hg; (try simp only [Bool.not_eq_true', Bool.not_eq_false', Bool.not_not, decide_eq_true_eq, decide_eq_false_iff_not] at _hg); try (exfalso; omega))) | refine w_loop ?_)
  refine loop0 (X := Nat) (fun k => [(0, encV l), (3, .int .i64 ((l.take k).foldl min (l.getD 0 default))), (4, .int .i64 k)]) (fun k => k ≤ l.length ∧ 1 ≤ k) (fun k => l.length - k) 1 ⟨hpos, Nat.le_refl _⟩ (by simp (disch := omega) only [agr, SA, Nat.reduceEqDiff, ↓reduceIte, wrap64, Int.natCast_add, Int.natCast_one, Int.natCast_zero, and_true, and_self, take_one hpos, List.foldl_cons, List.foldl_nil, Int.min_self, Int.toNat_zero]) ?_
  rintro k ⟨h1, h2⟩
  repeat' (first | refine w_seq ?_ | refine w_ops0 ?_ | refine w_block ?_ | refine w_skip ?_ | refine w_exit ?_ | refine w_ret ?_ | refine a_n ?_ | refine a_x ?_ | refine o_nil ?_ | (apply o_val rfl rfl; (focus ((try simp (disch := omega) only [simB0, simB1, SA, SV, SN, SR, SL, pick_bool, Nat.reduceEqDiff, ↓reduceIte, Nat.reduceAdd, Nat.reduceLeDiff, SO, one_encV, one_encVV, Bool.and_self, Bool.false_eq_true, reduceCtorEq, wrap64, aixS_encV, aixS_encVV, alenS_encV, alenS_encVV, Int.toNat_natCast, List.length_map, aixS_msl, getElem?_map_lt, Nat.mul_one]); first | with_reducible rfl | (apply s_ite; (focus omega); with_reducible rfl)))) | (apply w_cond; (focus ((try simp only [simB0, simB1, SA, SV, SN, SR, SL, pick_bool, Nat.reduceEqDiff, ↓reduceIte, Nat.reduceAdd, Nat.reduceLeDiff]); (try with_reducible rfl); done)); all_goals (intro _hg; (try simp only [Bool.not_eq_true', Bool.not_eq_false', Bool.not_not, decide_eq_true_eq, decide_eq_false_iff_not] at _hg); try (exfalso; omega))) | (refine e_ends rfl ?_) | (apply r_1; (focus (simp only [rv, simB0, simB1, SA, SV, SN, SR, SL, pick_bool, Nat.reduceEqDiff, ↓reduceIte, Nat.reduceAdd, Nat.reduceLeDiff]; with_reducible rfl))))
  · refine ⟨k + 1, ⟨by omega, by omega⟩, by omega, ?_, rfl, rfl⟩
    rw [take_succ' (by omega), List.foldl_append]
    simp (disch := omega) only [agr, SA, Nat.reduceEqDiff, ↓reduceIte, wrap64, Int.natCast_add, Int.natCast_one, Int.natCast_zero, and_true, and_self, List.foldl_cons, List.foldl_nil]
  · rw [List.take_of_length_le (by omega)]; exact .int _ _

theorem cloneF_c (l : List Int) (hl : Sh l) : PureF Try.prog 32 [encV l] (encV l) := by
  refine PureF.of_c2 follows is32 (Nat.le_of_ble_eq_true rfl) ?_
  simp only [b32]
  repeat' (first | refine w_seq ?_ | refine w_ops0 ?_ | refine a_n ?_ | refine o_nil ?_ | (apply o_val rfl rfl; (focus ((try simp (disch := omega) only [simB0, simB1, SA, SV, SN, SR, SL, pick_bool, Nat.reduceEqDiff, ↓reduceIte, Nat.reduceAdd, Nat.reduceLeDiff, SO, one_encV, one_encVV, Bool.and_self, Bool.false_eq_true, reduceCtorEq, wrap64, aixS_encV, aixS_encVV, alenS_encV, alenS_encVV, Int.toNat_natCast, List.length_map, aixS_msl, getElem?_map_lt, Nat.mul_one]); first | with_reducible rfl | (apply s_ite; (focus omega); with_reducible rfl)))))
  refine o_snil (k := l.length) (by ((try simp only [simB0, simB1, SA, SV, SN, SR, SL, pick_bool, Nat.reduceEqDiff, ↓reduceIte, Nat.reduceAdd, Nat.reduceLeDiff]); (try with_reducible rfl)); exact alenN_encV) (fun h => ?_) (fun h => ?_) (fun h => ?_)
  repeat' (first | refine w_seq ?_ | refine w_ops0 ?_ | refine w_skip ?_ | refine w_ret ?_ | refine a_n ?_ | refine a_r ?_ | refine o_nil ?_ | (apply o_val rfl rfl; (focus ((try simp (disch := omega) only [simB0, simB1, SA, SV, SN, SR, SL, pick_bool, Nat.reduceEqDiff, ↓reduceIte, Nat.reduceAdd, Nat.reduceLeDiff, SO, one_encV, one_encVV, Bool.and_self, Bool.false_eq_true, reduceCtorEq, wrap64, aixS_encV, aixS_encVV, alenS_encV, alenS_encVV, Int.toNat_natCast, List.length_map, aixS_msl, getElem?_map_lt, Nat.mul_one]); first | with_reducible rfl | (apply s_ite; (focus omega); with_reducible rfl)))) | refine e_bld0 rfl ?_ | (apply e_app0 rfl; (focus ((try simp only [simB0, simB1, SA, SV, SN, SR, SL, pick_bool, Nat.reduceEqDiff, ↓reduceIte, Nat.reduceAdd, Nat.reduceLeDiff]); (try with_reducible rfl); done)); (focus ((try simp only [simB0, simB1, SA, SV, SN, SR, SL, pick_bool, Nat.reduceEqDiff, ↓reduceIte, Nat.reduceAdd, Nat.reduceLeDiff]); (try with_reducible rfl); done)); (focus (first | exact asrc_encV | exact asrc_encVV | exact asrc_esl | (apply asrc_msl; (focus ((try simp only [simB0, simB1, SA, SV, SN, SR, SL, pick_bool, Nat.reduceEqDiff, ↓reduceIte, Nat.reduceAdd, Nat.reduceLeDiff]); (try with_reducible rfl); done)); (focus ((try simp only [SL, Nat.reduceAdd, Nat.reduceMul, List.length_map]); first | done | omega)); (focus ((try simp only [SL, Nat.reduceAdd, Nat.reduceMul, List.length_map]); first | done | omega))) | exact asrc_sl)); (focus (first | exact ones_int | exact ones_encV | (simp only [SO, Bool.and_self, one_encV, one_encVV]))); (focus ((try simp only [SL, Nat.reduceAdd, Nat.reduceMul, List.length_map]); first | done | omega)); (focus ((try simp only [SL, Nat.reduceAdd, Nat.reduceMul, List.length_map]); first | done | omega))) | (apply w_condT; (focus (simp only [simB0, simB1, SA, SV, SN, SR, SL, pick_bool, Nat.reduceEqDiff, ↓reduceIte, Nat.reduceAdd, Nat.reduceLeDiff]; done))) | (apply w_condF; (focus (simp only [simB0, simB1, SA, SV, SN, SR, SL, pick_bool, Nat.reduceEqDiff, ↓reduceIte, Nat.reduceAdd, Nat.reduceLeDiff]; done))) | (refine e_ends rfl ?_) | (apply r_1; (focus (simp only [rv, simB0, simB1, SA, SV, SN, SR, SL, pick_bool, Nat.reduceEqDiff, ↓reduceIte, Nat.reduceAdd, Nat.reduceLeDiff]; with_reducible rfl))))
  · exact snapF_row hupd_self' (by omega) rfl
  · exact snapF_esl h
  · exact snapF_row hupd_self' (by omega) rfl

/-- a clone that may be written -/
theorem cloneM_c (l : List Int) (hl : Sh l) (h0 : l ≠ []) (H : Hp) (nx : Nat) : Abs.Fn Try.prog 32 [encV l] H nx fun r H' nx' => r = .msl nx l.length 1 0 l.length ∧ H' = hupd H nx (l.map (AV.int .i64)) ∧ nx' = nx + 1 := by
  refine Abs.Fn.of_c2 follows is32 (Nat.le_of_ble_eq_true rfl) ?_
  simp only [b32]
  have hpos := List.length_pos_iff.2 h0
  repeat' (first | refine w_seq ?_ | refine w_ops0 ?_ | refine a_n ?_ | refine o_nil ?_ | (apply o_val rfl rfl; (focus ((try simp (disch := omega) only [simB0, simB1, SA, SV, SN, SR, SL, pick_bool, Nat.reduceEqDiff, ↓reduceIte, Nat.reduceAdd, Nat.reduceLeDiff, SO, one_encV, one_encVV, Bool.and_self, Bool.false_eq_true, reduceCtorEq, wrap64, aixS_encV, aixS_encVV, alenS_encV, alenS_encVV, Int.toNat_natCast, List.length_map, aixS_msl, getElem?_map_lt, Nat.mul_one]); first | with_reducible rfl | (apply s_ite; (focus omega); with_reducible rfl)))))
  refine o_snil (k := l.length) (by ((try simp only [simB0, simB1, SA, SV, SN, SR, SL, pick_bool, Nat.reduceEqDiff, ↓reduceIte, Nat.reduceAdd, Nat.reduceLeDiff]); (try with_reducible rfl)); exact alenN_encV) (fun h => ?_) (fun h => by omega) (fun h => by omega)
  repeat' (first | refine w_seq ?_ | refine w_ops0 ?_ | refine w_skip ?_ | refine w_ret ?_ | refine a_n ?_ | refine o_nil ?_ | (apply o_val rfl rfl; (focus ((try simp (disch := omega) only [simB0, simB1, SA, SV, SN, SR, SL, pick_bool, Nat.reduceEqDiff, ↓reduceIte, Nat.reduceAdd, Nat.reduceLeDiff, SO, one_encV, one_encVV, Bool.and_self, Bool.false_eq_true, reduceCtorEq, wrap64, aixS_encV, aixS_encVV, alenS_encV, alenS_encVV, Int.toNat_natCast, List.length_map, aixS_msl, getElem?_map_lt, Nat.mul_one]); first | with_reducible rfl | (apply s_ite; (focus omega); with_reducible rfl)))) | refine e_bld0 rfl ?_ | (apply e_app0 rfl; (focus ((try simp only [simB0, simB1, SA, SV, SN, SR, SL, pick_bool, Nat.reduceEqDiff, ↓reduceIte, Nat.reduceAdd, Nat.reduceLeDiff]); (try with_reducible rfl); done)); (focus ((try simp only [simB0, simB1, SA, SV, SN, SR, SL, pick_bool, Nat.reduceEqDiff, ↓reduceIte, Nat.reduceAdd, Nat.reduceLeDiff]); (try with_reducible rfl); done)); (focus (first | exact asrc_encV | exact asrc_encVV | exact asrc_esl | (apply asrc_msl; (focus ((try simp only [simB0, simB1, SA, SV, SN, SR, SL, pick_bool, Nat.reduceEqDiff, ↓reduceIte, Nat.reduceAdd, Nat.reduceLeDiff]); (try with_reducible rfl); done)); (focus ((try simp only [SL, Nat.reduceAdd, Nat.reduceMul, List.length_map]); first | done | omega)); (focus ((try simp only [SL, Nat.reduceAdd, Nat.reduceMul, List.length_map]); first | done | omega))) | exact asrc_sl)); (focus (first | exact ones_int | exact ones_encV | (simp only [SO, Bool.and_self, one_encV, one_encVV]))); (focus ((try simp only [SL, Nat.reduceAdd, Nat.reduceMul, List.length_map]); first | done | omega)); (focus ((try simp only [SL, Nat.reduceAdd, Nat.reduceMul, List.length_map]); first | done | omega))) | (apply w_condF; (focus (simp only [simB0, simB1, SA, SV, SN, SR, SL, pick_bool, Nat.reduceEqDiff, ↓reduceIte, Nat.reduceAdd, Nat.reduceLeDiff]; done))) | (refine e_ends rfl ?_) | (apply r_1; (focus (simp only [rv, simB0, simB1, SA, SV, SN, SR, SL, pick_bool, Nat.reduceEqDiff, ↓reduceIte, Nat.reduceAdd, Nat.reduceLeDiff]; with_reducible rfl))))
  exact ⟨rfl, rfl, rfl⟩
end Go.Proofs.Ytcbkggfipdldaaa
