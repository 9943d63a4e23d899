/- Printed by a program: the functions' code without types. -/
import Derived.Test.YtcbkggfipdldaaaProg
import Derived.Test.YtcbkggfipdldaaaXAbsC2
import Derived.KernelRfl
namespace Go.Proofs.Ytcbkggfipdldaaa
open Go Go.Abs Go.Abs.C2 Go.Abs.Ins Go.Abs.Opd Go.Abs.TK Go.Abs.MK

theorem follows : Try.prog.follows .mixedOrders = true := by rfl

/-- roundtable/roundtablelaw12.LibraryApproaches -/
def b3 : F2 := (F2.mk 90 [RV.t 6] ((ops 0 [Op2.mk (some 6) none (mov (c (AV.bool false)))]).seq (((ops 0 [Op2.mk (some 15) none (mov (t 1)),
  Op2.mk (some 16) none (bin BinOp.gtr false false (t 15) (c (AV.int IntKind.i64 (0)))), Op2.mk (some 17) none (mov (t 16)),
  Op2.mk (some 18) (some (17, true)) (mov (t 1)), Op2.mk (some 19) (some (17, true)) (bin BinOp.lss false false (t 18)
  (c (AV.int IntKind.i64 (20)))), Op2.mk (some 20) none (pick (t 17) (t 19) (c (AV.bool false))), Op2.mk (some 21)
  none (mov (t 20)), Op2.mk (some 22) (some (21, true)) (mov (t 0)), Op2.mk (some 23) (some (21, true)) (mov (t 1)),
  Op2.mk (some 24) (some (21, true)) (bin BinOp.add false false (t 23) (c (AV.int IntKind.i64 (1)))), Op2.mk (some 25)
  (some (21, true)) (call (c (AV.func 9 [])) [t 22, c (AV.int IntKind.i64 (2)), t 24]), Op2.mk (some 26) (some (21,
  true)) (un UnOp.not (t 25)), Op2.mk (some 27) none (pick (t 21) (t 26) (c (AV.bool false))), Op2.mk (some 28) none (mov (t 27)),
  Op2.mk (some 29) (some (28, false)) (mov (t 2)), Op2.mk (some 30) (some (28, false)) (bin BinOp.gtr false false (t 29)
  (c (AV.int IntKind.i64 (0)))), Op2.mk (some 31) (some (28, false)) (mov (t 30)), Op2.mk (some 32) (some (31, true))
  (mov (t 2)), Op2.mk (some 33) (some (31, true)) (bin BinOp.lss false false (t 32) (c (AV.int IntKind.i64 (20)))),
  Op2.mk (some 34) (some (28, false)) (pick (t 31) (t 33) (c (AV.bool false))), Op2.mk (some 35) (some (28, false))
  (mov (t 34)), Op2.mk (some 36) (some (35, true)) (mov (t 0)), Op2.mk (some 37) (some (35, true)) (mov (t 2)), Op2.mk (some 38)
  (some (35, true)) (mov (t 2)), Op2.mk (some 39) (some (35, true)) (bin BinOp.add false false (t 38) (c (AV.int IntKind.i64 (1)))),
  Op2.mk (some 40) (some (35, true)) (call (c (AV.func 9 [])) [t 36, t 37, t 39]), Op2.mk (some 41) (some (35, true))
  (un UnOp.not (t 40)), Op2.mk (some 42) (some (28, false)) (pick (t 35) (t 41) (c (AV.bool false))), Op2.mk (some 43)
  none (pick (t 28) (c (AV.bool true)) (t 42))]).seq (C2.cond (t 43) ((ops 0 [Op2.mk (some 44) none (call (c (AV.func 10 []))
  []), Op2.mk (some 6) none (mov (t 44))]).seq ret) skip)).seq ((ops 0 [Op2.mk (some 46) none (mov (t 0)), Op2.mk (some 47)
  none (mov (t 1)), Op2.mk (some 48) none (call (c (AV.func 11 [])) [t 46, t 47]), Op2.mk (some 45) none (mov (t 48)),
  Op2.mk (some 49) none (ext (t 45) 0), Op2.mk (some 50) none (ext (t 45) 1), Op2.mk (some 7) none (alloc (AV.agg [AV.int IntKind.i64 (0),
  AV.int IntKind.i64 (0), AV.int IntKind.i64 (0), AV.esl])), Op2.mk none none (Ins.st 4 (t 7) (t 49)), Op2.mk (some 8)
  none (mov (t 50))]).seq ((ops 0 [Op2.mk (some 52) none (mov (t 0)), Op2.mk (some 53) none (mov (t 1)), Op2.mk (some 54)
  none (call (c (AV.func 12 [])) [t 52, t 53]), Op2.mk (some 51) none (mov (t 54)), Op2.mk (some 55) none (ext (t 51)
  0), Op2.mk (some 56) none (ext (t 51) 1), Op2.mk (some 9) none (alloc (AV.agg [AV.int IntKind.i64 (0), AV.int IntKind.i64 (0),
  AV.int IntKind.i64 (0), AV.esl])), Op2.mk none none (Ins.st 4 (t 9) (t 55)), Op2.mk (some 10) none (mov (t 56))]).seq ((ops 0 [Op2.mk (some 58)
  none (mov (t 0)), Op2.mk (some 59) none (mov (t 2)), Op2.mk (some 60) none (call (c (AV.func 13 [])) [t 58, t 59]),
  Op2.mk (some 57) none (mov (t 60)), Op2.mk (some 61) none (ext (t 57) 0), Op2.mk (some 62) none (ext (t 57) 1),
  Op2.mk (some 11) none (alloc (AV.agg [AV.int IntKind.i64 (0), AV.int IntKind.i64 (0), AV.int IntKind.i64 (0), AV.esl])),
  Op2.mk none none (Ins.st 4 (t 11) (t 61)), Op2.mk (some 12) none (mov (t 62))]).seq ((ops 0 [Op2.mk (some 64) none (mov (t 0)),
  Op2.mk (some 65) none (mov (t 2)), Op2.mk (some 66) none (call (c (AV.func 14 [])) [t 64, t 65]), Op2.mk (some 63)
  none (mov (t 66)), Op2.mk (some 67) none (ext (t 63) 0), Op2.mk (some 68) none (ext (t 63) 1), Op2.mk (some 13)
  none (alloc (AV.agg [AV.int IntKind.i64 (0), AV.int IntKind.i64 (0), AV.int IntKind.i64 (0), AV.esl])), Op2.mk none none (Ins.st 4 (t 13)
  (t 67)), Op2.mk (some 14) none (mov (t 68))]).seq ((ops 0 [Op2.mk (some 69) none (ldn 4 (t 7)), Op2.mk (some 70)
  none (ldn 4 (t 9)), Op2.mk (some 71) none (call (c (AV.func 15 [])) [t 69, t 70]), Op2.mk (some 72) none (mov (t 71)),
  Op2.mk (some 73) (some (72, true)) (mov (t 8)), Op2.mk (some 74) (some (72, true)) (mov (t 10)), Op2.mk (some 75)
  (some (72, true)) (bin BinOp.eql false false (t 73) (t 74)), Op2.mk (some 76) none (pick (t 72) (t 75) (c (AV.bool false))),
  Op2.mk (some 77) none (mov (t 76)), Op2.mk (some 78) (some (77, true)) (ldn 4 (t 11)), Op2.mk (some 79) (some (77,
  true)) (ldn 4 (t 13)), Op2.mk (some 80) (some (77, true)) (call (c (AV.func 15 [])) [t 78, t 79]), Op2.mk (some 81)
  none (pick (t 77) (t 80) (c (AV.bool false))), Op2.mk (some 82) none (mov (t 81)), Op2.mk (some 83) (some (82, true))
  (mov (t 12)), Op2.mk (some 84) (some (82, true)) (mov (t 14)), Op2.mk (some 85) (some (82, true)) (bin BinOp.eql false false (t 83)
  (t 84)), Op2.mk (some 86) none (pick (t 82) (t 85) (c (AV.bool false))), Op2.mk (some 87) none (mov (t 86)), Op2.mk (some 88)
  (some (87, true)) (call (c (AV.func 10 [])) []), Op2.mk (some 89) none (pick (t 87) (t 88) (c (AV.bool false))),
  Op2.mk (some 6) none (mov (t 89))]).seq ret))))))))
theorem is3 : Is Try.prog 3 b3 := Is.mk' Try.func3 (by kernel_rfl)

/-- roundtable/roundtablelaw12.LibraryAgrees -/
def b4 : F2 := (F2.mk 68 [RV.t 6] ((ops 0 [Op2.mk (some 6) none (mov (c (AV.bool false)))]).seq (((ops 0 [Op2.mk (some 15) none (mov (t 0)),
  Op2.mk (some 16) none (mov (t 1)), Op2.mk (some 17) none (mov (t 1)), Op2.mk (some 18) none (call (c (AV.func 9 []))
  [t 15, t 16, t 17]), Op2.mk (some 19) none (un UnOp.not (t 18))]).seq (C2.cond (t 19) ((ops 0 [Op2.mk (some 20)
  none (call (c (AV.func 10 [])) []), Op2.mk (some 6) none (mov (t 20))]).seq ret) skip)).seq ((ops 0 [Op2.mk (some 22)
  none (mov (t 0)), Op2.mk (some 23) none (mov (t 1)), Op2.mk (some 24) none (call (c (AV.func 16 [])) [t 22, t 23]),
  Op2.mk (some 21) none (mov (t 24)), Op2.mk (some 25) none (ext (t 21) 0), Op2.mk (some 26) none (ext (t 21) 1),
  Op2.mk (some 7) none (alloc (AV.agg [AV.int IntKind.i64 (0), AV.int IntKind.i64 (0), AV.int IntKind.i64 (0), AV.esl])),
  Op2.mk none none (Ins.st 4 (t 7) (t 25)), Op2.mk (some 8) none (mov (t 26))]).seq ((ops 0 [Op2.mk (some 28) none (mov (t 0)),
  Op2.mk (some 29) none (mov (t 1)), Op2.mk (some 30) none (call (c (AV.func 17 [])) [t 28, t 29]), Op2.mk (some 27)
  none (mov (t 30)), Op2.mk (some 31) none (ext (t 27) 0), Op2.mk (some 32) none (ext (t 27) 1), Op2.mk (some 9) none (alloc (AV.agg [AV.int IntKind.i64 (0),
  AV.int IntKind.i64 (0), AV.int IntKind.i64 (0), AV.esl])), Op2.mk none none (Ins.st 4 (t 9) (t 31)), Op2.mk (some 10)
  none (mov (t 32))]).seq ((ops 0 [Op2.mk (some 34) none (mov (t 0)), Op2.mk (some 35) none (mov (t 1)), Op2.mk (some 36)
  none (mov (t 2)), Op2.mk (some 37) none (call (c (AV.func 18 [])) [t 34, t 35, t 36]), Op2.mk (some 33) none (mov (t 37)),
  Op2.mk (some 38) none (ext (t 33) 0), Op2.mk (some 39) none (ext (t 33) 1), Op2.mk (some 11) none (alloc (AV.agg [AV.int IntKind.i64 (0),
  AV.int IntKind.i64 (0), AV.int IntKind.i64 (0), AV.esl])), Op2.mk none none (Ins.st 4 (t 11) (t 38)), Op2.mk (some 12)
  none (mov (t 39))]).seq ((ops 0 [Op2.mk (some 41) none (mov (t 0)), Op2.mk (some 42) none (mov (t 1)), Op2.mk (some 43)
  none (mov (t 2)), Op2.mk (some 44) none (call (c (AV.func 19 [])) [t 41, t 42, t 43]), Op2.mk (some 40) none (mov (t 44)),
  Op2.mk (some 45) none (ext (t 40) 0), Op2.mk (some 46) none (ext (t 40) 1), Op2.mk (some 13) none (alloc (AV.agg [AV.int IntKind.i64 (0),
  AV.int IntKind.i64 (0), AV.int IntKind.i64 (0), AV.esl])), Op2.mk none none (Ins.st 4 (t 13) (t 45)), Op2.mk (some 14)
  none (mov (t 46))]).seq ((ops 0 [Op2.mk (some 47) none (ldn 4 (t 7)), Op2.mk (some 48) none (ldn 4 (t 9)), Op2.mk (some 49)
  none (call (c (AV.func 15 [])) [t 47, t 48]), Op2.mk (some 50) none (mov (t 49)), Op2.mk (some 51) (some (50, true))
  (mov (t 8)), Op2.mk (some 52) (some (50, true)) (mov (t 10)), Op2.mk (some 53) (some (50, true)) (bin BinOp.eql false false (t 51)
  (t 52)), Op2.mk (some 54) none (pick (t 50) (t 53) (c (AV.bool false))), Op2.mk (some 55) none (mov (t 54)), Op2.mk (some 56)
  (some (55, true)) (ldn 4 (t 11)), Op2.mk (some 57) (some (55, true)) (ldn 4 (t 13)), Op2.mk (some 58) (some (55,
  true)) (call (c (AV.func 15 [])) [t 56, t 57]), Op2.mk (some 59) none (pick (t 55) (t 58) (c (AV.bool false))),
  Op2.mk (some 60) none (mov (t 59)), Op2.mk (some 61) (some (60, true)) (mov (t 12)), Op2.mk (some 62) (some (60,
  true)) (mov (t 14)), Op2.mk (some 63) (some (60, true)) (bin BinOp.eql false false (t 61) (t 62)), Op2.mk (some 64)
  none (pick (t 60) (t 63) (c (AV.bool false))), Op2.mk (some 65) none (mov (t 64)), Op2.mk (some 66) (some (65, true))
  (call (c (AV.func 10 [])) []), Op2.mk (some 67) none (pick (t 65) (t 66) (c (AV.bool false))), Op2.mk (some 6) none (mov (t 67))]).seq ret))))))))
theorem is4 : Is Try.prog 4 b4 := Is.mk' Try.func4 (by kernel_rfl)

/-- roundtable/roundtablelaw12.LibraryGets -/
def b5 : F2 := (F2.mk 51 [RV.t 4] ((ops 0 [Op2.mk (some 3) none (box (t 1)), Op2.mk (some 4) none (mov (c (AV.bool false)))]).seq (((ops 0 [Op2.mk (some 9)
  none (mov (t 0)), Op2.mk (some 10) none (lenStr (t 9)), Op2.mk (some 11) none (bin BinOp.gtr false false (t 10)
  (c (AV.int IntKind.i64 (100)))), Op2.mk (some 12) none (mov (t 11)), Op2.mk (some 13) (some (12, false)) (ldn 3 (t 3)),
  Op2.mk (some 14) (some (12, false)) (call (c (AV.func 20 [])) [t 13]), Op2.mk (some 15) (some (12, false)) (un UnOp.not (t 14)),
  Op2.mk (some 16) none (pick (t 12) (c (AV.bool true)) (t 15))]).seq (C2.cond (t 16) ((ops 0 [Op2.mk (some 17) none (call (c (AV.func 10 []))
  []), Op2.mk (some 4) none (mov (t 17))]).seq ret) skip)).seq ((ops 0 [Op2.mk (some 19) none (mov (t 0)), Op2.mk (some 20)
  none (fa 0 (t 3)), Op2.mk (some 21) none (ld1 (t 20)), Op2.mk (some 22) none (fa 1 (t 3)), Op2.mk (some 23) none (ld1 (t 22)),
  Op2.mk (some 24) none (fa 2 (t 3)), Op2.mk (some 25) none (ld1 (t 24)), Op2.mk (some 26) none (call (c (AV.func 21 []))
  [t 19, t 21, t 23, t 25]), Op2.mk (some 18) none (mov (t 26)), Op2.mk (some 27) none (ext (t 18) 0), Op2.mk (some 28)
  none (ext (t 18) 1), Op2.mk (some 5) none (alloc (AV.agg [AV.int IntKind.i64 (0), AV.int IntKind.i64 (0), AV.int IntKind.i64 (0),
  AV.esl])), Op2.mk none none (Ins.st 4 (t 5) (t 27)), Op2.mk (some 6) none (mov (t 28))]).seq ((ops 0 [Op2.mk (some 30)
  none (mov (t 0)), Op2.mk (some 31) none (fa 0 (t 3)), Op2.mk (some 32) none (ld1 (t 31)), Op2.mk (some 33) none (fa 1 (t 3)),
  Op2.mk (some 34) none (ld1 (t 33)), Op2.mk (some 35) none (fa 2 (t 3)), Op2.mk (some 36) none (ld1 (t 35)), Op2.mk (some 37)
  none (call (c (AV.func 22 [])) [t 30, t 32, t 34, t 36]), Op2.mk (some 29) none (mov (t 37)), Op2.mk (some 38) none (ext (t 29)
  0), Op2.mk (some 39) none (ext (t 29) 1), Op2.mk (some 7) none (alloc (AV.agg [AV.int IntKind.i64 (0), AV.int IntKind.i64 (0),
  AV.int IntKind.i64 (0), AV.esl])), Op2.mk none none (Ins.st 4 (t 7) (t 38)), Op2.mk (some 8) none (mov (t 39))]).seq ((ops 0 [Op2.mk (some 40)
  none (ldn 4 (t 5)), Op2.mk (some 41) none (ldn 4 (t 7)), Op2.mk (some 42) none (call (c (AV.func 15 [])) [t 40,
  t 41]), Op2.mk (some 43) none (mov (t 42)), Op2.mk (some 44) (some (43, true)) (mov (t 6)), Op2.mk (some 45) (some (43,
  true)) (mov (t 8)), Op2.mk (some 46) (some (43, true)) (bin BinOp.eql false false (t 44) (t 45)), Op2.mk (some 47)
  none (pick (t 43) (t 46) (c (AV.bool false))), Op2.mk (some 48) none (mov (t 47)), Op2.mk (some 49) (some (48, true))
  (call (c (AV.func 10 [])) []), Op2.mk (some 50) none (pick (t 48) (t 49) (c (AV.bool false))), Op2.mk (some 4) none (mov (t 50))]).seq ret))))))
theorem is5 : Is Try.prog 5 b5 := Is.mk' Try.func5 (by kernel_rfl)

/-- roundtable/roundtableref12.Few -/
def b9 : F2 := (F2.mk 37 [RV.t 6] ((ops 0 [Op2.mk (some 6) none (mov (c (AV.bool false)))]).seq (((ops 0 [Op2.mk (some 7) none (mov (t 0)),
  Op2.mk (some 8) none (bin BinOp.lss false false (t 7) (c (AV.int IntKind.i64 (1)))), Op2.mk (some 9) none (mov (t 8)),
  Op2.mk (some 10) (some (9, false)) (mov (t 0)), Op2.mk (some 11) (some (9, false)) (bin BinOp.gtr false false (t 10)
  (c (AV.int IntKind.i64 (5)))), Op2.mk (some 12) none (pick (t 9) (c (AV.bool true)) (t 11)), Op2.mk (some 13) none (mov (t 12)),
  Op2.mk (some 14) (some (13, false)) (mov (t 1)), Op2.mk (some 15) (some (13, false)) (bin BinOp.lss false false (t 14)
  (c (AV.int IntKind.i64 (1)))), Op2.mk (some 16) none (pick (t 13) (c (AV.bool true)) (t 15)), Op2.mk (some 17) none (mov (t 16)),
  Op2.mk (some 18) (some (17, false)) (mov (t 1)), Op2.mk (some 19) (some (17, false)) (bin BinOp.gtr false false (t 18)
  (c (AV.int IntKind.i64 (8)))), Op2.mk (some 20) none (pick (t 17) (c (AV.bool true)) (t 19)), Op2.mk (some 21) none (mov (t 20)),
  Op2.mk (some 22) (some (21, false)) (mov (t 2)), Op2.mk (some 23) (some (21, false)) (bin BinOp.lss false false (t 22)
  (c (AV.int IntKind.i64 (1)))), Op2.mk (some 24) none (pick (t 21) (c (AV.bool true)) (t 23)), Op2.mk (some 25) none (mov (t 24)),
  Op2.mk (some 26) (some (25, false)) (mov (t 2)), Op2.mk (some 27) (some (25, false)) (bin BinOp.gtr false false (t 26)
  (c (AV.int IntKind.i64 (8)))), Op2.mk (some 28) none (pick (t 25) (c (AV.bool true)) (t 27))]).seq (C2.cond (t 28)
  ((ops 0 [Op2.mk (some 6) none (mov (c (AV.bool true)))]).seq ret) skip)).seq ((ops 0 [Op2.mk (some 29) none (mov (t 1)),
  Op2.mk (some 30) none (mov (t 0)), Op2.mk (some 31) none (call (c (AV.func 43 [])) [t 29, t 30, c (AV.int IntKind.i64 (1000))]),
  Op2.mk (some 32) none (mov (t 2)), Op2.mk (some 33) none (mov (t 0)), Op2.mk (some 34) none (call (c (AV.func 43 []))
  [t 32, t 33, c (AV.int IntKind.i64 (1000))]), Op2.mk (some 35) none (bin BinOp.mul false false (t 31) (t 34)), Op2.mk (some 36)
  none (bin BinOp.leq false false (t 35) (c (AV.int IntKind.i64 (3000)))), Op2.mk (some 6) none (mov (t 36))]).seq ret))))
theorem is9 : Is Try.prog 9 b9 := Is.mk' Try.func9 (by kernel_rfl)

/-- roundtable/roundtablelaw12.awake -/
def b10 : F2 := (F2.mk 192 [RV.t 0] ((ops 0 [Op2.mk (some 0) none (mov (c (AV.bool false)))]).seq ((ops 0 [Op2.mk (some 16) none (call (c (AV.func 16 []))
  [c (AV.int IntKind.i64 (2)), c (AV.int IntKind.i64 (2))]), Op2.mk (some 15) none (mov (t 16)), Op2.mk (some 17)
  none (ext (t 15) 0), Op2.mk (some 18) none (ext (t 15) 1), Op2.mk (some 1) none (alloc (AV.agg [AV.int IntKind.i64 (0),
  AV.int IntKind.i64 (0), AV.int IntKind.i64 (0), AV.esl])), Op2.mk none none (Ins.st 4 (t 1) (t 17)), Op2.mk (some 2)
  none (mov (t 18))]).seq ((ops 0 [Op2.mk (some 20) none (call (c (AV.func 11 [])) [c (AV.int IntKind.i64 (2)), c (AV.int IntKind.i64 (3))]),
  Op2.mk (some 19) none (mov (t 20)), Op2.mk (some 21) none (ext (t 19) 0), Op2.mk (some 22) none (ext (t 19) 1),
  Op2.mk (some 3) none (alloc (AV.agg [AV.int IntKind.i64 (0), AV.int IntKind.i64 (0), AV.int IntKind.i64 (0), AV.esl])),
  Op2.mk none none (Ins.st 4 (t 3) (t 21)), Op2.mk (some 4) none (mov (t 22))]).seq ((ops 0 [Op2.mk (some 24) none (call (c (AV.func 35 []))
  [c (AV.int IntKind.i64 (2)), c (AV.int IntKind.i64 (3)), c (AV.int IntKind.i64 (3))]), Op2.mk (some 23) none (mov (t 24)),
  Op2.mk (some 25) none (ext (t 23) 0), Op2.mk (some 26) none (ext (t 23) 1), Op2.mk (some 5) none (alloc (AV.agg [AV.int IntKind.i64 (0),
  AV.int IntKind.i64 (0), AV.int IntKind.i64 (0), AV.esl])), Op2.mk none none (Ins.st 4 (t 5) (t 25)), Op2.mk (some 6)
  none (mov (t 26))]).seq ((ops 0 [Op2.mk (some 28) none (call (c (AV.func 35 [])) [c (AV.int IntKind.i64 (3)), c (AV.int IntKind.i64 (3)),
  c (AV.int IntKind.i64 (2))]), Op2.mk (some 27) none (mov (t 28)), Op2.mk (some 29) none (ext (t 27) 0), Op2.mk (some 30)
  none (ext (t 27) 1), Op2.mk (some 7) none (alloc (AV.agg [AV.int IntKind.i64 (0), AV.int IntKind.i64 (0), AV.int IntKind.i64 (0),
  AV.esl])), Op2.mk none none (Ins.st 4 (t 7) (t 29)), Op2.mk (some 8) none (mov (t 30))]).seq ((ops 0 [Op2.mk (some 32)
  none (call (c (AV.func 35 [])) [c (AV.int IntKind.i64 (3)), c (AV.int IntKind.i64 (2)), c (AV.int IntKind.i64 (3))]),
  Op2.mk (some 31) none (mov (t 32)), Op2.mk (some 33) none (ext (t 31) 0), Op2.mk (some 34) none (ext (t 31) 1),
  Op2.mk (some 9) none (alloc (AV.agg [AV.int IntKind.i64 (0), AV.int IntKind.i64 (0), AV.int IntKind.i64 (0), AV.esl])),
  Op2.mk none none (Ins.st 4 (t 9) (t 33)), Op2.mk (some 10) none (mov (t 34))]).seq ((ops 0 [Op2.mk (some 36) none (call (c (AV.func 13 []))
  [c (AV.int IntKind.i64 (2)), c (AV.int IntKind.i64 (2))]), Op2.mk (some 35) none (mov (t 36)), Op2.mk (some 37)
  none (ext (t 35) 0), Op2.mk (some 38) none (ext (t 35) 1), Op2.mk (some 11) none (alloc (AV.agg [AV.int IntKind.i64 (0),
  AV.int IntKind.i64 (0), AV.int IntKind.i64 (0), AV.esl])), Op2.mk none none (Ins.st 4 (t 11) (t 37)), Op2.mk (some 12)
  none (mov (t 38))]).seq ((ops 0 [Op2.mk (some 40) none (call (c (AV.func 23 [])) [c (AV.int IntKind.i64 (2))]),
  Op2.mk (some 39) none (mov (t 40)), Op2.mk (some 41) none (ext (t 39) 0), Op2.mk (some 42) none (ext (t 39) 1),
  Op2.mk (some 13) none (alloc (AV.agg [AV.int IntKind.i64 (0), AV.int IntKind.i64 (0), AV.int IntKind.i64 (0), AV.esl])),
  Op2.mk none none (Ins.st 4 (t 13) (t 41)), Op2.mk (some 14) none (mov (t 42))]).seq (((ops 0 [Op2.mk (some 43) none (mov (t 2)),
  Op2.mk (some 44) none (mov (t 4)), Op2.mk (some 45) none (bin BinOp.add false false (t 43) (t 44)), Op2.mk (some 46)
  none (mov (t 6)), Op2.mk (some 47) none (bin BinOp.add false false (t 45) (t 46)), Op2.mk (some 48) none (mov (t 12)),
  Op2.mk (some 49) none (bin BinOp.add false false (t 47) (t 48)), Op2.mk (some 50) none (mov (t 14)), Op2.mk (some 51)
  none (bin BinOp.add false false (t 49) (t 50)), Op2.mk (some 52) none (bin BinOp.neq false false (t 51) (c (AV.int IntKind.i64 (0)))),
  Op2.mk (some 53) none (mov (t 52)), Op2.mk (some 54) (some (53, false)) (mov (t 8)), Op2.mk (some 55) (some (53,
  false)) (bin BinOp.neq false false (t 54) (c (AV.int IntKind.i64 (16)))), Op2.mk (some 56) none (pick (t 53) (c (AV.bool true))
  (t 55)), Op2.mk (some 57) none (mov (t 56)), Op2.mk (some 58) (some (57, false)) (mov (t 10)), Op2.mk (some 59)
  (some (57, false)) (bin BinOp.neq false false (t 58) (c (AV.int IntKind.i64 (16)))), Op2.mk (some 60) none (pick (t 57)
  (c (AV.bool true)) (t 59)), Op2.mk (some 61) none (mov (t 60)), Op2.mk (some 62) (some (61, false)) (fa 3 (t 1)),
  Op2.mk (some 63) (some (61, false)) (ld1 (t 62)), Op2.mk (some 64) (some (61, false)) (lenS (t 63)), Op2.mk (some 65)
  (some (61, false)) (bin BinOp.neq false false (t 64) (c (AV.int IntKind.i64 (4)))), Op2.mk (some 66) none (pick (t 61)
  (c (AV.bool true)) (t 65)), Op2.mk (some 67) none (mov (t 66)), Op2.mk (some 68) (some (67, false)) (fa 3 (t 3)),
  Op2.mk (some 69) (some (67, false)) (ld1 (t 68)), Op2.mk (some 70) (some (67, false)) (lenS (t 69)), Op2.mk (some 71)
  (some (67, false)) (bin BinOp.neq false false (t 70) (c (AV.int IntKind.i64 (4)))), Op2.mk (some 72) none (pick (t 67)
  (c (AV.bool true)) (t 71)), Op2.mk (some 73) none (mov (t 72)), Op2.mk (some 74) (some (73, false)) (fa 3 (t 5)),
  Op2.mk (some 75) (some (73, false)) (ld1 (t 74)), Op2.mk (some 76) (some (73, false)) (lenS (t 75)), Op2.mk (some 77)
  (some (73, false)) (bin BinOp.neq false false (t 76) (c (AV.int IntKind.i64 (6)))), Op2.mk (some 78) none (pick (t 73)
  (c (AV.bool true)) (t 77)), Op2.mk (some 79) none (mov (t 78)), Op2.mk (some 80) (some (79, false)) (fa 3 (t 11)),
  Op2.mk (some 81) (some (79, false)) (ld1 (t 80)), Op2.mk (some 82) (some (79, false)) (lenS (t 81)), Op2.mk (some 83)
  (some (79, false)) (bin BinOp.neq false false (t 82) (c (AV.int IntKind.i64 (4)))), Op2.mk (some 84) none (pick (t 79)
  (c (AV.bool true)) (t 83)), Op2.mk (some 85) none (mov (t 84)), Op2.mk (some 86) (some (85, false)) (fa 3 (t 13)),
  Op2.mk (some 87) (some (85, false)) (ld1 (t 86)), Op2.mk (some 88) (some (85, false)) (lenS (t 87)), Op2.mk (some 89)
  (some (85, false)) (bin BinOp.neq false false (t 88) (c (AV.int IntKind.i64 (4)))), Op2.mk (some 90) none (pick (t 85)
  (c (AV.bool true)) (t 89))]).seq (C2.cond (t 90) ((ops 0 [Op2.mk (some 0) none (mov (c (AV.bool false)))]).seq ret)
  skip)).seq ((ops 0 [Op2.mk (some 91) none (fa 3 (t 1)), Op2.mk (some 92) none (ld1 (t 91)), Op2.mk (some 93) none (ixaS 3 (t 92)
  (c (AV.int IntKind.i64 (1)))), Op2.mk (some 94) none (fa 1 (t 93)), Op2.mk (some 95) none (ld1 (t 94)), Op2.mk (some 96)
  none (bldS 1 2 [AV.int IntKind.i64 (0)] [(0, 1, c (AV.int IntKind.i64 (0))), (1, 1, c (AV.int IntKind.i64 (0)))]),
  Op2.mk (some 97) none (bldS 1 2 [AV.int IntKind.i64 (0)] [(0, 1, c (AV.int IntKind.i64 (1))), (1, 1, c (AV.int IntKind.i64 (1)))]),
  Op2.mk (some 98) none (bldS 1 2 [AV.esl] [(0, 1, t 96), (1, 1, t 97)]), Op2.mk (some 99) none (call (c (AV.func 44 []))
  [t 95, t 98]), Op2.mk (some 100) none (mov (t 99)), Op2.mk (some 101) (some (100, true)) (fa 3 (t 1)), Op2.mk (some 102)
  (some (100, true)) (ld1 (t 101)), Op2.mk (some 103) (some (100, true)) (ixaS 3 (t 102) (c (AV.int IntKind.i64 (3)))),
  Op2.mk (some 104) (some (100, true)) (fa 1 (t 103)), Op2.mk (some 105) (some (100, true)) (ld1 (t 104)), Op2.mk (some 106)
  (some (100, true)) (lenS (t 105)), Op2.mk (some 107) (some (100, true)) (bin BinOp.eql false false (t 106) (c (AV.int IntKind.i64 (1)))),
  Op2.mk (some 108) none (pick (t 100) (t 107) (c (AV.bool false))), Op2.mk (some 109) none (mov (t 108)), Op2.mk (some 110)
  (some (109, true)) (fa 3 (t 1)), Op2.mk (some 111) (some (109, true)) (ld1 (t 110)), Op2.mk (some 112) (some (109,
  true)) (ixaS 3 (t 111) (c (AV.int IntKind.i64 (1)))), Op2.mk (some 113) (some (109, true)) (fa 2 (t 112)), Op2.mk (some 114)
  (some (109, true)) (ld1 (t 113)), Op2.mk (some 115) (some (109, true)) (lenS (t 114)), Op2.mk (some 116) (some (109,
  true)) (bin BinOp.eql false false (t 115) (c (AV.int IntKind.i64 (0)))), Op2.mk (some 117) none (pick (t 109) (t 116)
  (c (AV.bool false))), Op2.mk (some 118) none (mov (t 117)), Op2.mk (some 119) (some (118, true)) (fa 3 (t 3)), Op2.mk (some 120)
  (some (118, true)) (ld1 (t 119)), Op2.mk (some 121) (some (118, true)) (ixaS 3 (t 120) (c (AV.int IntKind.i64 (1)))),
  Op2.mk (some 122) (some (118, true)) (fa 1 (t 121)), Op2.mk (some 123) (some (118, true)) (ld1 (t 122)), Op2.mk (some 124)
  (some (118, true)) (lenS (t 123)), Op2.mk (some 125) (some (118, true)) (bin BinOp.eql false false (t 124) (c (AV.int IntKind.i64 (10)))),
  Op2.mk (some 126) none (pick (t 118) (t 125) (c (AV.bool false))), Op2.mk (some 127) none (mov (t 126)), Op2.mk (some 128)
  (some (127, true)) (fa 3 (t 3)), Op2.mk (some 129) (some (127, true)) (ld1 (t 128)), Op2.mk (some 130) (some (127,
  true)) (ixaS 3 (t 129) (c (AV.int IntKind.i64 (3)))), Op2.mk (some 131) (some (127, true)) (fa 1 (t 130)), Op2.mk (some 132)
  (some (127, true)) (ld1 (t 131)), Op2.mk (some 133) (some (127, true)) (lenS (t 132)), Op2.mk (some 134) (some (127,
  true)) (bin BinOp.eql false false (t 133) (c (AV.int IntKind.i64 (1)))), Op2.mk (some 135) none (pick (t 127) (t 134)
  (c (AV.bool false))), Op2.mk (some 136) none (mov (t 135)), Op2.mk (some 137) (some (136, true)) (fa 3 (t 5)), Op2.mk (some 138)
  (some (136, true)) (ld1 (t 137)), Op2.mk (some 139) (some (136, true)) (ixaS 3 (t 138) (c (AV.int IntKind.i64 (0)))),
  Op2.mk (some 140) (some (136, true)) (fa 1 (t 139)), Op2.mk (some 141) (some (136, true)) (ld1 (t 140)), Op2.mk (some 142)
  (some (136, true)) (lenS (t 141)), Op2.mk (some 143) (some (136, true)) (bin BinOp.eql false false (t 142) (c (AV.int IntKind.i64 (6)))),
  Op2.mk (some 144) none (pick (t 136) (t 143) (c (AV.bool false))), Op2.mk (some 145) none (mov (t 144)), Op2.mk (some 146)
  (some (145, true)) (fa 3 (t 11)), Op2.mk (some 147) (some (145, true)) (ld1 (t 146)), Op2.mk (some 148) (some (145,
  true)) (ixaS 3 (t 147) (c (AV.int IntKind.i64 (0)))), Op2.mk (some 149) (some (145, true)) (fa 1 (t 148)), Op2.mk (some 150)
  (some (145, true)) (ld1 (t 149)), Op2.mk (some 151) (some (145, true)) (lenS (t 150)), Op2.mk (some 152) (some (145,
  true)) (bin BinOp.eql false false (t 151) (c (AV.int IntKind.i64 (7)))), Op2.mk (some 153) none (pick (t 145) (t 152)
  (c (AV.bool false))), Op2.mk (some 154) none (mov (t 153)), Op2.mk (some 155) (some (154, true)) (fa 3 (t 11)),
  Op2.mk (some 156) (some (154, true)) (ld1 (t 155)), Op2.mk (some 157) (some (154, true)) (ixaS 3 (t 156) (c (AV.int IntKind.i64 (2)))),
  Op2.mk (some 158) (some (154, true)) (fa 2 (t 157)), Op2.mk (some 159) (some (154, true)) (ld1 (t 158)), Op2.mk (some 160)
  (some (154, true)) (bldS 1 2 [AV.int IntKind.i64 (0)] [(0, 1, c (AV.int IntKind.i64 (1))), (1, 1, c (AV.int IntKind.i64 (1)))]),
  Op2.mk (some 161) (some (154, true)) (bldS 1 1 [AV.esl] [(0, 1, t 160)]), Op2.mk (some 162) (some (154, true)) (call (c (AV.func 44 []))
  [t 159, t 161]), Op2.mk (some 163) none (pick (t 154) (t 162) (c (AV.bool false))), Op2.mk (some 164) none (mov (t 163)),
  Op2.mk (some 165) (some (164, true)) (fa 3 (t 13)), Op2.mk (some 166) (some (164, true)) (ld1 (t 165)), Op2.mk (some 167)
  (some (164, true)) (ixaS 3 (t 166) (c (AV.int IntKind.i64 (3)))), Op2.mk (some 168) (some (164, true)) (fa 2 (t 167)),
  Op2.mk (some 169) (some (164, true)) (ld1 (t 168)), Op2.mk (some 170) (some (164, true)) (bldS 1 2 [AV.int IntKind.i64 (0)] [(0,
  1, c (AV.int IntKind.i64 (1))), (1, 1, c (AV.int IntKind.i64 (1)))]), Op2.mk (some 171) (some (164, true)) (bldS 1 1 [AV.esl] [(0,
  1, t 170)]), Op2.mk (some 172) (some (164, true)) (call (c (AV.func 44 [])) [t 169, t 171]), Op2.mk (some 173) none (pick (t 164)
  (t 172) (c (AV.bool false))), Op2.mk (some 174) none (mov (t 173)), Op2.mk (some 175) (some (174, true)) (fa 3 (t 13)),
  Op2.mk (some 176) (some (174, true)) (ld1 (t 175)), Op2.mk (some 177) (some (174, true)) (ixaS 3 (t 176) (c (AV.int IntKind.i64 (3)))),
  Op2.mk (some 178) (some (174, true)) (fa 1 (t 177)), Op2.mk (some 179) (some (174, true)) (ld1 (t 178)), Op2.mk (some 180)
  (some (174, true)) (lenS (t 179)), Op2.mk (some 181) (some (174, true)) (bin BinOp.eql false false (t 180) (c (AV.int IntKind.i64 (2)))),
  Op2.mk (some 182) none (pick (t 174) (t 181) (c (AV.bool false))), Op2.mk (some 183) none (mov (t 182)), Op2.mk (some 184)
  (some (183, true)) (fa 3 (t 13)), Op2.mk (some 185) (some (183, true)) (ld1 (t 184)), Op2.mk (some 186) (some (183,
  true)) (ixaS 3 (t 185) (c (AV.int IntKind.i64 (1)))), Op2.mk (some 187) (some (183, true)) (fa 1 (t 186)), Op2.mk (some 188)
  (some (183, true)) (ld1 (t 187)), Op2.mk (some 189) (some (183, true)) (lenS (t 188)), Op2.mk (some 190) (some (183,
  true)) (bin BinOp.eql false false (t 189) (c (AV.int IntKind.i64 (1)))), Op2.mk (some 191) none (pick (t 183) (t 190)
  (c (AV.bool false))), Op2.mk (some 0) none (mov (t 191))]).seq ret)))))))))))
theorem is10 : Is Try.prog 10 b10 := Is.mk' Try.func10 (by kernel_rfl)

/-- roundtable/library.Approximate -/
def b11 : F2 := (F2.mk 14 [RV.cn 4 4, RV.t 5] ((ops 0 [Op2.mk (some 3) none (box (t 1)), Op2.mk (some 4) none (alloc (AV.agg [AV.int IntKind.i64 (0),
  AV.int IntKind.i64 (0), AV.int IntKind.i64 (0), AV.esl])), Op2.mk (some 5) none (mov (c (AV.int IntKind.i64 (0))))]).seq ((ops 0 [Op2.mk (some 6)
  none (mov (t 0)), Op2.mk (some 7) none (ld1 (t 3)), Op2.mk (some 8) none (call (c (AV.func 46 [])) [t 7]), Op2.mk (some 9)
  none (mkfn 47 [t 3]), Op2.mk (some 10) none (bld [AV.int IntKind.i64 (0), AV.int IntKind.i64 (0), AV.int IntKind.i64 (0),
  AV.int IntKind.i64 (0), AV.nilf, AV.nilf, AV.nilf] [(0, 1, t 6), (1, 1, c (AV.int IntKind.i64 (2))), (2, 1, t 8),
  (3, 1, c (AV.int IntKind.i64 (-1))), (5, 1, t 9)]), Op2.mk (some 11) none (call (c (AV.func 45 [])) [t 10]), Op2.mk (some 12)
  none (ext (t 11) 0), Op2.mk (some 13) none (ext (t 11) 1), Op2.mk none none (Ins.st 4 (t 4) (t 12)), Op2.mk (some 5)
  none (mov (t 13))]).seq ret)))
theorem is11 : Is Try.prog 11 b11 := Is.mk' Try.func11 (by kernel_rfl)

/-- roundtable/roundtableref12.Approximate -/
def b12 : F2 := (F2.mk 13 [RV.cn 4 4, RV.t 5] ((ops 0 [Op2.mk (some 4) none (alloc (AV.agg [AV.int IntKind.i64 (0), AV.int IntKind.i64 (0),
  AV.int IntKind.i64 (0), AV.esl])), Op2.mk (some 5) none (mov (c (AV.int IntKind.i64 (0))))]).seq ((ops 0 [Op2.mk (some 6)
  none (mov (t 0)), Op2.mk (some 7) none (mov (t 1)), Op2.mk (some 8) none (call (c (AV.func 53 [])) [t 7]), Op2.mk (some 9)
  none (bld [AV.int IntKind.i64 (0), AV.int IntKind.i64 (0), AV.int IntKind.i64 (0), AV.int IntKind.i64 (0), AV.int IntKind.i64 (0)] [(0,
  1, c (AV.int IntKind.i64 (0))), (1, 1, t 6), (2, 1, c (AV.int IntKind.i64 (2))), (3, 1, t 8), (4, 1, c (AV.int IntKind.i64 (0)))]),
  Op2.mk (some 10) none (call (c (AV.func 52 [])) [t 9]), Op2.mk (some 11) none (ext (t 10) 0), Op2.mk (some 12) none (ext (t 10)
  1), Op2.mk none none (Ins.st 4 (t 4) (t 11)), Op2.mk (some 5) none (mov (t 12))]).seq ret)))
theorem is12 : Is Try.prog 12 b12 := Is.mk' Try.func12 (by kernel_rfl)

/-- roundtable/library.Crusader -/
def b13 : F2 := (F2.mk 15 [RV.cn 4 4, RV.t 5] ((ops 0 [Op2.mk (some 3) none (box (t 1)), Op2.mk (some 4) none (alloc (AV.agg [AV.int IntKind.i64 (0),
  AV.int IntKind.i64 (0), AV.int IntKind.i64 (0), AV.esl])), Op2.mk (some 5) none (mov (c (AV.int IntKind.i64 (0))))]).seq ((ops 1 [Op2.mk (some 6)
  none (mov (t 0)), Op2.mk (some 7) none (ld1 (t 3)), Op2.mk (some 8) none (ld1 (t 3)), Op2.mk (some 9) none (call (c (AV.func 46 []))
  [t 8]), Op2.mk (some 10) none (mkfn 54 [t 3]), Op2.mk (some 11) none (bld [AV.int IntKind.i64 (0), AV.int IntKind.i64 (0),
  AV.int IntKind.i64 (0), AV.int IntKind.i64 (0), AV.nilf, AV.nilf, AV.nilf] [(0, 1, t 6), (1, 1, t 7), (2, 1, t 9),
  (3, 1, c (AV.int IntKind.i64 (-1))), (5, 1, t 10), (6, 1, c (AV.func 57 []))]), Op2.mk (some 12) none (call (c (AV.func 45 []))
  [t 11]), Op2.mk (some 13) none (ext (t 12) 0), Op2.mk (some 14) none (ext (t 12) 1), Op2.mk none none (Ins.st 4 (t 4)
  (t 13)), Op2.mk (some 5) none (mov (t 14))]).seq ret)))
theorem is13 : Is Try.prog 13 b13 := Is.mk' Try.func13 (by kernel_rfl)

/-- roundtable/roundtableref12.Crusader -/
def b14 : F2 := (F2.mk 14 [RV.cn 4 4, RV.t 5] ((ops 0 [Op2.mk (some 4) none (alloc (AV.agg [AV.int IntKind.i64 (0), AV.int IntKind.i64 (0),
  AV.int IntKind.i64 (0), AV.esl])), Op2.mk (some 5) none (mov (c (AV.int IntKind.i64 (0))))]).seq ((ops 0 [Op2.mk (some 6)
  none (mov (t 0)), Op2.mk (some 7) none (mov (t 1)), Op2.mk (some 8) none (mov (t 1)), Op2.mk (some 9) none (call (c (AV.func 53 []))
  [t 8]), Op2.mk (some 10) none (bld [AV.int IntKind.i64 (0), AV.int IntKind.i64 (0), AV.int IntKind.i64 (0), AV.int IntKind.i64 (0),
  AV.int IntKind.i64 (0)] [(0, 1, c (AV.int IntKind.i64 (3))), (1, 1, t 6), (2, 1, t 7), (3, 1, t 9), (4, 1, c (AV.int IntKind.i64 (0)))]),
  Op2.mk (some 11) none (call (c (AV.func 52 [])) [t 10]), Op2.mk (some 12) none (ext (t 11) 0), Op2.mk (some 13)
  none (ext (t 11) 1), Op2.mk none none (Ins.st 4 (t 4) (t 12)), Op2.mk (some 5) none (mov (t 13))]).seq ret)))
theorem is14 : Is Try.prog 14 b14 := Is.mk' Try.func14 (by kernel_rfl)

/-- roundtable/roundtableref11.Same -/
def b15 : F2 := (F2.mk 75 [RV.t 4] ((ops 0 [Op2.mk (some 2) none (box (t 0)), Op2.mk (some 3) none (box (t 1)), Op2.mk (some 4)
  none (mov (c (AV.bool false)))]).seq (((ops 0 [Op2.mk (some 8) none (fa 0 (t 2)), Op2.mk (some 9) none (ld1 (t 8)),
  Op2.mk (some 10) none (fa 0 (t 3)), Op2.mk (some 11) none (ld1 (t 10)), Op2.mk (some 12) none (bin BinOp.neq false false (t 9)
  (t 11)), Op2.mk (some 13) none (mov (t 12)), Op2.mk (some 14) (some (13, false)) (fa 1 (t 2)), Op2.mk (some 15)
  (some (13, false)) (ld1 (t 14)), Op2.mk (some 16) (some (13, false)) (fa 1 (t 3)), Op2.mk (some 17) (some (13, false))
  (ld1 (t 16)), Op2.mk (some 18) (some (13, false)) (bin BinOp.neq false false (t 15) (t 17)), Op2.mk (some 19) none (pick (t 13)
  (c (AV.bool true)) (t 18)), Op2.mk (some 20) none (mov (t 19)), Op2.mk (some 21) (some (20, false)) (fa 2 (t 2)),
  Op2.mk (some 22) (some (20, false)) (ld1 (t 21)), Op2.mk (some 23) (some (20, false)) (fa 2 (t 3)), Op2.mk (some 24)
  (some (20, false)) (ld1 (t 23)), Op2.mk (some 25) (some (20, false)) (bin BinOp.neq false false (t 22) (t 24)),
  Op2.mk (some 26) none (pick (t 20) (c (AV.bool true)) (t 25)), Op2.mk (some 27) none (mov (t 26)), Op2.mk (some 28)
  (some (27, false)) (fa 3 (t 2)), Op2.mk (some 29) (some (27, false)) (ld1 (t 28)), Op2.mk (some 30) (some (27, false))
  (lenS (t 29)), Op2.mk (some 31) (some (27, false)) (fa 3 (t 3)), Op2.mk (some 32) (some (27, false)) (ld1 (t 31)),
  Op2.mk (some 33) (some (27, false)) (lenS (t 32)), Op2.mk (some 34) (some (27, false)) (bin BinOp.neq false false (t 30)
  (t 33)), Op2.mk (some 35) none (pick (t 27) (c (AV.bool true)) (t 34))]).seq (C2.cond (t 35) ((ops 0 [Op2.mk (some 4)
  none (mov (c (AV.bool false)))]).seq ret) skip)).seq (((ops 0 [Op2.mk (some 5) none (mov (c (AV.int IntKind.i64 (0))))]).seq (block 0 (((ops 0 [Op2.mk (some 36)
  none (mov (t 5)), Op2.mk (some 37) none (fa 3 (t 2)), Op2.mk (some 38) none (ld1 (t 37)), Op2.mk (some 39) none (lenS (t 38)),
  Op2.mk (some 40) none (bin BinOp.lss false false (t 36) (t 39))]).seq (C2.cond (t 40) skip (exit 0))).seq ((block 1 ((ops 2 [Op2.mk (some 43)
  none (fa 3 (t 2)), Op2.mk (some 44) none (ld1 (t 43)), Op2.mk (some 45) none (mov (t 5)), Op2.mk (some 46) none (ixaS 3 (t 44)
  (t 45)), Op2.mk (some 47) none (ldn 3 (t 46)), Op2.mk (some 48) none (fa 3 (t 3)), Op2.mk (some 49) none (ld1 (t 48)),
  Op2.mk (some 50) none (mov (t 5)), Op2.mk (some 51) none (ixaS 3 (t 49) (t 50)), Op2.mk (some 52) none (ldn 3 (t 51)),
  Op2.mk (some 6) none (alloc (AV.agg [AV.esl, AV.esl, AV.esl])), Op2.mk (some 7) none (alloc (AV.agg [AV.esl, AV.esl,
  AV.esl])), Op2.mk none none (Ins.st 3 (t 6) (t 47)), Op2.mk none none (Ins.st 3 (t 7) (t 52))]).seq ((ops 0 [Op2.mk (some 53)
  none (fa 0 (t 6)), Op2.mk (some 54) none (ld1 (t 53)), Op2.mk (some 55) none (fa 0 (t 7)), Op2.mk (some 56) none (ld1 (t 55)),
  Op2.mk (some 57) none (call (c (AV.func 58 [])) [t 54, t 56]), Op2.mk (some 58) none (bin BinOp.neq false false (t 57)
  (c (AV.int IntKind.i64 (0)))), Op2.mk (some 59) none (mov (t 58)), Op2.mk (some 60) (some (59, false)) (fa 1 (t 6)),
  Op2.mk (some 61) (some (59, false)) (ld1 (t 60)), Op2.mk (some 62) (some (59, false)) (fa 1 (t 7)), Op2.mk (some 63)
  (some (59, false)) (ld1 (t 62)), Op2.mk (some 64) (some (59, false)) (call (c (AV.func 44 [])) [t 61, t 63]), Op2.mk (some 65)
  (some (59, false)) (un UnOp.not (t 64)), Op2.mk (some 66) none (pick (t 59) (c (AV.bool true)) (t 65)), Op2.mk (some 67)
  none (mov (t 66)), Op2.mk (some 68) (some (67, false)) (fa 2 (t 6)), Op2.mk (some 69) (some (67, false)) (ld1 (t 68)),
  Op2.mk (some 70) (some (67, false)) (fa 2 (t 7)), Op2.mk (some 71) (some (67, false)) (ld1 (t 70)), Op2.mk (some 72)
  (some (67, false)) (call (c (AV.func 44 [])) [t 69, t 71]), Op2.mk (some 73) (some (67, false)) (un UnOp.not (t 72)),
  Op2.mk (some 74) none (pick (t 67) (c (AV.bool true)) (t 73))]).seq (C2.cond (t 74) ((ops 0 [Op2.mk (some 4) none (mov (c (AV.bool false)))]).seq ret)
  skip)))).seq (ops 0 [Op2.mk (some 41) none (mov (t 5)), Op2.mk (some 42) none (bin BinOp.add false false (t 41)
  (c (AV.int IntKind.i64 (1)))), Op2.mk (some 5) none (mov (t 42))]))).loop)).seq ((ops 0 [Op2.mk (some 4) none (mov (c (AV.bool true)))]).seq ret)))))
theorem is15 : Is Try.prog 15 b15 := Is.mk' Try.func15 (by kernel_rfl)

/-- roundtable/library.Consensus -/
def b16 : F2 := (F2.mk 15 [RV.cn 4 4, RV.t 5] ((ops 0 [Op2.mk (some 4) none (alloc (AV.agg [AV.int IntKind.i64 (0), AV.int IntKind.i64 (0),
  AV.int IntKind.i64 (0), AV.esl])), Op2.mk (some 5) none (mov (c (AV.int IntKind.i64 (0))))]).seq ((ops 0 [Op2.mk (some 7)
  none (mov (t 0)), Op2.mk (some 8) none (mov (t 1)), Op2.mk (some 9) none (call (c (AV.func 59 [])) [t 7, t 8, c (AV.int IntKind.i64 (1))]),
  Op2.mk (some 6) none (alloc (AV.agg [AV.int IntKind.i64 (0), AV.int IntKind.i64 (0), AV.int IntKind.i64 (0), AV.int IntKind.i64 (0),
  AV.nilf, AV.nilf, AV.nilf])), Op2.mk none none (Ins.st 7 (t 6) (t 9))]).seq ((ops 0 [Op2.mk (some 10) none (fa 3 (t 6)),
  Op2.mk none none (Ins.st 1 (t 10) (c (AV.int IntKind.i64 (-1))))]).seq ((ops 0 [Op2.mk (some 11) none (ldn 7 (t 6)),
  Op2.mk (some 12) none (call (c (AV.func 45 [])) [t 11]), Op2.mk (some 13) none (ext (t 12) 0), Op2.mk (some 14)
  none (ext (t 12) 1), Op2.mk none none (Ins.st 4 (t 4) (t 13)), Op2.mk (some 5) none (mov (t 14))]).seq ret)))))
theorem is16 : Is Try.prog 16 b16 := Is.mk' Try.func16 (by kernel_rfl)

/-- roundtable/roundtableref12.Consensus -/
def b17 : F2 := (F2.mk 13 [RV.cn 4 4, RV.t 5] ((ops 0 [Op2.mk (some 4) none (alloc (AV.agg [AV.int IntKind.i64 (0), AV.int IntKind.i64 (0),
  AV.int IntKind.i64 (0), AV.esl])), Op2.mk (some 5) none (mov (c (AV.int IntKind.i64 (0))))]).seq ((ops 0 [Op2.mk (some 6)
  none (mov (t 0)), Op2.mk (some 7) none (mov (t 1)), Op2.mk (some 8) none (mov (t 1)), Op2.mk (some 9) none (bld [AV.int IntKind.i64 (0),
  AV.int IntKind.i64 (0), AV.int IntKind.i64 (0), AV.int IntKind.i64 (0), AV.int IntKind.i64 (0)] [(0, 1, c (AV.int IntKind.i64 (2))),
  (1, 1, t 6), (2, 1, t 7), (3, 1, t 8), (4, 1, c (AV.int IntKind.i64 (0)))]), Op2.mk (some 10) none (call (c (AV.func 52 []))
  [t 9]), Op2.mk (some 11) none (ext (t 10) 0), Op2.mk (some 12) none (ext (t 10) 1), Op2.mk none none (Ins.st 4 (t 4)
  (t 11)), Op2.mk (some 5) none (mov (t 12))]).seq ret)))
theorem is17 : Is Try.prog 17 b17 := Is.mk' Try.func17 (by kernel_rfl)

/-- roundtable/library.SetAgreement -/
def b18 : F2 := (F2.mk 16 [RV.cn 6 4, RV.t 7] ((ops 0 [Op2.mk (some 6) none (alloc (AV.agg [AV.int IntKind.i64 (0), AV.int IntKind.i64 (0),
  AV.int IntKind.i64 (0), AV.esl])), Op2.mk (some 7) none (mov (c (AV.int IntKind.i64 (0))))]).seq ((ops 0 [Op2.mk (some 8)
  none (mov (t 0)), Op2.mk (some 9) none (mov (t 1)), Op2.mk (some 10) none (mov (t 2)), Op2.mk (some 11) none (mx (t 10)
  [c (AV.int IntKind.i64 (0))]), Op2.mk (some 12) none (call (c (AV.func 59 [])) [t 8, t 9, t 11]), Op2.mk (some 13)
  none (call (c (AV.func 45 [])) [t 12]), Op2.mk (some 14) none (ext (t 13) 0), Op2.mk (some 15) none (ext (t 13)
  1), Op2.mk none none (Ins.st 4 (t 6) (t 14)), Op2.mk (some 7) none (mov (t 15))]).seq ret)))
theorem is18 : Is Try.prog 18 b18 := Is.mk' Try.func18 (by kernel_rfl)

/-- roundtable/roundtableref12.SetAgreement -/
def b19 : F2 := (F2.mk 16 [RV.cn 6 4, RV.t 7] ((ops 0 [Op2.mk (some 6) none (alloc (AV.agg [AV.int IntKind.i64 (0), AV.int IntKind.i64 (0),
  AV.int IntKind.i64 (0), AV.esl])), Op2.mk (some 7) none (mov (c (AV.int IntKind.i64 (0))))]).seq ((ops 0 [Op2.mk (some 8)
  none (mov (t 0)), Op2.mk (some 9) none (mov (t 1)), Op2.mk (some 10) none (mov (t 1)), Op2.mk (some 11) none (mov (t 2)),
  Op2.mk (some 12) none (bld [AV.int IntKind.i64 (0), AV.int IntKind.i64 (0), AV.int IntKind.i64 (0), AV.int IntKind.i64 (0),
  AV.int IntKind.i64 (0)] [(0, 1, c (AV.int IntKind.i64 (6))), (1, 1, t 8), (2, 1, t 9), (3, 1, t 10), (4, 1, t 11)]),
  Op2.mk (some 13) none (call (c (AV.func 52 [])) [t 12]), Op2.mk (some 14) none (ext (t 13) 0), Op2.mk (some 15)
  none (ext (t 13) 1), Op2.mk none none (Ins.st 4 (t 6) (t 14)), Op2.mk (some 7) none (mov (t 15))]).seq ret)))
theorem is19 : Is Try.prog 19 b19 := Is.mk' Try.func19 (by kernel_rfl)

/-- roundtable/roundtablelaw12.small -/
def b20 : F2 := (F2.mk 42 [RV.t 2] ((ops 0 [Op2.mk (some 1) none (box (t 0)), Op2.mk (some 2) none (mov (c (AV.bool false)))]).seq (((ops 0 [Op2.mk (some 5)
  none (fa 1 (t 1)), Op2.mk (some 6) none (ld1 (t 5)), Op2.mk (some 7) none (fa 2 (t 1)), Op2.mk (some 8) none (ld1 (t 7)),
  Op2.mk (some 9) none (bldS 1 3 [AV.int IntKind.i64 (0)] [(0, 1, t 6), (1, 1, t 8), (2, 1, c (AV.int IntKind.i64 (2)))]),
  Op2.mk (some 10) none (lenS (t 9)), Op2.mk (some 11) none (mov (c (AV.int IntKind.i64 (0))))]).seq (block 0 ((ops 0 [Op2.mk (some 12)
  none (bin BinOp.lss false false (t 11) (t 10))]).seq ((C2.cond (t 12) skip (exit 0)).seq ((block 1 ((ops 0 [Op2.mk (some 13)
  none (ixaS 1 (t 9) (t 11)), Op2.mk (some 14) none (ld1 (t 13)), Op2.mk (some 4) none (mov (t 14))]).seq ((ops 0 [Op2.mk (some 15)
  none (fa 0 (t 1)), Op2.mk (some 16) none (ld1 (t 15)), Op2.mk (some 17) none (fa 1 (t 1)), Op2.mk (some 18) none (ld1 (t 17)),
  Op2.mk (some 19) none (mov (t 4)), Op2.mk (some 20) none (call (c (AV.func 9 [])) [t 16, t 18, t 19]), Op2.mk (some 21)
  none (un UnOp.not (t 20))]).seq (C2.cond (t 21) ((ops 0 [Op2.mk (some 2) none (mov (c (AV.bool false)))]).seq ret)
  skip)))).seq (ops 0 [Op2.mk (some 22) none (bin BinOp.add false false (t 11) (c (AV.int IntKind.i64 (1)))), Op2.mk (some 11)
  none (mov (t 22))])))).loop)).seq ((ops 0 [Op2.mk (some 23) none (fa 1 (t 1)), Op2.mk (some 24) none (ld1 (t 23)),
  Op2.mk (some 25) none (bin BinOp.lss false false (t 24) (c (AV.int IntKind.i64 (0)))), Op2.mk (some 26) none (mov (t 25)),
  Op2.mk (some 27) (some (26, false)) (fa 1 (t 1)), Op2.mk (some 28) (some (26, false)) (ld1 (t 27)), Op2.mk (some 29)
  (some (26, false)) (bin BinOp.gtr false false (t 28) (c (AV.int IntKind.i64 (20)))), Op2.mk (some 30) none (pick (t 26)
  (c (AV.bool true)) (t 29)), Op2.mk (some 31) none (mov (t 30)), Op2.mk (some 32) (some (31, false)) (fa 0 (t 1)),
  Op2.mk (some 33) (some (31, false)) (ld1 (t 32)), Op2.mk (some 34) (some (31, false)) (fa 1 (t 1)), Op2.mk (some 35)
  (some (31, false)) (ld1 (t 34)), Op2.mk (some 36) (some (31, false)) (mx (c (AV.int IntKind.i64 (2))) [t 35]), Op2.mk (some 37)
  (some (31, false)) (fa 1 (t 1)), Op2.mk (some 38) (some (31, false)) (ld1 (t 37)), Op2.mk (some 39) (some (31, false))
  (bin BinOp.add false false (t 38) (c (AV.int IntKind.i64 (1)))), Op2.mk (some 40) (some (31, false)) (call (c (AV.func 9 []))
  [t 33, t 36, t 39]), Op2.mk (some 41) none (pick (t 31) (c (AV.bool true)) (t 40)), Op2.mk (some 2) none (mov (t 41))]).seq ret))))
theorem is20 : Is Try.prog 20 b20 := Is.mk' Try.func20 (by kernel_rfl)

/-- roundtable/library.Get -/
def b21 : F2 := (F2.mk 28 [RV.cn 8 4, RV.t 9] ((ops 0 [Op2.mk (some 8) none (alloc (AV.agg [AV.int IntKind.i64 (0), AV.int IntKind.i64 (0),
  AV.int IntKind.i64 (0), AV.esl])), Op2.mk (some 9) none (mov (c (AV.int IntKind.i64 (0))))]).seq ((ops 0 [Op2.mk (some 13)
  none (call (c (AV.func 60 [])) []), Op2.mk (some 14) none (mov (t 0)), Op2.mk (some 15) none (Ins.mget (one str)
  AV.nilf true (t 13) (t 14)), Op2.mk (some 12) none (mov (t 15)), Op2.mk (some 16) none (ext (t 12) 0), Op2.mk (some 17)
  none (ext (t 12) 1), Op2.mk (some 10) none (mov (t 16)), Op2.mk (some 11) none (mov (t 17))]).seq (((ops 0 [Op2.mk (some 18)
  none (mov (t 11)), Op2.mk (some 19) none (un UnOp.not (t 18))]).seq (C2.cond (t 19) ((ops 0 [Op2.mk (some 20) none (bld [AV.int IntKind.i64 (0),
  AV.int IntKind.i64 (0), AV.int IntKind.i64 (0), AV.esl] []), Op2.mk none none (Ins.st 4 (t 8) (t 20)), Op2.mk (some 9)
  none (mov (c (AV.int IntKind.i64 (8))))]).seq ret) skip)).seq ((ops 0 [Op2.mk (some 21) none (mov (t 10)), Op2.mk (some 22)
  none (mov (t 1)), Op2.mk (some 23) none (mov (t 2)), Op2.mk (some 24) none (mov (t 3)), Op2.mk (some 25) none (call (t 21)
  [t 22, t 23, t 24]), Op2.mk (some 26) none (ext (t 25) 0), Op2.mk (some 27) none (ext (t 25) 1), Op2.mk none none (Ins.st 4 (t 8)
  (t 26)), Op2.mk (some 9) none (mov (t 27))]).seq ret)))))
theorem is21 : Is Try.prog 21 b21 := Is.mk' Try.func21 (by kernel_rfl)

/-- roundtable/roundtableref12.Get -/
def b22 : F2 := (F2.mk 61 [RV.cn 8 4, RV.t 9] ((ops 0 [Op2.mk (some 8) none (alloc (AV.agg [AV.int IntKind.i64 (0), AV.int IntKind.i64 (0),
  AV.int IntKind.i64 (0), AV.esl])), Op2.mk (some 9) none (mov (c (AV.int IntKind.i64 (0))))]).seq (((ops 0 [Op2.mk (some 10)
  none (mov (t 0))]).seq (block 0 ((ops 0 [Op2.mk (some 12) none (bin BinOp.eql false false (t 10) (c (AV.str (ByteArray.mk (Array.mk [97,
  112, 112, 114, 111, 120, 105, 109, 97, 116, 101]))))), Op2.mk (some 11) none (mov (t 12))]).seq (C2.cond (t 11)
  ((ops 0 [Op2.mk (some 13) none (mov (t 1)), Op2.mk (some 14) none (mov (t 2)), Op2.mk (some 15) none (call (c (AV.func 12 []))
  [t 13, t 14]), Op2.mk (some 16) none (ext (t 15) 0), Op2.mk (some 17) none (ext (t 15) 1), Op2.mk none none (Ins.st 4 (t 8)
  (t 16)), Op2.mk (some 9) none (mov (t 17))]).seq ret) ((ops 0 [Op2.mk (some 19) none (bin BinOp.eql false false (t 10)
  (c (AV.str (ByteArray.mk (Array.mk [99, 111, 109, 109, 105, 116]))))), Op2.mk (some 18) none (mov (t 19))]).seq (C2.cond (t 18)
  ((ops 0 [Op2.mk (some 20) none (mov (t 1)), Op2.mk (some 21) none (call (c (AV.func 37 [])) [t 20]), Op2.mk (some 22)
  none (ext (t 21) 0), Op2.mk (some 23) none (ext (t 21) 1), Op2.mk none none (Ins.st 4 (t 8) (t 22)), Op2.mk (some 9)
  none (mov (t 23))]).seq ret) ((ops 0 [Op2.mk (some 25) none (bin BinOp.eql false false (t 10) (c (AV.str (ByteArray.mk (Array.mk [99,
  111, 110, 115, 101, 110, 115, 117, 115]))))), Op2.mk (some 24) none (mov (t 25))]).seq (C2.cond (t 24) ((ops 0 [Op2.mk (some 26)
  none (mov (t 1)), Op2.mk (some 27) none (mov (t 2)), Op2.mk (some 28) none (call (c (AV.func 17 [])) [t 26, t 27]),
  Op2.mk (some 29) none (ext (t 28) 0), Op2.mk (some 30) none (ext (t 28) 1), Op2.mk none none (Ins.st 4 (t 8) (t 29)),
  Op2.mk (some 9) none (mov (t 30))]).seq ret) ((ops 0 [Op2.mk (some 32) none (bin BinOp.eql false false (t 10) (c (AV.str (ByteArray.mk (Array.mk [99,
  114, 117, 115, 97, 100, 101, 114]))))), Op2.mk (some 31) none (mov (t 32))]).seq (C2.cond (t 31) ((ops 0 [Op2.mk (some 33)
  none (mov (t 1)), Op2.mk (some 34) none (mov (t 2)), Op2.mk (some 35) none (call (c (AV.func 14 [])) [t 33, t 34]),
  Op2.mk (some 36) none (ext (t 35) 0), Op2.mk (some 37) none (ext (t 35) 1), Op2.mk none none (Ins.st 4 (t 8) (t 36)),
  Op2.mk (some 9) none (mov (t 37))]).seq ret) ((ops 0 [Op2.mk (some 39) none (bin BinOp.eql false false (t 10) (c (AV.str (ByteArray.mk (Array.mk [108,
  101, 97, 100, 101, 114]))))), Op2.mk (some 38) none (mov (t 39))]).seq (C2.cond (t 38) ((ops 0 [Op2.mk (some 40)
  none (mov (t 1)), Op2.mk (some 41) none (call (c (AV.func 39 [])) [t 40]), Op2.mk (some 42) none (ext (t 41) 0),
  Op2.mk (some 43) none (ext (t 41) 1), Op2.mk none none (Ins.st 4 (t 8) (t 42)), Op2.mk (some 9) none (mov (t 43))]).seq ret)
  ((ops 0 [Op2.mk (some 45) none (bin BinOp.eql false false (t 10) (c (AV.str (ByteArray.mk (Array.mk [114, 101, 110,
  97, 109, 105, 110, 103]))))), Op2.mk (some 44) none (mov (t 45))]).seq (C2.cond (t 44) ((ops 0 [Op2.mk (some 46)
  none (mov (t 1)), Op2.mk (some 47) none (mov (t 2)), Op2.mk (some 48) none (mov (t 3)), Op2.mk (some 49) none (call (c (AV.func 36 []))
  [t 46, t 47, t 48]), Op2.mk (some 50) none (ext (t 49) 0), Op2.mk (some 51) none (ext (t 49) 1), Op2.mk none none (Ins.st 4 (t 8)
  (t 50)), Op2.mk (some 9) none (mov (t 51))]).seq ret) ((ops 0 [Op2.mk (some 53) none (bin BinOp.eql false false (t 10)
  (c (AV.str (ByteArray.mk (Array.mk [115, 101, 116]))))), Op2.mk (some 52) none (mov (t 53))]).seq (C2.cond (t 52)
  ((ops 0 [Op2.mk (some 54) none (mov (t 1)), Op2.mk (some 55) none (mov (t 2)), Op2.mk (some 56) none (mov (t 3)),
  Op2.mk (some 57) none (call (c (AV.func 19 [])) [t 54, t 55, t 56]), Op2.mk (some 58) none (ext (t 57) 0), Op2.mk (some 59)
  none (ext (t 57) 1), Op2.mk none none (Ins.st 4 (t 8) (t 58)), Op2.mk (some 9) none (mov (t 59))]).seq ret) skip)))))))))))))))).seq ((ops 0 [Op2.mk (some 60)
  none (bld [AV.int IntKind.i64 (0), AV.int IntKind.i64 (0), AV.int IntKind.i64 (0), AV.esl] []), Op2.mk none none (Ins.st 4 (t 8)
  (t 60)), Op2.mk (some 9) none (mov (c (AV.int IntKind.i64 (8))))]).seq ret))))
theorem is22 : Is Try.prog 22 b22 := Is.mk' Try.func22 (by kernel_rfl)

/-- roundtable/library.Commit -/
def b23 : F2 := (F2.mk 12 [RV.cn 2 4, RV.t 3] ((ops 0 [Op2.mk (some 2) none (alloc (AV.agg [AV.int IntKind.i64 (0), AV.int IntKind.i64 (0),
  AV.int IntKind.i64 (0), AV.esl])), Op2.mk (some 3) none (mov (c (AV.int IntKind.i64 (0))))]).seq ((ops 0 [Op2.mk (some 4)
  none (alloc AV.nilf), Op2.mk none none (Ins.st 1 (t 4) (c (AV.func 61 [])))]).seq ((ops 0 [Op2.mk (some 5) none (mov (t 0)),
  Op2.mk (some 6) none (mkfn 62 [t 4]), Op2.mk (some 7) none (mkfn 63 [t 4]), Op2.mk (some 8) none (bld [AV.int IntKind.i64 (0),
  AV.int IntKind.i64 (0), AV.int IntKind.i64 (0), AV.int IntKind.i64 (0), AV.nilf, AV.nilf, AV.nilf] [(0, 1, t 5),
  (1, 1, c (AV.int IntKind.i64 (2))), (2, 1, c (AV.int IntKind.i64 (2))), (3, 1, c (AV.int IntKind.i64 (-1))), (5,
  1, t 6), (6, 1, t 7)]), Op2.mk (some 9) none (call (c (AV.func 45 [])) [t 8]), Op2.mk (some 10) none (ext (t 9)
  0), Op2.mk (some 11) none (ext (t 9) 1), Op2.mk none none (Ins.st 4 (t 2) (t 10)), Op2.mk (some 3) none (mov (t 11))]).seq ret))))
theorem is23 : Is Try.prog 23 b23 := Is.mk' Try.func23 (by kernel_rfl)

/-- slices.Contains[[]int,int] -/
def b28 : F2 := (F2.mk 9 [RV.t 4] ((ops 0 [Op2.mk (some 4) none (mov (c (AV.bool false)))]).seq ((ops 0 [Op2.mk (some 5) none (mov (t 0)),
  Op2.mk (some 6) none (mov (t 1)), Op2.mk (some 7) none (call (c (AV.func 72 [])) [t 5, t 6]), Op2.mk (some 8) none (bin BinOp.geq false false (t 7)
  (c (AV.int IntKind.i64 (0)))), Op2.mk (some 4) none (mov (t 8))]).seq ret)))
theorem is28 : Is Try.prog 28 b28 := Is.mk' Try.func28 (by kernel_rfl)

/-- slices.Clone[[]int,int] -/
def b32 : F2 := (F2.mk 8 [RV.t 2] ((ops 0 [Op2.mk (some 2) none (mov (c AV.esl))]).seq (((ops 0 [Op2.mk (some 3) none (mov (t 0)),
  Op2.mk (some 4) none (snil false (t 3))]).seq (C2.cond (t 4) ((ops 0 [Op2.mk (some 2) none (mov (c AV.esl))]).seq ret)
  skip)).seq ((ops 0 [Op2.mk (some 5) none (bldS 1 0 [AV.int IntKind.i64 (0)] []), Op2.mk (some 6) none (mov (t 0)),
  Op2.mk (some 7) none (app 1 8 (t 5) (t 6)), Op2.mk (some 2) none (mov (t 7))]).seq ret))))
theorem is32 : Is Try.prog 32 b32 := Is.mk' Try.func32 (by kernel_rfl)

/-- roundtable/library.Renaming -/
def b35 : F2 := (F2.mk 15 [RV.cn 6 4, RV.t 7] ((ops 0 [Op2.mk (some 6) none (alloc (AV.agg [AV.int IntKind.i64 (0), AV.int IntKind.i64 (0),
  AV.int IntKind.i64 (0), AV.esl])), Op2.mk (some 7) none (mov (c (AV.int IntKind.i64 (0))))]).seq ((ops 0 [Op2.mk (some 8)
  none (mov (t 0)), Op2.mk (some 9) none (mov (t 1)), Op2.mk (some 10) none (mov (t 2)), Op2.mk (some 11) none (bld [AV.int IntKind.i64 (0),
  AV.int IntKind.i64 (0), AV.int IntKind.i64 (0), AV.int IntKind.i64 (0), AV.nilf, AV.nilf, AV.nilf] [(0, 1, t 8),
  (1, 1, t 9), (2, 1, t 10), (3, 1, c (AV.int IntKind.i64 (-1))), (4, 1, c (AV.func 76 [])), (5, 1, c (AV.func 77 []))]),
  Op2.mk (some 12) none (call (c (AV.func 45 [])) [t 11]), Op2.mk (some 13) none (ext (t 12) 0), Op2.mk (some 14)
  none (ext (t 12) 1), Op2.mk none none (Ins.st 4 (t 6) (t 13)), Op2.mk (some 7) none (mov (t 14))]).seq ret)))
theorem is35 : Is Try.prog 35 b35 := Is.mk' Try.func35 (by kernel_rfl)

/-- roundtable/roundtableref12.Renaming -/
def b36 : F2 := (F2.mk 15 [RV.cn 6 4, RV.t 7] ((ops 0 [Op2.mk (some 6) none (alloc (AV.agg [AV.int IntKind.i64 (0), AV.int IntKind.i64 (0),
  AV.int IntKind.i64 (0), AV.esl])), Op2.mk (some 7) none (mov (c (AV.int IntKind.i64 (0))))]).seq ((ops 0 [Op2.mk (some 8)
  none (mov (t 0)), Op2.mk (some 9) none (mov (t 1)), Op2.mk (some 10) none (mov (t 2)), Op2.mk (some 11) none (bld [AV.int IntKind.i64 (0),
  AV.int IntKind.i64 (0), AV.int IntKind.i64 (0), AV.int IntKind.i64 (0), AV.int IntKind.i64 (0)] [(0, 1, c (AV.int IntKind.i64 (5))),
  (1, 1, t 8), (2, 1, t 9), (3, 1, t 10), (4, 1, c (AV.int IntKind.i64 (0)))]), Op2.mk (some 12) none (call (c (AV.func 52 []))
  [t 11]), Op2.mk (some 13) none (ext (t 12) 0), Op2.mk (some 14) none (ext (t 12) 1), Op2.mk none none (Ins.st 4 (t 6)
  (t 13)), Op2.mk (some 7) none (mov (t 14))]).seq ret)))
theorem is36 : Is Try.prog 36 b36 := Is.mk' Try.func36 (by kernel_rfl)

/-- roundtable/roundtableref12.Commit -/
def b37 : F2 := (F2.mk 9 [RV.cn 2 4, RV.t 3] ((ops 0 [Op2.mk (some 2) none (alloc (AV.agg [AV.int IntKind.i64 (0), AV.int IntKind.i64 (0),
  AV.int IntKind.i64 (0), AV.esl])), Op2.mk (some 3) none (mov (c (AV.int IntKind.i64 (0))))]).seq ((ops 0 [Op2.mk (some 4)
  none (mov (t 0)), Op2.mk (some 5) none (bld [AV.int IntKind.i64 (0), AV.int IntKind.i64 (0), AV.int IntKind.i64 (0),
  AV.int IntKind.i64 (0), AV.int IntKind.i64 (0)] [(0, 1, c (AV.int IntKind.i64 (1))), (1, 1, t 4), (2, 1, c (AV.int IntKind.i64 (2))),
  (3, 1, c (AV.int IntKind.i64 (2))), (4, 1, c (AV.int IntKind.i64 (0)))]), Op2.mk (some 6) none (call (c (AV.func 52 []))
  [t 5]), Op2.mk (some 7) none (ext (t 6) 0), Op2.mk (some 8) none (ext (t 6) 1), Op2.mk none none (Ins.st 4 (t 2)
  (t 7)), Op2.mk (some 3) none (mov (t 8))]).seq ret)))
theorem is37 : Is Try.prog 37 b37 := Is.mk' Try.func37 (by kernel_rfl)

/-- roundtable/library.Leader -/
def b38 : F2 := (F2.mk 9 [RV.cn 2 4, RV.t 3] ((ops 0 [Op2.mk (some 2) none (alloc (AV.agg [AV.int IntKind.i64 (0), AV.int IntKind.i64 (0),
  AV.int IntKind.i64 (0), AV.esl])), Op2.mk (some 3) none (mov (c (AV.int IntKind.i64 (0))))]).seq ((ops 0 [Op2.mk (some 4)
  none (mov (t 0)), Op2.mk (some 5) none (bld [AV.int IntKind.i64 (0), AV.int IntKind.i64 (0), AV.int IntKind.i64 (0),
  AV.int IntKind.i64 (0), AV.nilf, AV.nilf, AV.nilf] [(0, 1, t 4), (1, 1, c (AV.int IntKind.i64 (1))), (2, 1, c (AV.int IntKind.i64 (2))),
  (3, 1, c (AV.int IntKind.i64 (-1))), (5, 1, c (AV.func 78 []))]), Op2.mk (some 6) none (call (c (AV.func 45 []))
  [t 5]), Op2.mk (some 7) none (ext (t 6) 0), Op2.mk (some 8) none (ext (t 6) 1), Op2.mk none none (Ins.st 4 (t 2)
  (t 7)), Op2.mk (some 3) none (mov (t 8))]).seq ret)))
theorem is38 : Is Try.prog 38 b38 := Is.mk' Try.func38 (by kernel_rfl)

/-- roundtable/roundtableref12.Leader -/
def b39 : F2 := (F2.mk 9 [RV.cn 2 4, RV.t 3] ((ops 0 [Op2.mk (some 2) none (alloc (AV.agg [AV.int IntKind.i64 (0), AV.int IntKind.i64 (0),
  AV.int IntKind.i64 (0), AV.esl])), Op2.mk (some 3) none (mov (c (AV.int IntKind.i64 (0))))]).seq ((ops 0 [Op2.mk (some 4)
  none (mov (t 0)), Op2.mk (some 5) none (bld [AV.int IntKind.i64 (0), AV.int IntKind.i64 (0), AV.int IntKind.i64 (0),
  AV.int IntKind.i64 (0), AV.int IntKind.i64 (0)] [(0, 1, c (AV.int IntKind.i64 (4))), (1, 1, t 4), (2, 1, c (AV.int IntKind.i64 (1))),
  (3, 1, c (AV.int IntKind.i64 (2))), (4, 1, c (AV.int IntKind.i64 (0)))]), Op2.mk (some 6) none (call (c (AV.func 52 []))
  [t 5]), Op2.mk (some 7) none (ext (t 6) 0), Op2.mk (some 8) none (ext (t 6) 1), Op2.mk none none (Ins.st 4 (t 2)
  (t 7)), Op2.mk (some 3) none (mov (t 8))]).seq ret)))
theorem is39 : Is Try.prog 39 b39 := Is.mk' Try.func39 (by kernel_rfl)

/-- roundtable/roundtableref12.power -/
def b43 : F2 := (F2.mk 23 [RV.t 6] ((ops 0 [Op2.mk (some 6) none (mov (c (AV.int IntKind.i64 (0))))]).seq ((ops 0 [Op2.mk (some 7)
  none (mov (c (AV.int IntKind.i64 (1))))]).seq (((ops 0 [Op2.mk (some 8) none (mov (c (AV.int IntKind.i64 (0))))]).seq (block 0 (((ops 0 [Op2.mk (some 9)
  none (mov (t 8)), Op2.mk (some 10) none (mov (t 1)), Op2.mk (some 11) none (bin BinOp.lss false false (t 9) (t 10)),
  Op2.mk (some 12) none (mov (t 11)), Op2.mk (some 13) (some (12, true)) (mov (t 7)), Op2.mk (some 14) (some (12,
  true)) (mov (t 2)), Op2.mk (some 15) (some (12, true)) (bin BinOp.leq false false (t 13) (t 14)), Op2.mk (some 16)
  none (pick (t 12) (t 15) (c (AV.bool false)))]).seq (C2.cond (t 16) skip (exit 0))).seq ((block 1 (ops 0 [Op2.mk (some 19)
  none (mov (t 7)), Op2.mk (some 20) none (mov (t 0)), Op2.mk (some 21) none (bin BinOp.mul false false (t 19) (t 20)),
  Op2.mk (some 7) none (mov (t 21))])).seq (ops 0 [Op2.mk (some 17) none (mov (t 8)), Op2.mk (some 18) none (bin BinOp.add false false (t 17)
  (c (AV.int IntKind.i64 (1)))), Op2.mk (some 8) none (mov (t 18))]))).loop)).seq ((ops 0 [Op2.mk (some 22) none (mov (t 7)),
  Op2.mk (some 6) none (mov (t 22))]).seq ret)))))
theorem is43 : Is Try.prog 43 b43 := Is.mk' Try.func43 (by kernel_rfl)

/-- roundtable/roundtableref11.SameVectors -/
def b44 : F2 := (F2.mk 27 [RV.t 4] ((ops 0 [Op2.mk (some 4) none (mov (c (AV.bool false)))]).seq (((ops 0 [Op2.mk (some 6) none (mov (t 0)),
  Op2.mk (some 7) none (lenS (t 6)), Op2.mk (some 8) none (mov (t 1)), Op2.mk (some 9) none (lenS (t 8)), Op2.mk (some 10)
  none (bin BinOp.neq false false (t 7) (t 9))]).seq (C2.cond (t 10) ((ops 0 [Op2.mk (some 4) none (mov (c (AV.bool false)))]).seq ret)
  skip)).seq (((ops 0 [Op2.mk (some 5) none (mov (c (AV.int IntKind.i64 (0))))]).seq (block 0 (((ops 0 [Op2.mk (some 11)
  none (mov (t 5)), Op2.mk (some 12) none (mov (t 0)), Op2.mk (some 13) none (lenS (t 12)), Op2.mk (some 14) none (bin BinOp.lss false false (t 11)
  (t 13))]).seq (C2.cond (t 14) skip (exit 0))).seq ((block 1 ((ops 1 [Op2.mk (some 17) none (mov (t 0)), Op2.mk (some 18)
  none (mov (t 5)), Op2.mk (some 19) none (ixaS 1 (t 17) (t 18)), Op2.mk (some 20) none (ld1 (t 19)), Op2.mk (some 21)
  none (mov (t 1)), Op2.mk (some 22) none (mov (t 5)), Op2.mk (some 23) none (ixaS 1 (t 21) (t 22)), Op2.mk (some 24)
  none (ld1 (t 23)), Op2.mk (some 25) none (call (c (AV.func 58 [])) [t 20, t 24]), Op2.mk (some 26) none (bin BinOp.neq false false (t 25)
  (c (AV.int IntKind.i64 (0))))]).seq (C2.cond (t 26) ((ops 0 [Op2.mk (some 4) none (mov (c (AV.bool false)))]).seq ret)
  skip))).seq (ops 0 [Op2.mk (some 15) none (mov (t 5)), Op2.mk (some 16) none (bin BinOp.add false false (t 15) (c (AV.int IntKind.i64 (1)))),
  Op2.mk (some 5) none (mov (t 16))]))).loop)).seq ((ops 0 [Op2.mk (some 4) none (mov (c (AV.bool true)))]).seq ret)))))
theorem is44 : Is Try.prog 44 b44 := Is.mk' Try.func44 (by kernel_rfl)

/-- roundtable/library.made -/
def b45 : F2 := (F2.mk 141 [RV.cn 2 4, RV.c1 3] ((ops 0 [Op2.mk (some 1) none (box (t 0)), Op2.mk (some 2) none (alloc (AV.agg [AV.int IntKind.i64 (0),
  AV.int IntKind.i64 (0), AV.int IntKind.i64 (0), AV.esl])), Op2.mk (some 3) none (alloc (AV.int IntKind.i64 (0)))]).seq ((block 0 ((ops 0 [Op2.mk (some 10)
  none (fa 0 (t 1)), Op2.mk (some 11) none (ld1 (t 10)), Op2.mk (some 12) none (call (c (AV.func 81 [])) [t 11, c (AV.int IntKind.i64 (1)),
  c (AV.int IntKind.i64 (5))]), Op2.mk (some 13) none (un UnOp.not (t 12)), Op2.mk (some 14) none (mov (t 13)), Op2.mk (some 15)
  (some (14, false)) (fa 1 (t 1)), Op2.mk (some 16) (some (14, false)) (ld1 (t 15)), Op2.mk (some 17) (some (14, false))
  (call (c (AV.func 81 [])) [t 16, c (AV.int IntKind.i64 (1)), c (AV.int IntKind.i64 (8))]), Op2.mk (some 18) (some (14,
  false)) (un UnOp.not (t 17)), Op2.mk (some 19) none (pick (t 14) (c (AV.bool true)) (t 18)), Op2.mk (some 20) none (mov (t 19)),
  Op2.mk (some 21) (some (20, false)) (fa 2 (t 1)), Op2.mk (some 22) (some (20, false)) (ld1 (t 21)), Op2.mk (some 23)
  (some (20, false)) (call (c (AV.func 81 [])) [t 22, c (AV.int IntKind.i64 (1)), c (AV.int IntKind.i64 (8))]), Op2.mk (some 24)
  (some (20, false)) (un UnOp.not (t 23)), Op2.mk (some 25) none (pick (t 20) (c (AV.bool true)) (t 24)), Op2.mk (some 9)
  none (mov (t 25))]).seq (C2.cond (t 9) ((ops 0 [Op2.mk (some 26) none (bld [AV.int IntKind.i64 (0), AV.int IntKind.i64 (0),
  AV.int IntKind.i64 (0), AV.esl] []), Op2.mk none none (Ins.st 4 (t 2) (t 26)), Op2.mk none none (Ins.st 1 (t 3)
  (c (AV.int IntKind.i64 (2))))]).seq ret) ((ops 0 [Op2.mk (some 28) none (fa 3 (t 1)), Op2.mk (some 29) none (ld1 (t 28)),
  Op2.mk (some 30) none (bin BinOp.neq false false (t 29) (c (AV.int IntKind.i64 (-1)))), Op2.mk (some 31) none (mov (t 30)),
  Op2.mk (some 32) (some (31, true)) (fa 3 (t 1)), Op2.mk (some 33) (some (31, true)) (ld1 (t 32)), Op2.mk (some 34)
  (some (31, true)) (fa 0 (t 1)), Op2.mk (some 35) (some (31, true)) (ld1 (t 34)), Op2.mk (some 36) (some (31, true))
  (call (c (AV.func 81 [])) [t 33, c (AV.int IntKind.i64 (1)), t 35]), Op2.mk (some 37) (some (31, true)) (un UnOp.not (t 36)),
  Op2.mk (some 38) none (pick (t 31) (t 37) (c (AV.bool false))), Op2.mk (some 27) none (mov (t 38))]).seq (C2.cond (t 27)
  ((ops 0 [Op2.mk (some 39) none (bld [AV.int IntKind.i64 (0), AV.int IntKind.i64 (0), AV.int IntKind.i64 (0), AV.esl] []),
  Op2.mk none none (Ins.st 4 (t 2) (t 39)), Op2.mk none none (Ins.st 1 (t 3) (c (AV.int IntKind.i64 (2))))]).seq ret)
  skip))))).seq (((ops 0 [Op2.mk (some 40) none (fa 0 (t 1)), Op2.mk (some 41) none (ld1 (t 40)), Op2.mk (some 42)
  none (fa 1 (t 1)), Op2.mk (some 43) none (ld1 (t 42)), Op2.mk (some 44) none (fa 4 (t 1)), Op2.mk (some 45) none (ld1 (t 44)),
  Op2.mk (some 46) none (call (c (AV.func 82 [])) [t 41, t 43, t 45, c (AV.int IntKind.i64 (1024))]), Op2.mk (some 4)
  none (mov (t 46))]).seq (block 1 ((ops 0 [Op2.mk (some 48) none (mov (t 4)), Op2.mk (some 49) none (bin BinOp.eql false false (t 48)
  (c (AV.int IntKind.i64 (0)))), Op2.mk (some 47) none (mov (t 49))]).seq (C2.cond (t 47) ((ops 0 [Op2.mk (some 50)
  none (bld [AV.int IntKind.i64 (0), AV.int IntKind.i64 (0), AV.int IntKind.i64 (0), AV.esl] []), Op2.mk none none (Ins.st 4 (t 2)
  (t 50)), Op2.mk none none (Ins.st 1 (t 3) (c (AV.int IntKind.i64 (16))))]).seq ret) ((ops 0 [Op2.mk (some 52) none (fa 4 (t 1)),
  Op2.mk (some 53) none (ld1 (t 52)), Op2.mk (some 54) none (bin BinOp.neq false true (t 53) (c AV.nilf)), Op2.mk (some 55)
  none (mov (t 54)), Op2.mk (some 56) (some (55, true)) (fa 2 (t 1)), Op2.mk (some 57) (some (55, true)) (ld1 (t 56)),
  Op2.mk (some 58) (some (55, true)) (fa 0 (t 1)), Op2.mk (some 59) (some (55, true)) (ld1 (t 58)), Op2.mk (some 60)
  (some (55, true)) (bin BinOp.lss false false (t 57) (t 59)), Op2.mk (some 61) none (pick (t 55) (t 60) (c (AV.bool false))),
  Op2.mk (some 51) none (mov (t 61))]).seq (C2.cond (t 51) ((ops 0 [Op2.mk (some 62) none (bld [AV.int IntKind.i64 (0),
  AV.int IntKind.i64 (0), AV.int IntKind.i64 (0), AV.esl] []), Op2.mk none none (Ins.st 4 (t 2) (t 62)), Op2.mk none none (Ins.st 1 (t 3)
  (c (AV.int IntKind.i64 (16))))]).seq ret) ((ops 0 [Op2.mk (some 64) none (mov (t 4)), Op2.mk (some 65) none (bin BinOp.gtr false false (t 64)
  (c (AV.int IntKind.i64 (1024)))), Op2.mk (some 63) none (mov (t 65))]).seq (C2.cond (t 63) ((ops 0 [Op2.mk (some 66)
  none (bld [AV.int IntKind.i64 (0), AV.int IntKind.i64 (0), AV.int IntKind.i64 (0), AV.esl] []), Op2.mk none none (Ins.st 4 (t 2)
  (t 66)), Op2.mk none none (Ins.st 1 (t 3) (c (AV.int IntKind.i64 (17))))]).seq ret) skip)))))))).seq ((ops 0 [Op2.mk (some 67)
  none (fa 0 (t 1)), Op2.mk (some 68) none (ld1 (t 67)), Op2.mk (some 69) none (fa 1 (t 1)), Op2.mk (some 70) none (ld1 (t 69)),
  Op2.mk (some 71) none (fa 2 (t 1)), Op2.mk (some 72) none (ld1 (t 71)), Op2.mk (some 73) none (bld [AV.int IntKind.i64 (0),
  AV.int IntKind.i64 (0), AV.int IntKind.i64 (0), AV.esl] [(0, 1, t 68), (1, 1, t 70), (2, 1, t 72)]), Op2.mk (some 5)
  none (alloc (AV.agg [AV.int IntKind.i64 (0), AV.int IntKind.i64 (0), AV.int IntKind.i64 (0), AV.esl])), Op2.mk none none (Ins.st 4 (t 5)
  (t 73))]).seq (((ops 0 [Op2.mk (some 74) none (fa 0 (t 1)), Op2.mk (some 75) none (ld1 (t 74)), Op2.mk (some 76)
  none (fa 1 (t 1)), Op2.mk (some 77) none (ld1 (t 76)), Op2.mk (some 78) none (call (c (AV.func 83 [])) [t 75, t 77])]).seq (block 2 (rangeF (t 78)
  [79] (ops 0 [Op2.mk (some 6) none (alloc AV.esl), Op2.mk none none (Ins.st 1 (t 6) (t 79))]) (block 3 (((ops 0 [Op2.mk (some 80)
  none (fa 4 (t 1)), Op2.mk (some 81) none (ld1 (t 80)), Op2.mk (some 82) none (bin BinOp.neq false true (t 81) (c AV.nilf)),
  Op2.mk (some 83) none (mov (t 82)), Op2.mk (some 84) (some (83, true)) (fa 4 (t 1)), Op2.mk (some 85) (some (83,
  true)) (ld1 (t 84)), Op2.mk (some 86) (some (83, true)) (ld1 (t 6)), Op2.mk (some 87) (some (83, true)) (call (t 85)
  [t 86]), Op2.mk (some 88) (some (83, true)) (un UnOp.not (t 87)), Op2.mk (some 89) none (pick (t 83) (t 88) (c (AV.bool false)))]).seq (C2.cond (t 89)
  (exit 3) skip)).seq ((ops 0 [Op2.mk (some 90) none (ld1 (t 6)), Op2.mk (some 91) none (call (c (AV.func 32 []))
  [t 90]), Op2.mk (some 92) none (bld [AV.esl, AV.esl, AV.esl] [(0, 1, t 91)]), Op2.mk (some 7) none (alloc (AV.agg [AV.esl,
  AV.esl, AV.esl])), Op2.mk none none (Ins.st 3 (t 7) (t 92))]).seq (((ops 0 [Op2.mk (some 93) none (fa 0 (t 1)),
  Op2.mk (some 94) none (ld1 (t 93)), Op2.mk (some 95) none (fa 2 (t 1)), Op2.mk (some 96) none (ld1 (t 95)), Op2.mk (some 97)
  none (call (c (AV.func 83 [])) [t 94, t 96])]).seq (block 4 (rangeF (t 97) [98] (ops 0 [Op2.mk (some 8) none (mov (t 98))])
  (block 5 (((ops 0 [Op2.mk (some 99) none (fa 5 (t 1)), Op2.mk (some 100) none (ld1 (t 99)), Op2.mk (some 101) none (ld1 (t 6)),
  Op2.mk (some 102) none (mov (t 8)), Op2.mk (some 103) none (call (t 100) [t 101, t 102]), Op2.mk (some 104) none (un UnOp.not (t 103))]).seq (C2.cond (t 104)
  (exit 5) skip)).seq (((ops 0 [Op2.mk (some 105) none (fa 1 (t 7)), Op2.mk (some 106) none (ld1 (t 105)), Op2.mk (some 107)
  none (lenS (t 106)), Op2.mk (some 108) none (bin BinOp.eql false false (t 107) (c (AV.int IntKind.i64 (1024))))]).seq (C2.cond (t 108)
  ((ops 0 [Op2.mk (some 109) none (bld [AV.int IntKind.i64 (0), AV.int IntKind.i64 (0), AV.int IntKind.i64 (0), AV.esl] []),
  Op2.mk none none (Ins.st 4 (t 2) (t 109)), Op2.mk none none (Ins.st 1 (t 3) (c (AV.int IntKind.i64 (17))))]).seq ret)
  skip)).seq ((ops 1 [Op2.mk (some 110) none (fa 1 (t 7)), Op2.mk (some 111) none (ld1 (t 110)), Op2.mk (some 112)
  none (mov (t 8)), Op2.mk (some 113) none (call (c (AV.func 32 [])) [t 112]), Op2.mk (some 114) none (bldS 1 1 [AV.esl] [(0,
  1, t 113)]), Op2.mk (some 115) none (app 1 24 (t 111) (t 114)), Op2.mk (some 116) none (fa 1 (t 7)), Op2.mk none none (Ins.st 1 (t 116)
  (t 115))]).seq ((ops 0 [Op2.mk (some 117) none (fa 6 (t 1)), Op2.mk (some 118) none (ld1 (t 117)), Op2.mk (some 119)
  none (bin BinOp.neq false true (t 118) (c AV.nilf)), Op2.mk (some 120) none (mov (t 119)), Op2.mk (some 121) (some (120,
  true)) (fa 6 (t 1)), Op2.mk (some 122) (some (120, true)) (ld1 (t 121)), Op2.mk (some 123) (some (120, true)) (ld1 (t 6)),
  Op2.mk (some 124) (some (120, true)) (mov (t 8)), Op2.mk (some 125) (some (120, true)) (call (t 122) [t 123, t 124]),
  Op2.mk (some 126) none (pick (t 120) (t 125) (c (AV.bool false)))]).seq (C2.cond (t 126) (ops 1 [Op2.mk (some 127)
  none (fa 2 (t 7)), Op2.mk (some 128) none (ld1 (t 127)), Op2.mk (some 129) none (mov (t 8)), Op2.mk (some 130) none (call (c (AV.func 32 []))
  [t 129]), Op2.mk (some 131) none (bldS 1 1 [AV.esl] [(0, 1, t 130)]), Op2.mk (some 132) none (app 1 24 (t 128) (t 131)),
  Op2.mk (some 133) none (fa 2 (t 7)), Op2.mk none none (Ins.st 1 (t 133) (t 132))]) skip))))))))).seq (ops 0 [Op2.mk (some 134)
  none (fa 3 (t 5)), Op2.mk (some 135) none (ld1 (t 134)), Op2.mk (some 136) none (ldn 3 (t 7)), Op2.mk (some 137)
  none (bldS 3 1 [AV.esl, AV.esl, AV.esl] [(0, 3, t 136)]), Op2.mk (some 138) none (app 3 72 (t 135) (t 137)), Op2.mk (some 139)
  none (fa 3 (t 5)), Op2.mk none none (Ins.st 1 (t 139) (t 138))])))))))).seq ((ops 0 [Op2.mk (some 140) none (ldn 4 (t 5)),
  Op2.mk none none (Ins.st 4 (t 2) (t 140)), Op2.mk none none (Ins.st 1 (t 3) (c (AV.int IntKind.i64 (0))))]).seq ret)))))))
theorem is45 : Is Try.prog 45 b45 := Is.mk' Try.func45 (by kernel_rfl)

/-- roundtable/library.more -/
def b46 : F2 := (F2.mk 8 [RV.t 2] ((ops 0 [Op2.mk (some 2) none (mov (c (AV.int IntKind.i64 (0))))]).seq (((ops 0 [Op2.mk (some 3)
  none (mov (t 0)), Op2.mk (some 4) none (call (c (AV.func 81 [])) [t 3, c (AV.int IntKind.i64 (0)), c (AV.int IntKind.i64 (8))]),
  Op2.mk (some 5) none (un UnOp.not (t 4))]).seq (C2.cond (t 5) ((ops 0 [Op2.mk (some 2) none (mov (c (AV.int IntKind.i64 (9))))]).seq ret)
  skip)).seq ((ops 0 [Op2.mk (some 6) none (mov (t 0)), Op2.mk (some 7) none (bin BinOp.add false false (t 6) (c (AV.int IntKind.i64 (1)))),
  Op2.mk (some 2) none (mov (t 7))]).seq ret))))
theorem is46 : Is Try.prog 46 b46 := Is.mk' Try.func46 (by kernel_rfl)

/-- roundtable/library.Approximate$1 -/
def b47 : F2 := (F2.mk 22 [RV.t 5] ((ops 0 [Op2.mk (some 5) none (mov (c (AV.bool false)))]).seq (((ops 0 [Op2.mk (some 6) none (mov (t 0)),
  Op2.mk (some 7) none (call (c (AV.func 48 [])) [t 6]), Op2.mk (some 8) none (bin BinOp.eql false false (t 7) (c (AV.int IntKind.i64 (1))))]).seq (C2.cond (t 8)
  ((ops 1 [Op2.mk (some 9) none (mov (t 1)), Op2.mk (some 10) none (mov (t 0)), Op2.mk (some 11) none (ixaS 1 (t 10)
  (c (AV.int IntKind.i64 (0)))), Op2.mk (some 12) none (ld1 (t 11)), Op2.mk (some 13) none (ld1 (t 2)), Op2.mk (some 14)
  none (bin BinOp.mul false false (t 12) (t 13)), Op2.mk (some 15) none (call (c (AV.func 49 [])) [t 9, t 14]), Op2.mk (some 5)
  none (mov (t 15))]).seq ret) skip)).seq ((ops 0 [Op2.mk (some 16) none (mov (t 1)), Op2.mk (some 17) none (call (c (AV.func 50 []))
  [t 16]), Op2.mk (some 18) none (mov (t 1)), Op2.mk (some 19) none (call (c (AV.func 51 [])) [t 18]), Op2.mk (some 20)
  none (bin BinOp.sub false false (t 17) (t 19)), Op2.mk (some 21) none (bin BinOp.leq false false (t 20) (c (AV.int IntKind.i64 (1)))),
  Op2.mk (some 5) none (mov (t 21))]).seq ret))))
theorem is47 : Is Try.prog 47 b47 := Is.mk' Try.func47 (by kernel_rfl)

/-- roundtable/library.different -/
def b48 : F2 := (F2.mk 18 [RV.t 2] ((ops 0 [Op2.mk (some 2) none (mov (c (AV.int IntKind.i64 (0))))]).seq ((ops 0 [Op2.mk (some 6)
  none (mkm none), Op2.mk (some 3) none (mov (t 6))]).seq (((ops 0 [Op2.mk (some 7) none (mov (t 0)), Op2.mk (some 8)
  none (lenS (t 7)), Op2.mk (some 9) none (mov (c (AV.int IntKind.i64 (0))))]).seq (block 0 ((ops 0 [Op2.mk (some 10)
  none (bin BinOp.lss false false (t 9) (t 8))]).seq ((C2.cond (t 10) skip (exit 0)).seq ((block 1 ((ops 0 [Op2.mk (some 11)
  none (ixaS 1 (t 7) (t 9)), Op2.mk (some 12) none (ld1 (t 11)), Op2.mk (some 5) none (mov (t 12))]).seq (ops 0 [Op2.mk (some 13)
  none (mov (t 3)), Op2.mk (some 14) none (mov (t 5)), Op2.mk none none (mput (one int) (t 13) (t 14) (c (AV.bool true)))]))).seq (ops 0 [Op2.mk (some 15)
  none (bin BinOp.add false false (t 9) (c (AV.int IntKind.i64 (1)))), Op2.mk (some 9) none (mov (t 15))])))).loop)).seq ((ops 0 [Op2.mk (some 16)
  none (mov (t 3)), Op2.mk (some 17) none (mlen (t 16)), Op2.mk (some 2) none (mov (t 17))]).seq ret)))))
theorem is48 : Is Try.prog 48 b48 := Is.mk' Try.func48 (by kernel_rfl)

/-- roundtable/library.equal -/
def b49 : F2 := (F2.mk 15 [RV.t 4] ((ops 0 [Op2.mk (some 4) none (mov (c (AV.bool false)))]).seq ((ops 0 [Op2.mk (some 5) none (mov (t 0)),
  Op2.mk (some 6) none (call (c (AV.func 48 [])) [t 5]), Op2.mk (some 7) none (bin BinOp.eql false false (t 6) (c (AV.int IntKind.i64 (1)))),
  Op2.mk (some 8) none (mov (t 7)), Op2.mk (some 9) (some (8, true)) (mov (t 0)), Op2.mk (some 10) (some (8, true))
  (ixaS 1 (t 9) (c (AV.int IntKind.i64 (0)))), Op2.mk (some 11) (some (8, true)) (ld1 (t 10)), Op2.mk (some 12) (some (8,
  true)) (mov (t 1)), Op2.mk (some 13) (some (8, true)) (bin BinOp.eql false false (t 11) (t 12)), Op2.mk (some 14)
  none (pick (t 8) (t 13) (c (AV.bool false))), Op2.mk (some 4) none (mov (t 14))]).seq ret)))
theorem is49 : Is Try.prog 49 b49 := Is.mk' Try.func49 (by kernel_rfl)

/-- slices.Max[[]int,int] -/
def b50 : F2 := (F2.mk 25 [RV.t 2] ((ops 0 [Op2.mk (some 2) none (mov (c (AV.int IntKind.i64 (0))))]).seq (((ops 0 [Op2.mk (some 5)
  none (mov (t 0)), Op2.mk (some 6) none (lenS (t 5)), Op2.mk (some 7) none (bin BinOp.lss false false (t 6) (c (AV.int IntKind.i64 (1))))]).seq (C2.cond (t 7)
  (ops 0 [Op2.mk (some 8) none dead, Op2.mk none none dead]) skip)).seq ((ops 0 [Op2.mk (some 9) none (mov (t 0)),
  Op2.mk (some 10) none (ixaS 1 (t 9) (c (AV.int IntKind.i64 (0)))), Op2.mk (some 11) none (ld1 (t 10)), Op2.mk (some 3)
  none (mov (t 11))]).seq (((ops 0 [Op2.mk (some 4) none (mov (c (AV.int IntKind.i64 (1))))]).seq (block 0 (((ops 0 [Op2.mk (some 12)
  none (mov (t 4)), Op2.mk (some 13) none (mov (t 0)), Op2.mk (some 14) none (lenS (t 13)), Op2.mk (some 15) none (bin BinOp.lss false false (t 12)
  (t 14))]).seq (C2.cond (t 15) skip (exit 0))).seq ((block 1 (ops 0 [Op2.mk (some 18) none (mov (t 3)), Op2.mk (some 19)
  none (mov (t 0)), Op2.mk (some 20) none (mov (t 4)), Op2.mk (some 21) none (ixaS 1 (t 19) (t 20)), Op2.mk (some 22)
  none (ld1 (t 21)), Op2.mk (some 23) none (mx (t 18) [t 22]), Op2.mk (some 3) none (mov (t 23))])).seq (ops 0 [Op2.mk (some 16)
  none (mov (t 4)), Op2.mk (some 17) none (bin BinOp.add false false (t 16) (c (AV.int IntKind.i64 (1)))), Op2.mk (some 4)
  none (mov (t 17))]))).loop)).seq ((ops 0 [Op2.mk (some 24) none (mov (t 3)), Op2.mk (some 2) none (mov (t 24))]).seq ret))))))
theorem is50 : Is Try.prog 50 b50 := Is.mk' Try.func50 (by kernel_rfl)

/-- slices.Min[[]int,int] -/
def b51 : F2 := (F2.mk 25 [RV.t 2] ((ops 0 [Op2.mk (some 2) none (mov (c (AV.int IntKind.i64 (0))))]).seq (((ops 0 [Op2.mk (some 5)
  none (mov (t 0)), Op2.mk (some 6) none (lenS (t 5)), Op2.mk (some 7) none (bin BinOp.lss false false (t 6) (c (AV.int IntKind.i64 (1))))]).seq (C2.cond (t 7)
  (ops 0 [Op2.mk (some 8) none dead, Op2.mk none none dead]) skip)).seq ((ops 0 [Op2.mk (some 9) none (mov (t 0)),
  Op2.mk (some 10) none (ixaS 1 (t 9) (c (AV.int IntKind.i64 (0)))), Op2.mk (some 11) none (ld1 (t 10)), Op2.mk (some 3)
  none (mov (t 11))]).seq (((ops 0 [Op2.mk (some 4) none (mov (c (AV.int IntKind.i64 (1))))]).seq (block 0 (((ops 0 [Op2.mk (some 12)
  none (mov (t 4)), Op2.mk (some 13) none (mov (t 0)), Op2.mk (some 14) none (lenS (t 13)), Op2.mk (some 15) none (bin BinOp.lss false false (t 12)
  (t 14))]).seq (C2.cond (t 15) skip (exit 0))).seq ((block 1 (ops 0 [Op2.mk (some 18) none (mov (t 3)), Op2.mk (some 19)
  none (mov (t 0)), Op2.mk (some 20) none (mov (t 4)), Op2.mk (some 21) none (ixaS 1 (t 19) (t 20)), Op2.mk (some 22)
  none (ld1 (t 21)), Op2.mk (some 23) none (mn (t 18) [t 22]), Op2.mk (some 3) none (mov (t 23))])).seq (ops 0 [Op2.mk (some 16)
  none (mov (t 4)), Op2.mk (some 17) none (bin BinOp.add false false (t 16) (c (AV.int IntKind.i64 (1)))), Op2.mk (some 4)
  none (mov (t 17))]))).loop)).seq ((ops 0 [Op2.mk (some 24) none (mov (t 3)), Op2.mk (some 2) none (mov (t 24))]).seq ret))))))
theorem is51 : Is Try.prog 51 b51 := Is.mk' Try.func51 (by kernel_rfl)

/-- roundtable/roundtableref12.Make -/
def b52 : F2 := (F2.mk 126 [RV.cn 2 4, RV.t 3] ((ops 0 [Op2.mk (some 1) none (box (t 0)), Op2.mk (some 2) none (alloc (AV.agg [AV.int IntKind.i64 (0),
  AV.int IntKind.i64 (0), AV.int IntKind.i64 (0), AV.esl])), Op2.mk (some 3) none (mov (c (AV.int IntKind.i64 (0))))]).seq (((ops 0 [Op2.mk (some 9)
  none (fa 1 (t 1)), Op2.mk (some 10) none (ld1 (t 9)), Op2.mk (some 11) none (bin BinOp.lss false false (t 10) (c (AV.int IntKind.i64 (1)))),
  Op2.mk (some 12) none (mov (t 11)), Op2.mk (some 13) (some (12, false)) (fa 1 (t 1)), Op2.mk (some 14) (some (12,
  false)) (ld1 (t 13)), Op2.mk (some 15) (some (12, false)) (bin BinOp.gtr false false (t 14) (c (AV.int IntKind.i64 (5)))),
  Op2.mk (some 16) none (pick (t 12) (c (AV.bool true)) (t 15))]).seq (C2.cond (t 16) ((ops 0 [Op2.mk (some 17) none (bld [AV.int IntKind.i64 (0),
  AV.int IntKind.i64 (0), AV.int IntKind.i64 (0), AV.esl] []), Op2.mk none none (Ins.st 4 (t 2) (t 17)), Op2.mk (some 3)
  none (mov (c (AV.int IntKind.i64 (2))))]).seq ret) skip)).seq (((ops 0 [Op2.mk (some 18) none (fa 2 (t 1)), Op2.mk (some 19)
  none (ld1 (t 18)), Op2.mk (some 20) none (bin BinOp.lss false false (t 19) (c (AV.int IntKind.i64 (1)))), Op2.mk (some 21)
  none (mov (t 20)), Op2.mk (some 22) (some (21, false)) (fa 2 (t 1)), Op2.mk (some 23) (some (21, false)) (ld1 (t 22)),
  Op2.mk (some 24) (some (21, false)) (bin BinOp.gtr false false (t 23) (c (AV.int IntKind.i64 (8)))), Op2.mk (some 25)
  none (pick (t 21) (c (AV.bool true)) (t 24)), Op2.mk (some 26) none (mov (t 25)), Op2.mk (some 27) (some (26, false))
  (fa 3 (t 1)), Op2.mk (some 28) (some (26, false)) (ld1 (t 27)), Op2.mk (some 29) (some (26, false)) (bin BinOp.lss false false (t 28)
  (c (AV.int IntKind.i64 (1)))), Op2.mk (some 30) none (pick (t 26) (c (AV.bool true)) (t 29)), Op2.mk (some 31) none (mov (t 30)),
  Op2.mk (some 32) (some (31, false)) (fa 3 (t 1)), Op2.mk (some 33) (some (31, false)) (ld1 (t 32)), Op2.mk (some 34)
  (some (31, false)) (bin BinOp.gtr false false (t 33) (c (AV.int IntKind.i64 (8)))), Op2.mk (some 35) none (pick (t 31)
  (c (AV.bool true)) (t 34))]).seq (C2.cond (t 35) ((ops 0 [Op2.mk (some 36) none (bld [AV.int IntKind.i64 (0), AV.int IntKind.i64 (0),
  AV.int IntKind.i64 (0), AV.esl] []), Op2.mk none none (Ins.st 4 (t 2) (t 36)), Op2.mk (some 3) none (mov (c (AV.int IntKind.i64 (2))))]).seq ret)
  skip)).seq (((ops 0 [Op2.mk (some 37) none (fa 0 (t 1)), Op2.mk (some 38) none (ld1 (t 37)), Op2.mk (some 39) none (bin BinOp.eql false false (t 38)
  (c (AV.int IntKind.i64 (6)))), Op2.mk (some 40) none (mov (t 39)), Op2.mk (some 41) (some (40, true)) (fa 4 (t 1)),
  Op2.mk (some 42) (some (40, true)) (ld1 (t 41)), Op2.mk (some 43) (some (40, true)) (bin BinOp.lss false false (t 42)
  (c (AV.int IntKind.i64 (1)))), Op2.mk (some 44) (some (40, true)) (mov (t 43)), Op2.mk (some 45) (some (44, false))
  (fa 4 (t 1)), Op2.mk (some 46) (some (44, false)) (ld1 (t 45)), Op2.mk (some 47) (some (44, false)) (fa 1 (t 1)),
  Op2.mk (some 48) (some (44, false)) (ld1 (t 47)), Op2.mk (some 49) (some (44, false)) (bin BinOp.gtr false false (t 46)
  (t 48)), Op2.mk (some 50) (some (40, true)) (pick (t 44) (c (AV.bool true)) (t 49)), Op2.mk (some 51) none (pick (t 40)
  (t 50) (c (AV.bool false)))]).seq (C2.cond (t 51) ((ops 0 [Op2.mk (some 52) none (bld [AV.int IntKind.i64 (0), AV.int IntKind.i64 (0),
  AV.int IntKind.i64 (0), AV.esl] []), Op2.mk none none (Ins.st 4 (t 2) (t 52)), Op2.mk (some 3) none (mov (c (AV.int IntKind.i64 (2))))]).seq ret)
  skip)).seq (((ops 0 [Op2.mk (some 53) none (fa 0 (t 1)), Op2.mk (some 54) none (ld1 (t 53)), Op2.mk (some 55) none (bin BinOp.eql false false (t 54)
  (c (AV.int IntKind.i64 (5)))), Op2.mk (some 56) none (mov (t 55)), Op2.mk (some 57) (some (56, true)) (fa 2 (t 1)),
  Op2.mk (some 58) (some (56, true)) (ld1 (t 57)), Op2.mk (some 59) (some (56, true)) (fa 1 (t 1)), Op2.mk (some 60)
  (some (56, true)) (ld1 (t 59)), Op2.mk (some 61) (some (56, true)) (bin BinOp.lss false false (t 58) (t 60)), Op2.mk (some 62)
  (some (56, true)) (mov (t 61)), Op2.mk (some 63) (some (62, false)) (fa 3 (t 1)), Op2.mk (some 64) (some (62, false))
  (ld1 (t 63)), Op2.mk (some 65) (some (62, false)) (fa 1 (t 1)), Op2.mk (some 66) (some (62, false)) (ld1 (t 65)),
  Op2.mk (some 67) (some (62, false)) (bin BinOp.lss false false (t 64) (t 66)), Op2.mk (some 68) (some (56, true))
  (pick (t 62) (c (AV.bool true)) (t 67)), Op2.mk (some 69) none (pick (t 56) (t 68) (c (AV.bool false)))]).seq (C2.cond (t 69)
  ((ops 0 [Op2.mk (some 70) none (bld [AV.int IntKind.i64 (0), AV.int IntKind.i64 (0), AV.int IntKind.i64 (0), AV.esl] []),
  Op2.mk none none (Ins.st 4 (t 2) (t 70)), Op2.mk (some 3) none (mov (c (AV.int IntKind.i64 (16))))]).seq ret) skip)).seq (((ops 0 [Op2.mk (some 71)
  none (ldn 5 (t 1)), Op2.mk (some 72) none (call (c (AV.func 84 [])) [t 71]), Op2.mk (some 73) none (bin BinOp.gtr false false (t 72)
  (c (AV.int IntKind.i64 (1024))))]).seq (C2.cond (t 73) ((ops 0 [Op2.mk (some 74) none (bld [AV.int IntKind.i64 (0),
  AV.int IntKind.i64 (0), AV.int IntKind.i64 (0), AV.esl] []), Op2.mk none none (Ins.st 4 (t 2) (t 74)), Op2.mk (some 3)
  none (mov (c (AV.int IntKind.i64 (17))))]).seq ret) skip)).seq ((ops 0 [Op2.mk (some 75) none (fa 1 (t 1)), Op2.mk (some 76)
  none (ld1 (t 75)), Op2.mk (some 77) none (fa 2 (t 1)), Op2.mk (some 78) none (ld1 (t 77)), Op2.mk (some 79) none (fa 3 (t 1)),
  Op2.mk (some 80) none (ld1 (t 79)), Op2.mk (some 81) none (bld [AV.int IntKind.i64 (0), AV.int IntKind.i64 (0),
  AV.int IntKind.i64 (0), AV.esl] [(0, 1, t 76), (1, 1, t 78), (2, 1, t 80)]), Op2.mk (some 4) none (alloc (AV.agg [AV.int IntKind.i64 (0),
  AV.int IntKind.i64 (0), AV.int IntKind.i64 (0), AV.esl])), Op2.mk none none (Ins.st 4 (t 4) (t 81))]).seq ((ops 0 [Op2.mk (some 82)
  none (fa 1 (t 1)), Op2.mk (some 83) none (ld1 (t 82)), Op2.mk (some 84) none (fa 2 (t 1)), Op2.mk (some 85) none (ld1 (t 84)),
  Op2.mk (some 86) none (call (c (AV.func 85 [])) [t 83, t 85]), Op2.mk (some 5) none (mov (t 86))]).seq (((ops 0 [Op2.mk (some 6)
  none (mov (c (AV.int IntKind.i64 (0))))]).seq (block 0 (((ops 0 [Op2.mk (some 87) none (mov (t 6)), Op2.mk (some 88)
  none (mov (t 5)), Op2.mk (some 89) none (lenS (t 88)), Op2.mk (some 90) none (bin BinOp.lss false false (t 87) (t 89))]).seq (C2.cond (t 90)
  skip (exit 0))).seq ((block 1 (((ops 1 [Op2.mk (some 93) none (ldn 5 (t 1)), Op2.mk (some 94) none (mov (t 5)),
  Op2.mk (some 95) none (mov (t 6)), Op2.mk (some 96) none (ixaS 1 (t 94) (t 95)), Op2.mk (some 97) none (ld1 (t 96)),
  Op2.mk (some 98) none (call (c (AV.func 86 [])) [t 93, t 97]), Op2.mk (some 99) none (un UnOp.not (t 98))]).seq (C2.cond (t 99)
  (exit 1) skip)).seq ((ops 1 [Op2.mk (some 101) none (ldn 5 (t 1)), Op2.mk (some 102) none (mov (t 5)), Op2.mk (some 103)
  none (mov (t 6)), Op2.mk (some 104) none (ixaS 1 (t 102) (t 103)), Op2.mk (some 105) none (ld1 (t 104)), Op2.mk (some 106)
  none (call (c (AV.func 87 [])) [t 101, t 105]), Op2.mk (some 100) none (mov (t 106)), Op2.mk (some 107) none (ext (t 100)
  0), Op2.mk (some 108) none (ext (t 100) 1), Op2.mk (some 7) none (mov (t 107)), Op2.mk (some 8) none (mov (t 108))]).seq (((ops 0 [Op2.mk (some 109)
  none (mov (t 7)), Op2.mk (some 110) none (lenS (t 109)), Op2.mk (some 111) none (bin BinOp.gtr false false (t 110)
  (c (AV.int IntKind.i64 (1024))))]).seq (C2.cond (t 111) ((ops 0 [Op2.mk (some 112) none (bld [AV.int IntKind.i64 (0),
  AV.int IntKind.i64 (0), AV.int IntKind.i64 (0), AV.esl] []), Op2.mk none none (Ins.st 4 (t 2) (t 112)), Op2.mk (some 3)
  none (mov (c (AV.int IntKind.i64 (17))))]).seq ret) skip)).seq (ops 1 [Op2.mk (some 113) none (fa 3 (t 4)), Op2.mk (some 114)
  none (ld1 (t 113)), Op2.mk (some 115) none (mov (t 5)), Op2.mk (some 116) none (mov (t 6)), Op2.mk (some 117) none (ixaS 1 (t 115)
  (t 116)), Op2.mk (some 118) none (ld1 (t 117)), Op2.mk (some 119) none (mov (t 7)), Op2.mk (some 120) none (mov (t 8)),
  Op2.mk (some 121) none (bld [AV.esl, AV.esl, AV.esl] [(0, 1, t 118), (1, 1, t 119), (2, 1, t 120)]), Op2.mk (some 122)
  none (bldS 3 1 [AV.esl, AV.esl, AV.esl] [(0, 3, t 121)]), Op2.mk (some 123) none (app 3 72 (t 114) (t 122)), Op2.mk (some 124)
  none (fa 3 (t 4)), Op2.mk none none (Ins.st 1 (t 124) (t 123))]))))).seq (ops 0 [Op2.mk (some 91) none (mov (t 6)),
  Op2.mk (some 92) none (bin BinOp.add false false (t 91) (c (AV.int IntKind.i64 (1)))), Op2.mk (some 6) none (mov (t 92))]))).loop)).seq ((ops 0 [Op2.mk (some 125)
  none (ldn 4 (t 4)), Op2.mk none none (Ins.st 4 (t 2) (t 125)), Op2.mk (some 3) none (mov (c (AV.int IntKind.i64 (0))))]).seq ret)))))))))))
theorem is52 : Is Try.prog 52 b52 := Is.mk' Try.func52 (by kernel_rfl)

/-- roundtable/roundtableref12.plus -/
def b53 : F2 := (F2.mk 11 [RV.t 2] ((ops 0 [Op2.mk (some 2) none (mov (c (AV.int IntKind.i64 (0))))]).seq (((ops 0 [Op2.mk (some 3)
  none (mov (t 0)), Op2.mk (some 4) none (bin BinOp.lss false false (t 3) (c (AV.int IntKind.i64 (0)))), Op2.mk (some 5)
  none (mov (t 4)), Op2.mk (some 6) (some (5, false)) (mov (t 0)), Op2.mk (some 7) (some (5, false)) (bin BinOp.gtr false false (t 6)
  (c (AV.int IntKind.i64 (1000)))), Op2.mk (some 8) none (pick (t 5) (c (AV.bool true)) (t 7))]).seq (C2.cond (t 8)
  ((ops 0 [Op2.mk (some 2) none (mov (c (AV.int IntKind.i64 (1000))))]).seq ret) skip)).seq ((ops 0 [Op2.mk (some 9)
  none (mov (t 0)), Op2.mk (some 10) none (bin BinOp.add false false (t 9) (c (AV.int IntKind.i64 (1)))), Op2.mk (some 2)
  none (mov (t 10))]).seq ret))))
theorem is53 : Is Try.prog 53 b53 := Is.mk' Try.func53 (by kernel_rfl)

/-- roundtable/library.Crusader$1 -/
def b54 : F2 := (F2.mk 14 [RV.t 5] ((ops 0 [Op2.mk (some 5) none (mov (c (AV.bool false)))]).seq ((ops 0 [Op2.mk (some 7) none (mov (t 1)),
  Op2.mk (some 8) none (call (c (AV.func 32 [])) [t 7]), Op2.mk (some 9) none (mkfn 56 [t 2]), Op2.mk (some 10) none (call (c (AV.func 55 []))
  [t 8, t 9]), Op2.mk (some 6) none (mov (t 10))]).seq ((ops 0 [Op2.mk (some 11) none (mov (t 6)), Op2.mk (some 12)
  none (call (c (AV.func 48 [])) [t 11]), Op2.mk (some 13) none (bin BinOp.leq false false (t 12) (c (AV.int IntKind.i64 (1)))),
  Op2.mk (some 5) none (mov (t 13))]).seq ret))))
theorem is54 : Is Try.prog 54 b54 := Is.mk' Try.func54 (by kernel_rfl)

/-- slices.DeleteFunc[[]int,int] -/
def b55 : F2 := (F2.mk 42 [RV.t 4] ((ops 0 [Op2.mk (some 4) none (mov (c AV.esl))]).seq ((ops 0 [Op2.mk (some 8) none (mov (t 0)),
  Op2.mk (some 9) none (mov (t 1)), Op2.mk (some 10) none (call (c (AV.func 88 [])) [t 8, t 9]), Op2.mk (some 5) none (mov (t 10))]).seq (((ops 0 [Op2.mk (some 11)
  none (mov (t 5)), Op2.mk (some 12) none (bin BinOp.eql false false (t 11) (c (AV.int IntKind.i64 (-1))))]).seq (C2.cond (t 12)
  ((ops 0 [Op2.mk (some 13) none (mov (t 0)), Op2.mk (some 4) none (mov (t 13))]).seq ret) skip)).seq (((ops 0 [Op2.mk (some 14)
  none (mov (t 5)), Op2.mk (some 15) none (bin BinOp.add false false (t 14) (c (AV.int IntKind.i64 (1)))), Op2.mk (some 6)
  none (mov (t 15))]).seq (block 0 (((ops 0 [Op2.mk (some 16) none (mov (t 6)), Op2.mk (some 17) none (mov (t 0)),
  Op2.mk (some 18) none (lenS (t 17)), Op2.mk (some 19) none (bin BinOp.lss false false (t 16) (t 18))]).seq (C2.cond (t 19)
  skip (exit 0))).seq ((block 1 ((ops 0 [Op2.mk (some 22) none (mov (t 0)), Op2.mk (some 23) none (mov (t 6)), Op2.mk (some 24)
  none (ixaS 1 (t 22) (t 23)), Op2.mk (some 25) none (ld1 (t 24)), Op2.mk (some 7) none (mov (t 25))]).seq ((ops 0 [Op2.mk (some 26)
  none (mov (t 1)), Op2.mk (some 27) none (mov (t 7)), Op2.mk (some 28) none (call (t 26) [t 27]), Op2.mk (some 29)
  none (un UnOp.not (t 28))]).seq (C2.cond (t 29) ((ops 0 [Op2.mk (some 30) none (mov (t 0)), Op2.mk (some 31) none (mov (t 5)),
  Op2.mk (some 32) none (mov (t 7)), Op2.mk (some 33) none (ixaS 1 (t 30) (t 31)), Op2.mk none none (Ins.st 1 (t 33)
  (t 32))]).seq (ops 0 [Op2.mk (some 34) none (mov (t 5)), Op2.mk (some 35) none (bin BinOp.add false false (t 34)
  (c (AV.int IntKind.i64 (1)))), Op2.mk (some 5) none (mov (t 35))])) skip)))).seq (ops 0 [Op2.mk (some 20) none (mov (t 6)),
  Op2.mk (some 21) none (bin BinOp.add false false (t 20) (c (AV.int IntKind.i64 (1)))), Op2.mk (some 6) none (mov (t 21))]))).loop)).seq ((ops 0 [Op2.mk (some 36)
  none (mov (t 0)), Op2.mk (some 37) none (mov (t 5)), Op2.mk (some 38) none (sls 1 (t 36) (some (t 37)) none none),
  Op2.mk none none (clr 1 (AV.int IntKind.i64 (0)) (t 38))]).seq ((ops 0 [Op2.mk (some 39) none (mov (t 0)), Op2.mk (some 40)
  none (mov (t 5)), Op2.mk (some 41) none (sls 1 (t 39) none (some (t 40)) none), Op2.mk (some 4) none (mov (t 41))]).seq ret)))))))
theorem is55 : Is Try.prog 55 b55 := Is.mk' Try.func55 (by kernel_rfl)

/-- roundtable/library.Crusader$1$1 -/
def b56 : F2 := (F2.mk 7 [RV.t 3] ((ops 0 [Op2.mk (some 3) none (mov (c (AV.bool false)))]).seq ((ops 0 [Op2.mk (some 4) none (mov (t 0)),
  Op2.mk (some 5) none (ld1 (t 1)), Op2.mk (some 6) none (bin BinOp.eql false false (t 4) (t 5)), Op2.mk (some 3)
  none (mov (t 6))]).seq ret)))
theorem is56 : Is Try.prog 56 b56 := Is.mk' Try.func56 (by kernel_rfl)

/-- roundtable/library.Crusader$2 -/
def b57 : F2 := (F2.mk 10 [RV.t 4] ((ops 0 [Op2.mk (some 4) none (mov (c (AV.bool false)))]).seq ((ops 0 [Op2.mk (some 5) none (mov (t 1)),
  Op2.mk (some 6) none (mov (t 0)), Op2.mk (some 7) none (ixaS 1 (t 6) (c (AV.int IntKind.i64 (0)))), Op2.mk (some 8)
  none (ld1 (t 7)), Op2.mk (some 9) none (call (c (AV.func 49 [])) [t 5, t 8]), Op2.mk (some 4) none (mov (t 9))]).seq ret)))
theorem is57 : Is Try.prog 57 b57 := Is.mk' Try.func57 (by kernel_rfl)

/-- roundtable/roundtableref11.Order -/
def b58 : F2 := (F2.mk 46 [RV.t 4] ((ops 0 [Op2.mk (some 4) none (mov (c (AV.int IntKind.i64 (0))))]).seq (((ops 0 [Op2.mk (some 5)
  none (mov (c (AV.int IntKind.i64 (0))))]).seq (block 0 (((ops 0 [Op2.mk (some 6) none (mov (t 5)), Op2.mk (some 7)
  none (mov (t 0)), Op2.mk (some 8) none (lenS (t 7)), Op2.mk (some 9) none (bin BinOp.lss false false (t 6) (t 8)),
  Op2.mk (some 10) none (mov (t 9)), Op2.mk (some 11) (some (10, true)) (mov (t 5)), Op2.mk (some 12) (some (10, true))
  (mov (t 1)), Op2.mk (some 13) (some (10, true)) (lenS (t 12)), Op2.mk (some 14) (some (10, true)) (bin BinOp.lss false false (t 11)
  (t 13)), Op2.mk (some 15) none (pick (t 10) (t 14) (c (AV.bool false)))]).seq (C2.cond (t 15) skip (exit 0))).seq ((block 1 (((ops 1 [Op2.mk (some 18)
  none (mov (t 0)), Op2.mk (some 19) none (mov (t 5)), Op2.mk (some 20) none (ixaS 1 (t 18) (t 19)), Op2.mk (some 21)
  none (ld1 (t 20)), Op2.mk (some 22) none (mov (t 1)), Op2.mk (some 23) none (mov (t 5)), Op2.mk (some 24) none (ixaS 1 (t 22)
  (t 23)), Op2.mk (some 25) none (ld1 (t 24)), Op2.mk (some 26) none (bin BinOp.lss false false (t 21) (t 25))]).seq (C2.cond (t 26)
  ((ops 0 [Op2.mk (some 4) none (mov (c (AV.int IntKind.i64 (-1))))]).seq ret) skip)).seq ((ops 1 [Op2.mk (some 27)
  none (mov (t 0)), Op2.mk (some 28) none (mov (t 5)), Op2.mk (some 29) none (ixaS 1 (t 27) (t 28)), Op2.mk (some 30)
  none (ld1 (t 29)), Op2.mk (some 31) none (mov (t 1)), Op2.mk (some 32) none (mov (t 5)), Op2.mk (some 33) none (ixaS 1 (t 31)
  (t 32)), Op2.mk (some 34) none (ld1 (t 33)), Op2.mk (some 35) none (bin BinOp.gtr false false (t 30) (t 34))]).seq (C2.cond (t 35)
  ((ops 0 [Op2.mk (some 4) none (mov (c (AV.int IntKind.i64 (1))))]).seq ret) skip)))).seq (ops 0 [Op2.mk (some 16)
  none (mov (t 5)), Op2.mk (some 17) none (bin BinOp.add false false (t 16) (c (AV.int IntKind.i64 (1)))), Op2.mk (some 5)
  none (mov (t 17))]))).loop)).seq (((ops 0 [Op2.mk (some 36) none (mov (t 0)), Op2.mk (some 37) none (lenS (t 36)),
  Op2.mk (some 38) none (mov (t 1)), Op2.mk (some 39) none (lenS (t 38)), Op2.mk (some 40) none (bin BinOp.lss false false (t 37)
  (t 39))]).seq (C2.cond (t 40) ((ops 0 [Op2.mk (some 4) none (mov (c (AV.int IntKind.i64 (-1))))]).seq ret) skip)).seq (((ops 0 [Op2.mk (some 41)
  none (mov (t 0)), Op2.mk (some 42) none (lenS (t 41)), Op2.mk (some 43) none (mov (t 1)), Op2.mk (some 44) none (lenS (t 43)),
  Op2.mk (some 45) none (bin BinOp.gtr false false (t 42) (t 44))]).seq (C2.cond (t 45) ((ops 0 [Op2.mk (some 4) none (mov (c (AV.int IntKind.i64 (1))))]).seq ret)
  skip)).seq ((ops 0 [Op2.mk (some 4) none (mov (c (AV.int IntKind.i64 (0))))]).seq ret))))))
theorem is58 : Is Try.prog 58 b58 := Is.mk' Try.func58 (by kernel_rfl)

/-- roundtable/library.agreement -/
def b59 : F2 := (F2.mk 13 [RV.cn 6 7] ((ops 0 [Op2.mk (some 5) none (box (t 2)), Op2.mk (some 6) none (alloc (AV.agg [AV.int IntKind.i64 (0),
  AV.int IntKind.i64 (0), AV.int IntKind.i64 (0), AV.int IntKind.i64 (0), AV.nilf, AV.nilf, AV.nilf]))]).seq ((ops 0 [Op2.mk (some 7)
  none (mov (t 0)), Op2.mk (some 8) none (mov (t 1)), Op2.mk (some 9) none (mov (t 1)), Op2.mk (some 10) none (ld1 (t 5)),
  Op2.mk (some 11) none (mkfn 89 [t 5]), Op2.mk (some 12) none (bld [AV.int IntKind.i64 (0), AV.int IntKind.i64 (0),
  AV.int IntKind.i64 (0), AV.int IntKind.i64 (0), AV.nilf, AV.nilf, AV.nilf] [(0, 1, t 7), (1, 1, t 8), (2, 1, t 9),
  (3, 1, t 10), (5, 1, t 11)]), Op2.mk none none (Ins.st 7 (t 6) (t 12))]).seq ret)))
theorem is59 : Is Try.prog 59 b59 := Is.mk' Try.func59 (by kernel_rfl)

/-- roundtable/library.tasks -/
def b60 : F2 := (F2.mk 3 [RV.t 0] ((ops 0 [Op2.mk (some 0) none (mov (c AV.undef))]).seq ((ops 0 [Op2.mk (some 1) none (mkm none),
  Op2.mk none none (mput (one str) (t 1) (c (AV.str (ByteArray.mk (Array.mk [97, 112, 112, 114, 111, 120, 105, 109,
  97, 116, 101])))) (c (AV.func 91 []))), Op2.mk none none (mput (one str) (t 1) (c (AV.str (ByteArray.mk (Array.mk [99,
  111, 109, 109, 105, 116])))) (c (AV.func 92 []))), Op2.mk none none (mput (one str) (t 1) (c (AV.str (ByteArray.mk (Array.mk [99,
  111, 110, 115, 101, 110, 115, 117, 115])))) (c (AV.func 93 []))), Op2.mk none none (mput (one str) (t 1) (c (AV.str (ByteArray.mk (Array.mk [99,
  114, 117, 115, 97, 100, 101, 114])))) (c (AV.func 94 []))), Op2.mk none none (mput (one str) (t 1) (c (AV.str (ByteArray.mk (Array.mk [108,
  101, 97, 100, 101, 114])))) (c (AV.func 95 []))), Op2.mk none none (mput (one str) (t 1) (c (AV.str (ByteArray.mk (Array.mk [114,
  101, 110, 97, 109, 105, 110, 103])))) (c (AV.func 35 []))), Op2.mk none none (mput (one str) (t 1) (c (AV.str (ByteArray.mk (Array.mk [115,
  101, 116])))) (c (AV.func 18 []))), Op2.mk (some 2) none (mov (t 1)), Op2.mk (some 0) none (mov (t 2))]).seq ret)))
theorem is60 : Is Try.prog 60 b60 := Is.mk' Try.func60 (by kernel_rfl)

/-- roundtable/library.Commit$1 -/
def b61 : F2 := (F2.mk 5 [RV.t 2] ((ops 0 [Op2.mk (some 2) none (mov (c (AV.int IntKind.i64 (0))))]).seq ((ops 0 [Op2.mk (some 3)
  none (mov (t 0)), Op2.mk (some 4) none (call (c (AV.func 51 [])) [t 3]), Op2.mk (some 2) none (mov (t 4))]).seq ret)))
theorem is61 : Is Try.prog 61 b61 := Is.mk' Try.func61 (by kernel_rfl)

/-- roundtable/library.Commit$2 -/
def b62 : F2 := (F2.mk 18 [RV.t 5] ((ops 0 [Op2.mk (some 5) none (mov (c (AV.bool false)))]).seq ((ops 0 [Op2.mk (some 6) none (mov (t 1)),
  Op2.mk (some 7) none (call (c (AV.func 49 [])) [t 6, c (AV.int IntKind.i64 (0))]), Op2.mk (some 8) none (mov (t 7)),
  Op2.mk (some 9) (some (8, false)) (mov (t 1)), Op2.mk (some 10) (some (8, false)) (call (c (AV.func 49 [])) [t 9,
  c (AV.int IntKind.i64 (1))]), Op2.mk (some 11) (some (8, false)) (mov (t 10)), Op2.mk (some 12) (some (11, true))
  (ld1 (t 2)), Op2.mk (some 13) (some (11, true)) (mov (t 0)), Op2.mk (some 14) (some (11, true)) (call (t 12) [t 13]),
  Op2.mk (some 15) (some (11, true)) (bin BinOp.eql false false (t 14) (c (AV.int IntKind.i64 (1)))), Op2.mk (some 16)
  (some (8, false)) (pick (t 11) (t 15) (c (AV.bool false))), Op2.mk (some 17) none (pick (t 8) (c (AV.bool true))
  (t 16)), Op2.mk (some 5) none (mov (t 17))]).seq ret)))
theorem is62 : Is Try.prog 62 b62 := Is.mk' Try.func62 (by kernel_rfl)

/-- roundtable/library.Commit$3 -/
def b63 : F2 := (F2.mk 11 [RV.t 5] ((ops 0 [Op2.mk (some 5) none (mov (c (AV.bool false)))]).seq ((ops 0 [Op2.mk (some 6) none (mov (t 1)),
  Op2.mk (some 7) none (ld1 (t 2)), Op2.mk (some 8) none (mov (t 0)), Op2.mk (some 9) none (call (t 7) [t 8]), Op2.mk (some 10)
  none (call (c (AV.func 49 [])) [t 6, t 9]), Op2.mk (some 5) none (mov (t 10))]).seq ret)))
theorem is63 : Is Try.prog 63 b63 := Is.mk' Try.func63 (by kernel_rfl)

/-- slices.ContainsFunc[[]int,int] -/
def b67 : F2 := (F2.mk 9 [RV.t 4] ((ops 0 [Op2.mk (some 4) none (mov (c (AV.bool false)))]).seq ((ops 0 [Op2.mk (some 5) none (mov (t 0)),
  Op2.mk (some 6) none (mov (t 1)), Op2.mk (some 7) none (call (c (AV.func 88 [])) [t 5, t 6]), Op2.mk (some 8) none (bin BinOp.geq false false (t 7)
  (c (AV.int IntKind.i64 (0)))), Op2.mk (some 4) none (mov (t 8))]).seq ret)))
theorem is67 : Is Try.prog 67 b67 := Is.mk' Try.func67 (by kernel_rfl)

/-- slices.Index[[]int,int] -/
def b72 : F2 := (F2.mk 19 [RV.t 4] ((ops 0 [Op2.mk (some 4) none (mov (c (AV.int IntKind.i64 (0))))]).seq (((ops 0 [Op2.mk (some 6)
  none (mov (t 0)), Op2.mk (some 7) none (lenS (t 6)), Op2.mk (some 8) none (mov (c (AV.int IntKind.i64 (0))))]).seq (block 0 ((ops 0 [Op2.mk (some 9)
  none (bin BinOp.lss false false (t 8) (t 7))]).seq ((C2.cond (t 9) skip (exit 0)).seq ((block 1 ((ops 0 [Op2.mk (some 10)
  none (mov (t 8)), Op2.mk (some 5) none (mov (t 10))]).seq ((ops 0 [Op2.mk (some 11) none (mov (t 1)), Op2.mk (some 12)
  none (mov (t 0)), Op2.mk (some 13) none (mov (t 5)), Op2.mk (some 14) none (ixaS 1 (t 12) (t 13)), Op2.mk (some 15)
  none (ld1 (t 14)), Op2.mk (some 16) none (bin BinOp.eql false false (t 11) (t 15))]).seq (C2.cond (t 16) ((ops 0 [Op2.mk (some 17)
  none (mov (t 5)), Op2.mk (some 4) none (mov (t 17))]).seq ret) skip)))).seq (ops 0 [Op2.mk (some 18) none (bin BinOp.add false false (t 8)
  (c (AV.int IntKind.i64 (1)))), Op2.mk (some 8) none (mov (t 18))])))).loop)).seq ((ops 0 [Op2.mk (some 4) none (mov (c (AV.int IntKind.i64 (-1))))]).seq ret))))
theorem is72 : Is Try.prog 72 b72 := Is.mk' Try.func72 (by kernel_rfl)

/-- roundtable/library.Renaming$1 -/
def b76 : F2 := (F2.mk 8 [RV.t 2] ((ops 0 [Op2.mk (some 2) none (mov (c (AV.bool false)))]).seq ((ops 0 [Op2.mk (some 3) none (mov (t 0)),
  Op2.mk (some 4) none (call (c (AV.func 48 [])) [t 3]), Op2.mk (some 5) none (mov (t 0)), Op2.mk (some 6) none (lenS (t 5)),
  Op2.mk (some 7) none (bin BinOp.eql false false (t 4) (t 6)), Op2.mk (some 2) none (mov (t 7))]).seq ret)))
theorem is76 : Is Try.prog 76 b76 := Is.mk' Try.func76 (by kernel_rfl)

/-- roundtable/library.Renaming$2 -/
def b77 : F2 := (F2.mk 10 [RV.t 4] ((ops 0 [Op2.mk (some 4) none (mov (c (AV.bool false)))]).seq ((ops 0 [Op2.mk (some 5) none (mov (t 1)),
  Op2.mk (some 6) none (call (c (AV.func 48 [])) [t 5]), Op2.mk (some 7) none (mov (t 1)), Op2.mk (some 8) none (lenS (t 7)),
  Op2.mk (some 9) none (bin BinOp.eql false false (t 6) (t 8)), Op2.mk (some 4) none (mov (t 9))]).seq ret)))
theorem is77 : Is Try.prog 77 b77 := Is.mk' Try.func77 (by kernel_rfl)

/-- roundtable/library.Leader$1 -/
def b78 : F2 := (F2.mk 20 [RV.t 4] ((ops 0 [Op2.mk (some 4) none (mov (c (AV.bool false)))]).seq ((ops 0 [Op2.mk (some 5) none (mov (c (AV.int IntKind.i64 (0))))]).seq (((ops 0 [Op2.mk (some 8)
  none (mov (t 1)), Op2.mk (some 9) none (lenS (t 8)), Op2.mk (some 10) none (mov (c (AV.int IntKind.i64 (0))))]).seq (block 0 ((ops 0 [Op2.mk (some 11)
  none (bin BinOp.lss false false (t 10) (t 9))]).seq ((C2.cond (t 11) skip (exit 0)).seq ((block 1 ((ops 0 [Op2.mk (some 12)
  none (ixaS 1 (t 8) (t 10)), Op2.mk (some 13) none (ld1 (t 12)), Op2.mk (some 7) none (mov (t 13))]).seq (ops 0 [Op2.mk (some 14)
  none (mov (t 5)), Op2.mk (some 15) none (mov (t 7)), Op2.mk (some 16) none (bin BinOp.add false false (t 14) (t 15)),
  Op2.mk (some 5) none (mov (t 16))]))).seq (ops 0 [Op2.mk (some 17) none (bin BinOp.add false false (t 10) (c (AV.int IntKind.i64 (1)))),
  Op2.mk (some 10) none (mov (t 17))])))).loop)).seq ((ops 0 [Op2.mk (some 18) none (mov (t 5)), Op2.mk (some 19)
  none (bin BinOp.eql false false (t 18) (c (AV.int IntKind.i64 (1)))), Op2.mk (some 4) none (mov (t 19))]).seq ret)))))
theorem is78 : Is Try.prog 78 b78 := Is.mk' Try.func78 (by kernel_rfl)

/-- roundtable/library.between -/
def b81 : F2 := (F2.mk 15 [RV.t 6] ((ops 0 [Op2.mk (some 6) none (mov (c (AV.bool false)))]).seq ((ops 0 [Op2.mk (some 7) none (mov (t 0)),
  Op2.mk (some 8) none (mov (t 1)), Op2.mk (some 9) none (bin BinOp.geq false false (t 7) (t 8)), Op2.mk (some 10)
  none (mov (t 9)), Op2.mk (some 11) (some (10, true)) (mov (t 0)), Op2.mk (some 12) (some (10, true)) (mov (t 2)),
  Op2.mk (some 13) (some (10, true)) (bin BinOp.leq false false (t 11) (t 12)), Op2.mk (some 14) none (pick (t 10)
  (t 13) (c (AV.bool false))), Op2.mk (some 6) none (mov (t 14))]).seq ret)))
theorem is81 : Is Try.prog 81 b81 := Is.mk' Try.func81 (by kernel_rfl)

/-- roundtable/library.many -/
def b82 : F2 := (F2.mk 28 [RV.t 8] ((ops 0 [Op2.mk (some 6) none (box (t 2)), Op2.mk (some 7) none (box (t 3)), Op2.mk (some 8)
  none (mov (c (AV.int IntKind.i64 (0))))]).seq ((ops 0 [Op2.mk (some 9) none (alloc (AV.int IntKind.i64 (0))), Op2.mk none none (Ins.st 1 (t 9)
  (c (AV.int IntKind.i64 (0))))]).seq (((ops 0 [Op2.mk (some 11) none (mov (t 0)), Op2.mk (some 12) none (mov (t 1)),
  Op2.mk (some 13) none (call (c (AV.func 83 [])) [t 11, t 12])]).seq (block 0 (rangeF (t 13) [14] (ops 0 [Op2.mk (some 10)
  none (mov (t 14))]) (block 1 (((ops 0 [Op2.mk (some 15) none (ld1 (t 6)), Op2.mk (some 16) none (bin BinOp.eql false true (t 15)
  (c AV.nilf)), Op2.mk (some 17) none (mov (t 16)), Op2.mk (some 18) (some (17, false)) (ld1 (t 6)), Op2.mk (some 19)
  (some (17, false)) (mov (t 10)), Op2.mk (some 20) (some (17, false)) (call (t 18) [t 19]), Op2.mk (some 21) none (pick (t 17)
  (c (AV.bool true)) (t 20))]).seq (C2.cond (t 21) (ops 0 [Op2.mk (some 22) none (ld1 (t 9)), Op2.mk (some 23) none (bin BinOp.add false false (t 22)
  (c (AV.int IntKind.i64 (1)))), Op2.mk none none (Ins.st 1 (t 9) (t 23))]) skip)).seq ((ops 0 [Op2.mk (some 24) none (ld1 (t 9)),
  Op2.mk (some 25) none (ld1 (t 7)), Op2.mk (some 26) none (bin BinOp.gtr false false (t 24) (t 25))]).seq (C2.cond (t 26)
  (exit 0) skip))))))).seq ((ops 0 [Op2.mk (some 27) none (ld1 (t 9)), Op2.mk (some 8) none (mov (t 27))]).seq ret)))))
theorem is82 : Is Try.prog 82 b82 := Is.mk' Try.func82 (by kernel_rfl)

/-- roundtable/library.each -/
def b83 : F2 := (F2.mk 6 [RV.t 4] ((ops 0 [Op2.mk (some 2) none (box (t 0)), Op2.mk (some 3) none (box (t 1)), Op2.mk (some 4) none (mov (c AV.nilf))]).seq ((ops 0 [Op2.mk (some 5)
  none (mkfn 113 [t 2, t 3]), Op2.mk (some 4) none (mov (t 5))]).seq ret)))
theorem is83 : Is Try.prog 83 b83 := Is.mk' Try.func83 (by kernel_rfl)

/-- roundtable/roundtableref12.cases -/
def b84 : F2 := (F2.mk 31 [RV.t 2] ((ops 0 [Op2.mk (some 1) none (box (t 0)), Op2.mk (some 2) none (mov (c (AV.int IntKind.i64 (0))))]).seq (((ops 0 [Op2.mk (some 5)
  none (fa 0 (t 1)), Op2.mk (some 6) none (ld1 (t 5)), Op2.mk (some 7) none (bin BinOp.neq false false (t 6) (c (AV.int IntKind.i64 (5))))]).seq (C2.cond (t 7)
  ((ops 0 [Op2.mk (some 8) none (fa 2 (t 1)), Op2.mk (some 9) none (ld1 (t 8)), Op2.mk (some 10) none (fa 1 (t 1)),
  Op2.mk (some 11) none (ld1 (t 10)), Op2.mk (some 12) none (call (c (AV.func 43 [])) [t 9, t 11, c (AV.int IntKind.i64 (1024))]),
  Op2.mk (some 2) none (mov (t 12))]).seq ret) skip)).seq ((ops 0 [Op2.mk (some 3) none (mov (c (AV.int IntKind.i64 (1))))]).seq (((ops 0 [Op2.mk (some 4)
  none (mov (c (AV.int IntKind.i64 (0))))]).seq (block 0 (((ops 0 [Op2.mk (some 13) none (mov (t 4)), Op2.mk (some 14)
  none (fa 1 (t 1)), Op2.mk (some 15) none (ld1 (t 14)), Op2.mk (some 16) none (bin BinOp.lss false false (t 13) (t 15)),
  Op2.mk (some 17) none (mov (t 16)), Op2.mk (some 18) (some (17, true)) (mov (t 3)), Op2.mk (some 19) (some (17,
  true)) (bin BinOp.leq false false (t 18) (c (AV.int IntKind.i64 (1024)))), Op2.mk (some 20) none (pick (t 17) (t 19)
  (c (AV.bool false)))]).seq (C2.cond (t 20) skip (exit 0))).seq ((block 1 (ops 0 [Op2.mk (some 23) none (mov (t 3)),
  Op2.mk (some 24) none (fa 2 (t 1)), Op2.mk (some 25) none (ld1 (t 24)), Op2.mk (some 26) none (mov (t 4)), Op2.mk (some 27)
  none (bin BinOp.sub false false (t 25) (t 26)), Op2.mk (some 28) none (mx (c (AV.int IntKind.i64 (0))) [t 27]),
  Op2.mk (some 29) none (bin BinOp.mul false false (t 23) (t 28)), Op2.mk (some 3) none (mov (t 29))])).seq (ops 0 [Op2.mk (some 21)
  none (mov (t 4)), Op2.mk (some 22) none (bin BinOp.add false false (t 21) (c (AV.int IntKind.i64 (1)))), Op2.mk (some 4)
  none (mov (t 22))]))).loop)).seq ((ops 0 [Op2.mk (some 30) none (mov (t 3)), Op2.mk (some 2) none (mov (t 30))]).seq ret))))))
theorem is84 : Is Try.prog 84 b84 := Is.mk' Try.func84 (by kernel_rfl)

/-- roundtable/roundtableref12.Every -/
def b85 : F2 := (F2.mk 42 [RV.t 4] ((ops 0 [Op2.mk (some 4) none (mov (c AV.esl))]).seq (((ops 0 [Op2.mk (some 10) none (mov (t 0)),
  Op2.mk (some 11) none (bin BinOp.eql false false (t 10) (c (AV.int IntKind.i64 (0))))]).seq (C2.cond (t 11) ((ops 0 [Op2.mk (some 12)
  none (bldS 1 1 [AV.esl] [(0, 1, c AV.esl)]), Op2.mk (some 4) none (mov (t 12))]).seq ret) skip)).seq ((ops 0 [Op2.mk (some 5)
  none (mov (c AV.esl))]).seq ((ops 0 [Op2.mk (some 13) none (mov (t 0)), Op2.mk (some 14) none (bin BinOp.sub false false (t 13)
  (c (AV.int IntKind.i64 (1)))), Op2.mk (some 15) none (mov (t 1)), Op2.mk (some 16) none (call (c (AV.func 85 []))
  [t 14, t 15]), Op2.mk (some 6) none (mov (t 16))]).seq (((ops 0 [Op2.mk (some 7) none (mov (c (AV.int IntKind.i64 (0))))]).seq (block 0 (((ops 0 [Op2.mk (some 17)
  none (mov (t 7)), Op2.mk (some 18) none (mov (t 1)), Op2.mk (some 19) none (bin BinOp.lss false false (t 17) (t 18))]).seq (C2.cond (t 19)
  skip (exit 0))).seq ((block 1 ((ops 0 [Op2.mk (some 8) none (mov (c (AV.int IntKind.i64 (0))))]).seq (block 2 (((ops 0 [Op2.mk (some 22)
  none (mov (t 8)), Op2.mk (some 23) none (mov (t 6)), Op2.mk (some 24) none (lenS (t 23)), Op2.mk (some 25) none (bin BinOp.lss false false (t 22)
  (t 24))]).seq (C2.cond (t 25) skip (exit 2))).seq ((block 3 ((ops 0 [Op2.mk (some 9) none (mov (c AV.esl))]).seq ((ops 0 [Op2.mk (some 28)
  none (mov (t 9)), Op2.mk (some 29) none (mov (t 7)), Op2.mk (some 30) none (bldS 1 1 [AV.int IntKind.i64 (0)] [(0,
  1, t 29)]), Op2.mk (some 31) none (app 1 8 (t 28) (t 30)), Op2.mk (some 9) none (mov (t 31))]).seq (ops 0 [Op2.mk (some 32)
  none (mov (t 5)), Op2.mk (some 33) none (mov (t 9)), Op2.mk (some 34) none (mov (t 6)), Op2.mk (some 35) none (mov (t 8)),
  Op2.mk (some 36) none (ixaS 1 (t 34) (t 35)), Op2.mk (some 37) none (ld1 (t 36)), Op2.mk (some 38) none (app 1 8 (t 33)
  (t 37)), Op2.mk (some 39) none (bldS 1 1 [AV.esl] [(0, 1, t 38)]), Op2.mk (some 40) none (app 1 24 (t 32) (t 39)),
  Op2.mk (some 5) none (mov (t 40))])))).seq (ops 0 [Op2.mk (some 26) none (mov (t 8)), Op2.mk (some 27) none (bin BinOp.add false false (t 26)
  (c (AV.int IntKind.i64 (1)))), Op2.mk (some 8) none (mov (t 27))]))).loop))).seq (ops 0 [Op2.mk (some 20) none (mov (t 7)),
  Op2.mk (some 21) none (bin BinOp.add false false (t 20) (c (AV.int IntKind.i64 (1)))), Op2.mk (some 7) none (mov (t 21))]))).loop)).seq ((ops 0 [Op2.mk (some 41)
  none (mov (t 5)), Op2.mk (some 4) none (mov (t 41))]).seq ret)))))))
theorem is85 : Is Try.prog 85 b85 := Is.mk' Try.func85 (by kernel_rfl)

/-- roundtable/roundtableref12.Case -/
def b86 : F2 := (F2.mk 15 [RV.t 4] ((ops 0 [Op2.mk (some 2) none (box (t 0)), Op2.mk (some 4) none (mov (c (AV.bool false)))]).seq ((ops 0 [Op2.mk (some 5)
  none (fa 0 (t 2)), Op2.mk (some 6) none (ld1 (t 5)), Op2.mk (some 7) none (bin BinOp.neq false false (t 6) (c (AV.int IntKind.i64 (5)))),
  Op2.mk (some 8) none (mov (t 7)), Op2.mk (some 9) (some (8, false)) (mov (t 1)), Op2.mk (some 10) (some (8, false))
  (call (c (AV.func 114 [])) [t 9]), Op2.mk (some 11) (some (8, false)) (mov (t 1)), Op2.mk (some 12) (some (8, false))
  (lenS (t 11)), Op2.mk (some 13) (some (8, false)) (bin BinOp.eql false false (t 10) (t 12)), Op2.mk (some 14) none (pick (t 8)
  (c (AV.bool true)) (t 13)), Op2.mk (some 4) none (mov (t 14))]).seq ret)))
theorem is86 : Is Try.prog 86 b86 := Is.mk' Try.func86 (by kernel_rfl)

/-- roundtable/roundtableref12.vectors -/
def b87 : F2 := (F2.mk 51 [RV.t 4, RV.t 5] ((ops 0 [Op2.mk (some 2) none (box (t 0)), Op2.mk (some 4) none (mov (c AV.esl)), Op2.mk (some 5)
  none (mov (c AV.esl))]).seq ((ops 0 [Op2.mk (some 6) none (mov (c AV.esl)), Op2.mk (some 7) none (mov (c AV.esl))]).seq ((ops 0 [Op2.mk (some 10)
  none (fa 1 (t 2)), Op2.mk (some 11) none (ld1 (t 10)), Op2.mk (some 12) none (fa 3 (t 2)), Op2.mk (some 13) none (ld1 (t 12)),
  Op2.mk (some 14) none (call (c (AV.func 85 [])) [t 11, t 13]), Op2.mk (some 8) none (mov (t 14))]).seq (((ops 0 [Op2.mk (some 9)
  none (mov (c (AV.int IntKind.i64 (0))))]).seq (block 0 (((ops 0 [Op2.mk (some 15) none (mov (t 9)), Op2.mk (some 16)
  none (mov (t 8)), Op2.mk (some 17) none (lenS (t 16)), Op2.mk (some 18) none (bin BinOp.lss false false (t 15) (t 17))]).seq (C2.cond (t 18)
  skip (exit 0))).seq ((block 1 ((ops 1 [Op2.mk (some 21) none (ldn 5 (t 2)), Op2.mk (some 22) none (mov (t 1)), Op2.mk (some 23)
  none (mov (t 8)), Op2.mk (some 24) none (mov (t 9)), Op2.mk (some 25) none (ixaS 1 (t 23) (t 24)), Op2.mk (some 26)
  none (ld1 (t 25)), Op2.mk (some 27) none (call (c (AV.func 115 [])) [t 21, t 22, t 26])]).seq (C2.cond (t 27) ((ops 0 [Op2.mk (some 28)
  none (mov (t 6)), Op2.mk (some 29) none (mov (t 8)), Op2.mk (some 30) none (mov (t 9)), Op2.mk (some 31) none (ixaS 1 (t 29)
  (t 30)), Op2.mk (some 32) none (ld1 (t 31)), Op2.mk (some 33) none (bldS 1 1 [AV.esl] [(0, 1, t 32)]), Op2.mk (some 34)
  none (app 1 24 (t 28) (t 33)), Op2.mk (some 6) none (mov (t 34))]).seq ((ops 1 [Op2.mk (some 35) none (ldn 5 (t 2)),
  Op2.mk (some 36) none (mov (t 1)), Op2.mk (some 37) none (mov (t 8)), Op2.mk (some 38) none (mov (t 9)), Op2.mk (some 39)
  none (ixaS 1 (t 37) (t 38)), Op2.mk (some 40) none (ld1 (t 39)), Op2.mk (some 41) none (call (c (AV.func 116 []))
  [t 35, t 36, t 40])]).seq (C2.cond (t 41) (ops 0 [Op2.mk (some 42) none (mov (t 7)), Op2.mk (some 43) none (mov (t 8)),
  Op2.mk (some 44) none (mov (t 9)), Op2.mk (some 45) none (ixaS 1 (t 43) (t 44)), Op2.mk (some 46) none (ld1 (t 45)),
  Op2.mk (some 47) none (bldS 1 1 [AV.esl] [(0, 1, t 46)]), Op2.mk (some 48) none (app 1 24 (t 42) (t 47)), Op2.mk (some 7)
  none (mov (t 48))]) skip))) skip))).seq (ops 0 [Op2.mk (some 19) none (mov (t 9)), Op2.mk (some 20) none (bin BinOp.add false false (t 19)
  (c (AV.int IntKind.i64 (1)))), Op2.mk (some 9) none (mov (t 20))]))).loop)).seq ((ops 0 [Op2.mk (some 49) none (mov (t 6)),
  Op2.mk (some 50) none (mov (t 7)), Op2.mk (some 4) none (mov (t 49)), Op2.mk (some 5) none (mov (t 50))]).seq ret))))))
theorem is87 : Is Try.prog 87 b87 := Is.mk' Try.func87 (by kernel_rfl)

/-- slices.IndexFunc[[]int,int] -/
def b88 : F2 := (F2.mk 19 [RV.t 4] ((ops 0 [Op2.mk (some 4) none (mov (c (AV.int IntKind.i64 (0))))]).seq (((ops 0 [Op2.mk (some 6)
  none (mov (t 0)), Op2.mk (some 7) none (lenS (t 6)), Op2.mk (some 8) none (mov (c (AV.int IntKind.i64 (0))))]).seq (block 0 ((ops 0 [Op2.mk (some 9)
  none (bin BinOp.lss false false (t 8) (t 7))]).seq ((C2.cond (t 9) skip (exit 0)).seq ((block 1 ((ops 0 [Op2.mk (some 10)
  none (mov (t 8)), Op2.mk (some 5) none (mov (t 10))]).seq ((ops 0 [Op2.mk (some 11) none (mov (t 1)), Op2.mk (some 12)
  none (mov (t 0)), Op2.mk (some 13) none (mov (t 5)), Op2.mk (some 14) none (ixaS 1 (t 12) (t 13)), Op2.mk (some 15)
  none (ld1 (t 14)), Op2.mk (some 16) none (call (t 11) [t 15])]).seq (C2.cond (t 16) ((ops 0 [Op2.mk (some 17) none (mov (t 5)),
  Op2.mk (some 4) none (mov (t 17))]).seq ret) skip)))).seq (ops 0 [Op2.mk (some 18) none (bin BinOp.add false false (t 8)
  (c (AV.int IntKind.i64 (1)))), Op2.mk (some 8) none (mov (t 18))])))).loop)).seq ((ops 0 [Op2.mk (some 4) none (mov (c (AV.int IntKind.i64 (-1))))]).seq ret))))
theorem is88 : Is Try.prog 88 b88 := Is.mk' Try.func88 (by kernel_rfl)

/-- roundtable/library.agreement$1 -/
def b89 : F2 := (F2.mk 16 [RV.t 5] ((ops 0 [Op2.mk (some 5) none (mov (c (AV.bool false)))]).seq ((ops 1 [Op2.mk (some 6) none (mov (t 1)),
  Op2.mk (some 7) none (call (c (AV.func 48 [])) [t 6]), Op2.mk (some 8) none (ld1 (t 2)), Op2.mk (some 9) none (mx (t 8)
  [c (AV.int IntKind.i64 (1))]), Op2.mk (some 10) none (bin BinOp.leq false false (t 7) (t 9)), Op2.mk (some 11) none (mov (t 10)),
  Op2.mk (some 12) (some (11, true)) (mov (t 0)), Op2.mk (some 13) (some (11, true)) (mov (t 1)), Op2.mk (some 14)
  (some (11, true)) (call (c (AV.func 90 [])) [t 12, t 13]), Op2.mk (some 15) none (pick (t 11) (t 14) (c (AV.bool false))),
  Op2.mk (some 5) none (mov (t 15))]).seq ret)))
theorem is89 : Is Try.prog 89 b89 := Is.mk' Try.func89 (by kernel_rfl)

/-- roundtable/library.chosen -/
def b90 : F2 := (F2.mk 9 [RV.t 4] ((ops 0 [Op2.mk (some 2) none (box (t 0)), Op2.mk (some 4) none (mov (c (AV.bool false)))]).seq ((ops 0 [Op2.mk (some 5)
  none (mov (t 1)), Op2.mk (some 6) none (mkfn 117 [t 2]), Op2.mk (some 7) none (call (c (AV.func 67 [])) [t 5, t 6]),
  Op2.mk (some 8) none (un UnOp.not (t 7)), Op2.mk (some 4) none (mov (t 8))]).seq ret)))
theorem is90 : Is Try.prog 90 b90 := Is.mk' Try.func90 (by kernel_rfl)

/-- roundtable/library.tasks$1 -/
def b91 : F2 := (F2.mk 13 [RV.cn 6 4, RV.t 7] ((ops 0 [Op2.mk (some 6) none (alloc (AV.agg [AV.int IntKind.i64 (0), AV.int IntKind.i64 (0),
  AV.int IntKind.i64 (0), AV.esl])), Op2.mk (some 7) none (mov (c (AV.int IntKind.i64 (0))))]).seq ((ops 0 [Op2.mk (some 8)
  none (mov (t 0)), Op2.mk (some 9) none (mov (t 1)), Op2.mk (some 10) none (call (c (AV.func 11 [])) [t 8, t 9]),
  Op2.mk (some 11) none (ext (t 10) 0), Op2.mk (some 12) none (ext (t 10) 1), Op2.mk none none (Ins.st 4 (t 6) (t 11)),
  Op2.mk (some 7) none (mov (t 12))]).seq ret)))
theorem is91 : Is Try.prog 91 b91 := Is.mk' Try.func91 (by kernel_rfl)

/-- roundtable/library.tasks$2 -/
def b92 : F2 := (F2.mk 12 [RV.cn 6 4, RV.t 7] ((ops 0 [Op2.mk (some 6) none (alloc (AV.agg [AV.int IntKind.i64 (0), AV.int IntKind.i64 (0),
  AV.int IntKind.i64 (0), AV.esl])), Op2.mk (some 7) none (mov (c (AV.int IntKind.i64 (0))))]).seq ((ops 0 [Op2.mk (some 8)
  none (mov (t 0)), Op2.mk (some 9) none (call (c (AV.func 23 [])) [t 8]), Op2.mk (some 10) none (ext (t 9) 0), Op2.mk (some 11)
  none (ext (t 9) 1), Op2.mk none none (Ins.st 4 (t 6) (t 10)), Op2.mk (some 7) none (mov (t 11))]).seq ret)))
theorem is92 : Is Try.prog 92 b92 := Is.mk' Try.func92 (by kernel_rfl)

/-- roundtable/library.tasks$3 -/
def b93 : F2 := (F2.mk 13 [RV.cn 6 4, RV.t 7] ((ops 0 [Op2.mk (some 6) none (alloc (AV.agg [AV.int IntKind.i64 (0), AV.int IntKind.i64 (0),
  AV.int IntKind.i64 (0), AV.esl])), Op2.mk (some 7) none (mov (c (AV.int IntKind.i64 (0))))]).seq ((ops 0 [Op2.mk (some 8)
  none (mov (t 0)), Op2.mk (some 9) none (mov (t 1)), Op2.mk (some 10) none (call (c (AV.func 16 [])) [t 8, t 9]),
  Op2.mk (some 11) none (ext (t 10) 0), Op2.mk (some 12) none (ext (t 10) 1), Op2.mk none none (Ins.st 4 (t 6) (t 11)),
  Op2.mk (some 7) none (mov (t 12))]).seq ret)))
theorem is93 : Is Try.prog 93 b93 := Is.mk' Try.func93 (by kernel_rfl)

/-- roundtable/library.tasks$4 -/
def b94 : F2 := (F2.mk 13 [RV.cn 6 4, RV.t 7] ((ops 0 [Op2.mk (some 6) none (alloc (AV.agg [AV.int IntKind.i64 (0), AV.int IntKind.i64 (0),
  AV.int IntKind.i64 (0), AV.esl])), Op2.mk (some 7) none (mov (c (AV.int IntKind.i64 (0))))]).seq ((ops 0 [Op2.mk (some 8)
  none (mov (t 0)), Op2.mk (some 9) none (mov (t 1)), Op2.mk (some 10) none (call (c (AV.func 13 [])) [t 8, t 9]),
  Op2.mk (some 11) none (ext (t 10) 0), Op2.mk (some 12) none (ext (t 10) 1), Op2.mk none none (Ins.st 4 (t 6) (t 11)),
  Op2.mk (some 7) none (mov (t 12))]).seq ret)))
theorem is94 : Is Try.prog 94 b94 := Is.mk' Try.func94 (by kernel_rfl)

/-- roundtable/library.tasks$5 -/
def b95 : F2 := (F2.mk 12 [RV.cn 6 4, RV.t 7] ((ops 0 [Op2.mk (some 6) none (alloc (AV.agg [AV.int IntKind.i64 (0), AV.int IntKind.i64 (0),
  AV.int IntKind.i64 (0), AV.esl])), Op2.mk (some 7) none (mov (c (AV.int IntKind.i64 (0))))]).seq ((ops 0 [Op2.mk (some 8)
  none (mov (t 0)), Op2.mk (some 9) none (call (c (AV.func 38 [])) [t 8]), Op2.mk (some 10) none (ext (t 9) 0), Op2.mk (some 11)
  none (ext (t 9) 1), Op2.mk none none (Ins.st 4 (t 6) (t 10)), Op2.mk (some 7) none (mov (t 11))]).seq ret)))
theorem is95 : Is Try.prog 95 b95 := Is.mk' Try.func95 (by kernel_rfl)

/-- roundtable/library.each$1 -/
def b113 : F2 := (F2.mk 38 [] ((ops 0 [Op2.mk (some 6) none (ld1 (t 1)), Op2.mk (some 7) none (mks 1 8 [AV.int IntKind.i64 (0)] (t 6)
  (t 6)), Op2.mk (some 4) none (mov (t 7))]).seq (block 0 (block 1 (((ops 0 [Op2.mk (some 8) none (mov (t 0)), Op2.mk (some 9)
  none (mov (t 4)), Op2.mk (some 10) none (call (t 8) [t 9]), Op2.mk (some 11) none (un UnOp.not (t 10))]).seq (C2.cond (t 11)
  ret skip)).seq ((ops 0 [Op2.mk (some 12) none (ld1 (t 1)), Op2.mk (some 13) none (bin BinOp.sub false false (t 12)
  (c (AV.int IntKind.i64 (1)))), Op2.mk (some 5) none (mov (t 13))]).seq ((block 2 (((ops 1 [Op2.mk (some 14) none (mov (t 5)),
  Op2.mk (some 15) none (bin BinOp.geq false false (t 14) (c (AV.int IntKind.i64 (0)))), Op2.mk (some 16) none (mov (t 15)),
  Op2.mk (some 17) (some (16, true)) (mov (t 4)), Op2.mk (some 18) (some (16, true)) (mov (t 5)), Op2.mk (some 19)
  (some (16, true)) (ixaS 1 (t 17) (t 18)), Op2.mk (some 20) (some (16, true)) (ld1 (t 19)), Op2.mk (some 21) (some (16,
  true)) (ld1 (t 2)), Op2.mk (some 22) (some (16, true)) (bin BinOp.sub false false (t 21) (c (AV.int IntKind.i64 (1)))),
  Op2.mk (some 23) (some (16, true)) (bin BinOp.eql false false (t 20) (t 22)), Op2.mk (some 24) none (pick (t 16)
  (t 23) (c (AV.bool false)))]).seq (C2.cond (t 24) skip (exit 2))).seq (block 3 ((ops 0 [Op2.mk (some 25) none (mov (t 4)),
  Op2.mk (some 26) none (mov (t 5)), Op2.mk (some 27) none (ixaS 1 (t 25) (t 26)), Op2.mk none none (Ins.st 1 (t 27)
  (c (AV.int IntKind.i64 (0))))]).seq (ops 0 [Op2.mk (some 28) none (mov (t 5)), Op2.mk (some 29) none (bin BinOp.sub false false (t 28)
  (c (AV.int IntKind.i64 (1)))), Op2.mk (some 5) none (mov (t 29))])))).loop).seq (((ops 0 [Op2.mk (some 30) none (mov (t 5)),
  Op2.mk (some 31) none (bin BinOp.lss false false (t 30) (c (AV.int IntKind.i64 (0))))]).seq (C2.cond (t 31) ret skip)).seq (ops 0 [Op2.mk (some 32)
  none (mov (t 4)), Op2.mk (some 33) none (mov (t 5)), Op2.mk (some 34) none (ixaS 1 (t 32) (t 33)), Op2.mk (some 35)
  none (ld1 (t 34)), Op2.mk (some 36) none (bin BinOp.add false false (t 35) (c (AV.int IntKind.i64 (1)))), Op2.mk (some 37)
  none (ixaS 1 (t 32) (t 33)), Op2.mk none none (Ins.st 1 (t 37) (t 36))])))))).loop)))
theorem is113 : Is Try.prog 113 b113 := Is.mk' Try.func113 (by kernel_rfl)

/-- roundtable/roundtableref12.different -/
def b114 : F2 := (F2.mk 23 [RV.t 2] ((ops 0 [Op2.mk (some 2) none (mov (c (AV.int IntKind.i64 (0))))]).seq ((ops 0 [Op2.mk (some 3)
  none (mov (c (AV.int IntKind.i64 (0))))]).seq (((ops 0 [Op2.mk (some 4) none (mov (c (AV.int IntKind.i64 (0))))]).seq (block 0 (((ops 0 [Op2.mk (some 5)
  none (mov (t 4)), Op2.mk (some 6) none (mov (t 0)), Op2.mk (some 7) none (lenS (t 6)), Op2.mk (some 8) none (bin BinOp.lss false false (t 5)
  (t 7))]).seq (C2.cond (t 8) skip (exit 0))).seq ((block 1 ((ops 1 [Op2.mk (some 11) none (mov (t 0)), Op2.mk (some 12)
  none (mov (t 4)), Op2.mk (some 13) none (sls 1 (t 11) none (some (t 12)) none), Op2.mk (some 14) none (mov (t 0)),
  Op2.mk (some 15) none (mov (t 4)), Op2.mk (some 16) none (ixaS 1 (t 14) (t 15)), Op2.mk (some 17) none (ld1 (t 16)),
  Op2.mk (some 18) none (call (c (AV.func 129 [])) [t 13, t 17]), Op2.mk (some 19) none (un UnOp.not (t 18))]).seq (C2.cond (t 19)
  (ops 0 [Op2.mk (some 20) none (mov (t 3)), Op2.mk (some 21) none (bin BinOp.add false false (t 20) (c (AV.int IntKind.i64 (1)))),
  Op2.mk (some 3) none (mov (t 21))]) skip))).seq (ops 0 [Op2.mk (some 9) none (mov (t 4)), Op2.mk (some 10) none (bin BinOp.add false false (t 9)
  (c (AV.int IntKind.i64 (1)))), Op2.mk (some 4) none (mov (t 10))]))).loop)).seq ((ops 0 [Op2.mk (some 22) none (mov (t 3)),
  Op2.mk (some 2) none (mov (t 22))]).seq ret)))))
theorem is114 : Is Try.prog 114 b114 := Is.mk' Try.func114 (by kernel_rfl)

/-- roundtable/roundtableref12.Allowed -/
def b115 : F2 := (F2.mk 78 [RV.t 6] ((ops 0 [Op2.mk (some 3) none (box (t 0)), Op2.mk (some 6) none (mov (c (AV.bool false)))]).seq (((ops 0 [Op2.mk (some 9)
  none (fa 0 (t 3)), Op2.mk (some 10) none (ld1 (t 9))]).seq (block 0 ((ops 0 [Op2.mk (some 12) none (bin BinOp.eql false false (t 10)
  (c (AV.int IntKind.i64 (0)))), Op2.mk (some 11) none (mov (t 12))]).seq (C2.cond (t 11) ((ops 0 [Op2.mk (some 13)
  none (ldn 5 (t 3)), Op2.mk (some 14) none (mov (t 1)), Op2.mk (some 15) none (mov (t 2)), Op2.mk (some 16) none (call (c (AV.func 130 []))
  [t 13, t 14, t 15]), Op2.mk (some 6) none (mov (t 16))]).seq ret) ((ops 0 [Op2.mk (some 18) none (bin BinOp.eql false false (t 10)
  (c (AV.int IntKind.i64 (1)))), Op2.mk (some 17) none (mov (t 18))]).seq (C2.cond (t 17) ((ops 0 [Op2.mk (some 19)
  none (mov (t 2)), Op2.mk (some 20) none (call (c (AV.func 131 [])) [t 19, c (AV.int IntKind.i64 (0))]), Op2.mk (some 21)
  none (mov (t 20)), Op2.mk (some 22) (some (21, false)) (mov (t 2)), Op2.mk (some 23) (some (21, false)) (call (c (AV.func 131 []))
  [t 22, c (AV.int IntKind.i64 (1))]), Op2.mk (some 24) (some (21, false)) (mov (t 23)), Op2.mk (some 25) (some (24,
  true)) (mov (t 1)), Op2.mk (some 26) (some (24, true)) (call (c (AV.func 129 [])) [t 25, c (AV.int IntKind.i64 (0))]),
  Op2.mk (some 27) (some (24, true)) (un UnOp.not (t 26)), Op2.mk (some 28) (some (21, false)) (pick (t 24) (t 27)
  (c (AV.bool false))), Op2.mk (some 29) none (pick (t 21) (c (AV.bool true)) (t 28)), Op2.mk (some 6) none (mov (t 29))]).seq ret)
  ((ops 0 [Op2.mk (some 31) none (bin BinOp.eql false false (t 10) (c (AV.int IntKind.i64 (2)))), Op2.mk (some 30)
  none (mov (t 31))]).seq (C2.cond (t 30) ((ops 0 [Op2.mk (some 32) none (mov (t 2)), Op2.mk (some 33) none (call (c (AV.func 114 []))
  [t 32]), Op2.mk (some 34) none (bin BinOp.eql false false (t 33) (c (AV.int IntKind.i64 (1)))), Op2.mk (some 35)
  none (mov (t 34)), Op2.mk (some 36) (some (35, true)) (mov (t 1)), Op2.mk (some 37) (some (35, true)) (mov (t 2)),
  Op2.mk (some 38) (some (35, true)) (call (c (AV.func 132 [])) [t 36, t 37]), Op2.mk (some 39) none (pick (t 35)
  (t 38) (c (AV.bool false))), Op2.mk (some 6) none (mov (t 39))]).seq ret) ((ops 0 [Op2.mk (some 41) none (bin BinOp.eql false false (t 10)
  (c (AV.int IntKind.i64 (3)))), Op2.mk (some 40) none (mov (t 41))]).seq (C2.cond (t 40) ((ops 0 [Op2.mk (some 42)
  none (ldn 5 (t 3)), Op2.mk (some 43) none (mov (t 2)), Op2.mk (some 44) none (call (c (AV.func 133 [])) [t 42, t 43]),
  Op2.mk (some 6) none (mov (t 44))]).seq ret) ((ops 0 [Op2.mk (some 46) none (bin BinOp.eql false false (t 10) (c (AV.int IntKind.i64 (4)))),
  Op2.mk (some 45) none (mov (t 46))]).seq (C2.cond (t 45) ((ops 0 [Op2.mk (some 7) none (mov (c (AV.int IntKind.i64 (0))))]).seq (((ops 0 [Op2.mk (some 8)
  none (mov (c (AV.int IntKind.i64 (0))))]).seq (block 1 (((ops 0 [Op2.mk (some 47) none (mov (t 8)), Op2.mk (some 48)
  none (mov (t 2)), Op2.mk (some 49) none (lenS (t 48)), Op2.mk (some 50) none (bin BinOp.lss false false (t 47) (t 49))]).seq (C2.cond (t 50)
  skip (exit 1))).seq ((block 2 (ops 0 [Op2.mk (some 53) none (mov (t 7)), Op2.mk (some 54) none (mov (t 2)), Op2.mk (some 55)
  none (mov (t 8)), Op2.mk (some 56) none (ixaS 1 (t 54) (t 55)), Op2.mk (some 57) none (ld1 (t 56)), Op2.mk (some 58)
  none (bin BinOp.add false false (t 53) (t 57)), Op2.mk (some 7) none (mov (t 58))])).seq (ops 0 [Op2.mk (some 51)
  none (mov (t 8)), Op2.mk (some 52) none (bin BinOp.add false false (t 51) (c (AV.int IntKind.i64 (1)))), Op2.mk (some 8)
  none (mov (t 52))]))).loop)).seq ((ops 0 [Op2.mk (some 59) none (mov (t 7)), Op2.mk (some 60) none (bin BinOp.eql false false (t 59)
  (c (AV.int IntKind.i64 (1)))), Op2.mk (some 6) none (mov (t 60))]).seq ret))) ((ops 0 [Op2.mk (some 62) none (bin BinOp.eql false false (t 10)
  (c (AV.int IntKind.i64 (5)))), Op2.mk (some 61) none (mov (t 62))]).seq (C2.cond (t 61) ((ops 0 [Op2.mk (some 63)
  none (mov (t 2)), Op2.mk (some 64) none (call (c (AV.func 114 [])) [t 63]), Op2.mk (some 65) none (mov (t 2)), Op2.mk (some 66)
  none (lenS (t 65)), Op2.mk (some 67) none (bin BinOp.eql false false (t 64) (t 66)), Op2.mk (some 6) none (mov (t 67))]).seq ret)
  skip)))))))))))))).seq ((ops 1 [Op2.mk (some 68) none (mov (t 2)), Op2.mk (some 69) none (call (c (AV.func 114 []))
  [t 68]), Op2.mk (some 70) none (fa 4 (t 3)), Op2.mk (some 71) none (ld1 (t 70)), Op2.mk (some 72) none (bin BinOp.leq false false (t 69)
  (t 71)), Op2.mk (some 73) none (mov (t 72)), Op2.mk (some 74) (some (73, true)) (mov (t 1)), Op2.mk (some 75) (some (73,
  true)) (mov (t 2)), Op2.mk (some 76) (some (73, true)) (call (c (AV.func 132 [])) [t 74, t 75]), Op2.mk (some 77)
  none (pick (t 73) (t 76) (c (AV.bool false))), Op2.mk (some 6) none (mov (t 77))]).seq ret))))
theorem is115 : Is Try.prog 115 b115 := Is.mk' Try.func115 (by kernel_rfl)

/-- roundtable/roundtableref12.Calm -/
def b116 : F2 := (F2.mk 33 [RV.t 6] ((ops 0 [Op2.mk (some 3) none (box (t 0)), Op2.mk (some 6) none (mov (c (AV.bool false)))]).seq (((ops 0 [Op2.mk (some 7)
  none (fa 0 (t 3)), Op2.mk (some 8) none (ld1 (t 7))]).seq (block 0 ((ops 0 [Op2.mk (some 10) none (bin BinOp.eql false false (t 8)
  (c (AV.int IntKind.i64 (1)))), Op2.mk (some 9) none (mov (t 10))]).seq (C2.cond (t 9) ((ops 0 [Op2.mk (some 11)
  none (mov (t 1)), Op2.mk (some 12) none (call (c (AV.func 129 [])) [t 11, c (AV.int IntKind.i64 (0))]), Op2.mk (some 13)
  none (mov (t 12)), Op2.mk (some 14) (some (13, true)) (mov (t 2)), Op2.mk (some 15) (some (13, true)) (call (c (AV.func 131 []))
  [t 14, c (AV.int IntKind.i64 (0))]), Op2.mk (some 16) none (pick (t 13) (t 15) (c (AV.bool false))), Op2.mk (some 17)
  none (mov (t 16)), Op2.mk (some 18) (some (17, false)) (mov (t 1)), Op2.mk (some 19) (some (17, false)) (call (c (AV.func 129 []))
  [t 18, c (AV.int IntKind.i64 (0))]), Op2.mk (some 20) (some (17, false)) (un UnOp.not (t 19)), Op2.mk (some 21)
  (some (17, false)) (mov (t 20)), Op2.mk (some 22) (some (21, true)) (mov (t 2)), Op2.mk (some 23) (some (21, true))
  (call (c (AV.func 131 [])) [t 22, c (AV.int IntKind.i64 (1))]), Op2.mk (some 24) (some (17, false)) (pick (t 21)
  (t 23) (c (AV.bool false))), Op2.mk (some 25) none (pick (t 17) (c (AV.bool true)) (t 24)), Op2.mk (some 6) none (mov (t 25))]).seq ret)
  ((ops 0 [Op2.mk (some 27) none (bin BinOp.eql false false (t 8) (c (AV.int IntKind.i64 (3)))), Op2.mk (some 26)
  none (mov (t 27))]).seq (C2.cond (t 26) ((ops 0 [Op2.mk (some 28) none (mov (t 2)), Op2.mk (some 29) none (mov (t 1)),
  Op2.mk (some 30) none (ixaS 1 (t 29) (c (AV.int IntKind.i64 (0)))), Op2.mk (some 31) none (ld1 (t 30)), Op2.mk (some 32)
  none (call (c (AV.func 131 [])) [t 28, t 31]), Op2.mk (some 6) none (mov (t 32))]).seq ret) skip)))))).seq ((ops 0 [Op2.mk (some 6)
  none (mov (c (AV.bool false)))]).seq ret))))
theorem is116 : Is Try.prog 116 b116 := Is.mk' Try.func116 (by kernel_rfl)

/-- roundtable/library.chosen$1 -/
def b117 : F2 := (F2.mk 8 [RV.t 3] ((ops 0 [Op2.mk (some 3) none (mov (c (AV.bool false)))]).seq ((ops 0 [Op2.mk (some 4) none (ld1 (t 1)),
  Op2.mk (some 5) none (mov (t 0)), Op2.mk (some 6) none (call (c (AV.func 28 [])) [t 4, t 5]), Op2.mk (some 7) none (un UnOp.not (t 6)),
  Op2.mk (some 3) none (mov (t 7))]).seq ret)))
theorem is117 : Is Try.prog 117 b117 := Is.mk' Try.func117 (by kernel_rfl)

/-- roundtable/roundtableref12.occurs -/
def b129 : F2 := (F2.mk 18 [RV.t 4] ((ops 0 [Op2.mk (some 4) none (mov (c (AV.bool false)))]).seq (((ops 0 [Op2.mk (some 5) none (mov (c (AV.int IntKind.i64 (0))))]).seq (block 0 (((ops 0 [Op2.mk (some 6)
  none (mov (t 5)), Op2.mk (some 7) none (mov (t 0)), Op2.mk (some 8) none (lenS (t 7)), Op2.mk (some 9) none (bin BinOp.lss false false (t 6)
  (t 8))]).seq (C2.cond (t 9) skip (exit 0))).seq ((block 1 ((ops 0 [Op2.mk (some 12) none (mov (t 0)), Op2.mk (some 13)
  none (mov (t 5)), Op2.mk (some 14) none (ixaS 1 (t 12) (t 13)), Op2.mk (some 15) none (ld1 (t 14)), Op2.mk (some 16)
  none (mov (t 1)), Op2.mk (some 17) none (bin BinOp.eql false false (t 15) (t 16))]).seq (C2.cond (t 17) ((ops 0 [Op2.mk (some 4)
  none (mov (c (AV.bool true)))]).seq ret) skip))).seq (ops 0 [Op2.mk (some 10) none (mov (t 5)), Op2.mk (some 11)
  none (bin BinOp.add false false (t 10) (c (AV.int IntKind.i64 (1)))), Op2.mk (some 5) none (mov (t 11))]))).loop)).seq ((ops 0 [Op2.mk (some 4)
  none (mov (c (AV.bool false)))]).seq ret))))
theorem is129 : Is Try.prog 129 b129 := Is.mk' Try.func129 (by kernel_rfl)

/-- roundtable/roundtableref12.near -/
def b130 : F2 := (F2.mk 22 [RV.t 6] ((ops 0 [Op2.mk (some 3) none (box (t 0)), Op2.mk (some 6) none (mov (c (AV.bool false)))]).seq (((ops 0 [Op2.mk (some 7)
  none (mov (t 1)), Op2.mk (some 8) none (call (c (AV.func 114 [])) [t 7]), Op2.mk (some 9) none (bin BinOp.eql false false (t 8)
  (c (AV.int IntKind.i64 (1))))]).seq (C2.cond (t 9) ((ops 1 [Op2.mk (some 10) none (mov (t 2)), Op2.mk (some 11)
  none (mov (t 1)), Op2.mk (some 12) none (ixaS 1 (t 11) (c (AV.int IntKind.i64 (0)))), Op2.mk (some 13) none (ld1 (t 12)),
  Op2.mk (some 14) none (fa 3 (t 3)), Op2.mk (some 15) none (ld1 (t 14)), Op2.mk (some 16) none (bin BinOp.sub false false (t 15)
  (c (AV.int IntKind.i64 (1)))), Op2.mk (some 17) none (bin BinOp.mul false false (t 13) (t 16)), Op2.mk (some 18)
  none (call (c (AV.func 131 [])) [t 10, t 17]), Op2.mk (some 6) none (mov (t 18))]).seq ret) skip)).seq ((ops 0 [Op2.mk (some 19)
  none (mov (t 2)), Op2.mk (some 20) none (call (c (AV.func 148 [])) [t 19]), Op2.mk (some 21) none (bin BinOp.leq false false (t 20)
  (c (AV.int IntKind.i64 (1)))), Op2.mk (some 6) none (mov (t 21))]).seq ret))))
theorem is130 : Is Try.prog 130 b130 := Is.mk' Try.func130 (by kernel_rfl)

/-- roundtable/roundtableref12.all -/
def b131 : F2 := (F2.mk 15 [RV.t 4] ((ops 0 [Op2.mk (some 4) none (mov (c (AV.bool false)))]).seq ((ops 0 [Op2.mk (some 5) none (mov (t 0)),
  Op2.mk (some 6) none (call (c (AV.func 114 [])) [t 5]), Op2.mk (some 7) none (bin BinOp.eql false false (t 6) (c (AV.int IntKind.i64 (1)))),
  Op2.mk (some 8) none (mov (t 7)), Op2.mk (some 9) (some (8, true)) (mov (t 0)), Op2.mk (some 10) (some (8, true))
  (ixaS 1 (t 9) (c (AV.int IntKind.i64 (0)))), Op2.mk (some 11) (some (8, true)) (ld1 (t 10)), Op2.mk (some 12) (some (8,
  true)) (mov (t 1)), Op2.mk (some 13) (some (8, true)) (bin BinOp.eql false false (t 11) (t 12)), Op2.mk (some 14)
  none (pick (t 8) (t 13) (c (AV.bool false))), Op2.mk (some 4) none (mov (t 14))]).seq ret)))
theorem is131 : Is Try.prog 131 b131 := Is.mk' Try.func131 (by kernel_rfl)

/-- roundtable/roundtableref12.chosen -/
def b132 : F2 := (F2.mk 19 [RV.t 4] ((ops 0 [Op2.mk (some 4) none (mov (c (AV.bool false)))]).seq (((ops 0 [Op2.mk (some 5) none (mov (c (AV.int IntKind.i64 (0))))]).seq (block 0 (((ops 0 [Op2.mk (some 6)
  none (mov (t 5)), Op2.mk (some 7) none (mov (t 1)), Op2.mk (some 8) none (lenS (t 7)), Op2.mk (some 9) none (bin BinOp.lss false false (t 6)
  (t 8))]).seq (C2.cond (t 9) skip (exit 0))).seq ((block 1 ((ops 0 [Op2.mk (some 12) none (mov (t 0)), Op2.mk (some 13)
  none (mov (t 1)), Op2.mk (some 14) none (mov (t 5)), Op2.mk (some 15) none (ixaS 1 (t 13) (t 14)), Op2.mk (some 16)
  none (ld1 (t 15)), Op2.mk (some 17) none (call (c (AV.func 129 [])) [t 12, t 16]), Op2.mk (some 18) none (un UnOp.not (t 17))]).seq (C2.cond (t 18)
  ((ops 0 [Op2.mk (some 4) none (mov (c (AV.bool false)))]).seq ret) skip))).seq (ops 0 [Op2.mk (some 10) none (mov (t 5)),
  Op2.mk (some 11) none (bin BinOp.add false false (t 10) (c (AV.int IntKind.i64 (1)))), Op2.mk (some 5) none (mov (t 11))]))).loop)).seq ((ops 0 [Op2.mk (some 4)
  none (mov (c (AV.bool true)))]).seq ret))))
theorem is132 : Is Try.prog 132 b132 := Is.mk' Try.func132 (by kernel_rfl)

/-- roundtable/roundtableref12.honest -/
def b133 : F2 := (F2.mk 45 [RV.t 4] ((ops 0 [Op2.mk (some 2) none (box (t 0)), Op2.mk (some 4) none (mov (c (AV.bool false)))]).seq (((ops 0 [Op2.mk (some 5)
  none (mov (c (AV.int IntKind.i64 (0))))]).seq (block 0 (((ops 0 [Op2.mk (some 7) none (mov (t 5)), Op2.mk (some 8)
  none (mov (t 1)), Op2.mk (some 9) none (lenS (t 8)), Op2.mk (some 10) none (bin BinOp.lss false false (t 7) (t 9))]).seq (C2.cond (t 10)
  skip (exit 0))).seq ((block 1 ((ops 0 [Op2.mk (some 6) none (mov (c (AV.int IntKind.i64 (0))))]).seq (block 2 (((ops 0 [Op2.mk (some 13)
  none (mov (t 6)), Op2.mk (some 14) none (mov (t 5)), Op2.mk (some 15) none (bin BinOp.lss false false (t 13) (t 14))]).seq (C2.cond (t 15)
  skip (exit 2))).seq ((block 3 ((ops 1 [Op2.mk (some 18) none (mov (t 1)), Op2.mk (some 19) none (mov (t 5)), Op2.mk (some 20)
  none (ixaS 1 (t 18) (t 19)), Op2.mk (some 21) none (ld1 (t 20)), Op2.mk (some 22) none (fa 2 (t 2)), Op2.mk (some 23)
  none (ld1 (t 22)), Op2.mk (some 24) none (bin BinOp.lss false false (t 21) (t 23)), Op2.mk (some 25) none (mov (t 24)),
  Op2.mk (some 26) (some (25, true)) (mov (t 1)), Op2.mk (some 27) (some (25, true)) (mov (t 6)), Op2.mk (some 28)
  (some (25, true)) (ixaS 1 (t 26) (t 27)), Op2.mk (some 29) (some (25, true)) (ld1 (t 28)), Op2.mk (some 30) (some (25,
  true)) (fa 2 (t 2)), Op2.mk (some 31) (some (25, true)) (ld1 (t 30)), Op2.mk (some 32) (some (25, true)) (bin BinOp.lss false false (t 29)
  (t 31)), Op2.mk (some 33) none (pick (t 25) (t 32) (c (AV.bool false))), Op2.mk (some 34) none (mov (t 33)), Op2.mk (some 35)
  (some (34, true)) (mov (t 1)), Op2.mk (some 36) (some (34, true)) (mov (t 5)), Op2.mk (some 37) (some (34, true))
  (ixaS 1 (t 35) (t 36)), Op2.mk (some 38) (some (34, true)) (ld1 (t 37)), Op2.mk (some 39) (some (34, true)) (mov (t 1)),
  Op2.mk (some 40) (some (34, true)) (mov (t 6)), Op2.mk (some 41) (some (34, true)) (ixaS 1 (t 39) (t 40)), Op2.mk (some 42)
  (some (34, true)) (ld1 (t 41)), Op2.mk (some 43) (some (34, true)) (bin BinOp.neq false false (t 38) (t 42)), Op2.mk (some 44)
  none (pick (t 34) (t 43) (c (AV.bool false)))]).seq (C2.cond (t 44) ((ops 0 [Op2.mk (some 4) none (mov (c (AV.bool false)))]).seq ret)
  skip))).seq (ops 0 [Op2.mk (some 16) none (mov (t 6)), Op2.mk (some 17) none (bin BinOp.add false false (t 16) (c (AV.int IntKind.i64 (1)))),
  Op2.mk (some 6) none (mov (t 17))]))).loop))).seq (ops 0 [Op2.mk (some 11) none (mov (t 5)), Op2.mk (some 12) none (bin BinOp.add false false (t 11)
  (c (AV.int IntKind.i64 (1)))), Op2.mk (some 5) none (mov (t 12))]))).loop)).seq ((ops 0 [Op2.mk (some 4) none (mov (c (AV.bool true)))]).seq ret))))
theorem is133 : Is Try.prog 133 b133 := Is.mk' Try.func133 (by kernel_rfl)

/-- roundtable/roundtableref12.spread -/
def b148 : F2 := (F2.mk 33 [RV.t 2] ((ops 0 [Op2.mk (some 2) none (mov (c (AV.int IntKind.i64 (0))))]).seq ((ops 1 [Op2.mk (some 6)
  none (mov (t 0)), Op2.mk (some 7) none (ixaS 1 (t 6) (c (AV.int IntKind.i64 (0)))), Op2.mk (some 8) none (ld1 (t 7)),
  Op2.mk (some 9) none (mov (t 0)), Op2.mk (some 10) none (ixaS 1 (t 9) (c (AV.int IntKind.i64 (0)))), Op2.mk (some 11)
  none (ld1 (t 10)), Op2.mk (some 3) none (mov (t 8)), Op2.mk (some 4) none (mov (t 11))]).seq (((ops 0 [Op2.mk (some 5)
  none (mov (c (AV.int IntKind.i64 (0))))]).seq (block 0 (((ops 0 [Op2.mk (some 12) none (mov (t 5)), Op2.mk (some 13)
  none (mov (t 0)), Op2.mk (some 14) none (lenS (t 13)), Op2.mk (some 15) none (bin BinOp.lss false false (t 12) (t 14))]).seq (C2.cond (t 15)
  skip (exit 0))).seq ((block 1 (ops 1 [Op2.mk (some 18) none (mov (t 3)), Op2.mk (some 19) none (mov (t 0)), Op2.mk (some 20)
  none (mov (t 5)), Op2.mk (some 21) none (ixaS 1 (t 19) (t 20)), Op2.mk (some 22) none (ld1 (t 21)), Op2.mk (some 23)
  none (mn (t 18) [t 22]), Op2.mk (some 24) none (mov (t 4)), Op2.mk (some 25) none (mov (t 0)), Op2.mk (some 26)
  none (mov (t 5)), Op2.mk (some 27) none (ixaS 1 (t 25) (t 26)), Op2.mk (some 28) none (ld1 (t 27)), Op2.mk (some 29)
  none (mx (t 24) [t 28]), Op2.mk (some 3) none (mov (t 23)), Op2.mk (some 4) none (mov (t 29))])).seq (ops 0 [Op2.mk (some 16)
  none (mov (t 5)), Op2.mk (some 17) none (bin BinOp.add false false (t 16) (c (AV.int IntKind.i64 (1)))), Op2.mk (some 5)
  none (mov (t 17))]))).loop)).seq ((ops 0 [Op2.mk (some 30) none (mov (t 4)), Op2.mk (some 31) none (mov (t 3)),
  Op2.mk (some 32) none (bin BinOp.sub false false (t 30) (t 31)), Op2.mk (some 2) none (mov (t 32))]).seq ret)))))
theorem is148 : Is Try.prog 148 b148 := Is.mk' Try.func148 (by kernel_rfl)


end Go.Proofs.Ytcbkggfipdldaaa
